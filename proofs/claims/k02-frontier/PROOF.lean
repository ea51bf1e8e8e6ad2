import PyProof.Rows.All
import Wide.All
import OpenK.AllK
import Wide.FinOn
import HandS.ForMost
import HandS.WideBits
import HandS.IsInst
import HandS.Codes
import HandS.Evl
import HandS.Nested
import HandS.EndTab
import HandS.TupLen
import HandS.Conv
import HandS.Rev
import HandS.ForExc
import HandS.ExcIs
import HandS.TryElse
import HandS.Style
import PySem.Challenge.RW_growbook_k02_frontier

set_option Elab.async false
set_option linter.all false
set_option maxRecDepth 100000
set_option maxHeartbeats 4000000
namespace My
open PySem PySem.Spec PyProof.Rows L2
open C8 (Cal Met Mak CalAt pe_c pe_mk pe_mt pe_mt0)

/-! ### the text by places -/
def inDef (s : Stmt) (j : Nat) : Stmt := (defBody s).getD j (.Pass ⟨0, 0, 0, 0⟩)
def topS (i : Nat) : Stmt := PySem.Challenge.pw_growbook_k02_frontier.main.body.getD i (.Pass ⟨0, 0, 0, 0⟩)
abbrev s_none_seal : Stmt := topS 1
abbrev N_none_seal : List Str := ["seal"]
theorem sc_none_seal : FnScope ["seal"] ["seal"] (defScope s_none_seal) := ⟨rfl, rfl, rfl, by decide +kernel, rfl, by decide +kernel, by decide +kernel⟩
abbrev s_pair_seal : Stmt := topS 2
abbrev N_pair_seal : List Str := ["seal", "left", "right"]
theorem sc_pair_seal : FnScope ["seal", "left", "right"] ["seal", "left", "right"] (defScope s_pair_seal) := ⟨rfl, rfl, rfl, by decide +kernel, rfl, by decide +kernel, by decide +kernel⟩
abbrev s_Frontier___init__ : Stmt := inClass (topS 4) 0
abbrev N_Frontier___init__ : List Str := ["self", "seal"]
theorem sc_Frontier___init__ : FnScope ["self", "seal"] ["self", "seal"] (defScope s_Frontier___init__) := ⟨rfl, rfl, rfl, by decide +kernel, rfl, by decide +kernel, by decide +kernel⟩
abbrev s_Frontier_add : Stmt := inClass (topS 4) 1
abbrev N_Frontier_add : List Str := ["self", "leaf", "tops", "bits", "right", "left"]
theorem sc_Frontier_add : FnScope ["self", "leaf", "tops", "bits", "right", "left"] ["self", "leaf"] (defScope s_Frontier_add) := ⟨rfl, rfl, rfl, by decide +kernel, rfl, by decide +kernel, by decide +kernel⟩
abbrev s_Frontier_size : Stmt := inClass (topS 4) 2
abbrev N_Frontier_size : List Str := ["self"]
theorem sc_Frontier_size : FnScope ["self"] ["self"] (defScope s_Frontier_size) := ⟨rfl, rfl, rfl, by decide +kernel, rfl, by decide +kernel, by decide +kernel⟩
abbrev s_Frontier_kept : Stmt := inClass (topS 4) 3
abbrev N_Frontier_kept : List Str := ["self"]
theorem sc_Frontier_kept : FnScope ["self"] ["self"] (defScope s_Frontier_kept) := ⟨rfl, rfl, rfl, by decide +kernel, rfl, by decide +kernel, by decide +kernel⟩
abbrev s_Frontier_top : Stmt := inClass (topS 4) 4
abbrev N_Frontier_top : List Str := ["self", "whole", "left"]
theorem sc_Frontier_top : FnScope ["self", "whole", "left"] ["self"] (defScope s_Frontier_top) := ⟨rfl, rfl, rfl, by decide +kernel, rfl, by decide +kernel, by decide +kernel⟩
abbrev s__law_cell_at : Stmt := topS 6
abbrev N__law_cell_at : List Str := ["_law_script", "_law_k"]
theorem sc__law_cell_at : FnScope ["_law_script", "_law_k"] ["_law_script", "_law_k"] (defScope s__law_cell_at) := ⟨rfl, rfl, rfl, by decide +kernel, rfl, by decide +kernel, by decide +kernel⟩
abbrev s__law_plain : Stmt := topS 7
abbrev N__law_plain : List Str := ["_law_mark", "_law_one", "_law_two"]
theorem sc__law_plain : FnScope ["_law_mark", "_law_one", "_law_two"] ["_law_mark", "_law_one", "_law_two"] (defScope s__law_plain) := ⟨rfl, rfl, rfl, by decide +kernel, rfl, by decide +kernel, by decide +kernel⟩
abbrev s__law_turned : Stmt := topS 8
abbrev N__law_turned : List Str := ["_law_mark", "_law_one", "_law_two"]
theorem sc__law_turned : FnScope ["_law_mark", "_law_one", "_law_two"] ["_law_mark", "_law_one", "_law_two"] (defScope s__law_turned) := ⟨rfl, rfl, rfl, by decide +kernel, rfl, by decide +kernel, by decide +kernel⟩
abbrev s__law_numbering : Stmt := topS 9
abbrev N__law_numbering : List Str := ["_law_numbered", "_law_told"]
theorem sc__law_numbering : FnScope ["_law_numbered", "_law_told"] [] (defScope s__law_numbering) := ⟨rfl, rfl, rfl, by decide +kernel, rfl, by decide +kernel, by decide +kernel⟩
abbrev s__law_numbering__law_numbered : Stmt := inDef (topS 9) 1
abbrev N__law_numbering__law_numbered : List Str := ["_law_mark", "_law_one", "_law_two", "_law_told"]
abbrev s__law_seal_by : Stmt := topS 10
abbrev N__law_seal_by : List Str := ["_law_script", "_law_kind"]
theorem sc__law_seal_by : FnScope ["_law_script", "_law_kind"] ["_law_script"] (defScope s__law_seal_by) := ⟨rfl, rfl, rfl, by decide +kernel, rfl, by decide +kernel, by decide +kernel⟩
abbrev s__law_split : Stmt := topS 11
abbrev N__law_split : List Str := ["_law_size", "_law_k"]
theorem sc__law_split : FnScope ["_law_size", "_law_k"] ["_law_size"] (defScope s__law_split) := ⟨rfl, rfl, rfl, by decide +kernel, rfl, by decide +kernel, by decide +kernel⟩
abbrev s__law_top : Stmt := topS 12
abbrev N__law_top : List Str := ["_law_seal", "_law_leaves_here", "_law_k"]
theorem sc__law_top : FnScope ["_law_seal", "_law_leaves_here", "_law_k"] ["_law_seal", "_law_leaves_here"] (defScope s__law_top) := ⟨rfl, rfl, rfl, by decide +kernel, rfl, by decide +kernel, by decide +kernel⟩
abbrev s__law_leaves : Stmt := topS 13
abbrev N__law_leaves : List Str := ["_law_seal", "_law_script", "_law_leaves_here", "_law_cell"]
theorem sc__law_leaves : FnScope ["_law_seal", "_law_script", "_law_leaves_here", "_law_cell"] ["_law_seal", "_law_script"] (defScope s__law_leaves) := ⟨rfl, rfl, rfl, by decide +kernel, rfl, by decide +kernel, by decide +kernel⟩
abbrev s__law_stretches : Stmt := topS 14
abbrev N__law_stretches : List Str := ["_law_seal", "_law_leaves_here", "_law_tops", "_law_at", "_law_length"]
theorem sc__law_stretches : FnScope ["_law_seal", "_law_leaves_here", "_law_tops", "_law_at", "_law_length"] ["_law_seal", "_law_leaves_here"] (defScope s__law_stretches) := ⟨rfl, rfl, rfl, by decide +kernel, rfl, by decide +kernel, by decide +kernel⟩
abbrev s__law_right : Stmt := topS 15
abbrev N__law_right : List Str := ["_law_seal", "_law_frontier", "_law_leaves_here", "_law_told"]
theorem sc__law_right : FnScope ["_law_seal", "_law_frontier", "_law_leaves_here", "_law_told"] ["_law_seal", "_law_frontier", "_law_leaves_here"] (defScope s__law_right) := ⟨rfl, rfl, rfl, by decide +kernel, rfl, by decide +kernel, by decide +kernel⟩
abbrev s_law : Stmt := topS 16
abbrev N_law : List Str := ["_law_script", "_law_seal", "_law_leaves_here", "_law_one", "_law_other", "_law_k"]
theorem sc_law : FnScope ["_law_script", "_law_seal", "_law_leaves_here", "_law_one", "_law_other", "_law_k"] ["_law_script"] (defScope s_law) := ⟨rfl, rfl, rfl, by decide +kernel, rfl, by decide +kernel, by decide +kernel⟩

/-! ### a def of the module -/
structure DefX (K : PySem.W.Frag) (mg : Str → Option Value) (x : Str) (st : Stmt) (ps : List Str) : Prop where
  ex : ∃ (f : Addr) (fd : FuncData), L2.Fun K x x st f fd ∧ mg x = some (.ref f) ∧ ∀ us : List Value, us.length = ps.length → bindArgs fd ⟨us, []⟩ = pure (ps.zip us)
/-- a def that makes defs: its code object's address is told -/
structure DefM (K : PySem.W.Frag) (mg : Str → Option Value) (x : Str) (st : Stmt) (c : Addr) : Prop where
  ex : ∃ (f : Addr) (oc : Value) (od : Option Addr) (kV doc pm : Value) (an : Option Addr) (ct : Value) (osl : Array (Option Value)), K.lookup f = some ⟨oc, od, .func (PySem.W.fnOf x x (defArgs st) (defBody st) (defScope st) .none kV doc pm an (.ref c) ct), osl⟩ ∧
    PySem.W.codeIn K (.ref c) x = true ∧ PySem.W.keepIn K (.ref f) = true ∧ mg x = some (.ref f)
/-- an own class of errors over ValueError, without an __init__ of its own -/
structure ExcF (K : PySem.W.Frag) (C : Addr) : Prop where
  xP : PySem.W.excIn K C [.type "ValueError", .type "Exception", .type "BaseException", .type "object"] "ValueError.__new__" = true
  kP : PySem.W.keepIn K (.ref C) = true
  bP : PySem.W.subIn K (.ref C) (.type "BaseException") = some true
  tP : PySem.W.typeIn K (.ref C) = some (.type "type")
  cP : ExcC K C
  eP : PySem.W.exmOne K (.ref C) (.ref C) = some true
structure ExcX (K : PySem.W.Frag) (mg : Str → Option Value) (x : Str) : Prop where
  ex : ∃ C, mg x = some (.ref C) ∧ ExcF K C
/-- a def that may raise -/
structure CalX (P : Program) (w : World) (K : PySem.W.Frag) (mg : Str → Option Value) (base : Heap) (k : Nat) (x : Str) (sp : Sp) : Prop where
  ex : ∃ (f : Addr) (fd : FuncData) (ps : List Str), FnOk P w K mg base (L2.CX P w) k f fd ps sp ∧ mg x = some (.ref f) ∧ PySem.W.keepIn K (.ref f) = true ∧ Binds K fd ps []
theorem calX_of {P : Program} {w : World} {K : PySem.W.Frag} {mg : Str → Option Value} {base : Heap} {x : Str} {st : Stmt} {N ps : List Str} {k : Nat} {sp : Sp} (D : DefX K mg x st ps) (S : FnScope N ps (defScope st)) (len : ∀ vs H Q E, sp vs H Q E → vs.length = ps.length)
    (hbody : ∀ (f : Addr) (cdv : Value) (A : Around) (outer : List Env) (s : Shared) (H : Hp) (vs : List V) (Q : VK) (E : XK), Room k (A.deeper (envOfC x (defScope st) s.heap.objs.size f cdv)) → sp vs H Q E →
      ∃ t, PSs (cxOf (L2.CX P w) P w K mg base N x (defScope st) f cdv A outer s H E) (defBody st) t ∧ t { nx := fun _ H' => Q .non H', rt := Q } (start N vs) H) : CalX P w K mg base (k + 1) x sp := by
  obtain ⟨f, fd, F, m, b⟩ := D.ex
  exact ⟨f, fd, ps, F.okX S len (hbody f), m, F.kp, .all b⟩
theorem calX_mono {P : Program} {w : World} {K : PySem.W.Frag} {mg : Str → Option Value} {base : Heap} {x : Str} {j k : Nat} {sp : Sp} (c : CalX P w K mg base j x sp) (h : j ≤ k) : CalX P w K mg base k x sp := by
  obtain ⟨f, fd, ps, F, m, kp, b⟩ := c.ex
  exact ⟨f, fd, ps, F.mono h, m, kp, b⟩
/-- x(..) that may raise, within what takes W -/
theorem pe_cx {X : Cx} {k j : Nat} {x : Str} {sp : Sp} {W : WX} {t : TA} {e : Expr} {es : List Expr} {p pos : Pos} (c : CalX X.prog X.w X.K X.mg X.base k x sp) (tk : Takes X W) (hr : Room j X.A) (hk : k ≤ j) (hg : Gl X x) (ha : PA X (e :: es) t)
    (hdb : (x == ("__debug__" : Str)) = false := by decide) (he : starEach (e :: es) X.env = (false, eval e X.env) :: starEach es X.env := by rfl) (hpl : (backTo pos (starEach es X.env)).any (·.1) = false := by rfl) :
    PE X (.Call (.Name x p) (e :: es) [] pos) (tCallS sp (WE W) t) := by
  obtain ⟨f, fd, ps, F, m, kp, b⟩ := c.ex
  exact pe_callS F (hr.mono hk) hg m kp b (fun σ => passAt tk σ) ha hdb he hpl
theorem zc_of {cls : Value} {C : Addr} {d : Option Addr} {oe : Obj} (hz : Zc cls d oe) (h : cls = .ref C ∧ d = none) : Zc (.ref C) none oe := by
  rw [← h.1, ← h.2]
  exact hz
/-- known where the reading is at hand -/
theorem pss_when {X : Cx} {st : List Stmt} {t : TS} {P : Prop} (h : P → PSs X st t) : PSs X st (fun D σ H => P ∧ t D σ H) := ⟨fun pins s σ H D I ⟨p, q⟩ => (h p).run pins s σ H D I q⟩
theorem pe_when {X : Cx} {e : Expr} {t : TE} {P : Prop} (h : P → PE X e t) : PE X e (fun σ H Q => P ∧ t σ H Q) := ⟨fun pins s σ H Q I ⟨p, q⟩ => (h p).run pins s σ H Q I q⟩
/-- raise X('..') -/
theorem ps_raiseX {X : Cx} {W : WX} {x m : Str} {C : Addr} {j : Nat} {p p2 p3 pos : Pos} (F : ExcF X.K C) (gC : X.mg x = some (.ref C)) (hc : X.calm = true) (tk : Takes X W) (hg : Gl X x) (hdb : (x == ("__debug__" : Str)) = false := by decide) :
    PS X (.Raise (some (.Call (.Name x p) [.Constant (.str m) j p2] [] p3)) none pos) (fun _ σ H => W (.ref C) none σ H) :=
  ps_raise hc tk (pmk_own PySem.F.excBase_ValueError F.xP gC F.kP (raises_own F.bP F.tP) hg hdb)
theorem cal_of {P : Program} {w : World} {K : PySem.W.Frag} {mg : Str → Option Value} {base : Heap} {x : Str} {st : Stmt} {N ps : List Str} {k : Nat} {sp : Sp} (D : DefX K mg x st ps) (S : FnScope N ps (defScope st)) (len : ∀ vs H Q E, sp vs H Q E → vs.length = ps.length)
    (hbody : ∀ (f : Addr) (cdv : Value) (A : Around) (outer : List Env) (s : Shared) (H : Hp) (vs : List V) (Q : VK) (E : XK), Room k (A.deeper (envOfC x (defScope st) s.heap.objs.size f cdv)) → sp vs H Q E →
      ∃ t, PSs (cxOf L2.CX0 P w K mg base N x (defScope st) f cdv A outer s H E).nox (defBody st) t ∧ t { nx := fun _ H' => Q .non H', rt := Q } (start N vs) H) : Cal P w K mg base (k + 1) x sp [] := by
  obtain ⟨f, fd, F, m, b⟩ := D.ex
  exact ⟨f, fd, ps, [], F.ok S len (hbody f), m, F.kp, .all b, .nil⟩
/-- the law's own def, for the end -/
theorem law_fn {P : Program} {w : World} {K : PySem.W.Frag} {mg : Str → Option Value} {x p : Str} {st : Stmt} {N : List Str} {k : Nat} {sp : Sp} {fa : Addr} (D : DefX K mg x st [p]) (hfa : mg x = some (.ref fa)) (S : FnScope N [p] (defScope st)) (len : ∀ vs H Q E, sp vs H Q E → vs.length = 1)
    (hbody : ∀ (base : Heap) (f : Addr) (cdv : Value) (A : Around) (outer : List Env) (s : Shared) (H : Hp) (vs : List V) (Q : VK) (E : XK), Room k (A.deeper (envOfC x (defScope st) s.heap.objs.size f cdv)) → sp vs H Q E →
      ∃ t, PSs (cxOf L2.CX0 P w K mg base N x (defScope st) f cdv A outer s H E).nox (defBody st) t ∧ t { nx := fun _ H' => Q .non H', rt := Q } (start N vs) H) :
    ∃ fd : FuncData, (∀ (s : Shared) (v : Value), BindsTo s fd ⟨[v], []⟩ [(p, v)]) ∧ ∀ base : Heap, K.In base → base.Ns mainGlobals mg → FnOk P w K mg base L2.CX0 (k + 1) fa fd [p] sp := by
  obtain ⟨f, fd, F, m, b⟩ := D.ex
  have e := hfa.symm.trans m
  cases e
  exact ⟨fd, fun s v => .of_eq (b [v] rfl), fun base _ _ => F.ok S len (hbody base fa)⟩
theorem cut_to (xs : List V) (n : Nat) : cutV xs none (some (n : Int)) = xs.take n := by
  unfold cutV
  rw [HT.sIx_none, HT.sIx_nat, List.drop_zero, Nat.sub_zero]
  by_cases h : n ≤ xs.length
  · rw [Nat.min_eq_left h]
  · rw [Nat.min_eq_right (by omega), List.take_length, List.take_of_length_le (by omega)]
theorem cut_from (xs : List V) (n : Nat) : cutV xs (some (n : Int)) none = xs.drop n := by
  unfold cutV
  rw [HT.sIx_none, HT.sIx_nat]
  by_cases h : n ≤ xs.length
  · rw [Nat.min_eq_left h, List.take_of_length_le (by rw [List.length_drop]; omega)]
  · rw [Nat.min_eq_right (by omega), List.drop_length, List.drop_eq_nil_of_le (by omega), List.take_nil]
theorem cut_mid {xs : List V} {n m : Nat} (h : n ≤ m) (hm : m ≤ xs.length) : cutV xs (some (n : Int)) (some (m : Int)) = (xs.drop n).take (m - n) := by
  unfold cutV
  rw [HT.sIx_nat, HT.sIx_nat, Nat.min_eq_left hm, Nat.min_eq_left (show n ≤ xs.length by omega)]
theorem take63 {ns : List Int} (h : ns.length ≤ 63) : cutV (ns.map V.int) none (some 63) = ns.map V.int := by
  rw [show (63 : Int) = ((63 : Nat) : Int) from rfl, cut_to, List.take_of_length_le (by rw [List.length_map]; exact h)]
theorem small {n : Nat} (h : n ≤ 1000) : n ≤ sizeLine := Nat.le_of_lt (small1000 h)
theorem same_upd {H : Hp} {p : Addr} {o : HO} (h : H p = none) : Same H (upd H p o) := fun b x e => by
  rw [upd_ne (ne_of_none e h)]
  exact e

/-! ### classes -/
structure MetX (K : PySem.W.Frag) (C : Addr) (m qual : Str) (st : Stmt) (ps : List Str) : Prop where
  ex : ∃ (f : Addr) (fd : FuncData), L2.Fun K m qual st f fd ∧ Meth K C m f ∧ ∀ us : List Value, us.length = ps.length → bindArgs fd ⟨us, []⟩ = pure (ps.zip us)
structure MakX (K : PySem.W.Frag) (C : Addr) (qual : Str) (st : Stmt) (ps : List Str) : Prop where
  ex : ∃ (f : Addr) (fd : FuncData), L2.Fun K "__init__" qual st f fd ∧ Mk K C f ∧ ∀ us : List Value, us.length = ps.length → bindArgs fd ⟨us, []⟩ = pure (ps.zip us)
theorem met_of {P : Program} {w : World} {K : PySem.W.Frag} {mg : Str → Option Value} {base : Heap} {C : Addr} {m qual : Str} {st : Stmt} {N ps : List Str} {k : Nat} {sp : Sp} (c : Cls K C) (D : MetX K C m qual st ps) (S : FnScope N ps (defScope st)) (len : ∀ vs H Q E, sp vs H Q E → vs.length = ps.length)
    (hbody : ∀ (f : Addr) (cdv : Value) (A : Around) (outer : List Env) (s : Shared) (H : Hp) (vs : List V) (Q : VK) (E : XK), Room k (A.deeper (envOfC qual (defScope st) s.heap.objs.size f cdv)) → sp vs H Q E →
      ∃ t, PSs (cxOf L2.CX0 P w K mg base N qual (defScope st) f cdv A outer s H E).nox (defBody st) t ∧ t { nx := fun _ H' => Q .non H', rt := Q } (start N vs) H) : Met P w K mg base (k + 1) C m sp [] := by
  obtain ⟨f, fd, F, me, b⟩ := D.ex
  exact ⟨f, fd, ps, [], c, me, F.ok S len (hbody f), .all b, .nil⟩
theorem mak_of {P : Program} {w : World} {K : PySem.W.Frag} {mg : Str → Option Value} {base : Heap} {C : Addr} {x qual : Str} {st : Stmt} {N ps : List Str} {k : Nat} {sp : Sp} (hm : mg x = some (.ref C)) (D : MakX K C qual st ps) (S : FnScope N ps (defScope st)) (len : ∀ vs H Q E, sp vs H Q E → vs.length = ps.length)
    (hbody : ∀ (f : Addr) (cdv : Value) (A : Around) (outer : List Env) (s : Shared) (H : Hp) (vs : List V) (Q : VK) (E : XK), Room k (A.deeper (envOfC qual (defScope st) s.heap.objs.size f cdv)) → sp vs H Q E →
      ∃ t, PSs (cxOf L2.CX0 P w K mg base N qual (defScope st) f cdv A outer s H E).nox (defBody st) t ∧ t { nx := fun _ H' => Q .non H', rt := Q } (start N vs) H) : Mak P w K mg base (k + 1) x C sp [] := by
  obtain ⟨f, fd, F, M, b⟩ := D.ex
  exact ⟨f, fd, ps, [], M, F.ok S len (hbody f), hm, .all b, .nil⟩

/-! ### heaps that grow -/
/-- all that was tracked is as it was, but dicts keyed by tuples may have got more -/
structure Ext (H H' : Hp) : Prop where
  keep : ∀ a o, H a = some o → (∀ kvs, o ≠ .dT kvs) → H' a = some o
  grow : ∀ a kvs, H a = some (.dT kvs) → ∃ more, H' a = some (.dT (kvs ++ more))
theorem Ext.of_same {H H' : Hp} (h : Same H H') : Ext H H' := ⟨fun a o e _ => h a o e, fun a kvs e => ⟨[], by rw [List.append_nil]; exact h a _ e⟩⟩
theorem Ext.refl (H : Hp) : Ext H H := .of_same (Same.refl H)
theorem Ext.trans {H H1 H2 : Hp} (a : Ext H H1) (b : Ext H1 H2) : Ext H H2 := by
  refine ⟨fun x o e n => b.keep x o (a.keep x o e n) n, fun x kvs e => ?_⟩
  obtain ⟨m1, e1⟩ := a.grow x kvs e
  obtain ⟨m2, e2⟩ := b.grow x _ e1
  exact ⟨m1 ++ m2, by rw [e2, List.append_assoc]⟩
theorem Ext.new {H : Hp} {p : Addr} {o : HO} (h : H p = none) : Ext H (upd H p o) := .of_same (same_upd h)
theorem Ext.mut {H H' : Hp} {p : Addr} {o : HO} (e : Ext H H') (h : H p = none) : Ext H (upd H' p o) := by
  refine ⟨fun a u ha n => ?_, fun a kvs ha => ?_⟩
  · rw [upd_ne (ne_of_none ha h)]
    exact e.keep a u ha n
  · rw [upd_ne (ne_of_none ha h)]
    exact e.grow a kvs ha
theorem Ext.free {H H' : Hp} {p : Addr} (e : Ext H H') (h : H' p = none) : H p = none := by
  cases q : H p with
  | none => rfl
  | some o =>
    by_cases n : ∃ kvs, o = .dT kvs
    · obtain ⟨kvs, rfl⟩ := n
      obtain ⟨m, e1⟩ := e.grow p kvs q
      rw [e1] at h
      cases h
    · rw [e.keep p o q fun kvs z => n ⟨kvs, z⟩] at h
      cases h
theorem Ext.lst {H H' : Hp} {a : Addr} {xs : List V} (e : Ext H H') (h : H a = some (.lst xs)) : H' a = some (.lst xs) := e.keep _ _ h fun _ z => nomatch z
theorem Ext.tup {H H' : Hp} {a : Addr} {xs : List V} (e : Ext H H') (h : H a = some (.tup xs)) : H' a = some (.tup xs) := e.keep _ _ h fun _ z => nomatch z
theorem Ext.ins {H H' : Hp} {a C dx : Addr} {fs : List (Str × V)} (e : Ext H H') (h : H a = some (.ins C dx fs)) : H' a = some (.ins C dx fs) := e.keep _ _ h fun _ z => nomatch z
theorem Ext.dK {H H' : Hp} {a : Addr} {kvs : List (Key × V)} (e : Ext H H') (h : H a = some (.dK kvs)) : H' a = some (.dK kvs) := e.keep _ _ h fun _ z => nomatch z
theorem Ext.frz {H H' : Hp} {a : Addr} {o : Obj} {u : HO} (e : Ext H H') (h : H a = some (.frz o u)) : H' a = some (.frz o u) := e.keep _ _ h fun _ z => nomatch z
theorem Ext.seq {K : PySem.W.Frag} {H H' : Hp} {a : Addr} {xs : List V} (e : Ext H H') (h : SqL K H a xs) : SqL K H' a xs := by
  rcases h with (h | ⟨o, h⟩) | h
  · exact .inl (.inl (e.lst h))
  · exact .inl (.inr ⟨o, e.frz h⟩)
  · exact .inr h
theorem Ext.seqT {K : PySem.W.Frag} {H H' : Hp} {a : Addr} {xs : List V} (e : Ext H H') (h : SqT K H a xs) : SqT K H' a xs := by
  rcases h with (h | ⟨o, h⟩) | h
  · exact .inl (.inl (e.tup h))
  · exact .inl (.inr ⟨o, e.frz h⟩)
  · exact .inr h
/-- what the telling of a thing leans on: it is never changed, but dicts keyed by tuples -/
def stat : HO → Prop
  | .lst _ | .dK _ | .ins _ _ _ | .set _ _ | .xd _ => False
  | _ => True
def Kp (H H' : Hp) : Prop := ∀ a o, H a = some o → stat o → H' a = some o
structure Gr (H H' : Hp) : Prop where
  keep : ∀ a o, H a = some o → stat o → (∀ kvs, o ≠ .dT kvs) → H' a = some o
  grow : ∀ a kvs, H a = some (.dT kvs) → ∃ more, H' a = some (.dT (kvs ++ more))
theorem Ext.gr {H H' : Hp} (e : Ext H H') : Gr H H' := ⟨fun a o h _ n => e.keep a o h n, e.grow⟩
theorem Kp.gr {H H' : Hp} (e : Kp H H') : Gr H H' := ⟨fun a o h s _ => e a o h s, fun a kvs h => ⟨[], by rw [List.append_nil]; exact e a _ h True.intro⟩⟩
theorem Kp.refl (H : Hp) : Kp H H := fun _ _ h _ => h
theorem Kp.trans {H H1 H2 : Hp} (a : Kp H H1) (b : Kp H1 H2) : Kp H H2 := fun c o h s => b c o (a c o h s) s
theorem Gr.refl (H : Hp) : Gr H H := (Kp.refl H).gr
theorem Gr.trans {H H1 H2 : Hp} (a : Gr H H1) (b : Gr H1 H2) : Gr H H2 := by
  refine ⟨fun x o e s n => b.keep x o (a.keep x o e s n) s n, fun x kvs e => ?_⟩
  obtain ⟨m1, e1⟩ := a.grow x kvs e
  obtain ⟨m2, e2⟩ := b.grow x _ e1
  exact ⟨m1 ++ m2, by rw [e2, List.append_assoc]⟩
theorem Kp.new {H : Hp} {p : Addr} {o : HO} (h : H p = none) : Kp H (upd H p o) := fun a u e _ => by
  rw [upd_ne (ne_of_none e h)]
  exact e
theorem Kp.lst {H : Hp} {p : Addr} {o : HO} {xs : List V} (h : H p = some (.lst xs)) : Kp H (upd H p o) := fun a u e s => by
  by_cases q : a = p
  · subst q
    rw [h] at e
    cases e
    exact s.elim
  · rw [upd_ne q]
    exact e
theorem Kp.ins {H : Hp} {p C dx : Addr} {o : HO} {fs : List (Str × V)} (h : H p = some (.ins C dx fs)) : Kp H (upd H p o) := fun a u e s => by
  by_cases q : a = p
  · subst q
    rw [h] at e
    cases e
    exact s.elim
  · rw [upd_ne q]
    exact e
theorem Kp.dK {H : Hp} {p : Addr} {o : HO} {kvs : List (Key × V)} (h : H p = some (.dK kvs)) : Kp H (upd H p o) := fun a u e s => by
  by_cases q : a = p
  · subst q
    rw [h] at e
    cases e
    exact s.elim
  · rw [upd_ne q]
    exact e
/-! ### free terms, and seals -/
inductive Tm where
  | int (i : Int)
  | str (x : Str)
  | sl (m : Str) (a b : Tm)
  deriving DecidableEq
def Tm.dep : Tm → Nat
  | .int _ | .str _ => 0
  | .sl _ a b => max a.dep b.dep + 1
abbrev txtOk (x : Str) : Bool := PySem.PyData.strOk x
/-- a seal: its function, what its values tell, its state (so many more things may be told) -/
structure Sys where
  f : Addr
  den : Hp → V → Tm → Prop
  ok : Hp → Nat → Prop
structure Sys.Good (K : PySem.W.Frag) (S : Sys) : Prop where
  mono : ∀ {H H' : Hp} {v : V} {t : Tm}, Gr H H' → S.den H v t → S.den H' v t
  keep : ∀ {H H' : Hp} {r : Nat}, Kp H H' → S.ok H r → S.ok H' r
  less : ∀ {H : Hp} {r r' : Nat}, S.ok H r → r' ≤ r → S.ok H r'
  int : ∀ {H : Hp} {r : Nat} (i : Int), S.ok H r → S.den H (.int i) (.int i)
  str : ∀ {H : Hp} {r : Nat} (x : Str), S.ok H r → txtOk x = true → S.den H (.str x) (.str x)
  same : ∀ {H : Hp} {v v' : V} {t : Tm}, S.den H v t → S.den H v' t → ∃ d, Dp K H v d ∧ Dp K H v' d ∧ d.canLay0 = true ∧ d.depth ≤ t.dep
def spSl (S : Sys) : Sp := fun vs H Q _ => ∃ (r : Nat) (m : Str) (a b : Tm) (va vb : V), vs = [.str m, va, vb] ∧ txtOk m = true ∧ S.ok H (r + 1) ∧ S.den H va a ∧ S.den H vb b ∧
  ∀ v H', Ext H H' → S.ok H' r → S.den H' v (.sl m a b) → Q v H'
structure HeldSl (P : Program) (w : World) (K : PySem.W.Frag) (mg : Str → Option Value) (base : Heap) (k : Nat) (S : Sys) : Prop where
  at_ : ∀ (H : Hp) (h : Heap) (r : Nat), K.In h → HOk P w H h → S.ok H r → PySem.W.FnAt S.f h
  run : ∀ (A : Around) (outer : List Env) (s : Shared) (H : Hp) (us : List Value) (vs : List V) (Q : VK) (E : XK), Room k A → Env0 P w K mg base A outer s H → Vals vs us → spSl S vs H Q E →
    codeAny (model P w) A (.call (.ref S.f) ⟨us, []⟩) (CR L2.CX0 outer P w H s Q E) s
/-- of a family of seals: each is good, and its calls keep the promise -/
structure SlA (P : Program) (w : World) (K : PySem.W.Frag) (mg : Str → Option Value) (base : Heap) (Fam : Sys → Prop) : Prop where
  good : ∀ {S : Sys}, Fam S → S.Good K
  held : ∀ S, Fam S → HeldSl P w K mg base 1 S
/-- x(..), x a name that holds a seal -/
def tSl (Fam : Sys → Prop) (i : Nat) (t : TA) : TE := fun σ H Q => ∃ (S : Sys) (r : Nat), Fam S ∧ σ[i]? = some (some (.ref S.f)) ∧ S.ok H r ∧ t σ H fun vs H1 => spSl S vs H1 Q L2.E0
section
variable {X : Cx} {i j k : Nat} {x : Str} {p pos : Pos} {e : Expr} {es : List Expr} {t : TA} {Fam : Sys → Prop}
theorem pe_sl (A : ∀ S, Fam S → HeldSl X.prog X.w X.K X.mg X.base k S) (hr : Room j X.A) (hk : k ≤ j) (hN : X.N[i]? = some x) (hv : Vis X.env.scope x) (ha : PA X (e :: es) t)
    (hdb : (x == ("__debug__" : Str)) = false := by decide) (hcd : (x == ("__classdict__" : Str)) = false := by decide)
    (he : starEach (e :: es) X.env = (false, eval e X.env) :: starEach es X.env := by rfl) (hpl : (backTo pos (starEach es X.env)).any (·.1) = false := by rfl) : PE X (.Call (.Name x p) (e :: es) [] pos) (tSl Fam i t) := by
  refine ⟨fun pins s σ H Q I h => ?_⟩
  obtain ⟨S, r, hS, hs, hok, ht⟩ := h
  refine wpAny_Call_Name_kw (thn ((pe_var (pos := p) hN hv hdb hcd).run pins s σ H (fun v H1 => v = .ref S.f ∧ H1 = H) I ⟨.ref S.f, hs, rfl, rfl⟩) fun u s1 ⟨v, H1, I1, r1, q1⟩ => ?_)
  obtain ⟨rfl, rfl⟩ := q1
  cases r1
  refine PySem.W.callWith_F ((A S hS).at_ _ _ _ I1.kIn I1.hok hok) (thn (ha.run pos pins s1 σ _ _ I1 ht) fun us s2 ⟨vs, H2, I2, rv, q⟩ => ?_) he hpl
  obtain ⟨r', m, a, b, va, vb, e1, e2, e3, q'⟩ := id q
  refine ⟨(A S hS).at_ _ _ _ I2.kIn I2.hok e3, ?_⟩
  refine wpAny_call (codeAny_mono ((A S hS).run X.A X.stack s2 H2 us vs Q L2.E0 (hr.mono hk) I2.env0 rv q) fun r s' hq => ?_)
  cases r with
  | error e => exact False.elim hq
  | ok fl =>
    cases fl with
    | ret u => exact I2.after hq
    | next => exact False.elim hq
    | brk => exact False.elim hq
    | cont => exact False.elim hq
end
/-! ### rows of told things -/
structure DenL (S : Sys) (H : Hp) (vs : List V) (ts : List Tm) : Prop where
  len : vs.length = ts.length
  at_ : ∀ (i : Nat) (v : V) (t : Tm), vs[i]? = some v → ts[i]? = some t → S.den H v t
section
variable {S : Sys} {K : PySem.W.Frag} {H H' : Hp} {vs us : List V} {ts rs : List Tm}
theorem DenL.mono (G : S.Good K) (e : Gr H H') (h : DenL S H vs ts) : DenL S H' vs ts := ⟨h.len, fun i v t a b => G.mono e (h.at_ i v t a b)⟩
theorem DenL.nil : DenL S H [] [] := ⟨rfl, fun i v t a _ => by simp at a⟩
theorem DenL.append (h : DenL S H vs ts) (h' : DenL S H us rs) : DenL S H (vs ++ us) (ts ++ rs) := by
  refine ⟨by rw [List.length_append, List.length_append, h.len, h'.len], fun i v t a b => ?_⟩
  have hl := h.len
  by_cases q : i < vs.length
  · rw [List.getElem?_append_left q] at a
    rw [List.getElem?_append_left (by omega)] at b
    exact h.at_ i v t a b
  · rw [List.getElem?_append_right (by omega)] at a b
    rw [← hl] at b
    exact h'.at_ _ v t a b
theorem DenL.one {v : V} {t : Tm} (h : S.den H v t) : DenL S H [v] [t] := by
  refine ⟨rfl, fun i u r a b => ?_⟩
  cases i with
  | zero =>
    cases a
    cases b
    exact h
  | succ i => simp at a
theorem DenL.cons {v : V} {t : Tm} (h : S.den H v t) (h' : DenL S H vs ts) : DenL S H (v :: vs) (t :: ts) := (DenL.one h).append h'
theorem DenL.take (n : Nat) (h : DenL S H vs ts) : DenL S H (vs.take n) (ts.take n) := by
  refine ⟨by rw [List.length_take, List.length_take, h.len], fun i v t a b => ?_⟩
  rw [List.getElem?_take] at a b
  split at a
  · rename_i q
    rw [if_pos q] at b
    exact h.at_ i v t a b
  · cases a
theorem DenL.drop (n : Nat) (h : DenL S H vs ts) : DenL S H (vs.drop n) (ts.drop n) := by
  refine ⟨by rw [List.length_drop, List.length_drop, h.len], fun i v t a b => ?_⟩
  rw [List.getElem?_drop] at a b
  exact h.at_ _ v t a b
theorem DenL.get (h : DenL S H vs ts) {i : Nat} (hi : i < ts.length) : ∃ v, vs[i]? = some v ∧ S.den H v ts[i] := by
  have hl := h.len
  have hv : i < vs.length := by omega
  exact ⟨vs[i], List.getElem?_eq_getElem hv, h.at_ i _ _ (List.getElem?_eq_getElem hv) (List.getElem?_eq_getElem hi)⟩
/-- the same row told twice -/
theorem DenL.same (G : S.Good K) {n : Nat} : ∀ {vs us : List V} {ts : List Tm}, DenL S H vs ts → DenL S H us ts → (∀ t ∈ ts, t.dep ≤ n) → ∃ ds, DpAll K H vs ds ∧ DpAll K H us ds ∧ PyData.canLayAll0 ds = true ∧ PyData.depthAll ds ≤ n
  | vs, us, [], h, h', _ => by
    have e1 : vs = [] := List.eq_nil_of_length_eq_zero h.len
    have e2 : us = [] := List.eq_nil_of_length_eq_zero h'.len
    subst e1
    subst e2
    exact ⟨[], .nil, .nil, rfl, Nat.zero_le _⟩
  | [], us, t :: ts, h, _, _ => absurd h.len (by simp)
  | v :: vs, [], t :: ts, _, h, _ => absurd h.len (by simp)
  | v :: vs, u :: us, t :: ts, h, h', hd => by
    obtain ⟨d, a1, a2, a3, a4⟩ := G.same (h.at_ 0 v t rfl rfl) (h'.at_ 0 u t rfl rfl)
    have t1 : DenL S H vs ts := h.drop 1
    have t2 : DenL S H us ts := h'.drop 1
    obtain ⟨ds, b1, b2, b3, b4⟩ := DenL.same G t1 t2 fun x hx => hd x (List.mem_cons_of_mem _ hx)
    refine ⟨d :: ds, .cons a1 b1, .cons a2 b2, ?_, ?_⟩
    · rw [PyData.canLayAll0, a3, b3]
      rfl
    · have := hd t List.mem_cons_self
      show max d.depth (PyData.depthAll ds) ≤ n
      omega
end

structure Zs (mg : Str → Option Value) : Prop where
  len : mg "len" = none
  isinstance : mg "isinstance" = none
  int : mg "int" = none
  list : mg "list" = none
  range : mg "range" = none
  str : mg "str" = none
  reversed : mg "reversed" = none
structure K_Frontier (K : PySem.W.Frag) (mg : Str → Option Value) (C : Addr) : Prop where
  mgC : mg "Frontier" = some (.ref C)
  cl : Cls K C
  n_seal : NoAttr K C "seal"
  n_many : NoAttr K C "many"
  n_tops : NoAttr K C "tops"
  made : MakX K C "Frontier.__init__" s_Frontier___init__ ["self", "seal"]
  m_add : MetX K C "add" "Frontier.add" s_Frontier_add ["self", "leaf"]
  m_size : MetX K C "size" "Frontier.size" s_Frontier_size ["self"]
  m_kept : MetX K C "kept" "Frontier.kept" s_Frontier_kept ["self"]
  m_top : MetX K C "top" "Frontier.top" s_Frontier_top ["self"]
structure Txt (K : PySem.W.Frag) (mg : Str → Option Value) (cc : Addr) : Prop where
  d_none_seal : DefX K mg "none_seal" s_none_seal ["seal"]
  d_pair_seal : DefX K mg "pair_seal" s_pair_seal ["seal", "left", "right"]
  d__law_cell_at : DefX K mg "_law_cell_at" s__law_cell_at ["_law_script", "_law_k"]
  d__law_plain : DefX K mg "_law_plain" s__law_plain ["_law_mark", "_law_one", "_law_two"]
  d__law_turned : DefX K mg "_law_turned" s__law_turned ["_law_mark", "_law_one", "_law_two"]
  m__law_numbering : DefM K mg "_law_numbering" s__law_numbering cc
  d__law_seal_by : DefX K mg "_law_seal_by" s__law_seal_by ["_law_script"]
  d__law_split : DefX K mg "_law_split" s__law_split ["_law_size"]
  d__law_top : DefX K mg "_law_top" s__law_top ["_law_seal", "_law_leaves_here"]
  d__law_leaves : DefX K mg "_law_leaves" s__law_leaves ["_law_seal", "_law_script"]
  d__law_stretches : DefX K mg "_law_stretches" s__law_stretches ["_law_seal", "_law_leaves_here"]
  d__law_right : DefX K mg "_law_right" s__law_right ["_law_seal", "_law_frontier", "_law_leaves_here"]
  d_law : DefX K mg "law" s_law ["_law_script"]
  k_Frontier : ∃ C, K_Frontier K mg C
  Z : Zs mg
theorem txt_mk {K : PySem.W.Frag} {h : Heap} {mg : Str → Option Value} (X : K.In h) (G : h.Ns mainGlobals mg) {cc f0 f1 f2 f3 f4 f5 f6 f7 f8 f9 f10 f11 f12 C_Frontier fFrontier0 fFrontier1 fFrontier2 fFrontier3 fFrontier4 : Addr} {od0 an0 od1 an1 od2 an2 od3 an3 od4 an4 od5 an5 od6 an6 od7 an7 od8 an8 od9 an9 od10 an10 od11 an11 od12 an12 odFrontier0 anFrontier0 odFrontier1 anFrontier1 odFrontier2 anFrontier2 odFrontier3 anFrontier3 odFrontier4 anFrontier4 : Option Addr} {sl0 sl1 sl2 sl3 sl4 sl5 sl6 sl7 sl8 sl9 sl10 sl11 sl12 slFrontier0 slFrontier1 slFrontier2 slFrontier3 slFrontier4 : Array (Option Value)} {oc0 kV0 dc0 pm0 cd0 ct0 oc1 kV1 dc1 pm1 cd1 ct1 oc2 kV2 dc2 pm2 cd2 ct2 oc3 kV3 dc3 pm3 cd3 ct3 oc4 kV4 dc4 pm4 cd4 ct4 oc5 kV5 dc5 pm5 ct5 oc6 kV6 dc6 pm6 cd6 ct6 oc7 kV7 dc7 pm7 cd7 ct7 oc8 kV8 dc8 pm8 cd8 ct8 oc9 kV9 dc9 pm9 cd9 ct9 oc10 kV10 dc10 pm10 cd10 ct10 oc11 kV11 dc11 pm11 cd11 ct11 oc12 kV12 dc12 pm12 cd12 ct12 ocFrontier0 kVFrontier0 dcFrontier0 pmFrontier0 cdFrontier0 ctFrontier0 ocFrontier1 kVFrontier1 dcFrontier1 pmFrontier1 cdFrontier1 ctFrontier1 ocFrontier2 kVFrontier2 dcFrontier2 pmFrontier2 cdFrontier2 ctFrontier2 ocFrontier3 kVFrontier3 dcFrontier3 pmFrontier3 cdFrontier3 ctFrontier3 ocFrontier4 kVFrontier4 dcFrontier4 pmFrontier4 cdFrontier4 ctFrontier4 : Value}
    (a0 : PySem.W.nsIn K mainGlobals "none_seal" = some (some (.ref f0))) (l0 : K.lookup f0 = some ⟨oc0, od0, .func (PySem.W.fnOf "none_seal" "none_seal" (defArgs s_none_seal) (defBody s_none_seal) (defScope s_none_seal) .none kV0 dc0 pm0 an0 cd0 ct0), sl0⟩) (c0 : PySem.W.codeIn K cd0 "none_seal" = true) (k0 : PySem.W.keepIn K (.ref f0) = true)
    (a1 : PySem.W.nsIn K mainGlobals "pair_seal" = some (some (.ref f1))) (l1 : K.lookup f1 = some ⟨oc1, od1, .func (PySem.W.fnOf "pair_seal" "pair_seal" (defArgs s_pair_seal) (defBody s_pair_seal) (defScope s_pair_seal) .none kV1 dc1 pm1 an1 cd1 ct1), sl1⟩) (c1 : PySem.W.codeIn K cd1 "pair_seal" = true) (k1 : PySem.W.keepIn K (.ref f1) = true)
    (a2 : PySem.W.nsIn K mainGlobals "_law_cell_at" = some (some (.ref f2))) (l2 : K.lookup f2 = some ⟨oc2, od2, .func (PySem.W.fnOf "_law_cell_at" "_law_cell_at" (defArgs s__law_cell_at) (defBody s__law_cell_at) (defScope s__law_cell_at) .none kV2 dc2 pm2 an2 cd2 ct2), sl2⟩) (c2 : PySem.W.codeIn K cd2 "_law_cell_at" = true) (k2 : PySem.W.keepIn K (.ref f2) = true)
    (a3 : PySem.W.nsIn K mainGlobals "_law_plain" = some (some (.ref f3))) (l3 : K.lookup f3 = some ⟨oc3, od3, .func (PySem.W.fnOf "_law_plain" "_law_plain" (defArgs s__law_plain) (defBody s__law_plain) (defScope s__law_plain) .none kV3 dc3 pm3 an3 cd3 ct3), sl3⟩) (c3 : PySem.W.codeIn K cd3 "_law_plain" = true) (k3 : PySem.W.keepIn K (.ref f3) = true)
    (a4 : PySem.W.nsIn K mainGlobals "_law_turned" = some (some (.ref f4))) (l4 : K.lookup f4 = some ⟨oc4, od4, .func (PySem.W.fnOf "_law_turned" "_law_turned" (defArgs s__law_turned) (defBody s__law_turned) (defScope s__law_turned) .none kV4 dc4 pm4 an4 cd4 ct4), sl4⟩) (c4 : PySem.W.codeIn K cd4 "_law_turned" = true) (k4 : PySem.W.keepIn K (.ref f4) = true)
    (a5 : PySem.W.nsIn K mainGlobals "_law_numbering" = some (some (.ref f5))) (l5 : K.lookup f5 = some ⟨oc5, od5, .func (PySem.W.fnOf "_law_numbering" "_law_numbering" (defArgs s__law_numbering) (defBody s__law_numbering) (defScope s__law_numbering) .none kV5 dc5 pm5 an5 (.ref cc) ct5), sl5⟩) (c5 : PySem.W.codeIn K (.ref cc) "_law_numbering" = true) (k5 : PySem.W.keepIn K (.ref f5) = true)
    (a6 : PySem.W.nsIn K mainGlobals "_law_seal_by" = some (some (.ref f6))) (l6 : K.lookup f6 = some ⟨oc6, od6, .func (PySem.W.fnOf "_law_seal_by" "_law_seal_by" (defArgs s__law_seal_by) (defBody s__law_seal_by) (defScope s__law_seal_by) .none kV6 dc6 pm6 an6 cd6 ct6), sl6⟩) (c6 : PySem.W.codeIn K cd6 "_law_seal_by" = true) (k6 : PySem.W.keepIn K (.ref f6) = true)
    (a7 : PySem.W.nsIn K mainGlobals "_law_split" = some (some (.ref f7))) (l7 : K.lookup f7 = some ⟨oc7, od7, .func (PySem.W.fnOf "_law_split" "_law_split" (defArgs s__law_split) (defBody s__law_split) (defScope s__law_split) .none kV7 dc7 pm7 an7 cd7 ct7), sl7⟩) (c7 : PySem.W.codeIn K cd7 "_law_split" = true) (k7 : PySem.W.keepIn K (.ref f7) = true)
    (a8 : PySem.W.nsIn K mainGlobals "_law_top" = some (some (.ref f8))) (l8 : K.lookup f8 = some ⟨oc8, od8, .func (PySem.W.fnOf "_law_top" "_law_top" (defArgs s__law_top) (defBody s__law_top) (defScope s__law_top) .none kV8 dc8 pm8 an8 cd8 ct8), sl8⟩) (c8 : PySem.W.codeIn K cd8 "_law_top" = true) (k8 : PySem.W.keepIn K (.ref f8) = true)
    (a9 : PySem.W.nsIn K mainGlobals "_law_leaves" = some (some (.ref f9))) (l9 : K.lookup f9 = some ⟨oc9, od9, .func (PySem.W.fnOf "_law_leaves" "_law_leaves" (defArgs s__law_leaves) (defBody s__law_leaves) (defScope s__law_leaves) .none kV9 dc9 pm9 an9 cd9 ct9), sl9⟩) (c9 : PySem.W.codeIn K cd9 "_law_leaves" = true) (k9 : PySem.W.keepIn K (.ref f9) = true)
    (a10 : PySem.W.nsIn K mainGlobals "_law_stretches" = some (some (.ref f10))) (l10 : K.lookup f10 = some ⟨oc10, od10, .func (PySem.W.fnOf "_law_stretches" "_law_stretches" (defArgs s__law_stretches) (defBody s__law_stretches) (defScope s__law_stretches) .none kV10 dc10 pm10 an10 cd10 ct10), sl10⟩) (c10 : PySem.W.codeIn K cd10 "_law_stretches" = true) (k10 : PySem.W.keepIn K (.ref f10) = true)
    (a11 : PySem.W.nsIn K mainGlobals "_law_right" = some (some (.ref f11))) (l11 : K.lookup f11 = some ⟨oc11, od11, .func (PySem.W.fnOf "_law_right" "_law_right" (defArgs s__law_right) (defBody s__law_right) (defScope s__law_right) .none kV11 dc11 pm11 an11 cd11 ct11), sl11⟩) (c11 : PySem.W.codeIn K cd11 "_law_right" = true) (k11 : PySem.W.keepIn K (.ref f11) = true)
    (a12 : PySem.W.nsIn K mainGlobals "law" = some (some (.ref f12))) (l12 : K.lookup f12 = some ⟨oc12, od12, .func (PySem.W.fnOf "law" "law" (defArgs s_law) (defBody s_law) (defScope s_law) .none kV12 dc12 pm12 an12 cd12 ct12), sl12⟩) (c12 : PySem.W.codeIn K cd12 "law" = true) (k12 : PySem.W.keepIn K (.ref f12) = true)
    (z_len : PySem.W.nsIn K mainGlobals "len" = some none)
    (z_isinstance : PySem.W.nsIn K mainGlobals "isinstance" = some none)
    (z_int : PySem.W.nsIn K mainGlobals "int" = some none)
    (z_list : PySem.W.nsIn K mainGlobals "list" = some none)
    (z_range : PySem.W.nsIn K mainGlobals "range" = some none)
    (z_str : PySem.W.nsIn K mainGlobals "str" = some none)
    (z_reversed : PySem.W.nsIn K mainGlobals "reversed" = some none)
    (g_Frontier : PySem.W.nsIn K mainGlobals "Frontier" = some (some (.ref C_Frontier)))
    (pg_Frontier : PySem.W.plainGet K C_Frontier Str.empty = true)
    (hd_Frontier : PySem.W.hasDictIn K C_Frontier = true)
    (po_Frontier : PySem.W.plainOver K C_Frontier = true)
    (sa_Frontier : PySem.W.findIn K (.ref C_Frontier) "__setattr__" = some (some (.builtin "object.__setattr__")))
    (n_Frontier_seal : PySem.W.findIn K (.ref C_Frontier) "seal" = some none)
    (n_Frontier_many : PySem.W.findIn K (.ref C_Frontier) "many" = some none)
    (n_Frontier_tops : PySem.W.findIn K (.ref C_Frontier) "tops" = some none)
    (aFrontier0 : PySem.W.findIn K (.ref C_Frontier) "__init__" = some (some (.ref fFrontier0))) (iFrontier0 : PySem.W.isFn K (.ref fFrontier0) = true) (lFrontier0 : K.lookup fFrontier0 = some ⟨ocFrontier0, odFrontier0, .func (PySem.W.fnOf "__init__" "Frontier.__init__" (defArgs s_Frontier___init__) (defBody s_Frontier___init__) (defScope s_Frontier___init__) .none kVFrontier0 dcFrontier0 pmFrontier0 anFrontier0 cdFrontier0 ctFrontier0), slFrontier0⟩) (cFrontier0 : PySem.W.codeIn K cdFrontier0 "Frontier.__init__" = true) (kFrontier0 : PySem.W.keepIn K (.ref fFrontier0) = true)
    (mk_Frontier : PySem.W.makesIn K C_Frontier = true) (kc_Frontier : PySem.W.keepIn K (.ref C_Frontier) = true)
    (aFrontier1 : PySem.W.findIn K (.ref C_Frontier) "add" = some (some (.ref fFrontier1))) (iFrontier1 : PySem.W.isFn K (.ref fFrontier1) = true) (lFrontier1 : K.lookup fFrontier1 = some ⟨ocFrontier1, odFrontier1, .func (PySem.W.fnOf "add" "Frontier.add" (defArgs s_Frontier_add) (defBody s_Frontier_add) (defScope s_Frontier_add) .none kVFrontier1 dcFrontier1 pmFrontier1 anFrontier1 cdFrontier1 ctFrontier1), slFrontier1⟩) (cFrontier1 : PySem.W.codeIn K cdFrontier1 "Frontier.add" = true) (kFrontier1 : PySem.W.keepIn K (.ref fFrontier1) = true)
    (aFrontier2 : PySem.W.findIn K (.ref C_Frontier) "size" = some (some (.ref fFrontier2))) (iFrontier2 : PySem.W.isFn K (.ref fFrontier2) = true) (lFrontier2 : K.lookup fFrontier2 = some ⟨ocFrontier2, odFrontier2, .func (PySem.W.fnOf "size" "Frontier.size" (defArgs s_Frontier_size) (defBody s_Frontier_size) (defScope s_Frontier_size) .none kVFrontier2 dcFrontier2 pmFrontier2 anFrontier2 cdFrontier2 ctFrontier2), slFrontier2⟩) (cFrontier2 : PySem.W.codeIn K cdFrontier2 "Frontier.size" = true) (kFrontier2 : PySem.W.keepIn K (.ref fFrontier2) = true)
    (aFrontier3 : PySem.W.findIn K (.ref C_Frontier) "kept" = some (some (.ref fFrontier3))) (iFrontier3 : PySem.W.isFn K (.ref fFrontier3) = true) (lFrontier3 : K.lookup fFrontier3 = some ⟨ocFrontier3, odFrontier3, .func (PySem.W.fnOf "kept" "Frontier.kept" (defArgs s_Frontier_kept) (defBody s_Frontier_kept) (defScope s_Frontier_kept) .none kVFrontier3 dcFrontier3 pmFrontier3 anFrontier3 cdFrontier3 ctFrontier3), slFrontier3⟩) (cFrontier3 : PySem.W.codeIn K cdFrontier3 "Frontier.kept" = true) (kFrontier3 : PySem.W.keepIn K (.ref fFrontier3) = true)
    (aFrontier4 : PySem.W.findIn K (.ref C_Frontier) "top" = some (some (.ref fFrontier4))) (iFrontier4 : PySem.W.isFn K (.ref fFrontier4) = true) (lFrontier4 : K.lookup fFrontier4 = some ⟨ocFrontier4, odFrontier4, .func (PySem.W.fnOf "top" "Frontier.top" (defArgs s_Frontier_top) (defBody s_Frontier_top) (defScope s_Frontier_top) .none kVFrontier4 dcFrontier4 pmFrontier4 anFrontier4 cdFrontier4 ctFrontier4), slFrontier4⟩) (cFrontier4 : PySem.W.codeIn K cdFrontier4 "Frontier.top" = true) (kFrontier4 : PySem.W.keepIn K (.ref fFrontier4) = true)
    : Txt K mg cc := by
  exact ⟨⟨⟨_, _, fun_mk (st := s_none_seal) l0 c0 k0, PySem.W.mg_of X G a0, fun us hl => match us, hl with | [_], _ => rfl⟩⟩,
    ⟨⟨_, _, fun_mk (st := s_pair_seal) l1 c1 k1, PySem.W.mg_of X G a1, fun us hl => match us, hl with | [_, _, _], _ => rfl⟩⟩,
    ⟨⟨_, _, fun_mk (st := s__law_cell_at) l2 c2 k2, PySem.W.mg_of X G a2, fun us hl => match us, hl with | [_, _], _ => rfl⟩⟩,
    ⟨⟨_, _, fun_mk (st := s__law_plain) l3 c3 k3, PySem.W.mg_of X G a3, fun us hl => match us, hl with | [_, _, _], _ => rfl⟩⟩,
    ⟨⟨_, _, fun_mk (st := s__law_turned) l4 c4 k4, PySem.W.mg_of X G a4, fun us hl => match us, hl with | [_, _, _], _ => rfl⟩⟩,
    ⟨⟨_, _, _, _, _, _, _, _, _, l5, c5, k5, PySem.W.mg_of X G a5⟩⟩,
    ⟨⟨_, _, fun_mk (st := s__law_seal_by) l6 c6 k6, PySem.W.mg_of X G a6, fun us hl => match us, hl with | [_], _ => rfl⟩⟩,
    ⟨⟨_, _, fun_mk (st := s__law_split) l7 c7 k7, PySem.W.mg_of X G a7, fun us hl => match us, hl with | [_], _ => rfl⟩⟩,
    ⟨⟨_, _, fun_mk (st := s__law_top) l8 c8 k8, PySem.W.mg_of X G a8, fun us hl => match us, hl with | [_, _], _ => rfl⟩⟩,
    ⟨⟨_, _, fun_mk (st := s__law_leaves) l9 c9 k9, PySem.W.mg_of X G a9, fun us hl => match us, hl with | [_, _], _ => rfl⟩⟩,
    ⟨⟨_, _, fun_mk (st := s__law_stretches) l10 c10 k10, PySem.W.mg_of X G a10, fun us hl => match us, hl with | [_, _], _ => rfl⟩⟩,
    ⟨⟨_, _, fun_mk (st := s__law_right) l11 c11 k11, PySem.W.mg_of X G a11, fun us hl => match us, hl with | [_, _, _], _ => rfl⟩⟩,
    ⟨⟨_, _, fun_mk (st := s_law) l12 c12 k12, PySem.W.mg_of X G a12, fun us hl => match us, hl with | [_], _ => rfl⟩⟩,
    ⟨C_Frontier, ⟨PySem.W.mg_of X G g_Frontier,
      ⟨pg_Frontier, hd_Frontier, po_Frontier, sa_Frontier⟩,
      n_Frontier_seal,
      n_Frontier_many,
      n_Frontier_tops,
      ⟨⟨_, _, fun_mk (st := s_Frontier___init__) lFrontier0 cFrontier0 kFrontier0, ⟨mk_Frontier, aFrontier0, iFrontier0, kc_Frontier⟩, fun us hl => match us, hl with | [_, _], _ => rfl⟩⟩,
      ⟨⟨_, _, fun_mk (st := s_Frontier_add) lFrontier1 cFrontier1 kFrontier1, ⟨aFrontier1, iFrontier1, kFrontier1⟩, fun us hl => match us, hl with | [_, _], _ => rfl⟩⟩,
      ⟨⟨_, _, fun_mk (st := s_Frontier_size) lFrontier2 cFrontier2 kFrontier2, ⟨aFrontier2, iFrontier2, kFrontier2⟩, fun us hl => match us, hl with | [_], _ => rfl⟩⟩,
      ⟨⟨_, _, fun_mk (st := s_Frontier_kept) lFrontier3 cFrontier3 kFrontier3, ⟨aFrontier3, iFrontier3, kFrontier3⟩, fun us hl => match us, hl with | [_], _ => rfl⟩⟩,
      ⟨⟨_, _, fun_mk (st := s_Frontier_top) lFrontier4 cFrontier4 kFrontier4, ⟨aFrontier4, iFrontier4, kFrontier4⟩, fun us hl => match us, hl with | [_], _ => rfl⟩⟩⟩⟩, ⟨PySem.W.mg_none_of X G z_len, PySem.W.mg_none_of X G z_isinstance, PySem.W.mg_none_of X G z_int, PySem.W.mg_none_of X G z_list, PySem.W.mg_none_of X G z_range, PySem.W.mg_none_of X G z_str, PySem.W.mg_none_of X G z_reversed⟩⟩
/-! ### seals that make a tuple of their three things -/
inductive DenP (tf : Str → V → V → List V) (H : Hp) : V → Tm → Prop
  | int (i : Int) : DenP tf H (.int i) (.int i)
  | str (x : Str) (h : txtOk x = true) : DenP tf H (.str x) (.str x)
  | sl {p : Addr} {m : Str} {va vb : V} {a b : Tm} (hm : txtOk m = true) (h : H p = some (.tup (tf m va vb))) (ha : DenP tf H va a) (hb : DenP tf H vb b) : DenP tf H (.ref p) (.sl m a b)
theorem DenP.mono {tf : Str → V → V → List V} {H H' : Hp} (e : Gr H H') {v : V} {t : Tm} (h : DenP tf H v t) : DenP tf H' v t := by
  induction h with
  | int i => exact .int i
  | str x h => exact .str x h
  | sl hm h _ _ iha ihb => exact .sl hm (e.keep _ _ h True.intro fun _ z => nomatch z) iha ihb
def tfP (m : Str) (a b : V) : List V := [.str m, a, b]
def tfT (m : Str) (a b : V) : List V := [.str "seal of", b, a, .str m]
def datP : Tm → PyData
  | .int i => .int i
  | .str x => .str x
  | .sl m a b => .tuple [.str m, datP a, datP b]
def datT : Tm → PyData
  | .int i => .int i
  | .str x => .str x
  | .sl m a b => .tuple [.str "seal of", datT b, datT a, .str m]
theorem DenP.dp {K : PySem.W.Frag} {H : Hp} {v : V} {t : Tm} (h : DenP tfP H v t) : Dp K H v (datP t) ∧ (datP t).canLay0 = true ∧ (datP t).depth ≤ t.dep := by
  induction h with
  | int i => exact ⟨.int i, rfl, Nat.le_refl _⟩
  | str x h => exact ⟨.str x, h, Nat.le_refl _⟩
  | @sl p m va vb a b hm h _ _ iha ihb =>
    obtain ⟨a1, a2, a3⟩ := iha
    obtain ⟨b1, b2, b3⟩ := ihb
    refine ⟨.tup (SqT.of h) (.cons (.str m) (.cons a1 (.cons b1 .nil))), ?_, ?_⟩
    · show (PySem.PyData.strOk m && ((datP a).canLay0 && ((datP b).canLay0 && true))) = true
      rw [show PySem.PyData.strOk m = true from hm, a2, b2]
      rfl
    · show max 0 (max (datP a).depth (max (datP b).depth 0)) + 1 ≤ max a.dep b.dep + 1
      omega
theorem DenP.dt {K : PySem.W.Frag} {H : Hp} {v : V} {t : Tm} (h : DenP tfT H v t) : Dp K H v (datT t) ∧ (datT t).canLay0 = true ∧ (datT t).depth ≤ t.dep := by
  induction h with
  | int i => exact ⟨.int i, rfl, Nat.le_refl _⟩
  | str x h => exact ⟨.str x, h, Nat.le_refl _⟩
  | @sl p m va vb a b hm h _ _ iha ihb =>
    obtain ⟨a1, a2, a3⟩ := iha
    obtain ⟨b1, b2, b3⟩ := ihb
    refine ⟨.tup (SqT.of h) (.cons (.str _) (.cons b1 (.cons a1 (.cons (.str m) .nil)))), ?_, ?_⟩
    · show (PySem.PyData.strOk "seal of" && ((datT b).canLay0 && ((datT a).canLay0 && (PySem.PyData.strOk m && true)))) = true
      rw [show PySem.PyData.strOk m = true from hm, a2, b2]
      decide +kernel
    · show max 0 (max (datT b).depth (max (datT a).depth (max 0 0))) + 1 ≤ max a.dep b.dep + 1
      omega
def plainSys (tf : Str → V → V → List V) (f : Addr) : Sys := ⟨f, fun H v t => DenP tf H v t, fun _ _ => True⟩
theorem goodP {K : PySem.W.Frag} (f : Addr) : (plainSys tfP f).Good K :=
  ⟨fun e h => h.mono e, fun _ _ => trivial, fun _ _ => trivial, fun i _ => .int i, fun x _ h => .str x h, fun h h' => ⟨_, DenP.dp h |>.1, DenP.dp h' |>.1, (DenP.dp (K := K) h).2.1, (DenP.dp (K := K) h).2.2⟩⟩
theorem goodT {K : PySem.W.Frag} (f : Addr) : (plainSys tfT f).Good K :=
  ⟨fun e h => h.mono e, fun _ _ => trivial, fun _ _ => trivial, fun i _ => .int i, fun x _ h => .str x h, fun h h' => ⟨_, DenP.dt h |>.1, DenP.dt h' |>.1, (DenP.dt (K := K) h).2.1, (DenP.dt (K := K) h).2.2⟩⟩
section
variable {P : Program} {w : World} {K : PySem.W.Frag} {mg : Str → Option Value} {base : Heap}
theorem fnAt_fun {x qual : Str} {st : Stmt} {f : Addr} {fd : FuncData} (F : L2.Fun K x qual st f fd) {h : Heap} (X : K.In h) : PySem.W.FnAt f h := by
  obtain ⟨oc, od, kV, doc, pm, an, cdv, ct, osl, rfl, lk, _⟩ := F.ex
  exact ⟨_, _, _, _, X _ _ lk⟩
def spTup (tf : Str → V → V → List V) : Sp := fun vs H Q _ => ∃ m a b, vs = [.str m, a, b] ∧ ∀ p, H p = none → Q (.ref p) (upd H p (.tup (tf m a b)))
theorem held_plain {tf : Str → V → V → List V} {x : Str} {st : Stmt} {ps : List Str} {f : Addr} {fd : FuncData} (F : L2.Fun K x x st f fd) (b : ∀ us : List Value, us.length = ps.length → bindArgs fd ⟨us, []⟩ = pure (ps.zip us)) (G : FnOk P w K mg base L2.CX0 1 f fd ps (spTup tf)) :
    HeldSl P w K mg base 1 (plainSys tf f) := by
  refine ⟨fun H h r X _ _ => fnAt_fun F X, fun A outer s H us vs Q E hr e0 rv h => ?_⟩
  obtain ⟨r, m, a, b', va, vb, rfl, hm, _, ha, hb, q⟩ := h
  have hsp : spTup tf [.str m, va, vb] H Q E := ⟨m, va, vb, rfl, fun p hp => q _ _ (Ext.new hp) True.intro (.sl hm upd_same (ha.mono (Kp.new hp).gr) (hb.mono (Kp.new hp).gr))⟩
  have hl : us.length = ps.length := by rw [← rv.length]; exact G.len _ _ _ _ hsp
  exact G.run A outer s H ⟨us, []⟩ us _ Q E hr e0 (.of_eq (b us hl)) rv hsp
/-! ### a seal that numbers its threes -/
def tab (ks : List (List Key)) : List (List Key × V) := ks.zipIdx.map fun p => (p.1, V.int ((p.2 : Nat) : Int))
theorem tab_snoc (ks : List (List Key)) (k : List Key) : tab (ks ++ [k]) = tab ks ++ [(k, V.int ((ks.length : Nat) : Int))] := by
  unfold tab
  rw [List.zipIdx_append, List.map_append]
  simp
theorem tab_len (ks : List (List Key)) : (tab ks).length = ks.length := by
  unfold tab
  rw [List.length_map, List.length_zipIdx]
theorem valV_app {κ : Type} [DecidableEq κ] (k : κ) : ∀ (l r : List (κ × V)) {v : V}, valV l k = some v → valV (l ++ r) k = some v
  | [], _, _, h => by cases h
  | p :: l, r, v, h => by
    by_cases e : p.1 = k
    · rw [valV_pos e] at h
      rw [List.cons_append, valV_pos e]
      exact h
    · rw [valV_neg e] at h
      rw [List.cons_append, valV_neg e]
      exact valV_app k l r h
theorem tab_at {ks : List (List Key)} {k : List Key} {v : V} (h : valV (tab ks) k = some v) : ∃ n : Nat, v = .int (n : Int) ∧ ks[n]? = some k := by
  unfold valV at h
  obtain ⟨p, hp, rfl⟩ := Option.map_eq_some_iff.mp h
  have h1 := List.mem_of_find?_eq_some hp
  have h2 : decide (p.1 = k) = true := List.find?_some (p := fun kv : List Key × V => decide (kv.1 = k)) hp
  obtain ⟨q, hq, rfl⟩ := List.mem_map.mp h1
  refine ⟨q.2, rfl, ?_⟩
  have h3 : q.1 = k := of_decide_eq_true h2
  have h4 := List.mk_mem_zipIdx_iff_getElem?.mp (show (q.1, q.2) ∈ ks.zipIdx from hq)
  rw [h4, h3]
inductive DenN (kvs : List (List Key × V)) : Key → Tm → Prop
  | int (i : Int) : DenN kvs (.inl i) (.int i)
  | str (x : Str) (h : txtOk x = true) : DenN kvs (.inr x) (.str x)
  | sl {m : Str} {ka kb : Key} {a b : Tm} {n : Int} (ha : DenN kvs ka a) (hb : DenN kvs kb b) (h : valV kvs [.inr m, ka, kb] = some (.int n)) : DenN kvs (.inl n) (.sl m a b)
theorem DenN.app {kvs more : List (List Key × V)} {k : Key} {t : Tm} (h : DenN kvs k t) : DenN (kvs ++ more) k t := by
  induction h with
  | int i => exact .int i
  | str x h => exact .str x h
  | sl _ _ h iha ihb => exact .sl iha ihb (valV_app _ _ _ h)
theorem DenN.fn {kvs : List (List Key × V)} {k : Key} {t : Tm} (h : DenN kvs k t) : ∀ {k'}, DenN kvs k' t → k = k' := by
  induction h with
  | int i => intro k' h'; cases h'; rfl
  | str x h => intro k' h'; cases h'; rfl
  | sl _ _ h iha ihb =>
    intro k' h'
    cases h' with
    | sl ha' hb' h' =>
      rw [← iha ha', ← ihb hb', h] at h'
      cases h'
      rfl
theorem DenN.lay {kvs : List (List Key × V)} {k : Key} {t : Tm} (h : DenN kvs k t) (K : PySem.W.Frag) (H : Hp) : ∃ d, Dp K H (kV k) d ∧ d.canLay0 = true ∧ d.depth = 0 := by
  cases h with
  | int i => exact ⟨.int i, .int i, rfl, rfl⟩
  | str x h => exact ⟨.str x, .str x, h, rfl⟩
  | sl _ _ _ => exact ⟨.int _, .int _, rfl, rfl⟩
/-- the cell at c holds the dict at d -/
def CellO (c d : Addr) : HO := .ext fun h => h.IsCell c (some (.ref d))
theorem cellO_at {H : Hp} {h : Heap} {c d : Addr} (hok : HOk P w H h) (e : H c = some (CellO c d)) : h.IsCell c (some (.ref d)) := (hok c _ e).1
theorem cellO_ok {H : Hp} {h : Heap} {c d : Addr} (e : h.IsCell c (some (.ref d))) : ObjOk P w H h c (CellO c d) := by
  obtain ⟨o, ho, hd⟩ := id e
  exact ⟨e, ⟨o, ho⟩, fun h1 h2 ⟨o', ho', hd'⟩ st => ⟨o', st _ ho', hd'⟩⟩
structure NumD where
  f : Addr
  q : Str
  c : Addr
  c0 : Addr
  d : Addr
abbrev NumD.F (N : NumD) : NdefX.NF := NdefX.NF.of s__law_numbering__law_numbered "_law_numbered" N.q [("_law_told", N.c0)] N.c
structure NumOk (N : NumD) (H : Hp) (r : Nat) : Prop where
  dict : ∃ ks, H N.d = some (.dT (tab ks)) ∧ ks.length + r ≤ sizeLine
  fn : H N.f = some (NdefX.FnO N.f N.F)
  code : H N.c = some (LamX.CodeO N.c N.q)
  cell : H N.c0 = some (CellO N.c0 N.d)
def numSys (N : NumD) : Sys := ⟨N.f, fun H v t => ∃ kvs k, H N.d = some (.dT kvs) ∧ DenN kvs k t ∧ v = kV k, fun H r => NumOk N H r⟩
theorem goodN (N : NumD) : (numSys N).Good K := by
  refine ⟨?_, ?_, ?_, ?_, ?_, ?_⟩
  · rintro H H' v t e ⟨kvs, k, hd, hk, rfl⟩
    obtain ⟨more, e1⟩ := e.grow _ _ hd
    exact ⟨_, k, e1, hk.app, rfl⟩
  · rintro H H' r e ⟨⟨ks, h1, h2⟩, h3, h4, h5⟩
    exact ⟨⟨ks, e _ _ h1 True.intro, h2⟩, e _ _ h3 True.intro, e _ _ h4 True.intro, e _ _ h5 True.intro⟩
  · rintro H r r' ⟨⟨ks, h1, h2⟩, h3, h4, h5⟩ hr
    exact ⟨⟨ks, h1, by omega⟩, h3, h4, h5⟩
  · rintro H r i ⟨⟨ks, h1, h2⟩, _⟩
    exact ⟨_, .inl i, h1, .int i, rfl⟩
  · rintro H r x ⟨⟨ks, h1, h2⟩, _⟩ hx
    exact ⟨_, .inr x, h1, .str x hx, rfl⟩
  · rintro H v v' t ⟨kvs, k, h1, h2, rfl⟩ ⟨kvs', k', h1', h2', rfl⟩
    rw [h1] at h1'
    cases h1'
    have e := h2.fn h2'
    subst e
    obtain ⟨d, a, b, c⟩ := h2.lay K H
    exact ⟨d, a, a, b, by omega⟩
/-- its own promise: ws, what its cell holds -/
def spNumd (ws : List (Option V)) : Sp := fun vs H Q _ => ∃ (d : Addr) (ks : List (List Key)) (m : Str) (ka kb : Key), ws = [some (.ref d)] ∧ vs = [.str m, kV ka, kV kb] ∧ H d = some (.dT (tab ks)) ∧ ks.length < sizeLine ∧
  ∀ (n : Int) (H' : Hp) (more : List (List Key)), Ext H H' → H' d = some (.dT (tab (ks ++ more))) → more.length ≤ 1 → valV (tab (ks ++ more)) [.inr m, ka, kb] = some (.int n) → Q (.int n) H'
theorem scN : NdefX.NScope N__law_numbering__law_numbered ["_law_mark", "_law_one", "_law_two"] ["_law_told"] (defScope s__law_numbering__law_numbered) := NdefX.nscope_by (by decide +kernel)
theorem nok_num (mlen : mg "len" = none) (N : NumD) : NdefX.NOk P w K mg base L2.CX0 1 N.f N.F ["_law_mark", "_law_one", "_law_two"] ["_law_told"] spNumd := by
  refine NdefX.nok_of (N := N__law_numbering__law_numbered) scN (fun _ _ _ us hl => match us, hl with | [_, _, _], _ => rfl) (fun ws vs H Q E h => ?_) (fun A outer s H vs ws Q E hr hf hc hw h => ?_)
  · obtain ⟨d, ks, m, ka, kb, _, rfl, _⟩ := h
    rfl
  obtain ⟨d, ks, m, ka, kb, rfl, rfl, hd, hl, q⟩ := h
  have hu : (NdefX.ncx L2.CX0 P w K mg base N__law_numbering__law_numbered N.F N.f A outer s H E).A.units + 1 < cLine := hu_of hr
  refine ⟨_, (pss_cons (ps_if (pt_cmp (pc_dnotin hu (pe_tup (pa_cons (pv 0) (pa_cons (pv 1) (pa_cons (pv 2) pa_nil)))) (pv 3))) (pss_one (ps_dput hu (pv 3) (pe_tup (pa_cons (pv 0) (pa_cons (pv 1) (pa_cons (pv 2) pa_nil)))) (pe_callB call_len_dT rfl mlen PySem.boot_len (pa_cons (pv 3) pa_nil)) rfl)) pss_nil)
  (pss_one (ps_ret (pe_dget hu (pv 3) (pe_tup (pa_cons (pv 0) (pa_cons (pv 1) (pa_cons (pv 2) pa_nil)))) (fun _ _ => rfl))))), ?_⟩
  have ek : ([.str m, kV ka, kV kb] : List V) = ([.inr m, ka, kb] : List Key).map kV := rfl
  have hp0 : ∀ p : Addr, H p = none → d ≠ p := fun p hp => ne_of_none hd hp
  refine ⟨_, rfl, _, rfl, _, rfl, (by show 3 ≤ sizeLine; decide), fun p hp => ?_⟩
  have d1 : upd H p (.tup [.str m, kV ka, kV kb]) d = some (.dT (tab ks)) := by
    rw [upd_ne (hp0 p hp)]
    exact hd
  refine ⟨_, rfl, d, _, rfl, DGet.t (k := [.inr m, ka, kb]) d1 upd_same, _, rfl, ?_⟩
  cases hv : valV (tab ks) [.inr m, ka, kb] with
  | some v =>
    obtain ⟨n, rfl, _⟩ := tab_at hv
    refine iteF ?_
    refine ⟨_, rfl, _, rfl, _, rfl, _, rfl, (by show 3 ≤ sizeLine; decide), fun p2 hp2 => ?_⟩
    have d2 : upd (upd H p (.tup [.str m, kV ka, kV kb])) p2 (.tup [.str m, kV ka, kV kb]) d = some (.dT (tab ks)) := by
      rw [upd_ne (ne_of_none d1 hp2)]
      exact d1
    refine ⟨d, .int n, rfl, ?_, ?_⟩
    · have g := DGet.t (k := [.inr m, ka, kb]) d2 upd_same
      rw [hv] at g
      exact g
    · exact q n _ [] ((Ext.new hp).trans (Ext.new hp2)) (by rw [List.append_nil]; exact d2) (Nat.zero_le _) (by rw [List.append_nil]; exact hv)
  | none =>
    refine iteT ?_
    refine ⟨_, rfl, d, _, rfl, d1, ?_⟩
    refine ⟨_, rfl, _, rfl, _, rfl, _, rfl, (by show 3 ≤ sizeLine; decide), fun p2 hp2 => ?_⟩
    have d2 : upd (upd H p (.tup [.str m, kV ka, kV kb])) p2 (.tup [.str m, kV ka, kV kb]) d = some (.dT (tab ks)) := by
      rw [upd_ne (ne_of_none d1 hp2)]
      exact d1
    refine ⟨d, _, rfl, DPut.t (k := [.inr m, ka, kb]) d2 upd_same (by rw [tab_len]; exact hl), ?_⟩
    rw [putK_new _ hv, tab_len, ← tab_snoc]
    have x2 : Ext H (upd (upd H p (.tup [.str m, kV ka, kV kb])) p2 (.tup [.str m, kV ka, kV kb])) := (Ext.new hp).trans (Ext.new hp2)
    have x3 : Ext H (upd (upd (upd H p (.tup [.str m, kV ka, kV kb])) p2 (.tup [.str m, kV ka, kV kb])) d (.dT (tab (ks ++ [[.inr m, ka, kb]])))) := by
      refine ⟨fun a o ha hn => ?_, fun a kvs ha => ?_⟩
      · rw [upd_ne (show a ≠ d from fun z => by rw [z, hd] at ha; exact hn _ (Option.some.inj ha).symm)]
        exact x2.keep a o ha hn
      · by_cases e : a = d
        · subst e
          rw [hd] at ha
          cases ha
          exact ⟨[(_, _)], by rw [upd_same, tab_snoc]⟩
        · rw [upd_ne e]
          exact x2.grow a kvs ha
    have d3 : upd (upd (upd H p (.tup [.str m, kV ka, kV kb])) p2 (.tup [.str m, kV ka, kV kb])) d (.dT (tab (ks ++ [[.inr m, ka, kb]]))) d = some (.dT (tab (ks ++ [[.inr m, ka, kb]]))) := upd_same
    generalize upd (upd (upd H p (.tup [.str m, kV ka, kV kb])) p2 (.tup [.str m, kV ka, kV kb])) d (.dT (tab (ks ++ [[.inr m, ka, kb]]))) = H3 at x3 d3 ⊢
    refine ⟨_, rfl, _, rfl, _, rfl, _, rfl, (by show 3 ≤ sizeLine; decide), fun p3 hp3 => ?_⟩
    have d4 : upd H3 p3 (.tup [.str m, kV ka, kV kb]) d = some (.dT (tab (ks ++ [[.inr m, ka, kb]]))) := by
      rw [upd_ne (ne_of_none d3 hp3)]
      exact d3
    have hv3 : valV (tab (ks ++ [[.inr m, ka, kb]])) [.inr m, ka, kb] = some (.int ((ks.length : Nat) : Int)) := by
      rw [tab_snoc, valV_snoc _ _ _ _ hv, if_pos rfl]
    refine ⟨d, .int ((ks.length : Nat) : Int), rfl, ?_, ?_⟩
    · have g := DGet.t (k := [.inr m, ka, kb]) d4 upd_same
      rw [hv3] at g
      exact g
    · exact q _ _ _ (x3.trans (Ext.new hp3)) d4 (Nat.le_refl _) hv3
/-- its cell set aside for the call -/
def er (H : Hp) (c : Addr) : Hp := fun b => if b = c then none else H b
theorem er_ne {H : Hp} {c b : Addr} (h : b ≠ c) : er H c b = H b := if_neg h
theorem er_same {H : Hp} {c : Addr} : er H c c = none := if_pos rfl
theorem er_some {H : Hp} {c b : Addr} {o : HO} (h : er H c b = some o) : b ≠ c ∧ H b = some o := by
  by_cases e : b = c
  · rw [e, er_same] at h
    cases h
  · rw [er_ne e] at h
    exact ⟨e, h⟩
theorem cell_ne_own {H : Hp} {c d a b : Addr} (e : H c = some (CellO c d)) (h : H b = some (.own a)) : b ≠ c := fun z => by
  rw [z, e] at h
  have h : HO.ext _ = HO.own a := Option.some.inj h
  cases h
theorem cell_ne_tup {H : Hp} {c d b : Addr} {xs : List V} (e : H c = some (CellO c d)) (h : H b = some (.tup xs)) : b ≠ c := fun z => by
  rw [z, e] at h
  have h : HO.ext _ = HO.tup xs := Option.some.inj h
  cases h
theorem er_hok {H : Hp} {h : Heap} {c d : Addr} (e : H c = some (CellO c d)) (ok : HOk P w H h) : HOk P w (er H c) h := fun a o ha => by
  obtain ⟨n, ha'⟩ := er_some ha
  exact (ok a o ha').stay (fun _ _ _ q => q) (fun b hb => by rw [er_ne (cell_ne_own e hb)]; exact hb) fun b xs hb => by rw [er_ne (cell_ne_tup e hb)]; exact hb
theorem held_num (mlen : mg "len" = none) (N : NumD) : HeldSl P w K mg base 1 (numSys N) := by
  refine ⟨fun H h r X ok h1 => ?_, fun A outer s H us vs Q E hr e0 rv h => ?_⟩
  · obtain ⟨od, sl, doc, pm, ctv, e⟩ := NdefX.fnO_at ok h1.fn
    exact ⟨_, _, _, _, e⟩
  obtain ⟨r, m, a, b, va, vb, rfl, hm, ok, ha, hb, q⟩ := h
  obtain ⟨⟨ks, hd, hl⟩, hf, hc, hcell⟩ := id ok
  obtain ⟨kvs, ka, hd1, hka, rfl⟩ := ha
  obtain ⟨kvs', kb, hd2, hkb, rfl⟩ := hb
  rw [hd] at hd1 hd2
  cases hd1
  cases hd2
  have isC := cellO_at e0.hok hcell
  have nf : N.f ≠ N.c0 := fun z => by
    obtain ⟨od, sl, doc, pm, ctv, e⟩ := NdefX.fnO_at e0.hok hf
    obtain ⟨o, e', d'⟩ := id isC
    rw [z, e'] at e
    cases e
    cases d'
  have nc : N.c ≠ N.c0 := fun z => by
    obtain ⟨c, oc, us, t, e1, e2, e3, e4⟩ := NdefX.codeO_at e0.hok hc
    cases e1
    obtain ⟨o, e', d'⟩ := id isC
    rw [z, e'] at e2
    cases e2
    rw [d'] at e3
    cases e3
  have nd : N.d ≠ N.c0 := fun z => by
    rw [z, hcell] at hd
    have hd : HO.ext _ = HO.dT _ := Option.some.inj hd
    cases hd
  have e1 : Env0 P w K mg base A outer s (er H N.c0) := by
    refine ⟨e0.frames, e0.mod, fun b o hb => ⟨(e0.bs b o hb).1, ?_⟩, e0.bsz, e0.funs, fun b hb => ?_, er_hok hcell e0.hok, e0.bare⟩
    · by_cases z : b = N.c0
      · rw [z, er_same]
      · rw [er_ne z]
        exact (e0.bs b o hb).2
    · by_cases z : b = N.c0
      · rw [z, er_same]
      · rw [er_ne z]
        exact e0.frf b hb
  have lk : ∀ {y : Str} {c : Addr}, List.lookup y N.F.cl = some c → y = "_law_told" ∧ c = N.c0 := fun {y c} h => by
    have h : List.lookup y [(("_law_told" : Str), N.c0)] = some c := h
    by_cases z : y = "_law_told"
    · subst z
      simp at h
      exact ⟨rfl, h.symm⟩
    · have z' : (y == ("_law_told" : Str)) = false := beq_eq_false_iff_ne.mpr z
      unfold List.lookup at h
      rw [z'] at h
      cases h
  have CA : NdefX.CellsAt N.F.cl ["_law_told"] [some (.ref N.d)] s.heap (er H N.c0) := by
    refine ⟨rfl, fun y c h => ?_, fun x y c h1 h2 => (lk h1).1.trans (lk h2).1.symm, fun i y h => ?_⟩
    · rw [(lk h).2]
      exact ⟨er_same, _, isC⟩
    · cases i with
      | zero =>
        cases h
        refine ⟨N.c0, by simp [List.lookup, NdefX.NF.of], fun v hv => ?_⟩
        cases hv
        exact ⟨_, rfl, isC⟩
      | succ i => simp at h
  have nfr : N.c0 ∉ frs outer := fun z => by
    have := e0.frf _ z
    rw [hcell] at this
    cases this
  refine codeAny_mono ((nok_num mlen N).run A outer s (er H N.c0) us _ [some (.ref N.d)] (fun v H' => Q v (upd H' N.c0 (CellO N.c0 N.d))) E hr e1 (by rw [er_ne nf]; exact hf) (by rw [show N.F.c = N.c from rfl, er_ne nc]; exact hc) CA rv
    ⟨N.d, ks, m, ka, kb, rfl, rfl, by rw [er_ne nd]; exact hd, by omega, fun n H' more x hd' hmore hv => ?_⟩) fun res s' hq => ?_
  · have kp : ∀ b o, H b = some o → b ≠ N.c0 → (∀ kvs, o ≠ .dT kvs) → H' b = some o := fun b o hb hn hn2 => x.keep b o (by rw [er_ne hn]; exact hb) hn2
    refine q _ _ ⟨fun b o hb hn => ?_, fun b kvs hb => ?_⟩ ⟨⟨ks ++ more, ?_, ?_⟩, ?_, ?_, upd_same⟩ ⟨_, .inl n, by rw [upd_ne nd]; exact hd', ?_, rfl⟩
    · by_cases z : b = N.c0
      · rw [z, upd_same]
        rw [z, hcell] at hb
        exact hb
      · rw [upd_ne z]
        exact kp b o hb z hn
    · have z : b ≠ N.c0 := fun z => by
        rw [z, hcell] at hb
        have hb : HO.ext _ = HO.dT _ := Option.some.inj hb
        cases hb
      rw [upd_ne z]
      exact x.grow b kvs (by rw [er_ne z]; exact hb)
    · rw [upd_ne nd]
      exact hd'
    · rw [List.length_append]
      omega
    · rw [upd_ne nf]
      exact kp _ _ hf nf fun _ z => HO.noConfusion z
    · rw [upd_ne nc]
      exact kp _ _ hc nc fun _ z => HO.noConfusion z
    · have t : ∀ {k t}, DenN (tab ks) k t → DenN (tab (ks ++ more)) k t := fun {k t} h => by
        obtain ⟨m2, e2⟩ := x.grow N.d (tab ks) (by rw [er_ne nd]; exact hd)
        rw [hd'] at e2
        have e3 : tab (ks ++ more) = tab ks ++ m2 := by
          have e2 := Option.some.inj e2
          injection e2
        rw [e3]
        exact h.app
      exact .sl (t hka) (t hkb) hv
  · cases res with
    | error e => exact hq
    | ok fl =>
      cases fl with
      | next => exact hq
      | brk => exact hq
      | cont => exact hq
      | ret u =>
        obtain ⟨v, H', os, bare, un, hok, rvu, q'⟩ := hq
        have nH : ∀ b, H b = none → b ≠ N.c0 := fun b hb z => by
          rw [z, hcell] at hb
          cases hb
        have ern : ∀ b, H b = none → er H N.c0 b = none := fun b hb => by
          rw [er_ne (nH b hb)]
          exact hb
        obtain ⟨oc, hoc, hod⟩ := id isC
        have hH' : H' N.c0 = none := un.free _ oc hoc er_same (by simp)
        have hcs : s'.heap.get? N.c0 = some oc := un.keep _ oc hoc er_same nfr (by simp)
        refine ⟨v, upd H' N.c0 (CellO N.c0 N.d), os, bare, ⟨fun b o e n hb hx => un.keep b o e (ern b n) hb hx, fun b o e n hb hx => un.slot b o e (ern b n) hb hx, fun b o e n hx => ?_, un.there, fun b xs e => ?_, fun b o u e => ?_, fun b ps e => ?_⟩, fun b u e => ?_, rvu, q'⟩
        · rw [upd_ne (nH b n)]
          exact un.free b o e (ern b n) hx
        · have z := cell_ne_tup hcell e
          rw [upd_ne z]
          exact un.tups b xs (by rw [er_ne z]; exact e)
        · have z : b ≠ N.c0 := fun z => by
            rw [z, hcell] at e
            have e : HO.ext _ = HO.frz _ _ := Option.some.inj e
            cases e
          rw [upd_ne z]
          exact un.frzs b o u (by rw [er_ne z]; exact e)
        · have z : b ≠ N.c0 := fun z => by
            rw [z, hcell] at e
            have e : HO.ext _ = HO.tbl _ := Option.some.inj e
            cases e
          obtain ⟨more, hm⟩ := un.tbls b ps (by rw [er_ne z]; exact e)
          exact ⟨more, by rw [upd_ne z]; exact hm⟩
        · by_cases z : b = N.c0
          · rw [z, upd_same] at e
            cases e
            rw [z]
            exact cellO_ok ⟨oc, hcs, hod⟩
          · rw [upd_ne z] at e
            exact (hok b u e).stay (fun _ _ _ q => q) (fun b hb => by rw [upd_ne (ne_of_none hb hH')]; exact hb) fun b xs hb => by rw [upd_ne (ne_of_none hb hH')]; exact hb
end

/-! ### the three seals, by the law's own defs -/
section
variable {P : Program} {w : World} {K : PySem.W.Frag} {mg : Str → Option Value} {base : Heap}
theorem fn_plain {f : Addr} {fd : FuncData} (F : L2.Fun K "_law_plain" "_law_plain" s__law_plain f fd) : FnOk P w K mg base L2.CX0 1 f fd ["_law_mark", "_law_one", "_law_two"] (spTup tfP) := by
  refine F.ok sc__law_plain (fun vs H Q E h => ?_) (fun cdv A outer s H vs Q E hr h => ?_)
  · obtain ⟨m, a, b, rfl, _⟩ := h
    rfl
  obtain ⟨m, a, b, rfl, q⟩ := h
  refine ⟨_, (pss_one (ps_ret (pe_tup (pa_cons (pv 0) (pa_cons (pv 1) (pa_cons (pv 2) pa_nil)))))), ?_⟩
  exact ⟨_, rfl, _, rfl, _, rfl, (by show 3 ≤ sizeLine; decide), fun p hp => q p hp⟩
theorem fn_turned {f : Addr} {fd : FuncData} (F : L2.Fun K "_law_turned" "_law_turned" s__law_turned f fd) : FnOk P w K mg base L2.CX0 1 f fd ["_law_mark", "_law_one", "_law_two"] (spTup tfT) := by
  refine F.ok sc__law_turned (fun vs H Q E h => ?_) (fun cdv A outer s H vs Q E hr h => ?_)
  · obtain ⟨m, a, b, rfl, _⟩ := h
    rfl
  obtain ⟨m, a, b, rfl, q⟩ := h
  refine ⟨_, (pss_one (ps_ret (pe_tup (pa_cons pe_str (pa_cons (pv 2) (pa_cons (pv 1) (pa_cons (pv 0) pa_nil))))))), ?_⟩
  exact ⟨_, rfl, _, rfl, _, rfl, (by show 4 ≤ sizeLine; decide), fun p hp => q p hp⟩
/-- the three of them -/
def Fam3 (mg : Str → Option Value) : Sys → Prop := fun S => (∃ f, mg "_law_plain" = some (.ref f) ∧ S = plainSys tfP f) ∨ (∃ f, mg "_law_turned" = some (.ref f) ∧ S = plainSys tfT f) ∨ ∃ N : NumD, S = numSys N
theorem sla3 {cc : Addr} (T : Txt K mg cc) : SlA P w K mg base (Fam3 mg) := by
  obtain ⟨fP, fdP, FP, mP, bP⟩ := T.d__law_plain.ex
  obtain ⟨fT, fdT, FT, mT, bT⟩ := T.d__law_turned.ex
  refine ⟨fun {S} h => ?_, fun S h => ?_⟩
  · rcases h with ⟨f, _, rfl⟩ | ⟨f, _, rfl⟩ | ⟨N, rfl⟩
    · exact goodP f
    · exact goodT f
    · exact goodN N
  · rcases h with ⟨f, m, rfl⟩ | ⟨f, m, rfl⟩ | ⟨N, rfl⟩
    · rw [mP] at m
      cases m
      exact held_plain FP bP (fn_plain FP)
    · rw [mT] at m
      cases m
      exact held_plain FT bT (fn_turned FT)
    · exact held_num T.Z.len N
/-- its making: the table at PT is empty before -/
def spNumg (PT : Addr) : Sp := fun vs H Q _ => vs = [] ∧ H PT = some (.tbl #[]) ∧ ∀ (N : NumD) (H' : Hp), LamX.ExtN H H' → NumOk N H' sizeLine → Q (.ref N.f) H'
theorem fn_numbering {f c PT : Addr} {kV doc pm ct oc : Value} {an od : Option Addr} {osl : Array (Option Value)} (TB : LamX.TabB base mg c PT)
    (lk : K.lookup f = some ⟨oc, od, .func (PySem.W.fnOf "_law_numbering" "_law_numbering" (defArgs s__law_numbering) (defBody s__law_numbering) (defScope s__law_numbering) .none kV doc pm an (.ref c) ct), osl⟩) (hcd : PySem.W.codeIn K (.ref c) "_law_numbering" = true) :
    FnOk P w K mg base L2.CX0 1 f (PySem.W.fnOf "_law_numbering" "_law_numbering" (defArgs s__law_numbering) (defBody s__law_numbering) (defScope s__law_numbering) .none kV doc pm an (.ref c) ct) [] (spNumg PT) := by
  refine ⟨fun vs H Q E h => by rw [h.1] <;> rfl, fun A outer s H args us vs Q E hr e0 hb r hsp => ?_⟩
  obtain ⟨rfl, hPT, q⟩ := hsp
  have KX : K.In s.heap := e0.mod.kin.keeps fun b o e => (e0.bs b o e).1
  have lim : s.heap.NoLimit := e0.mod.nolimit.keeps fun b o e => (e0.bs b o e).1
  refine codeAny_call_function hr.depth (KX _ _ lk) rfl sc__law_numbering.co sc__law_numbering.gen rfl (PySem.W.codeRec_of KX hcd) (hb _ _ _ _ ?_)
  refine wpAny_newFunctionEnv_cells sc__law_numbering.kind (fun ⟨n, v⟩ hy => by simp at hy) fun env he s1 x => ?_
  subst he
  refine ⟨lim.keeps x.toInCall.keep, codeAny_func ?_⟩
  have I : Inv (cxOf L2.CX0 P w K mg base N__law_numbering "_law_numbering" (defScope s__law_numbering) f (.ref c) A outer s H E) [] (start N__law_numbering []) H s1 := inv_start sc__law_numbering hr.hd e0 rfl r x
  have b3 : defBody s__law_numbering = [(defBody s__law_numbering).getD 0 (.Pass ⟨0, 0, 0, 0⟩), inDef s__law_numbering 1, (defBody s__law_numbering).getD 2 (.Pass ⟨0, 0, 0, 0⟩)] := rfl
  refine wpAny_mono (Q := fun fl s' => ∃ u, fl = .ret u ∧ CE outer P w H s Q u s') ?_ (fun fl s' hs => ?_) fun e s' hs => hs
  · rw [b3]
    have hfree : NdefX.ndefB (defScope s__law_numbering) (C8.fnScope s__law_numbering__law_numbered) ["_law_told"] = true := by decide +kernel
    have e1 : PS (cxOf L2.CX0 P w K mg base N__law_numbering "_law_numbering" (defScope s__law_numbering) f (.ref c) A outer s H E) ((defBody s__law_numbering).getD 0 (.Pass ⟨0, 0, 0, 0⟩)) (tAsg tDNewT (gName 1)) := ps_set (i := 1) sc__law_numbering.nd rfl (Or.inr rfl) pe_dnewT
    have e2 := NdefX.ps_ndefS (X := cxOf L2.CX0 P w K mg base N__law_numbering "_law_numbering" (defScope s__law_numbering) f (.ref c) A outer s H E) (st := s__law_numbering__law_numbered) (name := "_law_numbered") (i := 0) (T := [(PT, fun _ _ => (envOfC "_law_numbering" (defScope s__law_numbering) s.heap.objs.size f (.ref c)).qual ++ "_law_numbered")]) (c := c) (P := PT)
      (nm := fun _ _ => (envOfC "_law_numbering" (defScope s__law_numbering) s.heap.objs.size f (.ref c)).qual ++ "_law_numbered") rfl TB rfl List.mem_cons_self rfl (fun p hp _ => by rw [List.mem_singleton.mp hp]) (NdefX.ndef_free hfree) rfl rfl rfl sc__law_numbering.nd rfl (Or.inl rfl) (Or.inl rfl)
    have e3 : PE (cxOf L2.CX0 P w K mg base N__law_numbering "_law_numbering" (defScope s__law_numbering) f (.ref c) A outer s H E) (match (defBody s__law_numbering).getD 2 (.Pass ⟨0, 0, 0, 0⟩) with | .Return (some e) _ => e | _ => .Name "" ⟨0, 0, 0, 0⟩) (tVar 0) := pv 0
    have b4 : ∃ pos : Pos, (defBody s__law_numbering).getD 2 (.Pass ⟨0, 0, 0, 0⟩) = .Return (some (match (defBody s__law_numbering).getD 2 (.Pass ⟨0, 0, 0, 0⟩) with | .Return (some e) _ => e | _ => .Name "" ⟨0, 0, 0, 0⟩)) pos := ⟨_, rfl⟩
    obtain ⟨pos, b4⟩ := b4
    refine wpAny_execs_cons (thn (e1.run [] s1 _ H ⟨fun σ H' => ∃ d, H d = none ∧ σ = [none, some (.ref d)] ∧ H' = upd H d (.dT []), fun _ _ => False, fun _ _ => False, fun _ _ => False⟩ I fun d nd => ⟨d, nd, rfl, rfl⟩) fun fl s2 h2 => ?_)
    cases fl with
    | ret v => obtain ⟨_, _, _, _, _, z⟩ := h2; exact z.elim
    | brk => obtain ⟨_, _, _, z⟩ := h2; exact z.elim
    | cont => obtain ⟨_, _, _, z⟩ := h2; exact z.elim
    | next =>
    obtain ⟨σ2, H2, I2, d, nd, rfl, rfl⟩ := h2
    have tb : NdefX.TabsN [(PT, fun _ _ => (envOfC "_law_numbering" (defScope s__law_numbering) s.heap.objs.size f (.ref c)).qual ++ "_law_numbered")] (upd H d (.dT [])) := fun p hp => by
      rw [List.mem_singleton.mp hp]
      exact NdefX.TabN.nil (by rw [upd_ne (ne_of_none hPT nd)]; exact hPT)
    refine wpAny_execs_cons (thn (e2.run [] s2 _ _ ⟨fun σ H' => ∃ f2 c2, LamX.ExtN (upd H d (.dT [])) H' ∧ σ = [some (.ref f2), some (.ref d)] ∧ H' f2 = some (NdefX.FnO f2 (NdefX.NF.of s__law_numbering__law_numbered "_law_numbered" ((envOfC "_law_numbering" (defScope s__law_numbering) s.heap.objs.size f (.ref c)).qual ++ "_law_numbered") [("_law_told", s.heap.objs.size + 1)] c2)) ∧
        H' c2 = some (LamX.CodeO c2 ((envOfC "_law_numbering" (defScope s__law_numbering) s.heap.objs.size f (.ref c)).qual ++ "_law_numbered")), fun _ _ => False, fun _ _ => False, fun _ _ => False⟩ I2 ⟨tb, fun f2 c2 H3 x3 _ _ hf2 hc2 => ⟨f2, c2, x3, rfl, hf2, hc2⟩⟩) fun fl s3 h3 => ?_)
    cases fl with
    | ret v => obtain ⟨_, _, _, _, _, z⟩ := h3; exact z.elim
    | brk => obtain ⟨_, _, _, z⟩ := h3; exact z.elim
    | cont => obtain ⟨_, _, _, z⟩ := h3; exact z.elim
    | next =>
    obtain ⟨σ3, H3, I3, f2, c2, x3, rfl, hf2, hc2⟩ := h3
    rw [b4]
    refine wpAny_execs_cons (wpAny_Return_some (thn (e3.run [] s3 _ H3 (fun v H' => v = .ref f2 ∧ H' = H3) I3 ⟨_, rfl, rfl, rfl⟩) fun u s4 h4 => ?_))
    obtain ⟨v, H4, I4, ru, rfl, rfl⟩ := h4
    refine ⟨u, rfl, ?_⟩
    -- the cell
    have hce : (cxOf L2.CX0 P w K mg base N__law_numbering "_law_numbering" (defScope s__law_numbering) f (.ref c) A outer s H E).env.cells.lookup ("_law_told" : Str) = some (s.heap.objs.size + 1) := rfl
    have isC : s4.heap.IsCell (s.heap.objs.size + 1) (some (.ref d)) := by
      obtain ⟨m, hn, hl⟩ := I4.loc
      obtain ⟨u2, r2, l2⟩ := hl 1 "_law_told" (.ref d) rfl rfl (.inr (.inl rfl))
      have e2 : u2 = .ref d := r2
      subst e2
      rcases l2 with ⟨k, _⟩ | ⟨_, c3, hc3, z⟩
      · cases (show some NameKind.cell = some NameKind.local from k)
      · rw [hce] at hc3
        cases hc3
        exact z
    have fc := I4.freeC _ _ hce
    have hs0 : H (s.heap.objs.size + 1) = none := e0.hok.fresh (Nat.le_succ _)
    have un := I4.base
    have xn : LamX.ExtN H (upd H4 (s.heap.objs.size + 1) (CellO (s.heap.objs.size + 1) d)) := fun b o hb hn => by
      rw [upd_ne (ne_of_none hb hs0)]
      exact x3 b o (by rw [upd_ne (ne_of_none hb nd)]; exact hb) hn
    have hd4 : H4 d = some (.dT []) := x3 d _ upd_same fun ps z => by cases z
    refine ⟨.ref f2, upd H4 (s.heap.objs.size + 1) (CellO (s.heap.objs.size + 1) d), I4.os, I4.bare, ⟨un.keep, un.slot, fun b o e n hx => ?_, un.there, fun b xs e => ?_, fun b o u e => ?_, fun b ps e => ?_⟩, fun b u e => ?_, ru, ?_⟩
    · rw [upd_ne (Nat.ne_of_lt (Nat.lt_succ_of_lt (Heap.lt_size e)))]
      exact un.free b o e n hx
    · rw [upd_ne (ne_of_none e hs0)]
      exact un.tups b xs e
    · rw [upd_ne (ne_of_none e hs0)]
      exact un.frzs b o u e
    · obtain ⟨more, hm⟩ := un.tbls b ps e
      exact ⟨more, by rw [upd_ne (ne_of_none e hs0)]; exact hm⟩
    · by_cases z : b = s.heap.objs.size + 1
      · rw [z, upd_same] at e
        cases e
        rw [z]
        exact cellO_ok isC
      · rw [upd_ne z] at e
        exact (I4.hok b u e).stay (fun _ _ _ q => q) (fun b hb => by rw [upd_ne (ne_of_none hb fc)]; exact hb) fun b xs hb => by rw [upd_ne (ne_of_none hb fc)]; exact hb
    · refine q ⟨f2, (envOfC "_law_numbering" (defScope s__law_numbering) s.heap.objs.size f (.ref c)).qual ++ "_law_numbered", c2, s.heap.objs.size + 1, d⟩ _ xn ⟨⟨[], ?_, ?_⟩, ?_, ?_, upd_same⟩
      · rw [upd_ne (ne_of_none hd4 fc)]
        exact hd4
      · exact Nat.le_of_eq (Nat.zero_add _)
      · rw [upd_ne (ne_of_none hf2 fc)]
        exact hf2
      · rw [upd_ne (ne_of_none hc2 fc)]
        exact hc2
  · obtain ⟨u, rfl, h⟩ := hs
    exact h
theorem cal_numbering {c PT : Addr} (D : DefM K mg "_law_numbering" s__law_numbering c) (TB : LamX.TabB base mg c PT) : Cal P w K mg base 1 "_law_numbering" (spNumg PT) [] := by
  obtain ⟨f, oc, od, kV, doc, pm, an, ct, osl, lk, hc, kp, m⟩ := D.ex
  exact ⟨f, _, [], [], fn_numbering TB lk hc, m, kp, .all fun us hl => match us, hl with | [], _ => rfl, .nil⟩
/-! ### the law's own helpers -/
/-- script[k] where it is, else 0 -/
def cell (ns : List Int) (k : Int) : Int := ns.getD k.toNat 0
def spCellA (K : PySem.W.Frag) : Sp := fun vs H Q _ => ∃ (a : Addr) (ns : List Int) (k : Int), vs = [.ref a, .int k] ∧ SqL K H a (ns.map V.int) ∧ 0 ≤ k ∧ Q (.int (cell ns k)) H
theorem ok_cell_at {cc : Addr} (T : Txt K mg cc) : Cal P w K mg base 1 "_law_cell_at" (spCellA K) [] := by
  have Z := T.Z
  refine cal_of T.d__law_cell_at sc__law_cell_at (fun vs H Q E h => ?_) (fun f cdv A outer s H vs Q E hr h => ?_)
  · obtain ⟨a, ns, k, rfl, _⟩ := h
    rfl
  obtain ⟨a, ns, k, rfl, hS, hk, q⟩ := h
  refine ⟨_, (pss_cons (ps_if (pt_cmpR op_lt (pv 1) (pe_callB call_len_seq rfl Z.len PySem.boot_len (pa_cons (pv 0) pa_nil)) (nomark _)) (pss_one (ps_ret (pe_ix ix_list (pv 0) (pv 1) (fun _ _ => rfl)))) pss_nil)
  (pss_one (ps_ret pe_int))), ?_⟩
  refine ⟨_, rfl, _, rfl, a, _, rfl, .inl hS, _, _, rfl, rfl, _, rfl, ?_⟩
  rw [List.length_map]
  refine ite2 (fun c => ?_) (fun c => ?_)
  · have c' : k < (ns.length : Int) := of_decide_eq_true c
    have hl : k.toNat < ns.length := by omega
    refine ⟨_, rfl, _, rfl, a, _, k, .int (cell ns k), rfl, rfl, hS, at_of (j := k.toNat) (by omega) ?_, q⟩
    rw [List.getElem?_map, List.getElem?_eq_getElem hl]
    unfold cell
    rw [List.getD_eq_getElem?_getD, List.getElem?_eq_getElem hl]
    rfl
  · have c' : ¬ k < (ns.length : Int) := of_decide_eq_false (Bool.eq_false_iff.mpr c)
    have e : cell ns k = 0 := by
      unfold cell
      rw [List.getD_eq_getElem?_getD, List.getElem?_eq_none (by omega)]
      rfl
    rw [e] at q
    exact q
/-- one of three seals, its state new -/
def spSlBy (K : PySem.W.Frag) (mg : Str → Option Value) (PT : Addr) : Sp := fun vs H Q _ => ∃ (a : Addr) (ns : List Int), vs = [.ref a] ∧ SqL K H a (ns.map V.int) ∧ H PT = some (.tbl #[]) ∧ ∀ (S : Sys) (H' : Hp), Fam3 mg S → LamX.ExtN H H' → S.ok H' sizeLine → Q (.ref S.f) H'
theorem ok_seal_by {cc PT : Addr} (T : Txt K mg cc) (TB : LamX.TabB base mg cc PT) : Cal P w K mg base 2 "_law_seal_by" (spSlBy K mg PT) [] := by
  have Z := T.Z
  obtain ⟨fP, fdP, FP, mP, bP⟩ := T.d__law_plain.ex
  obtain ⟨fT, fdT, FT, mT, bT⟩ := T.d__law_turned.ex
  obtain ⟨fN, fdN, psN, dsN, FN, mN, kN, bN, vN⟩ := (cal_numbering (P := P) (w := w) T.m__law_numbering TB).ex
  have C__law_cell_at := ok_cell_at (P := P) (w := w) (base := base) T
  refine cal_of T.d__law_seal_by sc__law_seal_by (fun vs H Q E h => ?_) (fun f cdv A outer s H vs Q E hr h => ?_)
  · obtain ⟨a, ns, rfl, _⟩ := h
    rfl
  obtain ⟨a, ns, rfl, hS, hPT, q⟩ := h
  refine ⟨_, (pss_cons (ps_set (i := 1) sc__law_seal_by.nd rfl (Or.inl rfl) (pe_op op_mod (pe_op op_fdiv (pe_c C__law_cell_at hr (by omega) rfl (pa_cons (pv 0) (pa_cons pe_int pa_nil))) pe_int) pe_int))
  (pss_cons (ps_if (pt_cmpR op_eq (pv 1) pe_int (nomark _)) (pss_one (ps_ret (pe_glob (v := .ref fP) rfl mP rfl))) pss_nil)
  (pss_cons (ps_if (pt_cmpR op_eq (pv 1) pe_int (nomark _)) (pss_one (ps_ret (pe_glob (v := .ref fT) rfl mT rfl))) pss_nil)
  (pss_one (ps_ret (pe_call0 FN hr rfl mN kN bN vN pass0)))))), ?_⟩
  refine ⟨_, rfl, a, ns, 0, rfl, hS, Int.le_refl 0, _, 7, rfl, rfl, ⟨by decide, by decide⟩, _, 3, rfl, rfl, (by show (0 : Int) < 3; decide), ?_⟩
  refine ⟨_, rfl, rfl, _, rfl, ite2 (fun _ => ?_) (fun _ => ?_)⟩
  · exact q (plainSys tfP fP) H (.inl ⟨fP, mP, rfl⟩) (LamX.ExtN.refl H) True.intro
  refine ⟨_, rfl, rfl, _, rfl, ite2 (fun _ => ?_) (fun _ => ?_)⟩
  · exact q (plainSys tfT fT) H (.inr (.inl ⟨fT, mT, rfl⟩)) (LamX.ExtN.refl H) True.intro
  have e0 : dsN = [] := by
    cases vN
    rfl
  subst e0
  exact ⟨rfl, hPT, fun N H' x ok => q (numSys N) H' (.inr (.inr ⟨N, rfl⟩)) x ok⟩
end

/-! ### the greatest power of two below a number -/
def splitN (n : Nat) : Nat := 2 ^ (n - 1).log2
theorem splitN_pos (n : Nat) : 0 < splitN n := Nat.two_pow_pos _
theorem splitN_lt {n : Nat} (h : 2 ≤ n) : splitN n < n := by
  have q := Nat.log2_self_le (show n - 1 ≠ 0 by omega)
  unfold splitN
  omega
theorem splitN_ge {n : Nat} (h : 2 ≤ n) : n ≤ 2 * splitN n := by
  have q : n - 1 < 2 ^ ((n - 1).log2 + 1) := Nat.lt_log2_self
  rw [Nat.pow_succ] at q
  unfold splitN
  omega
theorem splitN_of {n i : Nat} (h1 : 2 ^ i < n) (h2 : n ≤ 2 * 2 ^ i) : splitN n = 2 ^ i := by
  have h0 : n - 1 ≠ 0 := by
    have := Nat.two_pow_pos i
    omega
  have a : i ≤ (n - 1).log2 := (Nat.le_log2 h0).mpr (by omega)
  have b : (n - 1).log2 < i + 1 := (Nat.log2_lt h0).mpr (by rw [Nat.pow_succ]; omega)
  unfold splitN
  rw [show (n - 1).log2 = i by omega]
theorem splitN_le_pow {n k : Nat} (h : 2 ≤ n) (hk : n ≤ 2 ^ (k + 1)) : splitN n ≤ 2 ^ k ∧ n - splitN n ≤ 2 ^ k := by
  have h0 : n - 1 ≠ 0 := by omega
  have a : (n - 1).log2 < k + 1 := (Nat.log2_lt h0).mpr (by omega)
  have b : splitN n ≤ 2 ^ k := Nat.pow_le_pow_right (by decide) (by omega)
  have c := splitN_ge h
  exact ⟨b, by omega⟩
/-! ### the top of a row -/
def nonT : Tm := .sl "none" (.int 0) (.int 0)
def pairT (a b : Tm) : Tm := .sl "pair" a b
def topT (ts : List Tm) : Tm :=
  if h : ts.length < 2 then ts.headD nonT else pairT (topT (ts.take (splitN ts.length))) (topT (ts.drop (splitN ts.length)))
termination_by ts.length
decreasing_by
  · rw [List.length_take]
    have := splitN_lt (n := ts.length) (by omega)
    omega
  · rw [List.length_drop]
    have := splitN_pos ts.length
    omega
theorem topT_nil : topT [] = nonT := by rw [topT]; rfl
theorem topT_one (t : Tm) : topT [t] = t := by rw [topT]; rfl
theorem topT_single {ts : List Tm} (h : ts.length = 1) : topT ts = ts.getD 0 nonT := by
  match ts, h with
  | [t], _ => exact topT_one t
theorem topT_more {ts : List Tm} (h : 2 ≤ ts.length) : topT ts = pairT (topT (ts.take (splitN ts.length))) (topT (ts.drop (splitN ts.length))) := by
  rw [topT, dif_neg (by omega)]
theorem topT_dep {d : Nat} : ∀ (k : Nat) (ts : List Tm), ts.length ≤ 2 ^ k → (∀ t ∈ ts, t.dep ≤ d) → (topT ts).dep ≤ d + k + 1
  | 0, [], _, _ => by rw [topT_nil]; show 0 + 1 ≤ _; omega
  | 0, [t], _, h => by rw [topT_one]; have := h t List.mem_cons_self; omega
  | 0, t :: u :: r, h, _ => by simp at h
  | k + 1, ts, hl, h => by
    by_cases h2 : 2 ≤ ts.length
    · rw [topT_more h2]
      obtain ⟨a, b⟩ := splitN_le_pow h2 hl
      have e1 := topT_dep k (ts.take (splitN ts.length)) (by rw [List.length_take]; omega) fun t ht => h t (List.mem_of_mem_take ht)
      have e2 := topT_dep k (ts.drop (splitN ts.length)) (by rw [List.length_drop]; omega) fun t ht => h t (List.mem_of_mem_drop ht)
      show max _ _ + 1 ≤ _
      omega
    · match ts, h2 with
      | [], _ => rw [topT_nil]; show 0 + 1 ≤ _; omega
      | [t], _ => rw [topT_one]; have := h t List.mem_cons_self; omega
      | t :: u :: r, h2 => exact absurd (show 2 ≤ (t :: u :: r).length by simp) h2
/-- how many tellings a top wants -/
def costT (n : Nat) : Nat := if n = 0 then 1 else n - 1
theorem costT_split {n : Nat} (h : 2 ≤ n) : costT (splitN n) + costT (n - splitN n) + 1 ≤ costT n := by
  have a := splitN_pos n
  have b := splitN_lt h
  unfold costT
  rw [if_neg (by omega), if_neg (by omega), if_neg (by omega)]
  omega
theorem costT_le (n : Nat) : costT n ≤ n + 1 := by
  unfold costT
  split <;> omega

/-! ### split and the top, by the law's own defs -/
section
variable {P : Program} {w : World} {K : PySem.W.Frag} {mg : Str → Option Value} {base : Heap} {Fam : Sys → Prop}
/-- a def of which nothing is asked -/
def spNo : Sp := fun _ _ _ _ => False
theorem cal_no {x : Str} {st : Stmt} {ps : List Str} (D : DefX K mg x st ps) (k : Nat) : Cal P w K mg base k x spNo [] := by
  obtain ⟨f, fd, F, m, b⟩ := D.ex
  exact ⟨f, fd, ps, [], ⟨fun _ _ _ _ h => h.elim, fun _ _ _ _ _ _ _ _ _ _ _ _ _ h => h.elim⟩, m, F.kp, .all b, .nil⟩
theorem cal_mono {x : Str} {j k : Nat} {sp : Sp} {dvs : List V} (c : Cal P w K mg base j x sp dvs) (h : j ≤ k) : Cal P w K mg base k x sp dvs := by
  obtain ⟨f, fd, ps, ds, F, m, kp, b, v⟩ := c.ex
  exact ⟨f, fd, ps, ds, F.mono h, m, kp, b, v⟩
def spSplit : Sp := fun vs H Q _ => ∃ n : Nat, vs = [.int (n : Int)] ∧ 2 ≤ n ∧ n.log2 ≤ 100000 ∧ Q (.int ((splitN n : Nat) : Int)) H
theorem pow_cast (i : Nat) : (((2 ^ i : Nat) : Nat) : Int) = 2 ^ i := by
  rw [Int.natCast_pow]
  rfl
theorem ok_law_split {cc : Addr} (T : Txt K mg cc) : Cal P w K mg base 1 "_law_split" spSplit [] := by
  refine cal_of T.d__law_split sc__law_split (fun vs H Q E h => ?_) (fun f cdv A outer s H vs Q E hr h => ?_)
  · obtain ⟨n, rfl, _⟩ := h
    rfl
  obtain ⟨n, rfl, h2, hl, q⟩ := h
  refine ⟨_, (pss_cons (ps_set (i := 1) sc__law_split.nd rfl (Or.inl rfl) pe_int)
  (pss_cons (ps_while PassesOwn.never (pt_cmpR op_lt (pe_op op_mul (pv 1) pe_int) (pv 0) (nomark _)) (pss_one (ps_set (i := 1) sc__law_split.nd rfl (Or.inl rfl) (pe_op op_mul (pv 1) pe_int))))
  (pss_one (ps_ret (pv 1))))), ?_⟩
  refine ⟨fun m σ H' => ∃ i : Nat, m = n - 2 ^ i ∧ 2 ^ i < n ∧ σ = [some (.int (n : Int)), some (.int ((2 ^ i : Nat) : Int))] ∧ H' = H, ⟨_, 0, rfl, by simp; omega, rfl, rfl⟩, ?_⟩
  rintro m σ H' ⟨i, rfl, hi, rfl, rfl⟩
  have cm : CMul ((2 ^ i : Nat) : Int) 2 := .inr ⟨by decide, by decide⟩
  refine ⟨_, rfl, _, 2, rfl, rfl, cm, _, rfl, _, _, rfl, rfl, _, rfl, ite2 (fun c => ?_) (fun c => ?_)⟩
  · have c' : ((2 ^ i : Nat) : Int) * 2 < (n : Int) := of_decide_eq_true c
    refine ⟨fun σ' H'' => ∃ j : Nat, j = i + 1 ∧ σ' = [some (.int (n : Int)), some (.int ((2 ^ j : Nat) : Int))] ∧ H'' = H', fun σ' H'' ⟨j, ej, es, eh⟩ => ⟨n - 2 ^ j, ?_, j, rfl, ?_, es, eh⟩, ?_⟩
    · subst ej
      rw [Nat.pow_succ]
      have := Nat.two_pow_pos i
      omega
    · subst ej
      rw [Nat.pow_succ]
      omega
    · refine ⟨_, rfl, _, 2, rfl, rfl, cm, i + 1, rfl, ?_, rfl⟩
      have e : ((2 ^ i : Nat) : Int) * 2 = ((2 ^ (i + 1) : Nat) : Int) := by
        rw [Nat.pow_succ]
        omega
      show [some (V.int (n : Int)), some (V.int (((2 ^ i : Nat) : Int) * 2))] = _
      rw [e]
  · have c' : ¬ ((2 ^ i : Nat) : Int) * 2 < (n : Int) := of_decide_eq_false (Bool.eq_false_iff.mpr c)
    have e : splitN n = 2 ^ i := splitN_of hi (by omega)
    rw [e] at q
    exact ⟨_, rfl, q⟩
/-- the top of a row of leaves: two to the k of them at most -/
def spTop (K : PySem.W.Frag) (Fam : Sys → Prop) (k : Nat) : Sp := fun vs H Q _ => ∃ (S : Sys) (a : Addr) (xs : List V) (ts : List Tm) (r : Nat), Fam S ∧ vs = [.ref S.f, .ref a] ∧ SqL K H a xs ∧ DenL S H xs ts ∧ k ≠ 0 ∧ ts.length ≤ 2 ^ (k - 1) ∧ ts.length ≤ 1000 ∧ S.ok H (r + costT ts.length) ∧
  ∀ v H', Ext H H' → S.ok H' r → S.den H' v (topT ts) → Q v H'
theorem atI_den {S : Sys} {H : Hp} {xs : List V} {ts : List Tm} (h : DenL S H xs ts) {i : Int} (h0 : 0 ≤ i) (h1 : i < (ts.length : Int)) : ∃ v, atI xs i = some v ∧ S.den H v (ts.getD i.toNat nonT) := by
  have hi : i.toNat < ts.length := by omega
  obtain ⟨v, e, d⟩ := h.get hi
  refine ⟨v, at_of (j := i.toNat) (by omega) e, ?_⟩
  rw [List.getD_eq_getElem?_getD, List.getElem?_eq_getElem hi]
  exact d
theorem ok_law_top1 {cc : Addr} {k : Nat} (T : Txt K mg cc) (A : SlA P w K mg base Fam) (C__law_top : Cal P w K mg base (k + 2) "_law_top" (spTop K Fam k) []) : Cal P w K mg base (k + 3) "_law_top" (spTop K Fam (k + 1)) [] := by
  have Z := T.Z
  have C__law_split := ok_law_split (P := P) (w := w) (base := base) T
  refine cal_of T.d__law_top sc__law_top (fun vs H Q E h => ?_) (fun f cdv A' outer s H vs Q E hr h => ?_)
  · obtain ⟨S, a, xs, ts, r, _, rfl, _⟩ := h
    rfl
  obtain ⟨S, a, xs, ts, r, hF, rfl, hS, hD, _, hk, hl, hok, q⟩ := h
  have hlen := hD.len
  have G := A.good hF
  refine ⟨_, (pss_cons (ps_if (pt_cmpR op_eq (pe_callB call_len_seq rfl Z.len PySem.boot_len (pa_cons (pv 1) pa_nil)) pe_int (nomark _)) (pss_one (ps_ret (pe_sl (i := 0) A.held hr (by omega) rfl (by first | exact Or.inl rfl | exact Or.inr (Or.inl rfl) | exact Or.inr (Or.inr rfl)) (pa_cons pe_str (pa_cons pe_int (pa_cons pe_int pa_nil)))))) pss_nil)
  (pss_cons (ps_if (pt_cmpR op_eq (pe_callB call_len_seq rfl Z.len PySem.boot_len (pa_cons (pv 1) pa_nil)) pe_int (nomark _)) (pss_one (ps_ret (pe_ix ix_list (pv 1) pe_int (fun _ _ => rfl)))) pss_nil)
  (pss_cons (ps_set (i := 2) sc__law_top.nd rfl (Or.inl rfl) (pe_c C__law_split hr (by omega) rfl (pa_cons (pe_callB call_len_seq rfl Z.len PySem.boot_len (pa_cons (pv 1) pa_nil)) pa_nil)))
  (pss_one (ps_ret (pe_sl (i := 0) A.held hr (by omega) rfl (by first | exact Or.inl rfl | exact Or.inr (Or.inl rfl) | exact Or.inr (Or.inr rfl)) (pa_cons pe_str (pa_cons (pe_c C__law_top hr (by omega) rfl (pa_cons (pv 0) (pa_cons (pe_slice sl_list (pv 1) po_none (po_some (pv 2))) pa_nil))) (pa_cons (pe_c C__law_top hr (by omega) rfl (pa_cons (pv 0) (pa_cons (pe_slice sl_list (pv 1) (po_some (pv 2)) po_none) pa_nil))) pa_nil))))))))), ?_⟩
  -- no leaf
  refine ⟨_, rfl, a, _, rfl, .inl hS, rfl, _, rfl, ite2 (fun c => ?_) (fun c => ?_)⟩
  · have c' : (xs.length : Int) = 0 := V.int.inj (of_decide_eq_true c)
    have e : ts = [] := List.eq_nil_of_length_eq_zero (by omega)
    subst e
    refine ⟨S, _, hF, rfl, hok, r, "none", .int 0, .int 0, _, _, rfl, by decide +kernel, hok, G.int 0 hok, G.int 0 hok, fun v H' e ok d => q v H' e ok ?_⟩
    rw [topT_nil]
    exact d
  have n0 : xs.length ≠ 0 := fun z => c (decide_eq_true (by rw [z]; rfl))
  -- one
  refine ⟨_, rfl, a, _, rfl, .inl hS, rfl, _, rfl, ite2 (fun c => ?_) (fun c => ?_)⟩
  · have c' : (xs.length : Int) = 1 := V.int.inj (of_decide_eq_true c)
    obtain ⟨v, hv, dv⟩ := atI_den hD (i := 0) (Int.le_refl 0) (by omega)
    refine ⟨_, rfl, a, xs, 0, v, rfl, rfl, hS, hv, q v H (Ext.refl H) ?_ ?_⟩
    · refine G.less hok ?_
      omega
    · rw [topT_single (by omega)]
      exact dv
  have n1 : xs.length ≠ 1 := fun z => c (decide_eq_true (by rw [z]; rfl))
  -- more
  have h2 : 2 ≤ ts.length := by omega
  have hsl := splitN_lt h2
  have hsp := splitN_pos ts.length
  have hk1 : ts.length ≤ 2 ^ k := hk
  obtain ⟨k', rfl⟩ : ∃ k', k = k' + 1 := by
    cases k with
    | zero => simp at hk1; omega
    | succ k' => exact ⟨k', rfl⟩
  obtain ⟨b1, b2⟩ := splitN_le_pow h2 hk1
  have hcs := costT_split h2
  have lg := Nat.log2_le_self ts.length
  refine ⟨_, rfl, a, _, rfl, .inl hS, ts.length, by rw [hlen] <;> rfl, h2, by omega, ?_⟩
  refine ⟨S, _, hF, rfl, hok, ?_⟩
  -- the first part
  refine ⟨_, rfl, _, rfl, _, rfl, ((splitN ts.length : Nat) : Int), rfl, a, _, rfl, hS, fun p hp => ?_⟩
  rw [cut_to]
  have x1 := Ext.new (o := .lst (xs.take (splitN ts.length))) hp
  have k1 := Kp.new (o := .lst (xs.take (splitN ts.length))) hp
  refine ⟨S, p, _, ts.take (splitN ts.length), r + 1 + costT (ts.length - splitN ts.length), hF, rfl, SqL.of upd_same, (hD.take _).mono G k1.gr, by omega, ?_, ?_, ?_, fun v1 H1 x2 ok1 d1 => ?_⟩
  · rw [List.length_take]
    show _ ≤ 2 ^ k'
    omega
  · rw [List.length_take]
    omega
  · rw [List.length_take, Nat.min_eq_left (by omega)]
    exact G.less (G.keep k1 hok) (by omega)
  -- the rest
  have xx := x1.trans x2
  refine ⟨_, rfl, _, rfl, _, rfl, ((splitN ts.length : Nat) : Int), rfl, a, _, rfl, xx.seq hS, fun p2 hp2 => ?_⟩
  rw [cut_from]
  have x3 := Ext.new (o := .lst (xs.drop (splitN ts.length))) hp2
  have k3 := Kp.new (o := .lst (xs.drop (splitN ts.length))) hp2
  refine ⟨S, p2, _, ts.drop (splitN ts.length), r + 1, hF, rfl, SqL.of upd_same, ((hD.drop _).mono G xx.gr).mono G k3.gr, by omega, ?_, ?_, ?_, fun v2 H2 x4 ok2 d2 => ?_⟩
  · rw [List.length_drop]
    show _ ≤ 2 ^ k'
    omega
  · rw [List.length_drop]
    omega
  · rw [List.length_drop]
    exact G.keep k3 ok1
  refine ⟨r, "pair", topT (ts.take (splitN ts.length)), topT (ts.drop (splitN ts.length)), _, _, rfl, by decide +kernel, ok2, G.mono (x3.trans x4).gr d1, d2, fun v H' x5 ok3 d3 => ?_⟩
  refine q v H' (((xx.trans x3).trans x4).trans x5) ok3 ?_
  rw [topT_more h2]
  exact d3
theorem ok_law_top {cc : Addr} (T : Txt K mg cc) (A : SlA P w K mg base Fam) : ∀ k : Nat, Cal P w K mg base (k + 2) "_law_top" (spTop K Fam k) []
  | 0 => by
    obtain ⟨f, fd, ps, ds, F, m, kp, b, v⟩ := (cal_no (P := P) (w := w) (base := base) T.d__law_top 2).ex
    exact ⟨f, fd, ps, ds, F.imp fun vs H Q E h => by obtain ⟨_, _, _, _, _, _, _, _, _, z, _⟩ := h; exact absurd rfl z, m, kp, b, v⟩
  | k + 1 => ok_law_top1 T A (ok_law_top T A k)
end


/-! ### the program's seals and tops -/
section
variable {P : Program} {w : World} {K : PySem.W.Frag} {mg : Str → Option Value} {base : Heap} {Fam : Sys → Prop}
def spNone (Fam : Sys → Prop) : Sp := fun vs H Q _ => ∃ (S : Sys) (r : Nat), Fam S ∧ vs = [.ref S.f] ∧ S.ok H (r + 1) ∧ ∀ v H', Ext H H' → S.ok H' r → S.den H' v nonT → Q v H'
theorem ok_none_seal {cc : Addr} (T : Txt K mg cc) (A : SlA P w K mg base Fam) : Cal P w K mg base 2 "none_seal" (spNone Fam) [] := by
  refine cal_of T.d_none_seal sc_none_seal (fun vs H Q E h => ?_) (fun f cdv A' outer s H vs Q E hr h => ?_)
  · obtain ⟨S, r, _, rfl, _⟩ := h
    rfl
  obtain ⟨S, r, hF, rfl, hok, q⟩ := h
  have G := A.good hF
  refine ⟨_, (pss_one (ps_ret (pe_sl (i := 0) A.held hr (by omega) rfl (by first | exact Or.inl rfl | exact Or.inr (Or.inl rfl) | exact Or.inr (Or.inr rfl)) (pa_cons pe_str (pa_cons pe_int (pa_cons pe_int pa_nil)))))), ?_⟩
  exact ⟨S, _, hF, rfl, hok, r, "none", .int 0, .int 0, _, _, rfl, by decide +kernel, hok, G.int 0 hok, G.int 0 hok, fun v H' e ok d => q v H' e ok d⟩
def spPair (Fam : Sys → Prop) : Sp := fun vs H Q _ => ∃ (S : Sys) (va vb : V) (a b : Tm) (r : Nat), Fam S ∧ vs = [.ref S.f, va, vb] ∧ S.ok H (r + 1) ∧ S.den H va a ∧ S.den H vb b ∧ ∀ v H', Ext H H' → S.ok H' r → S.den H' v (pairT a b) → Q v H'
theorem ok_pair_seal {cc : Addr} (T : Txt K mg cc) (A : SlA P w K mg base Fam) : Cal P w K mg base 2 "pair_seal" (spPair Fam) [] := by
  refine cal_of T.d_pair_seal sc_pair_seal (fun vs H Q E h => ?_) (fun f cdv A' outer s H vs Q E hr h => ?_)
  · obtain ⟨S, va, vb, a, b, r, _, rfl, _⟩ := h
    rfl
  obtain ⟨S, va, vb, a, b, r, hF, rfl, hok, ha, hb, q⟩ := h
  refine ⟨_, (pss_one (ps_ret (pe_sl (i := 0) A.held hr (by omega) rfl (by first | exact Or.inl rfl | exact Or.inr (Or.inl rfl) | exact Or.inr (Or.inr rfl)) (pa_cons pe_str (pa_cons (pv 1) (pa_cons (pv 2) pa_nil)))))), ?_⟩
  exact ⟨S, _, hF, rfl, hok, _, rfl, _, rfl, r, "pair", a, b, _, _, rfl, by decide +kernel, hok, ha, hb, fun v H' e ok d => q v H' e ok d⟩
end

/-! ### the law's leaves -/
section
variable {P : Program} {w : World} {K : PySem.W.Frag} {mg : Str → Option Value} {base : Heap} {Fam : Sys → Prop}
theorem txtOk_app {x y : Str} (h : txtOk x = true) (h' : txtOk y = true) : txtOk (x ++ y) = true := by
  have e : (x ++ y).cps = x.cps ++ y.cps := rfl
  unfold txtOk PySem.PyData.strOk at *
  rw [e, Array.all_append, h, h']
  rfl
theorem dig90 : ∀ n : Nat, n < 90 → txtOk (toString (n : Int)) = true ∧ (toString (n : Int) : Str).length ≤ 2 := by decide +kernel
/-- n things in one another's stead -/
theorem rep_mem {α : Type} {n : Nat} {l : List α} {x : α} (h : x ∈ (List.replicate n l).flatten) : x ∈ l := by
  obtain ⟨k, hk, hx⟩ := List.mem_flatten.mp h
  rw [List.eq_of_mem_replicate hk] at hx
  exact hx
theorem DenL.rep {S : Sys} {H : Hp} {vs : List V} {ts : List Tm} (h : DenL S H vs ts) : ∀ n : Nat, DenL S H (List.replicate n vs).flatten (List.replicate n ts).flatten
  | 0 => DenL.nil
  | n + 1 => by
    rw [List.replicate_succ, List.flatten_cons, List.replicate_succ, List.flatten_cons]
    exact h.append (DenL.rep h n)
def spLeaves (K : PySem.W.Frag) (Fam : Sys → Prop) : Sp := fun vs H Q _ => ∃ (S : Sys) (a : Addr) (ns : List Int) (r : Nat), Fam S ∧ vs = [.ref S.f, .ref a] ∧ SqL K H a (ns.map V.int) ∧ ns.length ≤ 63 ∧ S.ok H (r + 63) ∧
  ∀ p ys ts H', Ext H H' → H p = none → H' p = some (.lst ys) → S.ok H' r → DenL S H' ys ts → ns.length ≤ ts.length → ts.length ≤ 400 → (∀ t ∈ ts, t.dep ≤ 1) → Q (.ref p) H'
theorem ok_leaves {cc : Addr} (T : Txt K mg cc) (A : SlA P w K mg base Fam) : Cal P w K mg base 2 "_law_leaves" (spLeaves K Fam) [] := by
  have Z := T.Z
  have C__law_cell_at := ok_cell_at (P := P) (w := w) (base := base) T
  refine cal_of T.d__law_leaves sc__law_leaves (fun vs H Q E h => ?_) (fun f cdv A' outer s H vs Q E hr h => ?_)
  · obtain ⟨S, a, ns, r, _, rfl, _⟩ := h
    rfl
  obtain ⟨S, a, ns, r, hF, rfl, hS, hl, hok, q⟩ := h
  have G := A.good hF
  refine ⟨_, (pss_cons (ps_setLc (i := 2) (own := [("_law_cell", 3)]) (g := gName 3) (tt := tYes) rfl sc__law_leaves.nd rfl rfl (sw_true rfl rfl rfl (by decide +kernel)) (pi_list (pv 1)) (blkOk_by (N := N__law_leaves) (sc := defScope s__law_leaves) (by decide +kernel)) (fun _ _ _ _ _ => (pg_name (i := 3) sc__law_leaves.nd rfl (Or.inl rfl))) (fun _ _ _ _ _ => pts_nil) (fun _ _ _ _ _ => (pe_sl (i := 0) A.held hr (by omega) rfl (by first | exact Or.inl rfl | exact Or.inr (Or.inl rfl) | exact Or.inr (Or.inr rfl)) (pa_cons pe_str (pa_cons (pe_op op_add_str pe_str (pe_callTy call_str_int rfl Z.str (by decide +kernel) (pa_cons (pe_op op_mod (pv 3) pe_int) pa_nil))) (pa_cons (pe_op op_mod (pe_op op_fdiv (pv 3) pe_int) pe_int) pa_nil))))))
  (pss_cons (ps_if (pt_cmpR op_eq (pe_op op_mod (pe_c C__law_cell_at hr (by omega) rfl (pa_cons (pv 1) (pa_cons pe_int pa_nil))) pe_int) pe_int (nomark _)) (pss_one (ps_set (i := 2) sc__law_leaves.nd rfl (Or.inl rfl) (pe_op op_cat (pv 2) (pe_op op_rep (pe_slice sl_list (pv 2) po_none (po_some pe_int)) (pe_op op_mod (pe_c C__law_cell_at hr (by omega) rfl (pa_cons (pv 1) (pa_cons pe_int pa_nil))) pe_int))))) pss_nil)
  (pss_one (ps_ret (pv 2))))), ?_⟩
  refine ⟨_, rfl, a, rfl, ⟨_, hS⟩, fun D nD => ?_⟩
  refine lc_list (K := K) (a := a) (xs := ns.map V.int) (fun i H' => ∃ ys ts, ts.length = i ∧ Ext H H' ∧ H' D = some (.lst ys) ∧ S.ok H' (r + 63 - i) ∧ DenL S H' ys ts ∧ ∀ t ∈ ts, t.dep ≤ 1)
    ⟨[], [], rfl, Ext.new nD, upd_same, G.less (G.keep (Kp.new nD) hok) (by omega), DenL.nil, fun _ h => by cases h⟩ (fun i H' _ ⟨_, _, _, x, _⟩ => x.seq hS) ?_ ?_
  · rintro i y H' hi ⟨ys, ts, rfl, x, hD, hok', hd, hdep⟩
    obtain ⟨z, hz, rfl⟩ : ∃ z, ns[ts.length]? = some z ∧ y = V.int z := by
      rw [List.getElem?_map] at hi
      cases e : ns[ts.length]? with
      | none => rw [e] at hi; cases hi
      | some z => rw [e] at hi; exact ⟨z, rfl, (Option.some.inj hi).symm⟩
    have hlt : ts.length < ns.length := by
      obtain ⟨h, _⟩ := List.getElem?_eq_some_iff.mp hz
      exact h
    obtain ⟨m, hm⟩ := Int.eq_ofNat_of_zero_le (Int.emod_nonneg z (show (90 : Int) ≠ 0 by decide))
    have hm90 : m < 90 := by
      have := Int.emod_lt_of_pos z (show (0 : Int) < 90 by decide)
      omega
    obtain ⟨d1, d2⟩ := dig90 m hm90
    refine ⟨rfl, S, _, hF, rfl, hok', _, rfl, z, 90, rfl, rfl, (by show (0 : Int) < 90; decide), z % 90, rfl, ?_, _, _, rfl, rfl, ?_, ?_⟩
    · rw [hm, Int.natAbs_natCast]
      have : m.log2 ≤ m := Nat.log2_le_self m
      omega
    · rw [hm]
      have e1 : ("t" : Str).length = 1 := rfl
      rw [e1, sizeLine_eq]
      omega
    have hr1 : r + 63 - ts.length = (r + 63 - (ts.length + 1)) + 1 := by omega
    refine ⟨_, rfl, z, 90, rfl, rfl, ⟨by decide, by decide⟩, _, 3, rfl, rfl, (by show (0 : Int) < 3; decide), r + 63 - (ts.length + 1), "leaf", .str ("t" ++ toString (z % 90)), .int (z / 90 % 3), _, _, rfl, by decide +kernel, by rw [← hr1]; exact hok', G.str _ hok' ?_, G.int _ hok', fun v H2 x2 ok2 dv => ?_⟩
    · rw [hm]
      exact txtOk_app (by decide +kernel) d1
    have hl2 := hd.len
    have hD2 : H2 D = some (.lst ys) := x2.lst hD
    refine ⟨ys, hD2, by rw [hl2, sizeLine_eq]; omega, ys ++ [v], ts ++ [.sl "leaf" (.str ("t" ++ toString (z % 90))) (.int (z / 90 % 3))], by simp, (x.trans x2).mut nD, upd_same, G.keep (Kp.lst hD2) ok2, ?_, fun t ht => ?_⟩
    · exact (hd.mono G (x2.gr.trans (Kp.lst hD2).gr)).append (DenL.one (G.mono (Kp.lst hD2).gr dv))
    · rcases List.mem_append.mp ht with h | h
      · exact hdep t h
      · rw [List.mem_singleton.mp h]
        exact Nat.le_refl _
  · rintro H1 ⟨ys, ts, hts, x, hD, hok1, hd, hdep⟩
    rw [List.length_map] at hts
    have hok2 : S.ok H1 r := G.less hok1 (by rw [List.length_map]; omega)
    have hl2 := hd.len
    refine ⟨_, rfl, a, ns, 0, rfl, x.seq hS, Int.le_refl 0, _, 5, rfl, rfl, (by show (0 : Int) < 5; decide), rfl, _, rfl, ite2 (fun _ => ?_) (fun _ => ?_)⟩
    · refine ⟨_, rfl, _, rfl, 1, rfl, D, _, rfl, SqL.of hD, fun p hp => ?_⟩
      rw [show (1 : Int) = ((1 : Nat) : Int) from rfl, cut_to]
      have x1 : Ext H1 (upd H1 p (.lst (ys.take 1))) := Ext.new hp
      have mid : ∀ (n : Int) (R : VK), 0 ≤ n → n < 290 → (∀ x H3, Q x H3 → R x H3) → (rRep (.ref p) (.int n) (upd H1 p (.lst (ys.take 1))) fun x H2 => rCat (.ref D) x H2 R) := fun n R h0 h1 hR => by
        refine ⟨p, n, ys.take 1, rfl, rfl, upd_same, by omega, by omega, ?_, fun p2 hp2 => ?_⟩
        · rw [List.length_take, sizeLine_eq]
          have : min 1 ys.length * n.toNat ≤ 1 * n.toNat := Nat.mul_le_mul_right _ (Nat.min_le_left _ _)
          omega
        have x2 : Ext (upd H1 p (.lst (ys.take 1))) (upd (upd H1 p (.lst (ys.take 1))) p2 (.lst (List.replicate n.toNat (ys.take 1)).flatten)) := Ext.new hp2
        have hlf : (List.replicate n.toNat (ys.take 1)).flatten.length ≤ 290 := by
          rw [List.length_flatten, List.map_replicate, List.sum_replicate_nat, List.length_take]
          have : n.toNat * min 1 ys.length ≤ n.toNat * 1 := Nat.mul_le_mul_left _ (Nat.min_le_left _ _)
          omega
        refine ⟨D, p2, ys, _, rfl, rfl, x2.lst (x1.lst hD), upd_same, by rw [sizeLine_eq]; omega, fun p3 hp3 => ?_⟩
        have x3 : Ext (upd (upd H1 p (.lst (ys.take 1))) p2 (.lst (List.replicate n.toNat (ys.take 1)).flatten)) (upd (upd (upd H1 p (.lst (ys.take 1))) p2 (.lst (List.replicate n.toNat (ys.take 1)).flatten)) p3 (.lst (ys ++ (List.replicate n.toNat (ys.take 1)).flatten))) := Ext.new hp3
        have kk := ((Kp.new (o := .lst (ys.take 1)) hp).trans (Kp.new (o := .lst (List.replicate n.toNat (ys.take 1)).flatten) hp2)).trans (Kp.new (o := .lst (ys ++ (List.replicate n.toNat (ys.take 1)).flatten)) hp3)
        have dd := hd.append ((hd.take 1).rep n.toNat)
        refine hR _ _ (q p3 _ (ts ++ (List.replicate n.toNat (ts.take 1)).flatten) _ (((x.trans x1).trans x2).trans x3) (((x.trans x1).trans x2).free hp3) upd_same (G.keep kk hok2) (dd.mono G kk.gr) ?_ ?_ ?_)
        · rw [List.length_append]
          omega
        · rw [← dd.len, List.length_append]
          omega
        · intro t ht
          rcases List.mem_append.mp ht with h | h
          · exact hdep t h
          · exact hdep t (List.mem_of_mem_take (rep_mem h))
      exact ⟨_, rfl, a, ns, 1, rfl, x1.seq (x.seq hS), by decide, _, 70, rfl, rfl, (by show (0 : Int) < 70; decide), mid _ _ (Int.emod_nonneg _ (by decide)) (Int.lt_of_lt_of_le (Int.emod_lt_of_pos _ (by decide)) (by decide)) fun x H3 hq => ⟨_, rfl, hq⟩⟩

    · exact ⟨_, rfl, q D ys ts H1 x nD hD hok2 hd (by omega) (by omega) hdep⟩
end

/-! ### for the law: equal things are seen equal; the head -/
section
variable {K : PySem.W.Frag} {H : Hp} {S : Sys}
theorem shaped_of {d : PyData} (h : d.canLay0 = true) (hd : d.depth ≤ 64) : SeqAt.shaped d = true := by
  unfold SeqAt.shaped
  rw [h, decide_eq_true hd]
  rfl
theorem eqv_self {d : PyData} (h : d.canLay0 = true) : PyData.eqv d d = true := SeqAt.eqv_refl d h
theorem eq_rows (G : S.Good K) {p p' : Addr} {xs ys : List V} {ts : List Tm} (hp : SqL K H p xs) (hp' : SqL K H p' ys) (h : DenL S H xs ts) (h' : DenL S H ys ts) (hd : ∀ t ∈ ts, t.dep ≤ 60) :
    ∃ d, Dp K H (.ref p) d ∧ Dp K H (.ref p') d ∧ SeqAt.shaped d = true ∧ PyData.eqv d d = true := by
  obtain ⟨ds, a, b, c, e⟩ := DenL.same G h h' hd
  have c' : (PyData.list ds).canLay0 = true := c
  exact ⟨.list ds, .lst hp a, .lst hp' b, shaped_of c' (by show PyData.depthAll ds + 1 ≤ 64; omega), eqv_self c'⟩
theorem eq_tm (G : S.Good K) {v v' : V} {t : Tm} (h : S.den H v t) (h' : S.den H v' t) (hd : t.dep ≤ 60) :
    ∃ d, Dp K H v d ∧ Dp K H v' d ∧ SeqAt.shaped d = true ∧ PyData.eqv d d = true := by
  obtain ⟨d, a, b, c, e⟩ := G.same h h'
  exact ⟨d, a, b, shaped_of c (by omega), eqv_self c⟩
theorem ext_seq {K : PySem.W.Frag} {H H' : Hp} {a : Addr} {xs : List V} (e : LamX.ExtN H H') (h : SqL K H a xs) : SqL K H' a xs := by
  rcases h with (h | ⟨o, h⟩) | h
  · exact .inl (.inl (e _ _ h fun _ z => nomatch z))
  · exact .inl (.inr ⟨o, e _ _ h fun _ z => nomatch z⟩)
  · exact .inr h
end
/-- a row's places -/
theorem map_int_mem {l : List Int} {x : V} (h : x ∈ l.map V.int) : ∃ z ∈ l, x = .int z := by
  obtain ⟨z, hz, e⟩ := List.mem_map.mp h
  exact ⟨z, hz, e.symm⟩
/-- the law's promise; a table of code objects at PT -/
def spLaw (K : PySem.W.Frag) (PT : Addr) : Sp := fun vs H Q _ => ∃ (a : Addr) (ns : List Int), vs = [.ref a] ∧ SqL K H a (ns.map V.int) ∧ ns.length ≤ 63 ∧ H PT = some (.tbl #[]) ∧ ∀ H', Q (.bl true) H'
theorem law_end {l : PySem.W.OpenLaw} {w : World} {K : PySem.W.Frag} {h : Heap} {mg : Str → Option Value} {fa c PT : Addr} {k : Nat} (X : K.In h) (hP : ∀ Q ∈ [PT], h.get? Q = some (PySem.W.tabObj #[])) (nP : K.lookup PT = none) (hc : PySem.W.codeHdIn K c PT = true)
    (F : ∃ fd : FuncData, (∀ (s : Shared) (v : Value), BindsTo s fd ⟨[v], []⟩ [("_law_script", v)]) ∧ ∀ base : Heap, K.In base → base.Ns mainGlobals mg → LamX.TabB base mg c PT → FnOk l.prog w K mg base L2.CX0 k fa fd ["_law_script"] (spLaw K PT)) :
    LamX.LawAtS l w K L2.CX0 k 63 "_law_script" mg fa h := by
  obtain ⟨fd, hb, hF⟩ := F
  refine ⟨fd, [(c, PT)], spLaw K PT, fun p hp => ?_, fun p hp => ?_, fun p hp => ?_, hb, fun H a ns hl _ hT hS => ⟨a, ns, rfl, hS, hl, hT _ (List.mem_singleton.mpr rfl), fun _ => rfl⟩, fun base KB NB TB => hF base KB NB (TB _ (List.mem_singleton.mpr rfl))⟩
  · rw [List.mem_singleton.mp hp]
    exact hP PT (List.mem_singleton.mpr rfl)
  · rw [List.mem_singleton.mp hp]
    exact nP
  · rw [List.mem_singleton.mp hp]
    exact PySem.W.codeHd_of_K X hc
theorem law_fnT {P : Program} {w : World} {K : PySem.W.Frag} {mg : Str → Option Value} {x p : Str} {st : Stmt} {N : List Str} {k : Nat} {sp : Sp} {fa c PT : Addr} (D : DefX K mg x st [p]) (hfa : mg x = some (.ref fa)) (S : FnScope N [p] (defScope st)) (len : ∀ vs H Q E, sp vs H Q E → vs.length = 1)
    (hbody : ∀ (base : Heap), LamX.TabB base mg c PT → ∀ (f : Addr) (cdv : Value) (A : Around) (outer : List Env) (s : Shared) (H : Hp) (vs : List V) (Q : VK) (E : XK), Room k (A.deeper (envOfC x (defScope st) s.heap.objs.size f cdv)) → sp vs H Q E →
      ∃ t, PSs (cxOf L2.CX0 P w K mg base N x (defScope st) f cdv A outer s H E).nox (defBody st) t ∧ t { nx := fun _ H' => Q .non H', rt := Q } (start N vs) H) :
    ∃ fd : FuncData, (∀ (s : Shared) (v : Value), BindsTo s fd ⟨[v], []⟩ [(p, v)]) ∧ ∀ base : Heap, K.In base → base.Ns mainGlobals mg → LamX.TabB base mg c PT → FnOk P w K mg base L2.CX0 (k + 1) fa fd [p] sp := by
  obtain ⟨f, fd, F, m, b⟩ := D.ex
  have e := hfa.symm.trans m
  cases e
  exact ⟨fd, fun s v => .of_eq (b [v] rfl), fun base _ _ TB => F.ok S len (hbody base TB fa)⟩

/-! ### the stretches of a row -/
/-- the greatest power of two that is no more -/
def greatN (n : Nat) : Nat := 2 ^ n.log2
theorem greatN_le {n : Nat} (h : 0 < n) : greatN n ≤ n := Nat.log2_self_le (by omega)
theorem greatN_pos (n : Nat) : 0 < greatN n := Nat.two_pow_pos _
theorem greatN_of {n i : Nat} (h1 : 2 ^ i ≤ n) (h2 : n < 2 * 2 ^ i) : greatN n = 2 ^ i := by
  have h0 : n ≠ 0 := by
    have := Nat.two_pow_pos i
    omega
  have a : i ≤ n.log2 := (Nat.le_log2 h0).mpr h1
  have b : n.log2 < i + 1 := (Nat.log2_lt h0).mpr (by rw [Nat.pow_succ]; omega)
  unfold greatN
  rw [show n.log2 = i by omega]
theorem greatN_lt (n : Nat) : n < 2 * greatN n := by
  have q : n < 2 ^ (n.log2 + 1) := Nat.lt_log2_self
  rw [Nat.pow_succ] at q
  unfold greatN
  omega
def stT (ts : List Tm) : List Tm :=
  if h : ts.length = 0 then [] else topT (ts.take (greatN ts.length)) :: stT (ts.drop (greatN ts.length))
termination_by ts.length
decreasing_by
  rw [List.length_drop]
  have := greatN_pos ts.length
  omega
theorem stT_nil : stT [] = [] := by rw [stT]; rfl
theorem stT_more {ts : List Tm} (h : ts.length ≠ 0) : stT ts = topT (ts.take (greatN ts.length)) :: stT (ts.drop (greatN ts.length)) := by rw [stT, dif_neg h]
theorem stT_len (ts : List Tm) : (stT ts).length ≤ ts.length := by
  by_cases h : ts.length = 0
  · rw [List.eq_nil_of_length_eq_zero h, stT_nil]
    exact Nat.le_refl _
  · rw [stT_more h, List.length_cons]
    have := stT_len (ts.drop (greatN ts.length))
    have := greatN_pos ts.length
    rw [List.length_drop] at *
    omega
termination_by ts.length
decreasing_by
  rw [List.length_drop]
  have := greatN_pos ts.length
  omega
/-- a row of two to the j: one stretch -/
theorem stT_pow {ts : List Tm} {j : Nat} (h : ts.length = 2 ^ j) : stT ts = [topT ts] := by
  have p := Nat.two_pow_pos j
  have g : greatN ts.length = ts.length := by
    rw [h]
    exact greatN_of (Nat.le_refl _) (by omega)
  rw [stT_more (by omega), g, List.take_length, List.drop_length, stT_nil]
/-- the last stretch of an odd many of two to the j -/
theorem stT_last {j : Nat} (ts : List Tm) (c : Nat) (h : ts.length = (2 * c + 1) * 2 ^ j) : stT ts = stT (ts.take (2 * c * 2 ^ j)) ++ [topT (ts.drop (2 * c * 2 ^ j))] := by
  have p := Nat.two_pow_pos j
  have hadd : ts.length = 2 * c * 2 ^ j + 2 ^ j := by rw [h, Nat.add_mul, Nat.one_mul]
  by_cases hc : c = 0
  · subst hc
    rw [show 2 * 0 * 2 ^ j = 0 by omega, List.take_zero, List.drop_zero, stT_nil, stT_pow (j := j) (by omega)]
    rfl
  · have hge : 2 * 2 ^ j ≤ 2 * c * 2 ^ j := Nat.mul_le_mul_right _ (by omega)
    have hn : 0 < ts.length := by omega
    have hle := greatN_le hn
    have hlt := greatN_lt ts.length
    obtain ⟨d, hd⟩ : ∃ d, greatN ts.length = 2 * d * 2 ^ j := by
      have h1 : j + 1 ≤ ts.length.log2 := (Nat.le_log2 (by omega)).mpr (by rw [Nat.pow_succ]; omega)
      obtain ⟨e, he⟩ := Nat.exists_eq_add_of_le h1
      refine ⟨2 ^ e, ?_⟩
      unfold greatN
      rw [he, Nat.pow_add, Nat.pow_succ]
      rw [Nat.mul_comm (2 ^ j) 2, Nat.mul_assoc, Nat.mul_comm (2 ^ j), Nat.mul_assoc]
    have hdc : d ≤ c := by
      by_cases q : d ≤ c
      · exact q
      · have : (2 * c + 2) * 2 ^ j ≤ 2 * d * 2 ^ j := Nat.mul_le_mul_right _ (by omega)
        rw [Nat.add_mul] at this
        omega
    have hgp := greatN_pos ts.length
    have sub : 2 * c * 2 ^ j - 2 * d * 2 ^ j = 2 * (c - d) * 2 ^ j := by rw [← Nat.sub_mul, Nat.mul_sub]
    have hcd : 2 * d * 2 ^ j ≤ 2 * c * 2 ^ j := Nat.mul_le_mul_right _ (by omega)
    have hlen : (ts.drop (greatN ts.length)).length = (2 * (c - d) + 1) * 2 ^ j := by
      rw [List.length_drop, hd, hadd, Nat.add_mul, Nat.one_mul, ← sub]
      omega
    have ih := stT_last (ts.drop (greatN ts.length)) (c - d) hlen
    have lt1 : (ts.take (2 * c * 2 ^ j)).length = 2 * c * 2 ^ j := by
      rw [List.length_take]
      omega
    have g2 : greatN (2 * c * 2 ^ j) = greatN ts.length := greatN_of (by show greatN ts.length ≤ _; omega) (by show _ < 2 * greatN ts.length; omega)
    rw [stT_more (by omega), ih, stT_more (ts := ts.take (2 * c * 2 ^ j)) (by omega), lt1, g2, List.cons_append]
    congr 1
    · rw [List.take_take, Nat.min_eq_left (by omega)]
    · congr 1
      · rw [← sub, hd, ← List.drop_take]
      · rw [List.drop_drop, ← sub, hd]
        congr 3
        omega
termination_by ts.length
decreasing_by
  rw [List.length_drop]
  omega
theorem topT_two {ts : List Tm} {j : Nat} (h : ts.length = 2 * 2 ^ j) : topT ts = pairT (topT (ts.take (2 ^ j))) (topT (ts.drop (2 ^ j))) := by
  have p := Nat.two_pow_pos j
  rw [topT_more (by omega), h, splitN_of (by omega) (Nat.le_refl _)]
/-- the tops from the last one on -/
def foldP : List Tm → Tm
  | [] => nonT
  | [x] => x
  | x :: y :: r => pairT x (foldP (y :: r))
theorem foldP_more {x : Tm} {r : List Tm} (h : r ≠ []) : foldP (x :: r) = pairT x (foldP r) := by
  cases r with
  | nil => exact absurd rfl h
  | cons y r => rfl
theorem foldP_st (ts : List Tm) : foldP (stT ts) = topT ts := by
  by_cases h : ts.length = 0
  · rw [List.eq_nil_of_length_eq_zero h, stT_nil, topT_nil]
    rfl
  · have hle := greatN_le (show 0 < ts.length by omega)
    have hlt := greatN_lt ts.length
    have hgp := greatN_pos ts.length
    by_cases e : greatN ts.length = ts.length
    · rw [stT_pow (j := ts.length.log2) e.symm]
      rfl
    · rw [stT_more h, foldP_more, foldP_st (ts.drop (greatN ts.length)), topT_more (ts := ts) (by omega), splitN_of (i := ts.length.log2) (by show greatN ts.length < _; omega) (by show _ ≤ 2 * greatN ts.length; omega)]
      · rfl
      · intro z
        have := stT_more (ts := ts.drop (greatN ts.length)) (by rw [List.length_drop]; omega)
        rw [z] at this
        cases this
termination_by ts.length
decreasing_by
  rw [List.length_drop]
  omega
theorem foldP_drop {l : List Tm} {i : Nat} (h : i + 1 < l.length) : foldP (l.drop i) = pairT (l.getD i nonT) (foldP (l.drop (i + 1))) := by
  rw [List.drop_eq_getElem_cons (show i < l.length by omega), foldP_more, List.getD_eq_getElem?_getD, List.getElem?_eq_getElem (show i < l.length by omega)]
  · rfl
  · intro z
    have := congrArg List.length z
    rw [List.length_drop] at this
    simp at this
    omega
theorem foldP_last {l : List Tm} (h : l.length ≠ 0) : foldP (l.drop (l.length - 1)) = l.getD (l.length - 1) nonT := by
  rw [List.drop_eq_getElem_cons (show l.length - 1 < l.length by omega), show l.length - 1 + 1 = l.length by omega, List.drop_length, List.getD_eq_getElem?_getD, List.getElem?_eq_getElem (show l.length - 1 < l.length by omega)]
  rfl
theorem stT_mem {ts : List Tm} {P : Tm → Prop} (hp : ∀ us : List Tm, (∀ t ∈ us, t ∈ ts) → us.length ≤ ts.length → P (topT us)) : ∀ t ∈ stT ts, P t := by
  intro t ht
  by_cases h : ts.length = 0
  · rw [List.eq_nil_of_length_eq_zero h, stT_nil] at ht
    cases ht
  · rw [stT_more h] at ht
    have hgp := greatN_pos ts.length
    rcases List.mem_cons.mp ht with h1 | h1
    · rw [h1]
      exact hp _ (fun t h => List.mem_of_mem_take h) (by rw [List.length_take]; omega)
    · exact stT_mem (fun us hu hl => hp us (fun t h => List.mem_of_mem_drop (hu t h)) (by rw [List.length_drop] at hl; omega)) t h1
termination_by ts.length
decreasing_by
  rw [List.length_drop]
  omega

/-! ### heaps where one instance may change -/
structure ExtO (p : Addr) (H H' : Hp) : Prop where
  keep : ∀ a o, a ≠ p → H a = some o → (∀ kvs, o ≠ .dT kvs) → H' a = some o
  grow : ∀ a kvs, H a = some (.dT kvs) → ∃ more, H' a = some (.dT (kvs ++ more))
  gr : Gr H H'
theorem Ext.o {p : Addr} {H H' : Hp} (e : Ext H H') : ExtO p H H' := ⟨fun a o _ h n => e.keep a o h n, e.grow, e.gr⟩
theorem ExtO.trans {p : Addr} {H H1 H2 : Hp} (a : ExtO p H H1) (b : ExtO p H1 H2) : ExtO p H H2 := by
  refine ⟨fun x o q e n => b.keep x o q (a.keep x o q e n) n, fun x kvs e => ?_, a.gr.trans b.gr⟩
  obtain ⟨m1, e1⟩ := a.grow x kvs e
  obtain ⟨m2, e2⟩ := b.grow x _ e1
  exact ⟨m1 ++ m2, by rw [e2, List.append_assoc]⟩
theorem ExtO.put {p C dx : Addr} {H : Hp} {fs : List (Str × V)} {o : HO} (h : H p = some (.ins C dx fs)) : ExtO p H (upd H p o) := by
  refine ⟨fun a u q e _ => by rw [upd_ne q]; exact e, fun a kvs e => ⟨[], ?_⟩, (Kp.ins h).gr⟩
  rw [List.append_nil, upd_ne]
  · exact e
  · rintro rfl
    rw [h] at e
    cases e
theorem ExtO.lst {p a : Addr} {H H' : Hp} {xs : List V} (e : ExtO p H H') (q : a ≠ p) (h : H a = some (.lst xs)) : H' a = some (.lst xs) := e.keep _ _ q h fun _ z => nomatch z
theorem ExtO.ins {p a C dx : Addr} {H H' : Hp} {fs : List (Str × V)} (e : ExtO p H H') (q : a ≠ p) (h : H a = some (.ins C dx fs)) : H' a = some (.ins C dx fs) := e.keep _ _ q h fun _ z => nomatch z
/-- the instance was made behind H -/
theorem ExtO.ext {p : Addr} {H H1 H' : Hp} (e : ExtO p H1 H') (x : Ext H H1) (hp : H p = none) : Ext H H' := by
  refine ⟨fun a o h n => e.keep a o (ne_of_none h hp) (x.keep a o h n) n, fun a kvs h => ?_⟩
  obtain ⟨m1, e1⟩ := x.grow a kvs h
  obtain ⟨m2, e2⟩ := e.grow a _ e1
  exact ⟨m1 ++ m2, by rw [e2, List.append_assoc]⟩
theorem DenL.snoc_inv {S : Sys} {H : Hp} {zs : List V} {ts : List Tm} {t : Tm} (h : DenL S H zs (ts ++ [t])) : ∃ y, zs[zs.length - 1]? = some y ∧ S.den H y t ∧ DenL S H zs.dropLast ts := by
  have hl := h.len
  rw [List.length_append] at hl
  have hl' : zs.length = ts.length + 1 := hl
  have e1 : zs.length - 1 < zs.length := by omega
  refine ⟨zs[zs.length - 1], List.getElem?_eq_getElem e1, h.at_ (zs.length - 1) _ _ (List.getElem?_eq_getElem e1) ?_, ?_⟩
  · rw [List.getElem?_append_right (by omega), show zs.length - 1 - ts.length = 0 by omega]
    rfl
  · have := h.take ts.length
    rwa [List.take_left' rfl, show ts.length = zs.length - 1 by omega, ← List.dropLast_eq_take] at this
/-! ### the frontier -/
def frF (f : Addr) (n : Int) (l : Addr) : List (Str × V) := [("seal", .ref f), ("many", .int n), ("tops", .ref l)]
theorem frF_seal (f : Addr) (n : Int) (l : Addr) : (frF f n l).lookup ("seal" : Str) = some (.ref f) := by kernel_rfl
theorem frF_many (f : Addr) (n : Int) (l : Addr) : (frF f n l).lookup ("many" : Str) = some (.int n) := by kernel_rfl
theorem frF_tops (f : Addr) (n : Int) (l : Addr) : (frF f n l).lookup ("tops" : Str) = some (.ref l) := by kernel_rfl
theorem frF_mk (f : Addr) (n : Int) (l : Addr) : putF "tops" (.ref l) (putF "many" (.int n) (putF "seal" (.ref f) [])) = frF f n l := by kernel_rfl
theorem frF_pt (f : Addr) (n : Int) (l l' : Addr) : putF "tops" (.ref l') (frF f n l) = frF f n l' := by kernel_rfl
theorem frF_pm (f : Addr) (n n' : Int) (l : Addr) : putF "many" (.int n') (frF f n l) = frF f n' l := by kernel_rfl
theorem frF_no1 (f : Addr) (n : Int) (l : Addr) : (frF f n l).lookup ("add" : Str) = none ∧ (frF f n l).lookup ("size" : Str) = none ∧ (frF f n l).lookup ("kept" : Str) = none ∧ (frF f n l).lookup ("top" : Str) = none := ⟨by kernel_rfl, by kernel_rfl, by kernel_rfl, by kernel_rfl⟩
def FrAt (C : Addr) (S : Sys) (H : Hp) (p : Addr) (ts : List Tm) : Prop := ∃ dx l ys, H p = some (.ins C dx (frF S.f (ts.length : Int) l)) ∧ H l = some (.lst ys) ∧ DenL S H ys (stT ts)
theorem FrAt.ext {K : PySem.W.Frag} {C : Addr} {S : Sys} (G : S.Good K) {H H' : Hp} {p : Addr} {ts : List Tm} (h : FrAt C S H p ts) (e : Ext H H') : FrAt C S H' p ts := by
  obtain ⟨dx, l, ys, h1, h2, h3⟩ := h
  exact ⟨dx, l, ys, e.ins h1, e.lst h2, h3.mono G e.gr⟩
theorem FrAt.other {K : PySem.W.Frag} {C : Addr} {S : Sys} (G : S.Good K) {H H' : Hp} {p q : Addr} {ts us : List Tm} (h : FrAt C S H p ts) (hq : FrAt C S H q us) (n : p ≠ q) (e : ExtO q H H') : FrAt C S H' p ts := by
  obtain ⟨dx, l, ys, h1, h2, h3⟩ := h
  obtain ⟨dy, m, zs, g1, _, _⟩ := hq
  exact ⟨dx, l, ys, e.ins n h1, e.lst (fun z => by rw [z, g1] at h2; cases h2) h2, h3.mono G e.gr⟩
section
variable {P : Program} {w : World} {K : PySem.W.Frag} {mg : Str → Option Value} {base : Heap} {Fam : Sys → Prop} {C : Addr}
def spFInit (C : Addr) (Fam : Sys → Prop) : Sp := fun vs H Q _ => ∃ (S : Sys) (p dx : Addr) (r : Nat), Fam S ∧ vs = [.ref p, .ref S.f] ∧ H p = some (.ins C dx []) ∧ S.ok H r ∧ ∀ H', ExtO p H H' → S.ok H' r → FrAt C S H' p [] → Q .non H'
theorem ok_finit (A : SlA P w K mg base Fam) (KF : K_Frontier K mg C) : Mak P w K mg base 1 "Frontier" C (spFInit C Fam) [] := by
  refine mak_of KF.mgC KF.made sc_Frontier___init__ (fun vs H Q E h => ?_) (fun f cdv A' outer s H vs Q E hr h => ?_)
  · obtain ⟨S, p, dx, r, _, rfl, _⟩ := h
    rfl
  obtain ⟨S, p, dx, r, hF, rfl, hp, hok, q⟩ := h
  have G := A.good hF
  refine ⟨_, (pss_cons (ps_fld (pv 0) (pv 1) rfl)
  (pss_cons (ps_fld (pv 0) pe_int rfl)
  (pss_one (ps_fld (pv 0) (pe_lst pa_nil) rfl)))), ?_⟩
  refine ⟨_, rfl, _, rfl, p, C, dx, _, rfl, hp, KF.cl, KF.n_seal, by show 0 < 1000; decide, ?_⟩
  refine ⟨_, rfl, p, C, dx, _, rfl, upd_same, KF.cl, KF.n_many, by show 1 < 1000; decide, ?_⟩
  refine ⟨by show 0 ≤ sizeLine; decide, fun l hl => ?_⟩
  have x1 := ExtO.put (o := .ins C dx (putF "seal" (.ref S.f) [])) hp
  have k1 := Kp.ins (o := .ins C dx (putF "seal" (.ref S.f) [])) hp
  generalize e1 : upd H p (.ins C dx (putF "seal" (.ref S.f) [])) = H1 at x1 k1 hl ⊢
  have h1 : H1 p = some (.ins C dx (putF "seal" (.ref S.f) [])) := by rw [← e1]; exact upd_same
  have x2 := x1.trans (ExtO.put (o := .ins C dx (putF "many" (.int 0) (putF "seal" (.ref S.f) []))) h1)
  have k2 := k1.trans (Kp.ins (o := .ins C dx (putF "many" (.int 0) (putF "seal" (.ref S.f) []))) h1)
  generalize e2 : upd H1 p (.ins C dx (putF "many" (.int 0) (putF "seal" (.ref S.f) []))) = H2 at x2 k2 hl ⊢
  have h2 : H2 p = some (.ins C dx (putF "many" (.int 0) (putF "seal" (.ref S.f) []))) := by rw [← e2]; exact upd_same
  have npl : p ≠ l := ne_of_none h2 hl
  have x3 := x2.trans (Ext.new (o := .lst []) hl).o
  have k3 := k2.trans (Kp.new (o := .lst []) hl)
  have h3 : upd H2 l (.lst []) p = some (.ins C dx (putF "many" (.int 0) (putF "seal" (.ref S.f) []))) := by rw [upd_ne npl]; exact h2
  refine ⟨_, rfl, p, C, dx, _, rfl, h3, KF.cl, KF.n_tops, by show 2 < 1000; decide, ?_⟩
  refine q _ (x3.trans (ExtO.put h3)) (G.keep (k3.trans (Kp.ins h3)) hok) ⟨dx, l, [], ?_, ?_, ?_⟩
  · rw [upd_same, frF_mk]
    rfl
  · rw [upd_ne npl.symm]
    exact upd_same
  · rw [stT_nil]
    exact DenL.nil
def spFAdd (C : Addr) (Fam : Sys → Prop) : Sp := fun vs H Q _ => ∃ (S : Sys) (p : Addr) (v : V) (ts : List Tm) (t : Tm) (r : Nat), Fam S ∧ vs = [.ref p, v] ∧ FrAt C S H p ts ∧ S.den H v t ∧ ts.length ≤ 1000 ∧ S.ok H (r + (ts.length + 1)) ∧ ∀ H', ExtO p H H' → S.ok H' r → FrAt C S H' p (ts ++ [t]) → Q .non H'
theorem ok_fadd (A : SlA P w K mg base Fam) (KF : K_Frontier K mg C) (C_pair_seal : Cal P w K mg base 2 "pair_seal" (spPair Fam) []) : Met P w K mg base 3 C "add" (spFAdd C Fam) [] := by
  refine met_of KF.cl KF.m_add sc_Frontier_add (fun vs H Q E h => ?_) (fun f cdv A' outer s H vs Q E hr h => ?_)
  · obtain ⟨S, p, v, ts, t, r, _, rfl, _⟩ := h
    rfl
  obtain ⟨S, p, v, ts, t, r, hF, rfl, ⟨dx, l, ys, hp, hl, hd⟩, hv, hlen, hok, q⟩ := h
  have G := A.good hF
  refine ⟨_, (pss_cons (ps_set (i := 2) sc_Frontier_add.nd rfl (Or.inl rfl) (pe_op op_cat (pe_fld (pv 0) rfl) (pe_lst (pa_cons (pv 1) pa_nil))))
  (pss_cons (ps_set (i := 3) sc_Frontier_add.nd rfl (Or.inl rfl) (pe_op op_add (pe_fld (pv 0) rfl) pe_int))
  (pss_cons (ps_while PassesOwn.never (pt_cmpR op_eq (pe_op op_odd (pv 3) pe_int) pe_int (nomark _)) (pss_cons (ps_set (i := 4) sc_Frontier_add.nd rfl (Or.inl rfl) (pe_bm0 PySem.F.plainAttrs_list PySem.F.slot_list_pop PySem.F.type_list_pop mt_pop (pv 2)))
  (pss_cons (ps_set (i := 5) sc_Frontier_add.nd rfl (Or.inl rfl) (pe_bm0 PySem.F.plainAttrs_list PySem.F.slot_list_pop PySem.F.type_list_pop mt_pop (pv 2)))
  (pss_cons (ps_expr (pe_bm PySem.F.plainAttrs_list PySem.F.slot_list_append PySem.F.type_list_append mt_append (pv 2) (pa_cons (pe_c C_pair_seal hr (by omega) rfl (pa_cons (pe_fld (pv 0) rfl) (pa_cons (pv 5) (pa_cons (pv 4) pa_nil)))) pa_nil)))
  (pss_one (ps_set (i := 3) sc_Frontier_add.nd rfl (Or.inl rfl) (pe_op op_shr (pv 3) pe_int)))))))
  (pss_cons (ps_fld (pv 0) (pv 2) rfl)
  (pss_one (ps_fldaug (pv 0) pe_int in_add)))))), ?_⟩
  refine ⟨_, rfl, p, C, dx, _, _, rfl, hp, KF.cl, KF.n_tops, frF_tops _ _ _, _, rfl, by show 1 ≤ sizeLine; decide, fun q1 nq1 => ?_⟩
  have x1 := Ext.new (o := .lst [v]) nq1
  have sl1 := stT_len ts
  have hdl := hd.len
  refine ⟨l, q1, ys, [v], rfl, rfl, x1.lst hl, upd_same, by rw [sizeLine_eq]; show _ + 1 ≤ _; omega, fun q2 nq2 => ?_⟩
  have x2 := x1.trans (Ext.new (o := .lst (ys ++ [v])) nq2)
  have k2 := (Kp.new (o := .lst [v]) nq1).trans (Kp.new (o := .lst (ys ++ [v])) nq2)
  have hq2 : upd (upd H q1 (.lst [v])) q2 (.lst (ys ++ [v])) q2 = some (.lst (ys ++ [v])) := upd_same
  have nq20 := x1.free nq2
  generalize upd (upd H q1 (.lst [v])) q2 (.lst (ys ++ [v])) = H2 at x2 k2 hq2 ⊢
  refine ⟨_, rfl, p, C, dx, _, _, rfl, x2.ins hp, KF.cl, KF.n_many, frF_many _ _ _, _, 1, rfl, rfl, ?_⟩
  have hul : (ts ++ [t]).length = ts.length + 1 := by rw [List.length_append]; rfl
  refine ⟨fun m σ H' => ∃ (j b : Nat) (zs : List V) (y4 y5 : Option V), b = m ∧ σ = [some (.ref p), some v, some (.ref q2), some (.int (b : Int)), y4, y5] ∧ ts.length + 1 = b * 2 ^ j ∧ Ext H H' ∧ H' q2 = some (.lst zs) ∧ S.ok H' (r + (ts.length + 1 - j)) ∧
    DenL S H' zs (stT ((ts ++ [t]).take (ts.length + 1 - 2 ^ j)) ++ [topT ((ts ++ [t]).drop (ts.length + 1 - 2 ^ j))]), ?_, ?_⟩
  · refine ⟨_, 0, ts.length + 1, ys ++ [v], none, none, rfl, rfl, by omega, x2, hq2, G.keep k2 hok, ?_⟩
    rw [show ts.length + 1 - 2 ^ 0 = ts.length by simp, List.take_left' rfl, List.drop_left' rfl, topT_one]
    exact (hd.mono G x2.gr).append (DenL.one (G.mono x2.gr hv))
  rintro m σ H3 ⟨j, b, zs, y4, y5, rfl, rfl, hb, x3, hq3, ok3, hd3⟩
  have pj := Nat.two_pow_pos j
  have b0 : b ≠ 0 := by
    rintro rfl
    omega
  have jlt : j < 2 ^ j := Nat.lt_two_pow_self
  have ble : 2 ^ j ≤ ts.length + 1 := by rw [hb]; exact Nat.le_mul_of_pos_left _ (by omega)
  refine ⟨_, rfl, b, rfl, rfl, rfl, _, rfl, ite2 (fun c => ?_) (fun c => ?_)⟩
  · have c' : ((b % 2 : Nat) : Int) = 0 := V.int.inj (of_decide_eq_true c)
    obtain ⟨c1, hc1⟩ : ∃ c1, b = 2 * (c1 + 1) := ⟨b / 2 - 1, by omega⟩
    -- the last two
    have e1 : ts.length + 1 - 2 ^ j = (2 * c1 + 1) * 2 ^ j := by rw [hb, hc1, ← Nat.sub_one_mul]; congr 1
    have e2 : (2 * c1 + 1) * 2 ^ j = 2 * c1 * 2 ^ j + 2 ^ j := by rw [Nat.add_mul, Nat.one_mul]
    have e3 : ts.length + 1 = 2 * c1 * 2 ^ j + 2 * 2 ^ j := by rw [hb, hc1, Nat.mul_add, Nat.add_mul]
    have lA : ((ts ++ [t]).take (ts.length + 1 - 2 ^ j)).length = (2 * c1 + 1) * 2 ^ j := by
      rw [List.length_take, hul]
      omega
    have hd4 := hd3
    rw [stT_last _ c1 lA] at hd4
    obtain ⟨vr, hvr, dvr, hd5⟩ := hd4.snoc_inv
    obtain ⟨vl, hvl, dvl, hd6⟩ := hd5.snoc_inv
    have hzl := hd3.len
    have hz1 := stT_len ((ts ++ [t]).take (ts.length + 1 - 2 ^ j))
    rw [lA] at hz1
    rw [List.length_append] at hzl
    have hzl' : zs.length ≤ 1002 := by
      rw [hzl]
      show _ + 1 ≤ _
      omega
    refine ⟨_, fun σ' H' h => h, ?_⟩
    refine ⟨_, rfl, .inl ⟨rfl, _, SqL.of hq3⟩, q2, zs, vr, rfl, rfl, hq3, hvr, ?_⟩
    have k4 := Kp.lst (o := .lst zs.dropLast) hq3
    have x4 := x3.mut (o := .lst zs.dropLast) nq20
    have hq4 : upd H3 q2 (.lst zs.dropLast) q2 = some (.lst zs.dropLast) := upd_same
    generalize upd H3 q2 (.lst zs.dropLast) = H4 at k4 x4 hq4 ⊢
    refine ⟨_, rfl, .inl ⟨rfl, _, SqL.of hq4⟩, q2, zs.dropLast, vl, rfl, rfl, hq4, hvl, ?_⟩
    have k5 := k4.trans (Kp.lst (o := .lst zs.dropLast.dropLast) hq4)
    have x5 := x4.mut (o := .lst zs.dropLast.dropLast) nq20
    have hq5 : upd H4 q2 (.lst zs.dropLast.dropLast) q2 = some (.lst zs.dropLast.dropLast) := upd_same
    generalize upd H4 q2 (.lst zs.dropLast.dropLast) = H5 at k5 x5 hq5 ⊢
    refine ⟨_, rfl, .inl ⟨rfl, _, SqL.of hq5⟩, ?_⟩
    refine ⟨_, rfl, p, C, dx, _, _, rfl, x5.ins hp, KF.cl, KF.n_seal, frF_seal _ _ _, _, rfl, _, rfl, S, vl, vr, _, _, r + (ts.length + 1 - (j + 1)), hF, rfl, G.less (G.keep k5 ok3) (by omega), G.mono k5.gr dvl, G.mono k5.gr dvr, fun v' H6 x6 ok6 d6 => ?_⟩
    have hq6 := x6.lst hq5
    refine ⟨q2, zs.dropLast.dropLast, v', rfl, rfl, hq6, by rw [List.length_dropLast, List.length_dropLast, sizeLine_eq]; omega, ?_⟩
    have k7 := Kp.lst (o := .lst (zs.dropLast.dropLast ++ [v'])) hq6
    have x7 := (x5.trans x6).mut (o := .lst (zs.dropLast.dropLast ++ [v'])) nq20
    refine ⟨_, rfl, _, 1, rfl, rfl, by show (0 : Int) ≤ 1; decide, ?_⟩
    have gr7 := (k5.gr.trans x6.gr).trans k7.gr
    refine ⟨c1 + 1, by omega, j + 1, c1 + 1, zs.dropLast.dropLast ++ [v'], some vr, some vl, rfl, ?_, ?_, x7, upd_same, G.keep k7 ok6, ?_⟩
    · rw [hc1]
      show [some (V.ref p), some v, some (V.ref q2), some (V.int (((2 * (c1 + 1) : Nat) : Int) / 2 ^ (1 : Int).toNat)), some vr, some vl] = _
      rw [show (((2 * (c1 + 1) : Nat) : Int) / 2 ^ (1 : Int).toNat) = ((c1 + 1 : Nat) : Int) by
        rw [show ((2 : Int) ^ (1 : Int).toNat) = 2 from rfl]
        omega]
    · rw [hb, hc1, Nat.pow_succ, Nat.mul_comm 2 (c1 + 1), Nat.mul_assoc, Nat.mul_comm 2]
    · have e5 : ts.length + 1 - 2 ^ (j + 1) = 2 * c1 * 2 ^ j := by
        rw [Nat.pow_succ]
        omega
      have lD : ((ts ++ [t]).drop (2 * c1 * 2 ^ j)).length = 2 * 2 ^ j := by
        rw [List.length_drop, hul]
        omega
      rw [e5]
      rw [e1, e2] at hd6 d6
      rw [List.take_take, Nat.min_eq_left (by omega)] at hd6
      rw [topT_two lD]
      rw [List.drop_take, Nat.add_sub_cancel_left] at d6
      rw [List.drop_drop]
      exact (hd6.mono G gr7).append (DenL.one (G.mono k7.gr d6))
  · have c' : ¬ ((b % 2 : Nat) : Int) = 0 := fun z => c (decide_eq_true (by rw [z]))
    obtain ⟨c1, hc1⟩ : ∃ c1, b = 2 * c1 + 1 := ⟨b / 2, by omega⟩
    have e1 : ts.length + 1 - 2 ^ j = 2 * c1 * 2 ^ j := by
      rw [hb, hc1, Nat.add_mul, Nat.one_mul]
      omega
    rw [e1, ← stT_last _ c1 (by rw [hul, hb, hc1])] at hd3
    have hp3 := x3.ins hp
    have k4 := Kp.ins (o := .ins C dx (frF S.f (ts.length : Int) q2)) hp3
    have x4 := ExtO.put (o := .ins C dx (frF S.f (ts.length : Int) q2)) hp3
    refine ⟨_, rfl, _, rfl, p, C, dx, _, rfl, hp3, KF.cl, KF.n_tops, by show 3 < 1000; decide, ?_⟩
    rw [frF_pt]
    have hp4 : upd H3 p (.ins C dx (frF S.f (ts.length : Int) q2)) p = some (.ins C dx (frF S.f (ts.length : Int) q2)) := upd_same
    have nqp : q2 ≠ p := fun z => by rw [z, hp3] at hq3; cases hq3
    have hq4 : upd H3 p (.ins C dx (frF S.f (ts.length : Int) q2)) q2 = some (.lst zs) := by rw [upd_ne nqp]; exact hq3
    generalize upd H3 p (.ins C dx (frF S.f (ts.length : Int) q2)) = H4 at k4 x4 hp4 hq4 ⊢
    have k5 := k4.trans (Kp.ins (o := .ins C dx (frF S.f ((ts.length : Int) + 1) q2)) hp4)
    refine ⟨_, rfl, p, C, dx, _, _, rfl, hp4, KF.cl, KF.n_many, frF_many _ _ _, _, 1, rfl, rfl, dx, _, hp4, by show 3 < 1000; decide, ?_⟩
    rw [frF_pm]
    refine q _ ((x3.o.trans x4).trans (ExtO.put hp4)) (G.less (G.keep k5 ok3) (by omega)) ⟨dx, q2, zs, ?_, ?_, hd3.mono G k5.gr⟩
    · rw [upd_same, hul]
      rfl
    · rw [upd_ne nqp]
      exact hq4
def spFSize (C : Addr) : Sp := fun vs H Q _ => ∃ (S : Sys) (p : Addr) (ts : List Tm), vs = [.ref p] ∧ FrAt C S H p ts ∧ Q (.int (ts.length : Int)) H
theorem ok_fsize (KF : K_Frontier K mg C) : Met P w K mg base 1 C "size" (spFSize C) [] := by
  refine met_of KF.cl KF.m_size sc_Frontier_size (fun vs H Q E h => ?_) (fun f cdv A' outer s H vs Q E hr h => ?_)
  · obtain ⟨S, p, ts, rfl, _⟩ := h
    rfl
  obtain ⟨S, p, ts, rfl, ⟨dx, l, ys, hp, hl, hd⟩, q⟩ := h
  refine ⟨_, (pss_one (ps_ret (pe_fld (pv 0) rfl))), ?_⟩
  exact ⟨_, rfl, p, C, dx, _, _, rfl, hp, KF.cl, KF.n_many, frF_many _ _ _, q⟩
def spFKept (C : Addr) : Sp := fun vs H Q _ => ∃ (S : Sys) (p : Addr) (ts : List Tm), vs = [.ref p] ∧ FrAt C S H p ts ∧ ∀ q ys, H q = none → DenL S H ys (stT ts) → Q (.ref q) (upd H q (.lst ys))
theorem ok_fkept {cc : Addr} (T : Txt K mg cc) (KF : K_Frontier K mg C) : Met P w K mg base 1 C "kept" (spFKept C) [] := by
  have Z := T.Z
  refine met_of KF.cl KF.m_kept sc_Frontier_kept (fun vs H Q E h => ?_) (fun f cdv A' outer s H vs Q E hr h => ?_)
  · obtain ⟨S, p, ts, rfl, _⟩ := h
    rfl
  obtain ⟨S, p, ts, rfl, ⟨dx, l, ys, hp, hl, hd⟩, q⟩ := h
  refine ⟨_, (pss_one (ps_ret (pe_callTy call_list_of rfl Z.list (by decide +kernel) (pa_cons (pe_fld (pv 0) rfl) pa_nil)))), ?_⟩
  exact ⟨_, rfl, p, C, dx, _, _, rfl, hp, KF.cl, KF.n_tops, frF_tops _ _ _, l, ys, rfl, .inl (SqL.of hl), fun p3 np3 => q p3 ys np3 hd⟩
def spFTop (C : Addr) (Fam : Sys → Prop) : Sp := fun vs H Q _ => ∃ (S : Sys) (p : Addr) (ts : List Tm) (r : Nat), Fam S ∧ vs = [.ref p] ∧ FrAt C S H p ts ∧ S.ok H (r + (ts.length + 1)) ∧ ∀ v H', Ext H H' → S.ok H' r → S.den H' v (topT ts) → Q v H'
theorem ok_ftop {cc : Addr} (T : Txt K mg cc) (A : SlA P w K mg base Fam) (KF : K_Frontier K mg C) (C_none_seal : Cal P w K mg base 2 "none_seal" (spNone Fam) []) (C_pair_seal : Cal P w K mg base 2 "pair_seal" (spPair Fam) []) : Met P w K mg base 3 C "top" (spFTop C Fam) [] := by
  have Z := T.Z
  refine met_of KF.cl KF.m_top sc_Frontier_top (fun vs H Q E h => ?_) (fun f cdv A' outer s H vs Q E hr h => ?_)
  · obtain ⟨S, p, ts, r, _, rfl, _⟩ := h
    rfl
  obtain ⟨S, p, ts, r, hF, rfl, ⟨dx, l, ys, hp, hl, hd⟩, hok, q⟩ := h
  have G := A.good hF
  refine ⟨_, (pss_cons (ps_if (pt_cmpR op_eq (pe_fld (pv 0) rfl) pe_int (nomark _)) (pss_one (ps_ret (pe_c C_none_seal hr (by omega) rfl (pa_cons (pe_fld (pv 0) rfl) pa_nil)))) pss_nil)
  (pss_cons (ps_set (i := 1) sc_Frontier_top.nd rfl (Or.inl rfl) (pe_ix ix_list (pe_fld (pv 0) rfl) (pe_op op_sub (pe_callB call_len_seq rfl Z.len PySem.boot_len (pa_cons (pe_fld (pv 0) rfl) pa_nil)) pe_int) (fun _ _ => rfl)))
  (pss_cons (ps_for PassesOwn.never rfl (pi_reversed rfl Z.reversed (pa_cons (pe_slice sl_list (pe_fld (pv 0) rfl) po_none (po_some (pe_op op_sub (pe_callB call_len_seq rfl Z.len PySem.boot_len (pa_cons (pe_fld (pv 0) rfl) pa_nil)) pe_int))) pa_nil)) (pg_name (i := 2) sc_Frontier_top.nd rfl (Or.inl rfl)) (pss_one (ps_set (i := 1) sc_Frontier_top.nd rfl (Or.inl rfl) (pe_c C_pair_seal hr (by omega) rfl (pa_cons (pe_fld (pv 0) rfl) (pa_cons (pv 2) (pa_cons (pv 1) pa_nil)))))))
  (pss_one (ps_ret (pv 1)))))), ?_⟩
  refine ⟨_, rfl, p, C, dx, _, _, rfl, hp, KF.cl, KF.n_many, frF_many _ _ _, rfl, _, rfl, ite2 (fun c => ?_) (fun c => ?_)⟩
  · have c' : (ts.length : Int) = 0 := V.int.inj (of_decide_eq_true c)
    refine ⟨_, rfl, p, C, dx, _, _, rfl, hp, KF.cl, KF.n_seal, frF_seal _ _ _, S, r, hF, rfl, G.less hok (by omega), fun v H' x ok d => q v H' x ok ?_⟩
    rw [List.eq_nil_of_length_eq_zero (show ts.length = 0 by omega), topT_nil]
    exact d
  have n0 : ts.length ≠ 0 := fun z => c (decide_eq_true (by rw [z] <;> rfl))
  have hdl := hd.len
  have sl := stT_len ts
  have sp : (stT ts).length ≠ 0 := by
    rw [stT_more n0]
    simp
  have hlast : (stT ts).length - 1 < (stT ts).length := by omega
  obtain ⟨w0, hw0, dw0⟩ := hd.get hlast
  have ei : (ys.length : Int) - 1 = (((stT ts).length - 1 : Nat) : Int) := by omega
  refine ⟨_, rfl, p, C, dx, _, _, rfl, hp, KF.cl, KF.n_tops, frF_tops _ _ _, _, rfl, p, C, dx, _, _, rfl, hp, KF.cl, KF.n_tops, frF_tops _ _ _, l, ys, rfl, .inl (SqL.of hl), _, 1, rfl, rfl, l, ys, _, w0, rfl, rfl, SqL.of hl, by rw [ei]; exact atI_nat hw0, ?_⟩
  refine ⟨_, rfl, p, C, dx, _, _, rfl, hp, KF.cl, KF.n_tops, frF_tops _ _ _, _, rfl, p, C, dx, _, _, rfl, hp, KF.cl, KF.n_tops, frF_tops _ _ _, l, ys, rfl, .inl (SqL.of hl), _, 1, rfl, rfl, (((stT ts).length - 1 : Nat) : Int), by rw [← ei], l, ys, rfl, SqL.of hl, fun p1 np1 => ?_⟩
  rw [cut_to]
  have x1 := Ext.new (o := .lst (ys.take ((stT ts).length - 1))) np1
  have ok1 := G.keep (Kp.new (o := .lst (ys.take ((stT ts).length - 1))) np1) hok
  have hp1 : upd H p1 (.lst (ys.take ((stT ts).length - 1))) p1 = some (.lst (ys.take ((stT ts).length - 1))) := upd_same
  generalize upd H p1 (.lst (ys.take ((stT ts).length - 1))) = H1 at x1 ok1 hp1 ⊢
  have tl : (ys.take ((stT ts).length - 1)).length = (stT ts).length - 1 := by
    rw [List.length_take]
    omega
  refine ⟨p1, _, rfl, SqL.of hp1, ?_⟩
  refine RT.for_Itv (K := K) (a := p1) (xs := ys.take ((stT ts).length - 1)) (fun i σ H' => ∃ (u : V) (y2 : Option V), σ = [some (.ref p), some u, y2] ∧ i ≤ (stT ts).length - 1 ∧ Ext H1 H' ∧ S.ok H' (r + (ts.length + 1 - i)) ∧ S.den H' u (foldP ((stT ts).drop ((stT ts).length - 1 - i))))
    ⟨w0, none, rfl, Nat.zero_le _, Ext.refl _, ok1, ?_⟩ (fun i σ H' ⟨_, _, _, _, x, _⟩ => SqL.of (x.lst hp1)) ?_ ?_
  · rw [Nat.sub_zero, foldP_last sp, List.getD_eq_getElem?_getD, List.getElem?_eq_getElem hlast]
    exact G.mono x1.gr dw0
  · rintro i y σ H' hi hy ⟨u, y2, rfl, hi2, x, ok, hu⟩
    rw [tl] at hi hy
    rw [List.getElem?_take_of_lt (by omega)] at hy
    have hj : (stT ts).length - 1 - 1 - i < (stT ts).length := by omega
    have hdy := hd.at_ _ _ _ hy (List.getElem?_eq_getElem hj)
    have xx := x1.trans x
    refine ⟨_, rfl, p, C, dx, _, _, rfl, xx.ins hp, KF.cl, KF.n_seal, frF_seal _ _ _, _, rfl, _, rfl, S, y, u, _, _, r + (ts.length + 1 - (i + 1)), hF, rfl, G.less ok (by omega), G.mono xx.gr hdy, hu, fun v' H'' x' ok' d' => ?_⟩
    refine ⟨v', _, rfl, by omega, x.trans x', ok', ?_⟩
    have e := foldP_drop (l := stT ts) (i := (stT ts).length - 1 - 1 - i) (by omega)
    rw [show (stT ts).length - 1 - 1 - i + 1 = (stT ts).length - 1 - i by omega, List.getD_eq_getElem?_getD, List.getElem?_eq_getElem hj] at e
    rw [show (stT ts).length - 1 - (i + 1) = (stT ts).length - 1 - 1 - i by omega, e]
    exact d'
  · rintro σ H' ⟨u, y2, rfl, _, x, ok, hu⟩
    rw [tl, Nat.sub_self, List.drop_zero, foldP_st] at hu
    exact ⟨_, rfl, q u H' (x1.trans x) (G.less ok (by omega)) hu⟩
end

/-! ### the law's stretches, and its look at a frontier -/
section
variable {P : Program} {w : World} {K : PySem.W.Frag} {mg : Str → Option Value} {base : Heap} {Fam : Sys → Prop} {C : Addr}
def spStr (K : PySem.W.Frag) (Fam : Sys → Prop) : Sp := fun vs H Q _ => ∃ (S : Sys) (a : Addr) (xs : List V) (ts : List Tm) (r : Nat), Fam S ∧ vs = [.ref S.f, .ref a] ∧ SqL K H a xs ∧ DenL S H xs ts ∧ ts.length ≤ 500 ∧ S.ok H (r + 2 * ts.length) ∧ ∀ q ys H', Ext H H' → H q = none → H' q = some (.lst ys) → S.ok H' r → DenL S H' ys (stT ts) → Q (.ref q) H'
theorem ok_stretches {cc : Addr} (T : Txt K mg cc) (A : SlA P w K mg base Fam) : Cal P w K mg base 13 "_law_stretches" (spStr K Fam) [] := by
  have Z := T.Z
  have C__law_top := ok_law_top T A 10
  refine cal_of T.d__law_stretches sc__law_stretches (fun vs H Q E h => ?_) (fun f cdv A' outer s H vs Q E hr h => ?_)
  · obtain ⟨S, a, xs, ts, r, _, rfl, _⟩ := h
    rfl
  obtain ⟨S, a, xs, ts, r, hF, rfl, hS, hd, hlen, hok, q⟩ := h
  have G := A.good hF
  have hdl := hd.len
  refine ⟨_, (pss_cons (ps_set (i := 2) sc__law_stretches.nd rfl (Or.inl rfl) (pe_lst pa_nil))
  (pss_cons (ps_set (i := 3) sc__law_stretches.nd rfl (Or.inl rfl) pe_int)
  (pss_cons (ps_while PassesOwn.never (pt_cmpR op_lt (pv 3) (pe_callB call_len_seq rfl Z.len PySem.boot_len (pa_cons (pv 1) pa_nil)) (nomark _)) (pss_cons (ps_set (i := 4) sc__law_stretches.nd rfl (Or.inl rfl) pe_int)
  (pss_cons (ps_while PassesOwn.never (pt_cmpR op_le (pe_op op_mul (pv 4) pe_int) (pe_op op_sub (pe_callB call_len_seq rfl Z.len PySem.boot_len (pa_cons (pv 1) pa_nil)) (pv 3)) (nomark _)) (pss_one (ps_set (i := 4) sc__law_stretches.nd rfl (Or.inl rfl) (pe_op op_mul (pv 4) pe_int))))
  (pss_cons (ps_expr (pe_bm PySem.F.plainAttrs_list PySem.F.slot_list_append PySem.F.type_list_append mt_append (pv 2) (pa_cons (pe_c C__law_top hr (by omega) rfl (pa_cons (pv 0) (pa_cons (pe_slice sl_list (pv 1) (po_some (pv 3)) (po_some (pe_op op_add (pv 3) (pv 4)))) pa_nil))) pa_nil)))
  (pss_one (ps_set (i := 3) sc__law_stretches.nd rfl (Or.inl rfl) (pe_op op_add (pv 3) (pv 4))))))))
  (pss_one (ps_ret (pv 2)))))), ?_⟩
  refine ⟨by show 0 ≤ sizeLine; decide, fun p hp => ?_⟩
  refine ⟨fun m σ H' => ∃ (at' : Nat) (zs : List V) (us : List Tm) (y4 : Option V), ts.length - at' = m ∧ at' ≤ ts.length ∧ σ = [some (.ref S.f), some (.ref a), some (.ref p), some (.int (at' : Int)), y4] ∧ Ext H H' ∧ H' p = some (.lst zs) ∧ DenL S H' zs us ∧ us.length ≤ at' ∧ us ++ stT (ts.drop at') = stT ts ∧ S.ok H' (r + 2 * (ts.length - at')), ?_, ?_⟩
  · exact ⟨_, 0, [], [], none, rfl, Nat.zero_le _, rfl, Ext.new hp, upd_same, DenL.nil, Nat.le_refl _, by rw [List.drop_zero]; rfl, G.keep (Kp.new hp) hok⟩
  rintro m σ H1 ⟨at', zs, us, y4, rfl, hat, rfl, x1, hp1, hd1, hul, heq, ok1⟩
  refine ⟨_, rfl, _, rfl, a, xs, rfl, .inl (x1.seq hS), _, _, rfl, rfl, _, rfl, ite2 (fun c => ?_) (fun c => ?_)⟩
  · have c' : (at' : Int) < (xs.length : Int) := of_decide_eq_true c
    refine ⟨_, fun σ' H' h => h, ?_⟩
    refine ⟨fun m σ H' => ∃ (i : Nat), (ts.length - at') - 2 ^ i = m ∧ 2 ^ i ≤ ts.length - at' ∧ σ = [some (.ref S.f), some (.ref a), some (.ref p), some (.int (at' : Int)), some (.int ((2 ^ i : Nat) : Int))] ∧ H' = H1, ⟨_, 0, rfl, by simp; omega, rfl, rfl⟩, ?_⟩
    rintro m σ H' ⟨i, rfl, hi, rfl, rfl⟩
    have cm : CMul ((2 ^ i : Nat) : Int) 2 := .inr ⟨by decide, by decide⟩
    refine ⟨_, rfl, _, 2, rfl, rfl, cm, _, rfl, a, xs, rfl, .inl (x1.seq hS), ?_⟩
    refine ⟨_, rfl, _, _, rfl, rfl, _, _, rfl, rfl, _, rfl, ite2 (fun c2 => ?_) (fun c2 => ?_)⟩
    · have c2' : ((2 ^ i : Nat) : Int) * 2 ≤ (xs.length : Int) - (at' : Int) := of_decide_eq_true c2
      have p2 := Nat.two_pow_pos i
      have e2 : 2 ^ (i + 1) = 2 ^ i * 2 := Nat.pow_succ ..
      refine ⟨_, fun σ' H'' h => h, ?_⟩
      refine ⟨_, rfl, _, 2, rfl, rfl, cm, _, ?_, i + 1, rfl, ?_, ?_, rfl⟩
      · omega
      · omega
      · have e : ((2 ^ i : Nat) : Int) * 2 = ((2 ^ (i + 1) : Nat) : Int) := by
          rw [Nat.pow_succ]
          omega
        show [some (V.ref S.f), some (V.ref a), some (V.ref p), some (V.int (at' : Int)), some (V.int (((2 ^ i : Nat) : Int) * 2))] = _
        rw [e]
    · have c2' : ¬ ((2 ^ i : Nat) : Int) * 2 ≤ (xs.length : Int) - (at' : Int) := of_decide_eq_false (Bool.eq_false_iff.mpr c2)
      have p2 := Nat.two_pow_pos i
      have hdn : (ts.drop at').length = ts.length - at' := List.length_drop
      have hg : greatN (ts.drop at').length = 2 ^ i := greatN_of (by omega) (by omega)
      refine ⟨_, rfl, .inl ⟨rfl, _, SqL.of hp1⟩, ?_⟩
      have e4 : (at' : Int) + ((2 ^ i : Nat) : Int) = ((at' + 2 ^ i : Nat) : Int) := by omega
      refine ⟨_, rfl, _, rfl, _, rfl, ((at' : Nat) : Int), rfl, _, rfl, _, rfl, _, _, rfl, rfl, ((at' + 2 ^ i : Nat) : Int), by rw [← e4], a, xs, rfl, x1.seq hS, fun p2 np2 => ?_⟩
      rw [cut_mid (Nat.le_add_right _ _) (by omega), Nat.add_sub_cancel_left]
      have x2 := Ext.new (o := .lst ((xs.drop at').take (2 ^ i))) np2
      have k2 := Kp.new (o := .lst ((xs.drop at').take (2 ^ i))) np2
      have cT := costT_le (2 ^ i)
      have lt2 : ((ts.drop at').take (2 ^ i)).length = 2 ^ i := by
        rw [List.length_take]
        omega
      have dd := (((hd.drop at').take (2 ^ i)).mono G x1.gr).mono G x2.gr
      refine ⟨S, p2, _, (ts.drop at').take (2 ^ i), r + 2 * (ts.length - (at' + 2 ^ i)), hF, rfl, SqL.of upd_same, dd, by decide, by rw [lt2]; show _ ≤ 512; omega, by omega, G.less (G.keep k2 ok1) (by rw [lt2]; omega), fun v H3 x3 ok3 d3 => ?_⟩
      have hp3 := x3.lst (x2.lst hp1)
      have hzl := hd1.len
      refine ⟨p, zs, v, rfl, rfl, hp3, by rw [hzl, sizeLine_eq]; omega, ?_⟩
      have k4 := Kp.lst (o := .lst (zs ++ [v])) hp3
      have xx := (x1.trans x2).trans x3
      refine ⟨_, rfl, _, rfl, _, _, rfl, rfl, _, ?_, at' + 2 ^ i, zs ++ [v], us ++ [topT ((ts.drop at').take (2 ^ i))], some (.int ((2 ^ i : Nat) : Int)), rfl, by omega, ?_, xx.mut hp, upd_same, ?_, ?_, ?_, G.keep k4 ok3⟩
      · omega
      · rw [← e4]
        rfl
      · exact ((hd1.mono G (x2.trans x3).gr).mono G k4.gr).append (DenL.one (G.mono k4.gr d3))
      · rw [List.length_append]
        show us.length + 1 ≤ _
        omega
      · rw [← heq, stT_more (ts := ts.drop at') (by omega), hg, List.append_assoc, List.drop_drop]
        rfl
  · have c' : ¬ (at' : Int) < (xs.length : Int) := of_decide_eq_false (Bool.eq_false_iff.mpr c)
    have e : at' = ts.length := by omega
    subst e
    rw [List.drop_length, stT_nil, List.append_nil] at heq
    subst heq
    exact ⟨_, rfl, q p zs H1 x1 hp hp1 (G.less ok1 (by omega)) hd1⟩
def spRight (K : PySem.W.Frag) (Fam : Sys → Prop) (C : Addr) : Sp := fun vs H Q _ => ∃ (S : Sys) (p a : Addr) (xs : List V) (ts : List Tm) (r : Nat), Fam S ∧ vs = [.ref S.f, .ref p, .ref a] ∧ FrAt C S H p ts ∧ SqL K H a xs ∧ DenL S H xs ts ∧ ts.length ≤ 500 ∧ (∀ t ∈ ts, t.dep ≤ 1) ∧ S.ok H (r + (4 * ts.length + 4)) ∧ ∀ H', Ext H H' → S.ok H' r → Q (.bl true) H'
theorem ok_right {cc : Addr} (T : Txt K mg cc) (A : SlA P w K mg base Fam) (KF : K_Frontier K mg C) : Cal P w K mg base 14 "_law_right" (spRight K Fam C) [] := by
  have Z := T.Z
  have C_none_seal := ok_none_seal T A
  have C_pair_seal := ok_pair_seal T A
  have C__law_top := ok_law_top T A 10
  have C__law_stretches := ok_stretches T A
  have M_size := ok_fsize (P := P) (w := w) (mg := mg) (base := base) KF
  have M_kept := ok_fkept (P := P) (w := w) (base := base) T KF
  have M_top := ok_ftop T A KF C_none_seal C_pair_seal
  refine cal_of T.d__law_right sc__law_right (fun vs H Q E h => ?_) (fun f cdv A' outer s H vs Q E hr h => ?_)
  · obtain ⟨S, p, a, xs, ts, r, _, rfl, _⟩ := h
    rfl
  obtain ⟨S, p, a, xs, ts, r, hF, rfl, hfr, hS, hd, hlen, hdep, hok, q⟩ := h
  have G := A.good hF
  have hdl := hd.len
  obtain ⟨dx, l, ys, hp, _, _⟩ := id hfr
  obtain ⟨no1, no2, no3, no4⟩ := frF_no1 S.f (ts.length : Int) l
  refine ⟨_, (pss_cons (ps_if (PW.pt (pw_or (pt_not (pt_val (pe_callB call_isi rfl Z.isinstance (by decide +kernel) (pa_cons (pe_mt0 M_size hr (by omega) (pv 1)) (pa_cons (pe_bltn (v := .ty "int") rfl Z.int (by decide +kernel) rfl) pa_nil))))) (pw_or1 (pt_cmpR op_ne (pe_mt0 M_size hr (by omega) (pv 1)) (pe_callB call_len_seq rfl Z.len PySem.boot_len (pa_cons (pv 2) pa_nil)) (nomark _))))) (pss_one (ps_ret pe_bl)) pss_nil)
  (pss_cons (ps_set (i := 3) sc__law_right.nd rfl (Or.inl rfl) (pe_mt0 M_kept hr (by omega) (pv 1)))
  (pss_cons (ps_if (PW.pt (pw_or (pt_not (pt_val (pe_callB call_isi rfl Z.isinstance (by decide +kernel) (pa_cons (pv 3) (pa_cons (pe_bltn (v := .ty "list") rfl Z.list (by decide +kernel) rfl) pa_nil))))) (pw_or1 (pt_cmpR (op_neD hr.units) (pv 3) (pe_c C__law_stretches hr (by omega) rfl (pa_cons (pv 0) (pa_cons (pv 2) pa_nil))) (nomark _))))) (pss_one (ps_ret pe_bl)) pss_nil)
  (pss_cons (ps_expr (pe_bm PySem.F.plainAttrs_list PySem.F.slot_list_append PySem.F.type_list_append mt_append (pv 3) (pa_cons pe_int pa_nil)))
  (pss_one (ps_ret (pe_cmpR (op_eqD hr.units) (pe_mt0 M_top hr (by omega) (pv 1)) (pe_c C__law_top hr (by omega) rfl (pa_cons (pv 0) (pa_cons (pv 2) pa_nil))) (nomark _)))))))), ?_⟩
  refine ⟨_, rfl, p, dx, _, rfl, hp, no2, S, p, ts, rfl, hfr, .int _, .ty "int", _, _, true, rfl, .ty "int", .base (.int _), kit_ty (by decide +kernel), true, rfl, ?_⟩
  refine ⟨_, rfl, p, dx, _, rfl, hp, no2, S, p, ts, rfl, hfr, _, rfl, a, xs, rfl, .inl hS, rfl, _, rfl, ?_⟩
  rw [hdl, decide_eq_true rfl]
  refine iteF ?_
  refine ⟨_, rfl, p, dx, _, rfl, hp, no3, S, p, ts, rfl, hfr, fun t zs nt hdz => ?_⟩
  have x1 := Ext.new (o := .lst zs) nt
  have ok1 := G.keep (Kp.new (o := .lst zs) nt) hok
  have ht1 : upd H t (.lst zs) t = some (.lst zs) := upd_same
  generalize upd H t (.lst zs) = H1 at x1 ok1 ht1 ⊢
  refine ⟨_, rfl, .ref t, .ty "list", _, _, true, rfl, .ty "list", .base (.lst ht1), kit_ty (by decide +kernel), true, rfl, ?_⟩
  refine ⟨_, rfl, _, rfl, _, rfl, S, a, xs, ts, r + (2 * ts.length + 4), hF, rfl, x1.seq hS, hd.mono G x1.gr, hlen, G.less ok1 (by omega), fun t2 zs2 H2 x2 nt2 ht2 ok2 hd2 => ?_⟩
  have sdep : ∀ t ∈ stT ts, t.dep ≤ 60 := stT_mem fun us hu hlu => Nat.le_trans (topT_dep 9 us (by show _ ≤ 512; omega) fun t ht => hdep t (hu t ht)) (by decide)
  obtain ⟨dd, a1, a2, a3, a4⟩ := eq_rows G (SqL.of (x2.lst ht1)) (SqL.of ht2) ((hdz.mono G x1.gr).mono G x2.gr) hd2 sdep
  refine ⟨dd, dd, a1, a2, a3, a3, _, rfl, ?_⟩
  rw [a4]
  refine iteF ?_
  have ht2' := x2.lst ht1
  have hzl := hdz.len
  have sl := stT_len ts
  refine ⟨_, rfl, .inl ⟨rfl, _, SqL.of ht2'⟩, t, zs, _, rfl, rfl, ht2', by rw [hzl, sizeLine_eq]; omega, ?_⟩
  have x3 := (x1.trans x2).mut (o := .lst (zs ++ [.int 0])) nt
  have ok3 := G.keep (Kp.lst (o := .lst (zs ++ [.int 0])) ht2') ok2
  generalize upd H2 t (.lst (zs ++ [.int 0])) = H3 at x3 ok3 ⊢
  have hfr3 := hfr.ext G x3
  refine ⟨_, rfl, p, dx, _, rfl, x3.ins hp, no4, S, p, ts, r + (ts.length + 2), hF, rfl, hfr3, G.less ok3 (by omega), fun v4 H4 x4 ok4 d4 => ?_⟩
  have cT := costT_le ts.length
  have x34 := x3.trans x4
  refine ⟨_, rfl, _, rfl, S, a, xs, ts, r, hF, rfl, x34.seq hS, hd.mono G x34.gr, by decide, by show _ ≤ 512; omega, by omega, G.less ok4 (by omega), fun v5 H5 x5 ok5 d5 => ?_⟩
  obtain ⟨ee, b1, b2, b3, b4⟩ := eq_tm G (G.mono x5.gr d4) d5 (Nat.le_trans (topT_dep 9 ts (by show _ ≤ 512; omega) hdep) (by decide))
  refine ⟨ee, ee, b1, b2, b3, b3, ?_⟩
  rw [b4]
  exact q _ (x34.trans x5) ok5
end

theorem ite3 {c A B : Prop} [Decidable c] (a : A) (b : A → B) : if c then A else B := ite2 (fun _ => a) (fun _ => b a)
section
variable {P : Program} {w : World} {K : PySem.W.Frag} {mg : Str → Option Value}
theorem ok_law {fa cc PT : Addr} (T : Txt K mg cc) (hfa : mg "law" = some (.ref fa)) : ∃ fd : FuncData, (∀ (s : Shared) (v : Value), BindsTo s fd ⟨[v], []⟩ [("_law_script", v)]) ∧ ∀ base : Heap, K.In base → base.Ns mainGlobals mg → LamX.TabB base mg cc PT → FnOk P w K mg base L2.CX0 20 fa fd ["_law_script"] (spLaw K PT) := by
  have Z := T.Z
  obtain ⟨C, KF⟩ := T.k_Frontier
  refine law_fnT T.d_law hfa sc_law (fun vs H Q E h => ?_) (fun base TB f cdv A' outer s H vs Q E hr h => ?_)
  · obtain ⟨a, ns, rfl, _⟩ := h
    rfl
  obtain ⟨a, ns, rfl, hS, hlen, hPT, q⟩ := h
  have A := sla3 (P := P) (w := w) (base := base) T
  have C__law_seal_by := ok_seal_by (P := P) (w := w) T TB
  have C__law_leaves := ok_leaves T A
  have C_Frontier := ok_finit A KF
  have M_add := ok_fadd A KF (ok_pair_seal T A)
  have M_size := ok_fsize (P := P) (w := w) (mg := mg) (base := base) KF
  have C__law_right := ok_right T A KF
  refine ⟨_, (pss_cons (ps_set (i := 0) sc_law.nd rfl (Or.inl rfl) (pe_slice sl_list (pv 0) po_none (po_some pe_int)))
  (pss_cons (ps_set (i := 1) sc_law.nd rfl (Or.inl rfl) (pe_c C__law_seal_by hr (by omega) rfl (pa_cons (pv 0) pa_nil)))
  (pss_cons (ps_set (i := 2) sc_law.nd rfl (Or.inl rfl) (pe_c C__law_leaves hr (by omega) rfl (pa_cons (pv 1) (pa_cons (pv 0) pa_nil))))
  (pss_cons (ps_set (i := 3) sc_law.nd rfl (Or.inl rfl) (pe_mk C_Frontier hr (by omega) rfl (pa_cons (pv 1) pa_nil)))
  (pss_cons (ps_set (i := 4) sc_law.nd rfl (Or.inl rfl) (pe_mk C_Frontier hr (by omega) rfl (pa_cons (pv 1) pa_nil)))
  (pss_cons (ps_if (pt_not (pt_val (pe_c C__law_right hr (by omega) rfl (pa_cons (pv 1) (pa_cons (pv 3) (pa_cons (pe_lst pa_nil) pa_nil)))))) (pss_one (ps_ret pe_bl)) pss_nil)
  (pss_cons (ps_for PassesOwn.never rfl (pi_range1 rfl Z.range (pa_cons (pe_callB call_len_seq rfl Z.len PySem.boot_len (pa_cons (pv 2) pa_nil)) pa_nil)) (pg_name (i := 5) sc_law.nd rfl (Or.inl rfl)) (pss_cons (ps_expr (pe_mt M_add hr (by omega) (pv 3) (pa_cons (pe_ix ix_list (pv 2) (pv 5) (fun _ _ => rfl)) pa_nil)))
  (Evl.pss_cut (ps_if (PW.pt (pw_or (pt_cmpR op_le (pe_callB call_len_seq rfl Z.len PySem.boot_len (pa_cons (pv 2) pa_nil)) pe_int (nomark _)) (pw_or (pt_cmpR op_eq (pe_op op_mod (pv 5) pe_int) pe_int (nomark _)) (pw_or1 (pt_cmpR op_eq (pv 5) (pe_op op_sub (pe_callB call_len_seq rfl Z.len PySem.boot_len (pa_cons (pv 2) pa_nil)) pe_int) (nomark _)))))) (pss_one (ps_if (PW.pt (pw_or (pt_not (pt_val (pe_c C__law_right hr (by omega) rfl (pa_cons (pv 1) (pa_cons (pv 3) (pa_cons (pe_slice sl_list (pv 2) po_none (po_some (pe_op op_add (pv 5) pe_int))) pa_nil)))))) (pw_or1 (pt_not (pt_val (pe_c C__law_right hr (by omega) rfl (pa_cons (pv 1) (pa_cons (pv 4) (pa_cons (pe_slice sl_list (pv 2) po_none (po_some (pv 5))) pa_nil))))))))) (pss_one (ps_ret pe_bl)) pss_nil)) pss_nil)
  (pss_one (ps_expr (pe_mt M_add hr (by omega) (pv 4) (pa_cons (pe_ix ix_list (pv 2) (pv 5) (fun _ _ => rfl)) pa_nil)))))))
  (pss_one (ps_ret (pe_cmpR op_eq (pe_mt0 M_size hr (by omega) (pv 3)) (pe_callB call_len_seq rfl Z.len PySem.boot_len (pa_cons (pv 2) pa_nil)) (nomark _))))))))))), ?_⟩
  refine ⟨.ref a, rfl, 63, rfl, a, _, rfl, hS, fun c nc => ?_⟩
  rw [take63 hlen]
  refine ⟨_, rfl, c, ns, rfl, SqL.of upd_same, by rw [upd_ne (ne_of_none hPT nc)]; exact hPT, fun S H1 hF x1 ok1 => ?_⟩
  have G := A.good hF
  have hc1 : H1 c = some (.lst (ns.map V.int)) := x1 _ _ upd_same fun _ z => nomatch z
  have e16 : sizeLine = 16777216 := sizeLine_eq
  refine ⟨_, rfl, _, rfl, S, c, ns, 16000000, hF, rfl, SqL.of hc1, hlen, G.less ok1 (by omega), fun D ys ts H2 x2 nD hD ok2 hd _ hl hdep => ?_⟩
  have hl2 := hd.len
  -- two frontiers
  refine ⟨_, rfl, fun p1 dx1 np1 ndx1 nex1 => ?_⟩
  have x3 : Ext H2 (upd (upd H2 dx1 (.own p1)) p1 (.ins C dx1 [])) := (Ext.new ndx1).trans (Ext.new (by rw [upd_ne nex1.symm]; exact np1))
  have ok3 := G.keep ((Kp.new (o := .own p1) ndx1).trans (Kp.new (o := .ins C dx1 []) (show upd H2 dx1 (.own p1) p1 = none by rw [upd_ne nex1.symm]; exact np1))) ok2
  refine ⟨S, p1, dx1, 16000000, hF, rfl, upd_same, ok3, fun H3 xo3 ok3 fr1 => ⟨rfl, ?_⟩⟩
  have x4 := xo3.ext x3 np1
  refine ⟨_, rfl, fun p2 dx2 np2 ndx2 nex2 => ?_⟩
  have x5 : Ext H3 (upd (upd H3 dx2 (.own p2)) p2 (.ins C dx2 [])) := (Ext.new ndx2).trans (Ext.new (by rw [upd_ne nex2.symm]; exact np2))
  have ok5 := G.keep ((Kp.new (o := .own p2) ndx2).trans (Kp.new (o := .ins C dx2 []) (show upd H3 dx2 (.own p2) p2 = none by rw [upd_ne nex2.symm]; exact np2))) ok3
  refine ⟨S, p2, dx2, 16000000, hF, rfl, upd_same, ok5, fun H4 xo4 ok4 fr2 => ⟨rfl, ?_⟩⟩
  have x6 := xo4.ext x5 np2
  have fr1' := fr1.ext G x6
  have n12 : p1 ≠ p2 := by
    obtain ⟨_, _, _, z, _, _⟩ := fr1
    exact ne_of_none z np2
  have x46 := x4.trans x6
  have hD4 := x46.lst hD
  have hd4 := hd.mono G x46.gr
  -- an empty one
  refine ⟨_, rfl, _, rfl, by show 0 ≤ sizeLine; decide, fun q1 nq1 => ?_⟩
  have x7 := Ext.new (o := .lst []) nq1
  refine ⟨S, p1, q1, [], [], 15999000, hF, rfl, fr1'.ext G x7, SqL.of upd_same, DenL.nil, by decide, fun _ h => (by cases h), G.less (G.keep (Kp.new nq1) ok4) (by decide), fun H5 x8 ok8 => ?_⟩
  refine ⟨_, rfl, iteF ?_⟩
  have x78 := x7.trans x8
  have f1 := fr1'.ext G x78
  have f2 := fr2.ext G x78
  have hD5 := x78.lst hD4
  have hd5 := hd4.mono G x78.gr
  refine ⟨_, rfl, D, ys, rfl, .inl (SqL.of hD5), (ys.length : Int), rfl, by omega, by omega, ?_⟩
  rw [Int.toNat_natCast, hl2]
  refine for_range (fun i σ H' => ∃ y5, σ = [some (.ref c), some (.ref S.f), some (.ref D), some (.ref p1), some (.ref p2), y5] ∧ FrAt C S H' p1 (ts.take i) ∧ FrAt C S H' p2 (ts.take i) ∧ H' D = some (.lst ys) ∧ DenL S H' ys ts ∧ S.ok H' (15999000 - i * 9000))
    ⟨none, rfl, by rw [List.take_zero]; exact f1, by rw [List.take_zero]; exact f2, hD5, hd5, ok8⟩ ?_ ?_
  · rintro i σ H' hi ⟨y5, rfl, g1, g2, hD', hd', ok'⟩
    rw [Int.zero_add]
    obtain ⟨v, hv, dv⟩ := hd'.get hi
    have ets : ts.take i ++ [ts[i]] = ts.take (i + 1) := List.take_append_getElem hi
    have lti : (ts.take i).length = i := by rw [List.length_take]; omega
    have lti1 : (ts.take (i + 1)).length = i + 1 := by rw [List.length_take]; omega
    obtain ⟨d1, l1, ys1, hp1, _, _⟩ := id g1
    obtain ⟨no1, no2, no3, no4⟩ := frF_no1 S.f ((ts.take i).length : Int) l1
    refine ⟨_, rfl, p1, d1, _, rfl, hp1, no1, _, rfl, _, rfl, D, ys, (i : Int), v, rfl, rfl, SqL.of hD', atI_nat hv, S, p1, v, ts.take i, ts[i], 15999000 - i * 9000 - 1000, hF, rfl, g1, dv, by omega, G.less ok' (by omega), fun H6 x9 ok6 g1' => ?_⟩
    rw [ets] at g1'
    have nDp1 : D ≠ p1 := fun z => by rw [z, hp1] at hD'; cases hD'
    have hD6 := x9.lst nDp1 hD'
    have hd6 := hd'.mono G x9.gr
    have g2' := g2.other G g1 n12.symm x9
    refine ⟨fun σ H' => σ = [some (.ref c), some (.ref S.f), some (.ref D), some (.ref p1), some (.ref p2), some (.int (i : Int))] ∧ Ext H6 H' ∧ S.ok H' (15999000 - i * 9000 - 6000), ?_, ?_⟩
    · refine ⟨_, rfl, D, ys, rfl, .inl (SqL.of hD6), _, 16, rfl, rfl, _, rfl, ?_⟩
      refine ite3 ?_ (fun body => ?_)
      · refine iteT ?_
        have e1 : (i : Int) + 1 = ((i + 1 : Nat) : Int) := by omega
        refine ⟨_, rfl, _, rfl, _, rfl, _, rfl, _, 1, rfl, rfl, ((i + 1 : Nat) : Int), by rw [← e1], D, ys, rfl, SqL.of hD6, fun q2 nq2 => ?_⟩
        rw [cut_to]
        have u1 := Ext.new (o := .lst (ys.take (i + 1))) nq2
        refine ⟨S, p1, q2, _, ts.take (i + 1), 15999000 - i * 9000 - 3000, hF, rfl, g1'.ext G u1, SqL.of upd_same, (hd6.take _).mono G u1.gr, by omega, fun t ht => hdep t (List.mem_of_mem_take ht), G.less (G.keep (Kp.new nq2) ok6) (by omega), fun H8 x11 ok8' => ?_⟩
        refine ⟨_, rfl, iteF ?_⟩
        have u2 := u1.trans x11
        refine ⟨_, rfl, _, rfl, _, rfl, _, rfl, ((i : Nat) : Int), rfl, D, ys, rfl, SqL.of (u2.lst hD6), fun q3 nq3 => ?_⟩
        rw [cut_to]
        have u3 := Ext.new (o := .lst (ys.take i)) nq3
        refine ⟨S, p2, q3, _, ts.take i, 15999000 - i * 9000 - 6000, hF, rfl, (g2'.ext G u2).ext G u3, SqL.of upd_same, ((hd6.take _).mono G u2.gr).mono G u3.gr, by omega, fun t ht => hdep t (List.mem_of_mem_take ht), G.less (G.keep (Kp.new nq3) ok8') (by omega), fun H9 x12 ok9 => ?_⟩
        exact ⟨_, rfl, iteF ⟨rfl, (u2.trans u3).trans x12, ok9⟩⟩
      · refine ⟨_, rfl, _, 8, rfl, rfl, by show (0 : Int) < 8; decide, rfl, _, rfl, ite3 body fun body => ?_⟩
        refine ⟨_, rfl, _, rfl, D, ys, rfl, .inl (SqL.of hD6), _, 1, rfl, rfl, rfl, _, rfl, ite2 (fun _ => body) (fun _ => ?_)⟩
        exact ⟨rfl, Ext.refl _, G.less ok6 (by omega)⟩
    rintro σ H7 ⟨rfl, x10, ok7⟩
    have hD7 := x10.lst hD6
    have hd7 := hd6.mono G x10.gr
    obtain ⟨d2, l2, ys2, hp2, _, _⟩ := id (g2'.ext G x10)
    obtain ⟨no1', _⟩ := frF_no1 S.f ((ts.take i).length : Int) l2
    refine ⟨_, rfl, p2, d2, _, rfl, hp2, no1', _, rfl, _, rfl, D, ys, (i : Int), v, rfl, rfl, SqL.of hD7, atI_nat hv, S, p2, v, ts.take i, ts[i], 15999000 - i * 9000 - 7000, hF, rfl, g2'.ext G x10, G.mono (x9.gr.trans x10.gr) dv, by omega, G.less ok7 (by omega), fun H8 x11 ok8' g2'' => ?_⟩
    rw [ets] at g2''
    have nDp2 : D ≠ p2 := fun z => by rw [z, hp2] at hD7; cases hD7
    exact ⟨_, rfl, (g1'.ext G x10).other G (g2'.ext G x10) n12 x11, g2'', x11.lst nDp2 hD7, hd7.mono G x11.gr, G.less ok8' (by omega)⟩
  · rintro σ H' ⟨y5, rfl, g1, g2, hD', hd', ok'⟩
    rw [List.take_length] at g1
    obtain ⟨d1, l1, ys1, hp1, _, _⟩ := id g1
    obtain ⟨no1, no2, no3, no4⟩ := frF_no1 S.f (ts.length : Int) l1
    refine ⟨_, rfl, p1, d1, _, rfl, hp1, no2, S, p1, ts, rfl, g1, _, rfl, D, ys, rfl, .inl (SqL.of hD'), rfl, ?_⟩
    rw [hl2, decide_eq_true rfl]
    exact q _
end

end My
open PySem PySem.W PyProof.Rows
set_option maxHeartbeats 0 in
theorem PySem.Challenge.cw_growbook_k02_frontier_holds : PySem.Challenge.rw_growbook_k02_frontier.Holds := by
  w_on; o_law; k_head; (case hw => w_witness2)
  k_fill
  refine LamX.walk_ofTs (l := PySem.Challenge.rw_growbook_k02_frontier) (n := 63) (k := 20) (x := "_law_script") (CX := fun _ => L2.CX0) rfl (by decide) rfl ⟨rfl, by decide, by decide⟩ (fun w h Y => PySem.W.km_in_of Y) ?F (fun _ _ _ _ _ h => h)
  case F =>
    intro w mg fa h Y KX G hmg
    have hT := PySem.W.km_tabs_of Y
    refine My.law_end (c := ?c) KX hT (by kernel_rfl) ?hcode (My.ok_law ?T hmg)
    case T =>
      refine' My.txt_mk KX G ?a0 ?l0 ?c0 ?k0 ?a1 ?l1 ?c1 ?k1 ?a2 ?l2 ?c2 ?k2 ?a3 ?l3 ?c3 ?k3 ?a4 ?l4 ?c4 ?k4 ?a5 ?l5 ?c5 ?k5 ?a6 ?l6 ?c6 ?k6 ?a7 ?l7 ?c7 ?k7 ?a8 ?l8 ?c8 ?k8 ?a9 ?l9 ?c9 ?k9 ?a10 ?l10 ?c10 ?k10 ?a11 ?l11 ?c11 ?k11 ?a12 ?l12 ?c12 ?k12 ?z_len ?z_isinstance ?z_int ?z_list ?z_range ?z_str ?z_reversed ?g_Frontier ?pg_Frontier ?hd_Frontier ?po_Frontier ?sa_Frontier ?n_Frontier_seal ?n_Frontier_many ?n_Frontier_tops ?aFrontier0 ?iFrontier0 ?lFrontier0 ?cFrontier0 ?kFrontier0 ?mk_Frontier ?kc_Frontier ?aFrontier1 ?iFrontier1 ?lFrontier1 ?cFrontier1 ?kFrontier1 ?aFrontier2 ?iFrontier2 ?lFrontier2 ?cFrontier2 ?kFrontier2 ?aFrontier3 ?iFrontier3 ?lFrontier3 ?cFrontier3 ?kFrontier3 ?aFrontier4 ?iFrontier4 ?lFrontier4 ?cFrontier4 ?kFrontier4
      (case a0 => k_is)
      (case l0 => k_is)
      (case c0 => k_is)
      (case k0 => k_is)
      (case a1 => k_is)
      (case l1 => k_is)
      (case c1 => k_is)
      (case k1 => k_is)
      (case a2 => k_is)
      (case l2 => k_is)
      (case c2 => k_is)
      (case k2 => k_is)
      (case a3 => k_is)
      (case l3 => k_is)
      (case c3 => k_is)
      (case k3 => k_is)
      (case a4 => k_is)
      (case l4 => k_is)
      (case c4 => k_is)
      (case k4 => k_is)
      (case a5 => k_is)
      (case l5 => k_is)
      (case c5 => k_is)
      (case k5 => k_is)
      (case a6 => k_is)
      (case l6 => k_is)
      (case c6 => k_is)
      (case k6 => k_is)
      (case a7 => k_is)
      (case l7 => k_is)
      (case c7 => k_is)
      (case k7 => k_is)
      (case a8 => k_is)
      (case l8 => k_is)
      (case c8 => k_is)
      (case k8 => k_is)
      (case a9 => k_is)
      (case l9 => k_is)
      (case c9 => k_is)
      (case k9 => k_is)
      (case a10 => k_is)
      (case l10 => k_is)
      (case c10 => k_is)
      (case k10 => k_is)
      (case a11 => k_is)
      (case l11 => k_is)
      (case c11 => k_is)
      (case k11 => k_is)
      (case a12 => k_is)
      (case l12 => k_is)
      (case c12 => k_is)
      (case k12 => k_is)
      (case z_len => k_is)
      (case z_isinstance => k_is)
      (case z_int => k_is)
      (case z_list => k_is)
      (case z_range => k_is)
      (case z_str => k_is)
      (case z_reversed => k_is)
      (case g_Frontier => k_is)
      (case pg_Frontier => k_is)
      (case hd_Frontier => k_is)
      (case po_Frontier => k_is)
      (case sa_Frontier => k_is)
      (case n_Frontier_seal => k_is)
      (case n_Frontier_many => k_is)
      (case n_Frontier_tops => k_is)
      (case aFrontier0 => k_is)
      (case iFrontier0 => k_is)
      (case lFrontier0 => k_is)
      (case cFrontier0 => k_is)
      (case kFrontier0 => k_is)
      (case mk_Frontier => k_is)
      (case kc_Frontier => k_is)
      (case aFrontier1 => k_is)
      (case iFrontier1 => k_is)
      (case lFrontier1 => k_is)
      (case cFrontier1 => k_is)
      (case kFrontier1 => k_is)
      (case aFrontier2 => k_is)
      (case iFrontier2 => k_is)
      (case lFrontier2 => k_is)
      (case cFrontier2 => k_is)
      (case kFrontier2 => k_is)
      (case aFrontier3 => k_is)
      (case iFrontier3 => k_is)
      (case lFrontier3 => k_is)
      (case cFrontier3 => k_is)
      (case kFrontier3 => k_is)
      (case aFrontier4 => k_is)
      (case iFrontier4 => k_is)
      (case lFrontier4 => k_is)
      (case cFrontier4 => k_is)
      (case kFrontier4 => k_is)
    case hcode => kernel_rfl
#print axioms PySem.Challenge.cw_growbook_k02_frontier_holds

