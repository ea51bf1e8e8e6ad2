import PyProof.Rows.All
import Wide.All
import OpenK.AllK
import Wide.FinOn
import HandS.ForMost
import HandS.WideBits
import HandS.IsInst
import HandS.Codes
import HandS.Evl
import HandS.Nested
import HandS.EndTab
import HandS.TupLen
import HandS.Conv
import HandS.Rev
import HandS.ForExc
import HandS.ExcIs
import HandS.TryElse
import HandS.Style
import PySem.Challenge.RW_growbook_k03_paths

set_option Elab.async false
set_option linter.all false
set_option maxRecDepth 100000
set_option maxHeartbeats 4000000
namespace My
open PySem PySem.Spec PyProof.Rows L2
open C8 (Cal Met Mak CalAt pe_c pe_mk pe_mt pe_mt0)

/-! ### the text by places -/
def inDef (s : Stmt) (j : Nat) : Stmt := (defBody s).getD j (.Pass ⟨0, 0, 0, 0⟩)
def topS (i : Nat) : Stmt := PySem.Challenge.pw_growbook_k03_paths.main.body.getD i (.Pass ⟨0, 0, 0, 0⟩)
abbrev s_BadRow___init__ : Stmt := inClass (topS 4) 0
abbrev N_BadRow___init__ : List Str := ["self", "row"]
theorem sc_BadRow___init__ : FnScope ["self", "row"] ["self", "row"] (defScope s_BadRow___init__) := ⟨rfl, rfl, rfl, by decide +kernel, rfl, by decide +kernel, by decide +kernel⟩
abbrev s_split : Stmt := topS 6
abbrev N_split : List Str := ["size"]
theorem sc_split : FnScope ["size"] ["size"] (defScope s_split) := ⟨rfl, rfl, rfl, by decide +kernel, rfl, by decide +kernel, by decide +kernel⟩
abbrev s_none_seal : Stmt := topS 7
abbrev N_none_seal : List Str := ["seal"]
theorem sc_none_seal : FnScope ["seal"] ["seal"] (defScope s_none_seal) := ⟨rfl, rfl, rfl, by decide +kernel, rfl, by decide +kernel, by decide +kernel⟩
abbrev s_leaf_seal : Stmt := topS 8
abbrev N_leaf_seal : List Str := ["seal", "text", "table"]
theorem sc_leaf_seal : FnScope ["seal", "text", "table"] ["seal", "text", "table"] (defScope s_leaf_seal) := ⟨rfl, rfl, rfl, by decide +kernel, rfl, by decide +kernel, by decide +kernel⟩
abbrev s_pair_seal : Stmt := topS 9
abbrev N_pair_seal : List Str := ["seal", "left", "right"]
theorem sc_pair_seal : FnScope ["seal", "left", "right"] ["seal", "left", "right"] (defScope s_pair_seal) := ⟨rfl, rfl, rfl, by decide +kernel, rfl, by decide +kernel, by decide +kernel⟩
abbrev s_book_seal : Stmt := topS 10
abbrev N_book_seal : List Str := ["seal", "size", "top"]
theorem sc_book_seal : FnScope ["seal", "size", "top"] ["seal", "size", "top"] (defScope s_book_seal) := ⟨rfl, rfl, rfl, by decide +kernel, rfl, by decide +kernel, by decide +kernel⟩
abbrev s_top_of : Stmt := topS 11
abbrev N_top_of : List Str := ["seal", "leaves", "k"]
theorem sc_top_of : FnScope ["seal", "leaves", "k"] ["seal", "leaves"] (defScope s_top_of) := ⟨rfl, rfl, rfl, by decide +kernel, rfl, by decide +kernel, by decide +kernel⟩
abbrev s_path_of : Stmt := topS 12
abbrev N_path_of : List Str := ["seal", "leaves", "place", "k"]
theorem sc_path_of : FnScope ["seal", "leaves", "place", "k"] ["seal", "leaves", "place"] (defScope s_path_of) := ⟨rfl, rfl, rfl, by decide +kernel, rfl, by decide +kernel, by decide +kernel⟩
abbrev s_last_of : Stmt := topS 13
abbrev N_last_of : List Str := ["paper"]
theorem sc_last_of : FnScope ["paper"] ["paper"] (defScope s_last_of) := ⟨rfl, rfl, rfl, by decide +kernel, rfl, by decide +kernel, by decide +kernel⟩
abbrev s_risen : Stmt := topS 14
abbrev N_risen : List Str := ["seal", "leaf", "place", "size", "path", "rest", "sides", "last", "k", "found", "low"]
theorem sc_risen : FnScope ["seal", "leaf", "place", "size", "path", "rest", "sides", "last", "k", "found", "low"] ["seal", "leaf", "place", "size", "path"] (defScope s_risen) := ⟨rfl, rfl, rfl, by decide +kernel, rfl, by decide +kernel, by decide +kernel⟩
abbrev s__law_cell_at : Stmt := topS 16
abbrev N__law_cell_at : List Str := ["_law_script", "_law_k"]
theorem sc__law_cell_at : FnScope ["_law_script", "_law_k"] ["_law_script", "_law_k"] (defScope s__law_cell_at) := ⟨rfl, rfl, rfl, by decide +kernel, rfl, by decide +kernel, by decide +kernel⟩
abbrev s__law_plain : Stmt := topS 17
abbrev N__law_plain : List Str := ["_law_mark", "_law_one", "_law_two"]
theorem sc__law_plain : FnScope ["_law_mark", "_law_one", "_law_two"] ["_law_mark", "_law_one", "_law_two"] (defScope s__law_plain) := ⟨rfl, rfl, rfl, by decide +kernel, rfl, by decide +kernel, by decide +kernel⟩
abbrev s__law_turned : Stmt := topS 18
abbrev N__law_turned : List Str := ["_law_mark", "_law_one", "_law_two"]
theorem sc__law_turned : FnScope ["_law_mark", "_law_one", "_law_two"] ["_law_mark", "_law_one", "_law_two"] (defScope s__law_turned) := ⟨rfl, rfl, rfl, by decide +kernel, rfl, by decide +kernel, by decide +kernel⟩
abbrev s__law_numbering : Stmt := topS 19
abbrev N__law_numbering : List Str := ["_law_numbered", "_law_told"]
theorem sc__law_numbering : FnScope ["_law_numbered", "_law_told"] [] (defScope s__law_numbering) := ⟨rfl, rfl, rfl, by decide +kernel, rfl, by decide +kernel, by decide +kernel⟩
abbrev s__law_numbering__law_numbered : Stmt := inDef (topS 19) 1
abbrev N__law_numbering__law_numbered : List Str := ["_law_mark", "_law_one", "_law_two", "_law_told"]
abbrev s__law_seal_by : Stmt := topS 20
abbrev N__law_seal_by : List Str := ["_law_script", "_law_kind"]
theorem sc__law_seal_by : FnScope ["_law_script", "_law_kind"] ["_law_script"] (defScope s__law_seal_by) := ⟨rfl, rfl, rfl, by decide +kernel, rfl, by decide +kernel, by decide +kernel⟩
abbrev s__law_split : Stmt := topS 21
abbrev N__law_split : List Str := ["_law_size", "_law_k"]
theorem sc__law_split : FnScope ["_law_size", "_law_k"] ["_law_size"] (defScope s__law_split) := ⟨rfl, rfl, rfl, by decide +kernel, rfl, by decide +kernel, by decide +kernel⟩
abbrev s__law_top : Stmt := topS 22
abbrev N__law_top : List Str := ["_law_seal", "_law_leaves_here", "_law_k"]
theorem sc__law_top : FnScope ["_law_seal", "_law_leaves_here", "_law_k"] ["_law_seal", "_law_leaves_here"] (defScope s__law_top) := ⟨rfl, rfl, rfl, by decide +kernel, rfl, by decide +kernel, by decide +kernel⟩
abbrev s__law_path : Stmt := topS 23
abbrev N__law_path : List Str := ["_law_seal", "_law_leaves_here", "_law_place", "_law_k"]
theorem sc__law_path : FnScope ["_law_seal", "_law_leaves_here", "_law_place", "_law_k"] ["_law_seal", "_law_leaves_here", "_law_place"] (defScope s__law_path) := ⟨rfl, rfl, rfl, by decide +kernel, rfl, by decide +kernel, by decide +kernel⟩
abbrev s__law_leaves : Stmt := topS 24
abbrev N__law_leaves : List Str := ["_law_seal", "_law_script", "_law_leaves_here", "_law_cell"]
theorem sc__law_leaves : FnScope ["_law_seal", "_law_script", "_law_leaves_here", "_law_cell"] ["_law_seal", "_law_script"] (defScope s__law_leaves) := ⟨rfl, rfl, rfl, by decide +kernel, rfl, by decide +kernel, by decide +kernel⟩
abbrev s__law_refused : Stmt := topS 25
abbrev N__law_refused : List Str := ["_law_seal", "_law_leaf", "_law_place", "_law_size", "_law_path_here", "e", "_law_above"]
theorem sc__law_refused : FnScope ["_law_seal", "_law_leaf", "_law_place", "_law_size", "_law_path_here", "e", "_law_above"] ["_law_seal", "_law_leaf", "_law_place", "_law_size", "_law_path_here"] (defScope s__law_refused) := ⟨rfl, rfl, rfl, by decide +kernel, rfl, by decide +kernel, by decide +kernel⟩
abbrev s_law : Stmt := topS 26
abbrev N_law : List Str := ["_law_script", "_law_seal", "_law_leaves_here", "_law_size", "_law_handed", "_law_places", "_law_place", "_law_path_here", "_law_kept", "_law_found", "_law_leaf", "_law_cell"]
theorem sc_law : FnScope ["_law_script", "_law_seal", "_law_leaves_here", "_law_size", "_law_handed", "_law_places", "_law_place", "_law_path_here", "_law_kept", "_law_found", "_law_leaf", "_law_cell"] ["_law_script"] (defScope s_law) := ⟨rfl, rfl, rfl, by decide +kernel, rfl, by decide +kernel, by decide +kernel⟩

/-! ### a def of the module -/
structure DefX (K : PySem.W.Frag) (mg : Str → Option Value) (x : Str) (st : Stmt) (ps : List Str) : Prop where
  ex : ∃ (f : Addr) (fd : FuncData), L2.Fun K x x st f fd ∧ mg x = some (.ref f) ∧ ∀ us : List Value, us.length = ps.length → bindArgs fd ⟨us, []⟩ = pure (ps.zip us)
/-- a def that makes defs: its code object's address is told -/
structure DefM (K : PySem.W.Frag) (mg : Str → Option Value) (x : Str) (st : Stmt) (c : Addr) : Prop where
  ex : ∃ (f : Addr) (oc : Value) (od : Option Addr) (kV doc pm : Value) (an : Option Addr) (ct : Value) (osl : Array (Option Value)), K.lookup f = some ⟨oc, od, .func (PySem.W.fnOf x x (defArgs st) (defBody st) (defScope st) .none kV doc pm an (.ref c) ct), osl⟩ ∧
    PySem.W.codeIn K (.ref c) x = true ∧ PySem.W.keepIn K (.ref f) = true ∧ mg x = some (.ref f)
/-- an own class of errors over ValueError, without an __init__ of its own -/
structure ExcF (K : PySem.W.Frag) (C : Addr) : Prop where
  xP : PySem.W.excIn K C [.type "ValueError", .type "Exception", .type "BaseException", .type "object"] "ValueError.__new__" = true
  kP : PySem.W.keepIn K (.ref C) = true
  bP : PySem.W.subIn K (.ref C) (.type "BaseException") = some true
  tP : PySem.W.typeIn K (.ref C) = some (.type "type")
  cP : ExcC K C
  eP : PySem.W.exmOne K (.ref C) (.ref C) = some true
structure ExcX (K : PySem.W.Frag) (mg : Str → Option Value) (x : Str) : Prop where
  ex : ∃ C, mg x = some (.ref C) ∧ ExcF K C
/-- a def that may raise -/
structure CalX (P : Program) (w : World) (K : PySem.W.Frag) (mg : Str → Option Value) (base : Heap) (k : Nat) (x : Str) (sp : Sp) : Prop where
  ex : ∃ (f : Addr) (fd : FuncData) (ps : List Str), FnOk P w K mg base (L2.CX P w) k f fd ps sp ∧ mg x = some (.ref f) ∧ PySem.W.keepIn K (.ref f) = true ∧ Binds K fd ps []
theorem calX_of {P : Program} {w : World} {K : PySem.W.Frag} {mg : Str → Option Value} {base : Heap} {x : Str} {st : Stmt} {N ps : List Str} {k : Nat} {sp : Sp} (D : DefX K mg x st ps) (S : FnScope N ps (defScope st)) (len : ∀ vs H Q E, sp vs H Q E → vs.length = ps.length)
    (hbody : ∀ (f : Addr) (cdv : Value) (A : Around) (outer : List Env) (s : Shared) (H : Hp) (vs : List V) (Q : VK) (E : XK), Room k (A.deeper (envOfC x (defScope st) s.heap.objs.size f cdv)) → sp vs H Q E →
      ∃ t, PSs (cxOf (L2.CX P w) P w K mg base N x (defScope st) f cdv A outer s H E) (defBody st) t ∧ t { nx := fun _ H' => Q .non H', rt := Q } (start N vs) H) : CalX P w K mg base (k + 1) x sp := by
  obtain ⟨f, fd, F, m, b⟩ := D.ex
  exact ⟨f, fd, ps, F.okX S len (hbody f), m, F.kp, .all b⟩
theorem calX_mono {P : Program} {w : World} {K : PySem.W.Frag} {mg : Str → Option Value} {base : Heap} {x : Str} {j k : Nat} {sp : Sp} (c : CalX P w K mg base j x sp) (h : j ≤ k) : CalX P w K mg base k x sp := by
  obtain ⟨f, fd, ps, F, m, kp, b⟩ := c.ex
  exact ⟨f, fd, ps, F.mono h, m, kp, b⟩
/-- x(..) that may raise, within what takes W -/
theorem pe_cx {X : Cx} {k j : Nat} {x : Str} {sp : Sp} {W : WX} {t : TA} {e : Expr} {es : List Expr} {p pos : Pos} (c : CalX X.prog X.w X.K X.mg X.base k x sp) (tk : Takes X W) (hr : Room j X.A) (hk : k ≤ j) (hg : Gl X x) (ha : PA X (e :: es) t)
    (hdb : (x == ("__debug__" : Str)) = false := by decide) (he : starEach (e :: es) X.env = (false, eval e X.env) :: starEach es X.env := by rfl) (hpl : (backTo pos (starEach es X.env)).any (·.1) = false := by rfl) :
    PE X (.Call (.Name x p) (e :: es) [] pos) (tCallS sp (WE W) t) := by
  obtain ⟨f, fd, ps, F, m, kp, b⟩ := c.ex
  exact pe_callS F (hr.mono hk) hg m kp b (fun σ => passAt tk σ) ha hdb he hpl
theorem zc_of {cls : Value} {C : Addr} {d : Option Addr} {oe : Obj} (hz : Zc cls d oe) (h : cls = .ref C ∧ d = none) : Zc (.ref C) none oe := by
  rw [← h.1, ← h.2]
  exact hz
/-- known where the reading is at hand -/
theorem pss_when {X : Cx} {st : List Stmt} {t : TS} {P : Prop} (h : P → PSs X st t) : PSs X st (fun D σ H => P ∧ t D σ H) := ⟨fun pins s σ H D I ⟨p, q⟩ => (h p).run pins s σ H D I q⟩
theorem pe_when {X : Cx} {e : Expr} {t : TE} {P : Prop} (h : P → PE X e t) : PE X e (fun σ H Q => P ∧ t σ H Q) := ⟨fun pins s σ H Q I ⟨p, q⟩ => (h p).run pins s σ H Q I q⟩
/-- raise X('..') -/
theorem ps_raiseX {X : Cx} {W : WX} {x m : Str} {C : Addr} {j : Nat} {p p2 p3 pos : Pos} (F : ExcF X.K C) (gC : X.mg x = some (.ref C)) (hc : X.calm = true) (tk : Takes X W) (hg : Gl X x) (hdb : (x == ("__debug__" : Str)) = false := by decide) :
    PS X (.Raise (some (.Call (.Name x p) [.Constant (.str m) j p2] [] p3)) none pos) (fun _ σ H => W (.ref C) none σ H) :=
  ps_raise hc tk (pmk_own PySem.F.excBase_ValueError F.xP gC F.kP (raises_own F.bP F.tP) hg hdb)
theorem cal_of {P : Program} {w : World} {K : PySem.W.Frag} {mg : Str → Option Value} {base : Heap} {x : Str} {st : Stmt} {N ps : List Str} {k : Nat} {sp : Sp} (D : DefX K mg x st ps) (S : FnScope N ps (defScope st)) (len : ∀ vs H Q E, sp vs H Q E → vs.length = ps.length)
    (hbody : ∀ (f : Addr) (cdv : Value) (A : Around) (outer : List Env) (s : Shared) (H : Hp) (vs : List V) (Q : VK) (E : XK), Room k (A.deeper (envOfC x (defScope st) s.heap.objs.size f cdv)) → sp vs H Q E →
      ∃ t, PSs (cxOf L2.CX0 P w K mg base N x (defScope st) f cdv A outer s H E).nox (defBody st) t ∧ t { nx := fun _ H' => Q .non H', rt := Q } (start N vs) H) : Cal P w K mg base (k + 1) x sp [] := by
  obtain ⟨f, fd, F, m, b⟩ := D.ex
  exact ⟨f, fd, ps, [], F.ok S len (hbody f), m, F.kp, .all b, .nil⟩
/-- the law's own def, for the end -/
theorem law_fn {P : Program} {w : World} {K : PySem.W.Frag} {mg : Str → Option Value} {x p : Str} {st : Stmt} {N : List Str} {k : Nat} {sp : Sp} {fa : Addr} (D : DefX K mg x st [p]) (hfa : mg x = some (.ref fa)) (S : FnScope N [p] (defScope st)) (len : ∀ vs H Q E, sp vs H Q E → vs.length = 1)
    (hbody : ∀ (base : Heap) (f : Addr) (cdv : Value) (A : Around) (outer : List Env) (s : Shared) (H : Hp) (vs : List V) (Q : VK) (E : XK), Room k (A.deeper (envOfC x (defScope st) s.heap.objs.size f cdv)) → sp vs H Q E →
      ∃ t, PSs (cxOf L2.CX0 P w K mg base N x (defScope st) f cdv A outer s H E).nox (defBody st) t ∧ t { nx := fun _ H' => Q .non H', rt := Q } (start N vs) H) :
    ∃ fd : FuncData, (∀ (s : Shared) (v : Value), BindsTo s fd ⟨[v], []⟩ [(p, v)]) ∧ ∀ base : Heap, K.In base → base.Ns mainGlobals mg → FnOk P w K mg base L2.CX0 (k + 1) fa fd [p] sp := by
  obtain ⟨f, fd, F, m, b⟩ := D.ex
  have e := hfa.symm.trans m
  cases e
  exact ⟨fd, fun s v => .of_eq (b [v] rfl), fun base _ _ => F.ok S len (hbody base fa)⟩
theorem cut_to (xs : List V) (n : Nat) : cutV xs none (some (n : Int)) = xs.take n := by
  unfold cutV
  rw [HT.sIx_none, HT.sIx_nat, List.drop_zero, Nat.sub_zero]
  by_cases h : n ≤ xs.length
  · rw [Nat.min_eq_left h]
  · rw [Nat.min_eq_right (by omega), List.take_length, List.take_of_length_le (by omega)]
theorem cut_from (xs : List V) (n : Nat) : cutV xs (some (n : Int)) none = xs.drop n := by
  unfold cutV
  rw [HT.sIx_none, HT.sIx_nat]
  by_cases h : n ≤ xs.length
  · rw [Nat.min_eq_left h, List.take_of_length_le (by rw [List.length_drop]; omega)]
  · rw [Nat.min_eq_right (by omega), List.drop_length, List.drop_eq_nil_of_le (by omega), List.take_nil]
theorem take63 {ns : List Int} (h : ns.length ≤ 63) : cutV (ns.map V.int) none (some 63) = ns.map V.int := by
  rw [show (63 : Int) = ((63 : Nat) : Int) from rfl, cut_to, List.take_of_length_le (by rw [List.length_map]; exact h)]
theorem small {n : Nat} (h : n ≤ 1000) : n ≤ sizeLine := Nat.le_of_lt (small1000 h)
theorem same_upd {H : Hp} {p : Addr} {o : HO} (h : H p = none) : Same H (upd H p o) := fun b x e => by
  rw [upd_ne (ne_of_none e h)]
  exact e

/-! ### heaps that grow -/
/-- all that was tracked is as it was, but dicts keyed by tuples may have got more -/
structure Ext (H H' : Hp) : Prop where
  keep : ∀ a o, H a = some o → (∀ kvs, o ≠ .dT kvs) → H' a = some o
  grow : ∀ a kvs, H a = some (.dT kvs) → ∃ more, H' a = some (.dT (kvs ++ more))
theorem Ext.of_same {H H' : Hp} (h : Same H H') : Ext H H' := ⟨fun a o e _ => h a o e, fun a kvs e => ⟨[], by rw [List.append_nil]; exact h a _ e⟩⟩
theorem Ext.refl (H : Hp) : Ext H H := .of_same (Same.refl H)
theorem Ext.trans {H H1 H2 : Hp} (a : Ext H H1) (b : Ext H1 H2) : Ext H H2 := by
  refine ⟨fun x o e n => b.keep x o (a.keep x o e n) n, fun x kvs e => ?_⟩
  obtain ⟨m1, e1⟩ := a.grow x kvs e
  obtain ⟨m2, e2⟩ := b.grow x _ e1
  exact ⟨m1 ++ m2, by rw [e2, List.append_assoc]⟩
theorem Ext.new {H : Hp} {p : Addr} {o : HO} (h : H p = none) : Ext H (upd H p o) := .of_same (same_upd h)
theorem Ext.mut {H H' : Hp} {p : Addr} {o : HO} (e : Ext H H') (h : H p = none) : Ext H (upd H' p o) := by
  refine ⟨fun a u ha n => ?_, fun a kvs ha => ?_⟩
  · rw [upd_ne (ne_of_none ha h)]
    exact e.keep a u ha n
  · rw [upd_ne (ne_of_none ha h)]
    exact e.grow a kvs ha
theorem Ext.free {H H' : Hp} {p : Addr} (e : Ext H H') (h : H' p = none) : H p = none := by
  cases q : H p with
  | none => rfl
  | some o =>
    by_cases n : ∃ kvs, o = .dT kvs
    · obtain ⟨kvs, rfl⟩ := n
      obtain ⟨m, e1⟩ := e.grow p kvs q
      rw [e1] at h
      cases h
    · rw [e.keep p o q fun kvs z => n ⟨kvs, z⟩] at h
      cases h
theorem Ext.lst {H H' : Hp} {a : Addr} {xs : List V} (e : Ext H H') (h : H a = some (.lst xs)) : H' a = some (.lst xs) := e.keep _ _ h fun _ z => nomatch z
theorem Ext.tup {H H' : Hp} {a : Addr} {xs : List V} (e : Ext H H') (h : H a = some (.tup xs)) : H' a = some (.tup xs) := e.keep _ _ h fun _ z => nomatch z
theorem Ext.ins {H H' : Hp} {a C dx : Addr} {fs : List (Str × V)} (e : Ext H H') (h : H a = some (.ins C dx fs)) : H' a = some (.ins C dx fs) := e.keep _ _ h fun _ z => nomatch z
theorem Ext.dK {H H' : Hp} {a : Addr} {kvs : List (Key × V)} (e : Ext H H') (h : H a = some (.dK kvs)) : H' a = some (.dK kvs) := e.keep _ _ h fun _ z => nomatch z
theorem Ext.frz {H H' : Hp} {a : Addr} {o : Obj} {u : HO} (e : Ext H H') (h : H a = some (.frz o u)) : H' a = some (.frz o u) := e.keep _ _ h fun _ z => nomatch z
theorem Ext.seq {K : PySem.W.Frag} {H H' : Hp} {a : Addr} {xs : List V} (e : Ext H H') (h : SqL K H a xs) : SqL K H' a xs := by
  rcases h with (h | ⟨o, h⟩) | h
  · exact .inl (.inl (e.lst h))
  · exact .inl (.inr ⟨o, e.frz h⟩)
  · exact .inr h
theorem Ext.seqT {K : PySem.W.Frag} {H H' : Hp} {a : Addr} {xs : List V} (e : Ext H H') (h : SqT K H a xs) : SqT K H' a xs := by
  rcases h with (h | ⟨o, h⟩) | h
  · exact .inl (.inl (e.tup h))
  · exact .inl (.inr ⟨o, e.frz h⟩)
  · exact .inr h
/-- what the telling of a thing leans on: it is never changed, but dicts keyed by tuples -/
def stat : HO → Prop
  | .lst _ | .dK _ | .ins _ _ _ | .set _ _ | .xd _ => False
  | _ => True
def Kp (H H' : Hp) : Prop := ∀ a o, H a = some o → stat o → H' a = some o
structure Gr (H H' : Hp) : Prop where
  keep : ∀ a o, H a = some o → stat o → (∀ kvs, o ≠ .dT kvs) → H' a = some o
  grow : ∀ a kvs, H a = some (.dT kvs) → ∃ more, H' a = some (.dT (kvs ++ more))
theorem Ext.gr {H H' : Hp} (e : Ext H H') : Gr H H' := ⟨fun a o h _ n => e.keep a o h n, e.grow⟩
theorem Kp.gr {H H' : Hp} (e : Kp H H') : Gr H H' := ⟨fun a o h s _ => e a o h s, fun a kvs h => ⟨[], by rw [List.append_nil]; exact e a _ h True.intro⟩⟩
theorem Kp.refl (H : Hp) : Kp H H := fun _ _ h _ => h
theorem Kp.trans {H H1 H2 : Hp} (a : Kp H H1) (b : Kp H1 H2) : Kp H H2 := fun c o h s => b c o (a c o h s) s
theorem Gr.refl (H : Hp) : Gr H H := (Kp.refl H).gr
theorem Gr.trans {H H1 H2 : Hp} (a : Gr H H1) (b : Gr H1 H2) : Gr H H2 := by
  refine ⟨fun x o e s n => b.keep x o (a.keep x o e s n) s n, fun x kvs e => ?_⟩
  obtain ⟨m1, e1⟩ := a.grow x kvs e
  obtain ⟨m2, e2⟩ := b.grow x _ e1
  exact ⟨m1 ++ m2, by rw [e2, List.append_assoc]⟩
theorem Kp.new {H : Hp} {p : Addr} {o : HO} (h : H p = none) : Kp H (upd H p o) := fun a u e _ => by
  rw [upd_ne (ne_of_none e h)]
  exact e
theorem Kp.lst {H : Hp} {p : Addr} {o : HO} {xs : List V} (h : H p = some (.lst xs)) : Kp H (upd H p o) := fun a u e s => by
  by_cases q : a = p
  · subst q
    rw [h] at e
    cases e
    exact s.elim
  · rw [upd_ne q]
    exact e
theorem Kp.ins {H : Hp} {p C dx : Addr} {o : HO} {fs : List (Str × V)} (h : H p = some (.ins C dx fs)) : Kp H (upd H p o) := fun a u e s => by
  by_cases q : a = p
  · subst q
    rw [h] at e
    cases e
    exact s.elim
  · rw [upd_ne q]
    exact e
theorem Kp.dK {H : Hp} {p : Addr} {o : HO} {kvs : List (Key × V)} (h : H p = some (.dK kvs)) : Kp H (upd H p o) := fun a u e s => by
  by_cases q : a = p
  · subst q
    rw [h] at e
    cases e
    exact s.elim
  · rw [upd_ne q]
    exact e
/-! ### free terms, and seals -/
inductive Tm where
  | int (i : Int)
  | str (x : Str)
  | sl (m : Str) (a b : Tm)
  deriving DecidableEq
def Tm.dep : Tm → Nat
  | .int _ | .str _ => 0
  | .sl _ a b => max a.dep b.dep + 1
abbrev txtOk (x : Str) : Bool := PySem.PyData.strOk x
/-- a seal: its function, what its values tell, its state (so many more things may be told) -/
structure Sys where
  f : Addr
  den : Hp → V → Tm → Prop
  ok : Hp → Nat → Prop
structure Sys.Good (K : PySem.W.Frag) (S : Sys) : Prop where
  mono : ∀ {H H' : Hp} {v : V} {t : Tm}, Gr H H' → S.den H v t → S.den H' v t
  keep : ∀ {H H' : Hp} {r : Nat}, Kp H H' → S.ok H r → S.ok H' r
  less : ∀ {H : Hp} {r r' : Nat}, S.ok H r → r' ≤ r → S.ok H r'
  int : ∀ {H : Hp} {r : Nat} (i : Int), S.ok H r → S.den H (.int i) (.int i)
  str : ∀ {H : Hp} {r : Nat} (x : Str), S.ok H r → txtOk x = true → S.den H (.str x) (.str x)
  same : ∀ {H : Hp} {v v' : V} {t : Tm}, S.den H v t → S.den H v' t → ∃ d, Dp K H v d ∧ Dp K H v' d ∧ d.canLay0 = true ∧ d.depth ≤ t.dep
def spSl (S : Sys) : Sp := fun vs H Q _ => ∃ (r : Nat) (m : Str) (a b : Tm) (va vb : V), vs = [.str m, va, vb] ∧ txtOk m = true ∧ S.ok H (r + 1) ∧ S.den H va a ∧ S.den H vb b ∧
  ∀ v H', Ext H H' → S.ok H' r → S.den H' v (.sl m a b) → Q v H'
structure HeldSl (P : Program) (w : World) (K : PySem.W.Frag) (mg : Str → Option Value) (base : Heap) (k : Nat) (S : Sys) : Prop where
  at_ : ∀ (H : Hp) (h : Heap) (r : Nat), K.In h → HOk P w H h → S.ok H r → PySem.W.FnAt S.f h
  run : ∀ (A : Around) (outer : List Env) (s : Shared) (H : Hp) (us : List Value) (vs : List V) (Q : VK) (E : XK), Room k A → Env0 P w K mg base A outer s H → Vals vs us → spSl S vs H Q E →
    codeAny (model P w) A (.call (.ref S.f) ⟨us, []⟩) (CR L2.CX0 outer P w H s Q E) s
/-- of a family of seals: each is good, and its calls keep the promise -/
structure SlA (P : Program) (w : World) (K : PySem.W.Frag) (mg : Str → Option Value) (base : Heap) (Fam : Sys → Prop) : Prop where
  good : ∀ {S : Sys}, Fam S → S.Good K
  held : ∀ S, Fam S → HeldSl P w K mg base 1 S
/-- x(..), x a name that holds a seal -/
def tSl (Fam : Sys → Prop) (i : Nat) (t : TA) : TE := fun σ H Q => ∃ (S : Sys) (r : Nat), Fam S ∧ σ[i]? = some (some (.ref S.f)) ∧ S.ok H r ∧ t σ H fun vs H1 => spSl S vs H1 Q L2.E0
section
variable {X : Cx} {i j k : Nat} {x : Str} {p pos : Pos} {e : Expr} {es : List Expr} {t : TA} {Fam : Sys → Prop}
theorem pe_sl (A : ∀ S, Fam S → HeldSl X.prog X.w X.K X.mg X.base k S) (hr : Room j X.A) (hk : k ≤ j) (hN : X.N[i]? = some x) (hv : Vis X.env.scope x) (ha : PA X (e :: es) t)
    (hdb : (x == ("__debug__" : Str)) = false := by decide) (hcd : (x == ("__classdict__" : Str)) = false := by decide)
    (he : starEach (e :: es) X.env = (false, eval e X.env) :: starEach es X.env := by rfl) (hpl : (backTo pos (starEach es X.env)).any (·.1) = false := by rfl) : PE X (.Call (.Name x p) (e :: es) [] pos) (tSl Fam i t) := by
  refine ⟨fun pins s σ H Q I h => ?_⟩
  obtain ⟨S, r, hS, hs, hok, ht⟩ := h
  refine wpAny_Call_Name_kw (thn ((pe_var (pos := p) hN hv hdb hcd).run pins s σ H (fun v H1 => v = .ref S.f ∧ H1 = H) I ⟨.ref S.f, hs, rfl, rfl⟩) fun u s1 ⟨v, H1, I1, r1, q1⟩ => ?_)
  obtain ⟨rfl, rfl⟩ := q1
  cases r1
  refine PySem.W.callWith_F ((A S hS).at_ _ _ _ I1.kIn I1.hok hok) (thn (ha.run pos pins s1 σ _ _ I1 ht) fun us s2 ⟨vs, H2, I2, rv, q⟩ => ?_) he hpl
  obtain ⟨r', m, a, b, va, vb, e1, e2, e3, q'⟩ := id q
  refine ⟨(A S hS).at_ _ _ _ I2.kIn I2.hok e3, ?_⟩
  refine wpAny_call (codeAny_mono ((A S hS).run X.A X.stack s2 H2 us vs Q L2.E0 (hr.mono hk) I2.env0 rv q) fun r s' hq => ?_)
  cases r with
  | error e => exact False.elim hq
  | ok fl =>
    cases fl with
    | ret u => exact I2.after hq
    | next => exact False.elim hq
    | brk => exact False.elim hq
    | cont => exact False.elim hq
end
/-! ### rows of told things -/
structure DenL (S : Sys) (H : Hp) (vs : List V) (ts : List Tm) : Prop where
  len : vs.length = ts.length
  at_ : ∀ (i : Nat) (v : V) (t : Tm), vs[i]? = some v → ts[i]? = some t → S.den H v t
section
variable {S : Sys} {K : PySem.W.Frag} {H H' : Hp} {vs us : List V} {ts rs : List Tm}
theorem DenL.mono (G : S.Good K) (e : Gr H H') (h : DenL S H vs ts) : DenL S H' vs ts := ⟨h.len, fun i v t a b => G.mono e (h.at_ i v t a b)⟩
theorem DenL.nil : DenL S H [] [] := ⟨rfl, fun i v t a _ => by simp at a⟩
theorem DenL.append (h : DenL S H vs ts) (h' : DenL S H us rs) : DenL S H (vs ++ us) (ts ++ rs) := by
  refine ⟨by rw [List.length_append, List.length_append, h.len, h'.len], fun i v t a b => ?_⟩
  have hl := h.len
  by_cases q : i < vs.length
  · rw [List.getElem?_append_left q] at a
    rw [List.getElem?_append_left (by omega)] at b
    exact h.at_ i v t a b
  · rw [List.getElem?_append_right (by omega)] at a b
    rw [← hl] at b
    exact h'.at_ _ v t a b
theorem DenL.one {v : V} {t : Tm} (h : S.den H v t) : DenL S H [v] [t] := by
  refine ⟨rfl, fun i u r a b => ?_⟩
  cases i with
  | zero =>
    cases a
    cases b
    exact h
  | succ i => simp at a
theorem DenL.cons {v : V} {t : Tm} (h : S.den H v t) (h' : DenL S H vs ts) : DenL S H (v :: vs) (t :: ts) := (DenL.one h).append h'
theorem DenL.take (n : Nat) (h : DenL S H vs ts) : DenL S H (vs.take n) (ts.take n) := by
  refine ⟨by rw [List.length_take, List.length_take, h.len], fun i v t a b => ?_⟩
  rw [List.getElem?_take] at a b
  split at a
  · rename_i q
    rw [if_pos q] at b
    exact h.at_ i v t a b
  · cases a
theorem DenL.drop (n : Nat) (h : DenL S H vs ts) : DenL S H (vs.drop n) (ts.drop n) := by
  refine ⟨by rw [List.length_drop, List.length_drop, h.len], fun i v t a b => ?_⟩
  rw [List.getElem?_drop] at a b
  exact h.at_ _ v t a b
theorem DenL.get (h : DenL S H vs ts) {i : Nat} (hi : i < ts.length) : ∃ v, vs[i]? = some v ∧ S.den H v ts[i] := by
  have hl := h.len
  have hv : i < vs.length := by omega
  exact ⟨vs[i], List.getElem?_eq_getElem hv, h.at_ i _ _ (List.getElem?_eq_getElem hv) (List.getElem?_eq_getElem hi)⟩
/-- the same row told twice -/
theorem DenL.same (G : S.Good K) {n : Nat} : ∀ {vs us : List V} {ts : List Tm}, DenL S H vs ts → DenL S H us ts → (∀ t ∈ ts, t.dep ≤ n) → ∃ ds, DpAll K H vs ds ∧ DpAll K H us ds ∧ PyData.canLayAll0 ds = true ∧ PyData.depthAll ds ≤ n
  | vs, us, [], h, h', _ => by
    have e1 : vs = [] := List.eq_nil_of_length_eq_zero h.len
    have e2 : us = [] := List.eq_nil_of_length_eq_zero h'.len
    subst e1
    subst e2
    exact ⟨[], .nil, .nil, rfl, Nat.zero_le _⟩
  | [], us, t :: ts, h, _, _ => absurd h.len (by simp)
  | v :: vs, [], t :: ts, _, h, _ => absurd h.len (by simp)
  | v :: vs, u :: us, t :: ts, h, h', hd => by
    obtain ⟨d, a1, a2, a3, a4⟩ := G.same (h.at_ 0 v t rfl rfl) (h'.at_ 0 u t rfl rfl)
    have t1 : DenL S H vs ts := h.drop 1
    have t2 : DenL S H us ts := h'.drop 1
    obtain ⟨ds, b1, b2, b3, b4⟩ := DenL.same G t1 t2 fun x hx => hd x (List.mem_cons_of_mem _ hx)
    refine ⟨d :: ds, .cons a1 b1, .cons a2 b2, ?_, ?_⟩
    · rw [PyData.canLayAll0, a3, b3]
      rfl
    · have := hd t List.mem_cons_self
      show max d.depth (PyData.depthAll ds) ≤ n
      omega
end

structure Zs (mg : Str → Option Value) : Prop where
  len : mg "len" = none
  isinstance : mg "isinstance" = none
  int : mg "int" = none
  list : mg "list" = none
  range : mg "range" = none
  str : mg "str" = none
  tuple : mg "tuple" = none
  ValueError : mg "ValueError" = none
structure Txt (K : PySem.W.Frag) (mg : Str → Option Value) (cc : Addr) : Prop where
  d_split : DefX K mg "split" s_split ["size"]
  d_none_seal : DefX K mg "none_seal" s_none_seal ["seal"]
  d_leaf_seal : DefX K mg "leaf_seal" s_leaf_seal ["seal", "text", "table"]
  d_pair_seal : DefX K mg "pair_seal" s_pair_seal ["seal", "left", "right"]
  d_book_seal : DefX K mg "book_seal" s_book_seal ["seal", "size", "top"]
  d_top_of : DefX K mg "top_of" s_top_of ["seal", "leaves"]
  d_path_of : DefX K mg "path_of" s_path_of ["seal", "leaves", "place"]
  d_last_of : DefX K mg "last_of" s_last_of ["paper"]
  d_risen : DefX K mg "risen" s_risen ["seal", "leaf", "place", "size", "path"]
  d__law_cell_at : DefX K mg "_law_cell_at" s__law_cell_at ["_law_script", "_law_k"]
  d__law_plain : DefX K mg "_law_plain" s__law_plain ["_law_mark", "_law_one", "_law_two"]
  d__law_turned : DefX K mg "_law_turned" s__law_turned ["_law_mark", "_law_one", "_law_two"]
  m__law_numbering : DefM K mg "_law_numbering" s__law_numbering cc
  d__law_seal_by : DefX K mg "_law_seal_by" s__law_seal_by ["_law_script"]
  d__law_split : DefX K mg "_law_split" s__law_split ["_law_size"]
  d__law_top : DefX K mg "_law_top" s__law_top ["_law_seal", "_law_leaves_here"]
  d__law_path : DefX K mg "_law_path" s__law_path ["_law_seal", "_law_leaves_here", "_law_place"]
  d__law_leaves : DefX K mg "_law_leaves" s__law_leaves ["_law_seal", "_law_script"]
  d__law_refused : DefX K mg "_law_refused" s__law_refused ["_law_seal", "_law_leaf", "_law_place", "_law_size", "_law_path_here"]
  d_law : DefX K mg "law" s_law ["_law_script"]
  x_BadPaper : ExcX K mg "BadPaper"
  g_BookError : ∃ C, mg "BookError" = some (.ref C)
  g_NoPlace : ∃ C, mg "NoPlace" = some (.ref C)
  g_BadRow : ∃ C, mg "BadRow" = some (.ref C)
  q_BadPaper_BookError : ∀ C D, mg "BadPaper" = some (.ref C) → mg "BookError" = some (.ref D) → PySem.W.kitOne K (.ref C) (.ref D) = some true
  q_BadPaper_NoPlace : ∀ C D, mg "BadPaper" = some (.ref C) → mg "NoPlace" = some (.ref D) → PySem.W.kitOne K (.ref C) (.ref D) = some false
  q_BadPaper_BadRow : ∀ C D, mg "BadPaper" = some (.ref C) → mg "BadRow" = some (.ref D) → PySem.W.kitOne K (.ref C) (.ref D) = some false
  q_BadPaper_ValueError : ∀ C, mg "BadPaper" = some (.ref C) → PySem.W.kitOne K (.ref C) (.type "ValueError") = some true
  Z : Zs mg
theorem txt_mk {K : PySem.W.Frag} {h : Heap} {mg : Str → Option Value} (X : K.In h) (G : h.Ns mainGlobals mg) {cc f0 f1 f2 f3 f4 f5 f6 f7 f8 f9 f10 f11 f12 f13 f14 f15 f16 f17 f18 f19 C_BadPaper C_BookError C_NoPlace C_BadRow : Addr} {od0 an0 od1 an1 od2 an2 od3 an3 od4 an4 od5 an5 od6 an6 od7 an7 od8 an8 od9 an9 od10 an10 od11 an11 od12 an12 od13 an13 od14 an14 od15 an15 od16 an16 od17 an17 od18 an18 od19 an19 : Option Addr} {sl0 sl1 sl2 sl3 sl4 sl5 sl6 sl7 sl8 sl9 sl10 sl11 sl12 sl13 sl14 sl15 sl16 sl17 sl18 sl19 : Array (Option Value)} {oc0 kV0 dc0 pm0 cd0 ct0 oc1 kV1 dc1 pm1 cd1 ct1 oc2 kV2 dc2 pm2 cd2 ct2 oc3 kV3 dc3 pm3 cd3 ct3 oc4 kV4 dc4 pm4 cd4 ct4 oc5 kV5 dc5 pm5 cd5 ct5 oc6 kV6 dc6 pm6 cd6 ct6 oc7 kV7 dc7 pm7 cd7 ct7 oc8 kV8 dc8 pm8 cd8 ct8 oc9 kV9 dc9 pm9 cd9 ct9 oc10 kV10 dc10 pm10 cd10 ct10 oc11 kV11 dc11 pm11 cd11 ct11 oc12 kV12 dc12 pm12 ct12 oc13 kV13 dc13 pm13 cd13 ct13 oc14 kV14 dc14 pm14 cd14 ct14 oc15 kV15 dc15 pm15 cd15 ct15 oc16 kV16 dc16 pm16 cd16 ct16 oc17 kV17 dc17 pm17 cd17 ct17 oc18 kV18 dc18 pm18 cd18 ct18 oc19 kV19 dc19 pm19 cd19 ct19 : Value}
    (a0 : PySem.W.nsIn K mainGlobals "split" = some (some (.ref f0))) (l0 : K.lookup f0 = some ⟨oc0, od0, .func (PySem.W.fnOf "split" "split" (defArgs s_split) (defBody s_split) (defScope s_split) .none kV0 dc0 pm0 an0 cd0 ct0), sl0⟩) (c0 : PySem.W.codeIn K cd0 "split" = true) (k0 : PySem.W.keepIn K (.ref f0) = true)
    (a1 : PySem.W.nsIn K mainGlobals "none_seal" = some (some (.ref f1))) (l1 : K.lookup f1 = some ⟨oc1, od1, .func (PySem.W.fnOf "none_seal" "none_seal" (defArgs s_none_seal) (defBody s_none_seal) (defScope s_none_seal) .none kV1 dc1 pm1 an1 cd1 ct1), sl1⟩) (c1 : PySem.W.codeIn K cd1 "none_seal" = true) (k1 : PySem.W.keepIn K (.ref f1) = true)
    (a2 : PySem.W.nsIn K mainGlobals "leaf_seal" = some (some (.ref f2))) (l2 : K.lookup f2 = some ⟨oc2, od2, .func (PySem.W.fnOf "leaf_seal" "leaf_seal" (defArgs s_leaf_seal) (defBody s_leaf_seal) (defScope s_leaf_seal) .none kV2 dc2 pm2 an2 cd2 ct2), sl2⟩) (c2 : PySem.W.codeIn K cd2 "leaf_seal" = true) (k2 : PySem.W.keepIn K (.ref f2) = true)
    (a3 : PySem.W.nsIn K mainGlobals "pair_seal" = some (some (.ref f3))) (l3 : K.lookup f3 = some ⟨oc3, od3, .func (PySem.W.fnOf "pair_seal" "pair_seal" (defArgs s_pair_seal) (defBody s_pair_seal) (defScope s_pair_seal) .none kV3 dc3 pm3 an3 cd3 ct3), sl3⟩) (c3 : PySem.W.codeIn K cd3 "pair_seal" = true) (k3 : PySem.W.keepIn K (.ref f3) = true)
    (a4 : PySem.W.nsIn K mainGlobals "book_seal" = some (some (.ref f4))) (l4 : K.lookup f4 = some ⟨oc4, od4, .func (PySem.W.fnOf "book_seal" "book_seal" (defArgs s_book_seal) (defBody s_book_seal) (defScope s_book_seal) .none kV4 dc4 pm4 an4 cd4 ct4), sl4⟩) (c4 : PySem.W.codeIn K cd4 "book_seal" = true) (k4 : PySem.W.keepIn K (.ref f4) = true)
    (a5 : PySem.W.nsIn K mainGlobals "top_of" = some (some (.ref f5))) (l5 : K.lookup f5 = some ⟨oc5, od5, .func (PySem.W.fnOf "top_of" "top_of" (defArgs s_top_of) (defBody s_top_of) (defScope s_top_of) .none kV5 dc5 pm5 an5 cd5 ct5), sl5⟩) (c5 : PySem.W.codeIn K cd5 "top_of" = true) (k5 : PySem.W.keepIn K (.ref f5) = true)
    (a6 : PySem.W.nsIn K mainGlobals "path_of" = some (some (.ref f6))) (l6 : K.lookup f6 = some ⟨oc6, od6, .func (PySem.W.fnOf "path_of" "path_of" (defArgs s_path_of) (defBody s_path_of) (defScope s_path_of) .none kV6 dc6 pm6 an6 cd6 ct6), sl6⟩) (c6 : PySem.W.codeIn K cd6 "path_of" = true) (k6 : PySem.W.keepIn K (.ref f6) = true)
    (a7 : PySem.W.nsIn K mainGlobals "last_of" = some (some (.ref f7))) (l7 : K.lookup f7 = some ⟨oc7, od7, .func (PySem.W.fnOf "last_of" "last_of" (defArgs s_last_of) (defBody s_last_of) (defScope s_last_of) .none kV7 dc7 pm7 an7 cd7 ct7), sl7⟩) (c7 : PySem.W.codeIn K cd7 "last_of" = true) (k7 : PySem.W.keepIn K (.ref f7) = true)
    (a8 : PySem.W.nsIn K mainGlobals "risen" = some (some (.ref f8))) (l8 : K.lookup f8 = some ⟨oc8, od8, .func (PySem.W.fnOf "risen" "risen" (defArgs s_risen) (defBody s_risen) (defScope s_risen) .none kV8 dc8 pm8 an8 cd8 ct8), sl8⟩) (c8 : PySem.W.codeIn K cd8 "risen" = true) (k8 : PySem.W.keepIn K (.ref f8) = true)
    (a9 : PySem.W.nsIn K mainGlobals "_law_cell_at" = some (some (.ref f9))) (l9 : K.lookup f9 = some ⟨oc9, od9, .func (PySem.W.fnOf "_law_cell_at" "_law_cell_at" (defArgs s__law_cell_at) (defBody s__law_cell_at) (defScope s__law_cell_at) .none kV9 dc9 pm9 an9 cd9 ct9), sl9⟩) (c9 : PySem.W.codeIn K cd9 "_law_cell_at" = true) (k9 : PySem.W.keepIn K (.ref f9) = true)
    (a10 : PySem.W.nsIn K mainGlobals "_law_plain" = some (some (.ref f10))) (l10 : K.lookup f10 = some ⟨oc10, od10, .func (PySem.W.fnOf "_law_plain" "_law_plain" (defArgs s__law_plain) (defBody s__law_plain) (defScope s__law_plain) .none kV10 dc10 pm10 an10 cd10 ct10), sl10⟩) (c10 : PySem.W.codeIn K cd10 "_law_plain" = true) (k10 : PySem.W.keepIn K (.ref f10) = true)
    (a11 : PySem.W.nsIn K mainGlobals "_law_turned" = some (some (.ref f11))) (l11 : K.lookup f11 = some ⟨oc11, od11, .func (PySem.W.fnOf "_law_turned" "_law_turned" (defArgs s__law_turned) (defBody s__law_turned) (defScope s__law_turned) .none kV11 dc11 pm11 an11 cd11 ct11), sl11⟩) (c11 : PySem.W.codeIn K cd11 "_law_turned" = true) (k11 : PySem.W.keepIn K (.ref f11) = true)
    (a12 : PySem.W.nsIn K mainGlobals "_law_numbering" = some (some (.ref f12))) (l12 : K.lookup f12 = some ⟨oc12, od12, .func (PySem.W.fnOf "_law_numbering" "_law_numbering" (defArgs s__law_numbering) (defBody s__law_numbering) (defScope s__law_numbering) .none kV12 dc12 pm12 an12 (.ref cc) ct12), sl12⟩) (c12 : PySem.W.codeIn K (.ref cc) "_law_numbering" = true) (k12 : PySem.W.keepIn K (.ref f12) = true)
    (a13 : PySem.W.nsIn K mainGlobals "_law_seal_by" = some (some (.ref f13))) (l13 : K.lookup f13 = some ⟨oc13, od13, .func (PySem.W.fnOf "_law_seal_by" "_law_seal_by" (defArgs s__law_seal_by) (defBody s__law_seal_by) (defScope s__law_seal_by) .none kV13 dc13 pm13 an13 cd13 ct13), sl13⟩) (c13 : PySem.W.codeIn K cd13 "_law_seal_by" = true) (k13 : PySem.W.keepIn K (.ref f13) = true)
    (a14 : PySem.W.nsIn K mainGlobals "_law_split" = some (some (.ref f14))) (l14 : K.lookup f14 = some ⟨oc14, od14, .func (PySem.W.fnOf "_law_split" "_law_split" (defArgs s__law_split) (defBody s__law_split) (defScope s__law_split) .none kV14 dc14 pm14 an14 cd14 ct14), sl14⟩) (c14 : PySem.W.codeIn K cd14 "_law_split" = true) (k14 : PySem.W.keepIn K (.ref f14) = true)
    (a15 : PySem.W.nsIn K mainGlobals "_law_top" = some (some (.ref f15))) (l15 : K.lookup f15 = some ⟨oc15, od15, .func (PySem.W.fnOf "_law_top" "_law_top" (defArgs s__law_top) (defBody s__law_top) (defScope s__law_top) .none kV15 dc15 pm15 an15 cd15 ct15), sl15⟩) (c15 : PySem.W.codeIn K cd15 "_law_top" = true) (k15 : PySem.W.keepIn K (.ref f15) = true)
    (a16 : PySem.W.nsIn K mainGlobals "_law_path" = some (some (.ref f16))) (l16 : K.lookup f16 = some ⟨oc16, od16, .func (PySem.W.fnOf "_law_path" "_law_path" (defArgs s__law_path) (defBody s__law_path) (defScope s__law_path) .none kV16 dc16 pm16 an16 cd16 ct16), sl16⟩) (c16 : PySem.W.codeIn K cd16 "_law_path" = true) (k16 : PySem.W.keepIn K (.ref f16) = true)
    (a17 : PySem.W.nsIn K mainGlobals "_law_leaves" = some (some (.ref f17))) (l17 : K.lookup f17 = some ⟨oc17, od17, .func (PySem.W.fnOf "_law_leaves" "_law_leaves" (defArgs s__law_leaves) (defBody s__law_leaves) (defScope s__law_leaves) .none kV17 dc17 pm17 an17 cd17 ct17), sl17⟩) (c17 : PySem.W.codeIn K cd17 "_law_leaves" = true) (k17 : PySem.W.keepIn K (.ref f17) = true)
    (a18 : PySem.W.nsIn K mainGlobals "_law_refused" = some (some (.ref f18))) (l18 : K.lookup f18 = some ⟨oc18, od18, .func (PySem.W.fnOf "_law_refused" "_law_refused" (defArgs s__law_refused) (defBody s__law_refused) (defScope s__law_refused) .none kV18 dc18 pm18 an18 cd18 ct18), sl18⟩) (c18 : PySem.W.codeIn K cd18 "_law_refused" = true) (k18 : PySem.W.keepIn K (.ref f18) = true)
    (a19 : PySem.W.nsIn K mainGlobals "law" = some (some (.ref f19))) (l19 : K.lookup f19 = some ⟨oc19, od19, .func (PySem.W.fnOf "law" "law" (defArgs s_law) (defBody s_law) (defScope s_law) .none kV19 dc19 pm19 an19 cd19 ct19), sl19⟩) (c19 : PySem.W.codeIn K cd19 "law" = true) (k19 : PySem.W.keepIn K (.ref f19) = true)
    (z_len : PySem.W.nsIn K mainGlobals "len" = some none)
    (z_isinstance : PySem.W.nsIn K mainGlobals "isinstance" = some none)
    (z_int : PySem.W.nsIn K mainGlobals "int" = some none)
    (z_list : PySem.W.nsIn K mainGlobals "list" = some none)
    (z_range : PySem.W.nsIn K mainGlobals "range" = some none)
    (z_str : PySem.W.nsIn K mainGlobals "str" = some none)
    (z_tuple : PySem.W.nsIn K mainGlobals "tuple" = some none)
    (z_ValueError : PySem.W.nsIn K mainGlobals "ValueError" = some none)
    (g_BadPaper : PySem.W.nsIn K mainGlobals "BadPaper" = some (some (.ref C_BadPaper)))
    (xP_BadPaper : PySem.W.excIn K C_BadPaper [.type "ValueError", .type "Exception", .type "BaseException", .type "object"] "ValueError.__new__" = true)
    (kP_BadPaper : PySem.W.keepIn K (.ref C_BadPaper) = true)
    (bP_BadPaper : PySem.W.subIn K (.ref C_BadPaper) (.type "BaseException") = some true)
    (tP_BadPaper : PySem.W.typeIn K (.ref C_BadPaper) = some (.type "type"))
    (hg_BadPaper : PySem.W.findIn K (.ref C_BadPaper) "__getattribute__" = some (some (.builtin "BaseException.__getattribute__")))
    (hk_BadPaper : PySem.W.findIn K (.ref C_BadPaper) "__getattr__" = some none)
    (hd_BadPaper : PySem.W.hasDictIn K C_BadPaper = true)
    (ha_BadPaper : PySem.W.findIn K (.ref C_BadPaper) "__class__" = some (some (.builtin "object.__class__")))
    (hn_BadPaper : PySem.W.specialIn K (.builtin "object.__class__") "__get__" = some (some (.builtin "getset_descriptor.__get__")))
    (ht_BadPaper : PySem.W.takesIn K (.builtin "object.__class__") = some true)
    (hm_BadPaper : PySem.W.mroIn K C_BadPaper (.type "object") = some true)
    (ex_BadPaper : PySem.W.exmOne K (.ref C_BadPaper) (.ref C_BadPaper) = some true)
    (g_BookError : PySem.W.nsIn K mainGlobals "BookError" = some (some (.ref C_BookError)))
    (g_NoPlace : PySem.W.nsIn K mainGlobals "NoPlace" = some (some (.ref C_NoPlace)))
    (g_BadRow : PySem.W.nsIn K mainGlobals "BadRow" = some (some (.ref C_BadRow)))
    (q_BadPaper_BookError : PySem.W.kitOne K (.ref C_BadPaper) (.ref C_BookError) = some true)
    (q_BadPaper_NoPlace : PySem.W.kitOne K (.ref C_BadPaper) (.ref C_NoPlace) = some false)
    (q_BadPaper_BadRow : PySem.W.kitOne K (.ref C_BadPaper) (.ref C_BadRow) = some false)
    (q_BadPaper_ValueError : PySem.W.kitOne K (.ref C_BadPaper) (.type "ValueError") = some true)
    : Txt K mg cc := by
  exact ⟨⟨⟨_, _, fun_mk (st := s_split) l0 c0 k0, PySem.W.mg_of X G a0, fun us hl => match us, hl with | [_], _ => rfl⟩⟩,
    ⟨⟨_, _, fun_mk (st := s_none_seal) l1 c1 k1, PySem.W.mg_of X G a1, fun us hl => match us, hl with | [_], _ => rfl⟩⟩,
    ⟨⟨_, _, fun_mk (st := s_leaf_seal) l2 c2 k2, PySem.W.mg_of X G a2, fun us hl => match us, hl with | [_, _, _], _ => rfl⟩⟩,
    ⟨⟨_, _, fun_mk (st := s_pair_seal) l3 c3 k3, PySem.W.mg_of X G a3, fun us hl => match us, hl with | [_, _, _], _ => rfl⟩⟩,
    ⟨⟨_, _, fun_mk (st := s_book_seal) l4 c4 k4, PySem.W.mg_of X G a4, fun us hl => match us, hl with | [_, _, _], _ => rfl⟩⟩,
    ⟨⟨_, _, fun_mk (st := s_top_of) l5 c5 k5, PySem.W.mg_of X G a5, fun us hl => match us, hl with | [_, _], _ => rfl⟩⟩,
    ⟨⟨_, _, fun_mk (st := s_path_of) l6 c6 k6, PySem.W.mg_of X G a6, fun us hl => match us, hl with | [_, _, _], _ => rfl⟩⟩,
    ⟨⟨_, _, fun_mk (st := s_last_of) l7 c7 k7, PySem.W.mg_of X G a7, fun us hl => match us, hl with | [_], _ => rfl⟩⟩,
    ⟨⟨_, _, fun_mk (st := s_risen) l8 c8 k8, PySem.W.mg_of X G a8, fun us hl => match us, hl with | [_, _, _, _, _], _ => rfl⟩⟩,
    ⟨⟨_, _, fun_mk (st := s__law_cell_at) l9 c9 k9, PySem.W.mg_of X G a9, fun us hl => match us, hl with | [_, _], _ => rfl⟩⟩,
    ⟨⟨_, _, fun_mk (st := s__law_plain) l10 c10 k10, PySem.W.mg_of X G a10, fun us hl => match us, hl with | [_, _, _], _ => rfl⟩⟩,
    ⟨⟨_, _, fun_mk (st := s__law_turned) l11 c11 k11, PySem.W.mg_of X G a11, fun us hl => match us, hl with | [_, _, _], _ => rfl⟩⟩,
    ⟨⟨_, _, _, _, _, _, _, _, _, l12, c12, k12, PySem.W.mg_of X G a12⟩⟩,
    ⟨⟨_, _, fun_mk (st := s__law_seal_by) l13 c13 k13, PySem.W.mg_of X G a13, fun us hl => match us, hl with | [_], _ => rfl⟩⟩,
    ⟨⟨_, _, fun_mk (st := s__law_split) l14 c14 k14, PySem.W.mg_of X G a14, fun us hl => match us, hl with | [_], _ => rfl⟩⟩,
    ⟨⟨_, _, fun_mk (st := s__law_top) l15 c15 k15, PySem.W.mg_of X G a15, fun us hl => match us, hl with | [_, _], _ => rfl⟩⟩,
    ⟨⟨_, _, fun_mk (st := s__law_path) l16 c16 k16, PySem.W.mg_of X G a16, fun us hl => match us, hl with | [_, _, _], _ => rfl⟩⟩,
    ⟨⟨_, _, fun_mk (st := s__law_leaves) l17 c17 k17, PySem.W.mg_of X G a17, fun us hl => match us, hl with | [_, _], _ => rfl⟩⟩,
    ⟨⟨_, _, fun_mk (st := s__law_refused) l18 c18 k18, PySem.W.mg_of X G a18, fun us hl => match us, hl with | [_, _, _, _, _], _ => rfl⟩⟩,
    ⟨⟨_, _, fun_mk (st := s_law) l19 c19 k19, PySem.W.mg_of X G a19, fun us hl => match us, hl with | [_], _ => rfl⟩⟩,
    ⟨⟨C_BadPaper, PySem.W.mg_of X G g_BadPaper, xP_BadPaper, kP_BadPaper, bP_BadPaper, tP_BadPaper, ⟨hg_BadPaper, hk_BadPaper, bP_BadPaper, hd_BadPaper, ha_BadPaper, hn_BadPaper, ht_BadPaper, hm_BadPaper⟩, ex_BadPaper⟩⟩,
    ⟨C_BookError, PySem.W.mg_of X G g_BookError⟩,
    ⟨C_NoPlace, PySem.W.mg_of X G g_NoPlace⟩,
    ⟨C_BadRow, PySem.W.mg_of X G g_BadRow⟩,
    fun C D e1 e2 => by rw [PySem.W.mg_of X G g_BadPaper] at e1; rw [PySem.W.mg_of X G g_BookError] at e2; cases e1; cases e2; exact q_BadPaper_BookError,
    fun C D e1 e2 => by rw [PySem.W.mg_of X G g_BadPaper] at e1; rw [PySem.W.mg_of X G g_NoPlace] at e2; cases e1; cases e2; exact q_BadPaper_NoPlace,
    fun C D e1 e2 => by rw [PySem.W.mg_of X G g_BadPaper] at e1; rw [PySem.W.mg_of X G g_BadRow] at e2; cases e1; cases e2; exact q_BadPaper_BadRow,
    fun C e1 => by rw [PySem.W.mg_of X G g_BadPaper] at e1; cases e1; exact q_BadPaper_ValueError, ⟨PySem.W.mg_none_of X G z_len, PySem.W.mg_none_of X G z_isinstance, PySem.W.mg_none_of X G z_int, PySem.W.mg_none_of X G z_list, PySem.W.mg_none_of X G z_range, PySem.W.mg_none_of X G z_str, PySem.W.mg_none_of X G z_tuple, PySem.W.mg_none_of X G z_ValueError⟩⟩
/-! ### seals that make a tuple of their three things -/
inductive DenP (tf : Str → V → V → List V) (H : Hp) : V → Tm → Prop
  | int (i : Int) : DenP tf H (.int i) (.int i)
  | str (x : Str) (h : txtOk x = true) : DenP tf H (.str x) (.str x)
  | sl {p : Addr} {m : Str} {va vb : V} {a b : Tm} (hm : txtOk m = true) (h : H p = some (.tup (tf m va vb))) (ha : DenP tf H va a) (hb : DenP tf H vb b) : DenP tf H (.ref p) (.sl m a b)
theorem DenP.mono {tf : Str → V → V → List V} {H H' : Hp} (e : Gr H H') {v : V} {t : Tm} (h : DenP tf H v t) : DenP tf H' v t := by
  induction h with
  | int i => exact .int i
  | str x h => exact .str x h
  | sl hm h _ _ iha ihb => exact .sl hm (e.keep _ _ h True.intro fun _ z => nomatch z) iha ihb
def tfP (m : Str) (a b : V) : List V := [.str m, a, b]
def tfT (m : Str) (a b : V) : List V := [.str "seal of", b, a, .str m]
def datP : Tm → PyData
  | .int i => .int i
  | .str x => .str x
  | .sl m a b => .tuple [.str m, datP a, datP b]
def datT : Tm → PyData
  | .int i => .int i
  | .str x => .str x
  | .sl m a b => .tuple [.str "seal of", datT b, datT a, .str m]
theorem DenP.dp {K : PySem.W.Frag} {H : Hp} {v : V} {t : Tm} (h : DenP tfP H v t) : Dp K H v (datP t) ∧ (datP t).canLay0 = true ∧ (datP t).depth ≤ t.dep := by
  induction h with
  | int i => exact ⟨.int i, rfl, Nat.le_refl _⟩
  | str x h => exact ⟨.str x, h, Nat.le_refl _⟩
  | @sl p m va vb a b hm h _ _ iha ihb =>
    obtain ⟨a1, a2, a3⟩ := iha
    obtain ⟨b1, b2, b3⟩ := ihb
    refine ⟨.tup (SqT.of h) (.cons (.str m) (.cons a1 (.cons b1 .nil))), ?_, ?_⟩
    · show (PySem.PyData.strOk m && ((datP a).canLay0 && ((datP b).canLay0 && true))) = true
      rw [show PySem.PyData.strOk m = true from hm, a2, b2]
      rfl
    · show max 0 (max (datP a).depth (max (datP b).depth 0)) + 1 ≤ max a.dep b.dep + 1
      omega
theorem DenP.dt {K : PySem.W.Frag} {H : Hp} {v : V} {t : Tm} (h : DenP tfT H v t) : Dp K H v (datT t) ∧ (datT t).canLay0 = true ∧ (datT t).depth ≤ t.dep := by
  induction h with
  | int i => exact ⟨.int i, rfl, Nat.le_refl _⟩
  | str x h => exact ⟨.str x, h, Nat.le_refl _⟩
  | @sl p m va vb a b hm h _ _ iha ihb =>
    obtain ⟨a1, a2, a3⟩ := iha
    obtain ⟨b1, b2, b3⟩ := ihb
    refine ⟨.tup (SqT.of h) (.cons (.str _) (.cons b1 (.cons a1 (.cons (.str m) .nil)))), ?_, ?_⟩
    · show (PySem.PyData.strOk "seal of" && ((datT b).canLay0 && ((datT a).canLay0 && (PySem.PyData.strOk m && true)))) = true
      rw [show PySem.PyData.strOk m = true from hm, a2, b2]
      decide +kernel
    · show max 0 (max (datT b).depth (max (datT a).depth (max 0 0))) + 1 ≤ max a.dep b.dep + 1
      omega
def plainSys (tf : Str → V → V → List V) (f : Addr) : Sys := ⟨f, fun H v t => DenP tf H v t, fun _ _ => True⟩
theorem goodP {K : PySem.W.Frag} (f : Addr) : (plainSys tfP f).Good K :=
  ⟨fun e h => h.mono e, fun _ _ => trivial, fun _ _ => trivial, fun i _ => .int i, fun x _ h => .str x h, fun h h' => ⟨_, DenP.dp h |>.1, DenP.dp h' |>.1, (DenP.dp (K := K) h).2.1, (DenP.dp (K := K) h).2.2⟩⟩
theorem goodT {K : PySem.W.Frag} (f : Addr) : (plainSys tfT f).Good K :=
  ⟨fun e h => h.mono e, fun _ _ => trivial, fun _ _ => trivial, fun i _ => .int i, fun x _ h => .str x h, fun h h' => ⟨_, DenP.dt h |>.1, DenP.dt h' |>.1, (DenP.dt (K := K) h).2.1, (DenP.dt (K := K) h).2.2⟩⟩
section
variable {P : Program} {w : World} {K : PySem.W.Frag} {mg : Str → Option Value} {base : Heap}
theorem fnAt_fun {x qual : Str} {st : Stmt} {f : Addr} {fd : FuncData} (F : L2.Fun K x qual st f fd) {h : Heap} (X : K.In h) : PySem.W.FnAt f h := by
  obtain ⟨oc, od, kV, doc, pm, an, cdv, ct, osl, rfl, lk, _⟩ := F.ex
  exact ⟨_, _, _, _, X _ _ lk⟩
def spTup (tf : Str → V → V → List V) : Sp := fun vs H Q _ => ∃ m a b, vs = [.str m, a, b] ∧ ∀ p, H p = none → Q (.ref p) (upd H p (.tup (tf m a b)))
theorem held_plain {tf : Str → V → V → List V} {x : Str} {st : Stmt} {ps : List Str} {f : Addr} {fd : FuncData} (F : L2.Fun K x x st f fd) (b : ∀ us : List Value, us.length = ps.length → bindArgs fd ⟨us, []⟩ = pure (ps.zip us)) (G : FnOk P w K mg base L2.CX0 1 f fd ps (spTup tf)) :
    HeldSl P w K mg base 1 (plainSys tf f) := by
  refine ⟨fun H h r X _ _ => fnAt_fun F X, fun A outer s H us vs Q E hr e0 rv h => ?_⟩
  obtain ⟨r, m, a, b', va, vb, rfl, hm, _, ha, hb, q⟩ := h
  have hsp : spTup tf [.str m, va, vb] H Q E := ⟨m, va, vb, rfl, fun p hp => q _ _ (Ext.new hp) True.intro (.sl hm upd_same (ha.mono (Kp.new hp).gr) (hb.mono (Kp.new hp).gr))⟩
  have hl : us.length = ps.length := by rw [← rv.length]; exact G.len _ _ _ _ hsp
  exact G.run A outer s H ⟨us, []⟩ us _ Q E hr e0 (.of_eq (b us hl)) rv hsp
/-! ### a seal that numbers its threes -/
def tab (ks : List (List Key)) : List (List Key × V) := ks.zipIdx.map fun p => (p.1, V.int ((p.2 : Nat) : Int))
theorem tab_snoc (ks : List (List Key)) (k : List Key) : tab (ks ++ [k]) = tab ks ++ [(k, V.int ((ks.length : Nat) : Int))] := by
  unfold tab
  rw [List.zipIdx_append, List.map_append]
  simp
theorem tab_len (ks : List (List Key)) : (tab ks).length = ks.length := by
  unfold tab
  rw [List.length_map, List.length_zipIdx]
theorem valV_app {κ : Type} [DecidableEq κ] (k : κ) : ∀ (l r : List (κ × V)) {v : V}, valV l k = some v → valV (l ++ r) k = some v
  | [], _, _, h => by cases h
  | p :: l, r, v, h => by
    by_cases e : p.1 = k
    · rw [valV_pos e] at h
      rw [List.cons_append, valV_pos e]
      exact h
    · rw [valV_neg e] at h
      rw [List.cons_append, valV_neg e]
      exact valV_app k l r h
theorem tab_at {ks : List (List Key)} {k : List Key} {v : V} (h : valV (tab ks) k = some v) : ∃ n : Nat, v = .int (n : Int) ∧ ks[n]? = some k := by
  unfold valV at h
  obtain ⟨p, hp, rfl⟩ := Option.map_eq_some_iff.mp h
  have h1 := List.mem_of_find?_eq_some hp
  have h2 : decide (p.1 = k) = true := List.find?_some (p := fun kv : List Key × V => decide (kv.1 = k)) hp
  obtain ⟨q, hq, rfl⟩ := List.mem_map.mp h1
  refine ⟨q.2, rfl, ?_⟩
  have h3 : q.1 = k := of_decide_eq_true h2
  have h4 := List.mk_mem_zipIdx_iff_getElem?.mp (show (q.1, q.2) ∈ ks.zipIdx from hq)
  rw [h4, h3]
inductive DenN (kvs : List (List Key × V)) : Key → Tm → Prop
  | int (i : Int) : DenN kvs (.inl i) (.int i)
  | str (x : Str) (h : txtOk x = true) : DenN kvs (.inr x) (.str x)
  | sl {m : Str} {ka kb : Key} {a b : Tm} {n : Int} (ha : DenN kvs ka a) (hb : DenN kvs kb b) (h : valV kvs [.inr m, ka, kb] = some (.int n)) : DenN kvs (.inl n) (.sl m a b)
theorem DenN.app {kvs more : List (List Key × V)} {k : Key} {t : Tm} (h : DenN kvs k t) : DenN (kvs ++ more) k t := by
  induction h with
  | int i => exact .int i
  | str x h => exact .str x h
  | sl _ _ h iha ihb => exact .sl iha ihb (valV_app _ _ _ h)
theorem DenN.fn {kvs : List (List Key × V)} {k : Key} {t : Tm} (h : DenN kvs k t) : ∀ {k'}, DenN kvs k' t → k = k' := by
  induction h with
  | int i => intro k' h'; cases h'; rfl
  | str x h => intro k' h'; cases h'; rfl
  | sl _ _ h iha ihb =>
    intro k' h'
    cases h' with
    | sl ha' hb' h' =>
      rw [← iha ha', ← ihb hb', h] at h'
      cases h'
      rfl
theorem DenN.lay {kvs : List (List Key × V)} {k : Key} {t : Tm} (h : DenN kvs k t) (K : PySem.W.Frag) (H : Hp) : ∃ d, Dp K H (kV k) d ∧ d.canLay0 = true ∧ d.depth = 0 := by
  cases h with
  | int i => exact ⟨.int i, .int i, rfl, rfl⟩
  | str x h => exact ⟨.str x, .str x, h, rfl⟩
  | sl _ _ _ => exact ⟨.int _, .int _, rfl, rfl⟩
/-- the cell at c holds the dict at d -/
def CellO (c d : Addr) : HO := .ext fun h => h.IsCell c (some (.ref d))
theorem cellO_at {H : Hp} {h : Heap} {c d : Addr} (hok : HOk P w H h) (e : H c = some (CellO c d)) : h.IsCell c (some (.ref d)) := (hok c _ e).1
theorem cellO_ok {H : Hp} {h : Heap} {c d : Addr} (e : h.IsCell c (some (.ref d))) : ObjOk P w H h c (CellO c d) := by
  obtain ⟨o, ho, hd⟩ := id e
  exact ⟨e, ⟨o, ho⟩, fun h1 h2 ⟨o', ho', hd'⟩ st => ⟨o', st _ ho', hd'⟩⟩
structure NumD where
  f : Addr
  q : Str
  c : Addr
  c0 : Addr
  d : Addr
abbrev NumD.F (N : NumD) : NdefX.NF := NdefX.NF.of s__law_numbering__law_numbered "_law_numbered" N.q [("_law_told", N.c0)] N.c
structure NumOk (N : NumD) (H : Hp) (r : Nat) : Prop where
  dict : ∃ ks, H N.d = some (.dT (tab ks)) ∧ ks.length + r ≤ sizeLine
  fn : H N.f = some (NdefX.FnO N.f N.F)
  code : H N.c = some (LamX.CodeO N.c N.q)
  cell : H N.c0 = some (CellO N.c0 N.d)
def numSys (N : NumD) : Sys := ⟨N.f, fun H v t => ∃ kvs k, H N.d = some (.dT kvs) ∧ DenN kvs k t ∧ v = kV k, fun H r => NumOk N H r⟩
theorem goodN (N : NumD) : (numSys N).Good K := by
  refine ⟨?_, ?_, ?_, ?_, ?_, ?_⟩
  · rintro H H' v t e ⟨kvs, k, hd, hk, rfl⟩
    obtain ⟨more, e1⟩ := e.grow _ _ hd
    exact ⟨_, k, e1, hk.app, rfl⟩
  · rintro H H' r e ⟨⟨ks, h1, h2⟩, h3, h4, h5⟩
    exact ⟨⟨ks, e _ _ h1 True.intro, h2⟩, e _ _ h3 True.intro, e _ _ h4 True.intro, e _ _ h5 True.intro⟩
  · rintro H r r' ⟨⟨ks, h1, h2⟩, h3, h4, h5⟩ hr
    exact ⟨⟨ks, h1, by omega⟩, h3, h4, h5⟩
  · rintro H r i ⟨⟨ks, h1, h2⟩, _⟩
    exact ⟨_, .inl i, h1, .int i, rfl⟩
  · rintro H r x ⟨⟨ks, h1, h2⟩, _⟩ hx
    exact ⟨_, .inr x, h1, .str x hx, rfl⟩
  · rintro H v v' t ⟨kvs, k, h1, h2, rfl⟩ ⟨kvs', k', h1', h2', rfl⟩
    rw [h1] at h1'
    cases h1'
    have e := h2.fn h2'
    subst e
    obtain ⟨d, a, b, c⟩ := h2.lay K H
    exact ⟨d, a, a, b, by omega⟩
/-- its own promise: ws, what its cell holds -/
def spNumd (ws : List (Option V)) : Sp := fun vs H Q _ => ∃ (d : Addr) (ks : List (List Key)) (m : Str) (ka kb : Key), ws = [some (.ref d)] ∧ vs = [.str m, kV ka, kV kb] ∧ H d = some (.dT (tab ks)) ∧ ks.length < sizeLine ∧
  ∀ (n : Int) (H' : Hp) (more : List (List Key)), Ext H H' → H' d = some (.dT (tab (ks ++ more))) → more.length ≤ 1 → valV (tab (ks ++ more)) [.inr m, ka, kb] = some (.int n) → Q (.int n) H'
theorem scN : NdefX.NScope N__law_numbering__law_numbered ["_law_mark", "_law_one", "_law_two"] ["_law_told"] (defScope s__law_numbering__law_numbered) := NdefX.nscope_by (by decide +kernel)
theorem nok_num (mlen : mg "len" = none) (N : NumD) : NdefX.NOk P w K mg base L2.CX0 1 N.f N.F ["_law_mark", "_law_one", "_law_two"] ["_law_told"] spNumd := by
  refine NdefX.nok_of (N := N__law_numbering__law_numbered) scN (fun _ _ _ us hl => match us, hl with | [_, _, _], _ => rfl) (fun ws vs H Q E h => ?_) (fun A outer s H vs ws Q E hr hf hc hw h => ?_)
  · obtain ⟨d, ks, m, ka, kb, _, rfl, _⟩ := h
    rfl
  obtain ⟨d, ks, m, ka, kb, rfl, rfl, hd, hl, q⟩ := h
  have hu : (NdefX.ncx L2.CX0 P w K mg base N__law_numbering__law_numbered N.F N.f A outer s H E).A.units + 1 < cLine := hu_of hr
  refine ⟨_, (pss_cons (ps_if (pt_cmp (pc_dnotin hu (pe_tup (pa_cons (pv 0) (pa_cons (pv 1) (pa_cons (pv 2) pa_nil)))) (pv 3))) (pss_one (ps_dput hu (pv 3) (pe_tup (pa_cons (pv 0) (pa_cons (pv 1) (pa_cons (pv 2) pa_nil)))) (pe_callB call_len_dT rfl mlen PySem.boot_len (pa_cons (pv 3) pa_nil)) rfl)) pss_nil)
  (pss_one (ps_ret (pe_dget hu (pv 3) (pe_tup (pa_cons (pv 0) (pa_cons (pv 1) (pa_cons (pv 2) pa_nil)))) (fun _ _ => rfl))))), ?_⟩
  have ek : ([.str m, kV ka, kV kb] : List V) = ([.inr m, ka, kb] : List Key).map kV := rfl
  have hp0 : ∀ p : Addr, H p = none → d ≠ p := fun p hp => ne_of_none hd hp
  refine ⟨_, rfl, _, rfl, _, rfl, (by show 3 ≤ sizeLine; decide), fun p hp => ?_⟩
  have d1 : upd H p (.tup [.str m, kV ka, kV kb]) d = some (.dT (tab ks)) := by
    rw [upd_ne (hp0 p hp)]
    exact hd
  refine ⟨_, rfl, d, _, rfl, DGet.t (k := [.inr m, ka, kb]) d1 upd_same, _, rfl, ?_⟩
  cases hv : valV (tab ks) [.inr m, ka, kb] with
  | some v =>
    obtain ⟨n, rfl, _⟩ := tab_at hv
    refine iteF ?_
    refine ⟨_, rfl, _, rfl, _, rfl, _, rfl, (by show 3 ≤ sizeLine; decide), fun p2 hp2 => ?_⟩
    have d2 : upd (upd H p (.tup [.str m, kV ka, kV kb])) p2 (.tup [.str m, kV ka, kV kb]) d = some (.dT (tab ks)) := by
      rw [upd_ne (ne_of_none d1 hp2)]
      exact d1
    refine ⟨d, .int n, rfl, ?_, ?_⟩
    · have g := DGet.t (k := [.inr m, ka, kb]) d2 upd_same
      rw [hv] at g
      exact g
    · exact q n _ [] ((Ext.new hp).trans (Ext.new hp2)) (by rw [List.append_nil]; exact d2) (Nat.zero_le _) (by rw [List.append_nil]; exact hv)
  | none =>
    refine iteT ?_
    refine ⟨_, rfl, d, _, rfl, d1, ?_⟩
    refine ⟨_, rfl, _, rfl, _, rfl, _, rfl, (by show 3 ≤ sizeLine; decide), fun p2 hp2 => ?_⟩
    have d2 : upd (upd H p (.tup [.str m, kV ka, kV kb])) p2 (.tup [.str m, kV ka, kV kb]) d = some (.dT (tab ks)) := by
      rw [upd_ne (ne_of_none d1 hp2)]
      exact d1
    refine ⟨d, _, rfl, DPut.t (k := [.inr m, ka, kb]) d2 upd_same (by rw [tab_len]; exact hl), ?_⟩
    rw [putK_new _ hv, tab_len, ← tab_snoc]
    have x2 : Ext H (upd (upd H p (.tup [.str m, kV ka, kV kb])) p2 (.tup [.str m, kV ka, kV kb])) := (Ext.new hp).trans (Ext.new hp2)
    have x3 : Ext H (upd (upd (upd H p (.tup [.str m, kV ka, kV kb])) p2 (.tup [.str m, kV ka, kV kb])) d (.dT (tab (ks ++ [[.inr m, ka, kb]])))) := by
      refine ⟨fun a o ha hn => ?_, fun a kvs ha => ?_⟩
      · rw [upd_ne (show a ≠ d from fun z => by rw [z, hd] at ha; exact hn _ (Option.some.inj ha).symm)]
        exact x2.keep a o ha hn
      · by_cases e : a = d
        · subst e
          rw [hd] at ha
          cases ha
          exact ⟨[(_, _)], by rw [upd_same, tab_snoc]⟩
        · rw [upd_ne e]
          exact x2.grow a kvs ha
    have d3 : upd (upd (upd H p (.tup [.str m, kV ka, kV kb])) p2 (.tup [.str m, kV ka, kV kb])) d (.dT (tab (ks ++ [[.inr m, ka, kb]]))) d = some (.dT (tab (ks ++ [[.inr m, ka, kb]]))) := upd_same
    generalize upd (upd (upd H p (.tup [.str m, kV ka, kV kb])) p2 (.tup [.str m, kV ka, kV kb])) d (.dT (tab (ks ++ [[.inr m, ka, kb]]))) = H3 at x3 d3 ⊢
    refine ⟨_, rfl, _, rfl, _, rfl, _, rfl, (by show 3 ≤ sizeLine; decide), fun p3 hp3 => ?_⟩
    have d4 : upd H3 p3 (.tup [.str m, kV ka, kV kb]) d = some (.dT (tab (ks ++ [[.inr m, ka, kb]]))) := by
      rw [upd_ne (ne_of_none d3 hp3)]
      exact d3
    have hv3 : valV (tab (ks ++ [[.inr m, ka, kb]])) [.inr m, ka, kb] = some (.int ((ks.length : Nat) : Int)) := by
      rw [tab_snoc, valV_snoc _ _ _ _ hv, if_pos rfl]
    refine ⟨d, .int ((ks.length : Nat) : Int), rfl, ?_, ?_⟩
    · have g := DGet.t (k := [.inr m, ka, kb]) d4 upd_same
      rw [hv3] at g
      exact g
    · exact q _ _ _ (x3.trans (Ext.new hp3)) d4 (Nat.le_refl _) hv3
/-- its cell set aside for the call -/
def er (H : Hp) (c : Addr) : Hp := fun b => if b = c then none else H b
theorem er_ne {H : Hp} {c b : Addr} (h : b ≠ c) : er H c b = H b := if_neg h
theorem er_same {H : Hp} {c : Addr} : er H c c = none := if_pos rfl
theorem er_some {H : Hp} {c b : Addr} {o : HO} (h : er H c b = some o) : b ≠ c ∧ H b = some o := by
  by_cases e : b = c
  · rw [e, er_same] at h
    cases h
  · rw [er_ne e] at h
    exact ⟨e, h⟩
theorem cell_ne_own {H : Hp} {c d a b : Addr} (e : H c = some (CellO c d)) (h : H b = some (.own a)) : b ≠ c := fun z => by
  rw [z, e] at h
  have h : HO.ext _ = HO.own a := Option.some.inj h
  cases h
theorem cell_ne_tup {H : Hp} {c d b : Addr} {xs : List V} (e : H c = some (CellO c d)) (h : H b = some (.tup xs)) : b ≠ c := fun z => by
  rw [z, e] at h
  have h : HO.ext _ = HO.tup xs := Option.some.inj h
  cases h
theorem er_hok {H : Hp} {h : Heap} {c d : Addr} (e : H c = some (CellO c d)) (ok : HOk P w H h) : HOk P w (er H c) h := fun a o ha => by
  obtain ⟨n, ha'⟩ := er_some ha
  exact (ok a o ha').stay (fun _ _ _ q => q) (fun b hb => by rw [er_ne (cell_ne_own e hb)]; exact hb) fun b xs hb => by rw [er_ne (cell_ne_tup e hb)]; exact hb
theorem held_num (mlen : mg "len" = none) (N : NumD) : HeldSl P w K mg base 1 (numSys N) := by
  refine ⟨fun H h r X ok h1 => ?_, fun A outer s H us vs Q E hr e0 rv h => ?_⟩
  · obtain ⟨od, sl, doc, pm, ctv, e⟩ := NdefX.fnO_at ok h1.fn
    exact ⟨_, _, _, _, e⟩
  obtain ⟨r, m, a, b, va, vb, rfl, hm, ok, ha, hb, q⟩ := h
  obtain ⟨⟨ks, hd, hl⟩, hf, hc, hcell⟩ := id ok
  obtain ⟨kvs, ka, hd1, hka, rfl⟩ := ha
  obtain ⟨kvs', kb, hd2, hkb, rfl⟩ := hb
  rw [hd] at hd1 hd2
  cases hd1
  cases hd2
  have isC := cellO_at e0.hok hcell
  have nf : N.f ≠ N.c0 := fun z => by
    obtain ⟨od, sl, doc, pm, ctv, e⟩ := NdefX.fnO_at e0.hok hf
    obtain ⟨o, e', d'⟩ := id isC
    rw [z, e'] at e
    cases e
    cases d'
  have nc : N.c ≠ N.c0 := fun z => by
    obtain ⟨c, oc, us, t, e1, e2, e3, e4⟩ := NdefX.codeO_at e0.hok hc
    cases e1
    obtain ⟨o, e', d'⟩ := id isC
    rw [z, e'] at e2
    cases e2
    rw [d'] at e3
    cases e3
  have nd : N.d ≠ N.c0 := fun z => by
    rw [z, hcell] at hd
    have hd : HO.ext _ = HO.dT _ := Option.some.inj hd
    cases hd
  have e1 : Env0 P w K mg base A outer s (er H N.c0) := by
    refine ⟨e0.frames, e0.mod, fun b o hb => ⟨(e0.bs b o hb).1, ?_⟩, e0.bsz, e0.funs, fun b hb => ?_, er_hok hcell e0.hok, e0.bare⟩
    · by_cases z : b = N.c0
      · rw [z, er_same]
      · rw [er_ne z]
        exact (e0.bs b o hb).2
    · by_cases z : b = N.c0
      · rw [z, er_same]
      · rw [er_ne z]
        exact e0.frf b hb
  have lk : ∀ {y : Str} {c : Addr}, List.lookup y N.F.cl = some c → y = "_law_told" ∧ c = N.c0 := fun {y c} h => by
    have h : List.lookup y [(("_law_told" : Str), N.c0)] = some c := h
    by_cases z : y = "_law_told"
    · subst z
      simp at h
      exact ⟨rfl, h.symm⟩
    · have z' : (y == ("_law_told" : Str)) = false := beq_eq_false_iff_ne.mpr z
      unfold List.lookup at h
      rw [z'] at h
      cases h
  have CA : NdefX.CellsAt N.F.cl ["_law_told"] [some (.ref N.d)] s.heap (er H N.c0) := by
    refine ⟨rfl, fun y c h => ?_, fun x y c h1 h2 => (lk h1).1.trans (lk h2).1.symm, fun i y h => ?_⟩
    · rw [(lk h).2]
      exact ⟨er_same, _, isC⟩
    · cases i with
      | zero =>
        cases h
        refine ⟨N.c0, by simp [List.lookup, NdefX.NF.of], fun v hv => ?_⟩
        cases hv
        exact ⟨_, rfl, isC⟩
      | succ i => simp at h
  have nfr : N.c0 ∉ frs outer := fun z => by
    have := e0.frf _ z
    rw [hcell] at this
    cases this
  refine codeAny_mono ((nok_num mlen N).run A outer s (er H N.c0) us _ [some (.ref N.d)] (fun v H' => Q v (upd H' N.c0 (CellO N.c0 N.d))) E hr e1 (by rw [er_ne nf]; exact hf) (by rw [show N.F.c = N.c from rfl, er_ne nc]; exact hc) CA rv
    ⟨N.d, ks, m, ka, kb, rfl, rfl, by rw [er_ne nd]; exact hd, by omega, fun n H' more x hd' hmore hv => ?_⟩) fun res s' hq => ?_
  · have kp : ∀ b o, H b = some o → b ≠ N.c0 → (∀ kvs, o ≠ .dT kvs) → H' b = some o := fun b o hb hn hn2 => x.keep b o (by rw [er_ne hn]; exact hb) hn2
    refine q _ _ ⟨fun b o hb hn => ?_, fun b kvs hb => ?_⟩ ⟨⟨ks ++ more, ?_, ?_⟩, ?_, ?_, upd_same⟩ ⟨_, .inl n, by rw [upd_ne nd]; exact hd', ?_, rfl⟩
    · by_cases z : b = N.c0
      · rw [z, upd_same]
        rw [z, hcell] at hb
        exact hb
      · rw [upd_ne z]
        exact kp b o hb z hn
    · have z : b ≠ N.c0 := fun z => by
        rw [z, hcell] at hb
        have hb : HO.ext _ = HO.dT _ := Option.some.inj hb
        cases hb
      rw [upd_ne z]
      exact x.grow b kvs (by rw [er_ne z]; exact hb)
    · rw [upd_ne nd]
      exact hd'
    · rw [List.length_append]
      omega
    · rw [upd_ne nf]
      exact kp _ _ hf nf fun _ z => HO.noConfusion z
    · rw [upd_ne nc]
      exact kp _ _ hc nc fun _ z => HO.noConfusion z
    · have t : ∀ {k t}, DenN (tab ks) k t → DenN (tab (ks ++ more)) k t := fun {k t} h => by
        obtain ⟨m2, e2⟩ := x.grow N.d (tab ks) (by rw [er_ne nd]; exact hd)
        rw [hd'] at e2
        have e3 : tab (ks ++ more) = tab ks ++ m2 := by
          have e2 := Option.some.inj e2
          injection e2
        rw [e3]
        exact h.app
      exact .sl (t hka) (t hkb) hv
  · cases res with
    | error e => exact hq
    | ok fl =>
      cases fl with
      | next => exact hq
      | brk => exact hq
      | cont => exact hq
      | ret u =>
        obtain ⟨v, H', os, bare, un, hok, rvu, q'⟩ := hq
        have nH : ∀ b, H b = none → b ≠ N.c0 := fun b hb z => by
          rw [z, hcell] at hb
          cases hb
        have ern : ∀ b, H b = none → er H N.c0 b = none := fun b hb => by
          rw [er_ne (nH b hb)]
          exact hb
        obtain ⟨oc, hoc, hod⟩ := id isC
        have hH' : H' N.c0 = none := un.free _ oc hoc er_same (by simp)
        have hcs : s'.heap.get? N.c0 = some oc := un.keep _ oc hoc er_same nfr (by simp)
        refine ⟨v, upd H' N.c0 (CellO N.c0 N.d), os, bare, ⟨fun b o e n hb hx => un.keep b o e (ern b n) hb hx, fun b o e n hb hx => un.slot b o e (ern b n) hb hx, fun b o e n hx => ?_, un.there, fun b xs e => ?_, fun b o u e => ?_, fun b ps e => ?_⟩, fun b u e => ?_, rvu, q'⟩
        · rw [upd_ne (nH b n)]
          exact un.free b o e (ern b n) hx
        · have z := cell_ne_tup hcell e
          rw [upd_ne z]
          exact un.tups b xs (by rw [er_ne z]; exact e)
        · have z : b ≠ N.c0 := fun z => by
            rw [z, hcell] at e
            have e : HO.ext _ = HO.frz _ _ := Option.some.inj e
            cases e
          rw [upd_ne z]
          exact un.frzs b o u (by rw [er_ne z]; exact e)
        · have z : b ≠ N.c0 := fun z => by
            rw [z, hcell] at e
            have e : HO.ext _ = HO.tbl _ := Option.some.inj e
            cases e
          obtain ⟨more, hm⟩ := un.tbls b ps (by rw [er_ne z]; exact e)
          exact ⟨more, by rw [upd_ne z]; exact hm⟩
        · by_cases z : b = N.c0
          · rw [z, upd_same] at e
            cases e
            rw [z]
            exact cellO_ok ⟨oc, hcs, hod⟩
          · rw [upd_ne z] at e
            exact (hok b u e).stay (fun _ _ _ q => q) (fun b hb => by rw [upd_ne (ne_of_none hb hH')]; exact hb) fun b xs hb => by rw [upd_ne (ne_of_none hb hH')]; exact hb
end

/-! ### the three seals, by the law's own defs -/
section
variable {P : Program} {w : World} {K : PySem.W.Frag} {mg : Str → Option Value} {base : Heap}
theorem fn_plain {f : Addr} {fd : FuncData} (F : L2.Fun K "_law_plain" "_law_plain" s__law_plain f fd) : FnOk P w K mg base L2.CX0 1 f fd ["_law_mark", "_law_one", "_law_two"] (spTup tfP) := by
  refine F.ok sc__law_plain (fun vs H Q E h => ?_) (fun cdv A outer s H vs Q E hr h => ?_)
  · obtain ⟨m, a, b, rfl, _⟩ := h
    rfl
  obtain ⟨m, a, b, rfl, q⟩ := h
  refine ⟨_, (pss_one (ps_ret (pe_tup (pa_cons (pv 0) (pa_cons (pv 1) (pa_cons (pv 2) pa_nil)))))), ?_⟩
  exact ⟨_, rfl, _, rfl, _, rfl, (by show 3 ≤ sizeLine; decide), fun p hp => q p hp⟩
theorem fn_turned {f : Addr} {fd : FuncData} (F : L2.Fun K "_law_turned" "_law_turned" s__law_turned f fd) : FnOk P w K mg base L2.CX0 1 f fd ["_law_mark", "_law_one", "_law_two"] (spTup tfT) := by
  refine F.ok sc__law_turned (fun vs H Q E h => ?_) (fun cdv A outer s H vs Q E hr h => ?_)
  · obtain ⟨m, a, b, rfl, _⟩ := h
    rfl
  obtain ⟨m, a, b, rfl, q⟩ := h
  refine ⟨_, (pss_one (ps_ret (pe_tup (pa_cons pe_str (pa_cons (pv 2) (pa_cons (pv 1) (pa_cons (pv 0) pa_nil))))))), ?_⟩
  exact ⟨_, rfl, _, rfl, _, rfl, (by show 4 ≤ sizeLine; decide), fun p hp => q p hp⟩
/-- the three of them -/
def Fam3 (mg : Str → Option Value) : Sys → Prop := fun S => (∃ f, mg "_law_plain" = some (.ref f) ∧ S = plainSys tfP f) ∨ (∃ f, mg "_law_turned" = some (.ref f) ∧ S = plainSys tfT f) ∨ ∃ N : NumD, S = numSys N
theorem sla3 {cc : Addr} (T : Txt K mg cc) : SlA P w K mg base (Fam3 mg) := by
  obtain ⟨fP, fdP, FP, mP, bP⟩ := T.d__law_plain.ex
  obtain ⟨fT, fdT, FT, mT, bT⟩ := T.d__law_turned.ex
  refine ⟨fun {S} h => ?_, fun S h => ?_⟩
  · rcases h with ⟨f, _, rfl⟩ | ⟨f, _, rfl⟩ | ⟨N, rfl⟩
    · exact goodP f
    · exact goodT f
    · exact goodN N
  · rcases h with ⟨f, m, rfl⟩ | ⟨f, m, rfl⟩ | ⟨N, rfl⟩
    · rw [mP] at m
      cases m
      exact held_plain FP bP (fn_plain FP)
    · rw [mT] at m
      cases m
      exact held_plain FT bT (fn_turned FT)
    · exact held_num T.Z.len N
/-- its making: the table at PT is empty before -/
def spNumg (PT : Addr) : Sp := fun vs H Q _ => vs = [] ∧ H PT = some (.tbl #[]) ∧ ∀ (N : NumD) (H' : Hp), LamX.ExtN H H' → NumOk N H' sizeLine → Q (.ref N.f) H'
theorem fn_numbering {f c PT : Addr} {kV doc pm ct oc : Value} {an od : Option Addr} {osl : Array (Option Value)} (TB : LamX.TabB base mg c PT)
    (lk : K.lookup f = some ⟨oc, od, .func (PySem.W.fnOf "_law_numbering" "_law_numbering" (defArgs s__law_numbering) (defBody s__law_numbering) (defScope s__law_numbering) .none kV doc pm an (.ref c) ct), osl⟩) (hcd : PySem.W.codeIn K (.ref c) "_law_numbering" = true) :
    FnOk P w K mg base L2.CX0 1 f (PySem.W.fnOf "_law_numbering" "_law_numbering" (defArgs s__law_numbering) (defBody s__law_numbering) (defScope s__law_numbering) .none kV doc pm an (.ref c) ct) [] (spNumg PT) := by
  refine ⟨fun vs H Q E h => by rw [h.1] <;> rfl, fun A outer s H args us vs Q E hr e0 hb r hsp => ?_⟩
  obtain ⟨rfl, hPT, q⟩ := hsp
  have KX : K.In s.heap := e0.mod.kin.keeps fun b o e => (e0.bs b o e).1
  have lim : s.heap.NoLimit := e0.mod.nolimit.keeps fun b o e => (e0.bs b o e).1
  refine codeAny_call_function hr.depth (KX _ _ lk) rfl sc__law_numbering.co sc__law_numbering.gen rfl (PySem.W.codeRec_of KX hcd) (hb _ _ _ _ ?_)
  refine wpAny_newFunctionEnv_cells sc__law_numbering.kind (fun ⟨n, v⟩ hy => by simp at hy) fun env he s1 x => ?_
  subst he
  refine ⟨lim.keeps x.toInCall.keep, codeAny_func ?_⟩
  have I : Inv (cxOf L2.CX0 P w K mg base N__law_numbering "_law_numbering" (defScope s__law_numbering) f (.ref c) A outer s H E) [] (start N__law_numbering []) H s1 := inv_start sc__law_numbering hr.hd e0 rfl r x
  have b3 : defBody s__law_numbering = [(defBody s__law_numbering).getD 0 (.Pass ⟨0, 0, 0, 0⟩), inDef s__law_numbering 1, (defBody s__law_numbering).getD 2 (.Pass ⟨0, 0, 0, 0⟩)] := rfl
  refine wpAny_mono (Q := fun fl s' => ∃ u, fl = .ret u ∧ CE outer P w H s Q u s') ?_ (fun fl s' hs => ?_) fun e s' hs => hs
  · rw [b3]
    have hfree : NdefX.ndefB (defScope s__law_numbering) (C8.fnScope s__law_numbering__law_numbered) ["_law_told"] = true := by decide +kernel
    have e1 : PS (cxOf L2.CX0 P w K mg base N__law_numbering "_law_numbering" (defScope s__law_numbering) f (.ref c) A outer s H E) ((defBody s__law_numbering).getD 0 (.Pass ⟨0, 0, 0, 0⟩)) (tAsg tDNewT (gName 1)) := ps_set (i := 1) sc__law_numbering.nd rfl (Or.inr rfl) pe_dnewT
    have e2 := NdefX.ps_ndefS (X := cxOf L2.CX0 P w K mg base N__law_numbering "_law_numbering" (defScope s__law_numbering) f (.ref c) A outer s H E) (st := s__law_numbering__law_numbered) (name := "_law_numbered") (i := 0) (T := [(PT, fun _ _ => (envOfC "_law_numbering" (defScope s__law_numbering) s.heap.objs.size f (.ref c)).qual ++ "_law_numbered")]) (c := c) (P := PT)
      (nm := fun _ _ => (envOfC "_law_numbering" (defScope s__law_numbering) s.heap.objs.size f (.ref c)).qual ++ "_law_numbered") rfl TB rfl List.mem_cons_self rfl (fun p hp _ => by rw [List.mem_singleton.mp hp]) (NdefX.ndef_free hfree) rfl rfl rfl sc__law_numbering.nd rfl (Or.inl rfl) (Or.inl rfl)
    have e3 : PE (cxOf L2.CX0 P w K mg base N__law_numbering "_law_numbering" (defScope s__law_numbering) f (.ref c) A outer s H E) (match (defBody s__law_numbering).getD 2 (.Pass ⟨0, 0, 0, 0⟩) with | .Return (some e) _ => e | _ => .Name "" ⟨0, 0, 0, 0⟩) (tVar 0) := pv 0
    have b4 : ∃ pos : Pos, (defBody s__law_numbering).getD 2 (.Pass ⟨0, 0, 0, 0⟩) = .Return (some (match (defBody s__law_numbering).getD 2 (.Pass ⟨0, 0, 0, 0⟩) with | .Return (some e) _ => e | _ => .Name "" ⟨0, 0, 0, 0⟩)) pos := ⟨_, rfl⟩
    obtain ⟨pos, b4⟩ := b4
    refine wpAny_execs_cons (thn (e1.run [] s1 _ H ⟨fun σ H' => ∃ d, H d = none ∧ σ = [none, some (.ref d)] ∧ H' = upd H d (.dT []), fun _ _ => False, fun _ _ => False, fun _ _ => False⟩ I fun d nd => ⟨d, nd, rfl, rfl⟩) fun fl s2 h2 => ?_)
    cases fl with
    | ret v => obtain ⟨_, _, _, _, _, z⟩ := h2; exact z.elim
    | brk => obtain ⟨_, _, _, z⟩ := h2; exact z.elim
    | cont => obtain ⟨_, _, _, z⟩ := h2; exact z.elim
    | next =>
    obtain ⟨σ2, H2, I2, d, nd, rfl, rfl⟩ := h2
    have tb : NdefX.TabsN [(PT, fun _ _ => (envOfC "_law_numbering" (defScope s__law_numbering) s.heap.objs.size f (.ref c)).qual ++ "_law_numbered")] (upd H d (.dT [])) := fun p hp => by
      rw [List.mem_singleton.mp hp]
      exact NdefX.TabN.nil (by rw [upd_ne (ne_of_none hPT nd)]; exact hPT)
    refine wpAny_execs_cons (thn (e2.run [] s2 _ _ ⟨fun σ H' => ∃ f2 c2, LamX.ExtN (upd H d (.dT [])) H' ∧ σ = [some (.ref f2), some (.ref d)] ∧ H' f2 = some (NdefX.FnO f2 (NdefX.NF.of s__law_numbering__law_numbered "_law_numbered" ((envOfC "_law_numbering" (defScope s__law_numbering) s.heap.objs.size f (.ref c)).qual ++ "_law_numbered") [("_law_told", s.heap.objs.size + 1)] c2)) ∧
        H' c2 = some (LamX.CodeO c2 ((envOfC "_law_numbering" (defScope s__law_numbering) s.heap.objs.size f (.ref c)).qual ++ "_law_numbered")), fun _ _ => False, fun _ _ => False, fun _ _ => False⟩ I2 ⟨tb, fun f2 c2 H3 x3 _ _ hf2 hc2 => ⟨f2, c2, x3, rfl, hf2, hc2⟩⟩) fun fl s3 h3 => ?_)
    cases fl with
    | ret v => obtain ⟨_, _, _, _, _, z⟩ := h3; exact z.elim
    | brk => obtain ⟨_, _, _, z⟩ := h3; exact z.elim
    | cont => obtain ⟨_, _, _, z⟩ := h3; exact z.elim
    | next =>
    obtain ⟨σ3, H3, I3, f2, c2, x3, rfl, hf2, hc2⟩ := h3
    rw [b4]
    refine wpAny_execs_cons (wpAny_Return_some (thn (e3.run [] s3 _ H3 (fun v H' => v = .ref f2 ∧ H' = H3) I3 ⟨_, rfl, rfl, rfl⟩) fun u s4 h4 => ?_))
    obtain ⟨v, H4, I4, ru, rfl, rfl⟩ := h4
    refine ⟨u, rfl, ?_⟩
    -- the cell
    have hce : (cxOf L2.CX0 P w K mg base N__law_numbering "_law_numbering" (defScope s__law_numbering) f (.ref c) A outer s H E).env.cells.lookup ("_law_told" : Str) = some (s.heap.objs.size + 1) := rfl
    have isC : s4.heap.IsCell (s.heap.objs.size + 1) (some (.ref d)) := by
      obtain ⟨m, hn, hl⟩ := I4.loc
      obtain ⟨u2, r2, l2⟩ := hl 1 "_law_told" (.ref d) rfl rfl (.inr (.inl rfl))
      have e2 : u2 = .ref d := r2
      subst e2
      rcases l2 with ⟨k, _⟩ | ⟨_, c3, hc3, z⟩
      · cases (show some NameKind.cell = some NameKind.local from k)
      · rw [hce] at hc3
        cases hc3
        exact z
    have fc := I4.freeC _ _ hce
    have hs0 : H (s.heap.objs.size + 1) = none := e0.hok.fresh (Nat.le_succ _)
    have un := I4.base
    have xn : LamX.ExtN H (upd H4 (s.heap.objs.size + 1) (CellO (s.heap.objs.size + 1) d)) := fun b o hb hn => by
      rw [upd_ne (ne_of_none hb hs0)]
      exact x3 b o (by rw [upd_ne (ne_of_none hb nd)]; exact hb) hn
    have hd4 : H4 d = some (.dT []) := x3 d _ upd_same fun ps z => by cases z
    refine ⟨.ref f2, upd H4 (s.heap.objs.size + 1) (CellO (s.heap.objs.size + 1) d), I4.os, I4.bare, ⟨un.keep, un.slot, fun b o e n hx => ?_, un.there, fun b xs e => ?_, fun b o u e => ?_, fun b ps e => ?_⟩, fun b u e => ?_, ru, ?_⟩
    · rw [upd_ne (Nat.ne_of_lt (Nat.lt_succ_of_lt (Heap.lt_size e)))]
      exact un.free b o e n hx
    · rw [upd_ne (ne_of_none e hs0)]
      exact un.tups b xs e
    · rw [upd_ne (ne_of_none e hs0)]
      exact un.frzs b o u e
    · obtain ⟨more, hm⟩ := un.tbls b ps e
      exact ⟨more, by rw [upd_ne (ne_of_none e hs0)]; exact hm⟩
    · by_cases z : b = s.heap.objs.size + 1
      · rw [z, upd_same] at e
        cases e
        rw [z]
        exact cellO_ok isC
      · rw [upd_ne z] at e
        exact (I4.hok b u e).stay (fun _ _ _ q => q) (fun b hb => by rw [upd_ne (ne_of_none hb fc)]; exact hb) fun b xs hb => by rw [upd_ne (ne_of_none hb fc)]; exact hb
    · refine q ⟨f2, (envOfC "_law_numbering" (defScope s__law_numbering) s.heap.objs.size f (.ref c)).qual ++ "_law_numbered", c2, s.heap.objs.size + 1, d⟩ _ xn ⟨⟨[], ?_, ?_⟩, ?_, ?_, upd_same⟩
      · rw [upd_ne (ne_of_none hd4 fc)]
        exact hd4
      · exact Nat.le_of_eq (Nat.zero_add _)
      · rw [upd_ne (ne_of_none hf2 fc)]
        exact hf2
      · rw [upd_ne (ne_of_none hc2 fc)]
        exact hc2
  · obtain ⟨u, rfl, h⟩ := hs
    exact h
theorem cal_numbering {c PT : Addr} (D : DefM K mg "_law_numbering" s__law_numbering c) (TB : LamX.TabB base mg c PT) : Cal P w K mg base 1 "_law_numbering" (spNumg PT) [] := by
  obtain ⟨f, oc, od, kV, doc, pm, an, ct, osl, lk, hc, kp, m⟩ := D.ex
  exact ⟨f, _, [], [], fn_numbering TB lk hc, m, kp, .all fun us hl => match us, hl with | [], _ => rfl, .nil⟩
/-! ### the law's own helpers -/
/-- script[k] where it is, else 0 -/
def cell (ns : List Int) (k : Int) : Int := ns.getD k.toNat 0
def spCellA (K : PySem.W.Frag) : Sp := fun vs H Q _ => ∃ (a : Addr) (ns : List Int) (k : Int), vs = [.ref a, .int k] ∧ SqL K H a (ns.map V.int) ∧ 0 ≤ k ∧ Q (.int (cell ns k)) H
theorem ok_cell_at {cc : Addr} (T : Txt K mg cc) : Cal P w K mg base 1 "_law_cell_at" (spCellA K) [] := by
  have Z := T.Z
  refine cal_of T.d__law_cell_at sc__law_cell_at (fun vs H Q E h => ?_) (fun f cdv A outer s H vs Q E hr h => ?_)
  · obtain ⟨a, ns, k, rfl, _⟩ := h
    rfl
  obtain ⟨a, ns, k, rfl, hS, hk, q⟩ := h
  refine ⟨_, (pss_cons (ps_if (pt_cmpR op_lt (pv 1) (pe_callB call_len_seq rfl Z.len PySem.boot_len (pa_cons (pv 0) pa_nil)) (nomark _)) (pss_one (ps_ret (pe_ix ix_list (pv 0) (pv 1) (fun _ _ => rfl)))) pss_nil)
  (pss_one (ps_ret pe_int))), ?_⟩
  refine ⟨_, rfl, _, rfl, a, _, rfl, .inl hS, _, _, rfl, rfl, _, rfl, ?_⟩
  rw [List.length_map]
  refine ite2 (fun c => ?_) (fun c => ?_)
  · have c' : k < (ns.length : Int) := of_decide_eq_true c
    have hl : k.toNat < ns.length := by omega
    refine ⟨_, rfl, _, rfl, a, _, k, .int (cell ns k), rfl, rfl, hS, at_of (j := k.toNat) (by omega) ?_, q⟩
    rw [List.getElem?_map, List.getElem?_eq_getElem hl]
    unfold cell
    rw [List.getD_eq_getElem?_getD, List.getElem?_eq_getElem hl]
    rfl
  · have c' : ¬ k < (ns.length : Int) := of_decide_eq_false (Bool.eq_false_iff.mpr c)
    have e : cell ns k = 0 := by
      unfold cell
      rw [List.getD_eq_getElem?_getD, List.getElem?_eq_none (by omega)]
      rfl
    rw [e] at q
    exact q
/-- one of three seals, its state new -/
def spSlBy (K : PySem.W.Frag) (mg : Str → Option Value) (PT : Addr) : Sp := fun vs H Q _ => ∃ (a : Addr) (ns : List Int), vs = [.ref a] ∧ SqL K H a (ns.map V.int) ∧ H PT = some (.tbl #[]) ∧ ∀ (S : Sys) (H' : Hp), Fam3 mg S → LamX.ExtN H H' → S.ok H' sizeLine → Q (.ref S.f) H'
theorem ok_seal_by {cc PT : Addr} (T : Txt K mg cc) (TB : LamX.TabB base mg cc PT) : Cal P w K mg base 2 "_law_seal_by" (spSlBy K mg PT) [] := by
  have Z := T.Z
  obtain ⟨fP, fdP, FP, mP, bP⟩ := T.d__law_plain.ex
  obtain ⟨fT, fdT, FT, mT, bT⟩ := T.d__law_turned.ex
  obtain ⟨fN, fdN, psN, dsN, FN, mN, kN, bN, vN⟩ := (cal_numbering (P := P) (w := w) T.m__law_numbering TB).ex
  have C__law_cell_at := ok_cell_at (P := P) (w := w) (base := base) T
  refine cal_of T.d__law_seal_by sc__law_seal_by (fun vs H Q E h => ?_) (fun f cdv A outer s H vs Q E hr h => ?_)
  · obtain ⟨a, ns, rfl, _⟩ := h
    rfl
  obtain ⟨a, ns, rfl, hS, hPT, q⟩ := h
  refine ⟨_, (pss_cons (ps_set (i := 1) sc__law_seal_by.nd rfl (Or.inl rfl) (pe_op op_mod (pe_op op_fdiv (pe_c C__law_cell_at hr (by omega) rfl (pa_cons (pv 0) (pa_cons pe_int pa_nil))) pe_int) pe_int))
  (pss_cons (ps_if (pt_cmpR op_eq (pv 1) pe_int (nomark _)) (pss_one (ps_ret (pe_glob (v := .ref fP) rfl mP rfl))) pss_nil)
  (pss_cons (ps_if (pt_cmpR op_eq (pv 1) pe_int (nomark _)) (pss_one (ps_ret (pe_glob (v := .ref fT) rfl mT rfl))) pss_nil)
  (pss_one (ps_ret (pe_call0 FN hr rfl mN kN bN vN pass0)))))), ?_⟩
  refine ⟨_, rfl, a, ns, 0, rfl, hS, Int.le_refl 0, _, 7, rfl, rfl, ⟨by decide, by decide⟩, _, 3, rfl, rfl, (by show (0 : Int) < 3; decide), ?_⟩
  refine ⟨_, rfl, rfl, _, rfl, ite2 (fun _ => ?_) (fun _ => ?_)⟩
  · exact q (plainSys tfP fP) H (.inl ⟨fP, mP, rfl⟩) (LamX.ExtN.refl H) True.intro
  refine ⟨_, rfl, rfl, _, rfl, ite2 (fun _ => ?_) (fun _ => ?_)⟩
  · exact q (plainSys tfT fT) H (.inr (.inl ⟨fT, mT, rfl⟩)) (LamX.ExtN.refl H) True.intro
  have e0 : dsN = [] := by
    cases vN
    rfl
  subst e0
  exact ⟨rfl, hPT, fun N H' x ok => q (numSys N) H' (.inr (.inr ⟨N, rfl⟩)) x ok⟩
end

/-! ### the greatest power of two below a number -/
def splitN (n : Nat) : Nat := 2 ^ (n - 1).log2
theorem splitN_pos (n : Nat) : 0 < splitN n := Nat.two_pow_pos _
theorem splitN_lt {n : Nat} (h : 2 ≤ n) : splitN n < n := by
  have q := Nat.log2_self_le (show n - 1 ≠ 0 by omega)
  unfold splitN
  omega
theorem splitN_ge {n : Nat} (h : 2 ≤ n) : n ≤ 2 * splitN n := by
  have q : n - 1 < 2 ^ ((n - 1).log2 + 1) := Nat.lt_log2_self
  rw [Nat.pow_succ] at q
  unfold splitN
  omega
theorem splitN_of {n i : Nat} (h1 : 2 ^ i < n) (h2 : n ≤ 2 * 2 ^ i) : splitN n = 2 ^ i := by
  have h0 : n - 1 ≠ 0 := by
    have := Nat.two_pow_pos i
    omega
  have a : i ≤ (n - 1).log2 := (Nat.le_log2 h0).mpr (by omega)
  have b : (n - 1).log2 < i + 1 := (Nat.log2_lt h0).mpr (by rw [Nat.pow_succ]; omega)
  unfold splitN
  rw [show (n - 1).log2 = i by omega]
theorem splitN_le_pow {n k : Nat} (h : 2 ≤ n) (hk : n ≤ 2 ^ (k + 1)) : splitN n ≤ 2 ^ k ∧ n - splitN n ≤ 2 ^ k := by
  have h0 : n - 1 ≠ 0 := by omega
  have a : (n - 1).log2 < k + 1 := (Nat.log2_lt h0).mpr (by omega)
  have b : splitN n ≤ 2 ^ k := Nat.pow_le_pow_right (by decide) (by omega)
  have c := splitN_ge h
  exact ⟨b, by omega⟩
/-! ### the top of a row -/
def nonT : Tm := .sl "none" (.int 0) (.int 0)
def pairT (a b : Tm) : Tm := .sl "pair" a b
def topT (ts : List Tm) : Tm :=
  if h : ts.length < 2 then ts.headD nonT else pairT (topT (ts.take (splitN ts.length))) (topT (ts.drop (splitN ts.length)))
termination_by ts.length
decreasing_by
  · rw [List.length_take]
    have := splitN_lt (n := ts.length) (by omega)
    omega
  · rw [List.length_drop]
    have := splitN_pos ts.length
    omega
theorem topT_nil : topT [] = nonT := by rw [topT]; rfl
theorem topT_one (t : Tm) : topT [t] = t := by rw [topT]; rfl
theorem topT_single {ts : List Tm} (h : ts.length = 1) : topT ts = ts.getD 0 nonT := by
  match ts, h with
  | [t], _ => exact topT_one t
theorem topT_more {ts : List Tm} (h : 2 ≤ ts.length) : topT ts = pairT (topT (ts.take (splitN ts.length))) (topT (ts.drop (splitN ts.length))) := by
  rw [topT, dif_neg (by omega)]
theorem topT_dep {d : Nat} : ∀ (k : Nat) (ts : List Tm), ts.length ≤ 2 ^ k → (∀ t ∈ ts, t.dep ≤ d) → (topT ts).dep ≤ d + k + 1
  | 0, [], _, _ => by rw [topT_nil]; show 0 + 1 ≤ _; omega
  | 0, [t], _, h => by rw [topT_one]; have := h t List.mem_cons_self; omega
  | 0, t :: u :: r, h, _ => by simp at h
  | k + 1, ts, hl, h => by
    by_cases h2 : 2 ≤ ts.length
    · rw [topT_more h2]
      obtain ⟨a, b⟩ := splitN_le_pow h2 hl
      have e1 := topT_dep k (ts.take (splitN ts.length)) (by rw [List.length_take]; omega) fun t ht => h t (List.mem_of_mem_take ht)
      have e2 := topT_dep k (ts.drop (splitN ts.length)) (by rw [List.length_drop]; omega) fun t ht => h t (List.mem_of_mem_drop ht)
      show max _ _ + 1 ≤ _
      omega
    · match ts, h2 with
      | [], _ => rw [topT_nil]; show 0 + 1 ≤ _; omega
      | [t], _ => rw [topT_one]; have := h t List.mem_cons_self; omega
      | t :: u :: r, h2 => exact absurd (show 2 ≤ (t :: u :: r).length by simp) h2
/-- how many tellings a top wants -/
def costT (n : Nat) : Nat := if n = 0 then 1 else n - 1
theorem costT_split {n : Nat} (h : 2 ≤ n) : costT (splitN n) + costT (n - splitN n) + 1 ≤ costT n := by
  have a := splitN_pos n
  have b := splitN_lt h
  unfold costT
  rw [if_neg (by omega), if_neg (by omega), if_neg (by omega)]
  omega
theorem costT_le (n : Nat) : costT n ≤ n + 1 := by
  unfold costT
  split <;> omega

/-! ### split and the top, by the law's own defs -/
section
variable {P : Program} {w : World} {K : PySem.W.Frag} {mg : Str → Option Value} {base : Heap} {Fam : Sys → Prop}
/-- a def of which nothing is asked -/
def spNo : Sp := fun _ _ _ _ => False
theorem cal_no {x : Str} {st : Stmt} {ps : List Str} (D : DefX K mg x st ps) (k : Nat) : Cal P w K mg base k x spNo [] := by
  obtain ⟨f, fd, F, m, b⟩ := D.ex
  exact ⟨f, fd, ps, [], ⟨fun _ _ _ _ h => h.elim, fun _ _ _ _ _ _ _ _ _ _ _ _ _ h => h.elim⟩, m, F.kp, .all b, .nil⟩
theorem cal_mono {x : Str} {j k : Nat} {sp : Sp} {dvs : List V} (c : Cal P w K mg base j x sp dvs) (h : j ≤ k) : Cal P w K mg base k x sp dvs := by
  obtain ⟨f, fd, ps, ds, F, m, kp, b, v⟩ := c.ex
  exact ⟨f, fd, ps, ds, F.mono h, m, kp, b, v⟩
def spSplit : Sp := fun vs H Q _ => ∃ n : Nat, vs = [.int (n : Int)] ∧ 2 ≤ n ∧ n.log2 ≤ 100000 ∧ Q (.int ((splitN n : Nat) : Int)) H
theorem pow_cast (i : Nat) : (((2 ^ i : Nat) : Nat) : Int) = 2 ^ i := by
  rw [Int.natCast_pow]
  rfl
theorem ok_law_split {cc : Addr} (T : Txt K mg cc) : Cal P w K mg base 1 "_law_split" spSplit [] := by
  refine cal_of T.d__law_split sc__law_split (fun vs H Q E h => ?_) (fun f cdv A outer s H vs Q E hr h => ?_)
  · obtain ⟨n, rfl, _⟩ := h
    rfl
  obtain ⟨n, rfl, h2, hl, q⟩ := h
  refine ⟨_, (pss_cons (ps_set (i := 1) sc__law_split.nd rfl (Or.inl rfl) pe_int)
  (pss_cons (ps_while PassesOwn.never (pt_cmpR op_lt (pe_op op_mul (pv 1) pe_int) (pv 0) (nomark _)) (pss_one (ps_set (i := 1) sc__law_split.nd rfl (Or.inl rfl) (pe_op op_mul (pv 1) pe_int))))
  (pss_one (ps_ret (pv 1))))), ?_⟩
  refine ⟨fun m σ H' => ∃ i : Nat, m = n - 2 ^ i ∧ 2 ^ i < n ∧ σ = [some (.int (n : Int)), some (.int ((2 ^ i : Nat) : Int))] ∧ H' = H, ⟨_, 0, rfl, by simp; omega, rfl, rfl⟩, ?_⟩
  rintro m σ H' ⟨i, rfl, hi, rfl, rfl⟩
  have cm : CMul ((2 ^ i : Nat) : Int) 2 := .inr ⟨by decide, by decide⟩
  refine ⟨_, rfl, _, 2, rfl, rfl, cm, _, rfl, _, _, rfl, rfl, _, rfl, ite2 (fun c => ?_) (fun c => ?_)⟩
  · have c' : ((2 ^ i : Nat) : Int) * 2 < (n : Int) := of_decide_eq_true c
    refine ⟨fun σ' H'' => ∃ j : Nat, j = i + 1 ∧ σ' = [some (.int (n : Int)), some (.int ((2 ^ j : Nat) : Int))] ∧ H'' = H', fun σ' H'' ⟨j, ej, es, eh⟩ => ⟨n - 2 ^ j, ?_, j, rfl, ?_, es, eh⟩, ?_⟩
    · subst ej
      rw [Nat.pow_succ]
      have := Nat.two_pow_pos i
      omega
    · subst ej
      rw [Nat.pow_succ]
      omega
    · refine ⟨_, rfl, _, 2, rfl, rfl, cm, i + 1, rfl, ?_, rfl⟩
      have e : ((2 ^ i : Nat) : Int) * 2 = ((2 ^ (i + 1) : Nat) : Int) := by
        rw [Nat.pow_succ]
        omega
      show [some (V.int (n : Int)), some (V.int (((2 ^ i : Nat) : Int) * 2))] = _
      rw [e]
  · have c' : ¬ ((2 ^ i : Nat) : Int) * 2 < (n : Int) := of_decide_eq_false (Bool.eq_false_iff.mpr c)
    have e : splitN n = 2 ^ i := splitN_of hi (by omega)
    rw [e] at q
    exact ⟨_, rfl, q⟩
/-- the top of a row of leaves: two to the k of them at most -/
def spTop (K : PySem.W.Frag) (Fam : Sys → Prop) (k : Nat) : Sp := fun vs H Q _ => ∃ (S : Sys) (a : Addr) (xs : List V) (ts : List Tm) (r : Nat), Fam S ∧ vs = [.ref S.f, .ref a] ∧ SqL K H a xs ∧ DenL S H xs ts ∧ k ≠ 0 ∧ ts.length ≤ 2 ^ (k - 1) ∧ ts.length ≤ 1000 ∧ S.ok H (r + costT ts.length) ∧
  ∀ v H', Ext H H' → S.ok H' r → S.den H' v (topT ts) → Q v H'
theorem atI_den {S : Sys} {H : Hp} {xs : List V} {ts : List Tm} (h : DenL S H xs ts) {i : Int} (h0 : 0 ≤ i) (h1 : i < (ts.length : Int)) : ∃ v, atI xs i = some v ∧ S.den H v (ts.getD i.toNat nonT) := by
  have hi : i.toNat < ts.length := by omega
  obtain ⟨v, e, d⟩ := h.get hi
  refine ⟨v, at_of (j := i.toNat) (by omega) e, ?_⟩
  rw [List.getD_eq_getElem?_getD, List.getElem?_eq_getElem hi]
  exact d
theorem ok_law_top1 {cc : Addr} {k : Nat} (T : Txt K mg cc) (A : SlA P w K mg base Fam) (C__law_top : Cal P w K mg base (k + 2) "_law_top" (spTop K Fam k) []) : Cal P w K mg base (k + 3) "_law_top" (spTop K Fam (k + 1)) [] := by
  have Z := T.Z
  have C__law_split := ok_law_split (P := P) (w := w) (base := base) T
  refine cal_of T.d__law_top sc__law_top (fun vs H Q E h => ?_) (fun f cdv A' outer s H vs Q E hr h => ?_)
  · obtain ⟨S, a, xs, ts, r, _, rfl, _⟩ := h
    rfl
  obtain ⟨S, a, xs, ts, r, hF, rfl, hS, hD, _, hk, hl, hok, q⟩ := h
  have hlen := hD.len
  have G := A.good hF
  refine ⟨_, (pss_cons (ps_if (pt_cmpR op_eq (pe_callB call_len_seq rfl Z.len PySem.boot_len (pa_cons (pv 1) pa_nil)) pe_int (nomark _)) (pss_one (ps_ret (pe_sl (i := 0) A.held hr (by omega) rfl (by first | exact Or.inl rfl | exact Or.inr (Or.inl rfl) | exact Or.inr (Or.inr rfl)) (pa_cons pe_str (pa_cons pe_int (pa_cons pe_int pa_nil)))))) pss_nil)
  (pss_cons (ps_if (pt_cmpR op_eq (pe_callB call_len_seq rfl Z.len PySem.boot_len (pa_cons (pv 1) pa_nil)) pe_int (nomark _)) (pss_one (ps_ret (pe_ix ix_list (pv 1) pe_int (fun _ _ => rfl)))) pss_nil)
  (pss_cons (ps_set (i := 2) sc__law_top.nd rfl (Or.inl rfl) (pe_c C__law_split hr (by omega) rfl (pa_cons (pe_callB call_len_seq rfl Z.len PySem.boot_len (pa_cons (pv 1) pa_nil)) pa_nil)))
  (pss_one (ps_ret (pe_sl (i := 0) A.held hr (by omega) rfl (by first | exact Or.inl rfl | exact Or.inr (Or.inl rfl) | exact Or.inr (Or.inr rfl)) (pa_cons pe_str (pa_cons (pe_c C__law_top hr (by omega) rfl (pa_cons (pv 0) (pa_cons (pe_slice sl_list (pv 1) po_none (po_some (pv 2))) pa_nil))) (pa_cons (pe_c C__law_top hr (by omega) rfl (pa_cons (pv 0) (pa_cons (pe_slice sl_list (pv 1) (po_some (pv 2)) po_none) pa_nil))) pa_nil))))))))), ?_⟩
  -- no leaf
  refine ⟨_, rfl, a, _, rfl, .inl hS, rfl, _, rfl, ite2 (fun c => ?_) (fun c => ?_)⟩
  · have c' : (xs.length : Int) = 0 := V.int.inj (of_decide_eq_true c)
    have e : ts = [] := List.eq_nil_of_length_eq_zero (by omega)
    subst e
    refine ⟨S, _, hF, rfl, hok, r, "none", .int 0, .int 0, _, _, rfl, by decide +kernel, hok, G.int 0 hok, G.int 0 hok, fun v H' e ok d => q v H' e ok ?_⟩
    rw [topT_nil]
    exact d
  have n0 : xs.length ≠ 0 := fun z => c (decide_eq_true (by rw [z]; rfl))
  -- one
  refine ⟨_, rfl, a, _, rfl, .inl hS, rfl, _, rfl, ite2 (fun c => ?_) (fun c => ?_)⟩
  · have c' : (xs.length : Int) = 1 := V.int.inj (of_decide_eq_true c)
    obtain ⟨v, hv, dv⟩ := atI_den hD (i := 0) (Int.le_refl 0) (by omega)
    refine ⟨_, rfl, a, xs, 0, v, rfl, rfl, hS, hv, q v H (Ext.refl H) ?_ ?_⟩
    · refine G.less hok ?_
      omega
    · rw [topT_single (by omega)]
      exact dv
  have n1 : xs.length ≠ 1 := fun z => c (decide_eq_true (by rw [z]; rfl))
  -- more
  have h2 : 2 ≤ ts.length := by omega
  have hsl := splitN_lt h2
  have hsp := splitN_pos ts.length
  have hk1 : ts.length ≤ 2 ^ k := hk
  obtain ⟨k', rfl⟩ : ∃ k', k = k' + 1 := by
    cases k with
    | zero => simp at hk1; omega
    | succ k' => exact ⟨k', rfl⟩
  obtain ⟨b1, b2⟩ := splitN_le_pow h2 hk1
  have hcs := costT_split h2
  have lg := Nat.log2_le_self ts.length
  refine ⟨_, rfl, a, _, rfl, .inl hS, ts.length, by rw [hlen] <;> rfl, h2, by omega, ?_⟩
  refine ⟨S, _, hF, rfl, hok, ?_⟩
  -- the first part
  refine ⟨_, rfl, _, rfl, _, rfl, ((splitN ts.length : Nat) : Int), rfl, a, _, rfl, hS, fun p hp => ?_⟩
  rw [cut_to]
  have x1 := Ext.new (o := .lst (xs.take (splitN ts.length))) hp
  have k1 := Kp.new (o := .lst (xs.take (splitN ts.length))) hp
  refine ⟨S, p, _, ts.take (splitN ts.length), r + 1 + costT (ts.length - splitN ts.length), hF, rfl, SqL.of upd_same, (hD.take _).mono G k1.gr, by omega, ?_, ?_, ?_, fun v1 H1 x2 ok1 d1 => ?_⟩
  · rw [List.length_take]
    show _ ≤ 2 ^ k'
    omega
  · rw [List.length_take]
    omega
  · rw [List.length_take, Nat.min_eq_left (by omega)]
    exact G.less (G.keep k1 hok) (by omega)
  -- the rest
  have xx := x1.trans x2
  refine ⟨_, rfl, _, rfl, _, rfl, ((splitN ts.length : Nat) : Int), rfl, a, _, rfl, xx.seq hS, fun p2 hp2 => ?_⟩
  rw [cut_from]
  have x3 := Ext.new (o := .lst (xs.drop (splitN ts.length))) hp2
  have k3 := Kp.new (o := .lst (xs.drop (splitN ts.length))) hp2
  refine ⟨S, p2, _, ts.drop (splitN ts.length), r + 1, hF, rfl, SqL.of upd_same, ((hD.drop _).mono G xx.gr).mono G k3.gr, by omega, ?_, ?_, ?_, fun v2 H2 x4 ok2 d2 => ?_⟩
  · rw [List.length_drop]
    show _ ≤ 2 ^ k'
    omega
  · rw [List.length_drop]
    omega
  · rw [List.length_drop]
    exact G.keep k3 ok1
  refine ⟨r, "pair", topT (ts.take (splitN ts.length)), topT (ts.drop (splitN ts.length)), _, _, rfl, by decide +kernel, ok2, G.mono (x3.trans x4).gr d1, d2, fun v H' x5 ok3 d3 => ?_⟩
  refine q v H' (((xx.trans x3).trans x4).trans x5) ok3 ?_
  rw [topT_more h2]
  exact d3
theorem ok_law_top {cc : Addr} (T : Txt K mg cc) (A : SlA P w K mg base Fam) : ∀ k : Nat, Cal P w K mg base (k + 2) "_law_top" (spTop K Fam k) []
  | 0 => by
    obtain ⟨f, fd, ps, ds, F, m, kp, b, v⟩ := (cal_no (P := P) (w := w) (base := base) T.d__law_top 2).ex
    exact ⟨f, fd, ps, ds, F.imp fun vs H Q E h => by obtain ⟨_, _, _, _, _, _, _, _, _, z, _⟩ := h; exact absurd rfl z, m, kp, b, v⟩
  | k + 1 => ok_law_top1 T A (ok_law_top T A k)
end


/-! ### the program's seals and tops -/
section
variable {P : Program} {w : World} {K : PySem.W.Frag} {mg : Str → Option Value} {base : Heap} {Fam : Sys → Prop}
def spNone (Fam : Sys → Prop) : Sp := fun vs H Q _ => ∃ (S : Sys) (r : Nat), Fam S ∧ vs = [.ref S.f] ∧ S.ok H (r + 1) ∧ ∀ v H', Ext H H' → S.ok H' r → S.den H' v nonT → Q v H'
theorem ok_none_seal {cc : Addr} (T : Txt K mg cc) (A : SlA P w K mg base Fam) : Cal P w K mg base 2 "none_seal" (spNone Fam) [] := by
  refine cal_of T.d_none_seal sc_none_seal (fun vs H Q E h => ?_) (fun f cdv A' outer s H vs Q E hr h => ?_)
  · obtain ⟨S, r, _, rfl, _⟩ := h
    rfl
  obtain ⟨S, r, hF, rfl, hok, q⟩ := h
  have G := A.good hF
  refine ⟨_, (pss_one (ps_ret (pe_sl (i := 0) A.held hr (by omega) rfl (by first | exact Or.inl rfl | exact Or.inr (Or.inl rfl) | exact Or.inr (Or.inr rfl)) (pa_cons pe_str (pa_cons pe_int (pa_cons pe_int pa_nil)))))), ?_⟩
  exact ⟨S, _, hF, rfl, hok, r, "none", .int 0, .int 0, _, _, rfl, by decide +kernel, hok, G.int 0 hok, G.int 0 hok, fun v H' e ok d => q v H' e ok d⟩
def spPair (Fam : Sys → Prop) : Sp := fun vs H Q _ => ∃ (S : Sys) (va vb : V) (a b : Tm) (r : Nat), Fam S ∧ vs = [.ref S.f, va, vb] ∧ S.ok H (r + 1) ∧ S.den H va a ∧ S.den H vb b ∧ ∀ v H', Ext H H' → S.ok H' r → S.den H' v (pairT a b) → Q v H'
theorem ok_pair_seal {cc : Addr} (T : Txt K mg cc) (A : SlA P w K mg base Fam) : Cal P w K mg base 2 "pair_seal" (spPair Fam) [] := by
  refine cal_of T.d_pair_seal sc_pair_seal (fun vs H Q E h => ?_) (fun f cdv A' outer s H vs Q E hr h => ?_)
  · obtain ⟨S, va, vb, a, b, r, _, rfl, _⟩ := h
    rfl
  obtain ⟨S, va, vb, a, b, r, hF, rfl, hok, ha, hb, q⟩ := h
  refine ⟨_, (pss_one (ps_ret (pe_sl (i := 0) A.held hr (by omega) rfl (by first | exact Or.inl rfl | exact Or.inr (Or.inl rfl) | exact Or.inr (Or.inr rfl)) (pa_cons pe_str (pa_cons (pv 1) (pa_cons (pv 2) pa_nil)))))), ?_⟩
  exact ⟨S, _, hF, rfl, hok, _, rfl, _, rfl, r, "pair", a, b, _, _, rfl, by decide +kernel, hok, ha, hb, fun v H' e ok d => q v H' e ok d⟩
theorem ok_split {cc : Addr} (T : Txt K mg cc) : Cal P w K mg base 1 "split" spSplit [] := by
  refine cal_of T.d_split sc_split (fun vs H Q E h => ?_) (fun f cdv A outer s H vs Q E hr h => ?_)
  · obtain ⟨n, rfl, _⟩ := h
    rfl
  obtain ⟨n, rfl, h2, hl, q⟩ := h
  refine ⟨_, (pss_one (ps_ret (pe_op op_shl pe_int (pe_op op_sub (pe_bits (pe_op op_sub (pv 0) pe_int)) pe_int)))), ?_⟩
  have h0 : n - 1 ≠ 0 := by omega
  have lg : (n - 1).log2 ≤ n.log2 := by
    refine (Nat.le_log2 (by omega)).mpr ?_
    have := Nat.log2_self_le h0
    omega
  have e1 : ((Builtin.Int.intBits ((n : Int) - 1) : Nat) : Int) - 1 = (((n - 1).log2 : Nat) : Int) := by
    have e2 : (n : Int) - 1 = ((n - 1 : Nat) : Int) := by omega
    rw [e2]
    unfold Builtin.Int.intBits
    have e3 : (((n - 1 : Nat) : Int) == 0) = false := by
      rw [beq_eq_false_iff_ne]
      omega
    rw [e3]
    show ((((n - 1 : Nat) : Int).natAbs.log2 + 1 : Nat) : Int) - 1 = _
    rw [Int.natAbs_natCast]
    omega
  refine ⟨_, rfl, _, 1, rfl, rfl, (n : Int) - 1, rfl, _, 1, rfl, rfl, 1, _, rfl, rfl, ?_, ?_⟩
  · rw [e1]
    exact ⟨by omega, by omega, by decide⟩
  · rw [e1]
    show Q (.int (1 * 2 ^ ((((n - 1).log2 : Nat) : Int)).toNat)) H
    rw [Int.toNat_natCast, Int.one_mul, ← pow_cast]
    exact q
theorem ok_top_of1 {cc : Addr} {k : Nat} (T : Txt K mg cc) (A : SlA P w K mg base Fam) (C_top_of : Cal P w K mg base (k + 3) "top_of" (spTop K Fam k) []) : Cal P w K mg base (k + 4) "top_of" (spTop K Fam (k + 1)) [] := by
  have Z := T.Z
  have C_split := ok_split (P := P) (w := w) (base := base) T
  have C_none_seal := ok_none_seal T A
  have C_pair_seal := ok_pair_seal T A
  refine cal_of T.d_top_of sc_top_of (fun vs H Q E h => ?_) (fun f cdv A' outer s H vs Q E hr h => ?_)
  · obtain ⟨S, a, xs, ts, r, _, rfl, _⟩ := h
    rfl
  obtain ⟨S, a, xs, ts, r, hF, rfl, hS, hD, _, hk, hl, hok, q⟩ := h
  have hlen := hD.len
  have G := A.good hF
  refine ⟨_, (pss_cons (ps_if (pt_cmpR op_eq (pe_callB call_len_seq rfl Z.len PySem.boot_len (pa_cons (pv 1) pa_nil)) pe_int (nomark _)) (pss_one (ps_ret (pe_c C_none_seal hr (by omega) rfl (pa_cons (pv 0) pa_nil)))) pss_nil)
  (pss_cons (ps_if (pt_cmpR op_eq (pe_callB call_len_seq rfl Z.len PySem.boot_len (pa_cons (pv 1) pa_nil)) pe_int (nomark _)) (pss_one (ps_ret (pe_ix ix_list (pv 1) pe_int (fun _ _ => rfl)))) pss_nil)
  (pss_cons (ps_set (i := 2) sc_top_of.nd rfl (Or.inl rfl) (pe_c C_split hr (by omega) rfl (pa_cons (pe_callB call_len_seq rfl Z.len PySem.boot_len (pa_cons (pv 1) pa_nil)) pa_nil)))
  (pss_one (ps_ret (pe_c C_pair_seal hr (by omega) rfl (pa_cons (pv 0) (pa_cons (pe_c C_top_of hr (by omega) rfl (pa_cons (pv 0) (pa_cons (pe_slice sl_list (pv 1) po_none (po_some (pv 2))) pa_nil))) (pa_cons (pe_c C_top_of hr (by omega) rfl (pa_cons (pv 0) (pa_cons (pe_slice sl_list (pv 1) (po_some (pv 2)) po_none) pa_nil))) pa_nil))))))))), ?_⟩
  -- no leaf
  refine ⟨_, rfl, a, _, rfl, .inl hS, rfl, _, rfl, ite2 (fun c => ?_) (fun c => ?_)⟩
  · have c' : (xs.length : Int) = 0 := V.int.inj (of_decide_eq_true c)
    have e : ts = [] := List.eq_nil_of_length_eq_zero (by omega)
    subst e
    refine ⟨_, rfl, S, r, hF, rfl, hok, fun v H' e ok d => q v H' e ok ?_⟩
    rw [topT_nil]
    exact d
  have n0 : xs.length ≠ 0 := fun z => c (decide_eq_true (by rw [z]; rfl))
  -- one
  refine ⟨_, rfl, a, _, rfl, .inl hS, rfl, _, rfl, ite2 (fun c => ?_) (fun c => ?_)⟩
  · have c' : (xs.length : Int) = 1 := V.int.inj (of_decide_eq_true c)
    obtain ⟨v, hv, dv⟩ := atI_den hD (i := 0) (Int.le_refl 0) (by omega)
    refine ⟨_, rfl, a, xs, 0, v, rfl, rfl, hS, hv, q v H (Ext.refl H) ?_ ?_⟩
    · refine G.less hok ?_
      omega
    · rw [topT_single (by omega)]
      exact dv
  have n1 : xs.length ≠ 1 := fun z => c (decide_eq_true (by rw [z]; rfl))
  -- more
  have h2 : 2 ≤ ts.length := by omega
  have hsl := splitN_lt h2
  have hsp := splitN_pos ts.length
  have hk1 : ts.length ≤ 2 ^ k := hk
  obtain ⟨k', rfl⟩ : ∃ k', k = k' + 1 := by
    cases k with
    | zero => simp at hk1; omega
    | succ k' => exact ⟨k', rfl⟩
  obtain ⟨b1, b2⟩ := splitN_le_pow h2 hk1
  have hcs := costT_split h2
  have lg := Nat.log2_le_self ts.length
  refine ⟨_, rfl, a, _, rfl, .inl hS, ts.length, by rw [hlen] <;> rfl, h2, by omega, ?_⟩
  refine ⟨_, rfl, ?_⟩
  -- the first part
  refine ⟨_, rfl, _, rfl, _, rfl, ((splitN ts.length : Nat) : Int), rfl, a, _, rfl, hS, fun p hp => ?_⟩
  rw [cut_to]
  have x1 := Ext.new (o := .lst (xs.take (splitN ts.length))) hp
  have k1 := Kp.new (o := .lst (xs.take (splitN ts.length))) hp
  refine ⟨S, p, _, ts.take (splitN ts.length), r + 1 + costT (ts.length - splitN ts.length), hF, rfl, SqL.of upd_same, (hD.take _).mono G k1.gr, by omega, ?_, ?_, ?_, fun v1 H1 x2 ok1 d1 => ?_⟩
  · rw [List.length_take]
    show _ ≤ 2 ^ k'
    omega
  · rw [List.length_take]
    omega
  · rw [List.length_take, Nat.min_eq_left (by omega)]
    exact G.less (G.keep k1 hok) (by omega)
  -- the rest
  have xx := x1.trans x2
  refine ⟨_, rfl, _, rfl, _, rfl, ((splitN ts.length : Nat) : Int), rfl, a, _, rfl, xx.seq hS, fun p2 hp2 => ?_⟩
  rw [cut_from]
  have x3 := Ext.new (o := .lst (xs.drop (splitN ts.length))) hp2
  have k3 := Kp.new (o := .lst (xs.drop (splitN ts.length))) hp2
  refine ⟨S, p2, _, ts.drop (splitN ts.length), r + 1, hF, rfl, SqL.of upd_same, ((hD.drop _).mono G xx.gr).mono G k3.gr, by omega, ?_, ?_, ?_, fun v2 H2 x4 ok2 d2 => ?_⟩
  · rw [List.length_drop]
    show _ ≤ 2 ^ k'
    omega
  · rw [List.length_drop]
    omega
  · rw [List.length_drop]
    exact G.keep k3 ok1
  refine ⟨S, _, _, topT (ts.take (splitN ts.length)), topT (ts.drop (splitN ts.length)), r, hF, rfl, ok2, G.mono (x3.trans x4).gr d1, d2, fun v H' x5 ok3 d3 => ?_⟩
  refine q v H' (((xx.trans x3).trans x4).trans x5) ok3 ?_
  rw [topT_more h2]
  exact d3
theorem ok_top_of {cc : Addr} (T : Txt K mg cc) (A : SlA P w K mg base Fam) : ∀ k : Nat, Cal P w K mg base (k + 3) "top_of" (spTop K Fam k) []
  | 0 => by
    obtain ⟨f, fd, ps, ds, F, m, kp, b, v⟩ := (cal_no (P := P) (w := w) (base := base) T.d_top_of 3).ex
    exact ⟨f, fd, ps, ds, F.imp fun vs H Q E h => by obtain ⟨_, _, _, _, _, _, _, _, _, z, _⟩ := h; exact absurd rfl z, m, kp, b, v⟩
  | k + 1 => ok_top_of1 T A (ok_top_of T A k)
end

/-! ### the law's leaves -/
section
variable {P : Program} {w : World} {K : PySem.W.Frag} {mg : Str → Option Value} {base : Heap} {Fam : Sys → Prop}
theorem txtOk_app {x y : Str} (h : txtOk x = true) (h' : txtOk y = true) : txtOk (x ++ y) = true := by
  have e : (x ++ y).cps = x.cps ++ y.cps := rfl
  unfold txtOk PySem.PyData.strOk at *
  rw [e, Array.all_append, h, h']
  rfl
theorem dig90 : ∀ n : Nat, n < 90 → txtOk (toString (n : Int)) = true ∧ (toString (n : Int) : Str).length ≤ 2 := by decide +kernel
/-- n things in one another's stead -/
theorem rep_mem {α : Type} {n : Nat} {l : List α} {x : α} (h : x ∈ (List.replicate n l).flatten) : x ∈ l := by
  obtain ⟨k, hk, hx⟩ := List.mem_flatten.mp h
  rw [List.eq_of_mem_replicate hk] at hx
  exact hx
theorem DenL.rep {S : Sys} {H : Hp} {vs : List V} {ts : List Tm} (h : DenL S H vs ts) : ∀ n : Nat, DenL S H (List.replicate n vs).flatten (List.replicate n ts).flatten
  | 0 => DenL.nil
  | n + 1 => by
    rw [List.replicate_succ, List.flatten_cons, List.replicate_succ, List.flatten_cons]
    exact h.append (DenL.rep h n)
def spLeaves (K : PySem.W.Frag) (Fam : Sys → Prop) : Sp := fun vs H Q _ => ∃ (S : Sys) (a : Addr) (ns : List Int) (r : Nat), Fam S ∧ vs = [.ref S.f, .ref a] ∧ SqL K H a (ns.map V.int) ∧ ns.length ≤ 63 ∧ S.ok H (r + 63) ∧
  ∀ p ys ts H', Ext H H' → H p = none → H' p = some (.lst ys) → S.ok H' r → DenL S H' ys ts → ns.length ≤ ts.length → ts.length ≤ 400 → (∀ t ∈ ts, t.dep ≤ 1) → Q (.ref p) H'
theorem ok_leaves {cc : Addr} (T : Txt K mg cc) (A : SlA P w K mg base Fam) : Cal P w K mg base 2 "_law_leaves" (spLeaves K Fam) [] := by
  have Z := T.Z
  have C__law_cell_at := ok_cell_at (P := P) (w := w) (base := base) T
  refine cal_of T.d__law_leaves sc__law_leaves (fun vs H Q E h => ?_) (fun f cdv A' outer s H vs Q E hr h => ?_)
  · obtain ⟨S, a, ns, r, _, rfl, _⟩ := h
    rfl
  obtain ⟨S, a, ns, r, hF, rfl, hS, hl, hok, q⟩ := h
  have G := A.good hF
  refine ⟨_, (pss_cons (ps_setLc (i := 2) (own := [("_law_cell", 3)]) (g := gName 3) (tt := tYes) rfl sc__law_leaves.nd rfl rfl (sw_true rfl rfl rfl (by decide +kernel)) (pi_list (pv 1)) (blkOk_by (N := N__law_leaves) (sc := defScope s__law_leaves) (by decide +kernel)) (fun _ _ _ _ _ => (pg_name (i := 3) sc__law_leaves.nd rfl (Or.inl rfl))) (fun _ _ _ _ _ => pts_nil) (fun _ _ _ _ _ => (pe_sl (i := 0) A.held hr (by omega) rfl (by first | exact Or.inl rfl | exact Or.inr (Or.inl rfl) | exact Or.inr (Or.inr rfl)) (pa_cons pe_str (pa_cons (pe_op op_add_str pe_str (pe_callTy call_str_int rfl Z.str (by decide +kernel) (pa_cons (pe_op op_mod (pv 3) pe_int) pa_nil))) (pa_cons (pe_op op_mod (pe_op op_fdiv (pv 3) pe_int) pe_int) pa_nil))))))
  (pss_cons (ps_if (pt_cmpR op_eq (pe_op op_mod (pe_c C__law_cell_at hr (by omega) rfl (pa_cons (pv 1) (pa_cons pe_int pa_nil))) pe_int) pe_int (nomark _)) (pss_one (ps_set (i := 2) sc__law_leaves.nd rfl (Or.inl rfl) (pe_op op_cat (pv 2) (pe_op op_rep (pe_slice sl_list (pv 2) po_none (po_some pe_int)) (pe_op op_mod (pe_c C__law_cell_at hr (by omega) rfl (pa_cons (pv 1) (pa_cons pe_int pa_nil))) (pe_ifExp (pt_cmpR op_eq (pe_op op_mod (pe_c C__law_cell_at hr (by omega) rfl (pa_cons (pv 1) (pa_cons pe_int pa_nil))) pe_int) pe_int (nomark _)) pe_int pe_int)))))) pss_nil)
  (pss_one (ps_ret (pv 2))))), ?_⟩
  refine ⟨_, rfl, a, rfl, ⟨_, hS⟩, fun D nD => ?_⟩
  refine lc_list (K := K) (a := a) (xs := ns.map V.int) (fun i H' => ∃ ys ts, ts.length = i ∧ Ext H H' ∧ H' D = some (.lst ys) ∧ S.ok H' (r + 63 - i) ∧ DenL S H' ys ts ∧ ∀ t ∈ ts, t.dep ≤ 1)
    ⟨[], [], rfl, Ext.new nD, upd_same, G.less (G.keep (Kp.new nD) hok) (by omega), DenL.nil, fun _ h => by cases h⟩ (fun i H' _ ⟨_, _, _, x, _⟩ => x.seq hS) ?_ ?_
  · rintro i y H' hi ⟨ys, ts, rfl, x, hD, hok', hd, hdep⟩
    obtain ⟨z, hz, rfl⟩ : ∃ z, ns[ts.length]? = some z ∧ y = V.int z := by
      rw [List.getElem?_map] at hi
      cases e : ns[ts.length]? with
      | none => rw [e] at hi; cases hi
      | some z => rw [e] at hi; exact ⟨z, rfl, (Option.some.inj hi).symm⟩
    have hlt : ts.length < ns.length := by
      obtain ⟨h, _⟩ := List.getElem?_eq_some_iff.mp hz
      exact h
    obtain ⟨m, hm⟩ := Int.eq_ofNat_of_zero_le (Int.emod_nonneg z (show (90 : Int) ≠ 0 by decide))
    have hm90 : m < 90 := by
      have := Int.emod_lt_of_pos z (show (0 : Int) < 90 by decide)
      omega
    obtain ⟨d1, d2⟩ := dig90 m hm90
    refine ⟨rfl, S, _, hF, rfl, hok', _, rfl, z, 90, rfl, rfl, (by show (0 : Int) < 90; decide), z % 90, rfl, ?_, _, _, rfl, rfl, ?_, ?_⟩
    · rw [hm, Int.natAbs_natCast]
      have : m.log2 ≤ m := Nat.log2_le_self m
      omega
    · rw [hm]
      have e1 : ("t" : Str).length = 1 := rfl
      rw [e1, sizeLine_eq]
      omega
    have hr1 : r + 63 - ts.length = (r + 63 - (ts.length + 1)) + 1 := by omega
    refine ⟨_, rfl, z, 90, rfl, rfl, ⟨by decide, by decide⟩, _, 3, rfl, rfl, (by show (0 : Int) < 3; decide), r + 63 - (ts.length + 1), "leaf", .str ("t" ++ toString (z % 90)), .int (z / 90 % 3), _, _, rfl, by decide +kernel, by rw [← hr1]; exact hok', G.str _ hok' ?_, G.int _ hok', fun v H2 x2 ok2 dv => ?_⟩
    · rw [hm]
      exact txtOk_app (by decide +kernel) d1
    have hl2 := hd.len
    have hD2 : H2 D = some (.lst ys) := x2.lst hD
    refine ⟨ys, hD2, by rw [hl2, sizeLine_eq]; omega, ys ++ [v], ts ++ [.sl "leaf" (.str ("t" ++ toString (z % 90))) (.int (z / 90 % 3))], by simp, (x.trans x2).mut nD, upd_same, G.keep (Kp.lst hD2) ok2, ?_, fun t ht => ?_⟩
    · exact (hd.mono G (x2.gr.trans (Kp.lst hD2).gr)).append (DenL.one (G.mono (Kp.lst hD2).gr dv))
    · rcases List.mem_append.mp ht with h | h
      · exact hdep t h
      · rw [List.mem_singleton.mp h]
        exact Nat.le_refl _
  · rintro H1 ⟨ys, ts, hts, x, hD, hok1, hd, hdep⟩
    rw [List.length_map] at hts
    have hok2 : S.ok H1 r := G.less hok1 (by rw [List.length_map]; omega)
    have hl2 := hd.len
    refine ⟨_, rfl, a, ns, 0, rfl, x.seq hS, Int.le_refl 0, _, 5, rfl, rfl, (by show (0 : Int) < 5; decide), rfl, _, rfl, ite2 (fun _ => ?_) (fun _ => ?_)⟩
    · refine ⟨_, rfl, _, rfl, 1, rfl, D, _, rfl, SqL.of hD, fun p hp => ?_⟩
      rw [show (1 : Int) = ((1 : Nat) : Int) from rfl, cut_to]
      have x1 : Ext H1 (upd H1 p (.lst (ys.take 1))) := Ext.new hp
      have mid : ∀ (n : Int) (R : VK), 0 ≤ n → n < 290 → (∀ x H3, Q x H3 → R x H3) → (rRep (.ref p) (.int n) (upd H1 p (.lst (ys.take 1))) fun x H2 => rCat (.ref D) x H2 R) := fun n R h0 h1 hR => by
        refine ⟨p, n, ys.take 1, rfl, rfl, upd_same, by omega, by omega, ?_, fun p2 hp2 => ?_⟩
        · rw [List.length_take, sizeLine_eq]
          have : min 1 ys.length * n.toNat ≤ 1 * n.toNat := Nat.mul_le_mul_right _ (Nat.min_le_left _ _)
          omega
        have x2 : Ext (upd H1 p (.lst (ys.take 1))) (upd (upd H1 p (.lst (ys.take 1))) p2 (.lst (List.replicate n.toNat (ys.take 1)).flatten)) := Ext.new hp2
        have hlf : (List.replicate n.toNat (ys.take 1)).flatten.length ≤ 290 := by
          rw [List.length_flatten, List.map_replicate, List.sum_replicate_nat, List.length_take]
          have : n.toNat * min 1 ys.length ≤ n.toNat * 1 := Nat.mul_le_mul_left _ (Nat.min_le_left _ _)
          omega
        refine ⟨D, p2, ys, _, rfl, rfl, x2.lst (x1.lst hD), upd_same, by rw [sizeLine_eq]; omega, fun p3 hp3 => ?_⟩
        have x3 : Ext (upd (upd H1 p (.lst (ys.take 1))) p2 (.lst (List.replicate n.toNat (ys.take 1)).flatten)) (upd (upd (upd H1 p (.lst (ys.take 1))) p2 (.lst (List.replicate n.toNat (ys.take 1)).flatten)) p3 (.lst (ys ++ (List.replicate n.toNat (ys.take 1)).flatten))) := Ext.new hp3
        have kk := ((Kp.new (o := .lst (ys.take 1)) hp).trans (Kp.new (o := .lst (List.replicate n.toNat (ys.take 1)).flatten) hp2)).trans (Kp.new (o := .lst (ys ++ (List.replicate n.toNat (ys.take 1)).flatten)) hp3)
        have dd := hd.append ((hd.take 1).rep n.toNat)
        refine hR _ _ (q p3 _ (ts ++ (List.replicate n.toNat (ts.take 1)).flatten) _ (((x.trans x1).trans x2).trans x3) (((x.trans x1).trans x2).free hp3) upd_same (G.keep kk hok2) (dd.mono G kk.gr) ?_ ?_ ?_)
        · rw [List.length_append]
          omega
        · rw [← dd.len, List.length_append]
          omega
        · intro t ht
          rcases List.mem_append.mp ht with h | h
          · exact hdep t h
          · exact hdep t (List.mem_of_mem_take (rep_mem h))
      refine ⟨_, rfl, a, ns, 1, rfl, x1.seq (x.seq hS), by decide, _, rfl, a, ns, 2, rfl, x1.seq (x.seq hS), by decide, _, 5, rfl, rfl, (by show (0 : Int) < 5; decide), rfl, _, rfl, ite2 (fun _ => ?_) (fun _ => ?_)⟩
      · refine ⟨_, 290, rfl, rfl, (by show (0 : Int) < 290; decide), mid _ _ (Int.emod_nonneg _ (by decide)) (Int.emod_lt_of_pos _ (by decide)) fun x H3 hq => ⟨_, rfl, hq⟩⟩
      · refine ⟨_, 60, rfl, rfl, (by show (0 : Int) < 60; decide), mid _ _ (Int.emod_nonneg _ (by decide)) (Int.lt_of_lt_of_le (Int.emod_lt_of_pos _ (by decide)) (by decide)) fun x H3 hq => ⟨_, rfl, hq⟩⟩

    · exact ⟨_, rfl, q D ys ts H1 x nD hD hok2 hd (by omega) (by omega) hdep⟩
end

/-! ### for the law: equal things are seen equal; the head -/
section
variable {K : PySem.W.Frag} {H : Hp} {S : Sys}
theorem shaped_of {d : PyData} (h : d.canLay0 = true) (hd : d.depth ≤ 64) : SeqAt.shaped d = true := by
  unfold SeqAt.shaped
  rw [h, decide_eq_true hd]
  rfl
theorem eqv_self {d : PyData} (h : d.canLay0 = true) : PyData.eqv d d = true := SeqAt.eqv_refl d h
theorem eq_rows (G : S.Good K) {p p' : Addr} {xs ys : List V} {ts : List Tm} (hp : SqL K H p xs) (hp' : SqL K H p' ys) (h : DenL S H xs ts) (h' : DenL S H ys ts) (hd : ∀ t ∈ ts, t.dep ≤ 60) :
    ∃ d, Dp K H (.ref p) d ∧ Dp K H (.ref p') d ∧ SeqAt.shaped d = true ∧ PyData.eqv d d = true := by
  obtain ⟨ds, a, b, c, e⟩ := DenL.same G h h' hd
  have c' : (PyData.list ds).canLay0 = true := c
  exact ⟨.list ds, .lst hp a, .lst hp' b, shaped_of c' (by show PyData.depthAll ds + 1 ≤ 64; omega), eqv_self c'⟩
theorem eq_tm (G : S.Good K) {v v' : V} {t : Tm} (h : S.den H v t) (h' : S.den H v' t) (hd : t.dep ≤ 60) :
    ∃ d, Dp K H v d ∧ Dp K H v' d ∧ SeqAt.shaped d = true ∧ PyData.eqv d d = true := by
  obtain ⟨d, a, b, c, e⟩ := G.same h h'
  exact ⟨d, a, b, shaped_of c (by omega), eqv_self c⟩
theorem ext_seq {K : PySem.W.Frag} {H H' : Hp} {a : Addr} {xs : List V} (e : LamX.ExtN H H') (h : SqL K H a xs) : SqL K H' a xs := by
  rcases h with (h | ⟨o, h⟩) | h
  · exact .inl (.inl (e _ _ h fun _ z => nomatch z))
  · exact .inl (.inr ⟨o, e _ _ h fun _ z => nomatch z⟩)
  · exact .inr h
end
/-- a row's places -/
theorem map_int_mem {l : List Int} {x : V} (h : x ∈ l.map V.int) : ∃ z ∈ l, x = .int z := by
  obtain ⟨z, hz, e⟩ := List.mem_map.mp h
  exact ⟨z, hz, e.symm⟩
/-- the law's promise; a table of code objects at PT -/
def spLaw (K : PySem.W.Frag) (PT : Addr) : Sp := fun vs H Q _ => ∃ (a : Addr) (ns : List Int), vs = [.ref a] ∧ SqL K H a (ns.map V.int) ∧ ns.length ≤ 63 ∧ H PT = some (.tbl #[]) ∧ ∀ H', Q (.bl true) H'
theorem law_end {l : PySem.W.OpenLaw} {w : World} {K : PySem.W.Frag} {h : Heap} {mg : Str → Option Value} {fa c PT : Addr} {k : Nat} (X : K.In h) (hP : ∀ Q ∈ [PT], h.get? Q = some (PySem.W.tabObj #[])) (nP : K.lookup PT = none) (hc : PySem.W.codeHdIn K c PT = true)
    (F : ∃ fd : FuncData, (∀ (s : Shared) (v : Value), BindsTo s fd ⟨[v], []⟩ [("_law_script", v)]) ∧ ∀ base : Heap, K.In base → base.Ns mainGlobals mg → LamX.TabB base mg c PT → FnOk l.prog w K mg base L2.CX0 k fa fd ["_law_script"] (spLaw K PT)) :
    LamX.LawAtS l w K L2.CX0 k 63 "_law_script" mg fa h := by
  obtain ⟨fd, hb, hF⟩ := F
  refine ⟨fd, [(c, PT)], spLaw K PT, fun p hp => ?_, fun p hp => ?_, fun p hp => ?_, hb, fun H a ns hl _ hT hS => ⟨a, ns, rfl, hS, hl, hT _ (List.mem_singleton.mpr rfl), fun _ => rfl⟩, fun base KB NB TB => hF base KB NB (TB _ (List.mem_singleton.mpr rfl))⟩
  · rw [List.mem_singleton.mp hp]
    exact hP PT (List.mem_singleton.mpr rfl)
  · rw [List.mem_singleton.mp hp]
    exact nP
  · rw [List.mem_singleton.mp hp]
    exact PySem.W.codeHd_of_K X hc
theorem law_fnT {P : Program} {w : World} {K : PySem.W.Frag} {mg : Str → Option Value} {x p : Str} {st : Stmt} {N : List Str} {k : Nat} {sp : Sp} {fa c PT : Addr} (D : DefX K mg x st [p]) (hfa : mg x = some (.ref fa)) (S : FnScope N [p] (defScope st)) (len : ∀ vs H Q E, sp vs H Q E → vs.length = 1)
    (hbody : ∀ (base : Heap), LamX.TabB base mg c PT → ∀ (f : Addr) (cdv : Value) (A : Around) (outer : List Env) (s : Shared) (H : Hp) (vs : List V) (Q : VK) (E : XK), Room k (A.deeper (envOfC x (defScope st) s.heap.objs.size f cdv)) → sp vs H Q E →
      ∃ t, PSs (cxOf L2.CX0 P w K mg base N x (defScope st) f cdv A outer s H E).nox (defBody st) t ∧ t { nx := fun _ H' => Q .non H', rt := Q } (start N vs) H) :
    ∃ fd : FuncData, (∀ (s : Shared) (v : Value), BindsTo s fd ⟨[v], []⟩ [(p, v)]) ∧ ∀ base : Heap, K.In base → base.Ns mainGlobals mg → LamX.TabB base mg c PT → FnOk P w K mg base L2.CX0 (k + 1) fa fd [p] sp := by
  obtain ⟨f, fd, F, m, b⟩ := D.ex
  have e := hfa.symm.trans m
  cases e
  exact ⟨fd, fun s v => .of_eq (b [v] rfl), fun base _ _ TB => F.ok S len (hbody base TB fa)⟩

/-! ### paths -/
def plen (place n : Nat) : Nat :=
  if h : n < 2 then 0 else if place < splitN n then plen place (splitN n) + 1 else plen (place - splitN n) (n - splitN n) + 1
termination_by n
decreasing_by
  · exact splitN_lt (by omega)
  · have := splitN_pos n
    omega
theorem plen_one {place n : Nat} (h : n < 2) : plen place n = 0 := by rw [plen, dif_pos h]
theorem plen_low {place n : Nat} (h : 2 ≤ n) (hp : place < splitN n) : plen place n = plen place (splitN n) + 1 := by rw [plen, dif_neg (by omega), if_pos hp]
theorem plen_high {place n : Nat} (h : 2 ≤ n) (hp : ¬ place < splitN n) : plen place n = plen (place - splitN n) (n - splitN n) + 1 := by rw [plen, dif_neg (by omega), if_neg hp]
theorem plen_le : ∀ (k place n : Nat), n ≤ 2 ^ k → plen place n ≤ k
  | k, place, n, h => by
    by_cases h2 : n < 2
    · rw [plen_one h2]
      exact Nat.zero_le _
    · cases k with
      | zero => simp at h; omega
      | succ k =>
        obtain ⟨a, b⟩ := splitN_le_pow (show 2 ≤ n by omega) h
        by_cases hp : place < splitN n
        · rw [plen_low (by omega) hp]
          have := plen_le k place (splitN n) a
          omega
        · rw [plen_high (by omega) hp]
          have := plen_le k (place - splitN n) (n - splitN n) b
          omega
def pathT (ts : List Tm) (place : Nat) : List Tm :=
  if h : ts.length < 2 then [] else
    if place < splitN ts.length then pathT (ts.take (splitN ts.length)) place ++ [topT (ts.drop (splitN ts.length))]
    else pathT (ts.drop (splitN ts.length)) (place - splitN ts.length) ++ [topT (ts.take (splitN ts.length))]
termination_by ts.length
decreasing_by
  · rw [List.length_take]
    have := splitN_lt (n := ts.length) (by omega)
    omega
  · rw [List.length_drop]
    have := splitN_pos ts.length
    omega
theorem pathT_one {ts : List Tm} {place : Nat} (h : ts.length < 2) : pathT ts place = [] := by rw [pathT, dif_pos h]
theorem pathT_low {ts : List Tm} {place : Nat} (h : 2 ≤ ts.length) (hp : place < splitN ts.length) : pathT ts place = pathT (ts.take (splitN ts.length)) place ++ [topT (ts.drop (splitN ts.length))] := by
  rw [pathT, dif_neg (by omega), if_pos hp]
theorem pathT_high {ts : List Tm} {place : Nat} (h : 2 ≤ ts.length) (hp : ¬ place < splitN ts.length) : pathT ts place = pathT (ts.drop (splitN ts.length)) (place - splitN ts.length) ++ [topT (ts.take (splitN ts.length))] := by
  rw [pathT, dif_neg (by omega), if_neg hp]
theorem pathT_len (ts : List Tm) (place : Nat) : (pathT ts place).length = plen place ts.length := by
  by_cases h : ts.length < 2
  · rw [pathT_one h, plen_one h]
    rfl
  · have hs := splitN_lt (n := ts.length) (by omega)
    have hs0 := splitN_pos ts.length
    have e1 : (ts.take (splitN ts.length)).length = splitN ts.length := by
      rw [List.length_take]
      omega
    have e2 : (ts.drop (splitN ts.length)).length = ts.length - splitN ts.length := List.length_drop
    by_cases hp : place < splitN ts.length
    · rw [pathT_low (by omega) hp, plen_low (by omega) hp, List.length_append, pathT_len, e1]
      rfl
    · rw [pathT_high (by omega) hp, plen_high (by omega) hp, List.length_append, pathT_len, e2]
      rfl
termination_by ts.length
decreasing_by
  · rw [List.length_take]; omega
  · rw [List.length_drop]; omega
theorem pathT_mem {ts : List Tm} {place : Nat} {P : Tm → Prop} (hp : ∀ us : List Tm, (∀ t ∈ us, t ∈ ts) → us.length ≤ ts.length → P (topT us)) : ∀ t ∈ pathT ts place, P t := by
  intro t ht
  rw [pathT] at ht
  split at ht
  · cases ht
  · rename_i h
    have hs := splitN_lt (n := ts.length) (by omega)
    have hs0 := splitN_pos ts.length
    split at ht
    · rcases List.mem_append.mp ht with h1 | h1
      · exact pathT_mem (fun us hu hl => hp us (fun t h => List.mem_of_mem_take (hu t h)) (by rw [List.length_take] at hl; omega)) t h1
      · rw [List.mem_singleton.mp h1]
        exact hp _ (fun t h => List.mem_of_mem_drop h) (by rw [List.length_drop]; omega)
    · rcases List.mem_append.mp ht with h1 | h1
      · exact pathT_mem (fun us hu hl => hp us (fun t h => List.mem_of_mem_drop (hu t h)) (by rw [List.length_drop] at hl; omega)) t h1
      · rw [List.mem_singleton.mp h1]
        exact hp _ (fun t h => List.mem_of_mem_take h) (by rw [List.length_take]; omega)
termination_by ts.length
decreasing_by
  · rw [List.length_drop]; omega
  · rw [List.length_take]; omega
/-- a path is asked -/
def spPath (K : PySem.W.Frag) (Fam : Sys → Prop) (k : Nat) : Sp := fun vs H Q _ => ∃ (S : Sys) (a : Addr) (xs : List V) (ts : List Tm) (place r : Nat), Fam S ∧ vs = [.ref S.f, .ref a, .int (place : Int)] ∧ SqL K H a xs ∧ DenL S H xs ts ∧ k ≠ 0 ∧ ts.length ≤ 2 ^ (k - 1) ∧ ts.length ≤ 1000 ∧ place < ts.length ∧ S.ok H (r + costT ts.length) ∧
  ∀ p ys H', Ext H H' → H p = none → H' p = some (.lst ys) → S.ok H' r → DenL S H' ys (pathT ts place) → Q (.ref p) H'
/-! ### what a leaf and a path come to -/
/-- the tops by the way from above, and whether the place lies in the first part -/
def sidesT (place n : Nat) (path : List Tm) : List (Tm × Bool) :=
  if h : n < 2 then [] else
    if place < splitN n then (path.getLastD nonT, true) :: sidesT place (splitN n) path.dropLast
    else (path.getLastD nonT, false) :: sidesT (place - splitN n) (n - splitN n) path.dropLast
termination_by n
decreasing_by
  · exact splitN_lt (by omega)
  · have := splitN_pos n
    omega
theorem sidesT_one {place n : Nat} {path : List Tm} (h : n < 2) : sidesT place n path = [] := by rw [sidesT, dif_pos h]
theorem sidesT_low {place n : Nat} {path : List Tm} (h : 2 ≤ n) (hp : place < splitN n) : sidesT place n path = (path.getLastD nonT, true) :: sidesT place (splitN n) path.dropLast := by rw [sidesT, dif_neg (by omega), if_pos hp]
theorem sidesT_high {place n : Nat} {path : List Tm} (h : 2 ≤ n) (hp : ¬ place < splitN n) : sidesT place n path = (path.getLastD nonT, false) :: sidesT (place - splitN n) (n - splitN n) path.dropLast := by rw [sidesT, dif_neg (by omega), if_neg hp]
def stepT (s : Tm × Bool) (t : Tm) : Tm := if s.2 = true then pairT t s.1 else pairT s.1 t
def riseT (leaf : Tm) (ss : List (Tm × Bool)) : Tm := ss.foldr stepT leaf
theorem riseT_cons (leaf : Tm) (s : Tm × Bool) (ss : List (Tm × Bool)) : riseT leaf (s :: ss) = stepT s (riseT leaf ss) := rfl
theorem sidesT_len (place n : Nat) (path : List Tm) : (sidesT place n path).length = plen place n := by
  by_cases h : n < 2
  · rw [sidesT_one h, plen_one h]
    rfl
  · have hs := splitN_lt (n := n) (by omega)
    have hs0 := splitN_pos n
    by_cases hp : place < splitN n
    · rw [sidesT_low (by omega) hp, plen_low (by omega) hp, List.length_cons, sidesT_len]
    · rw [sidesT_high (by omega) hp, plen_high (by omega) hp, List.length_cons, sidesT_len]
termination_by n
theorem getLastD_concat {α : Type} (l : List α) (x d : α) : (l ++ [x]).getLastD d = x := by
  rw [List.getLastD_eq_getLast?, List.getLast?_concat]
  rfl
/-- the way of a leaf of a row, by its own path, comes to the row's top -/
theorem rise_path (ts : List Tm) (place : Nat) (h : place < ts.length) : riseT (ts.getD place nonT) (sidesT place ts.length (pathT ts place)) = topT ts := by
  by_cases h2 : ts.length < 2
  · rw [sidesT_one h2, topT_single (by omega), show place = 0 by omega]
    rfl
  · have hs := splitN_lt (n := ts.length) (by omega)
    have hs0 := splitN_pos ts.length
    have e1 : (ts.take (splitN ts.length)).length = splitN ts.length := by
      rw [List.length_take]
      omega
    have e2 : (ts.drop (splitN ts.length)).length = ts.length - splitN ts.length := List.length_drop
    by_cases hp : place < splitN ts.length
    · rw [pathT_low (by omega) hp, sidesT_low (by omega) hp, getLastD_concat, List.dropLast_concat, topT_more (ts := ts) (by omega)]
      rw [riseT_cons]
      have ih := rise_path (ts.take (splitN ts.length)) place (by omega)
      rw [e1] at ih
      have eg : (ts.take (splitN ts.length)).getD place nonT = ts.getD place nonT := by
        rw [List.getD_eq_getElem?_getD, List.getD_eq_getElem?_getD, List.getElem?_take_of_lt hp]
      rw [eg] at ih
      rw [ih]
      rfl
    · rw [pathT_high (by omega) hp, sidesT_high (by omega) hp, getLastD_concat, List.dropLast_concat, topT_more (ts := ts) (by omega)]
      rw [riseT_cons]
      have ih := rise_path (ts.drop (splitN ts.length)) (place - splitN ts.length) (by omega)
      rw [e2] at ih
      have eg : (ts.drop (splitN ts.length)).getD (place - splitN ts.length) nonT = ts.getD place nonT := by
        rw [List.getD_eq_getElem?_getD, List.getD_eq_getElem?_getD, List.getElem?_drop, show splitN ts.length + (place - splitN ts.length) = place by omega]
      rw [eg] at ih
      rw [ih]
      rfl
termination_by ts.length

section
variable {P : Program} {w : World} {K : PySem.W.Frag} {mg : Str → Option Value} {base : Heap} {Fam : Sys → Prop}
theorem ok_path_of1 {cc : Addr} {k j : Nat} (T : Txt K mg cc) (A : SlA P w K mg base Fam) (C_split : Cal P w K mg base 1 "split" spSplit []) (C_top_of : ∀ k, Cal P w K mg base (k + j) "top_of" (spTop K Fam k) []) (C_path_of : Cal P w K mg base (k + j + 1) "path_of" (spPath K Fam k) []) : Cal P w K mg base (k + j + 2) "path_of" (spPath K Fam (k + 1)) [] := by
  have Z := T.Z
  have C_top_of := C_top_of (k + 1)
  refine cal_of T.d_path_of sc_path_of (fun vs H Q E h => ?_) (fun f cdv A' outer s H vs Q E hr h => ?_)
  · obtain ⟨S, a, xs, ts, old, r, _, rfl, _⟩ := h
    rfl
  obtain ⟨S, a, xs, ts, place, r, hF, rfl, hS, hD, _, hk, hl, ho, hok, q⟩ := h
  have hlen := hD.len
  have G := A.good hF
  refine ⟨_, (pss_cons (ps_if (pt_cmpR op_eq (pe_callB call_len_seq rfl Z.len PySem.boot_len (pa_cons (pv 1) pa_nil)) pe_int (nomark _)) (pss_one (ps_ret (pe_lst pa_nil))) pss_nil)
  (pss_cons (ps_set (i := 3) sc_path_of.nd rfl (Or.inl rfl) (pe_c C_split hr (by omega) rfl (pa_cons (pe_callB call_len_seq rfl Z.len PySem.boot_len (pa_cons (pv 1) pa_nil)) pa_nil)))
  (pss_cons (ps_if (pt_cmpR op_lt (pv 2) (pv 3) (nomark _)) (pss_one (ps_ret (pe_op op_cat (pe_c C_path_of hr (by omega) rfl (pa_cons (pv 0) (pa_cons (pe_slice sl_list (pv 1) po_none (po_some (pv 3))) (pa_cons (pv 2) pa_nil)))) (pe_lst (pa_cons (pe_c C_top_of hr (by omega) rfl (pa_cons (pv 0) (pa_cons (pe_slice sl_list (pv 1) (po_some (pv 3)) po_none) pa_nil))) pa_nil))))) pss_nil)
  (pss_one (ps_ret (pe_op op_cat (pe_c C_path_of hr (by omega) rfl (pa_cons (pv 0) (pa_cons (pe_slice sl_list (pv 1) (po_some (pv 3)) po_none) (pa_cons (pe_op op_sub (pv 2) (pv 3)) pa_nil)))) (pe_lst (pa_cons (pe_c C_top_of hr (by omega) rfl (pa_cons (pv 0) (pa_cons (pe_slice sl_list (pv 1) po_none (po_some (pv 3))) pa_nil))) pa_nil)))))))), ?_⟩
  -- one leaf
  refine ⟨_, rfl, a, _, rfl, .inl hS, rfl, _, rfl, ite2 (fun c => ?_) (fun c => ?_)⟩
  · have c' : (xs.length : Int) = 1 := V.int.inj (of_decide_eq_true c)
    refine ⟨Nat.zero_le _, fun p hp => ?_⟩
    refine q p [] _ (Ext.new hp) hp upd_same (G.less (G.keep (Kp.new hp) hok) (by omega)) ?_
    rw [pathT_one (by omega)]
    exact DenL.nil
  have n1 : xs.length ≠ 1 := fun z => c (decide_eq_true (by rw [z] <;> rfl))
  have h2 : 2 ≤ ts.length := by omega
  have hsl := splitN_lt h2
  have hsp := splitN_pos ts.length
  have hk1 : ts.length ≤ 2 ^ k := hk
  obtain ⟨k', rfl⟩ : ∃ k', k = k' + 1 := by
    cases k with
    | zero => simp at hk1; omega
    | succ k' => exact ⟨k', rfl⟩
  obtain ⟨b1, b2⟩ := splitN_le_pow h2 hk1
  have hcs := costT_split h2
  have lg := Nat.log2_le_self ts.length
  refine ⟨_, rfl, a, _, rfl, .inl hS, ts.length, by rw [hlen] <;> rfl, h2, by omega, ?_⟩
  have lt1 : (ts.take (splitN ts.length)).length = splitN ts.length := by
    rw [List.length_take]
    omega
  have ld1 : (ts.drop (splitN ts.length)).length = ts.length - splitN ts.length := List.length_drop
  refine ⟨_, rfl, _, rfl, _, _, rfl, rfl, _, rfl, ite2 (fun c => ?_) (fun c => ?_)⟩
  · -- in the first part
    have c' : (place : Int) < ((splitN ts.length : Nat) : Int) := of_decide_eq_true c
    refine ⟨_, rfl, _, rfl, _, rfl, ((splitN ts.length : Nat) : Int), rfl, a, _, rfl, hS, fun p hp => ?_⟩
    rw [cut_to]
    have x1 := Ext.new (o := .lst (xs.take (splitN ts.length))) hp
    have k1 := Kp.new (o := .lst (xs.take (splitN ts.length))) hp
    refine ⟨_, rfl, S, p, _, ts.take (splitN ts.length), place, r + costT (ts.length - splitN ts.length), hF, rfl, SqL.of upd_same, (hD.take _).mono G k1.gr, by omega, ?_, ?_, ?_, ?_, fun p1 ys H1 x2 np1 hp1 ok1 d1 => ?_⟩
    · rw [lt1]
      exact b1
    · omega
    · omega
    · rw [lt1]
      exact G.less (G.keep k1 hok) (by omega)
    have xx := x1.trans x2
    refine ⟨_, rfl, _, rfl, _, rfl, ((splitN ts.length : Nat) : Int), rfl, a, _, rfl, xx.seq hS, fun p2 hp2 => ?_⟩
    rw [cut_from]
    have x3 := Ext.new (o := .lst (xs.drop (splitN ts.length))) hp2
    have k3 := Kp.new (o := .lst (xs.drop (splitN ts.length))) hp2
    refine ⟨S, p2, _, ts.drop (splitN ts.length), r, hF, rfl, SqL.of upd_same, ((hD.drop _).mono G xx.gr).mono G k3.gr, by omega, ?_, ?_, ?_, fun v2 H2 x4 ok2 d2 => ?_⟩
    · rw [ld1]
      exact Nat.le_trans b2 (Nat.pow_le_pow_right (by decide) (by omega))
    · omega
    · rw [ld1]
      exact G.keep k3 ok1
    refine ⟨by show 1 ≤ sizeLine; decide, fun p3 hp3 => ?_⟩
    have e1 : H2 p1 = some (.lst ys) := x4.lst (x3.lst hp1)
    have l1 := d1.len
    rw [pathT_len, lt1] at l1
    have gl := plen_le k' place (splitN ts.length) b1
    have kk : k' ≤ 1000 := by
      have := hr.dp
      have e0 : recursionLimit = 1000 := rfl
      omega
    refine ⟨p1, p3, ys, [v2], rfl, rfl, by rw [upd_ne (ne_of_none e1 hp3)]; exact e1, upd_same, ?_, fun p4 hp4 => ?_⟩
    · rw [l1]
      show _ + 1 ≤ _
      rw [sizeLine_eq]
      omega
    have x5 := (Ext.new (o := .lst [v2]) hp3).trans (Ext.new (o := .lst (ys ++ [v2])) hp4)
    have np4 := (((xx.trans x3).trans x4).free ((Ext.new (o := .lst [v2]) hp3).free hp4))
    refine q p4 _ _ (((xx.trans x3).trans x4).trans x5) np4 upd_same (G.keep ((Kp.new hp3).trans (Kp.new hp4)) ok2) ?_
    rw [pathT_low (by omega) (by omega)]
    exact (d1.mono G ((x3.trans x4).trans x5).gr).append (DenL.one (G.mono x5.gr d2))
  · -- in the rest
    have c' : ¬ (place : Int) < ((splitN ts.length : Nat) : Int) := of_decide_eq_false (Bool.eq_false_iff.mpr c)
    refine ⟨_, rfl, _, rfl, _, rfl, ((splitN ts.length : Nat) : Int), rfl, a, _, rfl, hS, fun p hp => ?_⟩
    rw [cut_from]
    have x1 := Ext.new (o := .lst (xs.drop (splitN ts.length))) hp
    have k1 := Kp.new (o := .lst (xs.drop (splitN ts.length))) hp
    refine ⟨_, rfl, _, rfl, _, _, rfl, rfl, S, p, _, ts.drop (splitN ts.length), place - splitN ts.length, r + costT (splitN ts.length), hF, ?_, SqL.of upd_same, (hD.drop _).mono G k1.gr, by omega, ?_, ?_, ?_, ?_, fun p1 ys H1 x2 np1 hp1 ok1 d1 => ?_⟩
    · rw [show ((place - splitN ts.length : Nat) : Int) = (place : Int) - ((splitN ts.length : Nat) : Int) by omega]
      rfl
    · rw [ld1]
      exact b2
    · omega
    · omega
    · rw [ld1]
      exact G.less (G.keep k1 hok) (by omega)
    have xx := x1.trans x2
    refine ⟨_, rfl, _, rfl, _, rfl, ((splitN ts.length : Nat) : Int), rfl, a, _, rfl, xx.seq hS, fun p2 hp2 => ?_⟩
    rw [cut_to]
    have x3 := Ext.new (o := .lst (xs.take (splitN ts.length))) hp2
    have k3 := Kp.new (o := .lst (xs.take (splitN ts.length))) hp2
    refine ⟨S, p2, _, ts.take (splitN ts.length), r, hF, rfl, SqL.of upd_same, ((hD.take _).mono G xx.gr).mono G k3.gr, by omega, ?_, ?_, ?_, fun v2 H2 x4 ok2 d2 => ?_⟩
    · rw [lt1]
      exact Nat.le_trans b1 (Nat.pow_le_pow_right (by decide) (by omega))
    · omega
    · rw [lt1]
      exact G.keep k3 ok1
    refine ⟨by show 1 ≤ sizeLine; decide, fun p3 hp3 => ?_⟩
    have e1 : H2 p1 = some (.lst ys) := x4.lst (x3.lst hp1)
    have l1 := d1.len
    rw [pathT_len, ld1] at l1
    have gl := plen_le k' (place - splitN ts.length) (ts.length - splitN ts.length) b2
    have kk : k' ≤ 1000 := by
      have := hr.dp
      have e0 : recursionLimit = 1000 := rfl
      omega
    refine ⟨p1, p3, ys, [v2], rfl, rfl, by rw [upd_ne (ne_of_none e1 hp3)]; exact e1, upd_same, ?_, fun p4 hp4 => ?_⟩
    · rw [l1]
      show _ + 1 ≤ _
      rw [sizeLine_eq]
      omega
    have x5 := (Ext.new (o := .lst [v2]) hp3).trans (Ext.new (o := .lst (ys ++ [v2])) hp4)
    have np4 := (((xx.trans x3).trans x4).free ((Ext.new (o := .lst [v2]) hp3).free hp4))
    refine q p4 _ _ (((xx.trans x3).trans x4).trans x5) np4 upd_same (G.keep ((Kp.new hp3).trans (Kp.new hp4)) ok2) ?_
    rw [pathT_high (by omega) (by omega)]
    exact (d1.mono G ((x3.trans x4).trans x5).gr).append (DenL.one (G.mono x5.gr d2))
theorem ok_path_of {cc : Addr} {j : Nat} (T : Txt K mg cc) (A : SlA P w K mg base Fam) (C_split : Cal P w K mg base 1 "split" spSplit []) (C_top_of : ∀ k, Cal P w K mg base (k + j) "top_of" (spTop K Fam k) []) : ∀ k : Nat, Cal P w K mg base (k + j + 1) "path_of" (spPath K Fam k) []
  | 0 => by
    obtain ⟨f, fd, ps, ds, F, m, kp, b, v⟩ := (cal_no (P := P) (w := w) (base := base) T.d_path_of (0 + j + 1)).ex
    exact ⟨f, fd, ps, ds, F.imp fun vs H Q E h => by obtain ⟨_, _, _, _, _, _, _, _, _, _, z, _⟩ := h; exact absurd rfl z, m, kp, b, v⟩
  | k + 1 => cal_mono (ok_path_of1 T A C_split C_top_of (ok_path_of T A C_split C_top_of k)) (by omega)
end

section
variable {P : Program} {w : World} {K : PySem.W.Frag} {mg : Str → Option Value} {base : Heap} {Fam : Sys → Prop}
theorem ok__law_path1 {cc : Addr} {k j : Nat} (T : Txt K mg cc) (A : SlA P w K mg base Fam) (C__law_split : Cal P w K mg base 1 "_law_split" spSplit []) (C__law_top : ∀ k, Cal P w K mg base (k + j) "_law_top" (spTop K Fam k) []) (C__law_path : Cal P w K mg base (k + j + 1) "_law_path" (spPath K Fam k) []) : Cal P w K mg base (k + j + 2) "_law_path" (spPath K Fam (k + 1)) [] := by
  have Z := T.Z
  have C__law_top := C__law_top (k + 1)
  refine cal_of T.d__law_path sc__law_path (fun vs H Q E h => ?_) (fun f cdv A' outer s H vs Q E hr h => ?_)
  · obtain ⟨S, a, xs, ts, old, r, _, rfl, _⟩ := h
    rfl
  obtain ⟨S, a, xs, ts, place, r, hF, rfl, hS, hD, _, hk, hl, ho, hok, q⟩ := h
  have hlen := hD.len
  have G := A.good hF
  refine ⟨_, (pss_cons (ps_if (pt_cmpR op_eq (pe_callB call_len_seq rfl Z.len PySem.boot_len (pa_cons (pv 1) pa_nil)) pe_int (nomark _)) (pss_one (ps_ret (pe_lst pa_nil))) pss_nil)
  (pss_cons (ps_set (i := 3) sc__law_path.nd rfl (Or.inl rfl) (pe_c C__law_split hr (by omega) rfl (pa_cons (pe_callB call_len_seq rfl Z.len PySem.boot_len (pa_cons (pv 1) pa_nil)) pa_nil)))
  (pss_cons (ps_if (pt_cmpR op_lt (pv 2) (pv 3) (nomark _)) (pss_one (ps_ret (pe_op op_cat (pe_c C__law_path hr (by omega) rfl (pa_cons (pv 0) (pa_cons (pe_slice sl_list (pv 1) po_none (po_some (pv 3))) (pa_cons (pv 2) pa_nil)))) (pe_lst (pa_cons (pe_c C__law_top hr (by omega) rfl (pa_cons (pv 0) (pa_cons (pe_slice sl_list (pv 1) (po_some (pv 3)) po_none) pa_nil))) pa_nil))))) pss_nil)
  (pss_one (ps_ret (pe_op op_cat (pe_c C__law_path hr (by omega) rfl (pa_cons (pv 0) (pa_cons (pe_slice sl_list (pv 1) (po_some (pv 3)) po_none) (pa_cons (pe_op op_sub (pv 2) (pv 3)) pa_nil)))) (pe_lst (pa_cons (pe_c C__law_top hr (by omega) rfl (pa_cons (pv 0) (pa_cons (pe_slice sl_list (pv 1) po_none (po_some (pv 3))) pa_nil))) pa_nil)))))))), ?_⟩
  -- one leaf
  refine ⟨_, rfl, a, _, rfl, .inl hS, rfl, _, rfl, ite2 (fun c => ?_) (fun c => ?_)⟩
  · have c' : (xs.length : Int) = 1 := V.int.inj (of_decide_eq_true c)
    refine ⟨Nat.zero_le _, fun p hp => ?_⟩
    refine q p [] _ (Ext.new hp) hp upd_same (G.less (G.keep (Kp.new hp) hok) (by omega)) ?_
    rw [pathT_one (by omega)]
    exact DenL.nil
  have n1 : xs.length ≠ 1 := fun z => c (decide_eq_true (by rw [z] <;> rfl))
  have h2 : 2 ≤ ts.length := by omega
  have hsl := splitN_lt h2
  have hsp := splitN_pos ts.length
  have hk1 : ts.length ≤ 2 ^ k := hk
  obtain ⟨k', rfl⟩ : ∃ k', k = k' + 1 := by
    cases k with
    | zero => simp at hk1; omega
    | succ k' => exact ⟨k', rfl⟩
  obtain ⟨b1, b2⟩ := splitN_le_pow h2 hk1
  have hcs := costT_split h2
  have lg := Nat.log2_le_self ts.length
  refine ⟨_, rfl, a, _, rfl, .inl hS, ts.length, by rw [hlen] <;> rfl, h2, by omega, ?_⟩
  have lt1 : (ts.take (splitN ts.length)).length = splitN ts.length := by
    rw [List.length_take]
    omega
  have ld1 : (ts.drop (splitN ts.length)).length = ts.length - splitN ts.length := List.length_drop
  refine ⟨_, rfl, _, rfl, _, _, rfl, rfl, _, rfl, ite2 (fun c => ?_) (fun c => ?_)⟩
  · -- in the first part
    have c' : (place : Int) < ((splitN ts.length : Nat) : Int) := of_decide_eq_true c
    refine ⟨_, rfl, _, rfl, _, rfl, ((splitN ts.length : Nat) : Int), rfl, a, _, rfl, hS, fun p hp => ?_⟩
    rw [cut_to]
    have x1 := Ext.new (o := .lst (xs.take (splitN ts.length))) hp
    have k1 := Kp.new (o := .lst (xs.take (splitN ts.length))) hp
    refine ⟨_, rfl, S, p, _, ts.take (splitN ts.length), place, r + costT (ts.length - splitN ts.length), hF, rfl, SqL.of upd_same, (hD.take _).mono G k1.gr, by omega, ?_, ?_, ?_, ?_, fun p1 ys H1 x2 np1 hp1 ok1 d1 => ?_⟩
    · rw [lt1]
      exact b1
    · omega
    · omega
    · rw [lt1]
      exact G.less (G.keep k1 hok) (by omega)
    have xx := x1.trans x2
    refine ⟨_, rfl, _, rfl, _, rfl, ((splitN ts.length : Nat) : Int), rfl, a, _, rfl, xx.seq hS, fun p2 hp2 => ?_⟩
    rw [cut_from]
    have x3 := Ext.new (o := .lst (xs.drop (splitN ts.length))) hp2
    have k3 := Kp.new (o := .lst (xs.drop (splitN ts.length))) hp2
    refine ⟨S, p2, _, ts.drop (splitN ts.length), r, hF, rfl, SqL.of upd_same, ((hD.drop _).mono G xx.gr).mono G k3.gr, by omega, ?_, ?_, ?_, fun v2 H2 x4 ok2 d2 => ?_⟩
    · rw [ld1]
      exact Nat.le_trans b2 (Nat.pow_le_pow_right (by decide) (by omega))
    · omega
    · rw [ld1]
      exact G.keep k3 ok1
    refine ⟨by show 1 ≤ sizeLine; decide, fun p3 hp3 => ?_⟩
    have e1 : H2 p1 = some (.lst ys) := x4.lst (x3.lst hp1)
    have l1 := d1.len
    rw [pathT_len, lt1] at l1
    have gl := plen_le k' place (splitN ts.length) b1
    have kk : k' ≤ 1000 := by
      have := hr.dp
      have e0 : recursionLimit = 1000 := rfl
      omega
    refine ⟨p1, p3, ys, [v2], rfl, rfl, by rw [upd_ne (ne_of_none e1 hp3)]; exact e1, upd_same, ?_, fun p4 hp4 => ?_⟩
    · rw [l1]
      show _ + 1 ≤ _
      rw [sizeLine_eq]
      omega
    have x5 := (Ext.new (o := .lst [v2]) hp3).trans (Ext.new (o := .lst (ys ++ [v2])) hp4)
    have np4 := (((xx.trans x3).trans x4).free ((Ext.new (o := .lst [v2]) hp3).free hp4))
    refine q p4 _ _ (((xx.trans x3).trans x4).trans x5) np4 upd_same (G.keep ((Kp.new hp3).trans (Kp.new hp4)) ok2) ?_
    rw [pathT_low (by omega) (by omega)]
    exact (d1.mono G ((x3.trans x4).trans x5).gr).append (DenL.one (G.mono x5.gr d2))
  · -- in the rest
    have c' : ¬ (place : Int) < ((splitN ts.length : Nat) : Int) := of_decide_eq_false (Bool.eq_false_iff.mpr c)
    refine ⟨_, rfl, _, rfl, _, rfl, ((splitN ts.length : Nat) : Int), rfl, a, _, rfl, hS, fun p hp => ?_⟩
    rw [cut_from]
    have x1 := Ext.new (o := .lst (xs.drop (splitN ts.length))) hp
    have k1 := Kp.new (o := .lst (xs.drop (splitN ts.length))) hp
    refine ⟨_, rfl, _, rfl, _, _, rfl, rfl, S, p, _, ts.drop (splitN ts.length), place - splitN ts.length, r + costT (splitN ts.length), hF, ?_, SqL.of upd_same, (hD.drop _).mono G k1.gr, by omega, ?_, ?_, ?_, ?_, fun p1 ys H1 x2 np1 hp1 ok1 d1 => ?_⟩
    · rw [show ((place - splitN ts.length : Nat) : Int) = (place : Int) - ((splitN ts.length : Nat) : Int) by omega]
      rfl
    · rw [ld1]
      exact b2
    · omega
    · omega
    · rw [ld1]
      exact G.less (G.keep k1 hok) (by omega)
    have xx := x1.trans x2
    refine ⟨_, rfl, _, rfl, _, rfl, ((splitN ts.length : Nat) : Int), rfl, a, _, rfl, xx.seq hS, fun p2 hp2 => ?_⟩
    rw [cut_to]
    have x3 := Ext.new (o := .lst (xs.take (splitN ts.length))) hp2
    have k3 := Kp.new (o := .lst (xs.take (splitN ts.length))) hp2
    refine ⟨S, p2, _, ts.take (splitN ts.length), r, hF, rfl, SqL.of upd_same, ((hD.take _).mono G xx.gr).mono G k3.gr, by omega, ?_, ?_, ?_, fun v2 H2 x4 ok2 d2 => ?_⟩
    · rw [lt1]
      exact Nat.le_trans b1 (Nat.pow_le_pow_right (by decide) (by omega))
    · omega
    · rw [lt1]
      exact G.keep k3 ok1
    refine ⟨by show 1 ≤ sizeLine; decide, fun p3 hp3 => ?_⟩
    have e1 : H2 p1 = some (.lst ys) := x4.lst (x3.lst hp1)
    have l1 := d1.len
    rw [pathT_len, ld1] at l1
    have gl := plen_le k' (place - splitN ts.length) (ts.length - splitN ts.length) b2
    have kk : k' ≤ 1000 := by
      have := hr.dp
      have e0 : recursionLimit = 1000 := rfl
      omega
    refine ⟨p1, p3, ys, [v2], rfl, rfl, by rw [upd_ne (ne_of_none e1 hp3)]; exact e1, upd_same, ?_, fun p4 hp4 => ?_⟩
    · rw [l1]
      show _ + 1 ≤ _
      rw [sizeLine_eq]
      omega
    have x5 := (Ext.new (o := .lst [v2]) hp3).trans (Ext.new (o := .lst (ys ++ [v2])) hp4)
    have np4 := (((xx.trans x3).trans x4).free ((Ext.new (o := .lst [v2]) hp3).free hp4))
    refine q p4 _ _ (((xx.trans x3).trans x4).trans x5) np4 upd_same (G.keep ((Kp.new hp3).trans (Kp.new hp4)) ok2) ?_
    rw [pathT_high (by omega) (by omega)]
    exact (d1.mono G ((x3.trans x4).trans x5).gr).append (DenL.one (G.mono x5.gr d2))
theorem ok__law_path {cc : Addr} {j : Nat} (T : Txt K mg cc) (A : SlA P w K mg base Fam) (C__law_split : Cal P w K mg base 1 "_law_split" spSplit []) (C__law_top : ∀ k, Cal P w K mg base (k + j) "_law_top" (spTop K Fam k) []) : ∀ k : Nat, Cal P w K mg base (k + j + 1) "_law_path" (spPath K Fam k) []
  | 0 => by
    obtain ⟨f, fd, ps, ds, F, m, kp, b, v⟩ := (cal_no (P := P) (w := w) (base := base) T.d__law_path (0 + j + 1)).ex
    exact ⟨f, fd, ps, ds, F.imp fun vs H Q E h => by obtain ⟨_, _, _, _, _, _, _, _, _, _, z, _⟩ := h; exact absurd rfl z, m, kp, b, v⟩
  | k + 1 => cal_mono (ok__law_path1 T A C__law_split C__law_top (ok__law_path T A C__law_split C__law_top k)) (by omega)
end

/-! ### a leaf and a path come to a top, or BadPaper -/
/-- no list by its type, and none equal to the empty list -/
structure Odd (K : PySem.W.Frag) (H : Hp) (v : V) : Prop where
  ty : ∃ t, TyX K H v t ∧ PySem.W.kitOne K t (.type "list") = some false
  ne : ∃ d, Dp K H v d ∧ SeqAt.shaped d = true ∧ PyData.eqv d (.list []) = false
def spLast (K : PySem.W.Frag) (mg : Str → Option Value) : Sp := fun vs H Q E => ∃ v, vs = [v] ∧
  ((∃ a ys, v = .ref a ∧ H a = some (.lst ys) ∧ (∀ y, ys.getLast? = some y → Q y H) ∧ (ys = [] → ∀ C, mg "BadPaper" = some (.ref C) → E (.ref C) none H)) ∨
   ((∃ t, TyX K H v t ∧ PySem.W.kitOne K t (.type "list") = some false) ∧ ∀ C, mg "BadPaper" = some (.ref C) → E (.ref C) none H))
/-- the sides, as they are kept -/
structure SideL (S : Sys) (H : Hp) (vs : List V) (ss : List (Tm × Bool)) : Prop where
  len : vs.length = ss.length
  at_ : ∀ (i : Nat) (v : V) (s : Tm × Bool), vs[i]? = some v → ss[i]? = some s → ∃ q u, v = .ref q ∧ H q = some (.tup [u, .bl s.2]) ∧ S.den H u s.1
theorem SideL.nil {S : Sys} {H : Hp} : SideL S H [] [] := ⟨rfl, fun i v t a _ => by simp at a⟩
theorem SideL.mono {K : PySem.W.Frag} {S : Sys} (G : S.Good K) {H H' : Hp} {vs : List V} {ss : List (Tm × Bool)} (e : Gr H H') (h : SideL S H vs ss) : SideL S H' vs ss := by
  refine ⟨h.len, fun i v s a b => ?_⟩
  obtain ⟨q, u, rfl, h1, h2⟩ := h.at_ i v s a b
  exact ⟨q, u, rfl, e.keep _ _ h1 True.intro (fun _ z => nomatch z), G.mono e h2⟩
theorem SideL.snoc {S : Sys} {H : Hp} {vs : List V} {ss : List (Tm × Bool)} {q : Addr} {u : V} {s : Tm × Bool} (h : SideL S H vs ss) (hq : H q = some (.tup [u, .bl s.2])) (hu : S.den H u s.1) : SideL S H (vs ++ [.ref q]) (ss ++ [s]) := by
  refine ⟨by rw [List.length_append, List.length_append, h.len]; rfl, fun i v t a b => ?_⟩
  have hl := h.len
  by_cases c : i < vs.length
  · rw [List.getElem?_append_left c] at a
    rw [List.getElem?_append_left (by omega)] at b
    exact h.at_ i v t a b
  · rw [List.getElem?_append_right (by omega)] at a b
    rw [← hl] at b
    cases hj : i - vs.length with
    | zero =>
      rw [hj] at a b
      cases a
      cases b
      exact ⟨q, u, rfl, hq, hu⟩
    | succ j =>
      rw [hj] at a
      simp at a
def spRisen (K : PySem.W.Frag) (mg : Str → Option Value) (Fam : Sys → Prop) : Sp := fun vs H Q E => ∃ (S : Sys) (leaf : V) (lt : Tm) (place n : Nat) (v : V) (r : Nat), Fam S ∧ vs = [.ref S.f, leaf, .int (place : Int), .int (n : Int), v] ∧ S.den H leaf lt ∧ place < n ∧ n.log2 ≤ 1000 ∧ S.ok H (r + plen place n) ∧
  ((∃ a ys ts, v = .ref a ∧ H a = some (.lst ys) ∧ DenL S H ys ts ∧ ts.length ≤ 100000 ∧ (∀ t ∈ ts, t.dep ≤ 60) ∧
      (ts.length = plen place n → ∀ u H', Ext H H' → S.ok H' r → S.den H' u (riseT lt (sidesT place n ts)) → Q u H') ∧
      (ts.length ≠ plen place n → ∀ C H', mg "BadPaper" = some (.ref C) → Ext H H' → S.ok H' r → E (.ref C) none H')) ∨
   ((∀ H', Ext H H' → Odd K H' v) ∧ ∀ C H', mg "BadPaper" = some (.ref C) → Ext H H' → S.ok H' r → E (.ref C) none H'))
theorem getLast_at {α : Type} {l : List α} {x : α} (h : l.getLast? = some x) : l[l.length - 1]? = some x := by
  rw [← h, List.getLast?_eq_getElem?]
section
variable {P : Program} {w : World} {K : PySem.W.Frag} {mg : Str → Option Value} {base : Heap} {Fam : Sys → Prop}
theorem ok_last {cc : Addr} (T : Txt K mg cc) : CalX P w K mg base 1 "last_of" (spLast K mg) := by
  have Z := T.Z
  obtain ⟨C_BadPaper, g_BadPaper, F_BadPaper⟩ := T.x_BadPaper.ex
  refine calX_of T.d_last_of sc_last_of (fun vs H Q E h => ?_) (fun f cdv A' outer s H vs Q E hr h => ?_)
  · obtain ⟨v, rfl, _⟩ := h
    rfl
  obtain ⟨v, rfl, h⟩ := h
  refine ⟨_, (pss_cons (ps_if (PW.pt (pw_or (pt_not (pt_val (pe_callB call_isi rfl Z.isinstance (by decide +kernel) (pa_cons (pv 0) (pa_cons (pe_bltn (v := .ty "list") rfl Z.list (by decide +kernel) rfl) pa_nil))))) (pw_or1 (pt_cmpR op_eq (pe_callB call_len_seq rfl Z.len PySem.boot_len (pa_cons (pv 0) pa_nil)) pe_int (nomark _))))) (pss_one (ps_raiseX F_BadPaper g_BadPaper rfl (takes_of rfl rfl rfl rfl) rfl)) pss_nil)
  (pss_one (ps_ret (pe_ix ix_list (pv 0) (pe_op op_sub (pe_callB call_len_seq rfl Z.len PySem.boot_len (pa_cons (pv 0) pa_nil)) pe_int) (fun _ _ => rfl))))), ?_⟩
  rcases h with ⟨a, ys, rfl, ha, q1, q2⟩ | ⟨⟨t, hty, hk⟩, q⟩
  · refine ⟨_, rfl, .ref a, .ty "list", _, _, true, rfl, .ty "list", .base (.lst ha), kit_ty (by decide +kernel), true, rfl, ?_⟩
    refine ⟨_, rfl, a, ys, rfl, .inl (SqL.of ha), rfl, _, rfl, ite2 (fun c => ?_) (fun c => ?_)⟩
    · have c' : (ys.length : Int) = 0 := V.int.inj (of_decide_eq_true c)
      exact q2 (List.eq_nil_of_length_eq_zero (by omega)) _ g_BadPaper
    · have c' : ys.length ≠ 0 := fun z => c (decide_eq_true (by rw [z] <;> rfl))
      obtain ⟨y, hy⟩ : ∃ y, ys.getLast? = some y := by
        cases hl : ys.getLast? with
        | none => rw [List.getLast?_eq_none_iff] at hl; rw [hl] at c'; exact absurd rfl c'
        | some y => exact ⟨y, rfl⟩
      refine ⟨_, rfl, _, rfl, a, ys, rfl, .inl (SqL.of ha), _, 1, rfl, rfl, a, ys, _, y, rfl, rfl, SqL.of ha, ?_, q1 y hy⟩
      rw [show (ys.length : Int) - 1 = ((ys.length - 1 : Nat) : Int) by omega, atI_nat]
      exact getLast_at hy
  · exact ⟨_, rfl, v, .ty "list", _, _, false, rfl, .ty "list", hty, hk, false, rfl, q _ g_BadPaper⟩
theorem splitN_log {n L : Nat} (h : 2 ≤ n) (hl : n.log2 ≤ L) : (splitN n).log2 ≤ L ∧ (n - splitN n).log2 ≤ L := by
  have h1 := splitN_lt h
  have h2 := splitN_pos n
  refine ⟨?_, ?_⟩
  · have h3 : splitN n < 2 ^ (L + 1) := Nat.lt_trans h1 ((Nat.log2_lt (by omega)).mp (by omega))
    exact Nat.le_of_lt_succ ((Nat.log2_lt (by omega)).mpr h3)
  · by_cases e : n - splitN n = 0
    · rw [e]; exact Nat.zero_le _
    · have h3 : n - splitN n < 2 ^ (L + 1) := Nat.lt_of_le_of_lt (Nat.sub_le _ _) ((Nat.log2_lt (by omega)).mp (by omega))
      exact Nat.le_of_lt_succ ((Nat.log2_lt e).mpr h3)
theorem eqv_cons_nil {d : PyData} {ds : List PyData} : PyData.eqv (.list (d :: ds)) (.list []) = false := rfl
theorem DenL.odd {S : Sys} (G : S.Good K) {H : Hp} {a p : Addr} {ys : List V} {ts : List Tm} (ha : SqL K H a ys) (hp : SqL K H p []) (h : DenL S H ys ts) (hd : ∀ t ∈ ts, t.dep ≤ 60) :
    ∃ d e, Dp K H (.ref a) d ∧ Dp K H (.ref p) e ∧ SeqAt.shaped d = true ∧ SeqAt.shaped e = true ∧ PyData.eqv d e = decide (ts.length = 0) := by
  obtain ⟨ds, a1, b, c, e⟩ := DenL.same G h h hd
  have c' : (PyData.list ds).canLay0 = true := c
  refine ⟨.list ds, .list [], .lst ha a1, .lst hp .nil, shaped_of c' (by show PyData.depthAll ds + 1 ≤ 64; omega), by decide +kernel, ?_⟩
  cases a1 with
  | nil =>
    rw [decide_eq_true (show ts.length = 0 from h.len.symm)]
    rfl
  | cons _ _ =>
    rw [decide_eq_false (show ts.length ≠ 0 from fun z => by rw [← h.len] at z; cases z), eqv_cons_nil]
theorem ok_risen {cc : Addr} (T : Txt K mg cc) (A : SlA P w K mg base Fam) (C_last_of : CalX P w K mg base 1 "last_of" (spLast K mg)) (C_split : Cal P w K mg base 1 "split" spSplit []) (C_pair_seal : Cal P w K mg base 2 "pair_seal" (spPair Fam) []) : CalX P w K mg base 3 "risen" (spRisen K mg Fam) := by
  have Z := T.Z
  obtain ⟨C_BadPaper, g_BadPaper, F_BadPaper⟩ := T.x_BadPaper.ex
  refine calX_of T.d_risen sc_risen (fun vs H Q E h => ?_) (fun f cdv A' outer s H vs Q E hr h => ?_)
  · obtain ⟨S, leaf, lt, place, n, v, r, _, rfl, _⟩ := h
    rfl
  obtain ⟨S, leaf, lt, place, n, v, r, hF, rfl, hleaf, hpn, hlog, hok, h⟩ := h
  have G := A.good hF
  refine ⟨_, (pss_cons (ps_par (i := 5) (j := 6) rfl sc_risen.nd rfl rfl (by decide) rfl rfl (pa_cons (pv 4) (pa_cons (pe_lst pa_nil) pa_nil)) (by rfl))
  (pss_cons (ps_while (passes_of rfl) (pt_cmpR op_gt (pv 3) pe_int (nomark _)) (pss_cons (ps_set (i := 7) sc_risen.nd rfl (Or.inl rfl) (pe_cx C_last_of (takes_of rfl rfl rfl rfl) hr (by omega) rfl (pa_cons (pv 5) pa_nil)))
  (pss_cons (ps_set (i := 5) sc_risen.nd rfl (Or.inl rfl) (pe_slice sl_list (pv 5) po_none (po_some (pe_op op_sub (pe_callB call_len_seq rfl Z.len PySem.boot_len (pa_cons (pv 5) pa_nil)) pe_int))))
  (pss_cons (ps_set (i := 8) sc_risen.nd rfl (Or.inl rfl) (pe_c C_split hr (by omega) rfl (pa_cons (pv 3) pa_nil)))
  (pss_cons (ps_expr (pe_bm PySem.F.plainAttrs_list PySem.F.slot_list_append PySem.F.type_list_append mt_append (pv 6) (pa_cons (pe_tup (pa_cons (pv 7) (pa_cons (pe_cmpR op_lt (pv 2) (pv 8) (nomark _)) pa_nil))) pa_nil)))
  (pss_one (ps_if (pt_cmpR op_lt (pv 2) (pv 8) (nomark _)) (pss_one (ps_set (i := 3) sc_risen.nd rfl (Or.inl rfl) (pv 8))) (pss_one (ps_par (i := 2) (j := 3) rfl sc_risen.nd rfl rfl (by decide) rfl rfl (pa_cons (pe_op op_sub (pv 2) (pv 8)) (pa_cons (pe_op op_sub (pv 3) (pv 8)) pa_nil)) (by rfl))))))))))
  (pss_cons (ps_if (pt_cmpR (op_neD hr.units) (pv 5) (pe_lst pa_nil) (nomark _)) (pss_one (ps_raiseX F_BadPaper g_BadPaper rfl (takes_of rfl rfl rfl rfl) rfl)) pss_nil)
  (pss_cons (ps_set (i := 9) sc_risen.nd rfl (Or.inl rfl) (pv 1))
  (pss_cons (ps_for (passes_of rfl) rfl (pi_list (pe_revL (pv 6))) (pg_tup rfl (pgs_cons (pg_name (i := 7) sc_risen.nd rfl (Or.inl rfl)) (pgs_cons (pg_name (i := 10) sc_risen.nd rfl (Or.inl rfl)) pgs_nil))) (pss_one (ps_set (i := 9) sc_risen.nd rfl (Or.inl rfl) (pe_ifExp (pt_val (pv 10)) (pe_c C_pair_seal hr (by omega) rfl (pa_cons (pv 0) (pa_cons (pv 9) (pa_cons (pv 7) pa_nil)))) (pe_c C_pair_seal hr (by omega) rfl (pa_cons (pv 0) (pa_cons (pv 7) (pa_cons (pv 9) pa_nil))))))))
  (pss_one (ps_ret (pv 9)))))))), ?_⟩
  refine ⟨_, rfl, by show 0 ≤ sizeLine; decide, fun p hp => ⟨_, _, rfl, fun m σ H' => ∃ (place' n' : Nat) (w' : V) (ss : List (Tm × Bool)) (ssv : List V) (y7 y8 : Option V), n' = m ∧ σ = [some (.ref S.f), some leaf, some (.int (place' : Int)), some (.int (n' : Int)), some v, some w', some (.ref p), y7, y8, none, none] ∧
    Ext H H' ∧ S.ok H' (r + plen place n) ∧ H' p = some (.lst ssv) ∧ SideL S H' ssv ss ∧ place' < n' ∧ n'.log2 ≤ 1000 ∧ ss.length ≤ 100000 ∧ plen place' n' + ss.length = plen place n ∧
    ((∃ b ys ts, w' = .ref b ∧ H' b = some (.lst ys) ∧ b ≠ p ∧ DenL S H' ys ts ∧ ts.length + ss.length ≤ 100000 ∧ (∀ t ∈ ts, t.dep ≤ 60) ∧
      (ts.length = plen place' n' → ∀ u H', Ext H H' → S.ok H' r → S.den H' u (riseT lt (ss ++ sidesT place' n' ts)) → Q u H') ∧
      (ts.length ≠ plen place' n' → ∀ C H', mg "BadPaper" = some (.ref C) → Ext H H' → S.ok H' r → E (.ref C) none H')) ∨
     (ss = [] ∧ (∀ H2, Ext H H2 → Odd K H2 w') ∧ ∀ C H', mg "BadPaper" = some (.ref C) → Ext H H' → S.ok H' r → E (.ref C) none H')), ?_, ?_⟩⟩
  · refine ⟨n, place, n, v, [], [], none, none, rfl, rfl, Ext.new hp, G.keep (Kp.new hp) hok, upd_same, .nil, hpn, hlog, Nat.zero_le _, rfl, ?_⟩
    rcases h with ⟨a, ys, ts, rfl, ha, hd, hl, hdep, q1, q2⟩ | ⟨o, q⟩
    · exact .inl ⟨a, ys, ts, rfl, by rw [upd_ne (ne_of_none ha hp)]; exact ha, ne_of_none ha hp, hd.mono G (Kp.new hp).gr, hl, hdep, q1, q2⟩
    · exact .inr ⟨rfl, o, q⟩
  rintro m σ H1 ⟨place', n', w', ss, ssv, y7, y8, rfl, rfl, x1, ok1, hp1, hss, hlt, hlog', hsl, hpl, hw⟩
  refine ⟨_, rfl, _, 1, rfl, rfl, _, rfl, ite2 (fun c => ?_) (fun c => ?_)⟩
  · have c' : 1 < (n' : Int) := of_decide_eq_true c
    have h2 : 2 ≤ n' := by omega
    have hs1 := splitN_lt h2
    have hs2 := splitN_pos n'
    obtain ⟨lg1, lg2⟩ := splitN_log h2 hlog'
    refine ⟨_, fun σ' H' h => h, ?_⟩
    refine ⟨_, rfl, w', rfl, ?_⟩
    rcases hw with ⟨b, ys, ts, rfl, hb, hbp, hd, hl, hdep, q1, q2⟩ | ⟨rfl, o, q⟩
    · refine .inl ⟨b, ys, rfl, hb, fun y hy => ?_, fun e C hC => ?_⟩
      · have hy' := getLast_at hy
        have hlen := hd.len
        obtain ⟨t, ht⟩ : ∃ t, ts[ys.length - 1]? = some t := ⟨ts[ys.length - 1]'(by have := (List.getElem?_eq_some_iff.mp hy').1; omega), List.getElem?_eq_getElem _⟩
        have hyt := hd.at_ _ _ _ hy' ht
        have hpos : 0 < ts.length := by have := (List.getElem?_eq_some_iff.mp ht).1; omega
        refine ⟨_, rfl, _, rfl, b, ys, rfl, .inl (SqL.of hb), _, 1, rfl, rfl, ((ys.length - 1 : Nat) : Int), ?_, b, ys, rfl, SqL.of hb, fun p1 np1 => ?_⟩
        · rw [show ((ys.length - 1 : Nat) : Int) = (ys.length : Int) - 1 by omega]
        rw [cut_to]
        have y1 := Ext.new (o := .lst (ys.take (ys.length - 1))) np1
        have k1 := Kp.new (o := .lst (ys.take (ys.length - 1))) np1
        refine ⟨_, rfl, n', rfl, h2, by omega, ?_⟩
        have np1p : p1 ≠ p := fun z => by rw [z, hp1] at np1; cases np1
        refine ⟨_, rfl, .inl ⟨rfl, ssv, SqL.of (by rw [upd_ne np1p.symm]; exact hp1)⟩, _, rfl, _, rfl, _, rfl, _, _, rfl, rfl, by show 2 ≤ sizeLine; decide, fun q hq => ?_⟩
        have npq : q ≠ p := fun z => by rw [z, upd_ne np1p.symm, hp1] at hq; cases hq
        have z1 : (upd (upd H1 p1 (.lst (ys.take (ys.length - 1)))) q (.tup [y, .bl (decide ((place' : Int) < ((splitN n' : Nat) : Int)))])) p = some (.lst ssv) := by rw [upd_ne npq.symm, upd_ne np1p.symm]; exact hp1
        have y2 := y1.trans (Ext.new (o := .tup [y, .bl (decide ((place' : Int) < ((splitN n' : Nat) : Int)))]) hq)
        have k2 := k1.trans (Kp.new (o := .tup [y, .bl (decide ((place' : Int) < ((splitN n' : Nat) : Int)))]) hq)
        have z2 : (upd (upd H1 p1 (.lst (ys.take (ys.length - 1)))) q (.tup [y, .bl (decide ((place' : Int) < ((splitN n' : Nat) : Int)))])) q = some (.tup [y, .bl (decide ((place' : Int) < ((splitN n' : Nat) : Int)))]) := upd_same
        have z3 : (upd (upd H1 p1 (.lst (ys.take (ys.length - 1)))) q (.tup [y, .bl (decide ((place' : Int) < ((splitN n' : Nat) : Int)))])) p1 = some (.lst (ys.take (ys.length - 1))) := by rw [upd_ne (ne_of_none upd_same hq)]; exact upd_same
        generalize upd (upd H1 p1 (.lst (ys.take (ys.length - 1)))) q (.tup [y, .bl (decide ((place' : Int) < ((splitN n' : Nat) : Int)))]) = H2 at y2 k2 z1 z2 z3 ⊢
        have hsl2 := hss.len
        refine ⟨p, ssv, _, rfl, rfl, z1, by rw [hsl2, sizeLine_eq]; omega, ?_⟩
        have k3 : Kp H2 (upd H2 p (.lst (ssv ++ [.ref q]))) := Kp.lst z1
        have x3 : Ext H (upd H2 p (.lst (ssv ++ [.ref q]))) := (x1.trans y2).mut hp
        have z4 : (upd H2 p (.lst (ssv ++ [.ref q]))) p1 = some (.lst (ys.take (ys.length - 1))) := by rw [upd_ne np1p]; exact z3
        have z5 : (upd H2 p (.lst (ssv ++ [.ref q]))) q = some (.tup [y, .bl (decide ((place' : Int) < ((splitN n' : Nat) : Int)))]) := by rw [upd_ne npq]; exact z2
        have ok3 := G.keep (k2.trans k3) ok1
        have gr3 := (k2.trans k3).gr
        refine ⟨_, rfl, _, rfl, _, _, rfl, rfl, _, rfl, ite2 (fun c2 => ?_) (fun c2 => ?_)⟩
        · have c2' : (place' : Int) < ((splitN n' : Nat) : Int) := of_decide_eq_true c2
          have el : ts.getLastD nonT = t := by
            rw [List.getLastD_eq_getLast?, List.getLast?_eq_getElem?, ← hlen, ht]
            rfl
          have esd : sidesT place' n' ts = (t, true) :: sidesT place' (splitN n') ts.dropLast := by rw [sidesT_low h2 (by omega), el]
          have epl := plen_low (place := place') h2 (by omega)
          refine ⟨_, rfl, ?_⟩
          refine ⟨splitN n', hs1, place', splitN n', .ref p1, ss ++ [(t, true)], ssv ++ [.ref q], _, _, rfl, rfl, x3, ok3, upd_same, (hss.mono G gr3).snoc (by rw [z5, decide_eq_true c2'] ) (G.mono gr3 hyt), by omega, lg1, by rw [List.length_append]; show ss.length + 1 ≤ _; omega, by rw [List.length_append]; show plen place' (splitN n') + (ss.length + 1) = _; omega, .inl ⟨p1, _, ts.dropLast, rfl, z4, np1p, ?_, ?_, fun t ht => hdep t (List.dropLast_subset _ ht), fun el2 => ?_, fun el2 => q2 ?_⟩⟩
          · have := (hd.take (ts.length - 1)).mono G gr3
            rwa [← List.dropLast_eq_take, ← hlen] at this
          · rw [List.length_dropLast, List.length_append]
            show _ + (ss.length + 1) ≤ _
            omega
          · rw [List.length_dropLast] at el2
            have := q1 (by omega)
            rw [esd] at this
            rw [List.append_assoc]
            exact this
          · rw [List.length_dropLast] at el2
            omega
        · have c2' : ¬ (place' : Int) < ((splitN n' : Nat) : Int) := of_decide_eq_false (Bool.eq_false_iff.mpr c2)
          have el : ts.getLastD nonT = t := by
            rw [List.getLastD_eq_getLast?, List.getLast?_eq_getElem?, ← hlen, ht]
            rfl
          have esd : sidesT place' n' ts = (t, false) :: sidesT (place' - splitN n') (n' - splitN n') ts.dropLast := by rw [sidesT_high h2 (by omega), el]
          have epl := plen_high (place := place') h2 (by omega)
          refine ⟨_, rfl, _, rfl, _, _, rfl, rfl, _, rfl, _, rfl, _, _, rfl, rfl, _, _, rfl, ?_⟩
          refine ⟨n' - splitN n', by omega, place' - splitN n', n' - splitN n', .ref p1, ss ++ [(t, false)], ssv ++ [.ref q], some y, some (.int ((splitN n' : Nat) : Int)), rfl, ?_, x3, ok3, upd_same, (hss.mono G gr3).snoc (by rw [z5, decide_eq_false c2'] ) (G.mono gr3 hyt), by omega, lg2, by rw [List.length_append]; show ss.length + 1 ≤ _; omega, by rw [List.length_append]; show plen (place' - splitN n') (n' - splitN n') + (ss.length + 1) = _; omega, .inl ⟨p1, _, ts.dropLast, rfl, z4, np1p, ?_, ?_, fun t ht => hdep t (List.dropLast_subset _ ht), fun el2 => ?_, fun el2 => q2 ?_⟩⟩
          · rw [show ((place' - splitN n' : Nat) : Int) = (place' : Int) - ((splitN n' : Nat) : Int) by omega, show ((n' - splitN n' : Nat) : Int) = (n' : Int) - ((splitN n' : Nat) : Int) by omega]
            rfl
          · have := (hd.take (ts.length - 1)).mono G gr3
            rwa [← List.dropLast_eq_take, ← hlen] at this
          · rw [List.length_dropLast, List.length_append]
            show _ + (ss.length + 1) ≤ _
            omega
          · rw [List.length_dropLast] at el2
            have := q1 (by omega)
            rw [esd] at this
            rw [List.append_assoc]
            exact this
          · rw [List.length_dropLast] at el2
            omega
      · refine q2 ?_ C H1 hC x1 (G.less ok1 (by omega))
        have hlen := hd.len
        rw [e] at hlen
        have : plen place' n' ≠ 0 := by
          by_cases hp : place' < splitN n'
          · rw [plen_low h2 hp]
            omega
          · rw [plen_high h2 hp]
            omega
        rw [← hlen]
        exact this.symm
    · exact .inr ⟨(o H1 x1).ty, fun C hC => q C H1 hC x1 (G.less ok1 (by omega))⟩
  · have c' : ¬ 1 < (n' : Int) := of_decide_eq_false (Bool.eq_false_iff.mpr c)
    have pz : plen place' n' = 0 := plen_one (by omega)
    refine ⟨_, rfl, by show 0 ≤ sizeLine; decide, fun p2 hp2 => ?_⟩
    have x2 := x1.trans (Ext.new (o := .lst []) hp2)
    have k2 := Kp.new (o := .lst []) hp2
    rcases hw with ⟨b, ys, ts, rfl, hb, hbp, hd, hl, hdep, q1, q2⟩ | ⟨rfl, o, q⟩
    · obtain ⟨d, e, a1, a2, a3, a4, a5⟩ := (hd.mono G k2.gr).odd (K := K) G (a := b) (p := p2) (SqL.of (by rw [upd_ne (ne_of_none hb hp2)]; exact hb)) (SqL.of upd_same) hdep
      refine ⟨d, e, a1, a2, a3, a4, _, rfl, ?_⟩
      rw [a5]
      by_cases hz : ts.length = 0
      · rw [decide_eq_true hz]
        refine ⟨_, rfl, ?_⟩
        have x4 : Ext H (upd H1 p2 (.lst [])) := x2
        have hp4 : (upd H1 p2 (.lst [])) p = some (.lst ssv) := by rw [upd_ne (ne_of_none hp1 hp2)]; exact hp1
        have ok4 := G.keep k2 ok1
        have hss4 := hss.mono G k2.gr
        refine ⟨_, rfl, p, ssv, rfl, SqL.of hp4, fun p3 np3 => ⟨p3, rfl, ⟨_, SqL.of upd_same⟩, ?_⟩⟩
        have x5 := x4.trans (Ext.new (o := .lst ssv.reverse) np3)
        have k5 := Kp.new (o := .lst ssv.reverse) np3
        have hp5 : (upd (upd H1 p2 (.lst [])) p3 (.lst ssv.reverse)) p3 = some (.lst ssv.reverse) := upd_same
        have ok5 := G.keep k5 ok4
        have hss5 := hss4.mono G k5.gr
        have hleaf5 := G.mono x5.gr hleaf
        generalize upd (upd H1 p2 (.lst [])) p3 (.lst ssv.reverse) = H5 at x5 hp5 ok5 hss5 hleaf5 ⊢
        have hsl2 := hss.len
        refine for_list (K := K) (a := p3) (xs := ssv.reverse) (fun i σ H' => ∃ (u : V) (z7 z8 z10 : Option V), σ = [some (.ref S.f), some leaf, some (.int (place' : Int)), some (.int (n' : Int)), some v, some (.ref b), some (.ref p), z7, z8, some u, z10] ∧ Ext H5 H' ∧ S.ok H' (r + (ss.length - i)) ∧ S.den H' u (riseT lt (ss.drop (ss.length - i))))
          ⟨leaf, _, _, _, rfl, Ext.refl _, G.less ok5 (by omega), by rw [Nat.sub_zero, List.drop_length]; exact hleaf5⟩ (fun i σ H' _ ⟨_, _, _, _, _, x, _⟩ => SqL.of (x.lst hp5)) ?_ ?_
        · rintro i y σ H' hi ⟨u, z7, z8, z10, rfl, x, ok, hu⟩
          have hlt := (List.getElem?_eq_some_iff.mp hi).1
          rw [List.length_reverse] at hlt
          rw [List.getElem?_reverse hlt] at hi
          have hj : ssv.length - 1 - i < ss.length := by omega
          obtain ⟨q, a, rfl, hq, ha⟩ := (hss5.mono G x.gr).at_ _ y (ss[ssv.length - 1 - i]) hi (List.getElem?_eq_getElem hj)
          have ed : ss.drop (ss.length - (i + 1)) = ss[ssv.length - 1 - i] :: ss.drop (ss.length - i) := by
            rw [show ss.length - (i + 1) = ssv.length - 1 - i by omega, List.drop_eq_getElem_cons hj, show ssv.length - 1 - i + 1 = ss.length - i by omega]
          refine ⟨q, _, rfl, SqT.of hq, rfl, ?_⟩
          rw [ed, riseT_cons]
          generalize ss[ssv.length - 1 - i] = sd at hq ha ⊢
          obtain ⟨st, sb⟩ := sd
          refine ⟨_, _, rfl, _, _, rfl, rfl, ?_⟩
          refine ⟨_, rfl, _, rfl, ?_⟩
          cases sb with
          | true =>
            refine iteT ?_
            refine ⟨_, rfl, _, rfl, _, rfl, S, u, a, _, _, r + (ss.length - (i + 1)), hF, rfl, G.less ok (by omega), hu, ha, fun v' H'' x' ok' d' => ?_⟩
            exact ⟨v', _, _, _, rfl, x.trans x', ok', d'⟩
          | false =>
            refine iteF ?_
            refine ⟨_, rfl, _, rfl, _, rfl, S, a, u, _, _, r + (ss.length - (i + 1)), hF, rfl, G.less ok (by omega), ha, hu, fun v' H'' x' ok' d' => ?_⟩
            exact ⟨v', _, _, _, rfl, x.trans x', ok', d'⟩
        · rintro σ H6 ⟨u, z7, z8, z10, rfl, x6, ok6, hu⟩
          rw [List.length_reverse, hsl2, Nat.sub_self] at hu
          refine ⟨u, rfl, q1 (by omega) u H6 (x5.trans x6) (G.less ok6 (by omega)) ?_⟩
          rw [sidesT_one (by omega), List.append_nil]
          exact hu
      · rw [decide_eq_false hz]
        exact q2 (by omega) _ _ g_BadPaper x2 (G.less (G.keep k2 ok1) (by omega))
    · obtain ⟨d, a1, a2, a3⟩ := (o _ x2).ne
      refine ⟨d, .list [], a1, .lst (SqL.of upd_same) .nil, a2, by decide +kernel, _, rfl, ?_⟩
      rw [a3]
      exact q _ _ g_BadPaper x2 (G.less (G.keep k2 ok1) (by omega))
end

/-! ### what is refused -/
def spRefused (K : PySem.W.Frag) (Fam : Sys → Prop) : Sp := fun vs H Q _ => ∃ (S : Sys) (leaf : V) (lt : Tm) (place n : Nat) (v : V) (r : Nat), Fam S ∧ vs = [.ref S.f, leaf, .int (place : Int), .int (n : Int), v] ∧ S.den H leaf lt ∧ place < n ∧ n.log2 ≤ 1000 ∧ S.ok H (r + plen place n) ∧
  ((∃ a ys ts, v = .ref a ∧ H a = some (.lst ys) ∧ DenL S H ys ts ∧ ts.length ≤ 100000 ∧ (∀ t ∈ ts, t.dep ≤ 60) ∧ ts.length ≠ plen place n) ∨ ∀ H', Ext H H' → Odd K H' v) ∧
  ∀ H', Ext H H' → S.ok H' r → Q (.bl true) H'
section
variable {P : Program} {w : World} {K : PySem.W.Frag} {mg : Str → Option Value} {base : Heap} {Fam : Sys → Prop}
theorem ok_refused {cc : Addr} (T : Txt K mg cc) (A : SlA P w K mg base Fam) (C_risen : CalX P w K mg base 3 "risen" (spRisen K mg Fam)) : Cal P w K mg base 4 "_law_refused" (spRefused K Fam) [] := by
  have Z := T.Z
  obtain ⟨C_BadPaper, g_BadPaper, F_BadPaper⟩ := T.x_BadPaper.ex
  obtain ⟨C_BookError, g_BookError⟩ := T.g_BookError
  obtain ⟨C_NoPlace, g_NoPlace⟩ := T.g_NoPlace
  obtain ⟨C_BadRow, g_BadRow⟩ := T.g_BadRow
  refine cal_of T.d__law_refused sc__law_refused (fun vs H Q E h => ?_) (fun f cdv A' outer s H vs Q E hr h => ?_)
  · obtain ⟨S, leaf, lt, place, n, v, r, _, rfl, _⟩ := h
    rfl
  obtain ⟨S, leaf, lt, place, n, v, r, hF, rfl, hleaf, hpn, hlog, hok, h, q⟩ := h
  refine ⟨_, (pss_cons (ps_try_as (i := 5) rfl rfl sc__law_refused.nd rfl rfl ⟨rfl, by decide, .inl g_BadPaper⟩ takes0 (fun W pn xe tk po => (pss_one (ps_expr (pe_cx C_risen tk hr (by omega) rfl (pa_cons (pv 0) (pa_cons (pv 1) (pa_cons (pv 2) (pa_cons (pv 3) (pa_cons (pv 4) pa_nil))))))))) (fun a oe cls d pn hz hf => (pss_when (P := cls = .ref C_BadPaper ∧ d = none) fun hsu => (pss_cons (ps_set (i := 6) sc__law_refused.nd rfl (Or.inl rfl) (pe_and (pe_callB (call_isE F_BadPaper.cP (zc_of hz hsu) hf) rfl Z.isinstance (by decide +kernel) (pa_cons (pv 5) (pa_cons (pe_bltn (v := .ty "ValueError") rfl Z.ValueError (by decide +kernel) rfl) pa_nil))) (pe_one (pe_callB (call_isE F_BadPaper.cP (zc_of hz hsu) hf) rfl Z.isinstance (by decide +kernel) (pa_cons (pv 5) (pa_cons (pe_glob (v := .ref C_BookError) rfl g_BookError rfl) pa_nil))))))
  (pss_one (ps_ret (pe_and (pv 6) (pe_and (pe_not (pe_callB (call_isE F_BadPaper.cP (zc_of hz hsu) hf) rfl Z.isinstance (by decide +kernel) (pa_cons (pv 5) (pa_cons (pe_glob (v := .ref C_BadRow) rfl g_BadRow rfl) pa_nil)))) (pe_one (pe_not (pe_callB (call_isE F_BadPaper.cP (zc_of hz hsu) hf) rfl Z.isinstance (by decide +kernel) (pa_cons (pv 5) (pa_cons (pe_glob (v := .ref C_NoPlace) rfl g_NoPlace rfl) pa_nil)))))))))))))
  (pss_one (ps_ret pe_bl))), ?_⟩
  have G := A.good hF
  refine ⟨_, rfl, _, rfl, _, rfl, _, rfl, _, rfl, S, leaf, lt, place, n, v, r, hF, rfl, hleaf, hpn, hlog, hok, ?_⟩
  rcases h with ⟨a, ys, ts, rfl, ha, hd, hl, hdep, hne⟩ | o
  · refine .inl ⟨a, ys, ts, rfl, ha, hd, hl, hdep, fun z => absurd z hne, fun _ C H' hC x ok => ?_⟩
    rw [g_BadPaper] at hC
    cases hC
    refine ⟨true, F_BadPaper.eP, fun _ p hp => ⟨⟨rfl, rfl⟩, ?_⟩, fun z => nomatch z⟩
    refine ⟨_, rfl, _, _, true, rfl, fun u h => h, T.q_BadPaper_ValueError _ g_BadPaper, _, rfl, ?_⟩
    refine iteT ⟨_, rfl, _, _, true, rfl, fun u h => h, T.q_BadPaper_BookError _ _ g_BadPaper g_BookError, ?_⟩
    refine ⟨_, rfl, _, rfl, iteT ⟨_, rfl, _, _, false, rfl, fun u h => h, T.q_BadPaper_BadRow _ _ g_BadPaper g_BadRow, _, rfl, _, rfl, iteT ⟨_, rfl, _, _, false, rfl, fun u h => h, T.q_BadPaper_NoPlace _ _ g_BadPaper g_NoPlace, _, rfl, q _ x ok⟩⟩⟩
  · refine .inr ⟨o, fun C H' hC x ok => ?_⟩
    rw [g_BadPaper] at hC
    cases hC
    refine ⟨true, F_BadPaper.eP, fun _ p hp => ⟨⟨rfl, rfl⟩, ?_⟩, fun z => nomatch z⟩
    refine ⟨_, rfl, _, _, true, rfl, fun u h => h, T.q_BadPaper_ValueError _ g_BadPaper, _, rfl, ?_⟩
    refine iteT ⟨_, rfl, _, _, true, rfl, fun u h => h, T.q_BadPaper_BookError _ _ g_BadPaper g_BookError, ?_⟩
    refine ⟨_, rfl, _, rfl, iteT ⟨_, rfl, _, _, false, rfl, fun u h => h, T.q_BadPaper_BadRow _ _ g_BadPaper g_BadRow, _, rfl, _, rfl, iteT ⟨_, rfl, _, _, false, rfl, fun u h => h, T.q_BadPaper_NoPlace _ _ g_BadPaper g_NoPlace, _, rfl, q _ x ok⟩⟩⟩
end

/-! ### a text some times -/
def repS (x : Str) (n : Int) : Str := if n < 1 then Str.empty else if (n == 1 || x.length == 0) = true then x else ⟨(List.replicate n.toNat x.cps).foldl (· ++ ·) #[]⟩
def rRepS : R2 := fun x y H Q => ∃ i k, x = .str i ∧ y = .int k ∧ 0 ≤ k ∧ k ≤ 100000 ∧ i.length ≤ 100 ∧ (repS i k).length ≤ sizeLine ∧ Q (.str (repS i k)) H
theorem op_mulS {X : Cx} : OpR X (binaryOp .Mult) rRepS := by
  intro pins s σ H x y v u Q I rx ry h
  obtain ⟨i, k, rfl, rfl, h0, h1, h2, h3, q⟩ := h
  obtain ⟨t, rfl⟩ := rx
  obtain ⟨t', rfl⟩ := ry
  refine PySem.P.mul_str ?_ (fun _ _ => ?_) (fun _ _ => ?_) ?_
  · have a1 : ¬ k < -(2 ^ 63 : Int) := by omega
    have a2 : ¬ k ≥ 2 ^ 63 := by omega
    rw [decide_eq_false a1, decide_eq_false a2]
    rfl
  · rename_i hk _
    have : (100 : Int) ≤ (2 ^ 63 - 1) / k := by
      refine (Int.le_ediv_iff_mul_le (by omega)).mpr ?_
      omega
    omega
  · have : i.length * k.toNat ≤ 100 * 100000 := Nat.mul_le_mul h2 (by omega)
    refine decide_eq_false ?_
    show ¬ i.length * k.toNat > sizeLine
    rw [sizeLine_eq]
    omega
  · unfold repS at q h3
    by_cases c1 : k < 1
    · rw [if_pos c1] at q h3 ⊢
      exact ⟨by decide, .str _, H, I.tok _, ⟨_, rfl⟩, q⟩
    · rw [if_neg c1] at q h3 ⊢
      by_cases c2 : (k == 1 || i.length == 0) = true
      · rw [if_pos c2] at q h3 ⊢
        exact ⟨.str _, H, I, ⟨_, rfl⟩, q⟩
      · rw [if_neg c2] at q h3 ⊢
        exact ⟨h3, .str _, H, I.tok _, ⟨_, rfl⟩, q⟩

/-! ### the program's other seals -/
section
variable {P : Program} {w : World} {K : PySem.W.Frag} {mg : Str → Option Value} {base : Heap} {Fam : Sys → Prop}
def spMark (m : Str) (Fam : Sys → Prop) : Sp := fun vs H Q _ => ∃ (S : Sys) (va vb : V) (a b : Tm) (r : Nat), Fam S ∧ vs = [.ref S.f, va, vb] ∧ S.ok H (r + 1) ∧ S.den H va a ∧ S.den H vb b ∧ ∀ v H', Ext H H' → S.ok H' r → S.den H' v (.sl m a b) → Q v H'
theorem ok_leaf_seal {cc : Addr} (T : Txt K mg cc) (A : SlA P w K mg base Fam) : Cal P w K mg base 2 "leaf_seal" (spMark "leaf" Fam) [] := by
  refine cal_of T.d_leaf_seal sc_leaf_seal (fun vs H Q E h => ?_) (fun f cdv A' outer s H vs Q E hr h => ?_)
  · obtain ⟨S, va, vb, a, b, r, _, rfl, _⟩ := h
    rfl
  obtain ⟨S, va, vb, a, b, r, hF, rfl, hok, ha, hb, q⟩ := h
  refine ⟨_, (pss_one (ps_ret (pe_sl (i := 0) A.held hr (by omega) rfl (by first | exact Or.inl rfl | exact Or.inr (Or.inl rfl) | exact Or.inr (Or.inr rfl)) (pa_cons pe_str (pa_cons (pv 1) (pa_cons (pv 2) pa_nil)))))), ?_⟩
  exact ⟨S, _, hF, rfl, hok, _, rfl, _, rfl, r, "leaf", a, b, _, _, rfl, by decide +kernel, hok, ha, hb, fun v H' e ok d => q v H' e ok d⟩
theorem ok_book_seal {cc : Addr} (T : Txt K mg cc) (A : SlA P w K mg base Fam) : Cal P w K mg base 2 "book_seal" (spMark "book" Fam) [] := by
  refine cal_of T.d_book_seal sc_book_seal (fun vs H Q E h => ?_) (fun f cdv A' outer s H vs Q E hr h => ?_)
  · obtain ⟨S, va, vb, a, b, r, _, rfl, _⟩ := h
    rfl
  obtain ⟨S, va, vb, a, b, r, hF, rfl, hok, ha, hb, q⟩ := h
  refine ⟨_, (pss_one (ps_ret (pe_sl (i := 0) A.held hr (by omega) rfl (by first | exact Or.inl rfl | exact Or.inr (Or.inl rfl) | exact Or.inr (Or.inr rfl)) (pa_cons pe_str (pa_cons (pv 1) (pa_cons (pv 2) pa_nil)))))), ?_⟩
  exact ⟨S, _, hF, rfl, hok, _, rfl, _, rfl, r, "book", a, b, _, _, rfl, by decide +kernel, hok, ha, hb, fun v H' e ok d => q v H' e ok d⟩
end

theorem rep9 : ∀ n : Nat, n < 9 → txtOk (repS "a" (n : Int)) = true ∧ (repS "a" (n : Int)).length ≤ sizeLine := by decide +kernel
section
variable {P : Program} {w : World} {K : PySem.W.Frag} {mg : Str → Option Value}
theorem path_dep {ts : List Tm} {place : Nat} (h : ∀ t ∈ ts, t.dep ≤ 1) (hl : ts.length ≤ 512) : ∀ t ∈ pathT ts place, t.dep ≤ 60 :=
  pathT_mem fun us hu hlu => Nat.le_trans (topT_dep 9 us (by omega) fun t ht => h t (hu t ht)) (by omega)
theorem path_bits {o n : Nat} (h : 0 < n) : ((plen o n : Nat) : Int) ≤ ((Builtin.Int.intBits ((n : Int) - 1) : Nat) : Int) := by
  rw [show (n : Int) - 1 = ((n - 1 : Nat) : Int) by omega]
  unfold Builtin.Int.intBits
  by_cases e : n - 1 = 0
  · rw [plen_one (by omega)]
    omega
  · have e3 : (((n - 1 : Nat) : Int) == 0) = false := by
      rw [beq_eq_false_iff_ne]
      omega
    rw [e3]
    have h1 : n - 1 < 2 ^ ((n - 1).log2 + 1) := Nat.lt_log2_self
    have q := plen_le ((n - 1).log2 + 1) o n (by omega)
    show ((plen o n : Nat) : Int) ≤ (((((n - 1 : Nat) : Int)).natAbs.log2 + 1 : Nat) : Int)
    rw [Int.natAbs_natCast]
    omega
theorem DenL.at_nat {S : Sys} {H : Hp} {xs : List V} {ts : List Tm} (h : DenL S H xs ts) {i : Nat} (h1 : i < ts.length) : ∃ v, atI xs (i : Int) = some v ∧ S.den H v (ts.getD i nonT) := by
  obtain ⟨v, a, b⟩ := atI_den h (i := (i : Int)) (by omega) (by omega)
  exact ⟨v, a, b⟩
theorem ok_law {fa cc PT : Addr} (T : Txt K mg cc) (hfa : mg "law" = some (.ref fa)) : ∃ fd : FuncData, (∀ (s : Shared) (v : Value), BindsTo s fd ⟨[v], []⟩ [("_law_script", v)]) ∧ ∀ base : Heap, K.In base → base.Ns mainGlobals mg → LamX.TabB base mg cc PT → FnOk P w K mg base L2.CX0 20 fa fd ["_law_script"] (spLaw K PT) := by
  have Z := T.Z
  refine law_fnT T.d_law hfa sc_law (fun vs H Q E h => ?_) (fun base TB f cdv A' outer s H vs Q E hr h => ?_)
  · obtain ⟨a, ns, rfl, _⟩ := h
    rfl
  obtain ⟨a, ns, rfl, hS, hlen, hPT, q⟩ := h
  have A := sla3 (P := P) (w := w) (base := base) T
  have C__law_seal_by := ok_seal_by (P := P) (w := w) T TB
  have C__law_cell_at := ok_cell_at (P := P) (w := w) (base := base) T
  have C__law_leaves := ok_leaves T A
  have C_top_of := ok_top_of T A 10
  have C__law_top := ok_law_top T A 10
  have C_path_of := ok_path_of T A (ok_split T) (ok_top_of T A) 10
  have C__law_path := ok__law_path T A (ok_law_split T) (ok_law_top T A) 10
  have C_none_seal := ok_none_seal T A
  have C_leaf_seal := ok_leaf_seal T A
  have C_book_seal := ok_book_seal T A
  have C_risen := ok_risen T A (ok_last T) (ok_split T) (ok_pair_seal T A)
  have C__law_refused := ok_refused T A C_risen
  refine ⟨_, (pss_cons (ps_set (i := 0) sc_law.nd rfl (Or.inl rfl) (pe_slice sl_list (pv 0) po_none (po_some pe_int)))
  (pss_cons (ps_set (i := 1) sc_law.nd rfl (Or.inl rfl) (pe_c C__law_seal_by hr (by omega) rfl (pa_cons (pv 0) pa_nil)))
  (pss_cons (ps_set (i := 2) sc_law.nd rfl (Or.inl rfl) (pe_c C__law_leaves hr (by omega) rfl (pa_cons (pv 1) (pa_cons (pe_slice sl_list (pv 0) (po_some pe_int) po_none) pa_nil))))
  (Evl.pss_cut (ps_if (pt_cmpR (op_eqD hr.units) (pv 2) (pe_lst pa_nil) (nomark _)) (pss_one (ps_set (i := 2) sc_law.nd rfl (Or.inl rfl) (pe_lst (pa_cons (pe_sl (i := 1) A.held hr (by omega) rfl (by first | exact Or.inl rfl | exact Or.inr (Or.inl rfl) | exact Or.inr (Or.inr rfl)) (pa_cons pe_str (pa_cons pe_str (pa_cons (pe_op op_mod (pe_c C__law_cell_at hr (by omega) rfl (pa_cons (pv 0) (pa_cons pe_int pa_nil))) pe_int) pa_nil)))) pa_nil)))) pss_nil)
  (pss_cons (ps_set (i := 3) sc_law.nd rfl (Or.inr rfl) (pe_callB call_len_seq rfl Z.len PySem.boot_len (pa_cons (pv 2) pa_nil)))
  (pss_cons (ps_set (i := 4) sc_law.nd rfl (Or.inl rfl) (pe_callTy call_list_of rfl Z.list (by decide +kernel) (pa_cons (pv 2) pa_nil)))
  (pss_cons (ps_if (PW.pt (pw_or (pt_cmpR (op_neD hr.units) (pe_c C_top_of hr (by omega) rfl (pa_cons (pv 1) (pa_cons (pv 4) pa_nil))) (pe_c C__law_top hr (by omega) rfl (pa_cons (pv 1) (pa_cons (pv 2) pa_nil))) (nomark _)) (pw_or1 (pt_cmpR (op_neD hr.units) (pe_c C_top_of hr (by omega) rfl (pa_cons (pv 1) (pa_cons (pe_lst pa_nil) pa_nil))) (pe_sl (i := 1) A.held hr (by omega) rfl (by first | exact Or.inl rfl | exact Or.inr (Or.inl rfl) | exact Or.inr (Or.inr rfl)) (pa_cons pe_str (pa_cons pe_int (pa_cons pe_int pa_nil)))) (nomark _))))) (pss_one (ps_ret pe_bl)) pss_nil)
  (pss_cons (ps_if (pt_cmpR (op_neD hr.units) (pe_c C_none_seal hr (by omega) rfl (pa_cons (pv 1) pa_nil)) (pe_sl (i := 1) A.held hr (by omega) rfl (by first | exact Or.inl rfl | exact Or.inr (Or.inl rfl) | exact Or.inr (Or.inr rfl)) (pa_cons pe_str (pa_cons pe_int (pa_cons pe_int pa_nil)))) (nomark _)) (pss_one (ps_ret pe_bl)) pss_nil)
  (pss_cons (ps_if (pt_cmpR (op_neD hr.units) (pe_c C_book_seal hr (by omega) rfl (pa_cons (pv 1) (pa_cons (pv 3) (pa_cons (pe_ix ix_list (pv 2) pe_int (fun _ _ => rfl)) pa_nil)))) (pe_sl (i := 1) A.held hr (by omega) rfl (by first | exact Or.inl rfl | exact Or.inr (Or.inl rfl) | exact Or.inr (Or.inr rfl)) (pa_cons pe_str (pa_cons (pv 3) (pa_cons (pe_ix ix_list (pv 2) pe_int (fun _ _ => rfl)) pa_nil)))) (nomark _)) (pss_one (ps_ret pe_bl)) pss_nil)
  (pss_cons (ps_if (pt_cmpR (op_neD hr.units) (pe_c C_leaf_seal hr (by omega) rfl (pa_cons (pv 1) (pa_cons (pe_op op_mulS pe_str (pe_op op_mod (pv 3) pe_int)) (pa_cons (pe_ix ix_list (pv 2) pe_int (fun _ _ => rfl)) pa_nil)))) (pe_sl (i := 1) A.held hr (by omega) rfl (by first | exact Or.inl rfl | exact Or.inr (Or.inl rfl) | exact Or.inr (Or.inr rfl)) (pa_cons pe_str (pa_cons (pe_op op_mulS pe_str (pe_op op_mod (pv 3) pe_int)) (pa_cons (pe_ix ix_list (pv 2) pe_int (fun _ _ => rfl)) pa_nil)))) (nomark _)) (pss_one (ps_ret pe_bl)) pss_nil)
  (pss_cons (ps_set (i := 5) sc_law.nd rfl (Or.inl rfl) (pe_listRg rfl rfl Z.list (prg_1 rfl Z.range (pv 3))))
  (Evl.pss_cut (ps_if (pt_cmpR op_gt (pv 3) pe_int (nomark _)) (pss_one (ps_set (i := 5) sc_law.nd rfl (Or.inl rfl) (pe_op op_cat (pe_lst (pa_cons pe_int (pa_cons (pe_op op_sub (pv 3) pe_int) pa_nil))) (pe_lc (own := [("_law_cell", 11)]) (g := gName 11) (tt := tYes) rfl sc_law.nd (pi_list (pe_slice sl_list (pv 0) po_none (po_some pe_int))) (blkOk_by (N := N_law) (sc := defScope s_law) (by decide +kernel)) (fun _ _ _ _ _ => (pg_name (i := 11) sc_law.nd rfl (Or.inl rfl))) (fun _ _ _ _ _ => pts_nil) (fun _ _ _ _ _ => (pe_op op_mod (pv 11) (pv 3))))))) pss_nil)
  (pss_cons (ps_for PassesOwn.never rfl (pi_list (pv 5)) (pg_name (i := 6) sc_law.nd rfl (Or.inl rfl)) (pss_cons (ps_set (i := 7) sc_law.nd rfl (Or.inl rfl) (pe_c C_path_of hr (by omega) rfl (pa_cons (pv 1) (pa_cons (pv 4) (pa_cons (pv 6) pa_nil)))))
  (pss_cons (ps_if (PW.pt (pw_or (pt_not (pt_val (pe_callB call_isi rfl Z.isinstance (by decide +kernel) (pa_cons (pv 7) (pa_cons (pe_bltn (v := .ty "list") rfl Z.list (by decide +kernel) rfl) pa_nil))))) (pw_or1 (pt_cmpR (op_neD hr.units) (pv 7) (pe_c C__law_path hr (by omega) rfl (pa_cons (pv 1) (pa_cons (pv 2) (pa_cons (pv 6) pa_nil)))) (nomark _))))) (pss_one (ps_ret pe_bl)) pss_nil)
  (pss_cons (ps_if (pt_cmpR op_gt (pe_callB call_len_seq rfl Z.len PySem.boot_len (pa_cons (pv 7) pa_nil)) (pe_bits (pe_op op_sub (pv 3) pe_int)) (nomark _)) (pss_one (ps_ret pe_bl)) pss_nil)
  (pss_cons (ps_set (i := 8) sc_law.nd rfl (Or.inl rfl) (pe_callTy call_list_of rfl Z.list (by decide +kernel) (pa_cons (pv 7) pa_nil)))
  (pss_cons (ps_set (i := 9) sc_law.nd rfl (Or.inl rfl) (pe_cx C_risen takes0 hr (by omega) rfl (pa_cons (pv 1) (pa_cons (pe_ix ix_list (pv 2) (pv 6) (fun _ _ => rfl)) (pa_cons (pv 6) (pa_cons (pv 3) (pa_cons (pv 7) pa_nil)))))))
  (pss_cons (ps_if (PW.pt (pw_or (pt_cmpR (op_neD hr.units) (pv 9) (pe_c C__law_top hr (by omega) rfl (pa_cons (pv 1) (pa_cons (pv 2) pa_nil))) (nomark _)) (pw_or1 (pt_cmpR (op_neD hr.units) (pv 7) (pv 8) (nomark _))))) (pss_one (ps_ret pe_bl)) pss_nil)
  (pss_cons (ps_set (i := 10) sc_law.nd rfl (Or.inl rfl) (pe_ix ix_list (pv 2) (pv 6) (fun _ _ => rfl)))
  (pss_cons (ps_if (pt_not (pt_val (pe_c C__law_refused hr (by omega) rfl (pa_cons (pv 1) (pa_cons (pv 10) (pa_cons (pv 6) (pa_cons (pv 3) (pa_cons (pe_op op_cat (pv 7) (pe_lst (pa_cons (pe_ix ix_list (pv 2) pe_int (fun _ _ => rfl)) pa_nil))) pa_nil)))))))) (pss_one (ps_ret pe_bl)) pss_nil)
  (Evl.pss_cut (ps_if (PW.pt (pw_and (pt_cmpR (op_neD hr.units) (pv 7) (pe_lst pa_nil) (nomark _)) (pw_and1 (pt_not (pt_val (pe_c C__law_refused hr (by omega) rfl (pa_cons (pv 1) (pa_cons (pv 10) (pa_cons (pv 6) (pa_cons (pv 3) (pa_cons (pe_slice sl_list (pv 7) (po_some pe_int) po_none) pa_nil))))))))))) (pss_one (ps_ret pe_bl)) pss_nil)
  (pss_one (ps_if (pt_not (pt_val (pe_c C__law_refused hr (by omega) rfl (pa_cons (pv 1) (pa_cons (pv 10) (pa_cons (pv 6) (pa_cons (pv 3) (pa_cons (pe_callTy call_tuple_of rfl Z.tuple (by decide +kernel) (pa_cons (pv 7) pa_nil)) pa_nil)))))))) (pss_one (ps_ret pe_bl)) pss_nil))))))))))))
  (pss_one (ps_ret (pe_cmpR (op_eqD hr.units) (pv 4) (pv 2) (nomark _))))))))))))))))), ?_⟩
  refine ⟨.ref a, rfl, 63, rfl, a, _, rfl, hS, fun c nc => ?_⟩
  rw [take63 hlen]
  refine ⟨_, rfl, c, ns, rfl, SqL.of upd_same, by rw [upd_ne (ne_of_none hPT nc)]; exact hPT, fun S H1 hF x1 ok1 => ?_⟩
  have G := A.good hF
  have hc1 : H1 c = some (.lst (ns.map V.int)) := x1 _ _ upd_same fun _ z => nomatch z
  have e16 : sizeLine = 16777216 := sizeLine_eq
  refine ⟨_, rfl, _, rfl, 1, rfl, c, _, rfl, SqL.of hc1, fun c2 nc2 => ?_⟩
  rw [show (1 : Int) = ((1 : Nat) : Int) from rfl, cut_from, ← List.map_drop]
  have y1 := Ext.new (o := .lst ((ns.drop 1).map V.int)) nc2
  have j1 := Kp.new (o := .lst ((ns.drop 1).map V.int)) nc2
  refine ⟨S, c2, ns.drop 1, 16000000, hF, rfl, SqL.of upd_same, by rw [List.length_drop]; omega, G.less (G.keep j1 ok1) (by omega), fun D0 ys0 ts0 H2 x2 nD0 hD0 ok2 hd0 _ hl0 hdep0 => ?_⟩
  have hc2 := x2.lst (y1.lst hc1)
  -- one leaf at least
  refine ⟨fun σ H' => ∃ (D : Addr) (ys : List V) (ts : List Tm), σ = [some (.ref c), some (.ref S.f), some (.ref D), none, none, none, none, none, none, none, none, none] ∧ Ext H2 H' ∧ S.ok H' 15999990 ∧ H' D = some (.lst ys) ∧ DenL S H' ys ts ∧ 0 < ts.length ∧ ts.length ≤ 400 ∧ ∀ t ∈ ts, t.dep ≤ 1, ?_, ?_⟩
  · refine ⟨_, rfl, by show 0 ≤ sizeLine; decide, fun p hp => ?_⟩
    have u1 := Ext.new (o := .lst []) hp
    have k1 := Kp.new (o := .lst []) hp
    obtain ⟨d, e, a1, a2, a3, a4, a5⟩ := (hd0.mono G k1.gr).odd (K := K) G (a := D0) (p := p) (SqL.of (u1.lst hD0)) (SqL.of upd_same) fun t ht => Nat.le_trans (hdep0 t ht) (by decide)
    refine ⟨d, e, a1, a2, a3, a4, _, rfl, ?_⟩
    rw [a5]
    have okp := G.keep k1 ok2
    by_cases hz : ts0.length = 0
    · rw [decide_eq_true hz]
      refine iteT ?_
      refine ⟨S, _, hF, rfl, okp, _, rfl, c, ns, 0, rfl, SqL.of (u1.lst hc2), by decide, _, 7, rfl, rfl, by show (0 : Int) < 7; decide, 15999999, "leaf", .str "", .int _, _, _, rfl, by decide +kernel, G.less okp (by decide), G.str _ okp (by decide +kernel), G.int _ okp, fun v H3 x3 ok3 d3 => ?_⟩
      refine ⟨by show 1 ≤ sizeLine; decide, fun p2 hp2 => ?_⟩
      have u2 := Ext.new (o := .lst [v]) hp2
      refine ⟨p2, [v], _, rfl, (u1.trans x3).trans u2, G.less (G.keep (Kp.new hp2) ok3) (by decide), upd_same, DenL.one (G.mono u2.gr d3), Nat.zero_lt_one, by show 1 ≤ 400; decide, fun t ht => ?_⟩
      rw [List.mem_singleton.mp ht]
      exact Nat.le_refl _
    · rw [decide_eq_false hz]
      exact ⟨D0, ys0, ts0, rfl, u1, G.less okp (by decide), u1.lst hD0, hd0.mono G u1.gr, by omega, by rw [List.length_drop] at *; omega, hdep0⟩
  rintro σ H3 ⟨D, ys, ts, rfl, x3, ok3, hD, hd, hpos, hl, hdep⟩
  have hc3 := x3.lst hc2
  have hl2 := hd.len
  refine ⟨_, rfl, D, ys, rfl, .inl (SqL.of hD), ?_⟩
  refine ⟨_, rfl, D, ys, rfl, .inl (SqL.of hD), fun E1 nE => ?_⟩
  have x4 := Ext.new (o := .lst ys) nE
  have ok4 := G.keep (Kp.new (o := .lst ys) nE) ok3
  have hE4 : upd H3 E1 (.lst ys) E1 = some (.lst ys) := upd_same
  have hc4 := x4.lst hc3
  have hD4 := x4.lst hD
  have hd4 := hd.mono G x4.gr
  generalize upd H3 E1 (.lst ys) = H4 at x4 ok4 hE4 hc4 hD4 hd4 ⊢
  have cT := costT_le ts.length
  have topd : (topT ts).dep ≤ 60 := Nat.le_trans (topT_dep 9 ts (by show _ ≤ 512; omega) hdep) (by decide)
  -- the top
  refine ⟨_, rfl, _, rfl, S, E1, ys, ts, 15999000, hF, rfl, SqL.of hE4, hd4, by decide, by show _ ≤ 512; omega, by omega, G.less ok4 (by omega), fun v5 H5 x5 ok5 d5 => ?_⟩
  refine ⟨_, rfl, _, rfl, S, D, ys, ts, 15998000, hF, rfl, SqL.of (x5.lst hD4), hd4.mono G x5.gr, by decide, by show _ ≤ 512; omega, by omega, G.less ok5 (by omega), fun v6 H6 x6 ok6 d6 => ?_⟩
  obtain ⟨dd, a1, a2, a3, a4⟩ := eq_tm G (G.mono x6.gr d5) d6 topd
  refine ⟨dd, dd, a1, a2, a3, a3, _, rfl, ?_⟩
  rw [a4]
  refine iteF ?_
  refine ⟨_, rfl, by show 0 ≤ sizeLine; decide, fun p7 np7 => ?_⟩
  have x7 := x6.trans (Ext.new (o := .lst []) np7)
  have ok7 : S.ok _ 15998000 := G.keep (Kp.new (o := .lst []) np7) ok6
  refine ⟨S, p7, [], [], 15997000, hF, rfl, SqL.of upd_same, DenL.nil, by decide, by decide, by decide, G.less ok7 (by decide), fun v8 H8 x8 ok8 d8 => ?_⟩
  refine ⟨S, _, hF, rfl, ok8, 15996000, "none", .int 0, .int 0, _, _, rfl, by decide +kernel, G.less ok8 (by decide), G.int 0 ok8, G.int 0 ok8, fun v9 H9 x9 ok9 d9 => ?_⟩
  rw [topT_nil] at d8
  obtain ⟨dd2, b1, b2, b3, b4⟩ := eq_tm G (G.mono x9.gr d8) d9 (by decide)
  refine ⟨dd2, dd2, b1, b2, b3, b3, _, rfl, ?_⟩
  rw [b4]
  refine iteF ?_
  -- nothing's seal
  refine ⟨_, rfl, S, 15995000, hF, rfl, G.less ok9 (by decide), fun v10 H10 x10 ok10 d10 => ?_⟩
  refine ⟨S, _, hF, rfl, ok10, 15994000, "none", .int 0, .int 0, _, _, rfl, by decide +kernel, G.less ok10 (by decide), G.int 0 ok10, G.int 0 ok10, fun v11 H11 x11 ok11 d11 => ?_⟩
  obtain ⟨dd3, e1, e2, e3, e4⟩ := eq_tm G (G.mono x11.gr d10) d11 (by decide)
  refine ⟨dd3, dd3, e1, e2, e3, e3, _, rfl, ?_⟩
  rw [e4]
  refine iteF ?_
  have xA := (((((x5.trans x7).trans x8).trans x9).trans x10).trans x11)
  have hDA := xA.lst hD4
  have hEA := xA.lst hE4
  have hcA := xA.lst hc4
  have hdA := hd4.mono G xA.gr
  obtain ⟨w0, hw0, dw0⟩ := atI_den hdA (i := 0) (Int.le_refl 0) (by omega)
  have dt0 : (ts.getD (Int.toNat 0) nonT).dep ≤ 1 := by
    rw [List.getD_eq_getElem?_getD, List.getElem?_eq_getElem (show (Int.toNat 0) < ts.length from hpos)]
    exact hdep _ (List.getElem_mem _)
  generalize ts.getD (Int.toNat 0) nonT = t0 at dw0 dt0
  -- a book's seal
  refine ⟨_, rfl, _, rfl, _, rfl, D, ys, 0, w0, rfl, rfl, SqL.of hDA, hw0, S, _, _, .int _, t0, 15993000, hF, rfl, G.less ok11 (by decide), G.int _ ok11, dw0, fun v12 H12 x12 ok12 d12 => ?_⟩
  refine ⟨S, _, hF, rfl, ok12, _, rfl, _, rfl, D, ys, 0, w0, rfl, rfl, SqL.of (x12.lst hDA), hw0, 15992000, "book", .int _, t0, _, _, rfl, by decide +kernel, G.less ok12 (by decide), G.int _ ok12, G.mono x12.gr dw0, fun v13 H13 x13 ok13 d13 => ?_⟩
  obtain ⟨dd4, f1, f2, f3, f4⟩ := eq_tm G (G.mono x13.gr d12) d13 (by show max 0 t0.dep + 1 ≤ 60; omega)
  refine ⟨dd4, dd4, f1, f2, f3, f3, _, rfl, ?_⟩
  rw [f4]
  refine iteF ?_
  have xB := xA.trans (x12.trans x13)
  have dw1 := G.mono (x12.trans x13).gr dw0
  -- a leaf's seal
  obtain ⟨m9, hm9⟩ := Int.eq_ofNat_of_zero_le (Int.emod_nonneg (ys.length : Int) (show (9 : Int) ≠ 0 by decide))
  have hm9' : m9 < 9 := by
    have := Int.emod_lt_of_pos (ys.length : Int) (show (0 : Int) < 9 by decide)
    omega
  obtain ⟨g1, g2⟩ := rep9 m9 hm9'
  have rp : ∀ R : VK, ∀ H', R (.str (repS "a" ((ys.length : Int) % 9))) H' → rRepS (.str "a") (.int ((ys.length : Int) % 9)) H' R := fun R H' hR => ⟨"a", _, rfl, rfl, by omega, by omega, by decide, by rw [hm9]; exact g2, hR⟩
  have tx : txtOk (repS "a" ((ys.length : Int) % 9)) = true := by rw [hm9]; exact g1
  refine ⟨_, rfl, _, rfl, _, 9, rfl, rfl, by show (0 : Int) < 9; decide, rp _ _ ?_⟩
  refine ⟨_, rfl, D, ys, 0, w0, rfl, rfl, SqL.of (xB.lst hD4), hw0, S, _, _, .str _, t0, 15991000, hF, rfl, G.less ok13 (by decide), G.str _ ok13 tx, dw1, fun v14 H14 x14 ok14 d14 => ?_⟩
  refine ⟨S, _, hF, rfl, ok14, _, rfl, _, 9, rfl, rfl, by show (0 : Int) < 9; decide, rp _ _ ?_⟩
  refine ⟨_, rfl, D, ys, 0, w0, rfl, rfl, SqL.of (x14.lst (xB.lst hD4)), hw0, 15990000, "leaf", .str _, t0, _, _, rfl, by decide +kernel, G.less ok14 (by decide), G.str _ ok14 tx, G.mono x14.gr dw1, fun v15 H15 x15 ok15 d15 => ?_⟩
  obtain ⟨dd5, h1, h2, h3, h4⟩ := eq_tm G (G.mono x15.gr d14) d15 (by show max 0 t0.dep + 1 ≤ 60; omega)
  refine ⟨dd5, dd5, h1, h2, h3, h3, _, rfl, ?_⟩
  rw [h4]
  refine iteF ?_
  have xC := xB.trans (x14.trans x15)
  have hDC := xC.lst hD4
  have hEC := xC.lst hE4
  have hcC := xC.lst hc4
  have hdC := hd4.mono G xC.gr
  clear d5 d6 d8 d9 d10 d11 d12 d13 d14 d15 a1 a2 b1 b2 e1 e2 f1 f2 h1 h2 hdA hDA hEA hcA dw0 dw1 hw0 ok5 ok6 ok7 ok8 ok9 ok10 ok11 ok12 ok13 ok14
  -- the places
  refine ⟨_, rfl, _, rfl, RgOk.of_le (by decide) (by omega) (by decide) (by omega), fun O nO => ?_⟩
  have xD := Ext.new (o := .lst (rgV 0 (ys.length : Int))) nO
  have okD := G.keep (Kp.new (o := .lst (rgV 0 (ys.length : Int))) nO) ok15
  have hDD := xD.lst hDC
  have hED := xD.lst hEC
  have hcD := xD.lst hcC
  have hdD := hdC.mono G xD.gr
  have hOD : upd H15 O (.lst (rgV 0 (ys.length : Int))) O = some (.lst (rgV 0 (ys.length : Int))) := upd_same
  generalize upd H15 O (.lst (rgV 0 (ys.length : Int))) = H4' at okD hDD hED hcD hdD hOD ⊢
  refine ⟨fun σ H' => ∃ (O : Addr) (os : List Nat), σ = [some (.ref c), some (.ref S.f), some (.ref D), some (.int (ys.length : Int)), some (.ref E1), some (.ref O), none, none, none, none, none, none] ∧ Ext H4' H' ∧ S.ok H' 15980000 ∧ H' O = some (.lst (os.map fun n : Nat => V.int (n : Int))) ∧ (∀ o ∈ os, o < ts.length) ∧ os.length ≤ 100, ?_, ?_⟩
  · refine ⟨_, rfl, _, 16, rfl, rfl, _, rfl, ite2 (fun cc => ?_) (fun cc => ?_)⟩
    · have cc' : (16 : Int) < (ys.length : Int) := of_decide_eq_true cc
      refine ⟨_, rfl, _, 1, rfl, rfl, by show 2 ≤ sizeLine; decide, fun p hp => ?_⟩
      have y1 : Ext H4' (upd H4' p (.lst [.int 0, .int ((ys.length : Int) - 1)])) := Ext.new hp
      refine ⟨_, rfl, 3, rfl, c, _, rfl, SqL.of (y1.lst hcD), fun p2 hp2 => ?_⟩
      rw [show (3 : Int) = ((3 : Nat) : Int) from rfl, cut_to, ← List.map_take]
      refine ⟨p2, rfl, ⟨_, SqL.of upd_same⟩, fun D3 hD3 => ?_⟩
      have y2 := y1.trans (Ext.new (o := .lst ((ns.take 3).map V.int)) hp2)
      have hp1' : (upd (upd H4' p (.lst [.int 0, .int ((ys.length : Int) - 1)])) p2 (.lst ((ns.take 3).map V.int))) p = some (.lst [.int 0, .int ((ys.length : Int) - 1)]) := by
        rw [upd_ne (ne_of_none (o := .lst [.int 0, .int ((ys.length : Int) - 1)]) upd_same hp2)]
        exact upd_same
      have hp2' : (upd (upd H4' p (.lst [.int 0, .int ((ys.length : Int) - 1)])) p2 (.lst ((ns.take 3).map V.int))) p2 = some (.lst ((ns.take 3).map V.int)) := upd_same
      have ok5 := G.keep ((Kp.new (o := .lst [.int 0, .int ((ys.length : Int) - 1)]) hp).trans (Kp.new (o := .lst ((ns.take 3).map V.int)) hp2)) okD
      generalize upd (upd H4' p (.lst [.int 0, .int ((ys.length : Int) - 1)])) p2 (.lst ((ns.take 3).map V.int)) = H5 at y2 hp1' hp2' hD3 ok5 ⊢
      refine lc_list (K := K) (a := p2) (xs := (ns.take 3).map V.int) (fun i H' => ∃ ms : List Nat, ms.length = i ∧ Ext H5 H' ∧ H' D3 = some (.lst (ms.map fun n : Nat => V.int (n : Int))) ∧ S.ok H' 15980000 ∧ ∀ o ∈ ms, o < ts.length)
        ⟨[], rfl, Ext.new hD3, upd_same, G.less (G.keep (Kp.new hD3) ok5) (by decide), fun _ h => by cases h⟩ (fun i H' _ ⟨_, _, x, _⟩ => SqL.of (x.lst hp2')) ?_ ?_
      · rintro i y H' hi ⟨ms, rfl, x, hD', okm, hm⟩
        obtain ⟨z, hz, rfl⟩ := map_int_mem (List.mem_of_getElem? hi)
        have hlt := (List.getElem?_eq_some_iff.mp hi).1
        rw [List.length_map, List.length_take] at hlt
        have h1 := Int.emod_nonneg z (show (ys.length : Int) ≠ 0 by omega)
        have h2 := Int.emod_lt_of_pos z (show (0 : Int) < (ys.length : Int) by omega)
        refine ⟨rfl, _, rfl, _, rfl, z, _, rfl, rfl, (by show (0 : Int) < (ys.length : Int); omega), ms.map (fun n : Nat => V.int (n : Int)), hD', by rw [List.length_map, e16]; omega, ms ++ [(z % (ys.length : Int)).toNat], by simp, x.mut hD3, ?_, G.keep (Kp.lst hD') okm, fun o ho => ?_⟩
        · rw [upd_same, List.map_append]
          show _ = some (HO.lst (_ ++ [V.int ((z % (ys.length : Int)).toNat : Int)]))
          rw [Int.toNat_of_nonneg h1]
        · rcases List.mem_append.mp ho with h | h
          · exact hm o h
          · rw [List.mem_singleton.mp h]
            omega
      · rintro H6 ⟨ms, hml, x, hD', okm, hm⟩
        have hml' : ms.length ≤ 3 := by
          rw [hml, List.length_map, List.length_take]
          omega
        refine ⟨p, D3, _, _, rfl, rfl, x.lst hp1', hD', by rw [List.length_map, e16]; show 2 + _ ≤ _; omega, fun O2 nO2 => ?_⟩
        refine ⟨O2, [0, ts.length - 1] ++ ms, rfl, (y2.trans x).trans (Ext.new nO2), G.keep (Kp.new nO2) okm, ?_, fun o ho => ?_, ?_⟩
        · rw [upd_same, List.map_append]
          have e1 : (((ts.length - 1 : Nat)) : Int) = (ys.length : Int) - 1 := by omega
          show _ = some (HO.lst ([V.int 0, V.int ((ts.length - 1 : Nat) : Int)] ++ _))
          rw [e1]
        · rcases List.mem_append.mp ho with h | h
          · simp at h
            omega
          · exact hm o h
        · rw [List.length_append]
          show 2 + _ ≤ _
          omega
    · have cc' : ¬ (16 : Int) < (ys.length : Int) := of_decide_eq_false (Bool.eq_false_iff.mpr cc)
      refine ⟨O, List.range ts.length, rfl, Ext.refl _, G.less okD (by decide), ?_, fun o ho => ?_, ?_⟩
      · rw [hOD]
        unfold rgV
        rw [show ((ys.length : Int) - 0).toNat = ts.length by omega]
        congr 2
        refine List.map_congr_left fun i _ => ?_
        rw [Int.zero_add]
      · exact List.mem_range.mp ho
      · rw [List.length_range]
        omega
  rintro σ H5 ⟨O', os, rfl, x5, ok5, hO5, hos, hol⟩
  have hD5 := x5.lst hDD
  have hE5 := x5.lst hED
  have hd5 := hdD.mono G x5.gr
  have lgn : ts.length.log2 ≤ 1000 := Nat.le_trans (Nat.log2_le_self _) (by omega)
  refine ⟨_, rfl, O', rfl, ⟨_, SqL.of hO5⟩, ?_⟩
  refine for_list (K := K) (a := O') (xs := os.map fun n : Nat => V.int (n : Int)) (fun i σ H' => ∃ y6 y7 y8 y9 y10, σ = [some (.ref c), some (.ref S.f), some (.ref D), some (.int (ys.length : Int)), some (.ref E1), some (.ref O'), y6, y7, y8, y9, y10, none] ∧ Ext H5 H' ∧ S.ok H' (15980000 - i * 9000))
    ⟨none, none, none, none, none, rfl, Ext.refl _, ok5⟩ (fun i σ H' _ ⟨_, _, _, _, _, _, x, _⟩ => SqL.of (x.lst hO5)) ?_ ?_
  · rintro i y σ H' hi ⟨y6, y7, y8, y9, y10, rfl, x, ok⟩
    obtain ⟨o, ho, rfl⟩ := List.mem_map.mp (List.mem_of_getElem? hi)
    have hlt := (List.getElem?_eq_some_iff.mp hi).1
    rw [List.length_map] at hlt
    have hoo := hos o ho
    have hE' := x.lst hE5
    have hD' := x.lst hD5
    have hdd := hd5.mono G x.gr
    have gl := plen_le 9 o ts.length (by omega)
    refine ⟨_, rfl, _, rfl, _, rfl, S, E1, ys, ts, o, 15980000 - i * 9000 - 1000, hF, rfl, SqL.of hE', hdd, by decide, by show _ ≤ 512; omega, by omega, hoo, G.less ok (by omega), fun p zs H6 x6 np hp ok6 hd6 => ?_⟩
    refine ⟨_, rfl, .ref p, .ty "list", _, _, true, rfl, .ty "list", .base (.lst hp), kit_ty (by decide +kernel), true, rfl, ?_⟩
    refine ⟨_, rfl, _, rfl, _, rfl, _, rfl, S, D, ys, ts, o, 15980000 - i * 9000 - 2000, hF, rfl, SqL.of (x6.lst hD'), hdd.mono G x6.gr, by decide, by show _ ≤ 512; omega, by omega, hoo, G.less ok6 (by omega), fun p2 zs2 H7 x7 np2 hp2 ok7 hd7 => ?_⟩
    obtain ⟨dd, a1, a2, a3, a4⟩ := eq_rows G (SqL.of (x7.lst hp)) (SqL.of hp2) (hd6.mono G x7.gr) hd7 (path_dep hdep (by omega))
    refine ⟨dd, dd, a1, a2, a3, a3, _, rfl, ?_⟩
    rw [a4]
    refine iteF ?_
    have hp7 := x7.lst hp
    have lz : zs.length = plen o ts.length := by rw [hd6.len, pathT_len]
    refine ⟨_, rfl, p, zs, rfl, .inl (SqL.of hp7), _, rfl, _, 1, rfl, rfl, _, rfl, _, _, rfl, rfl, _, rfl, ?_⟩
    rw [decide_eq_false (show ¬ (((Builtin.Int.intBits ((ys.length : Int) - 1) : Nat) : Int) < (zs.length : Int)) by
      have := path_bits (o := o) hpos
      rw [hl2, lz]
      omega)]
    refine iteF ?_
    -- a copy
    refine ⟨_, rfl, p, zs, rfl, .inl (SqL.of hp7), fun p3 np3 => ?_⟩
    have u3 := Ext.new (o := .lst zs) np3
    have ok8 := G.keep (Kp.new (o := .lst zs) np3) ok7
    have xx7 := (x6.trans x7).trans u3
    have hp8 := u3.lst hp7
    have hp38 : upd H7 p3 (.lst zs) p3 = some (.lst zs) := upd_same
    have hd8 := (hd6.mono G x7.gr).mono G u3.gr
    generalize upd H7 p3 (.lst zs) = H8 at ok8 xx7 hp8 hp38 hd8 ⊢
    have hdd8 := hdd.mono G xx7.gr
    have hD8 := xx7.lst hD'
    obtain ⟨lf, hlf, dlf⟩ := hdd8.at_nat hoo
    have hleafdep : ∀ t ∈ ts, t.dep ≤ 60 := fun t ht => Nat.le_trans (hdep t ht) (by decide)
    have pdep := path_dep (place := o) hdep (show ts.length ≤ 512 by omega)
    refine ⟨_, rfl, _, rfl, _, rfl, D, ys, (o : Int), lf, rfl, rfl, SqL.of hD8, hlf, _, rfl, _, rfl, _, rfl, S, lf, ts.getD o nonT, o, ts.length, .ref p, 15980000 - i * 9000 - 2100, hF, by rw [hl2], dlf, hoo, lgn, G.less ok8 (by omega), .inl ⟨p, zs, pathT ts o, rfl, hp8, hd8, by rw [pathT_len]; omega, pdep, fun _ v9 H9 x9 ok9 d9 => ?_, fun ne => absurd (pathT_len ts o) ne⟩⟩
    rw [rise_path ts o hoo] at d9
    refine ⟨_, rfl, _, rfl, _, rfl, S, D, ys, ts, 15980000 - i * 9000 - 3000, hF, rfl, SqL.of (x9.lst hD8), hdd8.mono G x9.gr, by decide, by show _ ≤ 512; omega, by omega, G.less ok9 (by omega), fun v10 H10 x10 ok10 d10 => ?_⟩
    obtain ⟨ee, b1, b2, b3, b4⟩ := eq_tm G (G.mono x10.gr d9) d10 topd
    refine ⟨ee, ee, b1, b2, b3, b3, _, rfl, ?_⟩
    rw [b4]
    refine iteF ?_
    have y10 := x9.trans x10
    have hp10 := y10.lst hp8
    have hd10 := hd8.mono G y10.gr
    obtain ⟨ff, c1, c2, c3, c4⟩ := eq_rows G (SqL.of hp10) (SqL.of (y10.lst hp38)) hd10 hd10 pdep
    refine ⟨_, rfl, _, rfl, ff, ff, c1, c2, c3, c3, _, rfl, ?_⟩
    rw [c4]
    refine iteF ?_
    have hD10 := y10.lst hD8
    have hdd10 := hdd8.mono G y10.gr
    have dlf10 := G.mono y10.gr dlf
    have xx10 := xx7.trans y10
    refine ⟨_, rfl, _, rfl, D, ys, (o : Int), lf, rfl, rfl, SqL.of hD10, hlf, ?_⟩
    -- one top more
    obtain ⟨w0', hw0', dw0'⟩ := hdd10.at_nat hpos
    refine ⟨_, rfl, _, rfl, _, rfl, _, rfl, _, rfl, _, rfl, D, ys, 0, w0', rfl, rfl, SqL.of hD10, hw0', by show 1 ≤ sizeLine; decide, fun q1 nq1 => ?_⟩
    have u1 := Ext.new (o := .lst [w0']) nq1
    refine ⟨p, q1, zs, [w0'], rfl, rfl, u1.lst hp10, upd_same, by rw [lz, e16]; show _ + 1 ≤ _; omega, fun q2 nq2 => ?_⟩
    have u2 := u1.trans (Ext.new (o := .lst (zs ++ [w0'])) nq2)
    have k2 := (Kp.new (o := .lst [w0']) nq1).trans (Kp.new (o := .lst (zs ++ [w0'])) nq2)
    refine ⟨S, lf, ts.getD o nonT, o, ts.length, .ref q2, 15980000 - i * 9000 - 3100, hF, by rw [hl2]; rfl, G.mono u2.gr dlf10, hoo, lgn, G.less (G.keep k2 ok10) (by omega), .inl ⟨q2, _, pathT ts o ++ [ts.getD 0 nonT], rfl, upd_same, (hd10.append (DenL.one dw0')).mono G u2.gr, by rw [List.length_append, pathT_len]; show _ + 1 ≤ _; omega, fun t ht => ?_, by rw [List.length_append, pathT_len]; show _ + 1 ≠ _; omega⟩, fun H11 x11 ok11 => ?_⟩
    · rcases List.mem_append.mp ht with h | h
      · exact pdep t h
      · rw [List.mem_singleton.mp h, List.getD_eq_getElem?_getD, List.getElem?_eq_getElem hpos]
        exact hleafdep _ (List.getElem_mem _)
    refine ⟨_, rfl, iteF ?_⟩
    have y11 := u2.trans x11
    have hp11 := y11.lst hp10
    have hd11 := hd10.mono G y11.gr
    have dlf11 := G.mono y11.gr dlf10
    have xx11 := xx10.trans y11
    -- one less
    refine ⟨fun σ H' => ∃ y10, σ = [some (.ref c), some (.ref S.f), some (.ref D), some (.int (ys.length : Int)), some (.ref E1), some (.ref O'), some (.int (o : Int)), some (.ref p), some (.ref p3), some v9, y10, none] ∧ y10 = some lf ∧ Ext H11 H' ∧ S.ok H' (15980000 - i * 9000 - 3300), ?_, ?_⟩
    · refine ⟨_, rfl, by show 0 ≤ sizeLine; decide, fun q3 nq3 => ?_⟩
      have u3 := Ext.new (o := .lst []) nq3
      have k3 := Kp.new (o := .lst []) nq3
      obtain ⟨g, e, g1, g2, g3, g4, g5⟩ := (hd11.mono G k3.gr).odd (K := K) G (a := p) (p := q3) (SqL.of (u3.lst hp11)) (SqL.of upd_same) pdep
      refine ⟨g, e, g1, g2, g3, g4, _, rfl, ?_⟩
      rw [g5, pathT_len]
      have ok12 := G.keep k3 ok11
      have hp12 := u3.lst hp11
      have hd12 := hd11.mono G u3.gr
      have dlf12 := G.mono u3.gr dlf11
      generalize upd H11 q3 (.lst []) = H12 at ok12 hp12 hd12 dlf12 u3 ⊢
      by_cases hz : plen o ts.length = 0
      · rw [decide_eq_true hz]
        exact ⟨_, rfl, rfl, u3, G.less ok12 (by omega)⟩
      · rw [decide_eq_false hz]
        refine iteT ?_
        refine ⟨_, rfl, _, rfl, _, rfl, _, rfl, _, rfl, 1, rfl, p, zs, rfl, SqL.of hp12, fun q4 nq4 => ?_⟩
        rw [show (1 : Int) = ((1 : Nat) : Int) from rfl, cut_from]
        have u4 := Ext.new (o := .lst (zs.drop 1)) nq4
        have k4 := Kp.new (o := .lst (zs.drop 1)) nq4
        refine ⟨S, lf, ts.getD o nonT, o, ts.length, .ref q4, 15980000 - i * 9000 - 3300, hF, by rw [hl2]; rfl, G.mono u4.gr dlf12, hoo, lgn, G.less (G.keep k4 ok12) (by omega), .inl ⟨q4, _, (pathT ts o).drop 1, rfl, upd_same, (hd12.drop 1).mono G u4.gr, by rw [List.length_drop, pathT_len]; omega, fun t ht => pdep t (List.mem_of_mem_drop ht), by rw [List.length_drop, pathT_len]; omega⟩, fun H13 x13 ok13 => ?_⟩
        exact ⟨_, rfl, iteF ⟨_, rfl, rfl, (u3.trans u4).trans x13, ok13⟩⟩
    -- a tuple
    rintro σ H13 ⟨_, rfl, rfl, x13, ok13⟩
    have hp13 := x13.lst hp11
    refine ⟨_, rfl, _, rfl, _, rfl, _, rfl, _, rfl, p, zs, rfl, .inl ⟨SqL.of hp13, fun q5 nq5 => ?_⟩⟩
    have u5 := Ext.new (o := .tup zs) nq5
    have k5 := Kp.new (o := .tup zs) nq5
    refine ⟨S, lf, ts.getD o nonT, o, ts.length, .ref q5, 15980000 - i * 9000 - 3400, hF, by rw [hl2]; rfl, G.mono (x13.trans u5).gr dlf11, hoo, lgn, G.less (G.keep k5 ok13) (by omega), .inr fun H' x' => ?_, fun H14 x14 ok14 => ?_⟩
    · have ht' := x'.tup (H := upd H13 q5 (.tup zs)) upd_same
      refine ⟨⟨.type "tuple", .base (.tup ht'), kit_ty (by decide +kernel)⟩, ?_⟩
      have hdx := ((hd11.mono G x13.gr).mono G u5.gr).mono G x'.gr
      obtain ⟨ds, m1, _, m3, m4⟩ := DenL.same (K := K) G hdx hdx pdep
      refine ⟨.tuple ds, .tup (SqT.of ht') m1, shaped_of m3 (by show PyData.depthAll ds + 1 ≤ 64; omega), rfl⟩
    refine ⟨_, rfl, iteF ?_⟩
    exact ⟨_, _, _, _, _, rfl, x.trans (((xx11.trans x13).trans u5).trans x14), G.less ok14 (by omega)⟩
  · rintro σ H6 ⟨y6, y7, y8, y9, y10, rfl, x6, ok6⟩
    have hdd := hd5.mono G x6.gr
    obtain ⟨dd, a1, a2, a3, a4⟩ := eq_rows G (SqL.of (x6.lst hE5)) (SqL.of (x6.lst hD5)) hdd hdd fun t ht => Nat.le_trans (hdep t ht) (by decide)
    refine ⟨_, rfl, _, rfl, dd, dd, a1, a2, a3, a3, ?_⟩
    rw [a4]
    exact q _
end

end My
open PySem PySem.W PyProof.Rows
set_option maxHeartbeats 0 in
theorem PySem.Challenge.cw_growbook_k03_paths_holds : PySem.Challenge.rw_growbook_k03_paths.Holds := by
  w_on; o_law; k_head; (case hw => w_witness2)
  k_fill
  refine LamX.walk_ofTs (l := PySem.Challenge.rw_growbook_k03_paths) (n := 63) (k := 20) (x := "_law_script") (CX := fun _ => L2.CX0) rfl (by decide) rfl ⟨rfl, by decide, by decide⟩ (fun w h Y => PySem.W.km_in_of Y) ?F (fun _ _ _ _ _ h => h)
  case F =>
    intro w mg fa h Y KX G hmg
    have hT := PySem.W.km_tabs_of Y
    refine My.law_end (c := ?c) KX hT (by kernel_rfl) ?hcode (My.ok_law ?T hmg)
    case T =>
      refine' My.txt_mk KX G ?a0 ?l0 ?c0 ?k0 ?a1 ?l1 ?c1 ?k1 ?a2 ?l2 ?c2 ?k2 ?a3 ?l3 ?c3 ?k3 ?a4 ?l4 ?c4 ?k4 ?a5 ?l5 ?c5 ?k5 ?a6 ?l6 ?c6 ?k6 ?a7 ?l7 ?c7 ?k7 ?a8 ?l8 ?c8 ?k8 ?a9 ?l9 ?c9 ?k9 ?a10 ?l10 ?c10 ?k10 ?a11 ?l11 ?c11 ?k11 ?a12 ?l12 ?c12 ?k12 ?a13 ?l13 ?c13 ?k13 ?a14 ?l14 ?c14 ?k14 ?a15 ?l15 ?c15 ?k15 ?a16 ?l16 ?c16 ?k16 ?a17 ?l17 ?c17 ?k17 ?a18 ?l18 ?c18 ?k18 ?a19 ?l19 ?c19 ?k19 ?z_len ?z_isinstance ?z_int ?z_list ?z_range ?z_str ?z_tuple ?z_ValueError ?g_BadPaper ?xP_BadPaper ?kP_BadPaper ?bP_BadPaper ?tP_BadPaper ?hg_BadPaper ?hk_BadPaper ?hd_BadPaper ?ha_BadPaper ?hn_BadPaper ?ht_BadPaper ?hm_BadPaper ?ex_BadPaper ?g_BookError ?g_NoPlace ?g_BadRow ?q_BadPaper_BookError ?q_BadPaper_NoPlace ?q_BadPaper_BadRow ?q_BadPaper_ValueError
      (case a0 => k_is)
      (case l0 => k_is)
      (case c0 => k_is)
      (case k0 => k_is)
      (case a1 => k_is)
      (case l1 => k_is)
      (case c1 => k_is)
      (case k1 => k_is)
      (case a2 => k_is)
      (case l2 => k_is)
      (case c2 => k_is)
      (case k2 => k_is)
      (case a3 => k_is)
      (case l3 => k_is)
      (case c3 => k_is)
      (case k3 => k_is)
      (case a4 => k_is)
      (case l4 => k_is)
      (case c4 => k_is)
      (case k4 => k_is)
      (case a5 => k_is)
      (case l5 => k_is)
      (case c5 => k_is)
      (case k5 => k_is)
      (case a6 => k_is)
      (case l6 => k_is)
      (case c6 => k_is)
      (case k6 => k_is)
      (case a7 => k_is)
      (case l7 => k_is)
      (case c7 => k_is)
      (case k7 => k_is)
      (case a8 => k_is)
      (case l8 => k_is)
      (case c8 => k_is)
      (case k8 => k_is)
      (case a9 => k_is)
      (case l9 => k_is)
      (case c9 => k_is)
      (case k9 => k_is)
      (case a10 => k_is)
      (case l10 => k_is)
      (case c10 => k_is)
      (case k10 => k_is)
      (case a11 => k_is)
      (case l11 => k_is)
      (case c11 => k_is)
      (case k11 => k_is)
      (case a12 => k_is)
      (case l12 => k_is)
      (case c12 => k_is)
      (case k12 => k_is)
      (case a13 => k_is)
      (case l13 => k_is)
      (case c13 => k_is)
      (case k13 => k_is)
      (case a14 => k_is)
      (case l14 => k_is)
      (case c14 => k_is)
      (case k14 => k_is)
      (case a15 => k_is)
      (case l15 => k_is)
      (case c15 => k_is)
      (case k15 => k_is)
      (case a16 => k_is)
      (case l16 => k_is)
      (case c16 => k_is)
      (case k16 => k_is)
      (case a17 => k_is)
      (case l17 => k_is)
      (case c17 => k_is)
      (case k17 => k_is)
      (case a18 => k_is)
      (case l18 => k_is)
      (case c18 => k_is)
      (case k18 => k_is)
      (case a19 => k_is)
      (case l19 => k_is)
      (case c19 => k_is)
      (case k19 => k_is)
      (case z_len => k_is)
      (case z_isinstance => k_is)
      (case z_int => k_is)
      (case z_list => k_is)
      (case z_range => k_is)
      (case z_str => k_is)
      (case z_tuple => k_is)
      (case z_ValueError => k_is)
      (case g_BadPaper => k_is)
      (case xP_BadPaper => k_exc)
      (case kP_BadPaper => k_is)
      (case bP_BadPaper => k_is)
      (case tP_BadPaper => k_is)
      (case hg_BadPaper => k_is)
      (case hk_BadPaper => k_is)
      (case hd_BadPaper => k_is)
      (case ha_BadPaper => k_is)
      (case hn_BadPaper => k_is)
      (case ht_BadPaper => k_is)
      (case hm_BadPaper => k_is)
      (case ex_BadPaper => kernel_rfl)
      (case g_BookError => k_is)
      (case g_NoPlace => k_is)
      (case g_BadRow => k_is)
      (case q_BadPaper_BookError => kernel_rfl)
      (case q_BadPaper_NoPlace => kernel_rfl)
      (case q_BadPaper_BadRow => kernel_rfl)
      (case q_BadPaper_ValueError => kernel_rfl)
    case hcode => kernel_rfl
#print axioms PySem.Challenge.cw_growbook_k03_paths_holds

