import PyProof.Rows.All
import Wide.All
import OpenK.AllK
import Wide.FinOn
import HandS.ForMost
import HandS.WideBits
import HandS.IsInst
import HandS.Codes
import HandS.Evl
import HandS.Nested
import HandS.EndTab
import HandS.TupLen
import HandS.Conv
import HandS.Rev
import HandS.ForExc
import HandS.ExcIs
import HandS.TryElse
import HandS.Style
import HandS.Defaults
import HandS.SortInts
import HandS.More
import HandS.Walk
import HandS.HotCalls
import HandS.SuiteRaise
import PySem.Challenge.RW_growbook_k09_rows_read

import HandS.ExcInit
import HandS.ExcInitHot
import HandS.ExcField
import HandS.StrMore
import HandS.TupAny
set_option Elab.async false
set_option linter.all false
set_option maxRecDepth 100000
set_option maxHeartbeats 4000000
namespace My
open PySem PySem.Spec PyProof.Rows L2
open C8 (Cal Met Mak CalAt pe_c pe_mk pe_mt pe_mt0)

/-! ### the text by places -/
def inDef (s : Stmt) (j : Nat) : Stmt := (defBody s).getD j (.Pass ⟨0, 0, 0, 0⟩)
def topS (i : Nat) : Stmt := PySem.Challenge.pw_growbook_k09_rows_read.main.body.getD i (.Pass ⟨0, 0, 0, 0⟩)
abbrev s_BadRow___init__ : Stmt := inClass (topS 4) 0
abbrev N_BadRow___init__ : List Str := ["self", "row"]
theorem sc_BadRow___init__ : FnScope ["self", "row"] ["self", "row"] (defScope s_BadRow___init__) := ⟨rfl, rfl, rfl, by decide +kernel, rfl, by decide +kernel, by decide +kernel⟩
abbrev s_key_of : Stmt := topS 6
abbrev N_key_of : List Str := ["figures", "depth", "key"]
theorem sc_key_of : FnScope ["figures", "depth", "key"] ["figures", "depth"] (defScope s_key_of) := ⟨rfl, rfl, rfl, by decide +kernel, rfl, by decide +kernel, by decide +kernel⟩
abbrev s_read_row : Stmt := topS 7
abbrev N_read_row : List Str := ["row", "depth", "bare", "word", "blank", "rest", "figures", "behind", "text", "key"]
theorem sc_read_row : FnScope ["row", "depth", "bare", "word", "blank", "rest", "figures", "behind", "text", "key"] ["row", "depth"] (defScope s_read_row) := ⟨rfl, rfl, rfl, by decide +kernel, rfl, by decide +kernel, by decide +kernel⟩
abbrev s_placed : Stmt := topS 8
abbrev N_placed : List Str := ["row", "place", "depth", "said"]
theorem sc_placed : FnScope ["row", "place", "depth", "said"] ["row", "place", "depth"] (defScope s_placed) := ⟨rfl, rfl, rfl, by decide +kernel, rfl, by decide +kernel, by decide +kernel⟩
abbrev s_read_rows : Stmt := topS 9
abbrev N_read_rows : List Str := ["text", "depth", "told", "place", "row", "said"]
theorem sc_read_rows : FnScope ["text", "depth", "told", "place", "row", "said"] ["text", "depth"] (defScope s_read_rows) := ⟨rfl, rfl, rfl, by decide +kernel, rfl, by decide +kernel, by decide +kernel⟩
abbrev s__law_cell_at : Stmt := topS 11
abbrev N__law_cell_at : List Str := ["_law_script", "_law_k"]
theorem sc__law_cell_at : FnScope ["_law_script", "_law_k"] ["_law_script", "_law_k"] (defScope s__law_cell_at) := ⟨rfl, rfl, rfl, by decide +kernel, rfl, by decide +kernel, by decide +kernel⟩
abbrev s__law_draw : Stmt := topS 12
abbrev N__law_draw : List Str := ["_law_cell", "_law_k", "_law_many", "_law_primes"]
theorem sc__law_draw : FnScope ["_law_cell", "_law_k", "_law_many", "_law_primes"] ["_law_cell", "_law_k", "_law_many"] (defScope s__law_draw) := ⟨rfl, rfl, rfl, by decide +kernel, rfl, by decide +kernel, by decide +kernel⟩
abbrev s__law_text : Stmt := topS 13
abbrev N__law_text : List Str := ["_law_cell", "_law_some", "_law_k"]
theorem sc__law_text : FnScope ["_law_cell", "_law_some", "_law_k"] ["_law_cell"] (defScope s__law_text) := ⟨rfl, rfl, rfl, by decide +kernel, rfl, by decide +kernel, by decide +kernel⟩
abbrev s__law_bad : Stmt := topS 14
abbrev N__law_bad : List Str := ["_law_cell", "_law_key", "_law_bad_here"]
theorem sc__law_bad : FnScope ["_law_cell", "_law_key", "_law_bad_here"] ["_law_cell", "_law_key"] (defScope s__law_bad) := ⟨rfl, rfl, rfl, by decide +kernel, rfl, by decide +kernel, by decide +kernel⟩
abbrev s__law_row : Stmt := topS 15
abbrev N__law_row : List Str := ["_law_cell", "_law_depth", "_law_number", "_law_key", "_law_ahead", "_law_kind", "_law_said", "_law_row_here"]
theorem sc__law_row : FnScope ["_law_cell", "_law_depth", "_law_number", "_law_key", "_law_ahead", "_law_kind", "_law_said", "_law_row_here"] ["_law_cell", "_law_depth"] (defScope s__law_row) := ⟨rfl, rfl, rfl, by decide +kernel, rfl, by decide +kernel, by decide +kernel⟩
abbrev s__law_alone : Stmt := topS 16
abbrev N__law_alone : List Str := ["_law_row_here", "_law_due", "_law_depth", "_law_told", "e", "_law_only"]
theorem sc__law_alone : FnScope ["_law_row_here", "_law_due", "_law_depth", "_law_told", "e", "_law_only"] ["_law_row_here", "_law_due", "_law_depth"] (defScope s__law_alone) := ⟨rfl, rfl, rfl, by decide +kernel, rfl, by decide +kernel, by decide +kernel⟩
abbrev s_law : Stmt := topS 17
abbrev N_law : List Str := ["_law_script", "_law_depth", "_law_made", "_law_one", "_law_rows", "_law_bad_here", "_law_due", "_law_told", "e", "_law_at"]
theorem sc_law : FnScope ["_law_script", "_law_depth", "_law_made", "_law_one", "_law_rows", "_law_bad_here", "_law_due", "_law_told", "e", "_law_at"] ["_law_script"] (defScope s_law) := ⟨rfl, rfl, rfl, by decide +kernel, rfl, by decide +kernel, by decide +kernel⟩

/-! ### a def of the module -/
structure DefX (K : PySem.W.Frag) (mg : Str → Option Value) (x : Str) (st : Stmt) (ps : List Str) : Prop where
  ex : ∃ (f : Addr) (fd : FuncData), L2.Fun K x x st f fd ∧ mg x = some (.ref f) ∧ ∀ us : List Value, us.length = ps.length → bindArgs fd ⟨us, []⟩ = pure (ps.zip us)
/-- a def that makes defs: its code object's address is told -/
structure DefM (K : PySem.W.Frag) (mg : Str → Option Value) (x : Str) (st : Stmt) (c : Addr) : Prop where
  ex : ∃ (f : Addr) (oc : Value) (od : Option Addr) (kV doc pm : Value) (an : Option Addr) (ct : Value) (osl : Array (Option Value)), K.lookup f = some ⟨oc, od, .func (PySem.W.fnOf x x (defArgs st) (defBody st) (defScope st) .none kV doc pm an (.ref c) ct), osl⟩ ∧
    PySem.W.codeIn K (.ref c) x = true ∧ PySem.W.keepIn K (.ref f) = true ∧ mg x = some (.ref f)
/-- an own class of errors over ValueError, without an __init__ of its own -/
structure ExcF (K : PySem.W.Frag) (C : Addr) : Prop where
  xP : PySem.W.excIn K C [.type "ValueError", .type "Exception", .type "BaseException", .type "object"] "ValueError.__new__" = true
  kP : PySem.W.keepIn K (.ref C) = true
  bP : PySem.W.subIn K (.ref C) (.type "BaseException") = some true
  tP : PySem.W.typeIn K (.ref C) = some (.type "type")
  cP : ExcC K C
  eP : PySem.W.exmOne K (.ref C) (.ref C) = some true
structure ExcX (K : PySem.W.Frag) (mg : Str → Option Value) (x : Str) : Prop where
  ex : ∃ C, mg x = some (.ref C) ∧ ExcF K C
/-- a def that may raise -/
structure CalX (P : Program) (w : World) (K : PySem.W.Frag) (mg : Str → Option Value) (base : Heap) (k : Nat) (x : Str) (sp : Sp) : Prop where
  ex : ∃ (f : Addr) (fd : FuncData) (ps : List Str), FnOk P w K mg base (L2.CX P w) k f fd ps sp ∧ mg x = some (.ref f) ∧ PySem.W.keepIn K (.ref f) = true ∧ Binds K fd ps []
theorem calX_of {P : Program} {w : World} {K : PySem.W.Frag} {mg : Str → Option Value} {base : Heap} {x : Str} {st : Stmt} {N ps : List Str} {k : Nat} {sp : Sp} (D : DefX K mg x st ps) (S : FnScope N ps (defScope st)) (len : ∀ vs H Q E, sp vs H Q E → vs.length = ps.length)
    (hbody : ∀ (f : Addr) (cdv : Value) (A : Around) (outer : List Env) (s : Shared) (H : Hp) (vs : List V) (Q : VK) (E : XK), Room k (A.deeper (envOfC x (defScope st) s.heap.objs.size f cdv)) → sp vs H Q E →
      ∃ t, PSs (cxOf (L2.CX P w) P w K mg base N x (defScope st) f cdv A outer s H E) (defBody st) t ∧ t { nx := fun _ H' => Q .non H', rt := Q } (start N vs) H) : CalX P w K mg base (k + 1) x sp := by
  obtain ⟨f, fd, F, m, b⟩ := D.ex
  exact ⟨f, fd, ps, F.okX S len (hbody f), m, F.kp, .all b⟩
theorem calX_mono {P : Program} {w : World} {K : PySem.W.Frag} {mg : Str → Option Value} {base : Heap} {x : Str} {j k : Nat} {sp : Sp} (c : CalX P w K mg base j x sp) (h : j ≤ k) : CalX P w K mg base k x sp := by
  obtain ⟨f, fd, ps, F, m, kp, b⟩ := c.ex
  exact ⟨f, fd, ps, F.mono h, m, kp, b⟩
/-- x(..) that may raise, within what takes W -/
theorem pe_cx {X : Cx} {k j : Nat} {x : Str} {sp : Sp} {W : WX} {t : TA} {e : Expr} {es : List Expr} {p pos : Pos} (c : CalX X.prog X.w X.K X.mg X.base k x sp) (tk : Takes X W) (hr : Room j X.A) (hk : k ≤ j) (hg : Gl X x) (ha : PA X (e :: es) t)
    (hdb : (x == ("__debug__" : Str)) = false := by decide) (he : starEach (e :: es) X.env = (false, eval e X.env) :: starEach es X.env := by rfl) (hpl : (backTo pos (starEach es X.env)).any (·.1) = false := by rfl) :
    PE X (.Call (.Name x p) (e :: es) [] pos) (tCallS sp (WE W) t) := by
  obtain ⟨f, fd, ps, F, m, kp, b⟩ := c.ex
  exact pe_callS F (hr.mono hk) hg m kp b (fun σ => passAt tk σ) ha hdb he hpl
theorem zc_of {cls : Value} {C : Addr} {d : Option Addr} {oe : Obj} (hz : Zc cls d oe) (h : cls = .ref C ∧ d = none) : Zc (.ref C) none oe := by
  rw [← h.1, ← h.2]
  exact hz
/-- known where the reading is at hand -/
theorem pss_when {X : Cx} {st : List Stmt} {t : TS} {P : Prop} (h : P → PSs X st t) : PSs X st (fun D σ H => P ∧ t D σ H) := ⟨fun pins s σ H D I ⟨p, q⟩ => (h p).run pins s σ H D I q⟩
theorem pe_when {X : Cx} {e : Expr} {t : TE} {P : Prop} (h : P → PE X e t) : PE X e (fun σ H Q => P ∧ t σ H Q) := ⟨fun pins s σ H Q I ⟨p, q⟩ => (h p).run pins s σ H Q I q⟩
/-- raise X('..') -/
theorem ps_raiseX {X : Cx} {W : WX} {x m : Str} {C : Addr} {j : Nat} {p p2 p3 pos : Pos} (F : ExcF X.K C) (gC : X.mg x = some (.ref C)) (hc : X.calm = true) (tk : Takes X W) (hg : Gl X x) (hdb : (x == ("__debug__" : Str)) = false := by decide) :
    PS X (.Raise (some (.Call (.Name x p) [.Constant (.str m) j p2] [] p3)) none pos) (fun _ σ H => W (.ref C) none σ H) :=
  ps_raise hc tk (pmk_own PySem.F.excBase_ValueError F.xP gC F.kP (raises_own F.bP F.tP) hg hdb)
theorem cal_of {P : Program} {w : World} {K : PySem.W.Frag} {mg : Str → Option Value} {base : Heap} {x : Str} {st : Stmt} {N ps : List Str} {k : Nat} {sp : Sp} (D : DefX K mg x st ps) (S : FnScope N ps (defScope st)) (len : ∀ vs H Q E, sp vs H Q E → vs.length = ps.length)
    (hbody : ∀ (f : Addr) (cdv : Value) (A : Around) (outer : List Env) (s : Shared) (H : Hp) (vs : List V) (Q : VK) (E : XK), Room k (A.deeper (envOfC x (defScope st) s.heap.objs.size f cdv)) → sp vs H Q E →
      ∃ t, PSs (cxOf L2.CX0 P w K mg base N x (defScope st) f cdv A outer s H E).nox (defBody st) t ∧ t { nx := fun _ H' => Q .non H', rt := Q } (start N vs) H) : Cal P w K mg base (k + 1) x sp [] := by
  obtain ⟨f, fd, F, m, b⟩ := D.ex
  exact ⟨f, fd, ps, [], F.ok S len (hbody f), m, F.kp, .all b, .nil⟩
/-- the law's own def, for the end -/
theorem law_fn {P : Program} {w : World} {K : PySem.W.Frag} {mg : Str → Option Value} {x p : Str} {st : Stmt} {N : List Str} {k : Nat} {sp : Sp} {fa : Addr} (D : DefX K mg x st [p]) (hfa : mg x = some (.ref fa)) (S : FnScope N [p] (defScope st)) (len : ∀ vs H Q E, sp vs H Q E → vs.length = 1)
    (hbody : ∀ (base : Heap) (f : Addr) (cdv : Value) (A : Around) (outer : List Env) (s : Shared) (H : Hp) (vs : List V) (Q : VK) (E : XK), Room k (A.deeper (envOfC x (defScope st) s.heap.objs.size f cdv)) → sp vs H Q E →
      ∃ t, PSs (cxOf L2.CX0 P w K mg base N x (defScope st) f cdv A outer s H E).nox (defBody st) t ∧ t { nx := fun _ H' => Q .non H', rt := Q } (start N vs) H) :
    ∃ fd : FuncData, (∀ (s : Shared) (v : Value), BindsTo s fd ⟨[v], []⟩ [(p, v)]) ∧ ∀ base : Heap, K.In base → base.Ns mainGlobals mg → FnOk P w K mg base L2.CX0 (k + 1) fa fd [p] sp := by
  obtain ⟨f, fd, F, m, b⟩ := D.ex
  have e := hfa.symm.trans m
  cases e
  exact ⟨fd, fun s v => .of_eq (b [v] rfl), fun base _ _ => F.ok S len (hbody base fa)⟩
theorem cut_to (xs : List V) (n : Nat) : cutV xs none (some (n : Int)) = xs.take n := by
  unfold cutV
  rw [HT.sIx_none, HT.sIx_nat, List.drop_zero, Nat.sub_zero]
  by_cases h : n ≤ xs.length
  · rw [Nat.min_eq_left h]
  · rw [Nat.min_eq_right (by omega), List.take_length, List.take_of_length_le (by omega)]
theorem cut_from (xs : List V) (n : Nat) : cutV xs (some (n : Int)) none = xs.drop n := by
  unfold cutV
  rw [HT.sIx_none, HT.sIx_nat]
  by_cases h : n ≤ xs.length
  · rw [Nat.min_eq_left h, List.take_of_length_le (by rw [List.length_drop]; omega)]
  · rw [Nat.min_eq_right (by omega), List.drop_length, List.drop_eq_nil_of_le (by omega), List.take_nil]
theorem cut_mid {xs : List V} {n m : Nat} (h : n ≤ m) (hm : m ≤ xs.length) : cutV xs (some (n : Int)) (some (m : Int)) = (xs.drop n).take (m - n) := by
  unfold cutV
  rw [HT.sIx_nat, HT.sIx_nat, Nat.min_eq_left hm, Nat.min_eq_left (show n ≤ xs.length by omega)]
theorem take63 {ns : List Int} (h : ns.length ≤ 63) : cutV (ns.map V.int) none (some 63) = ns.map V.int := by
  rw [show (63 : Int) = ((63 : Nat) : Int) from rfl, cut_to, List.take_of_length_le (by rw [List.length_map]; exact h)]
theorem small {n : Nat} (h : n ≤ 1000) : n ≤ sizeLine := Nat.le_of_lt (small1000 h)
theorem same_upd {H : Hp} {p : Addr} {o : HO} (h : H p = none) : Same H (upd H p o) := fun b x e => by
  rw [upd_ne (ne_of_none e h)]
  exact e

/-! ### classes -/
structure MetX (K : PySem.W.Frag) (C : Addr) (m qual : Str) (st : Stmt) (ps : List Str) : Prop where
  ex : ∃ (f : Addr) (fd : FuncData), L2.Fun K m qual st f fd ∧ Meth K C m f ∧ ∀ us : List Value, us.length = ps.length → bindArgs fd ⟨us, []⟩ = pure (ps.zip us)
structure MakX (K : PySem.W.Frag) (C : Addr) (qual : Str) (st : Stmt) (ps : List Str) : Prop where
  ex : ∃ (f : Addr) (fd : FuncData), L2.Fun K "__init__" qual st f fd ∧ Mk K C f ∧ ∀ us : List Value, us.length = ps.length → bindArgs fd ⟨us, []⟩ = pure (ps.zip us)
/-- an __init__ with defaults -/
structure MakD (K : PySem.W.Frag) (C : Addr) (qual : Str) (st : Stmt) (ps : List Str) (dvs : List V) : Prop where
  ex : ∃ (f : Addr) (fd : FuncData), L2.FunD K "__init__" qual (defArgs st) (defBody st) (defScope st) dvs [] f fd ∧ Mk K C f
theorem mak_ofD {P : Program} {w : World} {K : PySem.W.Frag} {mg : Str → Option Value} {base : Heap} {C : Addr} {x qual : Str} {st : Stmt} {N ps : List Str} {dvs : List V} {k : Nat} {sp : Sp} (n j : Nat) (hm : mg x = some (.ref C)) (D : MakD K C qual st ps dvs) (hd : dvs ≠ []) (hn : n + (dvs.length - j) = ps.length)
    (hb : ∀ (T : Addr) (kV doc pm : Value) (an : Option Addr) (cdv ct : Value) (us its : List Value), us.length = n → its.length = dvs.length →
      ∃ k, bindArgs (PySem.W.fnOf "__init__" qual (defArgs st) (defBody st) (defScope st) (.ref T) kV doc pm an cdv ct) ⟨us, []⟩ = seqItems? (.ref T) >>= k ∧ k (some its.toArray) = pure (ps.zip (us ++ its.drop j)))
    (S : FnScope N ps (defScope st)) (len : ∀ vs H Q E, sp vs H Q E → vs.length = ps.length)
    (hbody : ∀ (f : Addr) (cdv : Value) (A : Around) (outer : List Env) (s : Shared) (H : Hp) (vs : List V) (Q : VK) (E : XK), Room k (A.deeper (envOfC qual (defScope st) s.heap.objs.size f cdv)) → sp vs H Q E →
      ∃ t, PSs (cxOf L2.CX0 P w K mg base N qual (defScope st) f cdv A outer s H E).nox (defBody st) t ∧ t { nx := fun _ H' => Q .non H', rt := Q } (start N vs) H) : Mak P w K mg base (k + 1) x C sp (dvs.drop j) := by
  obtain ⟨f, fd, F, M⟩ := D.ex
  obtain ⟨ds, d, b⟩ := F.binds1 n j hd hn hb
  refine ⟨f, fd, ps, ds, M, F.ok S len fun cdv A outer s H vs Q E hr h => ?_, hm, b, d⟩
  obtain ⟨t, h1, h2⟩ := hbody f cdv A outer s H vs Q E hr h
  exact ⟨t, h1.nox, h2⟩
theorem met_of {P : Program} {w : World} {K : PySem.W.Frag} {mg : Str → Option Value} {base : Heap} {C : Addr} {m qual : Str} {st : Stmt} {N ps : List Str} {k : Nat} {sp : Sp} (c : Cls K C) (D : MetX K C m qual st ps) (S : FnScope N ps (defScope st)) (len : ∀ vs H Q E, sp vs H Q E → vs.length = ps.length)
    (hbody : ∀ (f : Addr) (cdv : Value) (A : Around) (outer : List Env) (s : Shared) (H : Hp) (vs : List V) (Q : VK) (E : XK), Room k (A.deeper (envOfC qual (defScope st) s.heap.objs.size f cdv)) → sp vs H Q E →
      ∃ t, PSs (cxOf L2.CX0 P w K mg base N qual (defScope st) f cdv A outer s H E).nox (defBody st) t ∧ t { nx := fun _ H' => Q .non H', rt := Q } (start N vs) H) : Met P w K mg base (k + 1) C m sp [] := by
  obtain ⟨f, fd, F, me, b⟩ := D.ex
  exact ⟨f, fd, ps, [], c, me, F.ok S len (hbody f), .all b, .nil⟩
theorem mak_of {P : Program} {w : World} {K : PySem.W.Frag} {mg : Str → Option Value} {base : Heap} {C : Addr} {x qual : Str} {st : Stmt} {N ps : List Str} {k : Nat} {sp : Sp} (hm : mg x = some (.ref C)) (D : MakX K C qual st ps) (S : FnScope N ps (defScope st)) (len : ∀ vs H Q E, sp vs H Q E → vs.length = ps.length)
    (hbody : ∀ (f : Addr) (cdv : Value) (A : Around) (outer : List Env) (s : Shared) (H : Hp) (vs : List V) (Q : VK) (E : XK), Room k (A.deeper (envOfC qual (defScope st) s.heap.objs.size f cdv)) → sp vs H Q E →
      ∃ t, PSs (cxOf L2.CX0 P w K mg base N qual (defScope st) f cdv A outer s H E).nox (defBody st) t ∧ t { nx := fun _ H' => Q .non H', rt := Q } (start N vs) H) : Mak P w K mg base (k + 1) x C sp [] := by
  obtain ⟨f, fd, F, M, b⟩ := D.ex
  exact ⟨f, fd, ps, [], M, F.ok S len (hbody f), hm, .all b, .nil⟩

/-! ### an own error with an __init__ of its own, over an own class of errors without one -/
structure ExcI (K : PySem.W.Frag) (mg : Str → Option Value) (x bx fld qual : Str) (st : Stmt) (ps : List Str) (C B : Addr) : Prop where
  gC : mg x = some (.ref C)
  T : OexC K C
  xf : XfC K C
  no : PySem.W.findIn K (.ref C) fld = some none
  ini : ∃ (fI : Addr) (fd : FuncData), L2.Fun K "__init__" qual st fI fd ∧ PySem.W.findIn K (.ref C) "__init__" = some (some (.ref fI)) ∧ PySem.W.typeIn K (.ref fI) = some (.type "function") ∧ ∀ us : List Value, us.length = ps.length → bindArgs fd ⟨us, []⟩ = pure (ps.zip us)
  cP : ExcC K C
  eP : PySem.W.exmOne K (.ref C) (.ref C) = some true
  gB : mg bx = some (.ref B)
  b1 : PySem.W.specialIn K (.ref B) "__getattribute__" = some (some (.builtin "type.__getattribute__"))
  b2 : PySem.W.readsIn K B (.type "type") = true
  b3 : PySem.W.findCls K (.ref B) (.type "type") "__init__" = some (.val (.builtin "ValueError.__init__"))

structure Zs (mg : Str → Option Value) : Prop where
  len : mg "len" = none
  isinstance : mg "isinstance" = none
  int : mg "int" = none
  list : mg "list" = none
  tuple : mg "tuple" = none
  range : mg "range" = none
  str : mg "str" = none
  min : mg "min" = none
  enumerate : mg "enumerate" = none
  ValueError : mg "ValueError" = none
structure Txt (K : PySem.W.Frag) (mg : Str → Option Value) (cc : Addr) : Prop where
  d_key_of : DefX K mg "key_of" s_key_of ["figures", "depth"]
  d_read_row : DefX K mg "read_row" s_read_row ["row", "depth"]
  d_placed : DefX K mg "placed" s_placed ["row", "place", "depth"]
  d_read_rows : DefX K mg "read_rows" s_read_rows ["text", "depth"]
  d__law_cell_at : DefX K mg "_law_cell_at" s__law_cell_at ["_law_script", "_law_k"]
  d__law_draw : DefX K mg "_law_draw" s__law_draw ["_law_cell", "_law_k", "_law_many"]
  d__law_text : DefX K mg "_law_text" s__law_text ["_law_cell"]
  d__law_bad : DefX K mg "_law_bad" s__law_bad ["_law_cell", "_law_key"]
  d__law_row : DefX K mg "_law_row" s__law_row ["_law_cell", "_law_depth"]
  d__law_alone : DefX K mg "_law_alone" s__law_alone ["_law_row_here", "_law_due", "_law_depth"]
  d_law : DefX K mg "law" s_law ["_law_script"]
  g_BookError : ∃ C, mg "BookError" = some (.ref C)
  g_NoPlace : ∃ C, mg "NoPlace" = some (.ref C)
  g_BadPaper : ∃ C, mg "BadPaper" = some (.ref C)
  y_BadRow : ∃ C B, ExcI K mg "BadRow" "BookError" "row" "BadRow.__init__" s_BadRow___init__ ["self", "row"] C B
  q_BadRow_BadPaper : ∀ C D, mg "BadRow" = some (.ref C) → mg "BadPaper" = some (.ref D) → PySem.W.kitOne K (.ref C) (.ref D) = some false
  q_BadRow_NoPlace : ∀ C D, mg "BadRow" = some (.ref C) → mg "NoPlace" = some (.ref D) → PySem.W.kitOne K (.ref C) (.ref D) = some false
  q_BadRow_ValueError : ∀ C, mg "BadRow" = some (.ref C) → PySem.W.kitOne K (.ref C) (.type "ValueError") = some true
  Z : Zs mg
theorem txt_mk {K : PySem.W.Frag} {h : Heap} {mg : Str → Option Value} (X : K.In h) (G : h.Ns mainGlobals mg) {cc f0 f1 f2 f3 f4 f5 f6 f7 f8 f9 f10 C_BookError C_NoPlace C_BadPaper C_BadRow : Addr} {od0 an0 od1 an1 od2 an2 od3 an3 od4 an4 od5 an5 od6 an6 od7 an7 od8 an8 od9 an9 od10 an10 : Option Addr} {sl0 sl1 sl2 sl3 sl4 sl5 sl6 sl7 sl8 sl9 sl10 : Array (Option Value)} {oc0 kV0 dc0 pm0 cd0 ct0 oc1 kV1 dc1 pm1 cd1 ct1 oc2 kV2 dc2 pm2 cd2 ct2 oc3 kV3 dc3 pm3 cd3 ct3 oc4 kV4 dc4 pm4 cd4 ct4 oc5 kV5 dc5 pm5 cd5 ct5 oc6 kV6 dc6 pm6 cd6 ct6 oc7 kV7 dc7 pm7 cd7 ct7 oc8 kV8 dc8 pm8 cd8 ct8 oc9 kV9 dc9 pm9 cd9 ct9 oc10 kV10 dc10 pm10 cd10 ct10 : Value} {fI_BadRow N_BadRow : Addr} {nm_BadRow qn_BadRow : Str} {bs_BadRow sub_BadRow : List Value} {sn_BadRow : List Str} {ab_BadRow : Bool} {col_BadRow : Option Bool} {dd_BadRow od_BadRow an_BadRow : Option Addr} {m0_BadRow m1_BadRow m2_BadRow m3_BadRow m5_BadRow : Option Value} {oc_BadRow kV_BadRow dc_BadRow pm_BadRow cd_BadRow ct_BadRow : Value} {sl_BadRow : Array (Option Value)}
    (a0 : PySem.W.nsIn K mainGlobals "key_of" = some (some (.ref f0))) (l0 : K.lookup f0 = some ⟨oc0, od0, .func (PySem.W.fnOf "key_of" "key_of" (defArgs s_key_of) (defBody s_key_of) (defScope s_key_of) .none kV0 dc0 pm0 an0 cd0 ct0), sl0⟩) (c0 : PySem.W.codeIn K cd0 "key_of" = true) (k0 : PySem.W.keepIn K (.ref f0) = true)
    (a1 : PySem.W.nsIn K mainGlobals "read_row" = some (some (.ref f1))) (l1 : K.lookup f1 = some ⟨oc1, od1, .func (PySem.W.fnOf "read_row" "read_row" (defArgs s_read_row) (defBody s_read_row) (defScope s_read_row) .none kV1 dc1 pm1 an1 cd1 ct1), sl1⟩) (c1 : PySem.W.codeIn K cd1 "read_row" = true) (k1 : PySem.W.keepIn K (.ref f1) = true)
    (a2 : PySem.W.nsIn K mainGlobals "placed" = some (some (.ref f2))) (l2 : K.lookup f2 = some ⟨oc2, od2, .func (PySem.W.fnOf "placed" "placed" (defArgs s_placed) (defBody s_placed) (defScope s_placed) .none kV2 dc2 pm2 an2 cd2 ct2), sl2⟩) (c2 : PySem.W.codeIn K cd2 "placed" = true) (k2 : PySem.W.keepIn K (.ref f2) = true)
    (a3 : PySem.W.nsIn K mainGlobals "read_rows" = some (some (.ref f3))) (l3 : K.lookup f3 = some ⟨oc3, od3, .func (PySem.W.fnOf "read_rows" "read_rows" (defArgs s_read_rows) (defBody s_read_rows) (defScope s_read_rows) .none kV3 dc3 pm3 an3 cd3 ct3), sl3⟩) (c3 : PySem.W.codeIn K cd3 "read_rows" = true) (k3 : PySem.W.keepIn K (.ref f3) = true)
    (a4 : PySem.W.nsIn K mainGlobals "_law_cell_at" = some (some (.ref f4))) (l4 : K.lookup f4 = some ⟨oc4, od4, .func (PySem.W.fnOf "_law_cell_at" "_law_cell_at" (defArgs s__law_cell_at) (defBody s__law_cell_at) (defScope s__law_cell_at) .none kV4 dc4 pm4 an4 cd4 ct4), sl4⟩) (c4 : PySem.W.codeIn K cd4 "_law_cell_at" = true) (k4 : PySem.W.keepIn K (.ref f4) = true)
    (a5 : PySem.W.nsIn K mainGlobals "_law_draw" = some (some (.ref f5))) (l5 : K.lookup f5 = some ⟨oc5, od5, .func (PySem.W.fnOf "_law_draw" "_law_draw" (defArgs s__law_draw) (defBody s__law_draw) (defScope s__law_draw) .none kV5 dc5 pm5 an5 cd5 ct5), sl5⟩) (c5 : PySem.W.codeIn K cd5 "_law_draw" = true) (k5 : PySem.W.keepIn K (.ref f5) = true)
    (a6 : PySem.W.nsIn K mainGlobals "_law_text" = some (some (.ref f6))) (l6 : K.lookup f6 = some ⟨oc6, od6, .func (PySem.W.fnOf "_law_text" "_law_text" (defArgs s__law_text) (defBody s__law_text) (defScope s__law_text) .none kV6 dc6 pm6 an6 cd6 ct6), sl6⟩) (c6 : PySem.W.codeIn K cd6 "_law_text" = true) (k6 : PySem.W.keepIn K (.ref f6) = true)
    (a7 : PySem.W.nsIn K mainGlobals "_law_bad" = some (some (.ref f7))) (l7 : K.lookup f7 = some ⟨oc7, od7, .func (PySem.W.fnOf "_law_bad" "_law_bad" (defArgs s__law_bad) (defBody s__law_bad) (defScope s__law_bad) .none kV7 dc7 pm7 an7 cd7 ct7), sl7⟩) (c7 : PySem.W.codeIn K cd7 "_law_bad" = true) (k7 : PySem.W.keepIn K (.ref f7) = true)
    (a8 : PySem.W.nsIn K mainGlobals "_law_row" = some (some (.ref f8))) (l8 : K.lookup f8 = some ⟨oc8, od8, .func (PySem.W.fnOf "_law_row" "_law_row" (defArgs s__law_row) (defBody s__law_row) (defScope s__law_row) .none kV8 dc8 pm8 an8 cd8 ct8), sl8⟩) (c8 : PySem.W.codeIn K cd8 "_law_row" = true) (k8 : PySem.W.keepIn K (.ref f8) = true)
    (a9 : PySem.W.nsIn K mainGlobals "_law_alone" = some (some (.ref f9))) (l9 : K.lookup f9 = some ⟨oc9, od9, .func (PySem.W.fnOf "_law_alone" "_law_alone" (defArgs s__law_alone) (defBody s__law_alone) (defScope s__law_alone) .none kV9 dc9 pm9 an9 cd9 ct9), sl9⟩) (c9 : PySem.W.codeIn K cd9 "_law_alone" = true) (k9 : PySem.W.keepIn K (.ref f9) = true)
    (a10 : PySem.W.nsIn K mainGlobals "law" = some (some (.ref f10))) (l10 : K.lookup f10 = some ⟨oc10, od10, .func (PySem.W.fnOf "law" "law" (defArgs s_law) (defBody s_law) (defScope s_law) .none kV10 dc10 pm10 an10 cd10 ct10), sl10⟩) (c10 : PySem.W.codeIn K cd10 "law" = true) (k10 : PySem.W.keepIn K (.ref f10) = true)
    (z_len : PySem.W.nsIn K mainGlobals "len" = some none)
    (z_isinstance : PySem.W.nsIn K mainGlobals "isinstance" = some none)
    (z_int : PySem.W.nsIn K mainGlobals "int" = some none)
    (z_list : PySem.W.nsIn K mainGlobals "list" = some none)
    (z_tuple : PySem.W.nsIn K mainGlobals "tuple" = some none)
    (z_range : PySem.W.nsIn K mainGlobals "range" = some none)
    (z_str : PySem.W.nsIn K mainGlobals "str" = some none)
    (z_min : PySem.W.nsIn K mainGlobals "min" = some none)
    (z_enumerate : PySem.W.nsIn K mainGlobals "enumerate" = some none)
    (z_ValueError : PySem.W.nsIn K mainGlobals "ValueError" = some none)
    (g_BookError : PySem.W.nsIn K mainGlobals "BookError" = some (some (.ref C_BookError)))
    (g_NoPlace : PySem.W.nsIn K mainGlobals "NoPlace" = some (some (.ref C_NoPlace)))
    (g_BadPaper : PySem.W.nsIn K mainGlobals "BadPaper" = some (some (.ref C_BadPaper)))
    (g_BadRow : PySem.W.nsIn K mainGlobals "BadRow" = some (some (.ref C_BadRow)))
    (xL_BadRow : K.lookup C_BadRow = some (excClassObj nm_BadRow qn_BadRow C_BadRow N_BadRow bs_BadRow [.ref C_BookError, .type "ValueError", .type "Exception", .type "BaseException", .type "object"] true sn_BadRow sub_BadRow ab_BadRow col_BadRow dd_BadRow m0_BadRow m1_BadRow m2_BadRow m3_BadRow m5_BadRow "ValueError.__new__"))
    (sa_BadRow : PySem.W.findIn K (.ref C_BadRow) "__setattr__" = some (some (.builtin "object.__setattr__")))
    (ga_BadRow : PySem.W.findIn K (.ref C_BadRow) "__getattribute__" = some (some (.builtin "BaseException.__getattribute__")))
    (gg_BadRow : PySem.W.findIn K (.ref C_BadRow) "__getattr__" = some none)
    (nf_BadRow : PySem.W.findIn K (.ref C_BadRow) "row" = some none)
    (kC_BadRow : PySem.W.keepIn K (.ref C_BadRow) = true)
    (eC_BadRow : PySem.W.subIn K (.ref C_BadRow) (.type "BaseException") = some true)
    (tC_BadRow : PySem.W.typeIn K (.ref C_BadRow) = some (.type "type"))
    (hC_BadRow : PySem.W.hasDictIn K C_BadRow = true)
    (iac_BadRow : PySem.W.findIn K (.ref C_BadRow) "__class__" = some (some (.builtin "object.__class__")))
    (xm_BadRow : PySem.W.mroIn K C_BadRow (.type "object") = some true)
    (xe_BadRow : PySem.W.exmOne K (.ref C_BadRow) (.ref C_BadRow) = some true)
    (fi_BadRow : PySem.W.findIn K (.ref C_BadRow) "__init__" = some (some (.ref fI_BadRow)))
    (ti_BadRow : PySem.W.typeIn K (.ref fI_BadRow) = some (.type "function"))
    (bg_BadRow : PySem.W.specialIn K (.ref C_BookError) "__getattribute__" = some (some (.builtin "type.__getattribute__")))
    (br_BadRow : PySem.W.readsIn K C_BookError (.type "type") = true)
    (bf_BadRow : PySem.W.findCls K (.ref C_BookError) (.type "type") "__init__" = some (.val (.builtin "ValueError.__init__")))
    (xn_BadRow : PySem.W.specialIn K (.builtin "object.__class__") "__get__" = some (some (.builtin "getset_descriptor.__get__")))
    (xt_BadRow : PySem.W.takesIn K (.builtin "object.__class__") = some true)
    (li_BadRow : K.lookup fI_BadRow = some ⟨oc_BadRow, od_BadRow, .func (PySem.W.fnOf "__init__" "BadRow.__init__" (defArgs s_BadRow___init__) (defBody s_BadRow___init__) (defScope s_BadRow___init__) .none kV_BadRow dc_BadRow pm_BadRow an_BadRow cd_BadRow ct_BadRow), sl_BadRow⟩) (ci_BadRow : PySem.W.codeIn K cd_BadRow "BadRow.__init__" = true) (ki_BadRow : PySem.W.keepIn K (.ref fI_BadRow) = true)
    (q_BadRow_BadPaper : PySem.W.kitOne K (.ref C_BadRow) (.ref C_BadPaper) = some false)
    (q_BadRow_NoPlace : PySem.W.kitOne K (.ref C_BadRow) (.ref C_NoPlace) = some false)
    (q_BadRow_ValueError : PySem.W.kitOne K (.ref C_BadRow) (.type "ValueError") = some true)
    : Txt K mg cc := by
  exact ⟨⟨⟨_, _, fun_mk (st := s_key_of) l0 c0 k0, PySem.W.mg_of X G a0, fun us hl => match us, hl with | [_, _], _ => rfl⟩⟩,
    ⟨⟨_, _, fun_mk (st := s_read_row) l1 c1 k1, PySem.W.mg_of X G a1, fun us hl => match us, hl with | [_, _], _ => rfl⟩⟩,
    ⟨⟨_, _, fun_mk (st := s_placed) l2 c2 k2, PySem.W.mg_of X G a2, fun us hl => match us, hl with | [_, _, _], _ => rfl⟩⟩,
    ⟨⟨_, _, fun_mk (st := s_read_rows) l3 c3 k3, PySem.W.mg_of X G a3, fun us hl => match us, hl with | [_, _], _ => rfl⟩⟩,
    ⟨⟨_, _, fun_mk (st := s__law_cell_at) l4 c4 k4, PySem.W.mg_of X G a4, fun us hl => match us, hl with | [_, _], _ => rfl⟩⟩,
    ⟨⟨_, _, fun_mk (st := s__law_draw) l5 c5 k5, PySem.W.mg_of X G a5, fun us hl => match us, hl with | [_, _, _], _ => rfl⟩⟩,
    ⟨⟨_, _, fun_mk (st := s__law_text) l6 c6 k6, PySem.W.mg_of X G a6, fun us hl => match us, hl with | [_], _ => rfl⟩⟩,
    ⟨⟨_, _, fun_mk (st := s__law_bad) l7 c7 k7, PySem.W.mg_of X G a7, fun us hl => match us, hl with | [_, _], _ => rfl⟩⟩,
    ⟨⟨_, _, fun_mk (st := s__law_row) l8 c8 k8, PySem.W.mg_of X G a8, fun us hl => match us, hl with | [_, _], _ => rfl⟩⟩,
    ⟨⟨_, _, fun_mk (st := s__law_alone) l9 c9 k9, PySem.W.mg_of X G a9, fun us hl => match us, hl with | [_, _, _], _ => rfl⟩⟩,
    ⟨⟨_, _, fun_mk (st := s_law) l10 c10 k10, PySem.W.mg_of X G a10, fun us hl => match us, hl with | [_], _ => rfl⟩⟩,
    ⟨C_BookError, PySem.W.mg_of X G g_BookError⟩,
    ⟨C_NoPlace, PySem.W.mg_of X G g_NoPlace⟩,
    ⟨C_BadPaper, PySem.W.mg_of X G g_BadPaper⟩,
    ⟨C_BadRow, C_BookError, ⟨PySem.W.mg_of X G g_BadRow, ⟨⟨_, _, _, _, _, _, _, _, _, _, _, _, _, _, _, xL_BadRow, rfl⟩, sa_BadRow, eC_BadRow, tC_BadRow, kC_BadRow⟩, ⟨ga_BadRow, gg_BadRow, eC_BadRow, hC_BadRow⟩, nf_BadRow, ⟨_, _, fun_mk (st := s_BadRow___init__) li_BadRow ci_BadRow ki_BadRow, fi_BadRow, ti_BadRow, fun us hl => match us, hl with | [_, _], _ => rfl⟩, ⟨ga_BadRow, gg_BadRow, eC_BadRow, hC_BadRow, iac_BadRow, xn_BadRow, xt_BadRow, xm_BadRow⟩, xe_BadRow, PySem.W.mg_of X G g_BookError, bg_BadRow, br_BadRow, bf_BadRow⟩⟩,
    fun C D e1 e2 => by rw [PySem.W.mg_of X G g_BadRow] at e1; rw [PySem.W.mg_of X G g_BadPaper] at e2; cases e1; cases e2; exact q_BadRow_BadPaper,
    fun C D e1 e2 => by rw [PySem.W.mg_of X G g_BadRow] at e1; rw [PySem.W.mg_of X G g_NoPlace] at e2; cases e1; cases e2; exact q_BadRow_NoPlace,
    fun C e1 => by rw [PySem.W.mg_of X G g_BadRow] at e1; cases e1; exact q_BadRow_ValueError, ⟨PySem.W.mg_none_of X G z_len, PySem.W.mg_none_of X G z_isinstance, PySem.W.mg_none_of X G z_int, PySem.W.mg_none_of X G z_list, PySem.W.mg_none_of X G z_tuple, PySem.W.mg_none_of X G z_range, PySem.W.mg_none_of X G z_str, PySem.W.mg_none_of X G z_min, PySem.W.mg_none_of X G z_enumerate, PySem.W.mg_none_of X G z_ValueError⟩⟩
/-! ### heaps that grow -/
/-- all that was tracked is as it was, but dicts keyed by tuples may have got more -/
structure Ext (H H' : Hp) : Prop where
  keep : ∀ a o, H a = some o → (∀ kvs, o ≠ .dT kvs) → H' a = some o
  grow : ∀ a kvs, H a = some (.dT kvs) → ∃ more, H' a = some (.dT (kvs ++ more))
theorem Ext.of_same {H H' : Hp} (h : Same H H') : Ext H H' := ⟨fun a o e _ => h a o e, fun a kvs e => ⟨[], by rw [List.append_nil]; exact h a _ e⟩⟩
theorem Ext.refl (H : Hp) : Ext H H := .of_same (Same.refl H)
theorem Ext.trans {H H1 H2 : Hp} (a : Ext H H1) (b : Ext H1 H2) : Ext H H2 := by
  refine ⟨fun x o e n => b.keep x o (a.keep x o e n) n, fun x kvs e => ?_⟩
  obtain ⟨m1, e1⟩ := a.grow x kvs e
  obtain ⟨m2, e2⟩ := b.grow x _ e1
  exact ⟨m1 ++ m2, by rw [e2, List.append_assoc]⟩
theorem Ext.new {H : Hp} {p : Addr} {o : HO} (h : H p = none) : Ext H (upd H p o) := .of_same (same_upd h)
theorem Ext.mut {H H' : Hp} {p : Addr} {o : HO} (e : Ext H H') (h : H p = none) : Ext H (upd H' p o) := by
  refine ⟨fun a u ha n => ?_, fun a kvs ha => ?_⟩
  · rw [upd_ne (ne_of_none ha h)]
    exact e.keep a u ha n
  · rw [upd_ne (ne_of_none ha h)]
    exact e.grow a kvs ha
theorem Ext.free {H H' : Hp} {p : Addr} (e : Ext H H') (h : H' p = none) : H p = none := by
  cases q : H p with
  | none => rfl
  | some o =>
    by_cases n : ∃ kvs, o = .dT kvs
    · obtain ⟨kvs, rfl⟩ := n
      obtain ⟨m, e1⟩ := e.grow p kvs q
      rw [e1] at h
      cases h
    · rw [e.keep p o q fun kvs z => n ⟨kvs, z⟩] at h
      cases h
theorem Ext.lst {H H' : Hp} {a : Addr} {xs : List V} (e : Ext H H') (h : H a = some (.lst xs)) : H' a = some (.lst xs) := e.keep _ _ h fun _ z => nomatch z
theorem Ext.tup {H H' : Hp} {a : Addr} {xs : List V} (e : Ext H H') (h : H a = some (.tup xs)) : H' a = some (.tup xs) := e.keep _ _ h fun _ z => nomatch z
theorem Ext.ins {H H' : Hp} {a C dx : Addr} {fs : List (Str × V)} (e : Ext H H') (h : H a = some (.ins C dx fs)) : H' a = some (.ins C dx fs) := e.keep _ _ h fun _ z => nomatch z
theorem Ext.dK {H H' : Hp} {a : Addr} {kvs : List (Key × V)} (e : Ext H H') (h : H a = some (.dK kvs)) : H' a = some (.dK kvs) := e.keep _ _ h fun _ z => nomatch z
theorem Ext.frz {H H' : Hp} {a : Addr} {o : Obj} {u : HO} (e : Ext H H') (h : H a = some (.frz o u)) : H' a = some (.frz o u) := e.keep _ _ h fun _ z => nomatch z
theorem Ext.seq {K : PySem.W.Frag} {H H' : Hp} {a : Addr} {xs : List V} (e : Ext H H') (h : SqL K H a xs) : SqL K H' a xs := by
  rcases h with (h | ⟨o, h⟩) | h
  · exact .inl (.inl (e.lst h))
  · exact .inl (.inr ⟨o, e.frz h⟩)
  · exact .inr h
theorem Ext.seqT {K : PySem.W.Frag} {H H' : Hp} {a : Addr} {xs : List V} (e : Ext H H') (h : SqT K H a xs) : SqT K H' a xs := by
  rcases h with (h | ⟨o, h⟩) | h
  · exact .inl (.inl (e.tup h))
  · exact .inl (.inr ⟨o, e.frz h⟩)
  · exact .inr h
/-- what the telling of a thing leans on: it is never changed, but dicts keyed by tuples -/
def stat : HO → Prop
  | .lst _ | .dK _ | .ins _ _ _ | .set _ _ | .xd _ => False
  | _ => True
def Kp (H H' : Hp) : Prop := ∀ a o, H a = some o → stat o → H' a = some o
structure Gr (H H' : Hp) : Prop where
  keep : ∀ a o, H a = some o → stat o → (∀ kvs, o ≠ .dT kvs) → H' a = some o
  grow : ∀ a kvs, H a = some (.dT kvs) → ∃ more, H' a = some (.dT (kvs ++ more))
theorem Ext.gr {H H' : Hp} (e : Ext H H') : Gr H H' := ⟨fun a o h _ n => e.keep a o h n, e.grow⟩
theorem Kp.gr {H H' : Hp} (e : Kp H H') : Gr H H' := ⟨fun a o h s _ => e a o h s, fun a kvs h => ⟨[], by rw [List.append_nil]; exact e a _ h True.intro⟩⟩
theorem Kp.refl (H : Hp) : Kp H H := fun _ _ h _ => h
theorem Kp.trans {H H1 H2 : Hp} (a : Kp H H1) (b : Kp H1 H2) : Kp H H2 := fun c o h s => b c o (a c o h s) s
theorem Gr.refl (H : Hp) : Gr H H := (Kp.refl H).gr
theorem Gr.trans {H H1 H2 : Hp} (a : Gr H H1) (b : Gr H1 H2) : Gr H H2 := by
  refine ⟨fun x o e s n => b.keep x o (a.keep x o e s n) s n, fun x kvs e => ?_⟩
  obtain ⟨m1, e1⟩ := a.grow x kvs e
  obtain ⟨m2, e2⟩ := b.grow x _ e1
  exact ⟨m1 ++ m2, by rw [e2, List.append_assoc]⟩
theorem Kp.new {H : Hp} {p : Addr} {o : HO} (h : H p = none) : Kp H (upd H p o) := fun a u e _ => by
  rw [upd_ne (ne_of_none e h)]
  exact e
theorem Kp.lst {H : Hp} {p : Addr} {o : HO} {xs : List V} (h : H p = some (.lst xs)) : Kp H (upd H p o) := fun a u e s => by
  by_cases q : a = p
  · subst q
    rw [h] at e
    cases e
    exact s.elim
  · rw [upd_ne q]
    exact e
theorem Kp.ins {H : Hp} {p C dx : Addr} {o : HO} {fs : List (Str × V)} (h : H p = some (.ins C dx fs)) : Kp H (upd H p o) := fun a u e s => by
  by_cases q : a = p
  · subst q
    rw [h] at e
    cases e
    exact s.elim
  · rw [upd_ne q]
    exact e
theorem Kp.dK {H : Hp} {p : Addr} {o : HO} {kvs : List (Key × V)} (h : H p = some (.dK kvs)) : Kp H (upd H p o) := fun a u e s => by
  by_cases q : a = p
  · subst q
    rw [h] at e
    cases e
    exact s.elim
  · rw [upd_ne q]
    exact e
/-! ### free terms, and seals -/
inductive Tm where
  | int (i : Int)
  | str (x : Str)
  | sl (m : Str) (a b : Tm)
  deriving DecidableEq
def Tm.dep : Tm → Nat
  | .int _ | .str _ => 0
  | .sl _ a b => max a.dep b.dep + 1
abbrev txtOk (x : Str) : Bool := PySem.PyData.strOk x
/-- a seal: its function, what its values tell, its state (so many more things may be told) -/
structure Sys where
  f : Addr
  den : Hp → V → Tm → Prop
  ok : Hp → Nat → Prop
structure Sys.Good (K : PySem.W.Frag) (S : Sys) : Prop where
  mono : ∀ {H H' : Hp} {v : V} {t : Tm}, Gr H H' → S.den H v t → S.den H' v t
  keep : ∀ {H H' : Hp} {r : Nat}, Kp H H' → S.ok H r → S.ok H' r
  less : ∀ {H : Hp} {r r' : Nat}, S.ok H r → r' ≤ r → S.ok H r'
  int : ∀ {H : Hp} {r : Nat} (i : Int), S.ok H r → S.den H (.int i) (.int i)
  str : ∀ {H : Hp} {r : Nat} (x : Str), S.ok H r → txtOk x = true → S.den H (.str x) (.str x)
  same : ∀ {H : Hp} {v v' : V} {t : Tm}, S.den H v t → S.den H v' t → ∃ d, Dp K H v d ∧ Dp K H v' d ∧ d.canLay0 = true ∧ d.depth ≤ t.dep
def spSl (S : Sys) : Sp := fun vs H Q _ => ∃ (r : Nat) (m : Str) (a b : Tm) (va vb : V), vs = [.str m, va, vb] ∧ txtOk m = true ∧ S.ok H (r + 1) ∧ S.den H va a ∧ S.den H vb b ∧
  ∀ v H', Ext H H' → S.ok H' r → S.den H' v (.sl m a b) → Q v H'
structure HeldSl (P : Program) (w : World) (K : PySem.W.Frag) (mg : Str → Option Value) (base : Heap) (k : Nat) (S : Sys) : Prop where
  at_ : ∀ (H : Hp) (h : Heap) (r : Nat), K.In h → HOk P w H h → S.ok H r → PySem.W.FnAt S.f h
  run : ∀ (A : Around) (outer : List Env) (s : Shared) (H : Hp) (us : List Value) (vs : List V) (Q : VK) (E : XK), Room k A → Env0 P w K mg base A outer s H → Vals vs us → spSl S vs H Q E →
    codeAny (model P w) A (.call (.ref S.f) ⟨us, []⟩) (CR L2.CX0 outer P w H s Q E) s
/-- of a family of seals: each is good, and its calls keep the promise -/
structure SlA (P : Program) (w : World) (K : PySem.W.Frag) (mg : Str → Option Value) (base : Heap) (Fam : Sys → Prop) : Prop where
  good : ∀ {S : Sys}, Fam S → S.Good K
  held : ∀ S, Fam S → HeldSl P w K mg base 1 S
/-- x(..), x a name that holds a seal -/
def tSl (Fam : Sys → Prop) (i : Nat) (t : TA) : TE := fun σ H Q => ∃ (S : Sys) (r : Nat), Fam S ∧ σ[i]? = some (some (.ref S.f)) ∧ S.ok H r ∧ t σ H fun vs H1 => spSl S vs H1 Q L2.E0
section
variable {X : Cx} {i j k : Nat} {x : Str} {p pos : Pos} {e : Expr} {es : List Expr} {t : TA} {Fam : Sys → Prop}
theorem pe_sl (A : ∀ S, Fam S → HeldSl X.prog X.w X.K X.mg X.base k S) (hr : Room j X.A) (hk : k ≤ j) (hN : X.N[i]? = some x) (hv : Vis X.env.scope x) (ha : PA X (e :: es) t)
    (hdb : (x == ("__debug__" : Str)) = false := by decide) (hcd : (x == ("__classdict__" : Str)) = false := by decide)
    (he : starEach (e :: es) X.env = (false, eval e X.env) :: starEach es X.env := by rfl) (hpl : (backTo pos (starEach es X.env)).any (·.1) = false := by rfl) : PE X (.Call (.Name x p) (e :: es) [] pos) (tSl Fam i t) := by
  refine ⟨fun pins s σ H Q I h => ?_⟩
  obtain ⟨S, r, hS, hs, hok, ht⟩ := h
  refine wpAny_Call_Name_kw (thn ((pe_var (pos := p) hN hv hdb hcd).run pins s σ H (fun v H1 => v = .ref S.f ∧ H1 = H) I ⟨.ref S.f, hs, rfl, rfl⟩) fun u s1 ⟨v, H1, I1, r1, q1⟩ => ?_)
  obtain ⟨rfl, rfl⟩ := q1
  cases r1
  refine PySem.W.callWith_F ((A S hS).at_ _ _ _ I1.kIn I1.hok hok) (thn (ha.run pos pins s1 σ _ _ I1 ht) fun us s2 ⟨vs, H2, I2, rv, q⟩ => ?_) he hpl
  obtain ⟨r', m, a, b, va, vb, e1, e2, e3, q'⟩ := id q
  refine ⟨(A S hS).at_ _ _ _ I2.kIn I2.hok e3, ?_⟩
  refine wpAny_call (codeAny_mono ((A S hS).run X.A X.stack s2 H2 us vs Q L2.E0 (hr.mono hk) I2.env0 rv q) fun r s' hq => ?_)
  cases r with
  | error e => exact False.elim hq
  | ok fl =>
    cases fl with
    | ret u => exact I2.after hq
    | next => exact False.elim hq
    | brk => exact False.elim hq
    | cont => exact False.elim hq
end
/-! ### rows of told things -/
structure DenL (S : Sys) (H : Hp) (vs : List V) (ts : List Tm) : Prop where
  len : vs.length = ts.length
  at_ : ∀ (i : Nat) (v : V) (t : Tm), vs[i]? = some v → ts[i]? = some t → S.den H v t
section
variable {S : Sys} {K : PySem.W.Frag} {H H' : Hp} {vs us : List V} {ts rs : List Tm}
theorem DenL.mono (G : S.Good K) (e : Gr H H') (h : DenL S H vs ts) : DenL S H' vs ts := ⟨h.len, fun i v t a b => G.mono e (h.at_ i v t a b)⟩
theorem DenL.nil : DenL S H [] [] := ⟨rfl, fun i v t a _ => by simp at a⟩
theorem DenL.append (h : DenL S H vs ts) (h' : DenL S H us rs) : DenL S H (vs ++ us) (ts ++ rs) := by
  refine ⟨by rw [List.length_append, List.length_append, h.len, h'.len], fun i v t a b => ?_⟩
  have hl := h.len
  by_cases q : i < vs.length
  · rw [List.getElem?_append_left q] at a
    rw [List.getElem?_append_left (by omega)] at b
    exact h.at_ i v t a b
  · rw [List.getElem?_append_right (by omega)] at a b
    rw [← hl] at b
    exact h'.at_ _ v t a b
theorem DenL.one {v : V} {t : Tm} (h : S.den H v t) : DenL S H [v] [t] := by
  refine ⟨rfl, fun i u r a b => ?_⟩
  cases i with
  | zero =>
    cases a
    cases b
    exact h
  | succ i => simp at a
theorem DenL.cons {v : V} {t : Tm} (h : S.den H v t) (h' : DenL S H vs ts) : DenL S H (v :: vs) (t :: ts) := (DenL.one h).append h'
theorem DenL.take (n : Nat) (h : DenL S H vs ts) : DenL S H (vs.take n) (ts.take n) := by
  refine ⟨by rw [List.length_take, List.length_take, h.len], fun i v t a b => ?_⟩
  rw [List.getElem?_take] at a b
  split at a
  · rename_i q
    rw [if_pos q] at b
    exact h.at_ i v t a b
  · cases a
theorem DenL.drop (n : Nat) (h : DenL S H vs ts) : DenL S H (vs.drop n) (ts.drop n) := by
  refine ⟨by rw [List.length_drop, List.length_drop, h.len], fun i v t a b => ?_⟩
  rw [List.getElem?_drop] at a b
  exact h.at_ _ v t a b
theorem DenL.get (h : DenL S H vs ts) {i : Nat} (hi : i < ts.length) : ∃ v, vs[i]? = some v ∧ S.den H v ts[i] := by
  have hl := h.len
  have hv : i < vs.length := by omega
  exact ⟨vs[i], List.getElem?_eq_getElem hv, h.at_ i _ _ (List.getElem?_eq_getElem hv) (List.getElem?_eq_getElem hi)⟩
/-- the same row told twice -/
theorem DenL.same (G : S.Good K) {n : Nat} : ∀ {vs us : List V} {ts : List Tm}, DenL S H vs ts → DenL S H us ts → (∀ t ∈ ts, t.dep ≤ n) → ∃ ds, DpAll K H vs ds ∧ DpAll K H us ds ∧ PyData.canLayAll0 ds = true ∧ PyData.depthAll ds ≤ n
  | vs, us, [], h, h', _ => by
    have e1 : vs = [] := List.eq_nil_of_length_eq_zero h.len
    have e2 : us = [] := List.eq_nil_of_length_eq_zero h'.len
    subst e1
    subst e2
    exact ⟨[], .nil, .nil, rfl, Nat.zero_le _⟩
  | [], us, t :: ts, h, _, _ => absurd h.len (by simp)
  | v :: vs, [], t :: ts, _, h, _ => absurd h.len (by simp)
  | v :: vs, u :: us, t :: ts, h, h', hd => by
    obtain ⟨d, a1, a2, a3, a4⟩ := G.same (h.at_ 0 v t rfl rfl) (h'.at_ 0 u t rfl rfl)
    have t1 : DenL S H vs ts := h.drop 1
    have t2 : DenL S H us ts := h'.drop 1
    obtain ⟨ds, b1, b2, b3, b4⟩ := DenL.same G t1 t2 fun x hx => hd x (List.mem_cons_of_mem _ hx)
    refine ⟨d :: ds, .cons a1 b1, .cons a2 b2, ?_, ?_⟩
    · rw [PyData.canLayAll0, a3, b3]
      rfl
    · have := hd t List.mem_cons_self
      show max d.depth (PyData.depthAll ds) ≤ n
      omega
end

/-! ### methods that may raise -/
structure MetR (P : Program) (w : World) (K : PySem.W.Frag) (mg : Str → Option Value) (base : Heap) (k : Nat) (C : Addr) (m : Str) (sp : Sp) : Prop where
  ex : ∃ (f : Addr) (fd : FuncData) (ps : List Str), Cls K C ∧ Meth K C m f ∧ FnOk P w K mg base (L2.CX P w) k f fd ps sp ∧ Binds K fd ps []
theorem metR_of {P : Program} {w : World} {K : PySem.W.Frag} {mg : Str → Option Value} {base : Heap} {C : Addr} {m qual : Str} {st : Stmt} {N ps : List Str} {k : Nat} {sp : Sp} (c : Cls K C) (D : MetX K C m qual st ps) (S : FnScope N ps (defScope st)) (len : ∀ vs H Q E, sp vs H Q E → vs.length = ps.length)
    (hbody : ∀ (f : Addr) (cdv : Value) (A : Around) (outer : List Env) (s : Shared) (H : Hp) (vs : List V) (Q : VK) (E : XK), Room k (A.deeper (envOfC qual (defScope st) s.heap.objs.size f cdv)) → sp vs H Q E →
      ∃ t, PSs (cxOf (L2.CX P w) P w K mg base N qual (defScope st) f cdv A outer s H E) (defBody st) t ∧ t { nx := fun _ H' => Q .non H', rt := Q } (start N vs) H) : MetR P w K mg base (k + 1) C m sp := by
  obtain ⟨f, fd, F, me, b⟩ := D.ex
  exact ⟨f, fd, ps, c, me, F.okX S len (hbody f), .all b⟩
def tMethX (C : Addr) (m : Str) (sp : Sp) (E : L2.St → XK) (ta : TE) (t : TA) : TE := fun σ H Q => ta σ H fun x H1 => ∃ a dx fs, x = .ref a ∧ H1 a = some (.ins C dx fs) ∧ fs.lookup m = none ∧ t σ H1 fun vs H2 => sp (x :: vs) H2 Q (E σ)
section
variable {X : Cx} {k j : Nat} {C : Addr} {m : Str} {sp : Sp} {pos apos : Pos} {e o : Expr} {es : List Expr} {ta : TE} {t : TA} {W : WX}
theorem pe_mtx {pl : Sem Bool} (c : MetR X.prog X.w X.K X.mg X.base k C m sp) (tk : Takes X W) (hr : Room j X.A) (hk : k ≤ j) (he : PE X o ta) (ha : PA X (e :: es) t)
    (hst : starEach (e :: es) X.env = (false, eval e X.env) :: starEach es X.env := by rfl) (hpl : (backTo pos (starEach es X.env)).any (·.1) = false := by rfl)
    (ht : eval (.Call (.Attribute o m apos) (e :: es) [] pos) X.env = (do
      let ov ← eval o X.env
      standAt apos.atName
      let (f, first) ← holding [ov] (getMethod ov m pl)
      callWith pos f first (backTo pos (starEach (e :: es) X.env)) (backToKw pos (keywordEach [] X.env))) := by rfl) :
    PE X (.Call (.Attribute o m apos) (e :: es) [] pos) (tMethX C m sp (WE W) ta t) := by
  obtain ⟨f, fd, ps, hc, hm, F, b⟩ := c.ex
  refine ⟨fun pins s σ H Q I h => ?_⟩
  refine PySem.W.methodCall_KW (pl := pl) (thn (he.run pins s σ H _ I h) fun u s1 ⟨x, H1, I1, rx, a, dx, fs, ex, ea, l, q⟩ => ?_) ht
  subst ex
  obtain rfl : u = Value.ref a := rx
  refine getmeth_ok I1 ea hc hm l ?_
  refine PySem.W.callWith_K (first := [.ref a]) (h₀ := X.base) I.ok.mod.kin hm.kp (thn (ha.run pos pins s1 σ H1 _ I1 q) fun us s2 ⟨vs, H2, I2, r, q2⟩ => ⟨I2.kIn, ?_⟩) hst hpl
  exact run_fnS (us := .ref a :: us) (vs := .ref a :: vs) F (hr.mono hk) b (passAt tk σ) I2 (.cons rfl r) q2
end

/-! ### raising where nothing is handled, its context told; raising and calls while an exception is handled -/
section
variable {P : Program} {w : World} {K : PySem.W.Frag} {mg : Str → Option Value} {base : Heap}
theorem pmk_ownN {X : Cx} {C : Addr} {bmB : List Value} {B newId initId : String} {x m : Str} {j : Nat} {p p2 pos : Pos} (F : ExcBaseFacts B newId initId bmB) (hq : PySem.W.excIn X.K C bmB newId = true) (gC : X.mg x = some (.ref C)) (kC : PySem.W.keepIn X.K (.ref C) = true)
    (r : Raises X (.ref C)) (hg : Gl X x) (hdb : (x == ("__debug__" : Str)) = false := by decide) : L2N.PMk X (.Call (.Name x p) [.Constant (.str m) j p2] [] pos) (fun _ H Q => Q (.ref C) none H) := fun pins s σ H Q I h =>
  wpAny_Call_Name_kw (ld_glob I hg gC (PySem.W.callWith_K (h₀ := X.base) I.ok.mod.kin kC (thn ((pa_cons (pe_str (X := X) (x := m)) pa_nil).run pos pins s σ H (fun vs H1 => vs = [V.str m] ∧ H = H1) I ⟨rfl, rfl⟩) fun us s1 ⟨vs, H1, I1, r1, ev, eH⟩ => by
    subst ev eH
    refine ⟨I1.kIn, ?_⟩
    rcases r1 with _ | ⟨ru, rn⟩
    rcases rn with _ | _
    obtain ⟨_, _, _, _, _, _, _, _, _, _, _, _, _, _, _, _, mN, hC, hN, hni, T⟩ := exc_obj I1.kIn hq
    exact wpAny_call_exc_subT F T hC hN hni (fun h' e hm => L2N.mk_of I1 hm r h (I1.hok.gone hm.new)) (by show 1 ≤ sizeLine; rw [sizeLine_eq]; omega))) hdb)
/-- a method that may raise, cold; what it raises has no context -/
structure MetN (P : Program) (w : World) (K : PySem.W.Frag) (mg : Str → Option Value) (base : Heap) (k : Nat) (C : Addr) (m : Str) (sp : Sp) : Prop where
  ex : ∃ (f : Addr) (fd : FuncData) (ps : List Str), Cls K C ∧ Meth K C m f ∧ FnOk P w K mg base (L2N.CX P w) k f fd ps sp ∧ Binds K fd ps []
theorem metN_of {C : Addr} {m qual : Str} {st : Stmt} {N ps : List Str} {k : Nat} {sp : Sp} (c : Cls K C) (D : MetX K C m qual st ps) (S : FnScope N ps (defScope st)) (len : ∀ vs H Q E, sp vs H Q E → vs.length = ps.length)
    (hbody : ∀ (f : Addr) (cdv : Value) (A : Around) (outer : List Env) (s : Shared) (H : Hp) (vs : List V) (Q : VK) (E : XK), Room k (A.deeper (envOfC qual (defScope st) s.heap.objs.size f cdv)) → sp vs H Q E →
      ∃ t, PSs (cxOf (L2N.CX P w) P w K mg base N qual (defScope st) f cdv A outer s H E) (defBody st) t ∧ t { nx := fun _ H' => Q .non H', rt := Q } (start N vs) H) : MetN P w K mg base (k + 1) C m sp := by
  obtain ⟨f, fd, F, me, b⟩ := D.ex
  obtain ⟨oc, od, kV, doc, pm, an, cdv, ct, osl, rfl, lk, hcd⟩ := F.ex
  exact ⟨f, _, ps, c, me, fn_of lk hcd S len (hbody f cdv), .all b⟩
theorem MetN.weak {C : Addr} {m : Str} {k : Nat} {sp : Sp} (c : MetN P w K mg base k C m sp) : MetR P w K mg base k C m sp := by
  obtain ⟨f, fd, ps, hc, hm, F, b⟩ := c.ex
  refine ⟨f, fd, ps, hc, hm, ⟨F.len, fun A outer s H args us vs Q E hr e0 hb hv hsp => codeAny_mono (F.run A outer s H args us vs Q E hr e0 hb hv hsp) fun r s' q => ?_⟩, b⟩
  cases r with
  | ok fl =>
    cases fl <;> exact q
  | error e =>
    obtain ⟨a, B, H', cls, d, rfl, fl, more⟩ := q
    exact ⟨a, B, H', cls, d, rfl, L2H.flyingZ_imp (fun _ z => z.zc) fl, more⟩
theorem passAtN {X : Cx} {W : WX} (tk : L2N.Takes X W) (σ : L2.St) : PassesAt (L2N.CX X.prog X.w) X σ (WE W σ) := fun _ _ _ e s' I c => tk e s' (L2N.XE.of_call I (fun _ _ _ h => h) c)
section
variable {X : Cx} {k j : Nat} {C : Addr} {x m : Str} {sp : Sp} {p pos apos : Pos} {e o : Expr} {es : List Expr} {ta : TE} {t : TA} {W : WX}
theorem pe_mtn {pl : Sem Bool} (c : MetN X.prog X.w X.K X.mg X.base k C m sp) (tk : L2N.Takes X W) (hr : Room j X.A) (hk : k ≤ j) (he : PE X o ta) (ha : PA X (e :: es) t)
    (hst : starEach (e :: es) X.env = (false, eval e X.env) :: starEach es X.env := by rfl) (hpl : (backTo pos (starEach es X.env)).any (·.1) = false := by rfl)
    (ht : eval (.Call (.Attribute o m apos) (e :: es) [] pos) X.env = (do
      let ov ← eval o X.env
      standAt apos.atName
      let (f, first) ← holding [ov] (getMethod ov m pl)
      callWith pos f first (backTo pos (starEach (e :: es) X.env)) (backToKw pos (keywordEach [] X.env))) := by rfl) :
    PE X (.Call (.Attribute o m apos) (e :: es) [] pos) (tMethX C m sp (WE W) ta t) := by
  obtain ⟨f, fd, ps, hc, hm, F, b⟩ := c.ex
  refine ⟨fun pins s σ H Q I h => PySem.W.methodCall_KW (pl := pl) (thn (he.run pins s σ H _ I h) fun u s1 ⟨x, H1, I1, rx, a, dx, fs, ex, ea, l, q⟩ => ?_) ht⟩
  subst ex
  obtain rfl : u = Value.ref a := rx
  exact getmeth_ok I1 ea hc hm l (PySem.W.callWith_K (first := [.ref a]) (h₀ := X.base) I.ok.mod.kin hm.kp (thn (ha.run pos pins s1 σ H1 _ I1 q) fun us s2 ⟨vs, H2, I2, r, q2⟩ => ⟨I2.kIn, run_fnS (us := .ref a :: us) (vs := .ref a :: vs) F (hr.mono hk) b (passAtN tk σ) I2 (.cons rfl r) q2⟩) hst hpl)
theorem ps_raiseXN {j : Nat} {p2 p3 : Pos} (F : ExcF X.K C) (gC : X.mg x = some (.ref C)) (hc : X.calm = true) (tk : L2N.Takes X W) (hg : Gl X x) (hdb : (x == ("__debug__" : Str)) = false := by decide) :
    PS X (.Raise (some (.Call (.Name x p) [.Constant (.str m) j p2] [] p3)) none pos) (fun _ σ H => W (.ref C) none σ H) :=
  L2N.ps_raise hc tk (pmk_ownN PySem.F.excBase_ValueError F.xP gC F.kP (raises_own F.bP F.tP) hg hdb)
theorem ps_raiseXH {j : Nat} {p2 p3 : Pos} (F : ExcF X.K C) (gC : X.mg x = some (.ref C)) (hot : L2H.HotC X) (tk : Takes X W) (hg : Gl X x) (hdb : (x == ("__debug__" : Str)) = false := by decide) :
    PS X (.Raise (some (.Call (.Name x p) [.Constant (.str m) j p2] [] p3)) none pos) (fun _ σ H => W (.ref C) none σ H) :=
  L2H.ps_raiseH hot tk (pmk_ownN PySem.F.excBase_ValueError F.xP gC F.kP (raises_own F.bP F.tP) hg hdb)
theorem hot_tr {pn : List (Addr × Obj)} {xe : Value → Shared → Prop} (h : L2H.HotC X) (hq : ∀ q ∈ X.pn, q ∈ pn) : L2H.HotC (X.tr pn xe) := by
  obtain ⟨q, a, b⟩ := h
  exact ⟨q, a, hq q b⟩
theorem hot_suite {a : Addr} {oe : Obj} {cls : Value} {d : Option Addr} {pn : List (Addr × Obj)} (hz : L2N.Zn cls d oe) (hf : ∃ vs, oe.data = .fields vs) : L2H.HotC (X.suite a ((a, oe) :: pn)) := by
  obtain ⟨vs, e⟩ := hf
  exact ⟨(a, oe), ⟨rfl, vs, e, hz.2.2 vs e⟩, List.mem_cons_self⟩
end
/-- a method called while an exception is handled -/
structure MetH (P : Program) (w : World) (K : PySem.W.Frag) (mg : Str → Option Value) (base : Heap) (k : Nat) (C : Addr) (m : Str) (sp : Sp) : Prop where
  ex : ∃ (f : Addr) (fd : FuncData) (ps : List Str), Cls K C ∧ Meth K C m f ∧ L2H.FnH P w K mg base (L2.CX P w) k f fd ps sp ∧ Binds K fd ps []
theorem metH_of {C : Addr} {m qual : Str} {st : Stmt} {N ps : List Str} {k : Nat} {sp : Sp} (c : Cls K C) (D : MetX K C m qual st ps) (S : FnScope N ps (defScope st)) (len : ∀ vs H Q E, sp vs H Q E → vs.length = ps.length)
    (hbody : ∀ (f : Addr) (cdv : Value) (A : Around) (outer : List Env) (s : Shared) (H : Hp) (vs : List V) (Q : VK) (E : XK) (p : Addr × Obj), L2H.Hot1 A p → L2H.RoomH k (A.deeper (envOfC qual (defScope st) s.heap.objs.size f cdv)) → sp vs H Q E →
      ∃ t, PSs (L2H.cxH (L2.CX P w) P w K mg base N qual (defScope st) f cdv A outer s H E p) (defBody st) t ∧ t { nx := fun _ H' => Q .non H', rt := Q } (start N vs) H) : MetH P w K mg base (k + 1) C m sp := by
  obtain ⟨f, fd, F, me, b⟩ := D.ex
  obtain ⟨oc, od, kV, doc, pm, an, cdv, ct, osl, rfl, lk, hcd⟩ := F.ex
  exact ⟨f, _, ps, c, me, L2H.fn_ofH lk hcd S len (hbody f cdv), .all b⟩
/-- a def called while an exception is handled -/
structure CalH (P : Program) (w : World) (K : PySem.W.Frag) (mg : Str → Option Value) (base : Heap) (k : Nat) (x : Str) (sp : Sp) : Prop where
  ex : ∃ (f : Addr) (fd : FuncData) (ps : List Str), L2H.FnH P w K mg base L2.CX0 k f fd ps sp ∧ mg x = some (.ref f) ∧ PySem.W.keepIn K (.ref f) = true ∧ Binds K fd ps []
theorem calH_of {x : Str} {st : Stmt} {N ps : List Str} {k : Nat} {sp : Sp} (D : DefX K mg x st ps) (S : FnScope N ps (defScope st)) (len : ∀ vs H Q E, sp vs H Q E → vs.length = ps.length)
    (hbody : ∀ (f : Addr) (cdv : Value) (A : Around) (outer : List Env) (s : Shared) (H : Hp) (vs : List V) (Q : VK) (E : XK) (p : Addr × Obj), L2H.Hot1 A p → L2H.RoomH k (A.deeper (envOfC x (defScope st) s.heap.objs.size f cdv)) → sp vs H Q E →
      ∃ t, PSs (L2H.cxH L2.CX0 P w K mg base N x (defScope st) f cdv A outer s H E p).nox (defBody st) t ∧ t { nx := fun _ H' => Q .non H', rt := Q } (start N vs) H) : CalH P w K mg base (k + 1) x sp := by
  obtain ⟨f, fd, F, me, b⟩ := D.ex
  have kp := F.kp
  obtain ⟨oc, od, kV, doc, pm, an, cdv, ct, osl, rfl, lk, hcd⟩ := F.ex
  refine ⟨f, _, ps, L2H.fn_ofH lk hcd S len (fun A outer s H vs Q E p h1 hr hsp => ?_), me, kp, .all b⟩
  obtain ⟨t, g1, g2⟩ := hbody f cdv A outer s H vs Q E p h1 hr hsp
  exact ⟨t, g1.nox, g2⟩
section
variable {X : Cx} {k j : Nat} {C : Addr} {x m : Str} {sp : Sp} {p pos apos : Pos} {e o : Expr} {es : List Expr} {ta : TE} {t : TA} {W : WX}
theorem pe_mth {pl : Sem Bool} (c : MetH X.prog X.w X.K X.mg X.base k C m sp) (hot : L2H.HotC X) (tk : Takes X W) (hr : L2H.RoomH j X.A) (hk : k ≤ j) (he : PE X o ta) (ha : PA X (e :: es) t)
    (hst : starEach (e :: es) X.env = (false, eval e X.env) :: starEach es X.env := by rfl) (hpl : (backTo pos (starEach es X.env)).any (·.1) = false := by rfl)
    (ht : eval (.Call (.Attribute o m apos) (e :: es) [] pos) X.env = (do
      let ov ← eval o X.env
      standAt apos.atName
      let (f, first) ← holding [ov] (getMethod ov m pl)
      callWith pos f first (backTo pos (starEach (e :: es) X.env)) (backToKw pos (keywordEach [] X.env))) := by rfl) :
    PE X (.Call (.Attribute o m apos) (e :: es) [] pos) (L2H.tMethH C m sp (WE W) ta t) := by
  obtain ⟨f, fd, ps, hc, hm, F, b⟩ := c.ex
  exact L2H.pe_methH (pl := pl) he hc hm F (hr.mono hk) hot b (fun σ => passAt tk σ) ha hst hpl ht
theorem pe_cH (c : CalH X.prog X.w X.K X.mg X.base k x sp) (hot : L2H.HotC X) (hr : L2H.RoomH j X.A) (hk : k ≤ j) (hg : Gl X x) (ha : PA X (e :: es) t)
    (hdb : (x == ("__debug__" : Str)) = false := by decide) (he : starEach (e :: es) X.env = (false, eval e X.env) :: starEach es X.env := by rfl) (hpl : (backTo pos (starEach es X.env)).any (·.1) = false := by rfl) :
    PE X (.Call (.Name x p) (e :: es) [] pos) (tCallS sp (fun _ => L2.E0) t) := by
  obtain ⟨f, fd, ps, F, m, kp, b⟩ := c.ex
  exact L2H.pe_callH F (hr.mono hk) hot hg m kp b (fun σ _ _ _ _ _ _ z => False.elim z) ha hdb he hpl
end
end
theorem takesN0 {X : Cx} : L2N.Takes X (fun _ _ _ _ => False) := fun _ _ ⟨_, _, _, _, _, _, _, _, _, _, _, _, _, _, _, _, z⟩ => z.elim
theorem roomH_suite {X : Cx} {k : Nat} {a : Addr} {pn : List (Addr × Obj)} (h : Room k X.A) : L2H.RoomH k (X.suite a pn).A := ⟨h.dp, h.un⟩

section
variable {P : Program} {w : World} {K : PySem.W.Frag} {mg : Str → Option Value} {base : Heap}
theorem ps_imp {X : Cx} {st : Stmt} {t t' : TS} (h : PS X st t) (i : ∀ D σ H, t' D σ H → t D σ H) : PS X st t' := ⟨fun pins s σ H D I q => h.run pins s σ H D I (i D σ H q)⟩
section
variable {X : Cx} {C : Addr} {x : Str} {e : Expr} {es : List Expr} {te : TE} {ta : TA} {p p1 p2 pos : Pos}
/-- B.__init__(self, ..) of such a class B -/
theorem pe_beinit {pl : Sem Bool} (hg : Gl X x) (gC : X.mg x = some (.ref C)) (b1 : PySem.W.specialIn X.K (.ref C) "__getattribute__" = some (some (.builtin "type.__getattribute__"))) (b2 : PySem.W.readsIn X.K C (.type "type") = true)
    (b3 : PySem.W.findCls X.K (.ref C) (.type "type") "__init__" = some (.val (.builtin "ValueError.__init__"))) (ha : PA X (e :: es) ta) (hdb : (x == ("__debug__" : Str)) = false := by decide)
    (hc : eval (.Call (.Attribute (.Name x p1) "__init__" p2) (e :: es) [] pos) X.env = (do
      let ov ← eval (.Name x p1) X.env
      standAt p2.atName
      let (f, first) ← holding [ov] (getMethod ov "__init__" pl)
      callWith pos f first (backTo pos (starEach (e :: es) X.env)) (backToKw pos (keywordEach [] X.env))) := by rfl)
    (he : starEach (e :: es) X.env = (false, eval e X.env) :: starEach es X.env := by rfl) (hpl : (backTo pos (starEach es X.env)).any (·.1) = false := by rfl) :
    PE X (.Call (.Attribute (.Name x p1) "__init__" p2) (e :: es) [] pos) (tVeI X.K ta) := by
  refine ⟨fun pins s σ H Q I h => PySem.W.methodCall_KW (ld_glob I hg gC (PySem.W.method_cls I.kIn b1 (PySem.W.cls_value I.kIn b2 b3 (by decide +kernel) ?_)) hdb) hc⟩
  show wpAny _ _ (callWith pos (Value.builtin "ValueError.__init__") [] (backTo pos (starEach (e :: es) X.env)) []) _ _ _
  refine PyProof.Rows.callWith_method1 (thn (ha.run pos pins _ σ H _ (I.tok _) h) fun us s1 ⟨vs, H1, I1, r1, a, D, ws, ev, hl, T, ea, q⟩ => ?_) he hpl
  subst ev
  rcases r1 with _ | ⟨ra, rw'⟩
  obtain rfl := ra
  exact oinit_ok T I1 ea (by rw [← Paired.length rw', sizeLine_eq]; omega) fun s' J => ⟨.non, H1, J, rfl, q⟩
end
/-- C(e) cold, its context told -/
theorem pmk_oexN {X : Cx} {CX : CXT} {x : Str} {e : Expr} {es : List Expr} {ta : TA} {p pos : Pos} {C fI : Addr} {k : Nat} {fd : FuncData} {ps : List Str} {sp : Sp} (T : OexC X.K C) (iC : PySem.W.findIn X.K (.ref C) "__init__" = some (some (.ref fI))) (tI : PySem.W.typeIn X.K (.ref fI) = some (.type "function"))
    (F1 : FnOk X.prog X.w X.K X.mg X.base CX k fI fd ps sp) (hr : Room (k + 1) X.A) (hb : Binds X.K fd ps []) (hx : Passes CX X (fun _ _ _ => False)) (hg : Gl X x) (hm : X.mg x = some (.ref C)) (ha : PA X (e :: es) ta)
    (hdb : (x == ("__debug__" : Str)) = false := by decide) (he : starEach (e :: es) X.env = (false, eval e X.env) :: starEach es X.env := by rfl) (hpl : (backTo pos (starEach es X.env)).any (·.1) = false := by rfl) :
    L2N.PMk X (.Call (.Name x p) (e :: es) [] pos) (tMkO C sp [] ta) := by
  intro pins s σ H Q I h
  obtain ⟨_, _, _, _, bm, _, _, _, _, _, _, _, _, _, _, lC, rbm⟩ := T.cls
  refine wpAny_Call_Name_kw (ld_glob I hg hm (PySem.W.callWith_K (h₀ := X.base) I.ok.mod.kin T.kC (thn (ha.run pos pins s σ H _ I h) fun us s1 ⟨vs, H1, I1, r1, hz, q1⟩ => ⟨I1.kIn, ?_⟩) he hpl) hdb)
  obtain ⟨hp, g, dr, tk, os⟩ := s1
  have big : hp.objs.size ≤ hp.objs.size + 1 := Nat.le_succ _
  have hq := q1 (hp.objs.size + 1) (I1.hok.fresh big)
  rw [List.append_nil] at hq
  have keep : ∀ b o, hp.get? b = some o → ((hp.push (PySem.W.kdv_tup us)).push (PySem.HandSPX.excO C hp.objs.size)).get? b = some o := fun b o z => Heap.get?_push_of_some _ (Heap.get?_push_of_some _ z)
  have at1 : ((hp.push (PySem.W.kdv_tup us)).push (PySem.HandSPX.excO C hp.objs.size)).get? (hp.objs.size + 1) = some (PySem.HandSPX.excO C hp.objs.size) := by heap_get
  have I2 : Inv X pins σ (upd H1 (hp.objs.size + 1) (exo (hp.objs.size + 1) C none)) ⟨((hp.push (PySem.W.kdv_tup us)).push (PySem.HandSPX.excO C hp.objs.size)), g, dr, tk, os⟩ := I1.laid (t' := tk) (a := hp.objs.size + 1) (o := exo (hp.objs.size + 1) C none) (h' := ((hp.push (PySem.W.kdv_tup us)).push (PySem.HandSPX.excO C hp.objs.size))) keep big (exo_ok at1)
  have rv2 : Vals (V.ref (hp.objs.size + 1) :: vs) (Value.ref (hp.objs.size + 1) :: us) := .cons rfl r1
  have len2 : (Value.ref (hp.objs.size + 1) :: us ++ []).length = ps.length := by
    rw [List.append_nil, ← F1.len _ _ _ _ hq]
    exact rv2.length.symm
  have few : us.length ≤ sizeLine := by
    rw [← Paired.length r1, sizeLine_eq]
    omega
  have bnd := hb _ (Value.ref (hp.objs.size + 1) :: us) I2.kIn len2
  rw [List.append_nil] at bnd
  refine wpAny_call (PySem.HandSPX.call_own F.excBase_ValueError (fun Y => PySem.HandSPX.refsVE_contains Y bm rbm) (I1.kIn _ _ lC) (PySem.W.looks_findIn I1.kIn iC) (fun self => PySem.W.bind_fn I1.kIn self tI) few
    (codeAny_mono (F1.run _ X.stack _ _ ⟨Value.ref (hp.objs.size + 1) :: us, []⟩ (Value.ref (hp.objs.size + 1) :: us) _ _ (fun _ _ _ => False) (hr.make C us []) (I2.env0.make C us []) bnd rv2 hq) fun r sE done => ?_))
  rcases r with er | fl
  · exact hx pins σ _ _ er sE I2 done
  cases fl with
  | next => exact False.elim done
  | brk => exact False.elim done
  | cont => exact False.elim done
  | ret u =>
    obtain ⟨v, H2, os2, bare2, un2, hok2, rv, ev, d, fs, ea, ed, hd1, q2⟩ := done
    subst ev
    obtain ⟨h2, g2, d2, t2, os'⟩ := sE
    obtain ⟨t0, G, J, kG, ge, hoe, na⟩ := mk_end0 (d2 := d2) (t2 := t2) I1 big keep un2 hok2 os2 bare2 ea ed hd1
    exact ⟨rv, hp.objs.size + 1, _, _, ⟨G, g2, d2, t2, os'⟩, _, .ref C, some d, rfl, J, kG, ge, hoe, ⟨rfl, rfl, fun vs hv => by cases hv; rfl⟩, rfl, rfl, na, rfl, bare2, raises_own T.exC T.tyC, q2⟩
/-! ### the error's __init__, and raising it -/
def spExI (C : Addr) (fld : Str) : Sp := fun vs H Q _ => ∃ (a : Addr) (i : Int), vs = [.ref a, .int i] ∧ 0 ≤ i ∧ i < 1000000 ∧ H a = some (exo a C none) ∧ ∀ dx, H dx = none → dx ≠ a → Q .non (upd (upd H dx (exd dx [(fld, .int i)])) a (exo a C (some dx)))
/-- what raise C(e) asks -/
def tRzI (W : WX) (C : Addr) (fld : Str) (te : TE) : TS := fun _ σ H => te σ H fun v H1 => ∃ i : Int, v = .int i ∧ 0 ≤ i ∧ i < 1000000 ∧ ∀ dx, H1 dx = none → W (.ref C) (some dx) σ (upd H1 dx (.xd [(fld, .int i)]))
theorem rz_of {W : WX} {C : Addr} {fld : Str} {te : TE} (hte : ∀ σ H (Q Q' : VK), (∀ v H', Q v H' → Q' v H') → te σ H Q → te σ H Q') {D : Ends} {σ : L2.St} {H : Hp} (h : tRzI W C fld te D σ H) : tMkO C (spExI C fld) [] (tCons te tNil) σ H (fun cls d H' => W cls d σ H') := by
  refine hte σ H _ _ (fun v H1 q => ?_) h
  obtain ⟨i, rfl, h0, h1, q⟩ := q
  refine ⟨by show 1 ≤ 1000; decide, fun a na => ⟨a, i, rfl, h0, h1, upd_same, fun dx ndx hne => ?_⟩⟩
  have nd1 : H1 dx = none := by rwa [upd_ne hne] at ndx
  refine ⟨rfl, dx, _, upd_same, by rw [upd_ne hne]; exact upd_same, nd1, ?_⟩
  have e : upd (del (upd (upd (upd H1 a (exo a C none)) dx (exd dx [(fld, .int i)])) a (exo a C (some dx))) a) dx (.xd [(fld, .int i)]) = upd H1 dx (.xd [(fld, .int i)]) := by
    funext b
    by_cases c1 : b = dx
    · rw [c1, upd_same, upd_same]
    · rw [upd_ne c1, upd_ne c1]
      by_cases c2 : b = a
      · rw [c2, del_same, na]
      · rw [del_ne c2, upd_ne c2, upd_ne c1, upd_ne c2]
  rw [e]
  exact q dx nd1
section
variable {X : Cx} {x bx fld qual : Str} {st : Stmt} {ps : List Str} {C B : Addr} {e : Expr} {te : TE} {p p2 pos pos' : Pos} {W : WX}
theorem ps_raiseIN {j : Nat} (EI : ExcI X.K X.mg x bx fld qual st ps C B) (F : ∀ fI fd, L2.Fun X.K "__init__" qual st fI fd → FnOk X.prog X.w X.K X.mg X.base L2.CX0 1 fI fd ps (spExI C fld)) (hr : Room j X.A) (hj : 2 ≤ j) (hcl : X.calm = true) (tk : L2N.Takes X W) (hg : Gl X x) (he : PE X e te)
    (hte : ∀ σ H (Q Q' : VK), (∀ v H', Q v H' → Q' v H') → te σ H Q → te σ H Q') (hdb : (x == ("__debug__" : Str)) = false := by decide) (hst : starEach [e] X.env = (false, eval e X.env) :: starEach [] X.env := by rfl) (hpl : (backTo pos (starEach [] X.env)).any (·.1) = false := by rfl) :
    PS X (.Raise (some (.Call (.Name x p) [e] [] pos)) none pos') (tRzI W C fld te) := by
  obtain ⟨fI, fd, Fu, iC, tI, b⟩ := EI.ini
  exact ps_imp (L2N.ps_raise hcl tk (pmk_oexN EI.T iC tI (F fI fd Fu) (hr.mono hj) (.all b) (fun _ _ _ _ _ _ _ z => z.elim) hg EI.gC (pa_cons he pa_nil hst) hdb hst hpl)) fun D σ H q => rz_of hte q
theorem ps_raiseIH {j : Nat} (EI : ExcI X.K X.mg x bx fld qual st ps C B) (F : ∀ fI fd, L2.Fun X.K "__init__" qual st fI fd → L2H.FnH X.prog X.w X.K X.mg X.base L2.CX0 1 fI fd ps (spExI C fld)) (hr : L2H.RoomH j X.A) (hj : 2 ≤ j) (hot : L2H.HotC X) (tk : Takes X W) (hg : Gl X x) (he : PE X e te)
    (hte : ∀ σ H (Q Q' : VK), (∀ v H', Q v H' → Q' v H') → te σ H Q → te σ H Q') (hdb : (x == ("__debug__" : Str)) = false := by decide) (hst : starEach [e] X.env = (false, eval e X.env) :: starEach [] X.env := by rfl) (hpl : (backTo pos (starEach [] X.env)).any (·.1) = false := by rfl) :
    PS X (.Raise (some (.Call (.Name x p) [e] [] pos)) none pos') (tRzI W C fld te) := by
  obtain ⟨fI, fd, Fu, iC, tI, b⟩ := EI.ini
  exact ps_imp (L2H.ps_raiseH hot tk (L2H.pmk5_oexH EI.T iC tI (F fI fd Fu) (hr.mono hj) hot (.all b) (fun _ _ _ _ _ _ _ z => z.elim) hg EI.gC (pa_cons he pa_nil hst) hdb hst hpl).pmk) fun D σ H q => rz_of hte q
end
end

/-- a def that may raise, cold; what it raises has no context -/
structure CalN (P : Program) (w : World) (K : PySem.W.Frag) (mg : Str → Option Value) (base : Heap) (k : Nat) (x : Str) (sp : Sp) : Prop where
  ex : ∃ (f : Addr) (fd : FuncData) (ps : List Str), FnOk P w K mg base (L2N.CX P w) k f fd ps sp ∧ mg x = some (.ref f) ∧ PySem.W.keepIn K (.ref f) = true ∧ Binds K fd ps []
theorem calN_of {P : Program} {w : World} {K : PySem.W.Frag} {mg : Str → Option Value} {base : Heap} {x : Str} {st : Stmt} {N ps : List Str} {k : Nat} {sp : Sp} (D : DefX K mg x st ps) (S : FnScope N ps (defScope st)) (len : ∀ vs H Q E, sp vs H Q E → vs.length = ps.length)
    (hbody : ∀ (f : Addr) (cdv : Value) (A : Around) (outer : List Env) (s : Shared) (H : Hp) (vs : List V) (Q : VK) (E : XK), Room k (A.deeper (envOfC x (defScope st) s.heap.objs.size f cdv)) → sp vs H Q E →
      ∃ t, PSs (cxOf (L2N.CX P w) P w K mg base N x (defScope st) f cdv A outer s H E) (defBody st) t ∧ t { nx := fun _ H' => Q .non H', rt := Q } (start N vs) H) : CalN P w K mg base (k + 1) x sp := by
  obtain ⟨f, fd, F, m, b⟩ := D.ex
  have kp := F.kp
  obtain ⟨oc, od, kV, doc, pm, an, cdv, ct, osl, rfl, lk, hcd⟩ := F.ex
  exact ⟨f, _, ps, fn_of lk hcd S len (hbody f cdv), m, kp, .all b⟩
theorem CalN.weak {P : Program} {w : World} {K : PySem.W.Frag} {mg : Str → Option Value} {base : Heap} {x : Str} {k : Nat} {sp : Sp} (c : CalN P w K mg base k x sp) : CalX P w K mg base k x sp := by
  obtain ⟨f, fd, ps, F, m, kp, b⟩ := c.ex
  refine ⟨f, fd, ps, ⟨F.len, fun A outer s H args us vs Q E hr e0 hb hv hsp => codeAny_mono (F.run A outer s H args us vs Q E hr e0 hb hv hsp) fun r s' q => ?_⟩, m, kp, b⟩
  cases r with
  | ok fl =>
    cases fl <;> exact q
  | error e =>
    obtain ⟨a, B, H', cls, d, rfl, fl, more⟩ := q
    exact ⟨a, B, H', cls, d, rfl, L2H.flyingZ_imp (fun _ z => z.zc) fl, more⟩
/-- x(..) of such a def, within what takes W -/
theorem pe_cn {X : Cx} {k j : Nat} {x : Str} {sp : Sp} {W : WX} {t : TA} {e : Expr} {es : List Expr} {p pos : Pos} (c : CalN X.prog X.w X.K X.mg X.base k x sp) (tk : L2N.Takes X W) (hr : Room j X.A) (hk : k ≤ j) (hg : Gl X x) (ha : PA X (e :: es) t)
    (hdb : (x == ("__debug__" : Str)) = false := by decide) (he : starEach (e :: es) X.env = (false, eval e X.env) :: starEach es X.env := by rfl) (hpl : (backTo pos (starEach es X.env)).any (·.1) = false := by rfl) :
    PE X (.Call (.Name x p) (e :: es) [] pos) (tCallS sp (WE W) t) := by
  obtain ⟨f, fd, ps, F, m, kp, b⟩ := c.ex
  exact pe_callS F (hr.mono hk) hg m kp b (fun σ => passAtN tk σ) ha hdb he hpl

/-! ### try .. except X: (a suite that may raise) .. else -/
section
variable {X : Cx} {x : Str} {c : Value} {body more orelse : List Stmt} {st0 : Stmt} {np q0 q1 : Pos} {tb : WX → TS} {ts : Addr → Value → Option Addr → TS} {Wo : WX} {u : TS}
theorem ps_try_onlyXE (ho : PSs X orelse u) (hs : X.stack = X.env :: X.outer) (hf : X.env.frame = some X.env.locals) (hc : Names X x c) (hpa : ∀ hd : Option Value, PassesOwnAt (model X.prog X.w) (X.A.mark hd) X.A X.env X.xe) (tk : Takes X Wo)
    (hb : ∀ (W : WX) (pn : List (Addr × Obj)) (xe : Value → Shared → Prop), L2N.Takes (X.tr pn xe) W → PassesOwn (model X.prog X.w) X.A X.env xe → PSs (X.tr pn xe) body (tb W))
    (hsu : ∀ (a : Addr) (oe : Obj) (cls : Value) (d : Option Addr) (pn : List (Addr × Obj)), L2N.Zn cls d oe → (∃ vs, oe.data = .fields vs) → Takes (L2H.suiteX X a ((a, oe) :: pn)) Wo → L2H.HotC (L2H.suiteX X a ((a, oe) :: pn)) →
      PSs (L2H.suiteX X a ((a, oe) :: pn)) (st0 :: more) (ts a cls d)) :
    PS X (.Try body [.ExceptHandler (some (.Name x np)) none (st0 :: more) q1] orelse [] q0) (fun D σ H => tb (wOnly X.K c ts Wo D) { D with nx := u D } σ H) := by
  refine ⟨fun pins s0 σ H D I0 h0 => wpAny_Try_except ?_⟩
  have ok := I0.ok
  have frE : X.A.frames = some (X.env :: X.outer) := ok.frames.trans (congrArg some hs)
  let look : Value → Shared → Prop := fun e s₁ => wpAny (model X.prog X.w) X.A (noteFrame e X.env) (fun _ s₂ =>
    wpAny (model X.prog X.w) X.A (setFlight e none) (fun _ s₃ => wpAny (model X.prog X.w) X.A (handleBy e X.env
      [.ExceptHandler (some (.Name x np)) none (st0 :: more) q1]) (SP X pins D) X.xe s₃) X.xe s₂) X.xe s₁
  have hook : L2N.Takes (X.tr (X.pn ++ pins) look) (wOnly X.K c ts Wo D) := by
    rintro u1 sE ⟨a, B, sI, pins', σ1, H1, cls, d, rfl, J', nb, up, sky, na, os, ag, b, hbb, yes, no⟩
    have J : Inv X pins σ1 H1 sI := J'.ofTry ok
    have sky1 : Sky B (X.env :: X.outer) a (L2N.Zn cls d) X.env.locals sE.heap := hs ▸ sky
    refine L2N.Sky.land L2N.Zn.steady frE hf sky1 fun hA flA upA => ?_
    have JA : Inv X pins σ1 H1 { sE with heap := hA } := J.landed nb flA.1 (up.trans upA) os ag
    obtain ⟨oA, vA, gA, zA, dA⟩ := flA.there
    have offFrames : a ∉ frs (X.env :: X.outer) := fun hm => by
      obtain ⟨_, o', e', hnf⟩ := flA.2.2.1.mem hm
      cases gA.symm.trans e'
      exact hnf _ dA
    have offLoc : a ≠ X.env.locals := fun z => offFrames (List.mem_filterMap.mpr ⟨X.env, List.mem_cons_self, z ▸ hf⟩)
    have offFs : a ∉ X.fs := fun hm => (List.mem_filterMap.mp hm).elim fun e1 ⟨p1, p2⟩ => offFrames (List.mem_filterMap.mpr ⟨e1, List.mem_cons_of_mem _ p1, p2⟩)
    have SA := JA.suite gA dA na offLoc offFs
    have lookT : PySem.W.Looks (model X.prog X.w) hA (typeOf (.ref a)) cls := fun _ _ _ _ kk qq => wpAny_typeOf_ref (kk _ _ gA) (zA.1.symm ▸ qq)
    have exM := PySem.W.exm_one (M := model X.prog X.w) JA.kIn lookT hbb
    have named : ∀ {Q : Value → Shared → Prop} {E : Value → Shared → Prop}, Q c { sE with heap := hA } →
        wpAny (model X.prog X.w) (X.A.mark (some (.ref a))) (eval (.Name x np) X.env) Q E { sE with heap := hA } := fun qq => by
      rcases hc with ⟨g1, g2, g3 | ⟨g3, g4, g5⟩⟩
      · exact ld_glob (X := X.suite a ((a, oA) :: (X.pn ++ pins))) SA g1 g3 qq g2
      · exact ld_blt (X := X.suite a ((a, oA) :: (X.pn ++ pins))) SA g1 g3 g4 qq g5 g2
    refine wpAny_handleBy_cons (codeAny_handlers_test (named (exM.here ?_))) (fun z => nomatch z)
    cases b with
    | true =>
      refine codeAny_handlers_suite (HandSPX.lands_againZ flA fun hB flB upB => ?_)
      have JB : Inv X pins σ1 H1 { sE with heap := hB } := J.landed nb flB.1 ((up.trans upA).trans upB) os ag
      obtain ⟨oB, vB, gB, zB, dB⟩ := flB.there
      have tkS : Takes (L2H.suiteX X a ((a, oB) :: (X.pn ++ pins))) Wo := fun u2 s2 ⟨a2, B2, sI2, _, σ2, H2, cls2, d2, e2, I2, more2⟩ => tk u2 s2 ⟨a2, B2, sI2, pins, σ2, H2, cls2, d2, e2, L2H.unsuiteX I2 ok, more2⟩
      have hot : L2H.HotC (L2H.suiteX X a ((a, oB) :: (X.pn ++ pins))) := ⟨(a, oB), ⟨rfl, vB, dB, zB.2.2 vB dB⟩, List.mem_cons_self⟩
      refine wpAny_mono ((hsu a oB cls d (X.pn ++ pins) zB ⟨_, dB⟩ tkS hot).run [] _ _ H1 _ (L2H.suiteX_of (JB.suite gB dB na offLoc offFs)) (yes rfl a na)) (fun fl sF hh => ?_) (fun e6 s6 z => hpa (some (.ref a)) e6 s6 z)
      cases fl with
      | next => exact hh.elim fun _ ⟨_, T, qq⟩ => ⟨_, _, L2H.unsuiteX T ok, qq⟩
      | brk => exact hh.elim fun _ ⟨_, T, qq⟩ => ⟨_, _, L2H.unsuiteX T ok, qq⟩
      | cont => exact hh.elim fun _ ⟨_, T, qq⟩ => ⟨_, _, L2H.unsuiteX T ok, qq⟩
      | ret u => exact hh.elim fun _ ⟨_, _, T, rr, qq⟩ => ⟨_, _, _, L2H.unsuiteX T ok, rr, qq⟩
    | false =>
      have flZ : HandSPX.FlyingZ B (X.env :: X.outer) a (Zc cls d) hA := L2H.flyingZ_imp (fun _ z => z.zc) flA
      obtain ⟨_, _, _, oe, vs, tbk, _, _, he, _, hd, h1, _⟩ := id flZ
      show wpAny _ X.A (handleBy (.ref a) X.env []) _ _ _
      refine wpAny_handleBy_nil ?_
      have away : wpAny (model X.prog X.w) X.A (setFlight (.ref a) X.env.frame) (fun _ sG => wpAny (model X.prog X.w) X.A (throw (.ref a) : Sem Flow) (SP X pins D) X.xe sG) X.xe { sE with heap := hA } := by
        rw [hf]
        exact HandSPX.setFlight_upZ flZ fun hB heldB upB => wpAny_throw (tk _ _ ⟨a, B, sI, pins, σ1, H1, cls, d, rfl, J, nb, (up.trans upA).trans upB, .inr (.inr (hs.symm ▸ heldB)), na, os, ag, no rfl⟩)
      unfold PySem.passOn
      refine wpAny_bind (wpAny_field he hd h1 ?_)
      rw [if_neg (show ¬ ((Value.ref tbk == Value.none) = true) by simp)]
      first
        | exact wpAny_bind (wpAny_pure (wpAny_bind away))
        | exact wpAny_bind away
  refine wpAny_mono ((hb _ _ look hook PassesOwn.looking).run [] s0 σ H { D with nx := u D } (I0.toTry _) h0) (fun fl sE hh => ?_) (fun e sE he => he)
  cases fl with
  | next => exact hh.elim fun _ ⟨_, T, qq⟩ => ho.run pins sE _ _ D (T.ofTry ok) qq
  | brk => exact hh.elim fun _ ⟨_, T, qq⟩ => ⟨_, _, T.ofTry ok, qq⟩
  | cont => exact hh.elim fun _ ⟨_, T, qq⟩ => ⟨_, _, T.ofTry ok, qq⟩
  | ret u => exact hh.elim fun _ ⟨_, _, T, rr, qq⟩ => ⟨_, _, _, T.ofTry ok, rr, qq⟩
end

/-! ### numbers and words drawn -/
section
variable {P : Program} {w : World} {K : PySem.W.Frag} {mg : Str → Option Value} {base : Heap}
def spDraw : Sp := fun vs H Q _ => ∃ (c k m : Int), vs = [.int c, .int k, .int m] ∧ 0 ≤ k ∧ k < 1000000 ∧ 0 < m ∧ ∀ (z : Int) (H' : Hp), 0 ≤ z → z < m → Same H H' → Q (.int z) H'
theorem prime_pos : ∀ i : Nat, i < 16 → ∃ z : Int, 0 < z ∧ ([.int 1000003, .int 1000033, .int 1000037, .int 1000039, .int 1000081, .int 1000099, .int 1000117, .int 1000121, .int 1000133, .int 1000151, .int 1000159, .int 1000171, .int 1000183, .int 1000187, .int 1000193, .int 1000199] : List V)[i]? = some (V.int z)
  | 0, _ => ⟨_, by decide, rfl⟩
  | 1, _ => ⟨_, by decide, rfl⟩
  | 2, _ => ⟨_, by decide, rfl⟩
  | 3, _ => ⟨_, by decide, rfl⟩
  | 4, _ => ⟨_, by decide, rfl⟩
  | 5, _ => ⟨_, by decide, rfl⟩
  | 6, _ => ⟨_, by decide, rfl⟩
  | 7, _ => ⟨_, by decide, rfl⟩
  | 8, _ => ⟨_, by decide, rfl⟩
  | 9, _ => ⟨_, by decide, rfl⟩
  | 10, _ => ⟨_, by decide, rfl⟩
  | 11, _ => ⟨_, by decide, rfl⟩
  | 12, _ => ⟨_, by decide, rfl⟩
  | 13, _ => ⟨_, by decide, rfl⟩
  | 14, _ => ⟨_, by decide, rfl⟩
  | 15, _ => ⟨_, by decide, rfl⟩
  | n + 16, h => absurd h (by omega)
theorem ok_draw {cc : Addr} (T : Txt K mg cc) : Cal P w K mg base 1 "_law_draw" spDraw [] := by
  have Z := T.Z
  refine cal_of T.d__law_draw sc__law_draw (fun vs H Q E h => ?_) (fun f cdv A outer s H vs Q E hr h => ?_)
  · obtain ⟨c, k, m, rfl, _⟩ := h
    rfl
  obtain ⟨c, k, m, rfl, k0, k1, m0, q⟩ := h
  refine ⟨_, (pss_cons (ps_set (i := 3) sc__law_draw.nd rfl (Or.inl rfl) (pe_tup (pa_cons pe_int (pa_cons pe_int (pa_cons pe_int (pa_cons pe_int (pa_cons pe_int (pa_cons pe_int (pa_cons pe_int (pa_cons pe_int (pa_cons pe_int (pa_cons pe_int (pa_cons pe_int (pa_cons pe_int (pa_cons pe_int (pa_cons pe_int (pa_cons pe_int (pa_cons pe_int pa_nil))))))))))))))))))
  (pss_one (ps_ret (pe_op op_mod (pe_op op_mod (pe_op op_add (pe_op op_mul (pv 0) pe_int) (pe_op op_mul (pv 1) pe_int)) (pe_ix ix_tup (pv 3) (pe_op op_mod (pv 1) pe_int) (fun _ _ => rfl))) (pv 2))))), ?_⟩
  refine ⟨by show 16 ≤ sizeLine; decide, fun p hp => ?_⟩
  obtain ⟨i, hi⟩ := Int.eq_ofNat_of_zero_le (Int.emod_nonneg k (show (16 : Int) ≠ 0 by decide))
  have hi16 : i < 16 := by
    have := Int.emod_lt_of_pos k (show (0 : Int) < 16 by decide)
    omega
  obtain ⟨z, hz, hzi⟩ := prime_pos i hi16
  refine ⟨_, rfl, _, _, rfl, rfl, .inr ⟨by decide, by decide⟩, _, rfl, _, _, rfl, rfl, .inr ⟨by decide, by decide⟩, _, _, rfl, rfl, _, rfl, _, rfl, _, 16, rfl, rfl, (by show (0 : Int) < 16; decide), p, _, _, V.int z, rfl, rfl, SqT.of upd_same, by rw [hi]; exact atI_nat hzi, ?_⟩
  refine ⟨_, _, rfl, rfl, hz, _, rfl, _, _, rfl, rfl, m0, ?_⟩
  exact q _ _ (Int.emod_nonneg _ (by omega)) (Int.emod_lt_of_pos _ m0) (same_upd hp)
end

/-! ### figures -/
theorem txt_of_tl {x : Str} (h : ∀ c ∈ TL.tl x, c < 0x110000) : txtOk x = true := by
  show x.cps.all (· < 0x110000) = true
  rw [Array.all_eq_true']
  intro c hc
  exact decide_eq_true (h c (by rw [← Array.mem_toList_iff] at hc; exact hc))
theorem txt_num (n : Nat) : txtOk (Str.ofString (toString ((n : Nat) : Int))) = true := by
  refine txt_of_tl fun c hc => ?_
  rw [TL.tl_num] at hc
  have := TL.numL_digits n c hc
  omega
theorem log_small {z : Int} (h0 : 0 ≤ z) (h : z < 2 ^ 64) : z.natAbs.log2 < 1920 := by
  obtain ⟨n, rfl⟩ := Int.eq_ofNat_of_zero_le h0
  have h1 : n < 2 ^ 64 := by omega
  rw [Int.natAbs_natCast]
  by_cases c : n = 0
  · subst c; decide
  · have := (Nat.log2_lt c).mpr h1
    omega
theorem cut_ints (ks : List Int) (lo hi : Option Int) : ∃ ks' : List Int, cutV (ks.map V.int) lo hi = ks'.map V.int ∧ (∀ k ∈ ks', k ∈ ks) ∧ ks'.length ≤ ks.length := by
  unfold cutV
  rw [List.length_map, ← List.map_drop, ← List.map_take]
  refine ⟨_, rfl, fun k hk => List.mem_of_mem_drop (List.mem_of_mem_take hk), ?_⟩
  rw [List.length_take, List.length_drop]
  omega

section
variable {P : Program} {w : World} {K : PySem.W.Frag} {mg : Str → Option Value} {base : Heap} {C B : Addr}
theorem row_len {i : Int} (h0 : 0 ≤ i) (h1 : i < 1000000) : (Str.ofString (toString i)).length ≤ 6 := by
  obtain ⟨n, rfl⟩ := Int.eq_ofNat_of_zero_le h0
  rw [TL.len_tl, TL.tl_num]
  exact TL.numL_len (by decide) (by omega)
theorem ok_brinit {cc : Addr} (T : Txt K mg cc) (EI : ExcI K mg "BadRow" "BookError" "row" "BadRow.__init__" s_BadRow___init__ ["self", "row"] C B) (fI : Addr) (fd : FuncData) (F : L2.Fun K "__init__" "BadRow.__init__" s_BadRow___init__ fI fd) :
    FnOk P w K mg base L2.CX0 1 fI fd ["self", "row"] (spExI C "row") := by
  have Z := T.Z
  refine F.ok sc_BadRow___init__ (fun vs H Q E h => ?_) (fun cdv A' outer s H vs Q E hr h => ?_)
  · obtain ⟨a, i, rfl, _⟩ := h
    rfl
  obtain ⟨a, i, rfl, h0, h1, ha, q⟩ := h
  have ll := row_len h0 h1
  refine ⟨_, (pss_cons (ps_expr (pe_beinit rfl EI.gB EI.b1 EI.b2 EI.b3 (pa_cons (pv 0) (pa_cons (pe_op op_add_str (pe_op op_add_str pe_str (pe_callTy call_str_int rfl Z.str (by decide +kernel) (pa_cons (pv 1) pa_nil))) pe_str) pa_nil))))
  (pss_one (ps_ost (pv 0) (pv 1)))), ?_⟩
  have e4 : (Str.ofString "row ").length = 4 := by decide +kernel
  have e16 : (Str.ofString " cannot be read").length = 15 := by decide +kernel
  have l1 : (Str.ofString "row " ++ Str.ofString (toString i)).length ≤ 10 := by
    rw [TL.len_tl, TL.tl_append, List.length_append, ← TL.len_tl, ← TL.len_tl]
    omega
  refine ⟨_, rfl, _, rfl, _, rfl, log_small h0 (by omega), _, _, rfl, rfl, small (by omega), _, _, rfl, rfl, small (by omega), a, C, _, rfl, (by show 1 ≤ 1000; decide), EI.T, ha, ?_⟩
  exact ⟨_, rfl, _, rfl, a, C, rfl, EI.T, EI.no, .inl ⟨ha, fun dx n ne => q dx n ne⟩⟩
theorem ok_brinitH {cc : Addr} (T : Txt K mg cc) (EI : ExcI K mg "BadRow" "BookError" "row" "BadRow.__init__" s_BadRow___init__ ["self", "row"] C B) (fI : Addr) (fd : FuncData) (F : L2.Fun K "__init__" "BadRow.__init__" s_BadRow___init__ fI fd) :
    L2H.FnH P w K mg base L2.CX0 1 fI fd ["self", "row"] (spExI C "row") := by
  have Z := T.Z
  obtain ⟨oc, od, kV, doc, pm, an, cdv, ct, osl, rfl, lk, hcd⟩ := F.ex
  refine L2H.fn_ofH lk hcd sc_BadRow___init__ (fun vs H Q E h => ?_) (fun A' outer s H vs Q E pr hot hr h => ?_)
  · obtain ⟨a, i, rfl, _⟩ := h
    rfl
  obtain ⟨a, i, rfl, h0, h1, ha, q⟩ := h
  have ll := row_len h0 h1
  refine ⟨_, PSs.nox (pss_cons (ps_expr (pe_beinit rfl EI.gB EI.b1 EI.b2 EI.b3 (pa_cons (pv 0) (pa_cons (pe_op op_add_str (pe_op op_add_str pe_str (pe_callTy call_str_int rfl Z.str (by decide +kernel) (pa_cons (pv 1) pa_nil))) pe_str) pa_nil))))
  (pss_one (ps_ost (pv 0) (pv 1)))), ?_⟩
  have e4 : (Str.ofString "row ").length = 4 := by decide +kernel
  have e16 : (Str.ofString " cannot be read").length = 15 := by decide +kernel
  have l1 : (Str.ofString "row " ++ Str.ofString (toString i)).length ≤ 10 := by
    rw [TL.len_tl, TL.tl_append, List.length_append, ← TL.len_tl, ← TL.len_tl]
    omega
  refine ⟨_, rfl, _, rfl, _, rfl, log_small h0 (by omega), _, _, rfl, rfl, small (by omega), _, _, rfl, rfl, small (by omega), a, C, _, rfl, (by show 1 ≤ 1000; decide), EI.T, ha, ?_⟩
  exact ⟨_, rfl, _, rfl, a, C, rfl, EI.T, EI.no, .inl ⟨ha, fun dx n ne => q dx n ne⟩⟩
end

/-! ### what a row says -/
open SX (S S_len S_inj S_cat)
def lsp (l : List Nat) : List Nat := l.dropWhile (· == 32)
def rsp (l : List Nat) : List Nat := (l.reverse.dropWhile (· == 32)).reverse
def wrd (l : List Nat) : List Nat := l.takeWhile (· != 32)
def rst (l : List Nat) : List Nat := (l.dropWhile (· != 32)).drop 1
def digs (l : List Nat) : Bool := !l.isEmpty && l.all fun c => decide (48 ≤ c) && decide (c ≤ 57)
def keyL (l : List Nat) (d : Nat) : Int := if digs l = true ∧ l.length ≤ 9 ∧ NumText.digitsVal l < 2 ^ d then (NumText.digitsVal l : Int) else -1
inductive Act where
  | put (k : Int) (t : List Nat)
  | cut (k : Int)
def putW : List Nat := [112, 117, 116]
def cutW : List Nat := [99, 117, 116]
def readL (l : List Nat) (d : Nat) : Option (Option Act) :=
  if lsp l = [] ∨ (lsp l).head? = some 35 then some none
  else if wrd (lsp l) = putW then
    if 0 ≤ keyL (wrd (rst (lsp l))) d ∧ 32 ∈ rst (lsp l) then some (some (.put (keyL (wrd (rst (lsp l))) d) (rst (rst (lsp l))))) else none
  else if wrd (lsp l) = cutW then
    if 0 ≤ keyL (rsp (rst (lsp l))) d then some (some (.cut (keyL (rsp (rst (lsp l))) d))) else none
  else none
def AscL (l : List Nat) : Prop := ∀ c ∈ l, c < 128
theorem AscL.sub {l m : List Nat} (h : AscL l) (hs : ∀ c ∈ m, c ∈ l) : AscL m := fun c hc => h c (hs c hc)
theorem dw_mem {p : Nat → Bool} : ∀ {l : List Nat} {c : Nat}, c ∈ l.dropWhile p → c ∈ l
  | a :: l, c, h => by
    rw [List.dropWhile_cons] at h
    split at h
    · exact List.mem_cons_of_mem _ (dw_mem h)
    · exact h
theorem tw_mem {p : Nat → Bool} : ∀ {l : List Nat} {c : Nat}, c ∈ l.takeWhile p → c ∈ l
  | a :: l, c, h => by
    rw [List.takeWhile_cons] at h
    split at h
    · rcases List.mem_cons.mp h with rfl | h
      · exact List.mem_cons_self
      · exact List.mem_cons_of_mem _ (tw_mem h)
    · cases h
theorem lsp_mem {l : List Nat} {c : Nat} (h : c ∈ lsp l) : c ∈ l := dw_mem h
theorem rsp_mem {l : List Nat} {c : Nat} (h : c ∈ rsp l) : c ∈ l := by
  have := dw_mem (List.mem_reverse.mp h)
  exact List.mem_reverse.mp this
theorem wrd_mem {l : List Nat} {c : Nat} (h : c ∈ wrd l) : c ∈ l := tw_mem h
theorem rst_mem {l : List Nat} {c : Nat} (h : c ∈ rst l) : c ∈ l := dw_mem (List.mem_of_mem_drop h)
theorem dw_len {p : Nat → Bool} : ∀ (l : List Nat), (l.dropWhile p).length ≤ l.length
  | [] => Nat.le_refl _
  | a :: l => by
    rw [List.dropWhile_cons]
    split
    · exact Nat.le_succ_of_le (dw_len l)
    · exact Nat.le_refl _
theorem tw_len {p : Nat → Bool} : ∀ (l : List Nat), (l.takeWhile p).length ≤ l.length
  | [] => Nat.le_refl _
  | a :: l => by
    rw [List.takeWhile_cons]
    split
    · exact Nat.succ_le_succ (tw_len l)
    · exact Nat.zero_le _
theorem lsp_len (l : List Nat) : (lsp l).length ≤ l.length := dw_len l
theorem wrd_len (l : List Nat) : (wrd l).length ≤ l.length := tw_len l
theorem rst_len (l : List Nat) : (rst l).length ≤ l.length := by
  unfold rst
  rw [List.length_drop]
  have := dw_len (p := (· != 32)) l
  omega
theorem rsp_len (l : List Nat) : (rsp l).length ≤ l.length := by
  unfold rsp
  rw [List.length_reverse]
  have := dw_len (p := (· == 32)) l.reverse
  rw [List.length_reverse] at this
  exact this
theorem drop_tw {p : Nat → Bool} : ∀ l : List Nat, l.drop (l.takeWhile p).length = l.dropWhile p
  | [] => rfl
  | a :: l => by
    rw [List.takeWhile_cons, List.dropWhile_cons]
    by_cases h : p a = true
    · rw [if_pos h, if_pos h]
      exact drop_tw l
    · rw [if_neg h, if_neg h]
      rfl
theorem only32 : (S [32]).cps.contains = fun c => c == 32 := by
  funext c
  by_cases h : c = 32
  · subst h; decide +kernel
  · have e : (c == 32) = false := beq_eq_false_iff_ne.mpr h
    rw [e]
    simp [S, h]
theorem lstrip_S (l : List Nat) : Txt.lstripChars (S l) (S [32]) = S (lsp l) := by
  unfold Txt.lstripChars
  rw [stripBy_eq, only32]
  refine TL.ext_tl ?_
  rw [TL.tl_strSub]
  show (l.drop _).take _ = lsp l
  unfold stripLo stripHi
  rw [if_pos rfl, if_neg (by decide)]
  show (l.drop (l.takeWhile (· == 32)).length).take ((S l).length - (l.takeWhile (· == 32)).length) = lsp l
  rw [drop_tw, S_len, List.take_of_length_le]
  · rfl
  · have := congrArg List.length (drop_tw (p := (· == 32)) l)
    rw [List.length_drop] at this
    omega
theorem rstrip_S (l : List Nat) : Txt.rstripChars (S l) (S [32]) = S (rsp l) := by
  unfold Txt.rstripChars
  rw [stripBy_eq, only32]
  refine TL.ext_tl ?_
  rw [TL.tl_strSub]
  rw [show stripLo (fun c => c == 32) false (S l) = 0 from rfl, show stripHi (fun c => c == 32) true (S l) 0 = (S l).length - ((l.drop 0).reverse.takeWhile (· == 32)).length from rfl]
  show (l.drop 0).take ((S l).length - (((l.drop 0).reverse.takeWhile (· == 32)).length) - 0) = rsp l
  rw [List.drop_zero, Nat.sub_zero, S_len]
  have e : l = (l.reverse.dropWhile (· == 32)).reverse ++ (l.reverse.takeWhile (· == 32)).reverse := by
    rw [← List.reverse_append, List.takeWhile_append_dropWhile, List.reverse_reverse]
  have el := congrArg List.length e
  rw [List.length_append, List.length_reverse, List.length_reverse] at el
  have ek : l.length - (l.reverse.takeWhile (· == 32)).length = (rsp l).length := by
    unfold rsp
    rw [List.length_reverse]
    omega
  rw [ek]
  exact (congrArg (List.take (rsp l).length) e).trans (List.take_left' rfl)
theorem split32 {l : List Nat} (h : 32 ∈ l) : l = wrd l ++ (32 :: rst l) := by
  induction l with
  | nil => cases h
  | cons a l ih =>
    unfold wrd rst
    by_cases c : a = 32
    · subst c
      rfl
    · have e : (a != 32) = true := bne_iff_ne.mpr c
      rw [List.takeWhile_cons, List.dropWhile_cons, if_pos e, if_pos e]
      rcases List.mem_cons.mp h with h | h
      · exact absurd h.symm c
      · show a :: l = a :: (wrd l ++ (32 :: rst l))
        rw [← ih h]
theorem wrd_no (l : List Nat) : 32 ∉ wrd l := by
  induction l with
  | nil => exact fun h => nomatch h
  | cons a l ih =>
    unfold wrd
    rw [List.takeWhile_cons]
    by_cases c : a = 32
    · subst c
      exact fun h => nomatch h
    · have e : (a != 32) = true := bne_iff_ne.mpr c
      rw [if_pos e]
      intro h
      rcases List.mem_cons.mp h with h | h
      · exact c h.symm
      · exact ih h
theorem wrd_all {l : List Nat} (h : 32 ∉ l) : wrd l = l ∧ rst l = [] := by
  induction l with
  | nil => exact ⟨rfl, rfl⟩
  | cons a l ih =>
    have c : a ≠ 32 := fun z => h (by rw [z]; exact List.mem_cons_self)
    have e : (a != 32) = true := bne_iff_ne.mpr c
    obtain ⟨h1, h2⟩ := ih fun z => h (List.mem_cons_of_mem _ z)
    unfold wrd rst
    rw [List.takeWhile_cons, List.dropWhile_cons, if_pos e, if_pos e]
    exact ⟨congrArg (a :: ·) h1, h2⟩
theorem part_S (l : List Nat) : Txt.partition (S l) (S [32]) = (S (wrd l), (if 32 ∈ l then S [32] else S []), S (rst l)) := by
  by_cases h : 32 ∈ l
  · rw [if_pos h]
    refine SX.partition_some (by simp) ?_
    conv => lhs; rw [split32 h]
    exact SX.par_head (sep := []) (rst l) (wrd_no l)
  · rw [if_neg h]
    obtain ⟨h1, h2⟩ := wrd_all h
    rw [h1, h2]
    exact SX.partition_none (by simp) (SX.par_head_none (sep := []) h)
theorem hash_S (l : List Nat) : Txt.startswith (S l) (S [35]) = decide (l.head? = some 35) := by
  cases l with
  | nil => rfl
  | cons a l =>
    unfold Txt.startswith Builtin.Str.subAt
    by_cases h : a = 35
    · subst h
      simp [S, Str.length]
    · simp [S, Str.length, h]
theorem dig128 : ∀ c, c < 128 → Unicode.isDigit c = (decide (48 ≤ c) && decide (c ≤ 57)) := by decide +kernel
theorem digit_S {l : List Nat} (h : AscL l) : Txt.isdigit (S l) = digs l := by
  unfold Txt.isdigit digs
  have e : (S l).cps.all Unicode.isDigit = l.all fun c => decide (48 ≤ c) && decide (c ≤ 57) := by
    show (List.toArray l).all Unicode.isDigit = _
    rw [List.all_toArray]
    induction l with
    | nil => rfl
    | cons a l ih =>
      rw [List.all_cons, List.all_cons, ih (h.sub fun c hc => List.mem_cons_of_mem _ hc)]
      congr 1
      exact dig128 a (h a List.mem_cons_self)
  rw [e]
  cases l <;> simp [S_len]
theorem int_of {l : List Nat} (h : digs l = true) (hl : l.length ≤ 4300) : intText? (S l) = some ((NumText.digitsVal l : Nat) : Int) := by
  unfold digs at h
  rw [Bool.and_eq_true] at h
  exact SX.int_S h.2 (fun z => by rw [z] at h; exact absurd h.1 (by decide)) hl

section
variable {P : Program} {w : World} {K : PySem.W.Frag} {mg : Str → Option Value} {base : Heap} {C B : Addr}
theorem te_int {i : Int} : ∀ (σ : L2.St) (H : Hp) (Q Q' : VK), (∀ v H', Q v H' → Q' v H') → tC (.int i) σ H Q → tC (.int i) σ H Q' := fun _ _ _ _ h q => h _ _ q
theorem te_var {i : Nat} : ∀ (σ : L2.St) (H : Hp) (Q Q' : VK), (∀ v H', Q v H' → Q' v H') → tVar i σ H Q → tVar i σ H Q' := fun _ _ _ _ h ⟨v, e, q⟩ => ⟨v, e, h _ _ q⟩
def spKeyOf : Sp := fun vs H Q _ => ∃ (l : List Nat) (d : Nat), vs = [.str (S l), .int (d : Int)] ∧ AscL l ∧ l.length ≤ 100000 ∧ d ≤ 1000 ∧ Q (.int (keyL l d)) H
theorem ok_key_of {cc : Addr} (T : Txt K mg cc) : Cal P w K mg base 1 "key_of" spKeyOf [] := by
  have Z := T.Z
  refine cal_of T.d_key_of sc_key_of (fun vs H Q E h => ?_) (fun f cdv A' outer s H vs Q E hr h => ?_)
  · obtain ⟨l, d, rfl, _⟩ := h
    rfl
  obtain ⟨l, d, rfl, ha, hl, hd, q⟩ := h
  have e16 : sizeLine = 16777216 := sizeLine_eq
  refine ⟨_, (pss_cons (ps_if (PW.pt (pw_or (pt_not (pt_val (pe_m0 PySem.F.slot_str_isdigit PySem.F.type_str_isdigit mt_isdigit (pv 0)))) (pw_or1 (pt_cmpR op_gt (pe_callB call_len_str rfl Z.len PySem.boot_len (pa_cons (pv 0) pa_nil)) pe_int (nomark _))))) (pss_one (ps_ret (pe_un un_neg pe_int))) pss_nil)
  (pss_cons (ps_set (i := 2) sc_key_of.nd rfl (Or.inl rfl) (pe_callTy call_int_str rfl Z.int (by decide +kernel) (pa_cons (pv 0) pa_nil)))
  (pss_cons (ps_if (pt_cmpR op_ge (pv 2) (pe_op op_oneShl pe_int (pv 1)) (nomark _)) (pss_one (ps_ret (pe_un un_neg pe_int))) pss_nil)
  (pss_one (ps_ret (pv 2)))))), ?_⟩
  refine ⟨_, rfl, ⟨_, rfl⟩, _, rfl, rfl, True.intro, _, rfl, ?_⟩
  rw [digit_S ha]
  cases hdg : digs l with
  | false =>
    rw [show keyL l d = -1 from if_neg (fun h => by rw [hdg] at h; cases h.1)] at q
    exact iteT (iteT ⟨_, rfl, q⟩)
  | true =>
    refine iteF ⟨_, rfl, _, rfl, by rw [S_len]; omega, _, _, rfl, rfl, _, rfl, ?_⟩
    rw [S_len]
    by_cases h9 : l.length ≤ 9
    · rw [decide_eq_false (show ¬ (9 : Int) < (l.length : Int) by omega)]
      refine iteF ⟨_, rfl, _, _, rfl, int_of hdg (by omega), by rw [S_len]; omega, ?_⟩
      refine ⟨_, rfl, _, rfl, d, rfl, rfl, by omega, _, _, rfl, rfl, _, rfl, ?_⟩
      have e2 : ((2 ^ d : Nat) : Int) = 2 ^ d := by rw [Int.natCast_pow]; rfl
      by_cases hk : NumText.digitsVal l < 2 ^ d
      · rw [show keyL l d = (NumText.digitsVal l : Int) from if_pos ⟨hdg, h9, hk⟩] at q
        rw [decide_eq_false (show ¬ (2 : Int) ^ d ≤ ((NumText.digitsVal l : Nat) : Int) by omega)]
        exact iteF ⟨_, rfl, q⟩
      · rw [show keyL l d = -1 from if_neg (fun h => hk h.2.2)] at q
        rw [decide_eq_true (show (2 : Int) ^ d ≤ ((NumText.digitsVal l : Nat) : Int) by omega)]
        exact iteT ⟨_, rfl, q⟩
    · rw [show keyL l d = -1 from if_neg (fun h => h9 h.2.1)] at q
      rw [decide_eq_true (show (9 : Int) < (l.length : Int) by omega)]
      exact iteT ⟨_, rfl, q⟩
/-- what a row says, as a value -/
def actV : Act → List V
  | .put k t => [.str "put", .int k, .str (S t)]
  | .cut k => [.str "cut", .int k]
def spReadRow (mg : Str → Option Value) : Sp := fun vs H Q E => ∃ (l : List Nat) (d : Nat), vs = [.str (S l), .int (d : Int)] ∧ AscL l ∧ l.length ≤ 100000 ∧ d ≤ 1000 ∧
  (readL l d = some none → ∀ H', Same H H' → Q .non H') ∧ (∀ a, readL l d = some (some a) → ∀ q H', Same H H' → H q = none → H' q = some (.tup (actV a)) → Q (.ref q) H') ∧
  (readL l d = none → ∀ D, mg "BadRow" = some (.ref D) → ∀ dx H', Same H H' → H dx = none → H' dx = some (.xd [("row", .int 0)]) → E (.ref D) (some dx) H')
theorem ok_read_rowN {cc : Addr} (T : Txt K mg cc) (EI : ExcI K mg "BadRow" "BookError" "row" "BadRow.__init__" s_BadRow___init__ ["self", "row"] C B) : CalN P w K mg base 3 "read_row" (spReadRow mg) := by
  have Z := T.Z
  have C_key_of := ok_key_of (P := P) (w := w) (base := base) T
  have F_BadRow := ok_brinit (P := P) (w := w) (base := base) T EI
  refine calN_of T.d_read_row sc_read_row (fun vs H Q E h => ?_) (fun f cdv A' outer s H vs Q E hr h => ?_)
  · obtain ⟨l, d, rfl, _⟩ := h
    rfl
  obtain ⟨l, d, rfl, ha, hl, hd, q1, q2, q3⟩ := h
  have e16 : sizeLine = 16777216 := sizeLine_eq
  refine ⟨_, (pss_cons (ps_set (i := 2) sc_read_row.nd rfl (Or.inl rfl) (pe_bm PySem.F.plainAttrs_str PySem.F.slot_str_lstrip PySem.F.type_str_lstrip mt_lstripChars (pv 0) (pa_cons pe_str pa_nil)))
  (pss_cons (ps_if (PW.pt (pw_or (pt_cmpR op_eq (pv 2) pe_str (nomark _)) (pw_or1 (pt_val (pe_m1 PySem.F.slot_str_startswith PySem.F.type_str_startswith mt_startswith (pv 2) pe_str))))) (pss_one (ps_ret pe_non)) pss_nil)
  (pss_cons (ps_asg (pe_partition (pv 2) pe_str) (pg_tup rfl (pgs_cons (pg_name (i := 3) sc_read_row.nd rfl (Or.inl rfl)) (pgs_cons (pg_name (i := 4) sc_read_row.nd rfl (Or.inl rfl)) (pgs_cons (pg_name (i := 5) sc_read_row.nd rfl (Or.inl rfl)) pgs_nil)))))
  (pss_cons (ps_if (pt_cmpR op_eq (pv 3) pe_str (nomark _)) (pss_cons (ps_asg (pe_partition (pv 5) pe_str) (pg_tup rfl (pgs_cons (pg_name (i := 6) sc_read_row.nd rfl (Or.inl rfl)) (pgs_cons (pg_name (i := 7) sc_read_row.nd rfl (Or.inl rfl)) (pgs_cons (pg_name (i := 8) sc_read_row.nd rfl (Or.inl rfl)) pgs_nil)))))
  (pss_cons (ps_set (i := 9) sc_read_row.nd rfl (Or.inl rfl) (pe_c C_key_of hr (by omega) rfl (pa_cons (pv 6) (pa_cons (pv 1) pa_nil))))
  (pss_one (ps_if (PW.pt (pw_and (pt_cmpR op_ge (pv 9) pe_int (nomark _)) (pw_and1 (pt_cmpR op_eq (pv 7) pe_str (nomark _))))) (pss_one (ps_ret (pe_tup (pa_cons pe_str (pa_cons (pv 9) (pa_cons (pv 8) pa_nil)))))) pss_nil)))) pss_nil)
  (pss_cons (ps_if (pt_cmpR op_eq (pv 3) pe_str (nomark _)) (pss_cons (ps_set (i := 9) sc_read_row.nd rfl (Or.inl rfl) (pe_c C_key_of hr (by omega) rfl (pa_cons (pe_bm PySem.F.plainAttrs_str PySem.F.slot_str_rstrip PySem.F.type_str_rstrip mt_rstripChars (pv 5) (pa_cons pe_str pa_nil)) (pa_cons (pv 1) pa_nil))))
  (pss_one (ps_if (pt_cmpR op_ge (pv 9) pe_int (nomark _)) (pss_one (ps_ret (pe_tup (pa_cons pe_str (pa_cons (pv 9) pa_nil))))) pss_nil))) pss_nil)
  (pss_one (ps_raiseIN EI F_BadRow hr (by omega) rfl (L2N.takes_of rfl rfl rfl rfl) rfl pe_int te_int))))))), ?_⟩
  have eSp : Str.ofString " " = S [32] := TL.ext_tl (by decide +kernel)
  have eHs : Str.ofString "#" = S [35] := TL.ext_tl (by decide +kernel)
  have eNo : Str.ofString "" = S [] := TL.ext_tl (by decide +kernel)
  have ePut : Str.ofString "put" = S putW := TL.ext_tl (by decide +kernel)
  have eCut : Str.ofString "cut" = S cutW := TL.ext_tl (by decide +kernel)
  have sEq : ∀ {a b : List Nat}, decide (V.str (S a) = V.str (S b)) = decide (a = b) := fun {a b} => decide_eq_decide.mpr ⟨fun z => S_inj (V.str.inj z), fun z => by rw [z]⟩
  have hAb : AscL (lsp l) := ha.sub fun c hc => lsp_mem hc
  have hAr : AscL (rst (lsp l)) := hAb.sub fun c hc => rst_mem hc
  have l1 := lsp_len l
  have l2 := rst_len (lsp l)
  have l3 := wrd_len (rst (lsp l))
  have l4 := rsp_len (rst (lsp l))
  refine ⟨_, rfl, rfl, _, _, rfl, rfl, by rw [S_len]; omega, ?_⟩
  rw [eSp, eHs, eNo, ePut, eCut, lstrip_S]
  refine ⟨_, rfl, rfl, _, rfl, ?_⟩
  rw [sEq]
  by_cases hb : lsp l = []
  · rw [decide_eq_true hb]
    exact iteT (iteT (q1 (if_pos (.inl hb)) H (Same.refl H)))
  rw [decide_eq_false hb]
  refine iteF ⟨_, rfl, ⟨_, rfl⟩, _, _, rfl, rfl, _, rfl, ?_⟩
  rw [hash_S]
  by_cases hh : (lsp l).head? = some 35
  · rw [decide_eq_true hh]
    exact iteT (q1 (if_pos (.inr hh)) H (Same.refl H))
  rw [decide_eq_false hh]
  have e0 : readL l d = _ := if_neg (fun z => z.elim hb hh)
  refine iteF ⟨_, rfl, ⟨_, rfl⟩, _, _, rfl, rfl, by decide +kernel, by rw [S_len]; omega, fun p1 np1 => ?_⟩
  rw [part_S]
  have s1 : Same H (upd H p1 (.tup [.str (S (wrd (lsp l))), .str (if 32 ∈ lsp l then S [32] else S []), .str (S (rst (lsp l)))])) := same_upd np1
  have hp1 : upd H p1 (.tup [.str (S (wrd (lsp l))), .str (if 32 ∈ lsp l then S [32] else S []), .str (S (rst (lsp l)))]) p1 = some (.tup [.str (S (wrd (lsp l))), .str (if 32 ∈ lsp l then S [32] else S []), .str (S (rst (lsp l)))]) := upd_same
  generalize upd H p1 (.tup [.str (S (wrd (lsp l))), .str (if 32 ∈ lsp l then S [32] else S []), .str (S (rst (lsp l)))]) = H1 at s1 hp1 ⊢
  refine ⟨p1, _, rfl, SqT.of hp1, rfl, _, _, rfl, _, _, rfl, _, _, rfl, rfl, ?_⟩
  refine ⟨_, rfl, rfl, _, rfl, ?_⟩
  rw [sEq]
  by_cases hp : wrd (lsp l) = putW
  · rw [decide_eq_true hp]
    rw [if_pos hp] at e0
    refine iteT ⟨_, rfl, ⟨_, rfl⟩, _, _, rfl, rfl, by decide +kernel, by rw [S_len]; omega, fun p2 np2 => ?_⟩
    rw [part_S]
    have s2 := s1.trans (same_upd (o := .tup [.str (S (wrd (rst (lsp l)))), .str (if 32 ∈ rst (lsp l) then S [32] else S []), .str (S (rst (rst (lsp l))))]) np2)
    have hp2 : upd H1 p2 (.tup [.str (S (wrd (rst (lsp l)))), .str (if 32 ∈ rst (lsp l) then S [32] else S []), .str (S (rst (rst (lsp l))))]) p2 = some (.tup [.str (S (wrd (rst (lsp l)))), .str (if 32 ∈ rst (lsp l) then S [32] else S []), .str (S (rst (rst (lsp l))))]) := upd_same
    generalize upd H1 p2 (.tup [.str (S (wrd (rst (lsp l)))), .str (if 32 ∈ rst (lsp l) then S [32] else S []), .str (S (rst (rst (lsp l))))]) = H2 at s2 hp2 ⊢
    refine ⟨p2, _, rfl, SqT.of hp2, rfl, _, _, rfl, _, _, rfl, _, _, rfl, rfl, ?_⟩
    refine ⟨_, rfl, _, rfl, wrd (rst (lsp l)), d, rfl, hAr.sub (fun c hc => wrd_mem hc), by omega, hd, ?_⟩
    refine ⟨_, rfl, _, _, rfl, rfl, _, rfl, ?_⟩
    by_cases hk : 0 ≤ keyL (wrd (rst (lsp l))) d
    · rw [decide_eq_true hk]
      refine iteT ⟨_, rfl, rfl, _, rfl, ?_⟩
      by_cases h32 : 32 ∈ rst (lsp l)
      · rw [if_pos h32, sEq, decide_eq_true rfl]
        rw [if_pos ⟨hk, h32⟩] at e0
        exact iteT ⟨_, rfl, _, rfl, by show 3 ≤ sizeLine; decide, fun q nq => q2 _ e0 q _ (s2.trans (same_upd nq)) (s2.free nq) (by rw [upd_same, ← ePut]; rfl)⟩
      · rw [if_neg h32, sEq, decide_eq_false (fun z => by cases z)]
        rw [if_neg (fun z => h32 z.2)] at e0
        exact iteF ⟨_, rfl, rfl, _, rfl, by
        rw [sEq, decide_eq_false (show ¬ wrd (lsp l) = cutW from fun z => by rw [hp] at z; cases z)]
        exact iteF ⟨0, rfl, by decide, by decide, fun dx ndx => q3 e0 _ EI.gC dx _ (s2.trans (same_upd ndx)) (s2.free ndx) upd_same⟩⟩
    · rw [decide_eq_false hk]
      rw [if_neg (fun z => hk z.1)] at e0
      exact iteF (iteF ⟨_, rfl, rfl, _, rfl, by
        rw [sEq, decide_eq_false (show ¬ wrd (lsp l) = cutW from fun z => by rw [hp] at z; cases z)]
        exact iteF ⟨0, rfl, by decide, by decide, fun dx ndx => q3 e0 _ EI.gC dx _ (s2.trans (same_upd ndx)) (s2.free ndx) upd_same⟩⟩)
  · rw [decide_eq_false hp]
    rw [if_neg hp] at e0
    refine iteF ⟨_, rfl, rfl, _, rfl, ?_⟩
    rw [sEq]
    by_cases hc : wrd (lsp l) = cutW
    · rw [decide_eq_true hc]
      rw [if_pos hc] at e0
      refine iteT ⟨_, rfl, rfl, _, _, rfl, rfl, by rw [S_len]; omega, ?_⟩
      rw [rstrip_S]
      refine ⟨_, rfl, rsp (rst (lsp l)), d, rfl, hAr.sub (fun c hc => rsp_mem hc), by omega, hd, ?_⟩
      refine ⟨_, rfl, _, _, rfl, rfl, _, rfl, ?_⟩
      by_cases hk : 0 ≤ keyL (rsp (rst (lsp l))) d
      · rw [decide_eq_true hk]
        rw [if_pos hk] at e0
        exact iteT ⟨_, rfl, by show 2 ≤ sizeLine; decide, fun q nq => q2 _ e0 q _ (s1.trans (same_upd nq)) (s1.free nq) (by rw [upd_same, ← eCut]; rfl)⟩
      · rw [decide_eq_false hk]
        rw [if_neg hk] at e0
        exact iteF ⟨0, rfl, by decide, by decide, fun dx ndx => q3 e0 _ EI.gC dx _ (s1.trans (same_upd ndx)) (s1.free ndx) upd_same⟩
    · rw [decide_eq_false hc]
      rw [if_neg hc] at e0
      exact iteF ⟨0, rfl, by decide, by decide, fun dx ndx => q3 e0 _ EI.gC dx _ (s1.trans (same_upd ndx)) (s1.free ndx) upd_same⟩
end

/-! ### isinstance of a caught error that has a dict -/
section
variable {prog : Program} {w : World} {A : Around} {E : Value → Shared → Prop} {s : Shared} {K : PySem.W.Frag} {x D : Addr} {ox : Obj} {od : Option Obj}
open PySem.W PySem.Calls in
theorem cls_of_exc {Q : Option Value → Shared → Prop} (C : ExcC K D) (inK : K.In s.heap) (at_ : InstAt s.heap x ox D od) (fin : Q (some (.ref D)) { s with toks := s.toks + 1 }) :
    wpAny (model prog w) A (getAttr? (.ref x) "__class__") Q E s := by
  obtain ⟨cd, clsD, _⟩ := any_some C.hd
  have there : findObj K D od "__class__" = some (.bind (.builtin "getset_descriptor.__get__") (.builtin "object.__class__")) := by
    unfold findObj
    rw [clsD, Option.bind_some, C.ha, Option.bind_some]
    simp [C.hn, C.ht]
  obtain ⟨hp, g, d, t, os⟩ := s
  have tyL := at_.type (M := model prog w)
  have gaL := looks_findIn (M := model prog w) inK C.hg
  have gtL := looks_findIn (M := model prog w) inK C.hk
  have clL := looks_find (M := model prog w) inK at_ there
  have exL : Looks (model prog w) hp (isInstance (.ref x) (.type "BaseException")) true := tyL.andThen (looks_subIn inK C.hs)
  have own : (Value.builtin "BaseException.__getattribute__" == Value.builtin "object.__getattribute__") = false := by decide +kernel
  unfold getAttr? getAttrBy? getAttrBy
  refine wpAny_bind (wpAny_mkText (wpAny_bind (wpAny_attempt (wpAny_holding (wpAny_bind (tyL.at (wpAny_bind (gaL.at ?_))))))))
  show wpAny _ _ (if (onTheHeap (Value.ref D) && Value.builtin "BaseException.__getattribute__" == Value.builtin "object.__getattribute__") = true then _ else _) _ _ _
  rw [own, Bool.and_false, if_neg Bool.false_ne_true]
  unfold getAttrByItsOwn hookBefore
  refine wpAny_bind ?_
  rw [if_pos (show onTheHeap (Value.ref D) = true from rfl)]
  refine gtL.at (wpAny_bind (wpAny_attempt (wpAny_holding ?_)))
  unfold callGetattribute
  rw [show (false && onTheHeap (Value.builtin "BaseException.__getattribute__")) = false from rfl, if_neg Bool.false_ne_true]
  unfold boundAndCalled
  rw [PySem.F.excAttr_ValueError.ga.bind (.ref x)]
  refine wpAny_bind (wpAny_pure ?_)
  show wpAny _ _ (call (.builtin "BaseException.__getattribute__") [.ref x, .str "__class__" t]) _ _ _
  refine wpAny_call (codeAny_call_builtin PySem.F.excAttr_ValueError.ga.plain PySem.F.entry_bexc_ga
    (@check_slot (model prog w) _ _ ⟨hp, g, d, t + 1, os⟩ "BaseException.__getattribute__" "BaseException" "__getattribute__" (.ref x) [.str "__class__" t] [] _
      (by decide +kernel) (by decide +kernel) exL (PySem.F.args_bexc_ga (.ref x) (.str "__class__" t)) ?_))
  unfold Builtin.«object.__getattribute__»
  refine wpAny_bind (wpAny_of_eq (a := ((Value.ref x : Value), [Value.str "__class__" t])) (by first | rfl | (simp only [slotArgs]; rfl)) (wpAny_bind (wpAny_pure (wpAny_bind (tyL.at (wpAny_bind (clL.at ?_)))))))
  show wpAny _ _ (holding [Value.builtin "object.__class__"] (call (.builtin "getset_descriptor.__get__") [.builtin "object.__class__", .ref x, .ref D]) >>= ret) _ _ _
  refine wpAny_bind (wpAny_holding (wpAny_call (class_get (s := ⟨hp, g, d, t + 1, os⟩) (ox := ox) (od := od) inK at_ C.hm (wpAny_pure ?_))))
  show wpAny _ _ (handedOut (.ref D)) _ _ _
  rw [handedOut_of (v := .ref D) rfl]
  first
    | exact wpAny_pure (wpAny_pure fin)
    | exact wpAny_pure fin
    | exact wpAny_pure (wpAny_bind (wpAny_pure (wpAny_pure fin)))
open PySem.W PySem.Calls in
theorem kit_exc (C : ExcC K D) : KitX K (.ref x) (.ref D) (fun h => InstAt h x ox D od) where
  ty := fun _ _ _ I => I.type
  it := fun _ _ inK _ => by
    obtain ⟨cd, clsD, _⟩ := any_some C.hd
    unfold clsIn at clsD
    split at clsD
    · rename_i ho
      exact fun _ _ _ _ keep q => by
        unfold isType loadHead
        exact wpAny_bind (wpAny_loadPart (keep _ _ (inK _ _ ho)) (wpAny_pure q))
    · cases clsD
  ne := fun h tp dd its n sl inK htp => by
    obtain ⟨cd, clsD, _⟩ := any_some C.hd
    refine Bool.eq_false_iff.mpr fun q => ?_
    obtain rfl : D = tp := Value.ref.inj (beq_iff_eq.mp q)
    unfold clsIn at clsD
    split at clsD
    · rename_i ho
      cases (inK _ _ ho).symm.trans htp
    · cases clsD
  ca := fun inK I k => cls_of_exc C inK I k
end
theorem call_isD {X : Cx} {a D : Addr} {oe : Obj} {d : Option Addr} {pn : List (Addr × Obj)} (C : ExcC X.K D) (hz : Zc (.ref D) d oe) (hf : ∃ vs, oe.data = .fields vs) :
    CallR (X.suite a ((a, oe) :: pn)) (.builtin "isinstance") (fun xs H Q => ∃ (c : V) (cv : Value) (b : Bool) (dd : Addr) (fs : List (Str × V)), d = some dd ∧ H dd = some (.xd fs) ∧ xs = [.ref a, c] ∧ (∀ u, RelV c u → u = cv) ∧ PySem.W.kitOne X.K (.ref D) cv = some b ∧ Q (.bl b) H) := by
  intro pins s σ H xs us Q I r h
  obtain ⟨c, cv, b, dd, fs, rfl, hdd, rfl, hcv, e, q⟩ := h
  rcases r with _ | ⟨rx, r⟩
  rcases r with _ | ⟨rt, r⟩
  rcases r with _ | _
  cases rx
  obtain rfl := hcv _ rt
  obtain ⟨hget, _⟩ := I.pin (a, oe) (List.mem_append.mpr (.inl List.mem_cons_self))
  obtain ⟨vs, hv⟩ := hf
  obtain ⟨mA, hns, _⟩ : ObjOk X.prog X.w H s.heap dd (.xd fs) := I.hok dd _ hdd
  obtain ⟨odv, ho, _⟩ := lookIn_ns hns
  have J : PySem.W.InstAt s.heap a oe D (some odv) := ⟨hget, hz.1, by unfold PySem.W.notCls; rw [hv] <;> rfl, by rw [hz.2]; exact ho⟩
  exact PySem.W.kia_one (kit_exc C) I.kIn J e (fun z => nomatch z) fun tk => ⟨.bl b, H, I.kept (t' := tk) fun _ _ z => z, rfl, q⟩
theorem zcd_of {cls : Value} {C : Addr} {d : Option Addr} {oe : Obj} (hz : Zc cls d oe) (h : cls = .ref C) : Zc (.ref C) d oe := h ▸ hz

section
variable {P : Program} {w : World} {K : PySem.W.Frag} {mg : Str → Option Value} {base : Heap} {C B : Addr}
def spPlaced (mg : Str → Option Value) : Sp := fun vs H Q E => ∃ (l : List Nat) (d : Nat) (pl : Int), vs = [.str (S l), .int pl, .int (d : Int)] ∧ AscL l ∧ l.length ≤ 100000 ∧ d ≤ 1000 ∧ 0 ≤ pl ∧ pl < 1000000 ∧
  (readL l d = some none → ∀ H', Same H H' → Q .non H') ∧ (∀ a, readL l d = some (some a) → ∀ q H', Same H H' → H q = none → H' q = some (.tup (actV a)) → Q (.ref q) H') ∧
  (readL l d = none → ∀ D, mg "BadRow" = some (.ref D) → ∀ dx H', Same H H' → H dx = none → H' dx = some (.xd [("row", .int pl)]) → E (.ref D) (some dx) H')
theorem ok_placed {cc : Addr} (T : Txt K mg cc) (EI : ExcI K mg "BadRow" "BookError" "row" "BadRow.__init__" s_BadRow___init__ ["self", "row"] C B) : CalX P w K mg base 4 "placed" (spPlaced mg) := by
  have Z := T.Z
  have C_read_row := ok_read_rowN (P := P) (w := w) (base := base) T EI
  have F_BadRowH := ok_brinitH (P := P) (w := w) (base := base) T EI
  refine calX_of T.d_placed sc_placed (fun vs H Q E h => ?_) (fun f cdv A' outer s H vs Q E hr h => ?_)
  · obtain ⟨l, d, pl, rfl, _⟩ := h
    rfl
  obtain ⟨l, d, pl, rfl, ha, hl, hd, hp0, hp1, q1, q2, q3⟩ := h
  refine ⟨_, (pss_one (ps_try_onlyXE (pss_one (ps_ret (pv 3))) rfl rfl ⟨rfl, by decide, .inl EI.gC⟩ (fun hd => L2H.passesAt_of rfl hd) (takes_of rfl rfl rfl rfl) (fun W pn xe tk po => (pss_one (ps_set (i := 3) sc_placed.nd rfl (Or.inl rfl) (pe_cn C_read_row tk hr (by omega) rfl (pa_cons (pv 0) (pa_cons (pv 2) pa_nil)))))) (fun a oe cls d pn hz hf tk hot => (pss_one (ps_raiseIH EI F_BadRowH (L2H.roomH_mark hr (some (.ref a))) (by omega) hot tk rfl (pv 1) te_var))))), ?_⟩
  refine ⟨_, rfl, _, rfl, l, d, rfl, ha, hl, hd, fun e H' s' => ⟨_, rfl, q1 e H' s'⟩, fun a e q H' s' nq hq => ⟨_, rfl, q2 a e q H' s' nq hq⟩, fun e D hD dx H' s' ndx hdx => ?_⟩
  rw [EI.gC] at hD
  cases hD
  exact ⟨true, EI.eP, fun _ a na => ⟨_, rfl, pl, rfl, hp0, hp1, fun dx2 n2 => q3 e _ EI.gC dx2 _ (s'.trans (same_upd n2)) (s'.free n2) upd_same⟩, fun z => nomatch z⟩
/-- all rows of a text: what they say, each with its place, or the first bad one's place -/
def readAll (d : Nat) : Nat → List (List Nat) → Except Nat (List (Act × Nat))
  | _, [] => .ok []
  | i, r :: rs => match readL r d with
    | none => .error i
    | some none => readAll d (i + 1) rs
    | some (some a) => match readAll d (i + 1) rs with
      | .error j => .error j
      | .ok as => .ok ((a, i) :: as)
def preA (as : List (Act × Nat)) : Except Nat (List (Act × Nat)) → Except Nat (List (Act × Nat))
  | .error j => .error j
  | .ok m => .ok (as ++ m)
theorem preA_nil (r : Except Nat (List (Act × Nat))) : preA [] r = r := by cases r <;> rfl
theorem preA_snoc (as : List (Act × Nat)) (a : Act × Nat) (r : Except Nat (List (Act × Nat))) : preA (as ++ [a]) r = preA as (match r with | .error j => .error j | .ok m => .ok (a :: m)) := by
  cases r with
  | error j => rfl
  | ok m => simp [preA]
theorem spl_many : ∀ (l acc : List Nat), (TL.spl [10] 0 acc l).length ≤ l.length + 1
  | [], acc => by rw [TL.spl_nil]; exact Nat.le_refl _
  | c :: r, acc => by
    cases h : TL.pre [10] (c :: r) with
    | true =>
      rw [TL.spl_hit h]
      have := spl_many r []
      exact Nat.succ_le_succ this
    | false =>
      rw [TL.spl_miss h]
      have := spl_many r (acc ++ [c])
      show _ ≤ r.length + 1 + 1
      omega
theorem spl_rows : ∀ (l acc : List Nat), ∀ x ∈ TL.spl [10] 0 acc l, (∀ c ∈ x, c ∈ acc ∨ c ∈ l) ∧ x.length ≤ acc.length + l.length
  | [], acc => fun x hx => by
    rw [TL.spl_nil] at hx
    rw [List.mem_singleton.mp hx]
    exact ⟨fun c hc => .inl hc, Nat.le_refl _⟩
  | c :: r, acc => fun x hx => by
    cases h : TL.pre [10] (c :: r) with
    | true =>
      rw [TL.spl_hit h] at hx
      rcases List.mem_cons.mp hx with rfl | hx
      · exact ⟨fun c hc => .inl hc, Nat.le_add_right _ _⟩
      · obtain ⟨h1, h2⟩ := spl_rows r [] x hx
        refine ⟨fun b hb => .inr (List.mem_cons_of_mem _ ((h1 b hb).resolve_left (fun z => nomatch z))), ?_⟩
        show _ ≤ acc.length + (r.length + 1)
        have h2 : x.length ≤ 0 + r.length := h2
        omega
    | false =>
      rw [TL.spl_miss h] at hx
      obtain ⟨h1, h2⟩ := spl_rows r (acc ++ [c]) x hx
      refine ⟨fun b hb => ?_, ?_⟩
      · rcases h1 b hb with h | h
        · rcases List.mem_append.mp h with h | h
          · exact .inl h
          · rw [List.mem_singleton.mp h]
            exact .inr List.mem_cons_self
        · exact .inr (List.mem_cons_of_mem _ h)
      · rw [List.length_append] at h2
        show _ ≤ acc.length + (r.length + 1)
        have h2 : x.length ≤ acc.length + 1 + r.length := h2
        omega
theorem kp_same {H H' : Hp} (h : Same H H') : Kp H H' := fun a o e _ => h a o e
structure ActsL (H : Hp) (ys : List V) (as : List (Act × Nat)) : Prop where
  len : ys.length = as.length
  at_ : ∀ (j : Nat) (v : V) (a : Act × Nat), ys[j]? = some v → as[j]? = some a → ∃ q, v = .ref q ∧ H q = some (.tup (actV a.1 ++ [.int (a.2 : Int)]))
theorem ActsL.gr {H H' : Hp} {ys : List V} {as : List (Act × Nat)} (h : ActsL H ys as) (x : Gr H H') : ActsL H' ys as := by
  refine ⟨h.len, fun j v e a b => ?_⟩
  obtain ⟨q, h1, h2⟩ := h.at_ j v e a b
  exact ⟨q, h1, x.keep _ _ h2 True.intro (fun _ z => nomatch z)⟩
theorem ActsL.nil {H : Hp} : ActsL H [] [] := ⟨rfl, fun j v e a _ => by simp at a⟩
theorem ActsL.snoc {H : Hp} {ys : List V} {as : List (Act × Nat)} {q : Addr} {e : Act × Nat} (h : ActsL H ys as) (hq : H q = some (.tup (actV e.1 ++ [.int (e.2 : Int)]))) : ActsL H (ys ++ [.ref q]) (as ++ [e]) := by
  have hl := h.len
  refine ⟨by rw [List.length_append, List.length_append, hl]; rfl, fun i v t a b => ?_⟩
  by_cases c : i < ys.length
  · rw [List.getElem?_append_left c] at a
    rw [List.getElem?_append_left (by omega)] at b
    exact h.at_ i v t a b
  · rw [List.getElem?_append_right (by omega)] at a b
    rw [← hl] at b
    cases hj : i - ys.length with
    | zero =>
      rw [hj] at a b
      cases a
      cases b
      exact ⟨q, rfl, hq⟩
    | succ j =>
      rw [hj] at a
      simp at a
def spReadRows (mg : Str → Option Value) : Sp := fun vs H Q E => ∃ (l : List Nat) (d : Nat), vs = [.str (S l), .int (d : Int)] ∧ AscL l ∧ l.length ≤ 100000 ∧ d ≤ 1000 ∧
  (∀ as, readAll d 0 (TL.spl [10] 0 [] l) = .ok as → ∀ q ys H', Ext H H' → Kp H H' → H q = none → H' q = some (.lst ys) → ActsL H' ys as → Q (.ref q) H') ∧
  (∀ i, readAll d 0 (TL.spl [10] 0 [] l) = .error i → ∀ D, mg "BadRow" = some (.ref D) → ∀ dx H', Ext H H' → Kp H H' → H dx = none → H' dx = some (.xd [("row", .int (i : Int))]) → E (.ref D) (some dx) H')
theorem ok_read_rows {cc : Addr} (T : Txt K mg cc) (EI : ExcI K mg "BadRow" "BookError" "row" "BadRow.__init__" s_BadRow___init__ ["self", "row"] C B) : CalX P w K mg base 5 "read_rows" (spReadRows mg) := by
  have Z := T.Z
  have C_placed := ok_placed (P := P) (w := w) (base := base) T EI
  refine calX_of T.d_read_rows sc_read_rows (fun vs H Q E h => ?_) (fun f cdv A' outer s H vs Q E hr h => ?_)
  · obtain ⟨l, d, rfl, _⟩ := h
    rfl
  obtain ⟨l, d, rfl, ha, hl, hd, q1, q2⟩ := h
  have e16 : sizeLine = 16777216 := sizeLine_eq
  refine ⟨_, (pss_cons (ps_set (i := 2) sc_read_rows.nd rfl (Or.inl rfl) (pe_lst pa_nil))
  (pss_cons (ps_for (passes_of rfl) rfl (pi_enum (by rfl) Z.enumerate (pa_cons (pe_split (pv 0) pe_str) pa_nil)) (pg_tup rfl (pgs_cons (pg_name (i := 3) sc_read_rows.nd rfl (Or.inl rfl)) (pgs_cons (pg_name (i := 4) sc_read_rows.nd rfl (Or.inl rfl)) pgs_nil))) (pss_cons (ps_set (i := 5) sc_read_rows.nd rfl (Or.inl rfl) (pe_cx C_placed (takes_of rfl rfl rfl rfl) hr (by omega) rfl (pa_cons (pv 4) (pa_cons (pv 3) (pa_cons (pv 1) pa_nil)))))
  (pss_one (ps_if (pt_cmpR op_notN (pv 5) pe_non (nomark _)) (pss_one (ps_expr (pe_bm PySem.F.plainAttrs_list PySem.F.slot_list_append PySem.F.type_list_append mt_append (pv 2) (pa_cons (pe_op op_catT (pv 5) (pe_tup (pa_cons (pv 3) pa_nil))) pa_nil)))) pss_nil))))
  (pss_one (ps_ret (pv 2))))), ?_⟩
  have eNl : Str.ofString "\n" = S [10] := TL.ext_tl (by decide +kernel)
  refine ⟨by show 0 ≤ sizeLine; decide, fun q nq => ?_⟩
  have u0 := Ext.new (o := .lst []) nq
  have k0 := Kp.new (o := .lst []) nq
  have hq0 : upd H q (.lst []) q = some (.lst []) := upd_same
  generalize upd H q (.lst []) = H0 at u0 k0 hq0 ⊢
  refine ⟨_, rfl, ⟨_, rfl⟩, _, _, rfl, rfl, by decide +kernel, by rw [S_len]; omega, fun p np => ?_⟩
  rw [eNl, SX.split_S (by simp) (by decide)]
  have rl := spl_many l []
  have rm := spl_rows l []
  generalize TL.spl [10] 0 [] l = rows at rl rm q1 q2 ⊢
  have u1 := u0.trans (Ext.new (o := .lst ((rows.map S).map V.str)) np)
  have k1 := k0.trans (Kp.new (o := .lst ((rows.map S).map V.str)) np)
  have hp1 : upd H0 p (.lst ((rows.map S).map V.str)) p = some (.lst ((rows.map S).map V.str)) := upd_same
  have hq1 := (Ext.new (o := .lst ((rows.map S).map V.str)) np).lst hq0
  have npq : p ≠ q := fun z => by rw [z, hq0] at np; cases np
  generalize upd H0 p (.lst ((rows.map S).map V.str)) = H1 at u1 k1 hp1 hq1 ⊢
  refine ⟨p, _, rfl, SqL.of hp1, for_it (walk_enum (K := K) (a := p) (xs := (rows.map S).map V.str)) (fun i σ H' => ∃ (y3 y4 y5 : Option V) (acc : List V) (as : List (Act × Nat)), σ = [some (.str (S l)), some (.int (d : Int)), some (.ref q), y3, y4, y5] ∧ Ext H H' ∧ Kp H H' ∧ H' p = some (.lst ((rows.map S).map V.str)) ∧ H' q = some (.lst acc) ∧ ActsL H' acc as ∧ acc.length ≤ i ∧ readAll d 0 rows = preA as (readAll d i (rows.drop i)))
    ⟨none, none, none, [], [], rfl, u1, k1, hp1, hq1, .nil, Nat.le_refl _, by rw [List.drop_zero, preA_nil]⟩ (fun i σ H' _ ⟨_, _, _, _, _, _, _, _, h, _⟩ => SqL.of h) ?_ ?_⟩
  · rintro i x σ H2 H3 hi ⟨y3, y4, y5, acc, as, rfl, u2, k2, hp2, hq2, has, hal, hrd⟩ ⟨t, kx, vx, rfl, nt, rfl, e1, e2⟩
    rw [List.length_map, List.length_map] at hi
    have hr : rows[i]? = some rows[i] := List.getElem?_eq_getElem hi
    have hmem := List.getElem_mem hi
    have hdr : rows.drop i = rows[i] :: rows.drop (i + 1) := List.drop_eq_getElem_cons hi
    rw [hdr] at hrd
    generalize rows[i] = r at hr hmem hdr hrd
    have e1' : V.int (i : Int) = kx := Option.some.inj e1
    have e2' : V.str (S r) = vx := by
      have e2 : ((rows.map S).map V.str)[i]? = some vx := e2
      rw [List.getElem?_map, List.getElem?_map, hr] at e2
      exact Option.some.inj e2
    subst e1' e2'
    have ut := Ext.new (o := .tup [.int (i : Int), .str (S r)]) nt
    have kt := Kp.new (o := .tup [.int (i : Int), .str (S r)]) nt
    refine ⟨t, _, rfl, SqT.of upd_same, rfl, _, _, rfl, _, _, rfl, rfl, ?_⟩
    have u3 := u2.trans ut
    have k3 := k2.trans kt
    have hp3 := ut.lst hp2
    have hq3 := ut.lst hq2
    have has3 := has.gr ut.gr
    generalize upd H2 t (.tup [.int (i : Int), .str (S r)]) = H3 at u3 k3 hp3 hq3 has3 ⊢
    obtain ⟨rc, rle⟩ := rm r hmem
    refine ⟨_, rfl, _, rfl, _, rfl, r, d, (i : Int), rfl, ha.sub (fun c hc => (rc c hc).resolve_left (fun z => nomatch z)), by have : r.length ≤ 0 + l.length := rle; omega, hd, by omega, by omega, fun e H4 s4 => ?_, fun a e q4 H4 s4 nq4 hq4 => ?_, fun e D hD dx H4 s4 ndx hdx => ?_⟩
    · refine ⟨_, rfl, rfl, _, rfl, iteF ?_⟩
      have u4 := Ext.of_same s4
      refine ⟨_, _, _, acc, as, rfl, u3.trans u4, k3.trans (kp_same s4), u4.lst hp3, u4.lst hq3, has3.gr u4.gr, by omega, ?_⟩
      rw [hrd, readAll, e]
    · refine ⟨_, rfl, rfl, _, rfl, iteT ?_⟩
      have u4 := Ext.of_same s4
      refine ⟨_, rfl, .inl ⟨rfl, _, SqL.of (u4.lst hq3)⟩, _, rfl, _, rfl, by show 1 ≤ sizeLine; decide, fun t2 nt2 => ?_⟩
      have v1 := Ext.new (o := .tup [.int (i : Int)]) nt2
      have j1 := Kp.new (o := .tup [.int (i : Int)]) nt2
      have hq5 := (s4.trans (same_upd (o := .tup [.int (i : Int)]) nt2)) _ _ hq3
      have hqa := v1.tup hq4
      have hqb : upd H4 t2 (.tup [.int (i : Int)]) t2 = some (.tup [.int (i : Int)]) := upd_same
      have u5 := (u3.trans u4).trans v1
      have k5 := (k3.trans (kp_same s4)).trans j1
      have hp5 := v1.lst (u4.lst hp3)
      have has5 := (has3.gr u4.gr).gr v1.gr
      generalize upd H4 t2 (.tup [.int (i : Int)]) = H5 at hq5 hqa hqb u5 k5 hp5 has5 ⊢
      refine ⟨q4, t2, _, _, rfl, rfl, SqT.of hqa, SqT.of hqb, (by cases a <;> simp [actV]), (by cases a <;> (show _ ≤ sizeLine) <;> simp [actV, e16]), (fun z => nomatch z), fun _ q6 nq6 => ?_⟩
      have v2 := Ext.new (o := .tup (actV a ++ [.int (i : Int)])) nq6
      have j2 := Kp.new (o := .tup (actV a ++ [.int (i : Int)])) nq6
      have hq7 := v2.lst hq5
      refine ⟨q, acc, _, rfl, rfl, hq7, by omega, ?_⟩
      have ne6 : q6 ≠ q := fun z => by rw [z, hq5] at nq6; cases nq6
      refine ⟨_, _, _, acc ++ [.ref q6], as ++ [(a, i)], rfl, (u5.trans v2).mut nq, (k5.trans j2).trans (Kp.lst hq7), ?_, upd_same, ((has5.gr v2.gr).gr (Kp.lst hq7).gr).snoc (by rw [upd_ne ne6]; exact upd_same), by rw [List.length_append]; exact Nat.succ_le_succ hal, ?_⟩
      · rw [upd_ne npq]
        exact v2.lst hp5
      · rw [hrd, readAll, e, preA_snoc]
    · refine q2 i ?_ D hD dx H4 (u3.trans (Ext.of_same s4)) (k3.trans (kp_same s4)) (u3.free ndx) hdx
      rw [hrd, readAll, e]
      rfl
  · rintro σ H2 ⟨y3, y4, y5, acc, as, rfl, u2, k2, hp2, hq2, has, hal, hrd⟩
    refine ⟨_, rfl, q1 as ?_ q acc H2 u2 k2 nq hq2 has⟩
    rw [hrd, List.length_map, List.length_map, List.drop_length]
    show preA as (.ok []) = _
    rw [preA, List.append_nil]
end

section
variable {P : Program} {w : World} {K : PySem.W.Frag} {mg : Str → Option Value} {base : Heap}
def someL : List Nat := TL.tl (Str.ofString " !\"#$&'()*+,-./0123456789:;<=>?@ABCDEFGHIJKLMNOPQRSTUVWXYZ[\\]^_`abcdefghijklmnopqrstuvwxyz{|}~")
theorem someL_at : someL.length = 94 ∧ (someL.all fun c => decide (32 ≤ c) && decide (c ≤ 126)) = true := by decide +kernel
theorem someL_S : Str.ofString " !\"#$&'()*+,-./0123456789:;<=>?@ABCDEFGHIJKLMNOPQRSTUVWXYZ[\\]^_`abcdefghijklmnopqrstuvwxyz{|}~" = S someL := (SX.S_tl _).symm
/-- signs from the blank to ~ -/
def PrL (t : List Nat) : Prop := ∀ c ∈ t, 32 ≤ c ∧ c ≤ 126
theorem PrL.asc {t : List Nat} (h : PrL t) : AscL t := fun c hc => by have := (h c hc).2; omega
theorem some_get {z : Int} (h0 : 0 ≤ z) (h1 : z < 94) : ∃ c, atI someL z = some c ∧ 32 ≤ c ∧ c ≤ 126 := by
  obtain ⟨n, rfl⟩ := Int.eq_ofNat_of_zero_le h0
  have hl := someL_at.1
  have hn : n < someL.length := by omega
  have := List.all_eq_true.mp someL_at.2 _ (List.getElem_mem hn)
  rw [Bool.and_eq_true] at this
  exact ⟨_, atI_nat (List.getElem?_eq_getElem hn), of_decide_eq_true this.1, of_decide_eq_true this.2⟩
theorem joinL_ones : ∀ l : List Nat, TL.joinL [] (l.map fun c => [c]) = l
  | [] => rfl
  | [a] => rfl
  | a :: b :: l => by
    have := joinL_ones (b :: l)
    show [a] ++ [] ++ TL.joinL [] ((b :: l).map fun c => [c]) = _
    rw [this]
    rfl
theorem join_ones (l : List Nat) : Txt.join (S []) (l.map fun c => S [c]) = S l := by
  have h := SX.join_S [] (l.map fun c => [c])
  rw [List.map_map] at h
  rw [joinL_ones] at h
  exact h
def spText : Sp := fun vs H Q _ => ∃ (c : Int), vs = [.int c] ∧ ∀ (t : List Nat) (H' : Hp), PrL t → t.length ≤ 6 → Same H H' → Q (.str (S t)) H'
theorem ok_text {cc : Addr} (T : Txt K mg cc) : Cal P w K mg base 2 "_law_text" spText [] := by
  have Z := T.Z
  have C__law_draw := ok_draw (P := P) (w := w) (base := base) T
  refine cal_of T.d__law_text sc__law_text (fun vs H Q E h => ?_) (fun f cdv A' outer s H vs Q E hr h => ?_)
  · obtain ⟨c, rfl, _⟩ := h
    rfl
  obtain ⟨c, rfl, q⟩ := h
  have e16 : sizeLine = 16777216 := sizeLine_eq
  refine ⟨_, (pss_cons (ps_set (i := 1) sc__law_text.nd rfl (Or.inr rfl) pe_str)
  (pss_one (ps_ret (pe_join pe_str (pe_lc (own := [("_law_k", 2)]) (g := gName 2) (tt := tYes) rfl sc__law_text.nd (pi_range1 rfl Z.range (pa_cons (pe_c C__law_draw hr (by omega) rfl (pa_cons (pv 0) (pa_cons pe_int (pa_cons pe_int pa_nil)))) pa_nil)) (blkOk_by (N := N__law_text) (sc := defScope s__law_text) (by decide +kernel)) (fun _ _ _ _ _ => (pg_name (i := 2) sc__law_text.nd rfl (Or.inl rfl))) (fun _ _ _ _ _ => pts_nil) (fun _ _ _ _ _ => (pe_ix ix_str (pv 1) (pe_c C__law_draw hr (by omega) rfl (pa_cons (pe_op op_add (pv 0) (pe_op op_mul pe_int (pv 2))) (pa_cons (pv 2) (pa_cons (pe_callB call_len_str rfl Z.len PySem.boot_len (pa_cons (pv 1) pa_nil)) pa_nil)))) (fun _ _ => rfl)))))))), ?_⟩
  rw [someL_S]
  have eNo : Str.ofString "" = S [] := TL.ext_tl (by decide +kernel)
  have sl : (S someL).length = 94 := by rw [S_len]; exact someL_at.1
  refine ⟨⟨_, rfl⟩, _, rfl, c, 5, 7, rfl, by decide, by decide, by decide, fun z H1 z0 z1 s1 => ⟨z, rfl, by omega, by omega, fun D nD => ?_⟩⟩
  refine lc_range (fun i H' => ∃ t : List Nat, t.length = i ∧ Same H H' ∧ H' D = some (.lst ((t.map fun c => S [c]).map V.str)) ∧ PrL t) ⟨[], rfl, s1.trans (same_upd nD), upd_same, fun _ h => by cases h⟩ ?_ ?_
  · rintro i H' hi ⟨t, rfl, s2, hD, ht⟩
    refine ⟨rfl, _, rfl, _, rfl, _, rfl, _, _, rfl, rfl, .inl ⟨by decide, by decide⟩, _, _, rfl, rfl, _, rfl, _, rfl, _, rfl, by rw [sl]; omega, _, _, _, rfl, by omega, by omega, by rw [sl]; decide, fun z' H2 z0' z1' s3 => ?_⟩
    rw [sl] at z1'
    obtain ⟨ch, hch, o1, o2⟩ := some_get z0' z1'
    refine ⟨S someL, z', ch, rfl, rfl, by rw [sl]; omega, hch, _, s3 _ _ hD, by rw [List.length_map, List.length_map]; omega, t ++ [ch], by simp, ?_, by rw [upd_same, List.map_append, List.map_append]; rfl, fun y hy => ?_⟩
    · exact fun a u ha => by
        rw [upd_ne (ne_of_none ha (s1.free nD))]
        exact s3 _ _ (s2 _ _ ha)
    · rcases List.mem_append.mp hy with h | h
      · exact ht y h
      · rw [List.mem_singleton.mp h]
        exact ⟨o1, o2⟩
  · rintro H2 ⟨t, htl, s2, hD, ht⟩
    have t6 : t.length ≤ 6 := by omega
    refine ⟨_, D, t.map fun c => S [c], rfl, rfl, .inl (SqL.of hD), ?_, ?_⟩
    · have e1 : ∀ t : List Nat, (((t.map fun c => S [c]).map fun x : Str => x.length).sum) = t.length := by
        intro t
        induction t with
        | nil => rfl
        | cons a t ih =>
          rw [List.map_cons, List.map_cons, List.sum_cons, ih, S_len]
          simp
          omega
      rw [e1, List.length_map, eNo, S_len]
      simp
      omega
    · rw [eNo, join_ones]
      exact q t H2 ht t6 s2
end

/-! ### rows that are made -/
def readB (b : List Nat) (d : Nat) : Option (Option Act) :=
  if b = [] ∨ b.head? = some 35 then some none
  else if wrd b = putW then
    if 0 ≤ keyL (wrd (rst b)) d ∧ 32 ∈ rst b then some (some (.put (keyL (wrd (rst b)) d) (rst (rst b)))) else none
  else if wrd b = cutW then
    if 0 ≤ keyL (rsp (rst b)) d then some (some (.cut (keyL (rsp (rst b)) d))) else none
  else none
theorem lsp_sp (n : Nat) {l : List Nat} (h : l.head? ≠ some 32) : lsp (List.replicate n 32 ++ l) = l := by
  induction n with
  | zero =>
    cases l with
    | nil => rfl
    | cons a l =>
      have e : (a == 32) = false := beq_eq_false_iff_ne.mpr fun z => h (by rw [z]; rfl)
      show (a :: l).dropWhile (· == 32) = a :: l
      rw [List.dropWhile_cons, if_neg (by rw [e]; decide)]
  | succ n ih =>
    rw [List.replicate_succ]
    exact ih
theorem readL_sp (n d : Nat) {b : List Nat} (h : b.head? ≠ some 32) : readL (List.replicate n 32 ++ b) d = readB b d := by
  show readB (lsp (List.replicate n 32 ++ b)) d = _
  rw [lsp_sp n h]
theorem wrd_app {p : List Nat} (r : List Nat) (h : 32 ∉ p) : wrd (p ++ 32 :: r) = p ∧ rst (p ++ 32 :: r) = r := by
  induction p with
  | nil => exact ⟨rfl, rfl⟩
  | cons a p ih =>
    obtain ⟨h1, h2⟩ := ih fun z => h (List.mem_cons_of_mem _ z)
    have e : (a != 32) = true := bne_iff_ne.mpr fun z => h (by rw [z]; exact List.mem_cons_self)
    unfold wrd rst
    rw [List.cons_append, List.takeWhile_cons, List.dropWhile_cons, if_pos e, if_pos e]
    exact ⟨congrArg (a :: ·) h1, h2⟩
theorem readB_put (r : List Nat) (d : Nat) : readB (putW ++ 32 :: r) d = if 0 ≤ keyL (wrd r) d ∧ 32 ∈ r then some (some (.put (keyL (wrd r) d) (rst r))) else none := by
  obtain ⟨h1, h2⟩ := wrd_app (p := putW) r (by decide)
  unfold readB
  rw [if_neg (by intro z; rcases z with z | z <;> cases z), if_pos h1, h2]
theorem readB_cut (r : List Nat) (d : Nat) : readB (cutW ++ 32 :: r) d = if 0 ≤ keyL (rsp r) d then some (some (.cut (keyL (rsp r) d))) else none := by
  obtain ⟨h1, h2⟩ := wrd_app (p := cutW) r (by decide)
  unfold readB
  rw [if_neg (by intro z; rcases z with z | z <;> cases z), if_neg (by rw [h1]; decide), if_pos h1, h2]
theorem readB_none {b : List Nat} (d : Nat) (h0 : b ≠ []) (h1 : b.head? ≠ some 35) (h2 : wrd b ≠ putW) (h3 : wrd b ≠ cutW) : readB b d = none := by
  unfold readB
  rw [if_neg (by intro z; exact z.elim h0 h1), if_neg h2, if_neg h3]
theorem keyL_bad {l : List Nat} (d : Nat) (h : digs l = false ∨ 9 < l.length) : ¬ 0 ≤ keyL l d := by
  unfold keyL
  rw [if_neg]
  · decide
  · rintro ⟨h1, h2, _⟩
    rcases h with h | h
    · rw [h] at h1; cases h1
    · omega
theorem digs_no {l : List Nat} {c : Nat} (hc : c ∈ l) (h : c < 48 ∨ 57 < c) : digs l = false := by
  cases hd : digs l with
  | false => rfl
  | true =>
    unfold digs at hd
    rw [Bool.and_eq_true] at hd
    have := List.all_eq_true.mp hd.2 c hc
    rw [Bool.and_eq_true] at this
    have h1 := of_decide_eq_true this.1
    have h2 := of_decide_eq_true this.2
    omega
theorem rsp_tail (x : List Nat) {t : List Nat} (ht : t ≠ []) (hn : 32 ∉ t) : rsp (x ++ t) = x ++ t := by
  unfold rsp
  rw [List.reverse_append]
  cases hr : t.reverse with
  | nil => exact absurd (List.reverse_eq_nil_iff.mp hr) ht
  | cons a r =>
    have ha : a ∈ t := List.mem_reverse.mp (by rw [hr]; exact List.mem_cons_self)
    have e : (a == 32) = false := beq_eq_false_iff_ne.mpr fun z => hn (by rw [← z]; exact ha)
    rw [List.cons_append, List.dropWhile_cons, if_neg (by rw [e]; decide), ← List.cons_append, ← hr, ← List.reverse_append, List.reverse_reverse]
theorem rsp_sp {t : List Nat} (n : Nat) (ht : t ≠ []) (hn : 32 ∉ t) : rsp (t ++ List.replicate n 32) = t := by
  unfold rsp
  rw [List.reverse_append, List.reverse_replicate]
  have h : (List.replicate n 32 ++ t.reverse).dropWhile (· == 32) = t.reverse := by
    refine lsp_sp n ?_
    cases hr : t.reverse with
    | nil => exact absurd (List.reverse_eq_nil_iff.mp hr) ht
    | cons a r =>
      intro z
      have ha : a ∈ t := List.mem_reverse.mp (by rw [hr]; exact List.mem_cons_self)
      have z : a = 32 := Option.some.inj z
      exact hn (by rw [← z]; exact ha)
  rw [h, List.reverse_reverse]
/-- a key's figures -/
structure Fig (kd : List Nat) (n : Nat) : Prop where
  ne : kd ≠ []
  dg : ∀ c ∈ kd, 48 ≤ c ∧ c ≤ 57
  l9 : kd.length ≤ 9
  vl : NumText.digitsVal kd = n
theorem Fig.digs {kd : List Nat} {n : Nat} (h : Fig kd n) : digs kd = true := by
  unfold My.digs
  rw [Bool.and_eq_true]
  refine ⟨?_, List.all_eq_true.mpr fun c hc => ?_⟩
  · cases kd with
    | nil => exact absurd rfl h.ne
    | cons a l => rfl
  · rw [Bool.and_eq_true]
    exact ⟨decide_eq_true (h.dg c hc).1, decide_eq_true (h.dg c hc).2⟩
theorem Fig.no32 {kd : List Nat} {n : Nat} (h : Fig kd n) : 32 ∉ kd := fun z => by have := (h.dg 32 z).1; omega
theorem Fig.key {kd : List Nat} {n d : Nat} (h : Fig kd n) : keyL kd d = if n < 2 ^ d then (n : Int) else -1 := by
  unfold keyL
  by_cases c : n < 2 ^ d
  · rw [if_pos ⟨h.digs, h.l9, by rw [h.vl]; exact c⟩, if_pos c, h.vl]
  · rw [if_neg (fun z => c (by rw [← h.vl]; exact z.2.2)), if_neg c]
theorem Fig.pr {kd : List Nat} {n : Nat} (h : Fig kd n) : PrL kd := fun c hc => by have := h.dg c hc; omega
theorem val_zero (z : Nat) (l : List Nat) : NumText.digitsVal (List.replicate z 48 ++ l) = NumText.digitsVal l := by
  unfold NumText.digitsVal
  rw [List.foldl_append]
  congr 1
  induction z with
  | zero => rfl
  | succ z ih => rw [List.replicate_succ, List.foldl_cons]; exact ih
theorem fig_num {n z : Nat} (h : n < 100000) (hz : z + (TL.numL n).length ≤ 9) : Fig (List.replicate z 48 ++ TL.numL n) n := by
  refine ⟨?_, fun c hc => ?_, ?_, ?_⟩
  · intro e
    exact TL.numL_ne n (List.append_eq_nil_iff.mp e).2
  · rcases List.mem_append.mp hc with hc | hc
    · rw [(List.mem_replicate.mp hc).2]
      decide
    · exact TL.numL_digits n c hc
  · rw [List.length_append, List.length_replicate]
    exact hz
  · rw [val_zero, TL.numL_val]
inductive Due where
  | non
  | bad
  | act (a : Act)
def dueR : Due → Option (Option Act)
  | .non => some none
  | .bad => none
  | .act a => some (some a)
theorem row_put {kd t : List Nat} {n m d : Nat} (h : Fig kd n) : readL (List.replicate m 32 ++ (putW ++ 32 :: (kd ++ 32 :: t))) d = dueR (if n < 2 ^ d then .act (.put n t) else .bad) := by
  rw [readL_sp m d (by show some 112 ≠ some 32; decide), readB_put]
  obtain ⟨h1, h2⟩ := wrd_app (p := kd) t h.no32
  rw [h1, h2, h.key]
  by_cases c : n < 2 ^ d
  · rw [if_pos c, if_pos c, if_pos ⟨Int.natCast_nonneg _, List.mem_append.mpr (.inr List.mem_cons_self)⟩]
    rfl
  · rw [if_neg c, if_neg c, if_neg (fun z => by have := z.1; omega)]
    rfl
theorem row_cut {kd : List Nat} {n m j d : Nat} (h : Fig kd n) : readL (List.replicate m 32 ++ (cutW ++ 32 :: (kd ++ List.replicate j 32))) d = dueR (if n < 2 ^ d then .act (.cut n) else .bad) := by
  rw [readL_sp m d (by show some 99 ≠ some 32; decide), readB_cut, rsp_sp j h.ne h.no32, h.key]
  by_cases c : n < 2 ^ d
  · rw [if_pos c, if_pos c, if_pos (Int.natCast_nonneg _)]
    rfl
  · rw [if_neg c, if_neg c, if_neg (by decide)]
    rfl
theorem row_none (m d : Nat) : readL (List.replicate m 32) d = dueR .non := by
  have h := readL_sp m d (b := []) (by decide)
  rw [List.append_nil] at h
  rw [h]
  rfl
theorem row_hash (m d : Nat) (t : List Nat) : readL (List.replicate m 32 ++ 35 :: t) d = dueR .non := by
  rw [readL_sp m d (by show some 35 ≠ some 32; decide)]
  rfl
/-- a text that cannot be read -/
structure BadB (b : List Nat) : Prop where
  hd : b.head? ≠ some 32
  pr : PrL b
  ln : b.length ≤ 40
  rd : ∀ d, readB b d = none
theorem pr_app {a b : List Nat} (h : PrL a) (h' : PrL b) : PrL (a ++ b) := fun c hc => (List.mem_append.mp hc).elim (h c) (h' c)
theorem pr_cons {a : Nat} {b : List Nat} (h : 32 ≤ a ∧ a ≤ 126) (h' : PrL b) : PrL (a :: b) := fun c hc => (List.mem_cons.mp hc).elim (fun e => by rw [e]; exact h) (h' c)
theorem pr_nil : PrL [] := fun c hc => nomatch hc
theorem pr_rep {c : Nat} (n : Nat) (h : 32 ≤ c ∧ c ≤ 126) : PrL (List.replicate n c) := fun x hx => by rw [(List.mem_replicate.mp hx).2]; exact h
theorem bad_put {r : List Nat} (hp : PrL r) (hl : r.length ≤ 36) (h : digs (wrd r) = false ∨ 9 < (wrd r).length ∨ 32 ∉ r) : BadB (putW ++ 32 :: r) := by
  refine ⟨by show some 112 ≠ some 32; decide, pr_app (fun c hc => by simp [putW] at hc; omega) (pr_cons (by decide) hp), by simp [putW]; omega, fun d => ?_⟩
  rw [readB_put, if_neg]
  rintro ⟨h1, h2⟩
  rcases h with h | h | h
  · exact keyL_bad d (.inl h) h1
  · exact keyL_bad d (.inr h) h1
  · exact h h2
theorem bad_cut {r : List Nat} (hp : PrL r) (hl : r.length ≤ 36) (h : digs (rsp r) = false ∨ 9 < (rsp r).length) : BadB (cutW ++ 32 :: r) := by
  refine ⟨by show some 99 ≠ some 32; decide, pr_app (fun c hc => by simp [cutW] at hc; omega) (pr_cons (by decide) hp), by simp [cutW]; omega, fun d => ?_⟩
  rw [readB_cut, if_neg (keyL_bad d h)]
theorem bad_word {w r : List Nat} (hp : PrL (w ++ 32 :: r)) (hl : (w ++ 32 :: r).length ≤ 40) (h0 : (w ++ 32 :: r).head? ≠ some 32 ∧ (w ++ 32 :: r).head? ≠ some 35) (h1 : 32 ∉ w) (h2 : w ≠ putW) (h3 : w ≠ cutW) : BadB (w ++ 32 :: r) := by
  have hw := (wrd_app (p := w) r h1).1
  exact ⟨h0.1, hp, hl, fun d => readB_none d (by simp) h0.2 (by rw [hw]; exact h2) (by rw [hw]; exact h3)⟩
theorem bad_row {b : List Nat} (h : BadB b) (m d : Nat) : readL (List.replicate m 32 ++ b) d = dueR .bad := by
  rw [readL_sp m d h.hd, h.rd]
  rfl

/-! ### a text some times -/
def repS (x : Str) (n : Int) : Str := if n < 1 then Str.empty else if (n == 1 || x.length == 0) = true then x else ⟨(List.replicate n.toNat x.cps).foldl (· ++ ·) #[]⟩
def rRepS : R2 := fun x y H Q => ∃ i k, x = .str i ∧ y = .int k ∧ 0 ≤ k ∧ k ≤ 100000 ∧ i.length ≤ 100 ∧ (repS i k).length ≤ sizeLine ∧ Q (.str (repS i k)) H
theorem op_mulS {X : Cx} : OpR X (binaryOp .Mult) rRepS := by
  intro pins s σ H x y v u Q I rx ry h
  obtain ⟨i, k, rfl, rfl, h0, h1, h2, h3, q⟩ := h
  obtain ⟨t, rfl⟩ := rx
  obtain ⟨t', rfl⟩ := ry
  refine PySem.P.mul_str ?_ (fun _ _ => ?_) (fun _ _ => ?_) ?_
  · have a1 : ¬ k < -(2 ^ 63 : Int) := by omega
    have a2 : ¬ k ≥ 2 ^ 63 := by omega
    rw [decide_eq_false a1, decide_eq_false a2]
    rfl
  · rename_i hk _
    have : (100 : Int) ≤ (2 ^ 63 - 1) / k := by
      refine (Int.le_ediv_iff_mul_le (by omega)).mpr ?_
      omega
    omega
  · have : i.length * k.toNat ≤ 100 * 100000 := Nat.mul_le_mul h2 (by omega)
    refine decide_eq_false ?_
    show ¬ i.length * k.toNat > sizeLine
    rw [sizeLine_eq]
    omega
  · unfold repS at q h3
    by_cases c1 : k < 1
    · rw [if_pos c1] at q h3 ⊢
      exact ⟨by decide, .str _, H, I.tok _, ⟨_, rfl⟩, q⟩
    · rw [if_neg c1] at q h3 ⊢
      by_cases c2 : (k == 1 || i.length == 0) = true
      · rw [if_pos c2] at q h3 ⊢
        exact ⟨.str _, H, I, ⟨_, rfl⟩, q⟩
      · rw [if_neg c2] at q h3 ⊢
        exact ⟨h3, .str _, H, I.tok _, ⟨_, rfl⟩, q⟩

theorem slen_app (x y : Str) : (x ++ y).length = x.length + y.length := by
  show (x.cps ++ y.cps).size = x.cps.size + y.cps.size
  rw [Array.size_append]
theorem padded_S (l : List Nat) (k : Nat) : Builtin.Str.padded (S l) k 0 48 = S (List.replicate k 48 ++ l) := by
  refine TL.ext_tl ?_
  unfold Builtin.Str.padded
  simp [S]
theorem zfill_S {kd : List Nat} {n : Nat} (h : Fig kd n) : Txt.zfill (S kd) 9 = S (List.replicate (9 - kd.length) 48 ++ kd) := by
  have hl := h.l9
  unfold Txt.zfill
  rw [S_len]
  by_cases c : (9 : Int) ≤ ((kd.length : Nat) : Int)
  · rw [if_pos c, show 9 - kd.length = 0 by omega]
    rfl
  · rw [if_neg c]
    unfold zfilled
    cases kd with
    | nil => exact absurd rfl h.ne
    | cons a l =>
      have ha := h.dg a List.mem_cons_self
      show (match (S (a :: l)).cps[0]? with | some 43 | some 45 => _ | _ => _) = _
      have e : (S (a :: l)).cps[0]? = some a := rfl
      rw [e]
      split
      · rename_i z; have := Option.some.inj z; omega
      · rename_i z; have := Option.some.inj z; omega
      · exact padded_S _ _
theorem eqS {x : Option V} {a b : Str} (h : x = some (.str a)) (e : a = b) : x = some (.str b) := by rw [h, e]
theorem no_cons {a : Nat} {l : List Nat} (h : 32 ≠ a) (h' : 32 ∉ l) : 32 ∉ a :: l := fun z => (List.mem_cons.mp z).elim h h'
theorem no_app {l m : List Nat} (h : 32 ∉ l) (h' : 32 ∉ m) : 32 ∉ l ++ m := fun z => (List.mem_append.mp z).elim h h'
theorem bad_putW : BadB putW := ⟨by decide, fun c hc => by simp [putW] at hc; omega, by decide, fun d => by
  unfold readB
  rw [if_neg (by decide), if_pos (by decide), if_neg (fun z => keyL_bad d (.inl rfl) z.1)]⟩
theorem bad_cutW : BadB cutW := ⟨by decide, fun c hc => by simp [cutW] at hc; omega, by decide, fun d => by
  unfold readB
  rw [if_neg (by decide), if_neg (by decide), if_pos (by decide), if_neg (keyL_bad d (.inl rfl))]⟩
section
variable {P : Program} {w : World} {K : PySem.W.Frag} {mg : Str → Option Value} {base : Heap}
def spBad : Sp := fun vs H Q _ => ∃ (c : Int) (kd : List Nat) (n : Nat), vs = [.int c, .str (S kd)] ∧ Fig kd n ∧ ∀ (b : List Nat) (H' : Hp), BadB b → Same H H' → Q (.str (S b)) H'
theorem ok_bad {cc : Addr} (T : Txt K mg cc) : Cal P w K mg base 2 "_law_bad" spBad [] := by
  have Z := T.Z
  have C__law_draw := ok_draw (P := P) (w := w) (base := base) T
  refine cal_of T.d__law_bad sc__law_bad (fun vs H Q E h => ?_) (fun f cdv A' outer s H vs Q E hr h => ?_)
  · obtain ⟨c, kd, n, rfl, _⟩ := h
    rfl
  obtain ⟨c, kd, n, rfl, hk, q⟩ := h
  have e16 : sizeLine = 16777216 := sizeLine_eq
  refine ⟨_, (pss_cons (ps_set (i := 2) sc__law_bad.nd rfl (Or.inl rfl) (pe_tup (pa_cons pe_str (pa_cons pe_str (pa_cons pe_str (pa_cons (pe_op op_add_str (pe_op op_add_str pe_str (pv 1)) pe_str) (pa_cons (pe_op op_add_str (pe_op op_add_str pe_str (pv 1)) pe_str) (pa_cons (pe_op op_add_str pe_str (pv 1)) (pa_cons (pe_op op_add_str (pe_op op_add_str pe_str (pv 1)) pe_str) (pa_cons (pe_op op_add_str pe_str (pv 1)) (pa_cons (pe_op op_add_str (pe_op op_add_str pe_str (pv 1)) pe_str) (pa_cons (pe_op op_add_str (pe_op op_add_str pe_str (pv 1)) pe_str) (pa_cons (pe_op op_add_str (pe_op op_add_str pe_str (pe_op op_mulS pe_str pe_int)) (pv 1)) (pa_cons pe_str (pa_cons (pe_op op_add_str pe_str (pv 1)) (pa_cons (pe_op op_add_str (pe_op op_add_str pe_str (pv 1)) pe_str) (pa_cons (pe_op op_add_str pe_str (pv 1)) (pa_cons (pe_op op_add_str (pe_op op_add_str pe_str (pe_bm PySem.F.plainAttrs_str PySem.F.slot_str_zfill PySem.F.type_str_zfill mt_zfill (pv 1) (pa_cons pe_int pa_nil))) pe_str) (pa_cons (pe_op op_add_str pe_str (pe_bm PySem.F.plainAttrs_str PySem.F.slot_str_zfill PySem.F.type_str_zfill mt_zfill (pv 1) (pa_cons pe_int pa_nil))) (pa_cons (pe_op op_add_str pe_str (pv 1)) (pa_cons (pe_op op_add_str pe_str (pv 1)) (pa_cons (pe_op op_add_str pe_str (pv 1)) (pa_cons (pe_op op_add_str (pe_op op_add_str pe_str (pv 1)) pe_str) (pa_cons (pe_op op_add_str (pe_op op_add_str pe_str (pv 1)) pe_str) pa_nil))))))))))))))))))))))))
  (pss_one (ps_ret (pe_ix ix_tup (pv 2) (pe_c C__law_draw hr (by omega) rfl (pa_cons (pv 0) (pa_cons pe_int (pa_cons (pe_callB call_len_seq rfl Z.len PySem.boot_len (pa_cons (pv 2) pa_nil)) pa_nil)))) (fun _ _ => rfl))))), ?_⟩
  have hl9 := hk.l9
  have lz : (Txt.zfill (S kd) 9).length = 9 := by rw [zfill_S hk, S_len, List.length_append, List.length_replicate]; omega
  have lr : (repS (S [48]) 9).length = 9 := by decide +kernel
  have lit0 : Str.ofString "put" = S [112, 117, 116] := TL.ext_tl (by decide +kernel)
  have lit1 : Str.ofString "put " = S [112, 117, 116, 32] := TL.ext_tl (by decide +kernel)
  have lit2 : Str.ofString "cut" = S [99, 117, 116] := TL.ext_tl (by decide +kernel)
  have lit3 : Str.ofString "pu t" = S [112, 117, 32, 116] := TL.ext_tl (by decide +kernel)
  have lit4 : Str.ofString " 1" = S [32, 49] := TL.ext_tl (by decide +kernel)
  have lit5 : Str.ofString " a" = S [32, 97] := TL.ext_tl (by decide +kernel)
  have lit6 : Str.ofString "cutt " = S [99, 117, 116, 116, 32] := TL.ext_tl (by decide +kernel)
  have lit7 : Str.ofString "x b" = S [120, 32, 98] := TL.ext_tl (by decide +kernel)
  have lit8 : Str.ofString "cut  " = S [99, 117, 116, 32, 32] := TL.ext_tl (by decide +kernel)
  have lit9 : Str.ofString "cut 1_" = S [99, 117, 116, 32, 49, 95] := TL.ext_tl (by decide +kernel)
  have lit10 : Str.ofString "cut 1" = S [99, 117, 116, 32, 49] := TL.ext_tl (by decide +kernel)
  have lit11 : Str.ofString "Cut " = S [67, 117, 116, 32] := TL.ext_tl (by decide +kernel)
  have lit12 : Str.ofString "cu " = S [99, 117, 32] := TL.ext_tl (by decide +kernel)
  have lit13 : Str.ofString "add " = S [97, 100, 100, 32] := TL.ext_tl (by decide +kernel)
  have lit14 : Str.ofString "z" = S [122] := TL.ext_tl (by decide +kernel)
  have lit15 : Str.ofString "cut " = S [99, 117, 116, 32] := TL.ext_tl (by decide +kernel)
  have lit16 : Str.ofString "put  " = S [112, 117, 116, 32, 32] := TL.ext_tl (by decide +kernel)
  have lit17 : Str.ofString "put -" = S [112, 117, 116, 32, 45] := TL.ext_tl (by decide +kernel)
  have lit18 : Str.ofString "Put " = S [80, 117, 116, 32] := TL.ext_tl (by decide +kernel)
  have lit19 : Str.ofString "put +" = S [112, 117, 116, 32, 43] := TL.ext_tl (by decide +kernel)
  have lit20 : Str.ofString "put 1" = S [112, 117, 116, 32, 49] := TL.ext_tl (by decide +kernel)
  have lit21 : Str.ofString "zput " = S [122, 112, 117, 116, 32] := TL.ext_tl (by decide +kernel)
  have lit22 : Str.ofString "0" = S [48] := TL.ext_tl (by decide +kernel)
  rw [lit0, lit1, lit2, lit3, lit4, lit5, lit6, lit7, lit8, lit9, lit10, lit11, lit12, lit13, lit14, lit15, lit16, lit17, lit18, lit19, lit20, lit21, lit22]
  refine ⟨_, rfl, _, _, rfl, rfl, by simp only [slen_app, S_len, List.length_cons, List.length_nil, lz, lr]; omega, _, _, rfl, rfl, by simp only [slen_app, S_len, List.length_cons, List.length_nil, lz, lr]; omega, ?_⟩
  refine ⟨_, rfl, _, _, rfl, rfl, by simp only [slen_app, S_len, List.length_cons, List.length_nil, lz, lr]; omega, _, _, rfl, rfl, by simp only [slen_app, S_len, List.length_cons, List.length_nil, lz, lr]; omega, ?_⟩
  refine ⟨_, rfl, _, _, rfl, rfl, by simp only [slen_app, S_len, List.length_cons, List.length_nil, lz, lr]; omega, ?_⟩
  refine ⟨_, rfl, _, _, rfl, rfl, by simp only [slen_app, S_len, List.length_cons, List.length_nil, lz, lr]; omega, _, _, rfl, rfl, by simp only [slen_app, S_len, List.length_cons, List.length_nil, lz, lr]; omega, ?_⟩
  refine ⟨_, rfl, _, _, rfl, rfl, by simp only [slen_app, S_len, List.length_cons, List.length_nil, lz, lr]; omega, ?_⟩
  refine ⟨_, rfl, _, _, rfl, rfl, by simp only [slen_app, S_len, List.length_cons, List.length_nil, lz, lr]; omega, _, _, rfl, rfl, by simp only [slen_app, S_len, List.length_cons, List.length_nil, lz, lr]; omega, ?_⟩
  refine ⟨_, rfl, _, _, rfl, rfl, by simp only [slen_app, S_len, List.length_cons, List.length_nil, lz, lr]; omega, _, _, rfl, rfl, by simp only [slen_app, S_len, List.length_cons, List.length_nil, lz, lr]; omega, ?_⟩
  refine ⟨_, _, rfl, rfl, by decide, by decide, by decide +kernel, by decide +kernel, _, _, rfl, rfl, by simp only [slen_app, S_len, List.length_cons, List.length_nil, lz, lr]; omega, _, rfl, _, _, rfl, rfl, by simp only [slen_app, S_len, List.length_cons, List.length_nil, lz, lr]; omega, ?_⟩
  refine ⟨_, rfl, _, _, rfl, rfl, by simp only [slen_app, S_len, List.length_cons, List.length_nil, lz, lr]; omega, ?_⟩
  refine ⟨_, rfl, _, _, rfl, rfl, by simp only [slen_app, S_len, List.length_cons, List.length_nil, lz, lr]; omega, _, _, rfl, rfl, by simp only [slen_app, S_len, List.length_cons, List.length_nil, lz, lr]; omega, ?_⟩
  refine ⟨_, rfl, _, _, rfl, rfl, by simp only [slen_app, S_len, List.length_cons, List.length_nil, lz, lr]; omega, ?_⟩
  refine ⟨_, rfl, rfl, _, _, rfl, rfl, by decide +kernel, _, _, rfl, rfl, by simp only [slen_app, S_len, List.length_cons, List.length_nil, lz, lr]; omega, _, _, rfl, rfl, by simp only [slen_app, S_len, List.length_cons, List.length_nil, lz, lr]; omega, ?_⟩
  refine ⟨_, rfl, rfl, _, _, rfl, rfl, by decide +kernel, _, _, rfl, rfl, by simp only [slen_app, S_len, List.length_cons, List.length_nil, lz, lr]; omega, ?_⟩
  refine ⟨_, rfl, _, _, rfl, rfl, by simp only [slen_app, S_len, List.length_cons, List.length_nil, lz, lr]; omega, ?_⟩
  refine ⟨_, rfl, _, _, rfl, rfl, by simp only [slen_app, S_len, List.length_cons, List.length_nil, lz, lr]; omega, ?_⟩
  refine ⟨_, rfl, _, _, rfl, rfl, by simp only [slen_app, S_len, List.length_cons, List.length_nil, lz, lr]; omega, ?_⟩
  refine ⟨_, rfl, _, _, rfl, rfl, by simp only [slen_app, S_len, List.length_cons, List.length_nil, lz, lr]; omega, _, _, rfl, rfl, by simp only [slen_app, S_len, List.length_cons, List.length_nil, lz, lr]; omega, ?_⟩
  refine ⟨_, rfl, _, _, rfl, rfl, by simp only [slen_app, S_len, List.length_cons, List.length_nil, lz, lr]; omega, _, _, rfl, rfl, by simp only [slen_app, S_len, List.length_cons, List.length_nil, lz, lr]; omega, ?_⟩
  refine ⟨by show 22 ≤ sizeLine; decide, fun t nt => ?_⟩
  rw [zfill_S hk]
  refine ⟨_, rfl, _, rfl, _, rfl, t, _, rfl, .inr (SqT.of upd_same), _, _, _, rfl, by decide, by decide, (by show (0 : Int) < 22; decide), fun z H1 z0 z1 s1 => ?_⟩
  obtain ⟨j, rfl⟩ := Int.eq_ofNat_of_zero_le z0
  have hj : j < 22 := by
    have : (j : Int) < 22 := z1
    omega
  have hz : Fig (List.replicate (9 - kd.length) 48 ++ kd) n := by
    refine ⟨fun e => hk.ne (List.append_eq_nil_iff.mp e).2, fun c hc => ?_, by rw [List.length_append, List.length_replicate]; omega, by rw [val_zero]; exact hk.vl⟩
    rcases List.mem_append.mp hc with hc | hc
    · rw [(List.mem_replicate.mp hc).2]; decide
    · exact hk.dg c hc
  have hz9 : (List.replicate (9 - kd.length) 48 ++ kd).length = 9 := by rw [List.length_append, List.length_replicate]; omega
  have rz : repS (S [48]) 9 = S (List.replicate 9 48) := TL.ext_tl (by decide +kernel)
  generalize List.replicate (9 - kd.length) 48 ++ kd = z9 at hz hz9 s1
  obtain ⟨els, hels, hall⟩ : ∃ els : List V, H1 t = some (.tup els) ∧ ∀ j, j < 22 → ∃ b, els[j]? = some (.str (S b)) ∧ BadB b := ⟨_, s1 _ _ upd_same, fun j hj => match j, hj with
    | 0, _ => ⟨putW, eqS (by rfl) (by simp only [rz, S_cat, putW, cutW, List.cons_append, List.nil_append, List.append_assoc]), bad_putW⟩
    | 1, _ => ⟨putW ++ 32 :: [], eqS (by rfl) (by simp only [rz, S_cat, putW, cutW, List.cons_append, List.nil_append, List.append_assoc]), bad_put pr_nil (by decide) (.inr (.inr (by decide)))⟩
    | 2, _ => ⟨cutW, eqS (by rfl) (by simp only [rz, S_cat, putW, cutW, List.cons_append, List.nil_append, List.append_assoc]), bad_cutW⟩
    | 3, _ => ⟨cutW ++ 32 :: (kd ++ [32, 49]), eqS (by rfl) (by simp only [rz, S_cat, putW, cutW, List.cons_append, List.nil_append, List.append_assoc]), bad_cut (pr_app hk.pr (pr_cons (by decide) (pr_cons (by decide) pr_nil))) (by simp only [List.length_append, List.length_cons, List.length_nil]; omega) (.inl (digs_no (c := 32) (by rw [show kd ++ [32, 49] = (kd ++ [32]) ++ [49] by simp, rsp_tail _ (by decide) (by decide)]; simp) (by decide)))⟩
    | 4, _ => ⟨putW ++ 32 :: (32 :: (kd ++ 32 :: [97])), eqS (by rfl) (by simp only [rz, S_cat, putW, cutW, List.cons_append, List.nil_append, List.append_assoc]), bad_put (pr_cons (by decide) (pr_app hk.pr (pr_cons (by decide) (pr_cons (by decide) pr_nil)))) (by simp only [List.length_append, List.length_cons, List.length_nil]; omega) (.inl rfl)⟩
    | 5, _ => ⟨[99, 117, 116, 116] ++ 32 :: kd, eqS (by rfl) (by simp only [rz, S_cat, putW, cutW, List.cons_append, List.nil_append, List.append_assoc]), bad_word (pr_app (fun c hc => by simp at hc; omega) (pr_cons (by decide) hk.pr)) (by simp only [List.length_append, List.length_cons, List.length_nil]; omega) ⟨(by show some 99 ≠ some 32; decide), (by show some 99 ≠ some 35; decide)⟩ (by decide) (by decide) (by decide)⟩
    | 6, _ => ⟨putW ++ 32 :: (45 :: (kd ++ 32 :: [97])), eqS (by rfl) (by simp only [rz, S_cat, putW, cutW, List.cons_append, List.nil_append, List.append_assoc]), bad_put (pr_cons (by decide) (pr_app hk.pr (pr_cons (by decide) (pr_cons (by decide) pr_nil)))) (by simp only [List.length_append, List.length_cons, List.length_nil]; omega) (.inl (digs_no (c := 45) (by rw [← List.cons_append, (wrd_app [97] (p := 45 :: kd) (no_cons (by decide) hk.no32)).1]; simp) (by decide)))⟩
    | 7, _ => ⟨putW ++ 32 :: kd, eqS (by rfl) (by simp only [rz, S_cat, putW, cutW, List.cons_append, List.nil_append, List.append_assoc]), bad_put hk.pr (by omega) (.inr (.inr hk.no32))⟩
    | 8, _ => ⟨[80, 117, 116] ++ 32 :: (kd ++ 32 :: [97]), eqS (by rfl) (by simp only [rz, S_cat, putW, cutW, List.cons_append, List.nil_append, List.append_assoc]), bad_word (pr_app (fun c hc => by simp at hc; omega) (pr_cons (by decide) (pr_app hk.pr (pr_cons (by decide) (pr_cons (by decide) pr_nil))))) (by simp only [List.length_append, List.length_cons, List.length_nil]; omega) ⟨(by show some 80 ≠ some 32; decide), (by show some 80 ≠ some 35; decide)⟩ (by decide) (by decide) (by decide)⟩
    | 9, _ => ⟨putW ++ 32 :: (kd ++ 120 :: 32 :: [98]), eqS (by rfl) (by simp only [rz, S_cat, putW, cutW, List.cons_append, List.nil_append, List.append_assoc]), bad_put (pr_app hk.pr (pr_cons (by decide) (pr_cons (by decide) (pr_cons (by decide) pr_nil)))) (by simp only [List.length_append, List.length_cons, List.length_nil]; omega) (.inl (digs_no (c := 120) (by rw [show kd ++ 120 :: 32 :: [98] = (kd ++ [120]) ++ 32 :: [98] by simp, (wrd_app [98] (p := kd ++ [120]) (no_app hk.no32 (by decide))).1]; simp) (by decide)))⟩
    | 10, _ => ⟨cutW ++ 32 :: (List.replicate 9 48 ++ kd), eqS (by rfl) (by simp only [rz, S_cat, putW, cutW, List.cons_append, List.nil_append, List.append_assoc]), bad_cut (pr_app (pr_rep 9 (by decide)) hk.pr) (by simp only [List.length_append, List.length_replicate]; omega) (.inr (by rw [rsp_tail _ hk.ne hk.no32, List.length_append, List.length_replicate]; have := List.length_pos_iff.mpr hk.ne; omega))⟩
    | 11, _ => ⟨[112, 117] ++ 32 :: [116], eqS (by rfl) (by simp only [rz, S_cat, putW, cutW, List.cons_append, List.nil_append, List.append_assoc]), bad_word (pr_app (fun c hc => by simp at hc; omega) (pr_cons (by decide) (pr_cons (by decide) pr_nil))) (by decide) ⟨by decide, by decide⟩ (by decide) (by decide) (by decide)⟩
    | 12, _ => ⟨cutW ++ 32 :: (32 :: kd), eqS (by rfl) (by simp only [rz, S_cat, putW, cutW, List.cons_append, List.nil_append, List.append_assoc]), bad_cut (pr_cons (by decide) hk.pr) (by simp only [List.length_cons]; omega) (.inl (digs_no (c := 32) (by rw [show 32 :: kd = [32] ++ kd from rfl, rsp_tail _ hk.ne hk.no32]; simp) (by decide)))⟩
    | 13, _ => ⟨putW ++ 32 :: (43 :: (kd ++ 32 :: [97])), eqS (by rfl) (by simp only [rz, S_cat, putW, cutW, List.cons_append, List.nil_append, List.append_assoc]), bad_put (pr_cons (by decide) (pr_app hk.pr (pr_cons (by decide) (pr_cons (by decide) pr_nil)))) (by simp only [List.length_append, List.length_cons, List.length_nil]; omega) (.inl (digs_no (c := 43) (by rw [← List.cons_append, (wrd_app [97] (p := 43 :: kd) (no_cons (by decide) hk.no32)).1]; simp) (by decide)))⟩
    | 14, _ => ⟨cutW ++ 32 :: (49 :: 95 :: kd), eqS (by rfl) (by simp only [rz, S_cat, putW, cutW, List.cons_append, List.nil_append, List.append_assoc]), bad_cut (pr_cons (by decide) (pr_cons (by decide) hk.pr)) (by simp only [List.length_cons]; omega) (.inl (digs_no (c := 95) (by rw [show 49 :: 95 :: kd = [49, 95] ++ kd from rfl, rsp_tail _ hk.ne hk.no32]; simp) (by decide)))⟩
    | 15, _ => ⟨putW ++ 32 :: (49 :: (z9 ++ 32 :: [97])), eqS (by rfl) (by simp only [rz, S_cat, putW, cutW, List.cons_append, List.nil_append, List.append_assoc]), bad_put (pr_cons (by decide) (pr_app hz.pr (pr_cons (by decide) (pr_cons (by decide) pr_nil)))) (by simp only [List.length_append, List.length_cons, List.length_nil]; omega) (.inr (.inl (by rw [← List.cons_append, (wrd_app [97] (p := 49 :: z9) (no_cons (by decide) hz.no32)).1, List.length_cons]; omega)))⟩
    | 16, _ => ⟨cutW ++ 32 :: (49 :: z9), eqS (by rfl) (by simp only [rz, S_cat, putW, cutW, List.cons_append, List.nil_append, List.append_assoc]), bad_cut (pr_cons (by decide) hz.pr) (by simp only [List.length_cons]; omega) (.inr (by rw [show 49 :: z9 = [49] ++ z9 from rfl, rsp_tail _ hz.ne hz.no32, List.length_append]; show 9 < 1 + _; omega))⟩
    | 17, _ => ⟨[67, 117, 116] ++ 32 :: kd, eqS (by rfl) (by simp only [rz, S_cat, putW, cutW, List.cons_append, List.nil_append, List.append_assoc]), bad_word (pr_app (fun c hc => by simp at hc; omega) (pr_cons (by decide) hk.pr)) (by simp only [List.length_append, List.length_cons, List.length_nil]; omega) ⟨(by show some 67 ≠ some 32; decide), (by show some 67 ≠ some 35; decide)⟩ (by decide) (by decide) (by decide)⟩
    | 18, _ => ⟨[99, 117] ++ 32 :: kd, eqS (by rfl) (by simp only [rz, S_cat, putW, cutW, List.cons_append, List.nil_append, List.append_assoc]), bad_word (pr_app (fun c hc => by simp at hc; omega) (pr_cons (by decide) hk.pr)) (by simp only [List.length_append, List.length_cons, List.length_nil]; omega) ⟨(by show some 99 ≠ some 32; decide), (by show some 99 ≠ some 35; decide)⟩ (by decide) (by decide) (by decide)⟩
    | 19, _ => ⟨[97, 100, 100] ++ 32 :: kd, eqS (by rfl) (by simp only [rz, S_cat, putW, cutW, List.cons_append, List.nil_append, List.append_assoc]), bad_word (pr_app (fun c hc => by simp at hc; omega) (pr_cons (by decide) hk.pr)) (by simp only [List.length_append, List.length_cons, List.length_nil]; omega) ⟨(by show some 97 ≠ some 32; decide), (by show some 97 ≠ some 35; decide)⟩ (by decide) (by decide) (by decide)⟩
    | 20, _ => ⟨[122, 112, 117, 116] ++ 32 :: (kd ++ 32 :: [97]), eqS (by rfl) (by simp only [rz, S_cat, putW, cutW, List.cons_append, List.nil_append, List.append_assoc]), bad_word (pr_app (fun c hc => by simp at hc; omega) (pr_cons (by decide) (pr_app hk.pr (pr_cons (by decide) (pr_cons (by decide) pr_nil))))) (by simp only [List.length_append, List.length_cons, List.length_nil]; omega) ⟨(by show some 122 ≠ some 32; decide), (by show some 122 ≠ some 35; decide)⟩ (by decide) (by decide) (by decide)⟩
    | 21, _ => ⟨cutW ++ 32 :: (kd ++ [122]), eqS (by rfl) (by simp only [rz, S_cat, putW, cutW, List.cons_append, List.nil_append, List.append_assoc]), bad_cut (pr_app hk.pr (pr_cons (by decide) pr_nil)) (by simp only [List.length_append, List.length_cons, List.length_nil]; omega) (.inl (digs_no (c := 122) (by rw [rsp_tail _ (by decide) (by decide)]; simp) (by decide)))⟩
    | n + 22, h => absurd h (by omega)⟩
  obtain ⟨b, hb1, hb2⟩ := hall j hj
  refine ⟨t, els, (j : Int), .str (S b), rfl, rfl, SqT.of hels, atI_nat hb1, q b H1 hb2 ((same_upd nt).trans s1)⟩
end

section
variable {P : Program} {w : World} {K : PySem.W.Frag} {mg : Str → Option Value} {base : Heap}
def ActOk : Act → Prop
  | .put _ t => PrL t ∧ t.length ≤ 6
  | .cut _ => True
def DueV (H : Hp) (dv : V) : Due → Prop
  | .non => dv = .non
  | .bad => dv = .str "bad"
  | .act a => ∃ p, dv = .ref p ∧ H p = some (.tup (actV a)) ∧ ActOk a
theorem rep48 : ∀ n : Nat, n < 4 → repS (S [48]) (n : Int) = S (List.replicate n 48)
  | 0, _ => TL.ext_tl (by decide +kernel)
  | 1, _ => TL.ext_tl (by decide +kernel)
  | 2, _ => TL.ext_tl (by decide +kernel)
  | 3, _ => TL.ext_tl (by decide +kernel)
  | n + 4, h => absurd h (by omega)
theorem rep32 : ∀ n : Nat, n < 4 → repS (S [32]) (n : Int) = S (List.replicate n 32)
  | 0, _ => TL.ext_tl (by decide +kernel)
  | 1, _ => TL.ext_tl (by decide +kernel)
  | 2, _ => TL.ext_tl (by decide +kernel)
  | 3, _ => TL.ext_tl (by decide +kernel)
  | n + 4, h => absurd h (by omega)
def spLawRow : Sp := fun vs H Q _ => ∃ (c : Int) (d : Nat), vs = [.int c, .int (d : Int)] ∧ 1 ≤ d ∧ d ≤ 16 ∧
  ∀ (l : List Nat) (due : Due) (q : Addr) (dv : V) (H' : Hp), PrL l → l.length ≤ 60 → readL l d = dueR due → Same H H' → H q = none → H' q = some (.tup [.str (S l), dv]) → DueV H' dv due → Q (.ref q) H'
theorem ok_lawrow {cc : Addr} (T : Txt K mg cc) : Cal P w K mg base 3 "_law_row" spLawRow [] := by
  have Z := T.Z
  have C__law_draw := ok_draw (P := P) (w := w) (base := base) T
  have C__law_text := ok_text (P := P) (w := w) (base := base) T
  have C__law_bad := ok_bad (P := P) (w := w) (base := base) T
  refine cal_of T.d__law_row sc__law_row (fun vs H Q E h => ?_) (fun f cdv A' outer s H vs Q E hr h => ?_)
  · obtain ⟨c, d, rfl, _⟩ := h
    rfl
  obtain ⟨c, d, rfl, d1, d16, q⟩ := h
  have e16 : sizeLine = 16777216 := sizeLine_eq
  refine ⟨_, (Evl.pss_cut (ps_set (i := 2) sc__law_row.nd rfl (Or.inl rfl) (pe_ifExp (pt_cmpR op_gt (pe_c C__law_draw hr (by omega) rfl (pa_cons (pv 0) (pa_cons pe_int (pa_cons pe_int pa_nil)))) pe_int (nomark _)) (pe_c C__law_draw hr (by omega) rfl (pa_cons (pv 0) (pa_cons pe_int (pa_cons (pe_op op_oneShl pe_int (pv 1)) pa_nil)))) (pe_op op_add (pe_op op_oneShl pe_int (pv 1)) (pe_c C__law_draw hr (by omega) rfl (pa_cons (pv 0) (pa_cons pe_int (pa_cons pe_int pa_nil)))))))
  (pss_cons (ps_set (i := 3) sc__law_row.nd rfl (Or.inl rfl) (pe_op op_add_str (pe_op op_mulS pe_str (pe_c C__law_draw hr (by omega) rfl (pa_cons (pv 0) (pa_cons pe_int (pa_cons pe_int pa_nil))))) (pe_callTy call_str_int rfl Z.str (by decide +kernel) (pa_cons (pv 2) pa_nil))))
  (Evl.pss_cut (ps_if (pt_cmpR op_eq (pe_c C__law_draw hr (by omega) rfl (pa_cons (pv 0) (pa_cons pe_int (pa_cons pe_int pa_nil)))) pe_int (nomark _)) (pss_one (ps_set (i := 3) sc__law_row.nd rfl (Or.inl rfl) (pe_bm PySem.F.plainAttrs_str PySem.F.slot_str_zfill PySem.F.type_str_zfill mt_zfill (pe_callTy call_str_int rfl Z.str (by decide +kernel) (pa_cons (pv 2) pa_nil)) (pa_cons pe_int pa_nil)))) pss_nil)
  (pss_cons (ps_set (i := 4) sc__law_row.nd rfl (Or.inl rfl) (pe_op op_mulS pe_str (pe_op op_fdiv (pe_c C__law_draw hr (by omega) rfl (pa_cons (pv 0) (pa_cons pe_int (pa_cons pe_int pa_nil)))) pe_int)))
  (pss_cons (ps_set (i := 5) sc__law_row.nd rfl (Or.inl rfl) (pe_c C__law_draw hr (by omega) rfl (pa_cons (pv 0) (pa_cons pe_int (pa_cons pe_int pa_nil)))))
  (pss_cons (ps_if (pt_cmpR op_eq (pv 5) pe_int (nomark _)) (pss_one (ps_ret (pe_tup (pa_cons (pv 4) (pa_cons pe_non pa_nil))))) pss_nil)
  (pss_cons (ps_if (pt_cmpR op_eq (pv 5) pe_int (nomark _)) (pss_one (ps_ret (pe_tup (pa_cons (pe_op op_add_str (pe_op op_add_str (pv 4) pe_str) (pe_c C__law_text hr (by omega) rfl (pa_cons (pv 0) pa_nil))) (pa_cons pe_non pa_nil))))) pss_nil)
  (pss_cons (ps_if (pt_cmpR op_eq (pv 5) pe_int (nomark _)) (pss_one (ps_ret (pe_tup (pa_cons (pe_op op_add_str (pv 4) (pe_c C__law_bad hr (by omega) rfl (pa_cons (pv 0) (pa_cons (pv 3) pa_nil)))) (pa_cons pe_str pa_nil))))) pss_nil)
  (Evl.pss_cut (ps_if (pt_cmpR op_lt (pv 5) pe_int (nomark _)) (pss_cons (ps_set (i := 6) sc__law_row.nd rfl (Or.inl rfl) (pe_tup (pa_cons pe_str (pa_cons (pv 2) (pa_cons (pe_c C__law_text hr (by omega) rfl (pa_cons (pv 0) pa_nil)) pa_nil)))))
  (pss_one (ps_set (i := 7) sc__law_row.nd rfl (Or.inl rfl) (pe_op op_add_str (pe_op op_add_str (pe_op op_add_str (pe_op op_add_str (pv 4) pe_str) (pv 3)) pe_str) (pe_ix ix_tup (pv 6) pe_int (fun _ _ => rfl)))))) (pss_cons (ps_set (i := 6) sc__law_row.nd rfl (Or.inl rfl) (pe_tup (pa_cons pe_str (pa_cons (pv 2) pa_nil))))
  (pss_one (ps_set (i := 7) sc__law_row.nd rfl (Or.inl rfl) (pe_op op_add_str (pe_op op_add_str (pe_op op_add_str (pv 4) pe_str) (pv 3)) (pe_op op_mulS pe_str (pe_c C__law_draw hr (by omega) rfl (pa_cons (pv 0) (pa_cons pe_int (pa_cons pe_int pa_nil))))))))))
  (pss_one (ps_ret (pe_tup (pa_cons (pv 7) (pa_cons (pe_ifExp (pt_cmpR op_lt (pv 2) (pe_op op_oneShl pe_int (pv 1)) (nomark _)) (pv 6) pe_str) pa_nil)))))))))))))), ?_⟩
  have lit0 : Str.ofString " " = S [32] := TL.ext_tl (by decide +kernel)
  have lit1 : Str.ofString "0" = S [48] := TL.ext_tl (by decide +kernel)
  have lit2 : Str.ofString "bad" = S [98, 97, 100] := TL.ext_tl (by decide +kernel)
  have lit3 : Str.ofString "put" = S [112, 117, 116] := TL.ext_tl (by decide +kernel)
  have lit4 : Str.ofString "cut" = S [99, 117, 116] := TL.ext_tl (by decide +kernel)
  have lit5 : Str.ofString "#" = S [35] := TL.ext_tl (by decide +kernel)
  have lit6 : Str.ofString "cut " = S [99, 117, 116, 32] := TL.ext_tl (by decide +kernel)
  have lit7 : Str.ofString "put " = S [112, 117, 116, 32] := TL.ext_tl (by decide +kernel)
  rw [lit0, lit1, lit2, lit3, lit4, lit5, lit6, lit7]
  have h2d : (0 : Int) < 2 ^ d := Int.pow_pos (by decide)
  have h2m : (2 : Nat) ^ d ≤ 65536 := Nat.pow_le_pow_right (by decide) d16
  have h2c : ((2 ^ d : Nat) : Int) = 2 ^ d := by rw [Int.natCast_pow]; rfl
  refine ⟨fun σ H' => ∃ n : Nat, n < 100000 ∧ σ = [some (.int c), some (.int (d : Int)), some (.int (n : Int)), none, none, none, none, none] ∧ Same H H', ?_, ?_⟩
  · refine ⟨_, rfl, _, _, _, rfl, by decide, by decide, by decide, fun z1 H1 _ _ s1 => ⟨_, _, rfl, rfl, _, rfl, ite2 (fun _ => ?_) (fun _ => ?_)⟩⟩
    · refine ⟨_, rfl, _, rfl, d, rfl, rfl, by omega, _, _, _, rfl, by decide, by decide, h2d, fun z2 H2 z20 z21 s2 => ?_⟩
      obtain ⟨n, rfl⟩ := Int.eq_ofNat_of_zero_le z20
      exact ⟨n, by omega, rfl, s1.trans s2⟩
    · refine ⟨_, rfl, d, rfl, rfl, by omega, _, rfl, _, _, _, rfl, by decide, by decide, by decide, fun z2 H2 z20 z21 s2 => ⟨_, _, rfl, rfl, ?_⟩⟩
      obtain ⟨n, rfl⟩ := Int.eq_ofNat_of_zero_le z20
      refine ⟨2 ^ d + n, by omega, ?_, s1.trans s2⟩
      rw [show ((2 ^ d + n : Nat) : Int) = 2 ^ d + (n : Int) by omega]
      rfl
  rintro σ H1 ⟨n, hn, rfl, s1⟩
  have hnl : (TL.numL n).length ≤ 5 := TL.numL_len (by decide) (by omega)
  refine ⟨_, rfl, _, _, _, rfl, by decide, by decide, by decide, fun z3 H2 z30 z31 s2 => ?_⟩
  obtain ⟨j3, rfl⟩ := Int.eq_ofNat_of_zero_le z30
  have hj3 : j3 < 4 := by omega
  have hr3 := rep48 j3 hj3
  refine ⟨_, _, rfl, rfl, z30, by omega, by rw [S_len]; decide, by rw [hr3, S_len, List.length_replicate]; omega, ?_⟩
  rw [hr3]
  refine ⟨_, rfl, _, rfl, log_small (Int.natCast_nonneg _) (by omega), ?_⟩
  rw [SX.num_S]
  refine ⟨_, _, rfl, rfl, by rw [S_len, S_len, List.length_replicate]; omega, ?_⟩
  rw [S_cat]
  have f1 := fig_num (n := n) (z := j3) hn (by omega)
  generalize List.replicate j3 48 ++ TL.numL n = kd1 at f1 ⊢
  refine ⟨fun σ H' => ∃ kd : List Nat, Fig kd n ∧ σ = [some (.int c), some (.int (d : Int)), some (.int (n : Int)), some (.str (S kd)), none, none, none, none] ∧ Same H H', ?_, ?_⟩
  · refine ⟨_, rfl, _, _, _, rfl, by decide, by decide, by decide, fun z8 H3 _ _ s3 => ⟨rfl, _, rfl, ite2 (fun _ => ?_) (fun _ => ⟨kd1, f1, rfl, (s1.trans s2).trans s3⟩)⟩⟩
    refine ⟨_, rfl, _, rfl, log_small (Int.natCast_nonneg _) (by omega), ?_⟩
    rw [SX.num_S]
    refine ⟨rfl, _, _, rfl, rfl, by decide +kernel, ?_⟩
    have f0 : Fig (TL.numL n) n := fig_num (n := n) (z := 0) hn (by omega)
    rw [zfill_S f0]
    exact ⟨_, fig_num hn (by omega), rfl, (s1.trans s2).trans s3⟩
  rintro σ H3 ⟨kd, fk, rfl, s3⟩
  have hkl := fk.l9
  have ePut : Str.ofString "put" = S [112, 117, 116] := TL.ext_tl (by decide +kernel)
  have eCut : Str.ofString "cut" = S [99, 117, 116] := TL.ext_tl (by decide +kernel)
  have eBad : Str.ofString "bad" = S [98, 97, 100] := TL.ext_tl (by decide +kernel)
  refine ⟨_, rfl, _, _, _, rfl, by decide, by decide, by decide, fun z4 H4 z40 z41 s4 => ⟨_, _, rfl, rfl, ⟨by decide, by decide⟩, ?_⟩⟩
  obtain ⟨m, hm, hm4⟩ : ∃ m : Nat, z4 / 2 = (m : Int) ∧ m < 4 := by
    obtain ⟨j, rfl⟩ := Int.eq_ofNat_of_zero_le z40
    exact ⟨j / 2, by omega, by omega⟩
  have hr4 := rep32 m hm4
  refine ⟨_, _, rfl, congrArg V.int hm, Int.natCast_nonneg _, by omega, by rw [S_len]; decide, by rw [hr4, S_len, List.length_replicate]; omega, ?_⟩
  rw [hr4]
  have pm := pr_rep (c := 32) m (by decide)
  refine ⟨_, rfl, _, _, _, rfl, by decide, by decide, by decide, fun z7 H5 z70 z71 s5 => ?_⟩
  have s5' := (s3.trans s4).trans s5
  refine ⟨_, rfl, rfl, _, rfl, ite2 (fun _ => ?_) (fun _ => ?_)⟩
  · refine ⟨_, rfl, by show 2 ≤ sizeLine; decide, fun t nt => ?_⟩
    exact q (List.replicate m 32) .non t .non _ pm (by rw [List.length_replicate]; omega) (row_none m d) (s5'.trans (same_upd nt)) (s5'.free nt) upd_same rfl
  refine ⟨_, rfl, rfl, _, rfl, ite2 (fun _ => ?_) (fun _ => ?_)⟩
  · refine ⟨_, rfl, _, _, rfl, rfl, by simp only [S_len, S_cat, List.length_append, List.length_replicate, List.length_cons, List.length_nil]; omega, _, rfl, c, rfl, fun t6 H6 p6 l6 s6 => ⟨_, _, rfl, rfl, by simp only [S_len, S_cat, List.length_append, List.length_replicate, List.length_cons, List.length_nil]; omega, by show 2 ≤ sizeLine; decide, fun t nt => ?_⟩⟩
    rw [S_cat, S_cat, List.append_assoc]
    exact q (List.replicate m 32 ++ 35 :: t6) .non t .non _ (pr_app pm (pr_cons (by decide) p6)) (by rw [List.length_append, List.length_replicate, List.length_cons]; omega) (row_hash m d t6) ((s5'.trans s6).trans (same_upd nt)) ((s5'.trans s6).free nt) upd_same rfl
  refine ⟨_, rfl, rfl, _, rfl, ite2 (fun _ => ?_) (fun _ => ?_)⟩
  · refine ⟨_, rfl, _, rfl, _, rfl, c, kd, n, rfl, fk, fun b H6 hb s6 => ?_⟩
    have hbl := hb.ln
    refine ⟨_, _, rfl, rfl, by simp only [S_len, S_cat, List.length_append, List.length_replicate, List.length_cons, List.length_nil]; omega, by show 2 ≤ sizeLine; decide, fun t nt => ?_⟩
    rw [S_cat]
    exact q (List.replicate m 32 ++ b) .bad t _ _ (pr_app pm hb.pr) (by rw [List.length_append, List.length_replicate]; omega) (bad_row hb m d) ((s5'.trans s6).trans (same_upd nt)) ((s5'.trans s6).free nt) upd_same (by show V.str (S [98, 97, 100]) = .str (Str.ofString "bad"); rw [eBad])
  refine ⟨fun σ H' => ∃ (l : List Nat) (a : Act) (p : Addr) (kz : Int), σ = [some (.int c), some (.int (d : Int)), some (.int (n : Int)), some (.str (S kd)), some (.str (S (List.replicate m 32))), some (.int kz), some (.ref p), some (.str (S l))] ∧ Same H H' ∧ H' p = some (.tup (actV a)) ∧ ActOk a ∧ PrL l ∧ l.length ≤ 60 ∧ readL l d = dueR (if n < 2 ^ d then .act a else .bad), ?_, ?_⟩
  · refine ⟨_, rfl, _, _, rfl, rfl, _, rfl, ite2 (fun _ => ?_) (fun _ => ?_)⟩
    · refine ⟨_, rfl, _, rfl, c, rfl, fun t6 H6 p6 l6 s6 => ⟨by show 3 ≤ sizeLine; decide, fun p np => ?_⟩⟩
      refine ⟨_, rfl, _, _, rfl, rfl, by simp only [S_len, S_cat, List.length_append, List.length_replicate, List.length_cons, List.length_nil]; omega, _, rfl, _, _, rfl, rfl, by simp only [S_len, S_cat, List.length_append, List.length_replicate, List.length_cons, List.length_nil]; omega, _, _, rfl, rfl, by simp only [S_len, S_cat, List.length_append, List.length_replicate, List.length_cons, List.length_nil]; omega, _, rfl, p, _, 2, _, rfl, rfl, SqT.of upd_same, rfl, _, _, rfl, rfl, by simp only [S_len, S_cat, List.length_append, List.length_replicate, List.length_cons, List.length_nil]; omega, ?_⟩
      simp only [S_cat]
      refine ⟨List.replicate m 32 ++ (putW ++ 32 :: (kd ++ 32 :: t6)), .put n t6, p, z7, ?_, (s5'.trans s6).trans (same_upd np), by rw [upd_same, ← ePut]; rfl, ⟨p6, l6⟩, pr_app pm (pr_app (fun c hc => by simp [putW] at hc; omega) (pr_cons (by decide) (pr_app fk.pr (pr_cons (by decide) p6)))), by simp [putW]; omega, row_put fk⟩
      simp [putW]
    · refine ⟨_, rfl, by show 2 ≤ sizeLine; decide, fun p np => ?_⟩
      refine ⟨_, rfl, _, _, rfl, rfl, by simp only [S_len, S_cat, List.length_append, List.length_replicate, List.length_cons, List.length_nil]; omega, _, rfl, _, _, rfl, rfl, by simp only [S_len, S_cat, List.length_append, List.length_replicate, List.length_cons, List.length_nil]; omega, _, rfl, _, _, _, rfl, by decide, by decide, by decide, fun z9 H6 z90 z91 s6 => ?_⟩
      obtain ⟨j, rfl⟩ := Int.eq_ofNat_of_zero_le z90
      have hr9 := rep32 j (by omega)
      refine ⟨_, _, rfl, rfl, Int.natCast_nonneg _, by omega, by rw [S_len]; decide, by rw [hr9, S_len, List.length_replicate]; omega, ?_⟩
      rw [hr9]
      refine ⟨_, _, rfl, rfl, by simp only [S_len, S_cat, List.length_append, List.length_replicate, List.length_cons, List.length_nil]; omega, ?_⟩
      simp only [S_cat]
      refine ⟨List.replicate m 32 ++ (cutW ++ 32 :: (kd ++ List.replicate j 32)), .cut n, p, z7, ?_, (s5'.trans (same_upd np)).trans s6, s6 _ _ (by rw [upd_same, ← eCut]; rfl), True.intro, pr_app pm (pr_app (fun c hc => by simp [cutW] at hc; omega) (pr_cons (by decide) (pr_app fk.pr (pr_rep j (by decide))))), by simp [cutW]; omega, row_cut fk⟩
      simp [cutW]
  rintro σ H6 ⟨l, a, p, kz, rfl, s6, hp, ha, hpl, hll, hrd⟩
  refine ⟨_, rfl, _, rfl, _, rfl, d, rfl, rfl, by omega, _, _, rfl, rfl, _, rfl, ?_⟩
  by_cases hn2 : n < 2 ^ d
  · rw [decide_eq_true (show (n : Int) < 2 ^ d by omega)]
    rw [if_pos hn2] at hrd
    refine iteT ⟨_, rfl, by show 2 ≤ sizeLine; decide, fun t nt => ?_⟩
    exact q l (.act a) t (.ref p) _ hpl hll hrd (s6.trans (same_upd nt)) (s6.free nt) upd_same ⟨p, rfl, by rw [upd_ne (ne_of_none hp nt)]; exact hp, ha⟩
  · rw [decide_eq_false (show ¬ (n : Int) < 2 ^ d by omega)]
    rw [if_neg hn2] at hrd
    refine iteF ⟨by show 2 ≤ sizeLine; decide, fun t nt => ?_⟩
    exact q l .bad t _ _ hpl hll hrd (s6.trans (same_upd nt)) (s6.free nt) upd_same (by show V.str (S [98, 97, 100]) = .str (Str.ofString "bad"); rw [eBad])
end

/-! ### for the law: equal things are seen equal; the head -/
section
variable {K : PySem.W.Frag} {H : Hp} {S : Sys}
theorem shaped_of {d : PyData} (h : d.canLay0 = true) (hd : d.depth ≤ 64) : SeqAt.shaped d = true := by
  unfold SeqAt.shaped
  rw [h, decide_eq_true hd]
  rfl
theorem eqv_self {d : PyData} (h : d.canLay0 = true) : PyData.eqv d d = true := SeqAt.eqv_refl d h
theorem eq_rows (G : S.Good K) {p p' : Addr} {xs ys : List V} {ts : List Tm} (hp : SqL K H p xs) (hp' : SqL K H p' ys) (h : DenL S H xs ts) (h' : DenL S H ys ts) (hd : ∀ t ∈ ts, t.dep ≤ 60) :
    ∃ d, Dp K H (.ref p) d ∧ Dp K H (.ref p') d ∧ SeqAt.shaped d = true ∧ PyData.eqv d d = true := by
  obtain ⟨ds, a, b, c, e⟩ := DenL.same G h h' hd
  have c' : (PyData.list ds).canLay0 = true := c
  exact ⟨.list ds, .lst hp a, .lst hp' b, shaped_of c' (by show PyData.depthAll ds + 1 ≤ 64; omega), eqv_self c'⟩
theorem eq_tm (G : S.Good K) {v v' : V} {t : Tm} (h : S.den H v t) (h' : S.den H v' t) (hd : t.dep ≤ 60) :
    ∃ d, Dp K H v d ∧ Dp K H v' d ∧ SeqAt.shaped d = true ∧ PyData.eqv d d = true := by
  obtain ⟨d, a, b, c, e⟩ := G.same h h'
  exact ⟨d, a, b, shaped_of c (by omega), eqv_self c⟩
theorem ext_seq {K : PySem.W.Frag} {H H' : Hp} {a : Addr} {xs : List V} (e : LamX.ExtN H H') (h : SqL K H a xs) : SqL K H' a xs := by
  rcases h with (h | ⟨o, h⟩) | h
  · exact .inl (.inl (e _ _ h fun _ z => nomatch z))
  · exact .inl (.inr ⟨o, e _ _ h fun _ z => nomatch z⟩)
  · exact .inr h
end
/-- a row's places -/
theorem map_int_mem {l : List Int} {x : V} (h : x ∈ l.map V.int) : ∃ z ∈ l, x = .int z := by
  obtain ⟨z, hz, e⟩ := List.mem_map.mp h
  exact ⟨z, hz, e.symm⟩
/-- the law's promise; a table of code objects at PT -/
def spLaw (K : PySem.W.Frag) (PT : Addr) : Sp := fun vs H Q _ => ∃ (a : Addr) (ns : List Int), vs = [.ref a] ∧ SqL K H a (ns.map V.int) ∧ ns.length ≤ 63 ∧ H PT = some (.tbl #[]) ∧ ∀ H', Q (.bl true) H'
theorem law_end {l : PySem.W.OpenLaw} {w : World} {K : PySem.W.Frag} {h : Heap} {mg : Str → Option Value} {fa c PT : Addr} {k : Nat} (X : K.In h) (hP : ∀ Q ∈ [PT], h.get? Q = some (PySem.W.tabObj #[])) (nP : K.lookup PT = none) (hc : PySem.W.codeHdIn K c PT = true)
    (F : ∃ fd : FuncData, (∀ (s : Shared) (v : Value), BindsTo s fd ⟨[v], []⟩ [("_law_script", v)]) ∧ ∀ base : Heap, K.In base → base.Ns mainGlobals mg → LamX.TabB base mg c PT → FnOk l.prog w K mg base L2.CX0 k fa fd ["_law_script"] (spLaw K PT)) :
    LamX.LawAtS l w K L2.CX0 k 63 "_law_script" mg fa h := by
  obtain ⟨fd, hb, hF⟩ := F
  refine ⟨fd, [(c, PT)], spLaw K PT, fun p hp => ?_, fun p hp => ?_, fun p hp => ?_, hb, fun H a ns hl _ hT hS => ⟨a, ns, rfl, hS, hl, hT _ (List.mem_singleton.mpr rfl), fun _ => rfl⟩, fun base KB NB TB => hF base KB NB (TB _ (List.mem_singleton.mpr rfl))⟩
  · rw [List.mem_singleton.mp hp]
    exact hP PT (List.mem_singleton.mpr rfl)
  · rw [List.mem_singleton.mp hp]
    exact nP
  · rw [List.mem_singleton.mp hp]
    exact PySem.W.codeHd_of_K X hc
theorem law_fnT {P : Program} {w : World} {K : PySem.W.Frag} {mg : Str → Option Value} {x p : Str} {st : Stmt} {N : List Str} {k : Nat} {sp : Sp} {fa c PT : Addr} (D : DefX K mg x st [p]) (hfa : mg x = some (.ref fa)) (S : FnScope N [p] (defScope st)) (len : ∀ vs H Q E, sp vs H Q E → vs.length = 1)
    (hbody : ∀ (base : Heap), LamX.TabB base mg c PT → ∀ (f : Addr) (cdv : Value) (A : Around) (outer : List Env) (s : Shared) (H : Hp) (vs : List V) (Q : VK) (E : XK), Room k (A.deeper (envOfC x (defScope st) s.heap.objs.size f cdv)) → sp vs H Q E →
      ∃ t, PSs (cxOf L2.CX0 P w K mg base N x (defScope st) f cdv A outer s H E).nox (defBody st) t ∧ t { nx := fun _ H' => Q .non H', rt := Q } (start N vs) H) :
    ∃ fd : FuncData, (∀ (s : Shared) (v : Value), BindsTo s fd ⟨[v], []⟩ [(p, v)]) ∧ ∀ base : Heap, K.In base → base.Ns mainGlobals mg → LamX.TabB base mg c PT → FnOk P w K mg base L2.CX0 (k + 1) fa fd [p] sp := by
  obtain ⟨f, fd, F, m, b⟩ := D.ex
  have e := hfa.symm.trans m
  cases e
  exact ⟨fd, fun s v => .of_eq (b [v] rfl), fun base _ _ TB => F.ok S len (hbody base TB fa)⟩

/-! ### try .. except X as n: (a suite that raises nothing) .. else -/
abbrev rJoin (K : PySem.W.Frag) : V → List V → Hp → VK → Prop := fun x xs H Q => ∃ a p, ∃ ys : List Str, x = .str a ∧ xs = [.ref p] ∧ (SqL K H p (ys.map V.str) ∨ SqT K H p (ys.map V.str)) ∧ (ys.map (·.length)).sum + ys.length * a.length ≤ 16777216 ∧ Q (.str (Txt.join a ys)) H
section
variable {X : Cx} {x n : Str} {c : Value} {i : Nat} {body more orelse : List Stmt} {st0 : Stmt} {np q0 q1 : Pos} {tb : WX → TS} {ts : Addr → Value → Option Addr → TS} {Wo : WX} {u : TS}
theorem ps_try_asE (ho : PSs X orelse u) (hs : X.stack = X.env :: X.outer) (hf : X.env.frame = some X.env.locals) (hN : X.N.Nodup) (hi : X.N[i]? = some n) (hln : X.env.kindOf n = some .local) (hc : Names X x c) (tk : Takes X Wo)
    (hb : ∀ (W : WX) (pn : List (Addr × Obj)) (xe : Value → Shared → Prop), Takes (X.tr pn xe) W → PassesOwn (model X.prog X.w) X.A X.env xe → PSs (X.tr pn xe) body (tb W))
    (hsu : ∀ (a : Addr) (oe : Obj) (cls : Value) (d : Option Addr) (pn : List (Addr × Obj)), Zc cls d oe → (∃ vs, oe.data = .fields vs) → PSs (X.suite a ((a, oe) :: pn)) (st0 :: more) (ts a cls d)) :
    PS X (.Try body [.ExceptHandler (some (.Name x np)) (some n) (st0 :: more) q1] orelse [] q0) (fun D σ H => tb (wAs X.K c i ts Wo D) { D with nx := u D } σ H) := by
  refine ⟨fun pins s0 σ H D I0 h0 => wpAny_Try_except ?_⟩
  have ok := I0.ok
  have frE : X.A.frames = some (X.env :: X.outer) := ok.frames.trans (congrArg some hs)
  let look : Value → Shared → Prop := fun e s₁ => wpAny (model X.prog X.w) X.A (noteFrame e X.env) (fun _ s₂ =>
    wpAny (model X.prog X.w) X.A (setFlight e none) (fun _ s₃ => wpAny (model X.prog X.w) X.A (handleBy e X.env
      [.ExceptHandler (some (.Name x np)) (some n) (st0 :: more) q1]) (SP X pins D) X.xe s₃) X.xe s₂) X.xe s₁
  have hook : Takes (X.tr (X.pn ++ pins) look) (wAs X.K c i ts Wo D) := by
    rintro u1 sE ⟨a, B, sI, pins', σ1, H1, cls, d, rfl, J', nb, up, sky, na, os, ag, b, hbb, yes, no⟩
    have J : Inv X pins σ1 H1 sI := J'.ofTry ok
    have sky1 : Sky B (X.env :: X.outer) a (Zc cls d) X.env.locals sE.heap := hs ▸ sky
    refine Sky.land Zc.steady frE hf sky1 fun hA flA upA => ?_
    have JA : Inv X pins σ1 H1 { sE with heap := hA } := J.landed nb flA.1 (up.trans upA) os ag
    obtain ⟨oA, vA, gA, zA, dA⟩ := flA.there
    have offFrames : a ∉ frs (X.env :: X.outer) := fun hm => by
      obtain ⟨_, o', e', hnf⟩ := flA.2.2.1.mem hm
      cases gA.symm.trans e'
      exact hnf _ dA
    have offLoc : a ≠ X.env.locals := fun z => offFrames (List.mem_filterMap.mpr ⟨X.env, List.mem_cons_self, z ▸ hf⟩)
    have offFs : a ∉ X.fs := fun hm => (List.mem_filterMap.mp hm).elim fun e1 ⟨p1, p2⟩ => offFrames (List.mem_filterMap.mpr ⟨e1, List.mem_cons_of_mem _ p1, p2⟩)
    have SA := JA.suite gA dA na offLoc offFs
    have lookT : PySem.W.Looks (model X.prog X.w) hA (typeOf (.ref a)) cls := fun _ _ _ _ kk qq => wpAny_typeOf_ref (kk _ _ gA) (zA.1.symm ▸ qq)
    have exM := PySem.W.exm_one (M := model X.prog X.w) JA.kIn lookT hbb
    have named : ∀ {Q : Value → Shared → Prop} {E : Value → Shared → Prop}, Q c { sE with heap := hA } →
        wpAny (model X.prog X.w) (X.A.mark (some (.ref a))) (eval (.Name x np) X.env) Q E { sE with heap := hA } := fun qq => by
      rcases hc with ⟨g1, g2, g3 | ⟨g3, g4, g5⟩⟩
      · exact ld_glob (X := X.suite a ((a, oA) :: (X.pn ++ pins))) SA g1 g3 qq g2
      · exact ld_blt (X := X.suite a ((a, oA) :: (X.pn ++ pins))) SA g1 g3 g4 qq g5 g2
    refine wpAny_handleBy_cons (codeAny_handlers_test (named (exM.here ?_))) (fun z => nomatch z)
    cases b with
    | true =>
      refine codeAny_handlers_suite_as (HandSPX.lands_againZ flA fun hB flB upB => ?_)
      have JB : Inv X pins σ1 H1 { sE with heap := hB } := J.landed nb flB.1 ((up.trans upA).trans upB) os ag
      obtain ⟨oB, vB, gB, zB, dB⟩ := flB.there
      refine store_ok (X := X.suite a ((a, oB) :: (X.pn ++ pins))) (v := .ref a) (JB.suite gB dB na offLoc offFs) hN hi (.inl hln) rfl (fun sC SC => ?_) (.inr hln)
      refine wpAny_mono ((hsu a oB cls d (X.pn ++ pins) zB ⟨_, dB⟩).run [] sC _ H1 _ SC (yes rfl a na)) (fun fl sF hh => ?_) (fun _ _ z => z.elim)
      have off : ∀ {σ2 : L2.St} {H2 : Hp} {Q : Shared → Prop}, Inv (X.suite a ((a, oB) :: (X.pn ++ pins))) [] σ2 H2 sF → (∀ sG, Inv X pins (σ2.set i none) H2 sG → Q sG) →
          wpAny (model X.prog X.w) X.A (do bindName X.env n .none; unbindBehindTheSuite X.env n q1) (fun _ sG => Q sG) X.xe sF := fun T qq => gone_ok (T.unsuite ok) hN hi hln qq
      cases fl with
      | next => exact hh.elim fun _ ⟨_, T, qq⟩ => off T fun _ G => ⟨_, _, G, qq⟩
      | brk => exact hh.elim fun _ ⟨_, T, qq⟩ => off T fun _ G => ⟨_, _, G, qq⟩
      | cont => exact hh.elim fun _ ⟨_, T, qq⟩ => off T fun _ G => ⟨_, _, G, qq⟩
      | ret u => exact hh.elim fun _ ⟨_, _, T, rr, qq⟩ => off T fun _ G => ⟨_, _, _, G, rr, qq⟩
    | false =>
      obtain ⟨_, _, _, oe, vs, tbk, _, _, he, _, hd, h1, _⟩ := id flA
      show wpAny _ X.A (handleBy (.ref a) X.env []) _ _ _
      refine wpAny_handleBy_nil ?_
      have away : wpAny (model X.prog X.w) X.A (setFlight (.ref a) X.env.frame) (fun _ sG => wpAny (model X.prog X.w) X.A (throw (.ref a) : Sem Flow) (SP X pins D) X.xe sG) X.xe { sE with heap := hA } := by
        rw [hf]
        exact HandSPX.setFlight_upZ flA fun hB heldB upB => wpAny_throw (tk _ _ ⟨a, B, sI, pins, σ1, H1, cls, d, rfl, J, nb, (up.trans upA).trans upB, .inr (.inr (hs.symm ▸ heldB)), na, os, ag, no rfl⟩)
      unfold PySem.passOn
      refine wpAny_bind (wpAny_field he hd h1 ?_)
      rw [if_neg (show ¬ ((Value.ref tbk == Value.none) = true) by simp)]
      first
        | exact wpAny_bind (wpAny_pure (wpAny_bind away))
        | exact wpAny_bind away
  refine wpAny_mono ((hb _ _ look hook PassesOwn.looking).run [] s0 σ H { D with nx := u D } (I0.toTry _) h0) (fun fl sE hh => ?_) (fun e sE he => he)
  cases fl with
  | next => exact hh.elim fun _ ⟨_, T, qq⟩ => ho.run pins sE _ _ D (T.ofTry ok) qq
  | brk => exact hh.elim fun _ ⟨_, T, qq⟩ => ⟨_, _, T.ofTry ok, qq⟩
  | cont => exact hh.elim fun _ ⟨_, T, qq⟩ => ⟨_, _, T.ofTry ok, qq⟩
  | ret u => exact hh.elim fun _ ⟨_, _, T, rr, qq⟩ => ⟨_, _, _, T.ofTry ok, rr, qq⟩
end

theorem pr_txt {t : List Nat} (h : PrL t) : txtOk (S t) = true := txt_of_tl fun c hc => by
  have := (h c hc).2
  omega
def actD : Act → PyData
  | .put k t => .tuple [.str "put", .int k, .str (S t)]
  | .cut k => .tuple [.str "cut", .int k]
theorem act_dp {K : PySem.W.Frag} {H : Hp} {p : Addr} {a : Act} (h : H p = some (.tup (actV a))) (ha : ActOk a) : Dp K H (.ref p) (actD a) ∧ (actD a).canLay0 = true ∧ (actD a).depth ≤ 1 := by
  cases a with
  | put k t =>
    refine ⟨.tup (SqT.of h) (.cons (.str _) (.cons (.int _) (.cons (.str _) .nil))), ?_, Nat.le_refl _⟩
    show (PySem.PyData.strOk "put" && (true && (txtOk (S t) && true))) = true
    rw [pr_txt ha.1]
    decide +kernel
  | cut k =>
    refine ⟨.tup (SqT.of h) (.cons (.str _) (.cons (.int _) .nil)), ?_, Nat.le_refl _⟩
    show (PySem.PyData.strOk "cut" && (true && true)) = true
    decide +kernel
section
variable {P : Program} {w : World} {K : PySem.W.Frag} {mg : Str → Option Value} {base : Heap} {C B : Addr}
def spAlone : Sp := fun vs H Q _ => ∃ (l : List Nat) (d : Nat) (due : Due) (dv : V), vs = [.str (S l), dv, .int (d : Int)] ∧ PrL l ∧ l.length ≤ 60 ∧ d ≤ 16 ∧ readL l d = dueR due ∧ DueV H dv due ∧ ∀ H', Ext H H' → Q (.bl true) H'
theorem ok_alone {cc : Addr} (T : Txt K mg cc) (EI : ExcI K mg "BadRow" "BookError" "row" "BadRow.__init__" s_BadRow___init__ ["self", "row"] C B) : Cal P w K mg base 4 "_law_alone" spAlone [] := by
  have Z := T.Z
  obtain ⟨C_NoPlace, g_NoPlace⟩ := T.g_NoPlace
  obtain ⟨C_BadPaper, g_BadPaper⟩ := T.g_BadPaper
  have C_read_row := (ok_read_rowN (P := P) (w := w) (base := base) T EI).weak
  refine cal_of T.d__law_alone sc__law_alone (fun vs H Q E h => ?_) (fun f cdv A' outer s H vs Q E hr h => ?_)
  · obtain ⟨l, d, due, dv, rfl, _⟩ := h
    rfl
  obtain ⟨l, d, due, dv, rfl, hp, hl, hd, hrd, hdv, q⟩ := h
  have hu := hu_of hr
  refine ⟨_, (pss_cons (ps_try_as (i := 4) rfl rfl sc__law_alone.nd rfl rfl ⟨rfl, by decide, .inl EI.gC⟩ takes0 (fun W pn xe tk po => (pss_one (ps_set (i := 3) sc__law_alone.nd rfl (Or.inl rfl) (pe_cx C_read_row tk hr (by omega) rfl (pa_cons (pv 0) (pa_cons (pv 2) pa_nil)))))) (fun a oe cls d pn hz hf => (pss_when (P := cls = .ref C) fun hsu => (pss_cons (ps_set (i := 5) sc__law_alone.nd rfl (Or.inl rfl) (pe_and (pe_not (pe_callB (call_isD EI.cP (zcd_of hz hsu) hf) rfl Z.isinstance (by decide +kernel) (pa_cons (pv 4) (pa_cons (pe_glob (v := .ref C_BadPaper) rfl g_BadPaper rfl) pa_nil)))) (pe_and (pe_not (pe_callB (call_isD EI.cP (zcd_of hz hsu) hf) rfl Z.isinstance (by decide +kernel) (pa_cons (pv 4) (pa_cons (pe_glob (v := .ref C_NoPlace) rfl g_NoPlace rfl) pa_nil)))) (pe_one (pe_callB (call_isD EI.cP (zcd_of hz hsu) hf) rfl Z.isinstance (by decide +kernel) (pa_cons (pv 4) (pa_cons (pe_bltn (v := .ty "ValueError") rfl Z.ValueError (by decide +kernel) rfl) pa_nil)))))))
  (pss_one (ps_ret (pe_and (pe_cmpR (show OpR _ (compareOp CmpOp.Eq) (rEqD K) from op_eqD (by exact hr.units)) (pv 1) pe_str (nomark _)) (pe_and (pe_cmpR op_eq (pe_xf EI.xf EI.no hz hf (pv 4)) pe_int (nomark _)) (pe_one (pv 5))))))))))
  (pss_one (ps_ret (pe_and (pe_cmpR (op_neD hr.units) (pv 1) pe_str (nomark _)) (pe_and (pe_cmpR (op_eqD hr.units) (pv 3) (pv 1) (nomark _)) (pe_one (pe_or (pe_cmpR op_isN (pv 1) pe_non (nomark _)) (pe_one (pe_callB call_isi rfl Z.isinstance (by decide +kernel) (pa_cons (pv 3) (pa_cons (pe_bltn (v := .ty "tuple") rfl Z.tuple (by decide +kernel) rfl) pa_nil))))))))))), ?_⟩
  have shB : SeqAt.shaped (.str "bad") = true := by decide +kernel
  refine ⟨_, rfl, _, rfl, l, d, rfl, hp.asc, by omega, by omega, fun e H' s' => ?_, fun a e t H' s' nt ht => ?_, fun e D hD dx H' s' ndx hdx => ?_⟩
  · cases due with
    | bad => rw [e] at hrd; cases hrd
    | act a => rw [e] at hrd; cases hrd
    | non =>
      obtain rfl : dv = .non := hdv
      exact ⟨_, rfl, .none, .str "bad", .non, .str _, by decide +kernel, shB, _, rfl, iteT ⟨_, rfl, _, rfl, .none, .none, .non, .non, by decide +kernel, by decide +kernel, _, rfl, iteT ⟨_, rfl, rfl, _, rfl, iteT (q H' (Ext.of_same s'))⟩⟩⟩
  · cases due with
    | bad => rw [e] at hrd; cases hrd
    | non => rw [e] at hrd; cases hrd
    | act b =>
      rw [e] at hrd
      cases hrd
      obtain ⟨p, rfl, hpa, hok⟩ := hdv
      obtain ⟨dp1, cl, dpt⟩ := act_dp (K := K) (s' _ _ hpa) hok
      obtain ⟨dp2, _, _⟩ := act_dp (K := K) ht hok
      have sh := shaped_of cl (show (actD a).depth ≤ 64 by omega)
      have ne : PyData.eqv (actD a) (.str "bad") = false := by cases a <;> rfl
      refine ⟨_, rfl, actD a, .str "bad", dp1, .str _, sh, shB, _, rfl, ?_⟩
      rw [ne]
      refine iteT ⟨_, rfl, _, rfl, actD a, actD a, dp2, dp1, sh, sh, _, rfl, ?_⟩
      rw [eqv_self cl]
      have kt : PySem.W.kitOne K (.type "tuple") (.type "tuple") = some true := by kernel_rfl
      exact iteT ⟨_, rfl, rfl, _, rfl, iteF ⟨_, rfl, .ref t, .ty "tuple", _, _, true, rfl, .ty _, .base (.tup ht), kt, q H' (Ext.of_same s')⟩⟩
  · rw [EI.gC] at hD
    cases hD
    cases due with
    | non => rw [e] at hrd; cases hrd
    | act a => rw [e] at hrd; cases hrd
    | bad =>
      obtain rfl : dv = .str "bad" := hdv
      refine ⟨true, EI.eP, fun _ a na => ⟨rfl, ?_⟩, fun z => nomatch z⟩
      refine ⟨_, rfl, _, _, false, dx, _, rfl, hdx, rfl, fun u h => h, T.q_BadRow_BadPaper _ _ EI.gC g_BadPaper, _, rfl, _, rfl, iteT ⟨_, rfl, _, _, false, dx, _, rfl, hdx, rfl, fun u h => h, T.q_BadRow_NoPlace _ _ EI.gC g_NoPlace, _, rfl, _, rfl,
        iteT ⟨_, rfl, _, _, true, dx, _, rfl, hdx, rfl, fun u h => h, T.q_BadRow_ValueError _ EI.gC, ?_⟩⟩⟩
      refine ⟨_, rfl, .str "bad", .str "bad", .str _, .str _, shB, shB, _, rfl, ?_⟩
      rw [eqv_self (d := .str "bad") (by decide +kernel)]
      exact iteT ⟨_, rfl, rfl, rfl, dx, _, .int 0, rfl, hdx, rfl, rfl, _, rfl, iteT ⟨_, rfl, q H' (Ext.of_same s')⟩⟩
end

/-! ### what the rows made are to say -/
def isBad : Due → Bool
  | .bad => true
  | _ => false
def expect (i : Nat) : List (List Nat × Due) → Except Nat (List (Act × Nat))
  | [] => .ok []
  | m :: ms => match m.2 with
    | .bad => .error i
    | .non => expect (i + 1) ms
    | .act a => match expect (i + 1) ms with
      | .error j => .error j
      | .ok as => .ok ((a, i) :: as)
def bads (i : Nat) : List (List Nat × Due) → List Nat
  | [] => []
  | m :: ms => if isBad m.2 = true then i :: bads (i + 1) ms else bads (i + 1) ms
def acts (i : Nat) : List (List Nat × Due) → List (Act × Nat)
  | [] => []
  | m :: ms => match m.2 with
    | .act a => (a, i) :: acts (i + 1) ms
    | _ => acts (i + 1) ms
theorem readAll_made {d : Nat} : ∀ {ms : List (List Nat × Due)} (i : Nat), (∀ m ∈ ms, readL m.1 d = dueR m.2) → readAll d i (ms.map (·.1)) = expect i ms
  | [], i, _ => rfl
  | m :: ms, i, h => by
    have h1 := h m List.mem_cons_self
    have h2 := readAll_made (d := d) (i + 1) fun x hx => h x (List.mem_cons_of_mem _ hx)
    rw [List.map_cons, readAll, h1, h2, expect]
    cases m.2 <;> rfl
theorem expect_eq : ∀ (ms : List (List Nat × Due)) (i : Nat), expect i ms = match bads i ms with | [] => .ok (acts i ms) | b :: _ => .error b
  | [], i => rfl
  | m :: ms, i => by
    have h := expect_eq ms (i + 1)
    rw [expect, bads, acts]
    cases m.2 with
    | bad => rfl
    | non =>
      show expect (i + 1) ms = _
      rw [h]
      rfl
    | act a =>
      show (match expect (i + 1) ms with | .error j => Except.error j | .ok as => .ok ((a, i) :: as)) = _
      rw [h]
      show _ = match bads (i + 1) ms with | [] => Except.ok ((a, i) :: acts (i + 1) ms) | b :: _ => .error b
      cases bads (i + 1) ms <;> rfl
theorem bads_snoc : ∀ (ms : List (List Nat × Due)) (i : Nat) (m : List Nat × Due), bads i (ms ++ [m]) = bads i ms ++ (if isBad m.2 = true then [i + ms.length] else [])
  | [], i, m => by
    show (if isBad m.2 = true then i :: bads (i + 1) [] else bads (i + 1) []) = [] ++ _
    cases isBad m.2 <;> rfl
  | x :: ms, i, m => by
    have h := bads_snoc ms (i + 1) m
    rw [List.cons_append, bads, bads, h]
    have e : i + 1 + ms.length = i + (x :: ms).length := by rw [List.length_cons]; omega
    rw [e]
    cases isBad x.2 <;> rfl
theorem acts_snoc : ∀ (ms : List (List Nat × Due)) (i : Nat) (m : List Nat × Due), acts i (ms ++ [m]) = acts i ms ++ (match m.2 with | .act a => [(a, i + ms.length)] | _ => [])
  | [], i, m => by
    show acts i [m] = [] ++ _
    rw [acts]
    cases m.2 <;> rfl
  | x :: ms, i, m => by
    have h := acts_snoc ms (i + 1) m
    rw [List.cons_append, acts, acts, h]
    have e : i + 1 + ms.length = i + (x :: ms).length := by rw [List.length_cons]; omega
    rw [e]
    cases x.2 <;> rfl
theorem readAll_one (d : Nat) : readAll d 0 [[]] = .ok [] := rfl
theorem acts_ok : ∀ {ms : List (List Nat × Due)} {i : Nat}, (∀ m ∈ ms, ∀ a, m.2 = .act a → ActOk a) → ∀ x ∈ acts i ms, ActOk x.1
  | [], i, _ => fun x hx => nomatch hx
  | m :: ms, i, h => by
    have ih := acts_ok (i := i + 1) fun y hy => h y (List.mem_cons_of_mem _ hy)
    have h1 := h m List.mem_cons_self
    rw [acts]
    cases e : m.2 with
    | bad => exact ih
    | non => exact ih
    | act a =>
      intro x hx
      rcases List.mem_cons.mp hx with rfl | hx
      · exact h1 a e
      · exact ih x hx
theorem bads_len : ∀ (ms : List (List Nat × Due)) (i : Nat), (bads i ms).length ≤ ms.length ∧ ∀ b ∈ bads i ms, b < i + ms.length
  | [], i => ⟨Nat.le_refl _, fun b hb => nomatch hb⟩
  | m :: ms, i => by
    obtain ⟨h1, h2⟩ := bads_len ms (i + 1)
    rw [bads, List.length_cons]
    cases isBad m.2 with
    | false => exact ⟨Nat.le_succ_of_le h1, fun b hb => by have := h2 b hb; omega⟩
    | true =>
      refine ⟨Nat.succ_le_succ h1, fun b hb => ?_⟩
      rcases List.mem_cons.mp hb with rfl | hb
      · omega
      · have := h2 b hb; omega
theorem acts_len : ∀ (ms : List (List Nat × Due)) (i : Nat), (acts i ms).length ≤ ms.length
  | [], i => Nat.le_refl _
  | m :: ms, i => by
    have h1 := acts_len ms (i + 1)
    rw [acts, List.length_cons]
    cases m.2 with
    | bad => exact Nat.le_succ_of_le h1
    | non => exact Nat.le_succ_of_le h1
    | act a => exact Nat.succ_le_succ h1
/-! ### rows made, as values -/
structure MadeL (d : Nat) (H : Hp) (ys : List V) (ms : List (List Nat × Due)) : Prop where
  len : ys.length = ms.length
  at_ : ∀ (j : Nat) (v : V) (m : List Nat × Due), ys[j]? = some v → ms[j]? = some m → ∃ (q : Addr) (dv : V), v = .ref q ∧ H q = some (.tup [.str (S m.1), dv]) ∧ DueV H dv m.2
  ok : ∀ m ∈ ms, PrL m.1 ∧ m.1.length ≤ 60 ∧ readL m.1 d = dueR m.2
theorem DueV.gr {H H' : Hp} {dv : V} {due : Due} (h : DueV H dv due) (x : Gr H H') : DueV H' dv due := by
  cases due with
  | non => exact h
  | bad => exact h
  | act a =>
    obtain ⟨p, h1, h2, h3⟩ := h
    exact ⟨p, h1, x.keep _ _ h2 True.intro (fun _ z => nomatch z), h3⟩
theorem MadeL.gr {d : Nat} {H H' : Hp} {ys : List V} {ms : List (List Nat × Due)} (h : MadeL d H ys ms) (x : Gr H H') : MadeL d H' ys ms := by
  refine ⟨h.len, fun j v m a b => ?_, h.ok⟩
  obtain ⟨q, dv, h1, h2, h3⟩ := h.at_ j v m a b
  exact ⟨q, dv, h1, x.keep _ _ h2 True.intro (fun _ z => nomatch z), h3.gr x⟩
theorem MadeL.nil {d : Nat} {H : Hp} : MadeL d H [] [] := ⟨rfl, fun j v e a _ => by simp at a, fun m hm => nomatch hm⟩
theorem MadeL.snoc {d : Nat} {H : Hp} {ys : List V} {ms : List (List Nat × Due)} {q : Addr} {dv : V} {m : List Nat × Due} (h : MadeL d H ys ms) (hq : H q = some (.tup [.str (S m.1), dv])) (hd : DueV H dv m.2) (hm : PrL m.1 ∧ m.1.length ≤ 60 ∧ readL m.1 d = dueR m.2) : MadeL d H (ys ++ [.ref q]) (ms ++ [m]) := by
  have hl := h.len
  refine ⟨by rw [List.length_append, List.length_append, hl]; rfl, fun i v t a b => ?_, fun x hx => ?_⟩
  · by_cases c : i < ys.length
    · rw [List.getElem?_append_left c] at a
      rw [List.getElem?_append_left (by omega)] at b
      exact h.at_ i v t a b
    · rw [List.getElem?_append_right (by omega)] at a b
      rw [← hl] at b
      cases hj : i - ys.length with
      | zero =>
        rw [hj] at a b
        cases a
        cases b
        exact ⟨q, dv, rfl, hq, hd⟩
      | succ j =>
        rw [hj] at a
        simp at a
  · rcases List.mem_append.mp hx with hx | hx
    · exact h.ok x hx
    · rw [List.mem_singleton.mp hx]
      exact hm
theorem due_dp {K : PySem.W.Frag} {H : Hp} {dv : V} {due : Due} (h : DueV H dv due) : ∃ dd, Dp K H dv dd ∧ SeqAt.shaped dd = true ∧ PyData.eqv dd (.str "bad") = isBad due ∧ decide (dv = .non) = (match due with | .non => true | _ => false) := by
  cases due with
  | non =>
    obtain rfl : dv = .non := h
    exact ⟨.none, .non, by decide +kernel, rfl, rfl⟩
  | bad =>
    obtain rfl : dv = .str "bad" := h
    exact ⟨.str "bad", .str _, by decide +kernel, eqv_self (d := .str "bad") (by decide +kernel), rfl⟩
  | act a =>
    obtain ⟨p, rfl, h2, h3⟩ := h
    obtain ⟨dp, cl, dpt⟩ := act_dp (K := K) h2 h3
    exact ⟨actD a, dp, shaped_of cl (by omega), by cases a <;> rfl, rfl⟩
theorem dp_ints {K : PySem.W.Frag} {H : Hp} : ∀ ns : List Nat, ∃ ds, DpAll K H ((ns.map fun n : Nat => (n : Int)).map V.int) ds ∧ PyData.canLayAll0 ds = true ∧ PyData.depthAll ds = 0 ∧ PyData.eqv (.list ds) (.list []) = decide (ns = [])
  | [] => ⟨[], .nil, rfl, rfl, rfl⟩
  | n :: ns => by
    obtain ⟨ds, a, b, c, _⟩ := dp_ints (K := K) (H := H) ns
    refine ⟨.int n :: ds, .cons (.int _) a, ?_, ?_, rfl⟩
    · rw [PyData.canLayAll0, b]
      rfl
    · show max 0 (PyData.depthAll ds) = 0
      omega
def actPD (x : Act × Nat) : PyData := match x.1 with
  | .put k t => .tuple [.str "put", .int k, .str (S t), .int (x.2 : Int)]
  | .cut k => .tuple [.str "cut", .int k, .int (x.2 : Int)]
theorem actPD_ok {x : Act × Nat} (h : ActOk x.1) : (actPD x).canLay0 = true ∧ (actPD x).depth = 1 := by
  obtain ⟨a, i⟩ := x
  cases a with
  | put k t =>
    refine ⟨?_, rfl⟩
    show (PySem.PyData.strOk "put" && (true && (txtOk (S t) && (true && true)))) = true
    rw [pr_txt h.1]
    decide +kernel
  | cut k =>
    refine ⟨?_, rfl⟩
    show (PySem.PyData.strOk "cut" && (true && (true && true))) = true
    decide +kernel
theorem dp_acts {K : PySem.W.Frag} {H : Hp} : ∀ {ys : List V} {as : List (Act × Nat)}, ActsL H ys as → DpAll K H ys (as.map actPD)
  | [], [], h => .nil
  | [], a :: as, h => absurd h.len (by simp)
  | y :: ys, [], h => absurd h.len (by simp)
  | y :: ys, a :: as, h => by
    obtain ⟨q, rfl, hq⟩ := h.at_ 0 y a rfl rfl
    have ih := dp_acts (K := K) (ys := ys) (as := as) ⟨by have := h.len; simpa using this, fun j v e p1 p2 => h.at_ (j + 1) v e p1 p2⟩
    refine .cons ?_ ih
    obtain ⟨b, i⟩ := a
    cases b with
    | put k t => exact .tup (SqT.of hq) (.cons (.str _) (.cons (.int _) (.cons (.str _) (.cons (.int _) .nil))))
    | cut k => exact .tup (SqT.of hq) (.cons (.str _) (.cons (.int _) (.cons (.int _) .nil)))
theorem acts_lay : ∀ {as : List (Act × Nat)}, (∀ x ∈ as, ActOk x.1) → PyData.canLayAll0 (as.map actPD) = true ∧ PyData.depthAll (as.map actPD) ≤ 1
  | [], _ => ⟨rfl, Nat.zero_le _⟩
  | x :: as, h => by
    obtain ⟨h1, h2⟩ := actPD_ok (h x List.mem_cons_self)
    obtain ⟨i1, i2⟩ := acts_lay fun y hy => h y (List.mem_cons_of_mem _ hy)
    refine ⟨?_, ?_⟩
    · rw [List.map_cons, PyData.canLayAll0, h1, i1]
      rfl
    · show max (actPD x).depth (PyData.depthAll (as.map actPD)) ≤ 1
      omega
theorem eq_acts {K : PySem.W.Frag} {H : Hp} {a b : Addr} {ys zs : List V} {as : List (Act × Nat)} (ha : SqL K H a ys) (hb : SqL K H b zs) (h : ActsL H ys as) (h' : ActsL H zs as) (hok : ∀ x ∈ as, ActOk x.1) :
    ∃ d, Dp K H (.ref a) d ∧ Dp K H (.ref b) d ∧ SeqAt.shaped d = true ∧ PyData.eqv d d = true := by
  obtain ⟨cl, dl⟩ := acts_lay hok
  have c' : (PyData.list (as.map actPD)).canLay0 = true := cl
  exact ⟨.list (as.map actPD), .lst ha (dp_acts h), .lst hb (dp_acts h'), shaped_of c' (by show PyData.depthAll (as.map actPD) + 1 ≤ 64; omega), eqv_self c'⟩
/-! ### the rows as one text -/
theorem join_len : ∀ (ls : List (List Nat)), (∀ l ∈ ls, l.length ≤ 60) → (TL.joinL [10] ls).length ≤ ls.length * 61
  | [], _ => Nat.zero_le _
  | [l], h => by
    have := h l List.mem_cons_self
    show l.length ≤ 1 * 61
    omega
  | l :: m :: ls, h => by
    have h1 := h l List.mem_cons_self
    have h2 := join_len (m :: ls) fun x hx => h x (List.mem_cons_of_mem _ hx)
    show (l ++ ([10] ++ TL.joinL [10] (m :: ls))).length ≤ (ls.length + 1 + 1) * 61
    rw [List.length_append, List.length_append]
    have h2 : (TL.joinL [10] (m :: ls)).length ≤ (ls.length + 1) * 61 := h2
    show l.length + (1 + _) ≤ _
    omega
theorem join_asc : ∀ (ls : List (List Nat)), (∀ l ∈ ls, PrL l) → AscL (TL.joinL [10] ls)
  | [], _ => fun c hc => nomatch hc
  | [l], h => (h l List.mem_cons_self).asc
  | l :: m :: ls, h => by
    have h1 := (h l List.mem_cons_self).asc
    have h2 := join_asc (m :: ls) fun x hx => h x (List.mem_cons_of_mem _ hx)
    intro c hc
    have hc : c ∈ l ++ ([10] ++ TL.joinL [10] (m :: ls)) := hc
    rcases List.mem_append.mp hc with hc | hc
    · exact h1 c hc
    · rcases List.mem_append.mp hc with hc | hc
      · rw [List.mem_singleton.mp hc]; decide
      · exact h2 c hc
theorem read_joined {d : Nat} {ms : List (List Nat × Due)} (h : ∀ m ∈ ms, PrL m.1 ∧ m.1.length ≤ 60 ∧ readL m.1 d = dueR m.2) : readAll d 0 (TL.spl [10] 0 [] (TL.joinL [10] (ms.map (·.1)))) = expect 0 ms := by
  by_cases e : ms = []
  · subst e
    rfl
  · rw [SX.spl_join (c := 10) (sep := []) (by simpa using e) (fun p hp => ?_)]
    · exact readAll_made 0 fun m hm => (h m hm).2.2
    · obtain ⟨m, hm, rfl⟩ := List.mem_map.mp hp
      intro hc
      have := ((h m hm).1 10 hc).1
      omega

theorem take_filterM {α : Type} (p : α → Bool) (l : List α) {i : Nat} {x : α} (h : l[i]? = some x) : (l.take (i + 1)).filter p = (l.take i).filter p ++ (if p x = true then [x] else []) := by
  rw [List.take_succ, h, List.filter_append]
  congr 1
  show [x].filter p = _
  rw [List.filter_cons]
  rfl
theorem sum60 : ∀ (ms : List (List Nat × Due)), (∀ m ∈ ms, m.1.length ≤ 60) → (ms.map fun m => m.1.length).sum ≤ ms.length * 60
  | [], _ => Nat.zero_le _
  | m :: ms, h => by
    have h1 := h m List.mem_cons_self
    have h2 := sum60 ms fun x hx => h x (List.mem_cons_of_mem _ hx)
    rw [List.map_cons, List.sum_cons, List.length_cons]
    omega
section
variable {P : Program} {w : World} {K : PySem.W.Frag} {mg : Str → Option Value}
def spLaw1 (K : PySem.W.Frag) : Sp := fun vs H Q _ => ∃ (a : Addr) (ns : List Int), vs = [.ref a] ∧ SqL K H a (ns.map V.int) ∧ ns.length ≤ 63 ∧ ∀ H', Q (.bl true) H'
def spCellA (K : PySem.W.Frag) : Sp := fun vs H Q _ => ∃ (a : Addr) (ns : List Int) (k : Nat), vs = [.ref a, .int (k : Int)] ∧ SqL K H a (ns.map V.int) ∧ k ≤ 1000 ∧ ∀ z, Q (.int z) H
theorem ok_cell_at {base : Heap} {cc : Addr} (T : Txt K mg cc) : Cal P w K mg base 1 "_law_cell_at" (spCellA K) [] := by
  have Z := T.Z
  refine cal_of T.d__law_cell_at sc__law_cell_at (fun vs H Q E h => ?_) (fun f cdv A outer s H vs Q E hr h => ?_)
  · obtain ⟨a, ns, k, rfl, _⟩ := h
    rfl
  obtain ⟨a, ns, k, rfl, hS, hk, q⟩ := h
  refine ⟨_, (pss_cons (ps_if (pt_cmpR op_lt (pv 1) (pe_callB call_len_seq rfl Z.len PySem.boot_len (pa_cons (pv 0) pa_nil)) (nomark _)) (pss_one (ps_ret (pe_ix ix_list (pv 0) (pv 1) (fun _ _ => rfl)))) pss_nil)
  (pss_one (ps_ret pe_int))), ?_⟩
  refine ⟨_, rfl, _, rfl, a, _, rfl, .inl hS, _, _, rfl, rfl, _, rfl, ?_⟩
  rw [List.length_map]
  by_cases c : k < ns.length
  · rw [decide_eq_true (show (k : Int) < (ns.length : Int) by omega)]
    have hz : (ns.map V.int)[k]? = some (.int ns[k]) := by rw [List.getElem?_map, List.getElem?_eq_getElem c]; rfl
    exact iteT ⟨_, rfl, _, rfl, a, _, _, _, rfl, rfl, hS, atI_nat hz, q _⟩
  · rw [decide_eq_false (show ¬ (k : Int) < (ns.length : Int) by omega)]
    exact iteF (q 0)
theorem ok_law {fa cc : Addr} (T : Txt K mg cc) (hfa : mg "law" = some (.ref fa)) : ∃ fd : FuncData, (∀ (s : Shared) (v : Value), BindsTo s fd ⟨[v], []⟩ [("_law_script", v)]) ∧ ∀ base : Heap, K.In base → base.Ns mainGlobals mg → FnOk P w K mg base L2.CX0 7 fa fd ["_law_script"] (spLaw1 K) := by
  have Z := T.Z
  obtain ⟨C, B, EI⟩ := T.y_BadRow
  refine law_fn T.d_law hfa sc_law (fun vs H Q E h => ?_) (fun base f cdv A' outer s H vs Q E hr h => ?_)
  · obtain ⟨a, ns, rfl, _⟩ := h
    rfl
  obtain ⟨a, ns, rfl, hS, hlen, q⟩ := h
  have C__law_cell_at := ok_cell_at (P := P) (w := w) (base := base) T
  have C__law_row := ok_lawrow (P := P) (w := w) (base := base) T
  have C__law_alone := ok_alone (P := P) (w := w) (base := base) T EI
  have C_read_rows := ok_read_rows (P := P) (w := w) (base := base) T EI
  have hu := hu_of hr
  have e16 : sizeLine = 16777216 := sizeLine_eq
  refine ⟨_, (pss_cons (ps_set (i := 0) sc_law.nd rfl (Or.inr rfl) (pe_slice sl_list (pv 0) po_none (po_some pe_int)))
  (pss_cons (ps_set (i := 1) sc_law.nd rfl (Or.inr rfl) (pe_op op_add pe_int (pe_op op_mod (pe_c C__law_cell_at hr (by omega) rfl (pa_cons (pv 0) (pa_cons pe_int pa_nil))) pe_int)))
  (pss_cons (ps_setLc (i := 2) (own := [("_law_at", 9)]) (g := gName 9) (tt := tYes) rfl sc_law.nd rfl rfl (sw_true rfl rfl rfl (by decide +kernel)) (pi_range1 rfl Z.range (pa_cons (pe_callB (call_min2 rfl) rfl Z.min (by decide +kernel) (pa_cons (pe_callB call_len_seq rfl Z.len PySem.boot_len (pa_cons (pv 0) pa_nil)) (pa_cons pe_int pa_nil))) pa_nil)) (blkOk_by (N := N_law) (sc := defScope s_law) (by decide +kernel)) (fun _ _ _ _ _ => (pg_name (i := 9) sc_law.nd rfl (Or.inl rfl))) (fun _ _ _ _ _ => pts_nil) (fun _ _ _ _ _ => (pe_c C__law_row hr (by omega) rfl (pa_cons (pe_op op_add (pe_ix (r := rIxL K) ix_list (pv 0) (pv 9) (fun _ _ => rfl)) (pe_op op_mul pe_int (pv 9))) (pa_cons (pv 1) pa_nil)))))
  (pss_cons (ps_for PassesOwn.never rfl (pi_list (pv 2)) (pg_name (i := 3) sc_law.nd rfl (Or.inl rfl)) (pss_one (ps_if (pt_not (pt_val (pe_c C__law_alone hr (by omega) rfl (pa_cons (pe_ix ix_tup (pv 3) pe_int (fun _ _ => rfl)) (pa_cons (pe_ix ix_tup (pv 3) pe_int (fun _ _ => rfl)) (pa_cons (pv 1) pa_nil)))))) (pss_one (ps_ret pe_bl)) pss_nil)))
  (pss_cons (ps_for PassesOwn.never rfl (pi_tup (pe_tup (pa_cons (pv 2) (pa_cons (pe_lc (own := [("_law_one", 3)]) (g := gName 3) (tt := _) rfl sc_law.nd (pi_list (pv 2)) (blkOk_by (N := N_law) (sc := defScope s_law) (by decide +kernel)) (fun _ _ _ _ _ => (pg_name (i := 3) sc_law.nd rfl (Or.inl rfl))) (fun _ _ _ _ _ => (pts_one (pt_cmpR (show OpR _ (compareOp CmpOp.NotEq) (rNeD K) from op_neD (by exact hr.units)) (pe_ix (r := rIxT K) ix_tup (pv 3) pe_int (fun _ _ => rfl)) pe_str (nomark _)))) (fun _ _ _ _ _ => (pv 3))) pa_nil)))) (pg_name (i := 4) sc_law.nd rfl (Or.inr rfl)) (pss_cons (ps_setLc (i := 5) (own := [("_law_at", 9)]) (g := gName 9) (tt := _) rfl sc_law.nd rfl rfl (sw_true rfl rfl rfl (by decide +kernel)) (pi_range1 rfl Z.range (pa_cons (pe_callB call_len_seq rfl Z.len PySem.boot_len (pa_cons (pv 4) pa_nil)) pa_nil)) (blkOk_by (N := N_law) (sc := defScope s_law) (by decide +kernel)) (fun _ _ _ _ _ => (pg_name (i := 9) sc_law.nd rfl (Or.inl rfl))) (fun _ _ _ _ _ => (pts_one (pt_cmpR (show OpR _ (compareOp CmpOp.Eq) (rEqD K) from op_eqD (by exact hr.units)) (pe_ix (r := rIxT K) ix_tup (pe_ix (r := rIxL K) ix_list (pv 4) (pv 9) (fun _ _ => rfl)) pe_int (fun _ _ => rfl)) pe_str (nomark _)))) (fun _ _ _ _ _ => (pv 9)))
  (pss_cons (ps_setLc (i := 6) (own := [("_law_at", 9)]) (g := gName 9) (tt := _) rfl sc_law.nd rfl rfl (sw_true rfl rfl rfl (by decide +kernel)) (pi_range1 rfl Z.range (pa_cons (pe_callB call_len_seq rfl Z.len PySem.boot_len (pa_cons (pv 4) pa_nil)) pa_nil)) (blkOk_by (N := N_law) (sc := defScope s_law) (by decide +kernel)) (fun _ _ _ _ _ => (pg_name (i := 9) sc_law.nd rfl (Or.inl rfl))) (fun _ _ _ _ _ => (pts_one (PW.pt (pw_and (pt_cmpR op_notN (pe_ix (r := rIxT K) ix_tup (pe_ix (r := rIxL K) ix_list (pv 4) (pv 9) (fun _ _ => rfl)) pe_int (fun _ _ => rfl)) pe_non (nomark _)) (pw_and1 (pt_cmpR (show OpR _ (compareOp CmpOp.NotEq) (rNeD K) from op_neD (by exact hr.units)) (pe_ix (r := rIxT K) ix_tup (pe_ix (r := rIxL K) ix_list (pv 4) (pv 9) (fun _ _ => rfl)) pe_int (fun _ _ => rfl)) pe_str (nomark _))))))) (fun _ _ _ _ _ => (pe_op (show OpR _ (binaryOp .Add) (rCatT K) from op_catT) (pe_ix (r := rIxT K) ix_tup (pe_ix (r := rIxL K) ix_list (pv 4) (pv 9) (fun _ _ => rfl)) pe_int (fun _ _ => rfl)) (pe_tup (pa_cons (pv 9) pa_nil)))))
  (pss_one (ps_try_asE (i := 8) (pss_one (ps_if (PW.pt (pw_or (pt_cmpR (op_neD hr.units) (pv 5) (pe_lst pa_nil) (nomark _)) (pw_or (pt_cmpR (op_neD hr.units) (pv 7) (pv 6) (nomark _)) (pw_or1 (pt_not (pt_val (pe_callB call_isi rfl Z.isinstance (by decide +kernel) (pa_cons (pv 7) (pa_cons (pe_bltn (v := .ty "list") rfl Z.list (by decide +kernel) rfl) pa_nil))))))))) (pss_one (ps_ret pe_bl)) pss_nil)) rfl rfl sc_law.nd rfl rfl ⟨rfl, by decide, .inl EI.gC⟩ takes0 (fun W pn xe tk po => (pss_one (ps_set (i := 7) sc_law.nd rfl (Or.inl rfl) (pe_cx C_read_rows tk hr (by omega) rfl (pa_cons (show PE _ _ (tM1 (rJoin K) _ _) from pe_join pe_str (pe_lc (own := [("_law_one", 3)]) (g := gName 3) (tt := tYes) rfl sc_law.nd (show PI _ _ _ (iList K _) from pi_list (pv 4)) (blkOk_by (N := N_law) (sc := defScope s_law) (by decide +kernel)) (fun _ _ _ _ _ => (pg_name (i := 3) sc_law.nd rfl (Or.inl rfl))) (fun _ _ _ _ _ => pts_nil) (fun _ _ _ _ _ => (pe_ix (r := rIxT K) ix_tup (pv 3) pe_int (fun _ _ => rfl))))) (pa_cons (pv 1) pa_nil)))))) (fun a oe cls d pn hz hf => (pss_when (P := cls = .ref C) fun hsu => (pss_one (ps_if (PW.pt (pw_or (pt_cmpR (show OpR _ (compareOp CmpOp.Eq) (rEqD K) from op_eqD (by exact hr.units)) (pv 5) (pe_lst pa_nil) (nomark _)) (pw_or1 (pt_cmpR op_ne (pe_xf EI.xf EI.no hz hf (pv 8)) (pe_ix (r := rIxL K) ix_list (pv 5) pe_int (fun _ _ => rfl)) (nomark _))))) (pss_one (ps_ret pe_bl)) pss_nil)))))))))
  (pss_one (ps_ret pe_bl))))))), ?_⟩
  refine ⟨.ref a, rfl, 63, rfl, a, _, rfl, hS, fun c nc => ?_⟩
  rw [take63 hlen]
  have hc0 : upd H c (.lst (ns.map V.int)) c = some (.lst (ns.map V.int)) := upd_same
  generalize upd H c (.lst (ns.map V.int)) = H0 at hc0 ⊢
  refine ⟨_, rfl, c, ns, 0, rfl, SqL.of hc0, by decide, fun z0 => ?_⟩
  refine ⟨_, 16, rfl, rfl, by show (0 : Int) < 16; decide, _, _, rfl, rfl, ?_⟩
  obtain ⟨d, hd, d1, d2⟩ : ∃ d : Nat, 1 + z0 % 16 = (d : Int) ∧ 1 ≤ d ∧ d ≤ 16 := ⟨(1 + z0 % 16).toNat, by omega, by omega, by omega⟩
  show gName 1 (V.int (1 + z0 % 16)) _ _ _
  rw [hd]
  have kt : PySem.W.kitOne K (.type "list") (.type "list") = some true := by kernel_rfl
  have shB : SeqAt.shaped (.str "bad") = true := by decide +kernel
  -- the rows made
  refine ⟨_, rfl, c, _, rfl, .inl (SqL.of hc0), _, 200, rfl, ?_⟩
  rw [if_neg (by rw [List.length_map]; omega), List.length_map]
  refine ⟨(ns.length : Int), rfl, by omega, by omega, fun D nD => ?_⟩
  rw [Int.toNat_natCast]
  refine lc_range (fun i H' => ∃ ys ms, ms.length = i ∧ Ext H0 H' ∧ H' D = some (.lst ys) ∧ MadeL d H' ys ms) ⟨[], [], rfl, Ext.new nD, upd_same, .nil⟩ ?_ ?_
  · rintro i H' hi ⟨ys, ms, rfl, x, hD, hy⟩
    obtain ⟨z1, hz1⟩ : ∃ z1 : Int, (ns.map V.int)[ms.length]? = some (.int z1) := ⟨_, by rw [List.getElem?_map, List.getElem?_eq_getElem hi]; rfl⟩
    refine ⟨rfl, _, rfl, _, rfl, c, _, _, _, rfl, rfl, SqL.of (x.lst hc0), by rw [Int.zero_add]; exact atI_nat hz1, _, rfl, _, _, rfl, rfl, .inl ⟨by decide, by decide⟩, _, _, rfl, rfl, _, rfl, _, d, rfl, d1, d2, fun l due t dv H2 pl ll rd s2 nt ht hdv => ?_⟩
    have x2 := Ext.of_same s2
    have hD2 := x2.lst hD
    have hyl := hy.len
    exact ⟨ys, hD2, by omega, ys ++ [.ref t], ms ++ [(l, due)], by simp, (x.trans x2).mut nD, upd_same, ((hy.gr x2.gr).gr (Kp.lst hD2).gr).snoc (q := t) (dv := dv) (m := (l, due)) ((Kp.lst hD2) _ _ ht True.intro) (hdv.gr (Kp.lst hD2).gr) ⟨pl, ll, rd⟩⟩
  rintro H1 ⟨ys, ms, hml, x1, hD1, hy1⟩
  have hms : ms.length ≤ 63 := by omega
  have hyl1 := hy1.len
  -- each alone
  refine ⟨_, rfl, D, rfl, ⟨_, SqL.of hD1⟩, for_list (K := K) (a := D) (xs := ys) (fun i σ H' => ∃ (y3 : Option V), σ = [some (.ref c), some (.int (d : Int)), some (.ref D), y3, none, none, none, none, none, none] ∧ Ext H1 H') ⟨none, rfl, Ext.refl _⟩ (fun i σ H' _ ⟨_, _, x⟩ => SqL.of (x.lst hD1)) ?_ ?_⟩
  · rintro i x σ H' hx ⟨y3, rfl, xi⟩
    have hil := (List.getElem?_eq_some_iff.mp hx).1
    have hm : ms[i]? = some (ms[i]'(by omega)) := List.getElem?_eq_getElem _
    have hmem := List.getElem_mem (show i < ms.length by omega)
    generalize ms[i]'(by omega) = m at hm hmem
    obtain ⟨t, dv, rfl, ht, hdv⟩ := (hy1.gr xi.gr).at_ i x m hx hm
    obtain ⟨pl, ll, rd⟩ := hy1.ok m hmem
    exact ⟨_, rfl, t, _, 0, _, rfl, rfl, SqT.of ht, rfl, _, rfl, t, _, 1, _, rfl, rfl, SqT.of ht, rfl, _, rfl, m.1, d, m.2, dv, rfl, pl, ll, d2, rd, hdv, fun H2 x2 => ⟨_, rfl, iteF ⟨_, rfl, xi.trans x2⟩⟩⟩
  rintro σ H2 ⟨y3, rfl, x2⟩
  have hD2 := x2.lst hD1
  have hy2 := hy1.gr x2.gr
  -- all, and those that can be read
  refine ⟨_, rfl, _, rfl, D, rfl, ⟨_, SqL.of hD2⟩, fun F nF => ?_⟩
  refine lc_list (K := K) (a := D) (xs := ys) (fun i H' => ∃ zs, Ext H2 H' ∧ H' F = some (.lst zs) ∧ MadeL d H' zs ((ms.take i).filter fun m => !isBad m.2)) ⟨[], Ext.new nF, upd_same, .nil⟩ (fun i H' _ ⟨_, x, _⟩ => SqL.of (x.lst hD2)) ?_ ?_
  · rintro i x H' hx ⟨zs, xi, hF, hz⟩
    have hil := (List.getElem?_eq_some_iff.mp hx).1
    have hm : ms[i]? = some (ms[i]'(by omega)) := List.getElem?_eq_getElem _
    have hmem := List.getElem_mem (show i < ms.length by omega)
    generalize ms[i]'(by omega) = m at hm hmem
    obtain ⟨t, dv, rfl, ht, hdv⟩ := (hy2.gr xi.gr).at_ i x m hx hm
    obtain ⟨dd, dp, sh, eb, _⟩ := due_dp (K := K) hdv
    refine ⟨rfl, _, rfl, t, _, 1, _, rfl, rfl, SqT.of ht, rfl, dd, .str "bad", dp, .str _, sh, shB, _, rfl, ?_⟩
    rw [eb]
    have tf := take_filterM (fun m : List Nat × Due => !isBad m.2) ms hm
    cases hb : isBad m.2 with
    | false =>
      rw [hb] at tf
      refine iteT ⟨_, rfl, zs, hF, ?_, zs ++ [.ref t], xi.mut nF, upd_same, ?_⟩
      · have e1 := hz.len
        have e2 := List.length_filter_le (fun m : List Nat × Due => !isBad m.2) (ms.take i)
        rw [List.length_take] at e2
        omega
      · rw [tf]
        exact (hz.gr (Kp.lst hF).gr).snoc ((Kp.lst hF) _ _ ht True.intro) (hdv.gr (Kp.lst hF).gr) (hy1.ok m hmem)
    | true =>
      rw [hb] at tf
      refine iteF ⟨zs, xi, hF, ?_⟩
      rw [tf]
      simpa using hz
  rintro H3 ⟨zs, x3, hF3, hz3⟩
  rw [hyl1, List.take_length] at hz3
  refine ⟨by show 2 ≤ sizeLine; decide, fun tt ntt => ?_⟩
  have u4 := Ext.new (o := .tup [.ref D, .ref F]) ntt
  have htt : upd H3 tt (.tup [.ref D, .ref F]) tt = some (.tup [.ref D, .ref F]) := upd_same
  have hD4 := u4.lst (x3.lst hD2)
  have hy4 := (hy2.gr x3.gr).gr u4.gr
  have hF4 := u4.lst hF3
  have hz4 := hz3.gr u4.gr
  generalize upd H3 tt (.tup [.ref D, .ref F]) = H4 at htt hD4 hy4 hF4 hz4 ⊢
  have hfl := List.length_filter_le (fun m : List Nat × Due => !isBad m.2) ms
  refine ⟨tt, rfl, ⟨_, SqT.of htt⟩, for_tup (K := K) (a := tt) (xs := [.ref D, .ref F]) (fun i σ H' => ∃ (y3 y4 y5 y6 y7 : Option V), σ = [some (.ref c), some (.int (d : Int)), some (.ref D), y3, y4, y5, y6, y7, none, none] ∧ Ext H4 H') ⟨_, _, _, _, _, rfl, Ext.refl _⟩ (fun i σ H' _ ⟨_, _, _, _, _, _, x⟩ => SqT.of (x.tup htt)) ?_ (fun σ H' _ => q H')⟩
  rintro i x σ H5 hx ⟨y3, y4, y5, y6, y7, rfl, x5⟩
  obtain ⟨R, zs, ms, rfl, hR, hmd, hm63⟩ : ∃ (R : Addr) (zs : List V) (ms : List (List Nat × Due)), x = .ref R ∧ H5 R = some (.lst zs) ∧ MadeL d H5 zs ms ∧ ms.length ≤ 63 := by
    match i, hx with
    | 0, hx => cases hx; exact ⟨D, ys, ms, rfl, x5.lst hD4, hy4.gr x5.gr, hms⟩
    | 1, hx => cases hx; exact ⟨F, zs, _, rfl, x5.lst hF4, hz4.gr x5.gr, by omega⟩
    | n + 2, hx => simp at hx
  have hzl := hmd.len
  have hbl := bads_len
  -- where it cannot be read
  refine ⟨_, rfl, R, _, rfl, .inl (SqL.of hR), (zs.length : Int), rfl, by omega, by omega, fun D5 nD5 => ?_⟩
  rw [Int.toNat_natCast]
  refine lc_range (fun i H' => Ext H5 H' ∧ H' D5 = some (.lst (((bads 0 (ms.take i)).map fun n : Nat => (n : Int)).map V.int))) ⟨Ext.new nD5, upd_same⟩ ?_ ?_
  · rintro j H' hj ⟨xi, h5⟩
    have hm : ms[j]? = some (ms[j]'(by omega)) := List.getElem?_eq_getElem _
    have hv : zs[j]? = some (zs[j]'(by omega)) := List.getElem?_eq_getElem _
    generalize ms[j]'(by omega) = m at hm
    generalize zs[j]'(by omega) = v at hv
    obtain ⟨t, dv, rfl, ht, hdv⟩ := (hmd.gr xi.gr).at_ j v m hv hm
    obtain ⟨dd, dp, sh, eb, _⟩ := due_dp (K := K) hdv
    have ts : ms.take (j + 1) = ms.take j ++ [m] := by rw [List.take_succ, hm]; rfl
    have lj : (ms.take j).length = j := by rw [List.length_take]; omega
    refine ⟨rfl, _, rfl, _, rfl, R, _, _, _, rfl, rfl, SqL.of (xi.lst hR), by rw [Int.zero_add]; exact atI_nat hv, t, _, 1, _, rfl, rfl, SqT.of ht, rfl, dd, .str "bad", dp, .str _, sh, shB, _, rfl, ?_⟩
    rw [eb, ts, bads_snoc, lj]
    cases hb : isBad m.2 with
    | true =>
      refine iteT ⟨_, rfl, _, h5, ?_, xi.mut nD5, ?_⟩
      · rw [List.length_map, List.length_map]
        have := (bads_len (ms.take j) 0).1
        omega
      · rw [upd_same, if_pos rfl, List.map_append, List.map_append]
        rfl
    | false =>
      refine iteF ⟨xi, ?_⟩
      rw [if_neg Bool.false_ne_true, List.append_nil]
      exact h5
  rintro H6 ⟨x6, hD6⟩
  rw [hzl, List.take_length] at hD6
  have hR6 := x6.lst hR
  have hmd6 := hmd.gr x6.gr
  -- what is due
  refine ⟨_, rfl, R, _, rfl, .inl (SqL.of hR6), (zs.length : Int), rfl, by omega, by omega, fun D6 nD6 => ?_⟩
  rw [Int.toNat_natCast]
  refine lc_range (fun i H' => ∃ acc, Ext H6 H' ∧ H' D6 = some (.lst acc) ∧ ActsL H' acc (acts 0 (ms.take i))) ⟨[], Ext.new nD6, upd_same, .nil⟩ ?_ ?_
  · rintro j H' hj ⟨acc, xi, h6, ha⟩
    have hm : ms[j]? = some (ms[j]'(by omega)) := List.getElem?_eq_getElem _
    have hv : zs[j]? = some (zs[j]'(by omega)) := List.getElem?_eq_getElem _
    generalize ms[j]'(by omega) = m at hm
    generalize zs[j]'(by omega) = v at hv
    obtain ⟨t, dv, rfl, ht, hdv⟩ := (hmd6.gr xi.gr).at_ j v m hv hm
    obtain ⟨ml, due⟩ := m
    obtain ⟨dd, dp, sh, eb, en⟩ := due_dp (K := K) hdv
    have ts : ms.take (j + 1) = ms.take j ++ [(ml, due)] := by rw [List.take_succ, hm]; rfl
    have lj : (ms.take j).length = j := by rw [List.length_take]; omega
    have hIx : atI zs (0 + (j : Int)) = some (.ref t) := by rw [Int.zero_add]; exact atI_nat hv
    refine ⟨rfl, _, rfl, _, rfl, R, _, _, _, rfl, rfl, SqL.of (xi.lst hR6), hIx, t, _, 1, _, rfl, rfl, SqT.of ht, rfl, rfl, _, rfl, ?_⟩
    rw [en, ts, acts_snoc, lj]
    cases due with
    | non =>
      refine iteF (iteF ⟨acc, xi, h6, ?_⟩)
      rw [List.append_nil]
      exact ha
    | bad =>
      refine iteT ⟨_, rfl, _, rfl, R, _, _, _, rfl, rfl, SqL.of (xi.lst hR6), hIx, t, _, 1, _, rfl, rfl, SqT.of ht, rfl, dd, .str "bad", dp, .str _, sh, shB, _, rfl, ?_⟩
      rw [eb]
      refine iteF ⟨acc, xi, h6, ?_⟩
      rw [List.append_nil]
      exact ha
    | act a =>
      refine iteT ⟨_, rfl, _, rfl, R, _, _, _, rfl, rfl, SqL.of (xi.lst hR6), hIx, t, _, 1, _, rfl, rfl, SqT.of ht, rfl, dd, .str "bad", dp, .str _, sh, shB, _, rfl, ?_⟩
      rw [eb]
      obtain ⟨pa, rfl, hpa, hok⟩ := hdv
      refine iteT ⟨_, rfl, _, rfl, R, _, _, _, rfl, rfl, SqL.of (xi.lst hR6), hIx, t, _, 1, _, rfl, rfl, SqT.of ht, rfl, _, rfl, by show 1 ≤ sizeLine; decide, fun t2 nt2 => ?_⟩
      have v1 := Ext.new (o := .tup [.int (0 + (j : Int))]) nt2
      have hpa2 := v1.tup hpa
      have h62 := v1.lst h6
      have ha2 := ha.gr v1.gr
      have hb2 : upd H' t2 (.tup [.int (0 + (j : Int))]) t2 = some (.tup [.int (0 + (j : Int))]) := upd_same
      have xi2 := xi.trans v1
      generalize upd H' t2 (.tup [.int (0 + (j : Int))]) = H7 at hpa2 h62 ha2 hb2 xi2 ⊢
      refine ⟨pa, t2, _, _, rfl, rfl, SqT.of hpa2, SqT.of hb2, (by cases a <;> simp [actV]), (by cases a <;> (show _ ≤ sizeLine) <;> simp [actV, e16]), (fun z => nomatch z), fun _ q6 nq6 => ?_⟩
      have v2 := Ext.new (o := .tup (actV a ++ [.int (0 + (j : Int))])) nq6
      have h63 := v2.lst h62
      have ne6 : q6 ≠ D6 := fun z => by rw [z, h62] at nq6; cases nq6
      have hal := ha.len
      have hal2 := acts_len (ms.take j) 0
      refine ⟨acc, h63, by omega, acc ++ [.ref q6], (xi2.trans v2).mut nD6, upd_same, ((ha2.gr v2.gr).gr (Kp.lst h63).gr).snoc (e := (a, 0 + j)) ?_⟩
      rw [upd_ne ne6, upd_same]
      show _ = some (HO.tup (actV a ++ [.int ((0 + j : Nat) : Int)]))
      rw [Int.natCast_add]
      rfl
  rintro H7 ⟨acc, x7, hD7, ha7⟩
  rw [hzl, List.take_length] at ha7
  have hR7 := x7.lst hR6
  have hD57 := x7.lst hD6
  have hmd7 := hmd6.gr x7.gr
  -- all rows as one text
  refine ⟨⟨_, rfl⟩, _, rfl, R, rfl, ⟨_, SqL.of hR7⟩, fun D8 nD8 => ?_⟩
  refine lc_list (K := K) (a := R) (xs := zs) (fun i H' => Ext H7 H' ∧ H' D8 = some (.lst ((((ms.take i).map (·.1)).map S).map V.str))) ⟨Ext.new nD8, upd_same⟩ (fun i H' _ ⟨x, _⟩ => SqL.of (x.lst hR7)) ?_ ?_
  · rintro j v H' hv ⟨xi, h8⟩
    have hil := (List.getElem?_eq_some_iff.mp hv).1
    have hm : ms[j]? = some (ms[j]'(by omega)) := List.getElem?_eq_getElem _
    generalize ms[j]'(by omega) = m at hm
    obtain ⟨t, dv, rfl, ht, hdv⟩ := (hmd7.gr xi.gr).at_ j v m hv hm
    refine ⟨rfl, _, rfl, t, _, 0, _, rfl, rfl, SqT.of ht, rfl, _, h8, ?_, xi.mut nD8, ?_⟩
    · rw [List.length_map, List.length_map, List.length_map, List.length_take]
      omega
    · rw [upd_same, List.take_succ, hm, List.map_append, List.map_append, List.map_append]
      rfl
  rintro H8 ⟨x8, hD8⟩
  rw [hzl, List.take_length] at hD8
  have hokl := hmd.ok
  have hoks : ∀ m ∈ ms, ∀ a, m.2 = .act a → ActOk a := fun m hm a e => by
    obtain ⟨j, hj⟩ := List.getElem?_of_mem hm
    have hjl := (List.getElem?_eq_some_iff.mp hj).1
    obtain ⟨_, dv, _, _, hdv⟩ := hmd.at_ j (zs[j]'(by omega)) m (List.getElem?_eq_getElem _) hj
    rw [e] at hdv
    obtain ⟨_, _, _, hok⟩ := hdv
    exact hok
  have jl := join_len (ms.map (·.1)) fun l hl => by obtain ⟨m, hm, rfl⟩ := List.mem_map.mp hl; exact (hokl m hm).2.1
  have ja := join_asc (ms.map (·.1)) fun l hl => by obtain ⟨m, hm, rfl⟩ := List.mem_map.mp hl; exact (hokl m hm).1
  have rj := read_joined hokl
  rw [List.length_map] at jl
  have eNl : Str.ofString "\n" = S [10] := TL.ext_tl (by decide +kernel)
  refine ⟨_, D8, (ms.map (·.1)).map S, rfl, rfl, .inl (SqL.of hD8), ?_, ?_⟩
  · rw [SX.lens, eNl, S_len, List.length_map, List.length_map, List.map_map]
    have := sum60 ms fun m hm => (hokl m hm).2.1
    show ((ms.map fun m => m.1.length).sum) + ms.length * 1 ≤ _
    omega
  rw [eNl, SX.join_S]
  have xA := (x6.trans x7).trans x8
  refine ⟨_, rfl, _, d, rfl, ja, by omega, by omega, fun as has => ?_, fun b hb => ?_⟩
  · rw [rj, expect_eq] at has
    cases hbd : bads 0 ms with
    | cons b r => rw [hbd] at has; cases has
    | nil =>
      rw [hbd] at has
      cases has
      refine fun t ts H9 x9 k9 nt ht hts => ?_
      have D5' := x9.lst (x8.lst hD57)
      rw [hbd] at D5'
      refine ⟨_, rfl, by show 0 ≤ sizeLine; decide, fun e0 ne0 => ?_⟩
      have u0 := Ext.new (o := .lst []) ne0
      refine ⟨.list [], .list [], .lst (SqL.of (u0.lst D5')) .nil, .lst (SqL.of upd_same) .nil, by decide +kernel, by decide +kernel, _, rfl, iteF ?_⟩
      obtain ⟨dd, dp1, dp2, sh, eq⟩ := eq_acts (K := K) (SqL.of (u0.lst ht)) (SqL.of (u0.lst (x9.lst (x8.lst hD7)))) (hts.gr u0.gr) (ha7.gr ((x8.trans x9).trans u0).gr) (acts_ok hoks)
      · refine ⟨_, rfl, _, rfl, dd, dd, dp1, dp2, sh, sh, _, rfl, ?_⟩
        rw [eq]
        refine iteF ⟨_, rfl, .ref t, .ty "list", _, _, true, rfl, .ty _, .base (.lst (u0.lst ht)), kt, _, rfl, iteF ?_⟩
        exact ⟨_, _, _, _, _, rfl, ((x5.trans xA).trans x9).trans u0⟩
  · rw [rj, expect_eq] at hb
    cases hbd : bads 0 ms with
    | nil => rw [hbd] at hb; cases hb
    | cons b' r =>
      rw [hbd] at hb
      cases hb
      refine fun Dx hDx dx H9 x9 k9 ndx hdx => ?_
      rw [EI.gC] at hDx
      cases hDx
      have D5' := x9.lst (x8.lst hD57)
      rw [hbd] at D5'
      refine ⟨true, EI.eP, fun _ e ne => ⟨rfl, ?_⟩, fun z => nomatch z⟩
      refine ⟨_, rfl, by show 0 ≤ sizeLine; decide, fun e0 ne0 => ?_⟩
      have u0 := Ext.new (o := .lst []) ne0
      obtain ⟨ds, dpl, cl, dl, eqn⟩ := dp_ints (K := K) (H := upd H9 e0 (.lst [])) (b :: r)
      have c' : (PyData.list ds).canLay0 = true := cl
      refine ⟨.list ds, .list [], .lst (SqL.of (u0.lst D5')) dpl, .lst (SqL.of upd_same) .nil, shaped_of c' (by show PyData.depthAll ds + 1 ≤ 64; omega), by decide +kernel, _, rfl, ?_⟩
      rw [eqn, decide_eq_false (List.cons_ne_nil _ _)]
      refine iteF ⟨_, rfl, rfl, rfl, dx, _, .int (b : Int), rfl, u0.keep _ _ hdx (fun _ z => nomatch z), rfl, _, rfl, D5, _, 0, .int (b : Int), rfl, rfl, SqL.of (u0.lst D5'), (show atI _ ((0 : Nat) : Int) = _ from atI_nat rfl), rfl, _, rfl, ?_⟩
      rw [decide_eq_true rfl]
      exact iteF ⟨_, _, _, _, _, rfl, ((x5.trans xA).trans x9).trans u0⟩
end

end My
open PySem PySem.W PyProof.Rows
set_option maxHeartbeats 0 in
theorem PySem.Challenge.cw_growbook_k09_rows_read_holds : PySem.Challenge.rw_growbook_k09_rows_read.Holds := by
  w_on; o_law; k_head; (case hw => w_witness2)
  k_fill
  refine L2.walk_of (l := PySem.Challenge.rw_growbook_k09_rows_read) (n := 63) (k := 7) (x := "_law_script") (CX := fun _ => L2.CX0) (sp := fun w => My.spLaw1 _) rfl (by decide) rfl ⟨rfl, by decide, by decide⟩ (fun w h Y => PySem.W.kIn_of Y) ?F (fun _ _ a ns hl _ hS => ⟨a, ns, rfl, hS, hl, fun _ => rfl⟩) (fun _ _ _ _ _ h => h)
  case F =>
    intro w mg fa h KX G hmg
    refine My.ok_law (cc := fa) ?T hmg
    refine' My.txt_mk KX G ?a0 ?l0 ?c0 ?k0 ?a1 ?l1 ?c1 ?k1 ?a2 ?l2 ?c2 ?k2 ?a3 ?l3 ?c3 ?k3 ?a4 ?l4 ?c4 ?k4 ?a5 ?l5 ?c5 ?k5 ?a6 ?l6 ?c6 ?k6 ?a7 ?l7 ?c7 ?k7 ?a8 ?l8 ?c8 ?k8 ?a9 ?l9 ?c9 ?k9 ?a10 ?l10 ?c10 ?k10 ?z_len ?z_isinstance ?z_int ?z_list ?z_tuple ?z_range ?z_str ?z_min ?z_enumerate ?z_ValueError ?g_BookError ?g_NoPlace ?g_BadPaper ?g_BadRow ?xL_BadRow ?sa_BadRow ?ga_BadRow ?gg_BadRow ?nf_BadRow ?kC_BadRow ?eC_BadRow ?tC_BadRow ?hC_BadRow ?iac_BadRow ?xm_BadRow ?xe_BadRow ?fi_BadRow ?ti_BadRow ?bg_BadRow ?br_BadRow ?bf_BadRow ?xn_BadRow ?xt_BadRow ?li_BadRow ?ci_BadRow ?ki_BadRow ?q_BadRow_BadPaper ?q_BadRow_NoPlace ?q_BadRow_ValueError
    (case a0 => k_is)
    (case l0 => k_is)
    (case c0 => k_is)
    (case k0 => k_is)
    (case a1 => k_is)
    (case l1 => k_is)
    (case c1 => k_is)
    (case k1 => k_is)
    (case a2 => k_is)
    (case l2 => k_is)
    (case c2 => k_is)
    (case k2 => k_is)
    (case a3 => k_is)
    (case l3 => k_is)
    (case c3 => k_is)
    (case k3 => k_is)
    (case a4 => k_is)
    (case l4 => k_is)
    (case c4 => k_is)
    (case k4 => k_is)
    (case a5 => k_is)
    (case l5 => k_is)
    (case c5 => k_is)
    (case k5 => k_is)
    (case a6 => k_is)
    (case l6 => k_is)
    (case c6 => k_is)
    (case k6 => k_is)
    (case a7 => k_is)
    (case l7 => k_is)
    (case c7 => k_is)
    (case k7 => k_is)
    (case a8 => k_is)
    (case l8 => k_is)
    (case c8 => k_is)
    (case k8 => k_is)
    (case a9 => k_is)
    (case l9 => k_is)
    (case c9 => k_is)
    (case k9 => k_is)
    (case a10 => k_is)
    (case l10 => k_is)
    (case c10 => k_is)
    (case k10 => k_is)
    (case z_len => k_is)
    (case z_isinstance => k_is)
    (case z_int => k_is)
    (case z_list => k_is)
    (case z_tuple => k_is)
    (case z_range => k_is)
    (case z_str => k_is)
    (case z_min => k_is)
    (case z_enumerate => k_is)
    (case z_ValueError => k_is)
    (case g_BookError => k_is)
    (case g_NoPlace => k_is)
    (case g_BadPaper => k_is)
    (case g_BadRow => k_is)
    (case xL_BadRow => k_is)
    (case sa_BadRow => k_is)
    (case ga_BadRow => k_is)
    (case gg_BadRow => k_is)
    (case nf_BadRow => k_is)
    (case kC_BadRow => k_is)
    (case eC_BadRow => k_is)
    (case tC_BadRow => k_is)
    (case hC_BadRow => k_is)
    (case iac_BadRow => k_is)
    (case xm_BadRow => k_is)
    (case xe_BadRow => kernel_rfl)
    (case fi_BadRow => k_is)
    (case ti_BadRow => k_is)
    (case bg_BadRow => k_is)
    (case br_BadRow => kernel_rfl)
    (case bf_BadRow => kernel_rfl)
    (case xn_BadRow => k_is)
    (case xt_BadRow => k_is)
    (case li_BadRow => k_is)
    (case ci_BadRow => k_is)
    (case ki_BadRow => k_is)
    (case q_BadRow_BadPaper => kernel_rfl)
    (case q_BadRow_NoPlace => kernel_rfl)
    (case q_BadRow_ValueError => kernel_rfl)
#print axioms PySem.Challenge.cw_growbook_k09_rows_read_holds

