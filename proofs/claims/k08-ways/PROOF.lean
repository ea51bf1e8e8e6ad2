import PyProof.Rows.All
import Wide.All
import OpenK.AllK
import Wide.FinOn
import HandS.ForMost
import HandS.WideBits
import HandS.IsInst
import HandS.Codes
import HandS.Evl
import HandS.Nested
import HandS.EndTab
import HandS.TupLen
import HandS.Conv
import HandS.Rev
import HandS.ForExc
import HandS.ExcIs
import HandS.TryElse
import HandS.Style
import HandS.Defaults
import HandS.SortInts
import HandS.More
import HandS.Walk
import HandS.HotCalls
import HandS.SuiteRaise
import PySem.Challenge.RW_growbook_k08_ways

set_option Elab.async false
set_option linter.all false
set_option maxRecDepth 100000
set_option maxHeartbeats 4000000
namespace My
open PySem PySem.Spec PyProof.Rows L2
open C8 (Cal Met Mak CalAt pe_c pe_mk pe_mt pe_mt0)

/-! ### the text by places -/
def inDef (s : Stmt) (j : Nat) : Stmt := (defBody s).getD j (.Pass ⟨0, 0, 0, 0⟩)
def topS (i : Nat) : Stmt := PySem.Challenge.pw_growbook_k08_ways.main.body.getD i (.Pass ⟨0, 0, 0, 0⟩)
abbrev s__wall : Stmt := topS 0
abbrev N__wall : List Str := ["k"]
theorem sc__wall : FnScope ["k"] ["k"] (defScope s__wall) := ⟨rfl, rfl, rfl, by decide +kernel, rfl, by decide +kernel, by decide +kernel⟩
abbrev s_none_seal : Stmt := topS 5
abbrev N_none_seal : List Str := ["seal"]
theorem sc_none_seal : FnScope ["seal"] ["seal"] (defScope s_none_seal) := ⟨rfl, rfl, rfl, by decide +kernel, rfl, by decide +kernel, by decide +kernel⟩
abbrev s_parted : Stmt := topS 7
abbrev N_parted : List Str := ["rows", "level", "low", "high", "row"]
theorem sc_parted : FnScope ["rows", "level", "low", "high", "row"] ["rows", "level"] (defScope s_parted) := ⟨rfl, rfl, rfl, by decide +kernel, rfl, by decide +kernel, by decide +kernel⟩
abbrev s_part_top : Stmt := topS 8
abbrev N_part_top : List Str := ["seal", "rows", "level", "both"]
theorem sc_part_top : FnScope ["seal", "rows", "level", "both"] ["seal", "rows", "level"] (defScope s_part_top) := ⟨rfl, rfl, rfl, by decide +kernel, rfl, by decide +kernel, by decide +kernel⟩
abbrev s_Table___init__ : Stmt := inClass (topS 9) 0
abbrev N_Table___init__ : List Str := ["self", "seal", "depth"]
theorem sc_Table___init__ : FnScope ["self", "seal", "depth"] ["self", "seal", "depth"] (defScope s_Table___init__) := ⟨rfl, rfl, rfl, by decide +kernel, rfl, by decide +kernel, by decide +kernel⟩
abbrev s_Table_asked : Stmt := inClass (topS 9) 1
abbrev N_Table_asked : List Str := ["self", "key"]
theorem sc_Table_asked : FnScope ["self", "key"] ["self", "key"] (defScope s_Table_asked) := ⟨rfl, rfl, rfl, by decide +kernel, rfl, by decide +kernel, by decide +kernel⟩
abbrev s_Table_put : Stmt := inClass (topS 9) 2
abbrev N_Table_put : List Str := ["self", "key", "text"]
theorem sc_Table_put : FnScope ["self", "key", "text"] ["self", "key", "text"] (defScope s_Table_put) := ⟨rfl, rfl, rfl, by decide +kernel, rfl, by decide +kernel, by decide +kernel⟩
abbrev s_Table_cut : Stmt := inClass (topS 9) 3
abbrev N_Table_cut : List Str := ["self", "key"]
theorem sc_Table_cut : FnScope ["self", "key"] ["self", "key"] (defScope s_Table_cut) := ⟨rfl, rfl, rfl, by decide +kernel, rfl, by decide +kernel, by decide +kernel⟩
abbrev s_Table_value : Stmt := inClass (topS 9) 4
abbrev N_Table_value : List Str := ["self", "key"]
theorem sc_Table_value : FnScope ["self", "key"] ["self", "key"] (defScope s_Table_value) := ⟨rfl, rfl, rfl, by decide +kernel, rfl, by decide +kernel, by decide +kernel⟩
abbrev s_Table_rows : Stmt := inClass (topS 9) 5
abbrev N_Table_rows : List Str := ["self", "key", "text"]
theorem sc_Table_rows : FnScope ["self", "key", "text"] ["self"] (defScope s_Table_rows) := ⟨rfl, rfl, rfl, by decide +kernel, rfl, by decide +kernel, by decide +kernel⟩
abbrev s_Table_head : Stmt := inClass (topS 9) 6
abbrev N_Table_head : List Str := ["self"]
theorem sc_Table_head : FnScope ["self"] ["self"] (defScope s_Table_head) := ⟨rfl, rfl, rfl, by decide +kernel, rfl, by decide +kernel, by decide +kernel⟩
abbrev s_Table_way : Stmt := inClass (topS 9) 7
abbrev N_Table_way : List Str := ["self", "key", "rows", "level", "others", "both", "bit"]
theorem sc_Table_way : FnScope ["self", "key", "rows", "level", "others", "both", "bit"] ["self", "key"] (defScope s_Table_way) := ⟨rfl, rfl, rfl, by decide +kernel, rfl, by decide +kernel, by decide +kernel⟩
abbrev s_Table_twin : Stmt := inClass (topS 9) 8
abbrev N_Table_twin : List Str := ["self"]
theorem sc_Table_twin : FnScope ["self"] ["self"] (defScope s_Table_twin) := ⟨rfl, rfl, rfl, by decide +kernel, rfl, by decide +kernel, by decide +kernel⟩
abbrev s__law_cell_at : Stmt := topS 11
abbrev N__law_cell_at : List Str := ["_law_script", "_law_k"]
theorem sc__law_cell_at : FnScope ["_law_script", "_law_k"] ["_law_script", "_law_k"] (defScope s__law_cell_at) := ⟨rfl, rfl, rfl, by decide +kernel, rfl, by decide +kernel, by decide +kernel⟩
abbrev s__law_plain : Stmt := topS 12
abbrev N__law_plain : List Str := ["_law_mark", "_law_one", "_law_two"]
theorem sc__law_plain : FnScope ["_law_mark", "_law_one", "_law_two"] ["_law_mark", "_law_one", "_law_two"] (defScope s__law_plain) := ⟨rfl, rfl, rfl, by decide +kernel, rfl, by decide +kernel, by decide +kernel⟩
abbrev s__law_turned : Stmt := topS 13
abbrev N__law_turned : List Str := ["_law_mark", "_law_one", "_law_two"]
theorem sc__law_turned : FnScope ["_law_mark", "_law_one", "_law_two"] ["_law_mark", "_law_one", "_law_two"] (defScope s__law_turned) := ⟨rfl, rfl, rfl, by decide +kernel, rfl, by decide +kernel, by decide +kernel⟩
abbrev s__law_numbering : Stmt := topS 14
abbrev N__law_numbering : List Str := ["_law_numbered", "_law_told"]
theorem sc__law_numbering : FnScope ["_law_numbered", "_law_told"] [] (defScope s__law_numbering) := ⟨rfl, rfl, rfl, by decide +kernel, rfl, by decide +kernel, by decide +kernel⟩
abbrev s__law_numbering__law_numbered : Stmt := inDef (topS 14) 1
abbrev N__law_numbering__law_numbered : List Str := ["_law_mark", "_law_one", "_law_two", "_law_told"]
abbrev s__law_seal_by : Stmt := topS 15
abbrev N__law_seal_by : List Str := ["_law_script", "_law_kind"]
theorem sc__law_seal_by : FnScope ["_law_script", "_law_kind"] ["_law_script"] (defScope s__law_seal_by) := ⟨rfl, rfl, rfl, by decide +kernel, rfl, by decide +kernel, by decide +kernel⟩
abbrev s__law_draw : Stmt := topS 16
abbrev N__law_draw : List Str := ["_law_cell", "_law_k", "_law_many", "_law_primes"]
theorem sc__law_draw : FnScope ["_law_cell", "_law_k", "_law_many", "_law_primes"] ["_law_cell", "_law_k", "_law_many"] (defScope s__law_draw) := ⟨rfl, rfl, rfl, by decide +kernel, rfl, by decide +kernel, by decide +kernel⟩
abbrev s__law_part : Stmt := topS 17
abbrev N__law_part : List Str := ["_law_seal", "_law_rows", "_law_level", "_law_half", "_law_low", "_law_high", "_law_row"]
theorem sc__law_part : FnScope ["_law_seal", "_law_rows", "_law_level", "_law_half", "_law_low", "_law_high", "_law_row"] ["_law_seal", "_law_rows", "_law_level"] (defScope s__law_part) := ⟨rfl, rfl, rfl, by decide +kernel, rfl, by decide +kernel, by decide +kernel⟩
abbrev s__law_way : Stmt := topS 18
abbrev N__law_way : List Str := ["_law_seal", "_law_rows", "_law_depth", "_law_key", "_law_others", "_law_level", "_law_half", "_law_row"]
theorem sc__law_way : FnScope ["_law_seal", "_law_rows", "_law_depth", "_law_key", "_law_others", "_law_level", "_law_half", "_law_row"] ["_law_seal", "_law_rows", "_law_depth", "_law_key"] (defScope s__law_way) := ⟨rfl, rfl, rfl, by decide +kernel, rfl, by decide +kernel, by decide +kernel⟩
abbrev s_law : Stmt := topS 19
abbrev N_law : List Str := ["_law_script", "_law_seal", "_law_depth", "_law_table", "_law_held", "_law_most", "_law_keys", "_law_at", "_law_cell", "_law_key", "_law_rows", "_law_told"]
theorem sc_law : FnScope ["_law_script", "_law_seal", "_law_depth", "_law_table", "_law_held", "_law_most", "_law_keys", "_law_at", "_law_cell", "_law_key", "_law_rows", "_law_told"] ["_law_script"] (defScope s_law) := ⟨rfl, rfl, rfl, by decide +kernel, rfl, by decide +kernel, by decide +kernel⟩

/-! ### a def of the module -/
structure DefX (K : PySem.W.Frag) (mg : Str → Option Value) (x : Str) (st : Stmt) (ps : List Str) : Prop where
  ex : ∃ (f : Addr) (fd : FuncData), L2.Fun K x x st f fd ∧ mg x = some (.ref f) ∧ ∀ us : List Value, us.length = ps.length → bindArgs fd ⟨us, []⟩ = pure (ps.zip us)
/-- a def that makes defs: its code object's address is told -/
structure DefM (K : PySem.W.Frag) (mg : Str → Option Value) (x : Str) (st : Stmt) (c : Addr) : Prop where
  ex : ∃ (f : Addr) (oc : Value) (od : Option Addr) (kV doc pm : Value) (an : Option Addr) (ct : Value) (osl : Array (Option Value)), K.lookup f = some ⟨oc, od, .func (PySem.W.fnOf x x (defArgs st) (defBody st) (defScope st) .none kV doc pm an (.ref c) ct), osl⟩ ∧
    PySem.W.codeIn K (.ref c) x = true ∧ PySem.W.keepIn K (.ref f) = true ∧ mg x = some (.ref f)
/-- an own class of errors over ValueError, without an __init__ of its own -/
structure ExcF (K : PySem.W.Frag) (C : Addr) : Prop where
  xP : PySem.W.excIn K C [.type "ValueError", .type "Exception", .type "BaseException", .type "object"] "ValueError.__new__" = true
  kP : PySem.W.keepIn K (.ref C) = true
  bP : PySem.W.subIn K (.ref C) (.type "BaseException") = some true
  tP : PySem.W.typeIn K (.ref C) = some (.type "type")
  cP : ExcC K C
  eP : PySem.W.exmOne K (.ref C) (.ref C) = some true
structure ExcX (K : PySem.W.Frag) (mg : Str → Option Value) (x : Str) : Prop where
  ex : ∃ C, mg x = some (.ref C) ∧ ExcF K C
/-- a def that may raise -/
structure CalX (P : Program) (w : World) (K : PySem.W.Frag) (mg : Str → Option Value) (base : Heap) (k : Nat) (x : Str) (sp : Sp) : Prop where
  ex : ∃ (f : Addr) (fd : FuncData) (ps : List Str), FnOk P w K mg base (L2.CX P w) k f fd ps sp ∧ mg x = some (.ref f) ∧ PySem.W.keepIn K (.ref f) = true ∧ Binds K fd ps []
theorem calX_of {P : Program} {w : World} {K : PySem.W.Frag} {mg : Str → Option Value} {base : Heap} {x : Str} {st : Stmt} {N ps : List Str} {k : Nat} {sp : Sp} (D : DefX K mg x st ps) (S : FnScope N ps (defScope st)) (len : ∀ vs H Q E, sp vs H Q E → vs.length = ps.length)
    (hbody : ∀ (f : Addr) (cdv : Value) (A : Around) (outer : List Env) (s : Shared) (H : Hp) (vs : List V) (Q : VK) (E : XK), Room k (A.deeper (envOfC x (defScope st) s.heap.objs.size f cdv)) → sp vs H Q E →
      ∃ t, PSs (cxOf (L2.CX P w) P w K mg base N x (defScope st) f cdv A outer s H E) (defBody st) t ∧ t { nx := fun _ H' => Q .non H', rt := Q } (start N vs) H) : CalX P w K mg base (k + 1) x sp := by
  obtain ⟨f, fd, F, m, b⟩ := D.ex
  exact ⟨f, fd, ps, F.okX S len (hbody f), m, F.kp, .all b⟩
theorem calX_mono {P : Program} {w : World} {K : PySem.W.Frag} {mg : Str → Option Value} {base : Heap} {x : Str} {j k : Nat} {sp : Sp} (c : CalX P w K mg base j x sp) (h : j ≤ k) : CalX P w K mg base k x sp := by
  obtain ⟨f, fd, ps, F, m, kp, b⟩ := c.ex
  exact ⟨f, fd, ps, F.mono h, m, kp, b⟩
/-- x(..) that may raise, within what takes W -/
theorem pe_cx {X : Cx} {k j : Nat} {x : Str} {sp : Sp} {W : WX} {t : TA} {e : Expr} {es : List Expr} {p pos : Pos} (c : CalX X.prog X.w X.K X.mg X.base k x sp) (tk : Takes X W) (hr : Room j X.A) (hk : k ≤ j) (hg : Gl X x) (ha : PA X (e :: es) t)
    (hdb : (x == ("__debug__" : Str)) = false := by decide) (he : starEach (e :: es) X.env = (false, eval e X.env) :: starEach es X.env := by rfl) (hpl : (backTo pos (starEach es X.env)).any (·.1) = false := by rfl) :
    PE X (.Call (.Name x p) (e :: es) [] pos) (tCallS sp (WE W) t) := by
  obtain ⟨f, fd, ps, F, m, kp, b⟩ := c.ex
  exact pe_callS F (hr.mono hk) hg m kp b (fun σ => passAt tk σ) ha hdb he hpl
theorem zc_of {cls : Value} {C : Addr} {d : Option Addr} {oe : Obj} (hz : Zc cls d oe) (h : cls = .ref C ∧ d = none) : Zc (.ref C) none oe := by
  rw [← h.1, ← h.2]
  exact hz
/-- known where the reading is at hand -/
theorem pss_when {X : Cx} {st : List Stmt} {t : TS} {P : Prop} (h : P → PSs X st t) : PSs X st (fun D σ H => P ∧ t D σ H) := ⟨fun pins s σ H D I ⟨p, q⟩ => (h p).run pins s σ H D I q⟩
theorem pe_when {X : Cx} {e : Expr} {t : TE} {P : Prop} (h : P → PE X e t) : PE X e (fun σ H Q => P ∧ t σ H Q) := ⟨fun pins s σ H Q I ⟨p, q⟩ => (h p).run pins s σ H Q I q⟩
/-- raise X('..') -/
theorem ps_raiseX {X : Cx} {W : WX} {x m : Str} {C : Addr} {j : Nat} {p p2 p3 pos : Pos} (F : ExcF X.K C) (gC : X.mg x = some (.ref C)) (hc : X.calm = true) (tk : Takes X W) (hg : Gl X x) (hdb : (x == ("__debug__" : Str)) = false := by decide) :
    PS X (.Raise (some (.Call (.Name x p) [.Constant (.str m) j p2] [] p3)) none pos) (fun _ σ H => W (.ref C) none σ H) :=
  ps_raise hc tk (pmk_own PySem.F.excBase_ValueError F.xP gC F.kP (raises_own F.bP F.tP) hg hdb)
theorem cal_of {P : Program} {w : World} {K : PySem.W.Frag} {mg : Str → Option Value} {base : Heap} {x : Str} {st : Stmt} {N ps : List Str} {k : Nat} {sp : Sp} (D : DefX K mg x st ps) (S : FnScope N ps (defScope st)) (len : ∀ vs H Q E, sp vs H Q E → vs.length = ps.length)
    (hbody : ∀ (f : Addr) (cdv : Value) (A : Around) (outer : List Env) (s : Shared) (H : Hp) (vs : List V) (Q : VK) (E : XK), Room k (A.deeper (envOfC x (defScope st) s.heap.objs.size f cdv)) → sp vs H Q E →
      ∃ t, PSs (cxOf L2.CX0 P w K mg base N x (defScope st) f cdv A outer s H E).nox (defBody st) t ∧ t { nx := fun _ H' => Q .non H', rt := Q } (start N vs) H) : Cal P w K mg base (k + 1) x sp [] := by
  obtain ⟨f, fd, F, m, b⟩ := D.ex
  exact ⟨f, fd, ps, [], F.ok S len (hbody f), m, F.kp, .all b, .nil⟩
/-- the law's own def, for the end -/
theorem law_fn {P : Program} {w : World} {K : PySem.W.Frag} {mg : Str → Option Value} {x p : Str} {st : Stmt} {N : List Str} {k : Nat} {sp : Sp} {fa : Addr} (D : DefX K mg x st [p]) (hfa : mg x = some (.ref fa)) (S : FnScope N [p] (defScope st)) (len : ∀ vs H Q E, sp vs H Q E → vs.length = 1)
    (hbody : ∀ (base : Heap) (f : Addr) (cdv : Value) (A : Around) (outer : List Env) (s : Shared) (H : Hp) (vs : List V) (Q : VK) (E : XK), Room k (A.deeper (envOfC x (defScope st) s.heap.objs.size f cdv)) → sp vs H Q E →
      ∃ t, PSs (cxOf L2.CX0 P w K mg base N x (defScope st) f cdv A outer s H E).nox (defBody st) t ∧ t { nx := fun _ H' => Q .non H', rt := Q } (start N vs) H) :
    ∃ fd : FuncData, (∀ (s : Shared) (v : Value), BindsTo s fd ⟨[v], []⟩ [(p, v)]) ∧ ∀ base : Heap, K.In base → base.Ns mainGlobals mg → FnOk P w K mg base L2.CX0 (k + 1) fa fd [p] sp := by
  obtain ⟨f, fd, F, m, b⟩ := D.ex
  have e := hfa.symm.trans m
  cases e
  exact ⟨fd, fun s v => .of_eq (b [v] rfl), fun base _ _ => F.ok S len (hbody base fa)⟩
theorem cut_to (xs : List V) (n : Nat) : cutV xs none (some (n : Int)) = xs.take n := by
  unfold cutV
  rw [HT.sIx_none, HT.sIx_nat, List.drop_zero, Nat.sub_zero]
  by_cases h : n ≤ xs.length
  · rw [Nat.min_eq_left h]
  · rw [Nat.min_eq_right (by omega), List.take_length, List.take_of_length_le (by omega)]
theorem cut_from (xs : List V) (n : Nat) : cutV xs (some (n : Int)) none = xs.drop n := by
  unfold cutV
  rw [HT.sIx_none, HT.sIx_nat]
  by_cases h : n ≤ xs.length
  · rw [Nat.min_eq_left h, List.take_of_length_le (by rw [List.length_drop]; omega)]
  · rw [Nat.min_eq_right (by omega), List.drop_length, List.drop_eq_nil_of_le (by omega), List.take_nil]
theorem cut_mid {xs : List V} {n m : Nat} (h : n ≤ m) (hm : m ≤ xs.length) : cutV xs (some (n : Int)) (some (m : Int)) = (xs.drop n).take (m - n) := by
  unfold cutV
  rw [HT.sIx_nat, HT.sIx_nat, Nat.min_eq_left hm, Nat.min_eq_left (show n ≤ xs.length by omega)]
theorem take63 {ns : List Int} (h : ns.length ≤ 63) : cutV (ns.map V.int) none (some 63) = ns.map V.int := by
  rw [show (63 : Int) = ((63 : Nat) : Int) from rfl, cut_to, List.take_of_length_le (by rw [List.length_map]; exact h)]
theorem small {n : Nat} (h : n ≤ 1000) : n ≤ sizeLine := Nat.le_of_lt (small1000 h)
theorem same_upd {H : Hp} {p : Addr} {o : HO} (h : H p = none) : Same H (upd H p o) := fun b x e => by
  rw [upd_ne (ne_of_none e h)]
  exact e

/-! ### classes -/
structure MetX (K : PySem.W.Frag) (C : Addr) (m qual : Str) (st : Stmt) (ps : List Str) : Prop where
  ex : ∃ (f : Addr) (fd : FuncData), L2.Fun K m qual st f fd ∧ Meth K C m f ∧ ∀ us : List Value, us.length = ps.length → bindArgs fd ⟨us, []⟩ = pure (ps.zip us)
structure MakX (K : PySem.W.Frag) (C : Addr) (qual : Str) (st : Stmt) (ps : List Str) : Prop where
  ex : ∃ (f : Addr) (fd : FuncData), L2.Fun K "__init__" qual st f fd ∧ Mk K C f ∧ ∀ us : List Value, us.length = ps.length → bindArgs fd ⟨us, []⟩ = pure (ps.zip us)
/-- an __init__ with defaults -/
structure MakD (K : PySem.W.Frag) (C : Addr) (qual : Str) (st : Stmt) (ps : List Str) (dvs : List V) : Prop where
  ex : ∃ (f : Addr) (fd : FuncData), L2.FunD K "__init__" qual (defArgs st) (defBody st) (defScope st) dvs [] f fd ∧ Mk K C f
theorem mak_ofD {P : Program} {w : World} {K : PySem.W.Frag} {mg : Str → Option Value} {base : Heap} {C : Addr} {x qual : Str} {st : Stmt} {N ps : List Str} {dvs : List V} {k : Nat} {sp : Sp} (n j : Nat) (hm : mg x = some (.ref C)) (D : MakD K C qual st ps dvs) (hd : dvs ≠ []) (hn : n + (dvs.length - j) = ps.length)
    (hb : ∀ (T : Addr) (kV doc pm : Value) (an : Option Addr) (cdv ct : Value) (us its : List Value), us.length = n → its.length = dvs.length →
      ∃ k, bindArgs (PySem.W.fnOf "__init__" qual (defArgs st) (defBody st) (defScope st) (.ref T) kV doc pm an cdv ct) ⟨us, []⟩ = seqItems? (.ref T) >>= k ∧ k (some its.toArray) = pure (ps.zip (us ++ its.drop j)))
    (S : FnScope N ps (defScope st)) (len : ∀ vs H Q E, sp vs H Q E → vs.length = ps.length)
    (hbody : ∀ (f : Addr) (cdv : Value) (A : Around) (outer : List Env) (s : Shared) (H : Hp) (vs : List V) (Q : VK) (E : XK), Room k (A.deeper (envOfC qual (defScope st) s.heap.objs.size f cdv)) → sp vs H Q E →
      ∃ t, PSs (cxOf L2.CX0 P w K mg base N qual (defScope st) f cdv A outer s H E).nox (defBody st) t ∧ t { nx := fun _ H' => Q .non H', rt := Q } (start N vs) H) : Mak P w K mg base (k + 1) x C sp (dvs.drop j) := by
  obtain ⟨f, fd, F, M⟩ := D.ex
  obtain ⟨ds, d, b⟩ := F.binds1 n j hd hn hb
  refine ⟨f, fd, ps, ds, M, F.ok S len fun cdv A outer s H vs Q E hr h => ?_, hm, b, d⟩
  obtain ⟨t, h1, h2⟩ := hbody f cdv A outer s H vs Q E hr h
  exact ⟨t, h1.nox, h2⟩
theorem met_of {P : Program} {w : World} {K : PySem.W.Frag} {mg : Str → Option Value} {base : Heap} {C : Addr} {m qual : Str} {st : Stmt} {N ps : List Str} {k : Nat} {sp : Sp} (c : Cls K C) (D : MetX K C m qual st ps) (S : FnScope N ps (defScope st)) (len : ∀ vs H Q E, sp vs H Q E → vs.length = ps.length)
    (hbody : ∀ (f : Addr) (cdv : Value) (A : Around) (outer : List Env) (s : Shared) (H : Hp) (vs : List V) (Q : VK) (E : XK), Room k (A.deeper (envOfC qual (defScope st) s.heap.objs.size f cdv)) → sp vs H Q E →
      ∃ t, PSs (cxOf L2.CX0 P w K mg base N qual (defScope st) f cdv A outer s H E).nox (defBody st) t ∧ t { nx := fun _ H' => Q .non H', rt := Q } (start N vs) H) : Met P w K mg base (k + 1) C m sp [] := by
  obtain ⟨f, fd, F, me, b⟩ := D.ex
  exact ⟨f, fd, ps, [], c, me, F.ok S len (hbody f), .all b, .nil⟩
theorem mak_of {P : Program} {w : World} {K : PySem.W.Frag} {mg : Str → Option Value} {base : Heap} {C : Addr} {x qual : Str} {st : Stmt} {N ps : List Str} {k : Nat} {sp : Sp} (hm : mg x = some (.ref C)) (D : MakX K C qual st ps) (S : FnScope N ps (defScope st)) (len : ∀ vs H Q E, sp vs H Q E → vs.length = ps.length)
    (hbody : ∀ (f : Addr) (cdv : Value) (A : Around) (outer : List Env) (s : Shared) (H : Hp) (vs : List V) (Q : VK) (E : XK), Room k (A.deeper (envOfC qual (defScope st) s.heap.objs.size f cdv)) → sp vs H Q E →
      ∃ t, PSs (cxOf L2.CX0 P w K mg base N qual (defScope st) f cdv A outer s H E).nox (defBody st) t ∧ t { nx := fun _ H' => Q .non H', rt := Q } (start N vs) H) : Mak P w K mg base (k + 1) x C sp [] := by
  obtain ⟨f, fd, F, M, b⟩ := D.ex
  exact ⟨f, fd, ps, [], M, F.ok S len (hbody f), hm, .all b, .nil⟩

/-! ### heaps that grow -/
/-- all that was tracked is as it was, but dicts keyed by tuples may have got more -/
structure Ext (H H' : Hp) : Prop where
  keep : ∀ a o, H a = some o → (∀ kvs, o ≠ .dT kvs) → H' a = some o
  grow : ∀ a kvs, H a = some (.dT kvs) → ∃ more, H' a = some (.dT (kvs ++ more))
theorem Ext.of_same {H H' : Hp} (h : Same H H') : Ext H H' := ⟨fun a o e _ => h a o e, fun a kvs e => ⟨[], by rw [List.append_nil]; exact h a _ e⟩⟩
theorem Ext.refl (H : Hp) : Ext H H := .of_same (Same.refl H)
theorem Ext.trans {H H1 H2 : Hp} (a : Ext H H1) (b : Ext H1 H2) : Ext H H2 := by
  refine ⟨fun x o e n => b.keep x o (a.keep x o e n) n, fun x kvs e => ?_⟩
  obtain ⟨m1, e1⟩ := a.grow x kvs e
  obtain ⟨m2, e2⟩ := b.grow x _ e1
  exact ⟨m1 ++ m2, by rw [e2, List.append_assoc]⟩
theorem Ext.new {H : Hp} {p : Addr} {o : HO} (h : H p = none) : Ext H (upd H p o) := .of_same (same_upd h)
theorem Ext.mut {H H' : Hp} {p : Addr} {o : HO} (e : Ext H H') (h : H p = none) : Ext H (upd H' p o) := by
  refine ⟨fun a u ha n => ?_, fun a kvs ha => ?_⟩
  · rw [upd_ne (ne_of_none ha h)]
    exact e.keep a u ha n
  · rw [upd_ne (ne_of_none ha h)]
    exact e.grow a kvs ha
theorem Ext.free {H H' : Hp} {p : Addr} (e : Ext H H') (h : H' p = none) : H p = none := by
  cases q : H p with
  | none => rfl
  | some o =>
    by_cases n : ∃ kvs, o = .dT kvs
    · obtain ⟨kvs, rfl⟩ := n
      obtain ⟨m, e1⟩ := e.grow p kvs q
      rw [e1] at h
      cases h
    · rw [e.keep p o q fun kvs z => n ⟨kvs, z⟩] at h
      cases h
theorem Ext.lst {H H' : Hp} {a : Addr} {xs : List V} (e : Ext H H') (h : H a = some (.lst xs)) : H' a = some (.lst xs) := e.keep _ _ h fun _ z => nomatch z
theorem Ext.tup {H H' : Hp} {a : Addr} {xs : List V} (e : Ext H H') (h : H a = some (.tup xs)) : H' a = some (.tup xs) := e.keep _ _ h fun _ z => nomatch z
theorem Ext.ins {H H' : Hp} {a C dx : Addr} {fs : List (Str × V)} (e : Ext H H') (h : H a = some (.ins C dx fs)) : H' a = some (.ins C dx fs) := e.keep _ _ h fun _ z => nomatch z
theorem Ext.dK {H H' : Hp} {a : Addr} {kvs : List (Key × V)} (e : Ext H H') (h : H a = some (.dK kvs)) : H' a = some (.dK kvs) := e.keep _ _ h fun _ z => nomatch z
theorem Ext.frz {H H' : Hp} {a : Addr} {o : Obj} {u : HO} (e : Ext H H') (h : H a = some (.frz o u)) : H' a = some (.frz o u) := e.keep _ _ h fun _ z => nomatch z
theorem Ext.seq {K : PySem.W.Frag} {H H' : Hp} {a : Addr} {xs : List V} (e : Ext H H') (h : SqL K H a xs) : SqL K H' a xs := by
  rcases h with (h | ⟨o, h⟩) | h
  · exact .inl (.inl (e.lst h))
  · exact .inl (.inr ⟨o, e.frz h⟩)
  · exact .inr h
theorem Ext.seqT {K : PySem.W.Frag} {H H' : Hp} {a : Addr} {xs : List V} (e : Ext H H') (h : SqT K H a xs) : SqT K H' a xs := by
  rcases h with (h | ⟨o, h⟩) | h
  · exact .inl (.inl (e.tup h))
  · exact .inl (.inr ⟨o, e.frz h⟩)
  · exact .inr h
/-- what the telling of a thing leans on: it is never changed, but dicts keyed by tuples -/
def stat : HO → Prop
  | .lst _ | .dK _ | .ins _ _ _ | .set _ _ | .xd _ => False
  | _ => True
def Kp (H H' : Hp) : Prop := ∀ a o, H a = some o → stat o → H' a = some o
structure Gr (H H' : Hp) : Prop where
  keep : ∀ a o, H a = some o → stat o → (∀ kvs, o ≠ .dT kvs) → H' a = some o
  grow : ∀ a kvs, H a = some (.dT kvs) → ∃ more, H' a = some (.dT (kvs ++ more))
theorem Ext.gr {H H' : Hp} (e : Ext H H') : Gr H H' := ⟨fun a o h _ n => e.keep a o h n, e.grow⟩
theorem Kp.gr {H H' : Hp} (e : Kp H H') : Gr H H' := ⟨fun a o h s _ => e a o h s, fun a kvs h => ⟨[], by rw [List.append_nil]; exact e a _ h True.intro⟩⟩
theorem Kp.refl (H : Hp) : Kp H H := fun _ _ h _ => h
theorem Kp.trans {H H1 H2 : Hp} (a : Kp H H1) (b : Kp H1 H2) : Kp H H2 := fun c o h s => b c o (a c o h s) s
theorem Gr.refl (H : Hp) : Gr H H := (Kp.refl H).gr
theorem Gr.trans {H H1 H2 : Hp} (a : Gr H H1) (b : Gr H1 H2) : Gr H H2 := by
  refine ⟨fun x o e s n => b.keep x o (a.keep x o e s n) s n, fun x kvs e => ?_⟩
  obtain ⟨m1, e1⟩ := a.grow x kvs e
  obtain ⟨m2, e2⟩ := b.grow x _ e1
  exact ⟨m1 ++ m2, by rw [e2, List.append_assoc]⟩
theorem Kp.new {H : Hp} {p : Addr} {o : HO} (h : H p = none) : Kp H (upd H p o) := fun a u e _ => by
  rw [upd_ne (ne_of_none e h)]
  exact e
theorem Kp.lst {H : Hp} {p : Addr} {o : HO} {xs : List V} (h : H p = some (.lst xs)) : Kp H (upd H p o) := fun a u e s => by
  by_cases q : a = p
  · subst q
    rw [h] at e
    cases e
    exact s.elim
  · rw [upd_ne q]
    exact e
theorem Kp.ins {H : Hp} {p C dx : Addr} {o : HO} {fs : List (Str × V)} (h : H p = some (.ins C dx fs)) : Kp H (upd H p o) := fun a u e s => by
  by_cases q : a = p
  · subst q
    rw [h] at e
    cases e
    exact s.elim
  · rw [upd_ne q]
    exact e
theorem Kp.dK {H : Hp} {p : Addr} {o : HO} {kvs : List (Key × V)} (h : H p = some (.dK kvs)) : Kp H (upd H p o) := fun a u e s => by
  by_cases q : a = p
  · subst q
    rw [h] at e
    cases e
    exact s.elim
  · rw [upd_ne q]
    exact e
/-! ### free terms, and seals -/
inductive Tm where
  | int (i : Int)
  | str (x : Str)
  | sl (m : Str) (a b : Tm)
  deriving DecidableEq
def Tm.dep : Tm → Nat
  | .int _ | .str _ => 0
  | .sl _ a b => max a.dep b.dep + 1
abbrev txtOk (x : Str) : Bool := PySem.PyData.strOk x
/-- a seal: its function, what its values tell, its state (so many more things may be told) -/
structure Sys where
  f : Addr
  den : Hp → V → Tm → Prop
  ok : Hp → Nat → Prop
structure Sys.Good (K : PySem.W.Frag) (S : Sys) : Prop where
  mono : ∀ {H H' : Hp} {v : V} {t : Tm}, Gr H H' → S.den H v t → S.den H' v t
  keep : ∀ {H H' : Hp} {r : Nat}, Kp H H' → S.ok H r → S.ok H' r
  less : ∀ {H : Hp} {r r' : Nat}, S.ok H r → r' ≤ r → S.ok H r'
  int : ∀ {H : Hp} {r : Nat} (i : Int), S.ok H r → S.den H (.int i) (.int i)
  str : ∀ {H : Hp} {r : Nat} (x : Str), S.ok H r → txtOk x = true → S.den H (.str x) (.str x)
  same : ∀ {H : Hp} {v v' : V} {t : Tm}, S.den H v t → S.den H v' t → ∃ d, Dp K H v d ∧ Dp K H v' d ∧ d.canLay0 = true ∧ d.depth ≤ t.dep
def spSl (S : Sys) : Sp := fun vs H Q _ => ∃ (r : Nat) (m : Str) (a b : Tm) (va vb : V), vs = [.str m, va, vb] ∧ txtOk m = true ∧ S.ok H (r + 1) ∧ S.den H va a ∧ S.den H vb b ∧
  ∀ v H', Ext H H' → S.ok H' r → S.den H' v (.sl m a b) → Q v H'
structure HeldSl (P : Program) (w : World) (K : PySem.W.Frag) (mg : Str → Option Value) (base : Heap) (k : Nat) (S : Sys) : Prop where
  at_ : ∀ (H : Hp) (h : Heap) (r : Nat), K.In h → HOk P w H h → S.ok H r → PySem.W.FnAt S.f h
  run : ∀ (A : Around) (outer : List Env) (s : Shared) (H : Hp) (us : List Value) (vs : List V) (Q : VK) (E : XK), Room k A → Env0 P w K mg base A outer s H → Vals vs us → spSl S vs H Q E →
    codeAny (model P w) A (.call (.ref S.f) ⟨us, []⟩) (CR L2.CX0 outer P w H s Q E) s
/-- of a family of seals: each is good, and its calls keep the promise -/
structure SlA (P : Program) (w : World) (K : PySem.W.Frag) (mg : Str → Option Value) (base : Heap) (Fam : Sys → Prop) : Prop where
  good : ∀ {S : Sys}, Fam S → S.Good K
  held : ∀ S, Fam S → HeldSl P w K mg base 1 S
/-- x(..), x a name that holds a seal -/
def tSl (Fam : Sys → Prop) (i : Nat) (t : TA) : TE := fun σ H Q => ∃ (S : Sys) (r : Nat), Fam S ∧ σ[i]? = some (some (.ref S.f)) ∧ S.ok H r ∧ t σ H fun vs H1 => spSl S vs H1 Q L2.E0
section
variable {X : Cx} {i j k : Nat} {x : Str} {p pos : Pos} {e : Expr} {es : List Expr} {t : TA} {Fam : Sys → Prop}
theorem pe_sl (A : ∀ S, Fam S → HeldSl X.prog X.w X.K X.mg X.base k S) (hr : Room j X.A) (hk : k ≤ j) (hN : X.N[i]? = some x) (hv : Vis X.env.scope x) (ha : PA X (e :: es) t)
    (hdb : (x == ("__debug__" : Str)) = false := by decide) (hcd : (x == ("__classdict__" : Str)) = false := by decide)
    (he : starEach (e :: es) X.env = (false, eval e X.env) :: starEach es X.env := by rfl) (hpl : (backTo pos (starEach es X.env)).any (·.1) = false := by rfl) : PE X (.Call (.Name x p) (e :: es) [] pos) (tSl Fam i t) := by
  refine ⟨fun pins s σ H Q I h => ?_⟩
  obtain ⟨S, r, hS, hs, hok, ht⟩ := h
  refine wpAny_Call_Name_kw (thn ((pe_var (pos := p) hN hv hdb hcd).run pins s σ H (fun v H1 => v = .ref S.f ∧ H1 = H) I ⟨.ref S.f, hs, rfl, rfl⟩) fun u s1 ⟨v, H1, I1, r1, q1⟩ => ?_)
  obtain ⟨rfl, rfl⟩ := q1
  cases r1
  refine PySem.W.callWith_F ((A S hS).at_ _ _ _ I1.kIn I1.hok hok) (thn (ha.run pos pins s1 σ _ _ I1 ht) fun us s2 ⟨vs, H2, I2, rv, q⟩ => ?_) he hpl
  obtain ⟨r', m, a, b, va, vb, e1, e2, e3, q'⟩ := id q
  refine ⟨(A S hS).at_ _ _ _ I2.kIn I2.hok e3, ?_⟩
  refine wpAny_call (codeAny_mono ((A S hS).run X.A X.stack s2 H2 us vs Q L2.E0 (hr.mono hk) I2.env0 rv q) fun r s' hq => ?_)
  cases r with
  | error e => exact False.elim hq
  | ok fl =>
    cases fl with
    | ret u => exact I2.after hq
    | next => exact False.elim hq
    | brk => exact False.elim hq
    | cont => exact False.elim hq
end
/-! ### rows of told things -/
structure DenL (S : Sys) (H : Hp) (vs : List V) (ts : List Tm) : Prop where
  len : vs.length = ts.length
  at_ : ∀ (i : Nat) (v : V) (t : Tm), vs[i]? = some v → ts[i]? = some t → S.den H v t
section
variable {S : Sys} {K : PySem.W.Frag} {H H' : Hp} {vs us : List V} {ts rs : List Tm}
theorem DenL.mono (G : S.Good K) (e : Gr H H') (h : DenL S H vs ts) : DenL S H' vs ts := ⟨h.len, fun i v t a b => G.mono e (h.at_ i v t a b)⟩
theorem DenL.nil : DenL S H [] [] := ⟨rfl, fun i v t a _ => by simp at a⟩
theorem DenL.append (h : DenL S H vs ts) (h' : DenL S H us rs) : DenL S H (vs ++ us) (ts ++ rs) := by
  refine ⟨by rw [List.length_append, List.length_append, h.len, h'.len], fun i v t a b => ?_⟩
  have hl := h.len
  by_cases q : i < vs.length
  · rw [List.getElem?_append_left q] at a
    rw [List.getElem?_append_left (by omega)] at b
    exact h.at_ i v t a b
  · rw [List.getElem?_append_right (by omega)] at a b
    rw [← hl] at b
    exact h'.at_ _ v t a b
theorem DenL.one {v : V} {t : Tm} (h : S.den H v t) : DenL S H [v] [t] := by
  refine ⟨rfl, fun i u r a b => ?_⟩
  cases i with
  | zero =>
    cases a
    cases b
    exact h
  | succ i => simp at a
theorem DenL.cons {v : V} {t : Tm} (h : S.den H v t) (h' : DenL S H vs ts) : DenL S H (v :: vs) (t :: ts) := (DenL.one h).append h'
theorem DenL.take (n : Nat) (h : DenL S H vs ts) : DenL S H (vs.take n) (ts.take n) := by
  refine ⟨by rw [List.length_take, List.length_take, h.len], fun i v t a b => ?_⟩
  rw [List.getElem?_take] at a b
  split at a
  · rename_i q
    rw [if_pos q] at b
    exact h.at_ i v t a b
  · cases a
theorem DenL.drop (n : Nat) (h : DenL S H vs ts) : DenL S H (vs.drop n) (ts.drop n) := by
  refine ⟨by rw [List.length_drop, List.length_drop, h.len], fun i v t a b => ?_⟩
  rw [List.getElem?_drop] at a b
  exact h.at_ _ v t a b
theorem DenL.get (h : DenL S H vs ts) {i : Nat} (hi : i < ts.length) : ∃ v, vs[i]? = some v ∧ S.den H v ts[i] := by
  have hl := h.len
  have hv : i < vs.length := by omega
  exact ⟨vs[i], List.getElem?_eq_getElem hv, h.at_ i _ _ (List.getElem?_eq_getElem hv) (List.getElem?_eq_getElem hi)⟩
/-- the same row told twice -/
theorem DenL.same (G : S.Good K) {n : Nat} : ∀ {vs us : List V} {ts : List Tm}, DenL S H vs ts → DenL S H us ts → (∀ t ∈ ts, t.dep ≤ n) → ∃ ds, DpAll K H vs ds ∧ DpAll K H us ds ∧ PyData.canLayAll0 ds = true ∧ PyData.depthAll ds ≤ n
  | vs, us, [], h, h', _ => by
    have e1 : vs = [] := List.eq_nil_of_length_eq_zero h.len
    have e2 : us = [] := List.eq_nil_of_length_eq_zero h'.len
    subst e1
    subst e2
    exact ⟨[], .nil, .nil, rfl, Nat.zero_le _⟩
  | [], us, t :: ts, h, _, _ => absurd h.len (by simp)
  | v :: vs, [], t :: ts, _, h, _ => absurd h.len (by simp)
  | v :: vs, u :: us, t :: ts, h, h', hd => by
    obtain ⟨d, a1, a2, a3, a4⟩ := G.same (h.at_ 0 v t rfl rfl) (h'.at_ 0 u t rfl rfl)
    have t1 : DenL S H vs ts := h.drop 1
    have t2 : DenL S H us ts := h'.drop 1
    obtain ⟨ds, b1, b2, b3, b4⟩ := DenL.same G t1 t2 fun x hx => hd x (List.mem_cons_of_mem _ hx)
    refine ⟨d :: ds, .cons a1 b1, .cons a2 b2, ?_, ?_⟩
    · rw [PyData.canLayAll0, a3, b3]
      rfl
    · have := hd t List.mem_cons_self
      show max d.depth (PyData.depthAll ds) ≤ n
      omega
end

structure Zs (mg : Str → Option Value) : Prop where
  len : mg "len" = none
  isinstance : mg "isinstance" = none
  list : mg "list" = none
  tuple : mg "tuple" = none
  range : mg "range" = none
  str : mg "str" = none
  sorted : mg "sorted" = none
structure K_Table (K : PySem.W.Frag) (mg : Str → Option Value) (C : Addr) : Prop where
  mgC : mg "Table" = some (.ref C)
  cl : Cls K C
  n_seal : NoAttr K C "seal"
  n_depth : NoAttr K C "depth"
  n_held : NoAttr K C "held"
  ia_ : PySem.W.findIn K (.ref C) "__class__" = some (some (.builtin "object.__class__"))
  in_ : PySem.W.specialIn K (.builtin "object.__class__") "__get__" = some (some (.builtin "getset_descriptor.__get__"))
  it_ : PySem.W.takesIn K (.builtin "object.__class__") = some true
  im_ : PySem.W.mroIn K C (.type "object") = some true
  made : MakD K C "Table.__init__" s_Table___init__ ["self", "seal", "depth"] [.int 8]
  m_asked : MetX K C "asked" "Table.asked" s_Table_asked ["self", "key"]
  m_put : MetX K C "put" "Table.put" s_Table_put ["self", "key", "text"]
  m_cut : MetX K C "cut" "Table.cut" s_Table_cut ["self", "key"]
  m_value : MetX K C "value" "Table.value" s_Table_value ["self", "key"]
  m_rows : MetX K C "rows" "Table.rows" s_Table_rows ["self"]
  m_way : MetX K C "way" "Table.way" s_Table_way ["self", "key"]
  m_twin : MetX K C "twin" "Table.twin" s_Table_twin ["self"]
structure Txt (K : PySem.W.Frag) (mg : Str → Option Value) (cc : Addr) : Prop where
  d__wall : DefX K mg "_wall" s__wall ["k"]
  d_none_seal : DefX K mg "none_seal" s_none_seal ["seal"]
  d_parted : DefX K mg "parted" s_parted ["rows", "level"]
  d_part_top : DefX K mg "part_top" s_part_top ["seal", "rows", "level"]
  d__law_cell_at : DefX K mg "_law_cell_at" s__law_cell_at ["_law_script", "_law_k"]
  d__law_plain : DefX K mg "_law_plain" s__law_plain ["_law_mark", "_law_one", "_law_two"]
  d__law_turned : DefX K mg "_law_turned" s__law_turned ["_law_mark", "_law_one", "_law_two"]
  m__law_numbering : DefM K mg "_law_numbering" s__law_numbering cc
  d__law_seal_by : DefX K mg "_law_seal_by" s__law_seal_by ["_law_script"]
  d__law_draw : DefX K mg "_law_draw" s__law_draw ["_law_cell", "_law_k", "_law_many"]
  d__law_part : DefX K mg "_law_part" s__law_part ["_law_seal", "_law_rows", "_law_level"]
  d__law_way : DefX K mg "_law_way" s__law_way ["_law_seal", "_law_rows", "_law_depth", "_law_key"]
  d_law : DefX K mg "law" s_law ["_law_script"]
  x_NoPlace : ExcX K mg "NoPlace"
  k_Table : ∃ C, K_Table K mg C
  Z : Zs mg
theorem txt_mk {K : PySem.W.Frag} {h : Heap} {mg : Str → Option Value} (X : K.In h) (G : h.Ns mainGlobals mg) {cc f0 f1 f2 f3 f4 f5 f6 f7 f8 f9 f10 f11 f12 C_NoPlace C_Table fTable0 dTTable0 fTable1 fTable2 fTable3 fTable4 fTable5 fTable7 fTable8 : Addr} {od0 an0 od1 an1 od2 an2 od3 an3 od4 an4 od5 an5 od6 an6 od7 an7 od8 an8 od9 an9 od10 an10 od11 an11 od12 an12 odTable0 anTable0 pTTable0 odTable1 anTable1 odTable2 anTable2 odTable3 anTable3 odTable4 anTable4 odTable5 anTable5 odTable7 anTable7 odTable8 anTable8 : Option Addr} {sl0 sl1 sl2 sl3 sl4 sl5 sl6 sl7 sl8 sl9 sl10 sl11 sl12 slTable0 sTTable0 slTable1 slTable2 slTable3 slTable4 slTable5 slTable7 slTable8 : Array (Option Value)} {oc0 kV0 dc0 pm0 cd0 ct0 oc1 kV1 dc1 pm1 cd1 ct1 oc2 kV2 dc2 pm2 cd2 ct2 oc3 kV3 dc3 pm3 cd3 ct3 oc4 kV4 dc4 pm4 cd4 ct4 oc5 kV5 dc5 pm5 cd5 ct5 oc6 kV6 dc6 pm6 cd6 ct6 oc7 kV7 dc7 pm7 ct7 oc8 kV8 dc8 pm8 cd8 ct8 oc9 kV9 dc9 pm9 cd9 ct9 oc10 kV10 dc10 pm10 cd10 ct10 oc11 kV11 dc11 pm11 cd11 ct11 oc12 kV12 dc12 pm12 cd12 ct12 ocTable0 kVTable0 dcTable0 pmTable0 cdTable0 ctTable0 oTTable0 ocTable1 kVTable1 dcTable1 pmTable1 cdTable1 ctTable1 ocTable2 kVTable2 dcTable2 pmTable2 cdTable2 ctTable2 ocTable3 kVTable3 dcTable3 pmTable3 cdTable3 ctTable3 ocTable4 kVTable4 dcTable4 pmTable4 cdTable4 ctTable4 ocTable5 kVTable5 dcTable5 pmTable5 cdTable5 ctTable5 ocTable7 kVTable7 dcTable7 pmTable7 cdTable7 ctTable7 ocTable8 kVTable8 dcTable8 pmTable8 cdTable8 ctTable8 : Value} {nTTable0 : Nat} {uTTable0_0 : Tok}
    (a0 : PySem.W.nsIn K mainGlobals "_wall" = some (some (.ref f0))) (l0 : K.lookup f0 = some ⟨oc0, od0, .func (PySem.W.fnOf "_wall" "_wall" (defArgs s__wall) (defBody s__wall) (defScope s__wall) .none kV0 dc0 pm0 an0 cd0 ct0), sl0⟩) (c0 : PySem.W.codeIn K cd0 "_wall" = true) (k0 : PySem.W.keepIn K (.ref f0) = true)
    (a1 : PySem.W.nsIn K mainGlobals "none_seal" = some (some (.ref f1))) (l1 : K.lookup f1 = some ⟨oc1, od1, .func (PySem.W.fnOf "none_seal" "none_seal" (defArgs s_none_seal) (defBody s_none_seal) (defScope s_none_seal) .none kV1 dc1 pm1 an1 cd1 ct1), sl1⟩) (c1 : PySem.W.codeIn K cd1 "none_seal" = true) (k1 : PySem.W.keepIn K (.ref f1) = true)
    (a2 : PySem.W.nsIn K mainGlobals "parted" = some (some (.ref f2))) (l2 : K.lookup f2 = some ⟨oc2, od2, .func (PySem.W.fnOf "parted" "parted" (defArgs s_parted) (defBody s_parted) (defScope s_parted) .none kV2 dc2 pm2 an2 cd2 ct2), sl2⟩) (c2 : PySem.W.codeIn K cd2 "parted" = true) (k2 : PySem.W.keepIn K (.ref f2) = true)
    (a3 : PySem.W.nsIn K mainGlobals "part_top" = some (some (.ref f3))) (l3 : K.lookup f3 = some ⟨oc3, od3, .func (PySem.W.fnOf "part_top" "part_top" (defArgs s_part_top) (defBody s_part_top) (defScope s_part_top) .none kV3 dc3 pm3 an3 cd3 ct3), sl3⟩) (c3 : PySem.W.codeIn K cd3 "part_top" = true) (k3 : PySem.W.keepIn K (.ref f3) = true)
    (a4 : PySem.W.nsIn K mainGlobals "_law_cell_at" = some (some (.ref f4))) (l4 : K.lookup f4 = some ⟨oc4, od4, .func (PySem.W.fnOf "_law_cell_at" "_law_cell_at" (defArgs s__law_cell_at) (defBody s__law_cell_at) (defScope s__law_cell_at) .none kV4 dc4 pm4 an4 cd4 ct4), sl4⟩) (c4 : PySem.W.codeIn K cd4 "_law_cell_at" = true) (k4 : PySem.W.keepIn K (.ref f4) = true)
    (a5 : PySem.W.nsIn K mainGlobals "_law_plain" = some (some (.ref f5))) (l5 : K.lookup f5 = some ⟨oc5, od5, .func (PySem.W.fnOf "_law_plain" "_law_plain" (defArgs s__law_plain) (defBody s__law_plain) (defScope s__law_plain) .none kV5 dc5 pm5 an5 cd5 ct5), sl5⟩) (c5 : PySem.W.codeIn K cd5 "_law_plain" = true) (k5 : PySem.W.keepIn K (.ref f5) = true)
    (a6 : PySem.W.nsIn K mainGlobals "_law_turned" = some (some (.ref f6))) (l6 : K.lookup f6 = some ⟨oc6, od6, .func (PySem.W.fnOf "_law_turned" "_law_turned" (defArgs s__law_turned) (defBody s__law_turned) (defScope s__law_turned) .none kV6 dc6 pm6 an6 cd6 ct6), sl6⟩) (c6 : PySem.W.codeIn K cd6 "_law_turned" = true) (k6 : PySem.W.keepIn K (.ref f6) = true)
    (a7 : PySem.W.nsIn K mainGlobals "_law_numbering" = some (some (.ref f7))) (l7 : K.lookup f7 = some ⟨oc7, od7, .func (PySem.W.fnOf "_law_numbering" "_law_numbering" (defArgs s__law_numbering) (defBody s__law_numbering) (defScope s__law_numbering) .none kV7 dc7 pm7 an7 (.ref cc) ct7), sl7⟩) (c7 : PySem.W.codeIn K (.ref cc) "_law_numbering" = true) (k7 : PySem.W.keepIn K (.ref f7) = true)
    (a8 : PySem.W.nsIn K mainGlobals "_law_seal_by" = some (some (.ref f8))) (l8 : K.lookup f8 = some ⟨oc8, od8, .func (PySem.W.fnOf "_law_seal_by" "_law_seal_by" (defArgs s__law_seal_by) (defBody s__law_seal_by) (defScope s__law_seal_by) .none kV8 dc8 pm8 an8 cd8 ct8), sl8⟩) (c8 : PySem.W.codeIn K cd8 "_law_seal_by" = true) (k8 : PySem.W.keepIn K (.ref f8) = true)
    (a9 : PySem.W.nsIn K mainGlobals "_law_draw" = some (some (.ref f9))) (l9 : K.lookup f9 = some ⟨oc9, od9, .func (PySem.W.fnOf "_law_draw" "_law_draw" (defArgs s__law_draw) (defBody s__law_draw) (defScope s__law_draw) .none kV9 dc9 pm9 an9 cd9 ct9), sl9⟩) (c9 : PySem.W.codeIn K cd9 "_law_draw" = true) (k9 : PySem.W.keepIn K (.ref f9) = true)
    (a10 : PySem.W.nsIn K mainGlobals "_law_part" = some (some (.ref f10))) (l10 : K.lookup f10 = some ⟨oc10, od10, .func (PySem.W.fnOf "_law_part" "_law_part" (defArgs s__law_part) (defBody s__law_part) (defScope s__law_part) .none kV10 dc10 pm10 an10 cd10 ct10), sl10⟩) (c10 : PySem.W.codeIn K cd10 "_law_part" = true) (k10 : PySem.W.keepIn K (.ref f10) = true)
    (a11 : PySem.W.nsIn K mainGlobals "_law_way" = some (some (.ref f11))) (l11 : K.lookup f11 = some ⟨oc11, od11, .func (PySem.W.fnOf "_law_way" "_law_way" (defArgs s__law_way) (defBody s__law_way) (defScope s__law_way) .none kV11 dc11 pm11 an11 cd11 ct11), sl11⟩) (c11 : PySem.W.codeIn K cd11 "_law_way" = true) (k11 : PySem.W.keepIn K (.ref f11) = true)
    (a12 : PySem.W.nsIn K mainGlobals "law" = some (some (.ref f12))) (l12 : K.lookup f12 = some ⟨oc12, od12, .func (PySem.W.fnOf "law" "law" (defArgs s_law) (defBody s_law) (defScope s_law) .none kV12 dc12 pm12 an12 cd12 ct12), sl12⟩) (c12 : PySem.W.codeIn K cd12 "law" = true) (k12 : PySem.W.keepIn K (.ref f12) = true)
    (z_len : PySem.W.nsIn K mainGlobals "len" = some none)
    (z_isinstance : PySem.W.nsIn K mainGlobals "isinstance" = some none)
    (z_list : PySem.W.nsIn K mainGlobals "list" = some none)
    (z_tuple : PySem.W.nsIn K mainGlobals "tuple" = some none)
    (z_range : PySem.W.nsIn K mainGlobals "range" = some none)
    (z_str : PySem.W.nsIn K mainGlobals "str" = some none)
    (z_sorted : PySem.W.nsIn K mainGlobals "sorted" = some none)
    (g_NoPlace : PySem.W.nsIn K mainGlobals "NoPlace" = some (some (.ref C_NoPlace)))
    (xP_NoPlace : PySem.W.excIn K C_NoPlace [.type "ValueError", .type "Exception", .type "BaseException", .type "object"] "ValueError.__new__" = true)
    (kP_NoPlace : PySem.W.keepIn K (.ref C_NoPlace) = true)
    (bP_NoPlace : PySem.W.subIn K (.ref C_NoPlace) (.type "BaseException") = some true)
    (tP_NoPlace : PySem.W.typeIn K (.ref C_NoPlace) = some (.type "type"))
    (hg_NoPlace : PySem.W.findIn K (.ref C_NoPlace) "__getattribute__" = some (some (.builtin "BaseException.__getattribute__")))
    (hk_NoPlace : PySem.W.findIn K (.ref C_NoPlace) "__getattr__" = some none)
    (hd_NoPlace : PySem.W.hasDictIn K C_NoPlace = true)
    (ha_NoPlace : PySem.W.findIn K (.ref C_NoPlace) "__class__" = some (some (.builtin "object.__class__")))
    (hn_NoPlace : PySem.W.specialIn K (.builtin "object.__class__") "__get__" = some (some (.builtin "getset_descriptor.__get__")))
    (ht_NoPlace : PySem.W.takesIn K (.builtin "object.__class__") = some true)
    (hm_NoPlace : PySem.W.mroIn K C_NoPlace (.type "object") = some true)
    (ex_NoPlace : PySem.W.exmOne K (.ref C_NoPlace) (.ref C_NoPlace) = some true)
    (g_Table : PySem.W.nsIn K mainGlobals "Table" = some (some (.ref C_Table)))
    (pg_Table : PySem.W.plainGet K C_Table Str.empty = true)
    (hd_Table : PySem.W.hasDictIn K C_Table = true)
    (po_Table : PySem.W.plainOver K C_Table = true)
    (sa_Table : PySem.W.findIn K (.ref C_Table) "__setattr__" = some (some (.builtin "object.__setattr__")))
    (n_Table_seal : PySem.W.findIn K (.ref C_Table) "seal" = some none)
    (n_Table_depth : PySem.W.findIn K (.ref C_Table) "depth" = some none)
    (n_Table_held : PySem.W.findIn K (.ref C_Table) "held" = some none)
    (ia_Table : PySem.W.findIn K (.ref C_Table) "__class__" = some (some (.builtin "object.__class__")))
    (in_Table : PySem.W.specialIn K (.builtin "object.__class__") "__get__" = some (some (.builtin "getset_descriptor.__get__")))
    (it_Table : PySem.W.takesIn K (.builtin "object.__class__") = some true)
    (im_Table : PySem.W.mroIn K C_Table (.type "object") = some true)
    (aTable0 : PySem.W.findIn K (.ref C_Table) "__init__" = some (some (.ref fTable0))) (iTable0 : PySem.W.isFn K (.ref fTable0) = true) (lTable0 : K.lookup fTable0 = some ⟨ocTable0, odTable0, .func (PySem.W.fnOf "__init__" "Table.__init__" (defArgs s_Table___init__) (defBody s_Table___init__) (defScope s_Table___init__) (.ref dTTable0) kVTable0 dcTable0 pmTable0 anTable0 cdTable0 ctTable0), slTable0⟩) (cTable0 : PySem.W.codeIn K cdTable0 "Table.__init__" = true) (kTable0 : PySem.W.keepIn K (.ref fTable0) = true)
    (dTable0 : K.lookup dTTable0 = some ⟨oTTable0, pTTable0, .seq #[.int 8 uTTable0_0] nTTable0, sTTable0⟩)
    (mk_Table : PySem.W.makesIn K C_Table = true) (kc_Table : PySem.W.keepIn K (.ref C_Table) = true)
    (aTable1 : PySem.W.findIn K (.ref C_Table) "asked" = some (some (.ref fTable1))) (iTable1 : PySem.W.isFn K (.ref fTable1) = true) (lTable1 : K.lookup fTable1 = some ⟨ocTable1, odTable1, .func (PySem.W.fnOf "asked" "Table.asked" (defArgs s_Table_asked) (defBody s_Table_asked) (defScope s_Table_asked) .none kVTable1 dcTable1 pmTable1 anTable1 cdTable1 ctTable1), slTable1⟩) (cTable1 : PySem.W.codeIn K cdTable1 "Table.asked" = true) (kTable1 : PySem.W.keepIn K (.ref fTable1) = true)
    (aTable2 : PySem.W.findIn K (.ref C_Table) "put" = some (some (.ref fTable2))) (iTable2 : PySem.W.isFn K (.ref fTable2) = true) (lTable2 : K.lookup fTable2 = some ⟨ocTable2, odTable2, .func (PySem.W.fnOf "put" "Table.put" (defArgs s_Table_put) (defBody s_Table_put) (defScope s_Table_put) .none kVTable2 dcTable2 pmTable2 anTable2 cdTable2 ctTable2), slTable2⟩) (cTable2 : PySem.W.codeIn K cdTable2 "Table.put" = true) (kTable2 : PySem.W.keepIn K (.ref fTable2) = true)
    (aTable3 : PySem.W.findIn K (.ref C_Table) "cut" = some (some (.ref fTable3))) (iTable3 : PySem.W.isFn K (.ref fTable3) = true) (lTable3 : K.lookup fTable3 = some ⟨ocTable3, odTable3, .func (PySem.W.fnOf "cut" "Table.cut" (defArgs s_Table_cut) (defBody s_Table_cut) (defScope s_Table_cut) .none kVTable3 dcTable3 pmTable3 anTable3 cdTable3 ctTable3), slTable3⟩) (cTable3 : PySem.W.codeIn K cdTable3 "Table.cut" = true) (kTable3 : PySem.W.keepIn K (.ref fTable3) = true)
    (aTable4 : PySem.W.findIn K (.ref C_Table) "value" = some (some (.ref fTable4))) (iTable4 : PySem.W.isFn K (.ref fTable4) = true) (lTable4 : K.lookup fTable4 = some ⟨ocTable4, odTable4, .func (PySem.W.fnOf "value" "Table.value" (defArgs s_Table_value) (defBody s_Table_value) (defScope s_Table_value) .none kVTable4 dcTable4 pmTable4 anTable4 cdTable4 ctTable4), slTable4⟩) (cTable4 : PySem.W.codeIn K cdTable4 "Table.value" = true) (kTable4 : PySem.W.keepIn K (.ref fTable4) = true)
    (aTable5 : PySem.W.findIn K (.ref C_Table) "rows" = some (some (.ref fTable5))) (iTable5 : PySem.W.isFn K (.ref fTable5) = true) (lTable5 : K.lookup fTable5 = some ⟨ocTable5, odTable5, .func (PySem.W.fnOf "rows" "Table.rows" (defArgs s_Table_rows) (defBody s_Table_rows) (defScope s_Table_rows) .none kVTable5 dcTable5 pmTable5 anTable5 cdTable5 ctTable5), slTable5⟩) (cTable5 : PySem.W.codeIn K cdTable5 "Table.rows" = true) (kTable5 : PySem.W.keepIn K (.ref fTable5) = true)
    (aTable7 : PySem.W.findIn K (.ref C_Table) "way" = some (some (.ref fTable7))) (iTable7 : PySem.W.isFn K (.ref fTable7) = true) (lTable7 : K.lookup fTable7 = some ⟨ocTable7, odTable7, .func (PySem.W.fnOf "way" "Table.way" (defArgs s_Table_way) (defBody s_Table_way) (defScope s_Table_way) .none kVTable7 dcTable7 pmTable7 anTable7 cdTable7 ctTable7), slTable7⟩) (cTable7 : PySem.W.codeIn K cdTable7 "Table.way" = true) (kTable7 : PySem.W.keepIn K (.ref fTable7) = true)
    (aTable8 : PySem.W.findIn K (.ref C_Table) "twin" = some (some (.ref fTable8))) (iTable8 : PySem.W.isFn K (.ref fTable8) = true) (lTable8 : K.lookup fTable8 = some ⟨ocTable8, odTable8, .func (PySem.W.fnOf "twin" "Table.twin" (defArgs s_Table_twin) (defBody s_Table_twin) (defScope s_Table_twin) .none kVTable8 dcTable8 pmTable8 anTable8 cdTable8 ctTable8), slTable8⟩) (cTable8 : PySem.W.codeIn K cdTable8 "Table.twin" = true) (kTable8 : PySem.W.keepIn K (.ref fTable8) = true)
    : Txt K mg cc := by
  exact ⟨⟨⟨_, _, fun_mk (st := s__wall) l0 c0 k0, PySem.W.mg_of X G a0, fun us hl => match us, hl with | [_], _ => rfl⟩⟩,
    ⟨⟨_, _, fun_mk (st := s_none_seal) l1 c1 k1, PySem.W.mg_of X G a1, fun us hl => match us, hl with | [_], _ => rfl⟩⟩,
    ⟨⟨_, _, fun_mk (st := s_parted) l2 c2 k2, PySem.W.mg_of X G a2, fun us hl => match us, hl with | [_, _], _ => rfl⟩⟩,
    ⟨⟨_, _, fun_mk (st := s_part_top) l3 c3 k3, PySem.W.mg_of X G a3, fun us hl => match us, hl with | [_, _, _], _ => rfl⟩⟩,
    ⟨⟨_, _, fun_mk (st := s__law_cell_at) l4 c4 k4, PySem.W.mg_of X G a4, fun us hl => match us, hl with | [_, _], _ => rfl⟩⟩,
    ⟨⟨_, _, fun_mk (st := s__law_plain) l5 c5 k5, PySem.W.mg_of X G a5, fun us hl => match us, hl with | [_, _, _], _ => rfl⟩⟩,
    ⟨⟨_, _, fun_mk (st := s__law_turned) l6 c6 k6, PySem.W.mg_of X G a6, fun us hl => match us, hl with | [_, _, _], _ => rfl⟩⟩,
    ⟨⟨_, _, _, _, _, _, _, _, _, l7, c7, k7, PySem.W.mg_of X G a7⟩⟩,
    ⟨⟨_, _, fun_mk (st := s__law_seal_by) l8 c8 k8, PySem.W.mg_of X G a8, fun us hl => match us, hl with | [_], _ => rfl⟩⟩,
    ⟨⟨_, _, fun_mk (st := s__law_draw) l9 c9 k9, PySem.W.mg_of X G a9, fun us hl => match us, hl with | [_, _, _], _ => rfl⟩⟩,
    ⟨⟨_, _, fun_mk (st := s__law_part) l10 c10 k10, PySem.W.mg_of X G a10, fun us hl => match us, hl with | [_, _, _], _ => rfl⟩⟩,
    ⟨⟨_, _, fun_mk (st := s__law_way) l11 c11 k11, PySem.W.mg_of X G a11, fun us hl => match us, hl with | [_, _, _, _], _ => rfl⟩⟩,
    ⟨⟨_, _, fun_mk (st := s_law) l12 c12 k12, PySem.W.mg_of X G a12, fun us hl => match us, hl with | [_], _ => rfl⟩⟩,
    ⟨⟨C_NoPlace, PySem.W.mg_of X G g_NoPlace, xP_NoPlace, kP_NoPlace, bP_NoPlace, tP_NoPlace, ⟨hg_NoPlace, hk_NoPlace, bP_NoPlace, hd_NoPlace, ha_NoPlace, hn_NoPlace, ht_NoPlace, hm_NoPlace⟩, ex_NoPlace⟩⟩,
    ⟨C_Table, ⟨PySem.W.mg_of X G g_Table,
      ⟨pg_Table, hd_Table, po_Table, sa_Table⟩,
      n_Table_seal,
      n_Table_depth,
      n_Table_held,
      ia_Table,
      in_Table,
      it_Table,
      im_Table,
      ⟨⟨_, _, ⟨⟨_, _, _, _, _, _, _, _, _, _, rfl, lTable0, cTable0, .inr ⟨by simp, dTTable0, _, _, _, rfl, dTable0, rfl, (.cons ⟨_, rfl⟩ .nil)⟩, .inl rfl⟩, kTable0⟩, ⟨mk_Table, aTable0, iTable0, kc_Table⟩⟩⟩,
      ⟨⟨_, _, fun_mk (st := s_Table_asked) lTable1 cTable1 kTable1, ⟨aTable1, iTable1, kTable1⟩, fun us hl => match us, hl with | [_, _], _ => rfl⟩⟩,
      ⟨⟨_, _, fun_mk (st := s_Table_put) lTable2 cTable2 kTable2, ⟨aTable2, iTable2, kTable2⟩, fun us hl => match us, hl with | [_, _, _], _ => rfl⟩⟩,
      ⟨⟨_, _, fun_mk (st := s_Table_cut) lTable3 cTable3 kTable3, ⟨aTable3, iTable3, kTable3⟩, fun us hl => match us, hl with | [_, _], _ => rfl⟩⟩,
      ⟨⟨_, _, fun_mk (st := s_Table_value) lTable4 cTable4 kTable4, ⟨aTable4, iTable4, kTable4⟩, fun us hl => match us, hl with | [_, _], _ => rfl⟩⟩,
      ⟨⟨_, _, fun_mk (st := s_Table_rows) lTable5 cTable5 kTable5, ⟨aTable5, iTable5, kTable5⟩, fun us hl => match us, hl with | [_], _ => rfl⟩⟩,
      ⟨⟨_, _, fun_mk (st := s_Table_way) lTable7 cTable7 kTable7, ⟨aTable7, iTable7, kTable7⟩, fun us hl => match us, hl with | [_, _], _ => rfl⟩⟩,
      ⟨⟨_, _, fun_mk (st := s_Table_twin) lTable8 cTable8 kTable8, ⟨aTable8, iTable8, kTable8⟩, fun us hl => match us, hl with | [_], _ => rfl⟩⟩⟩⟩, ⟨PySem.W.mg_none_of X G z_len, PySem.W.mg_none_of X G z_isinstance, PySem.W.mg_none_of X G z_list, PySem.W.mg_none_of X G z_tuple, PySem.W.mg_none_of X G z_range, PySem.W.mg_none_of X G z_str, PySem.W.mg_none_of X G z_sorted⟩⟩
/-! ### seals that make a tuple of their three things -/
inductive DenP (tf : Str → V → V → List V) (H : Hp) : V → Tm → Prop
  | int (i : Int) : DenP tf H (.int i) (.int i)
  | str (x : Str) (h : txtOk x = true) : DenP tf H (.str x) (.str x)
  | sl {p : Addr} {m : Str} {va vb : V} {a b : Tm} (hm : txtOk m = true) (h : H p = some (.tup (tf m va vb))) (ha : DenP tf H va a) (hb : DenP tf H vb b) : DenP tf H (.ref p) (.sl m a b)
theorem DenP.mono {tf : Str → V → V → List V} {H H' : Hp} (e : Gr H H') {v : V} {t : Tm} (h : DenP tf H v t) : DenP tf H' v t := by
  induction h with
  | int i => exact .int i
  | str x h => exact .str x h
  | sl hm h _ _ iha ihb => exact .sl hm (e.keep _ _ h True.intro fun _ z => nomatch z) iha ihb
def tfP (m : Str) (a b : V) : List V := [.str m, a, b]
def tfT (m : Str) (a b : V) : List V := [.str "seal of", b, a, .str m]
def datP : Tm → PyData
  | .int i => .int i
  | .str x => .str x
  | .sl m a b => .tuple [.str m, datP a, datP b]
def datT : Tm → PyData
  | .int i => .int i
  | .str x => .str x
  | .sl m a b => .tuple [.str "seal of", datT b, datT a, .str m]
theorem DenP.dp {K : PySem.W.Frag} {H : Hp} {v : V} {t : Tm} (h : DenP tfP H v t) : Dp K H v (datP t) ∧ (datP t).canLay0 = true ∧ (datP t).depth ≤ t.dep := by
  induction h with
  | int i => exact ⟨.int i, rfl, Nat.le_refl _⟩
  | str x h => exact ⟨.str x, h, Nat.le_refl _⟩
  | @sl p m va vb a b hm h _ _ iha ihb =>
    obtain ⟨a1, a2, a3⟩ := iha
    obtain ⟨b1, b2, b3⟩ := ihb
    refine ⟨.tup (SqT.of h) (.cons (.str m) (.cons a1 (.cons b1 .nil))), ?_, ?_⟩
    · show (PySem.PyData.strOk m && ((datP a).canLay0 && ((datP b).canLay0 && true))) = true
      rw [show PySem.PyData.strOk m = true from hm, a2, b2]
      rfl
    · show max 0 (max (datP a).depth (max (datP b).depth 0)) + 1 ≤ max a.dep b.dep + 1
      omega
theorem DenP.dt {K : PySem.W.Frag} {H : Hp} {v : V} {t : Tm} (h : DenP tfT H v t) : Dp K H v (datT t) ∧ (datT t).canLay0 = true ∧ (datT t).depth ≤ t.dep := by
  induction h with
  | int i => exact ⟨.int i, rfl, Nat.le_refl _⟩
  | str x h => exact ⟨.str x, h, Nat.le_refl _⟩
  | @sl p m va vb a b hm h _ _ iha ihb =>
    obtain ⟨a1, a2, a3⟩ := iha
    obtain ⟨b1, b2, b3⟩ := ihb
    refine ⟨.tup (SqT.of h) (.cons (.str _) (.cons b1 (.cons a1 (.cons (.str m) .nil)))), ?_, ?_⟩
    · show (PySem.PyData.strOk "seal of" && ((datT b).canLay0 && ((datT a).canLay0 && (PySem.PyData.strOk m && true)))) = true
      rw [show PySem.PyData.strOk m = true from hm, a2, b2]
      decide +kernel
    · show max 0 (max (datT b).depth (max (datT a).depth (max 0 0))) + 1 ≤ max a.dep b.dep + 1
      omega
def plainSys (tf : Str → V → V → List V) (f : Addr) : Sys := ⟨f, fun H v t => DenP tf H v t, fun _ _ => True⟩
theorem goodP {K : PySem.W.Frag} (f : Addr) : (plainSys tfP f).Good K :=
  ⟨fun e h => h.mono e, fun _ _ => trivial, fun _ _ => trivial, fun i _ => .int i, fun x _ h => .str x h, fun h h' => ⟨_, DenP.dp h |>.1, DenP.dp h' |>.1, (DenP.dp (K := K) h).2.1, (DenP.dp (K := K) h).2.2⟩⟩
theorem goodT {K : PySem.W.Frag} (f : Addr) : (plainSys tfT f).Good K :=
  ⟨fun e h => h.mono e, fun _ _ => trivial, fun _ _ => trivial, fun i _ => .int i, fun x _ h => .str x h, fun h h' => ⟨_, DenP.dt h |>.1, DenP.dt h' |>.1, (DenP.dt (K := K) h).2.1, (DenP.dt (K := K) h).2.2⟩⟩
section
variable {P : Program} {w : World} {K : PySem.W.Frag} {mg : Str → Option Value} {base : Heap}
theorem fnAt_fun {x qual : Str} {st : Stmt} {f : Addr} {fd : FuncData} (F : L2.Fun K x qual st f fd) {h : Heap} (X : K.In h) : PySem.W.FnAt f h := by
  obtain ⟨oc, od, kV, doc, pm, an, cdv, ct, osl, rfl, lk, _⟩ := F.ex
  exact ⟨_, _, _, _, X _ _ lk⟩
def spTup (tf : Str → V → V → List V) : Sp := fun vs H Q _ => ∃ m a b, vs = [.str m, a, b] ∧ ∀ p, H p = none → Q (.ref p) (upd H p (.tup (tf m a b)))
theorem held_plain {tf : Str → V → V → List V} {x : Str} {st : Stmt} {ps : List Str} {f : Addr} {fd : FuncData} (F : L2.Fun K x x st f fd) (b : ∀ us : List Value, us.length = ps.length → bindArgs fd ⟨us, []⟩ = pure (ps.zip us)) (G : FnOk P w K mg base L2.CX0 1 f fd ps (spTup tf)) :
    HeldSl P w K mg base 1 (plainSys tf f) := by
  refine ⟨fun H h r X _ _ => fnAt_fun F X, fun A outer s H us vs Q E hr e0 rv h => ?_⟩
  obtain ⟨r, m, a, b', va, vb, rfl, hm, _, ha, hb, q⟩ := h
  have hsp : spTup tf [.str m, va, vb] H Q E := ⟨m, va, vb, rfl, fun p hp => q _ _ (Ext.new hp) True.intro (.sl hm upd_same (ha.mono (Kp.new hp).gr) (hb.mono (Kp.new hp).gr))⟩
  have hl : us.length = ps.length := by rw [← rv.length]; exact G.len _ _ _ _ hsp
  exact G.run A outer s H ⟨us, []⟩ us _ Q E hr e0 (.of_eq (b us hl)) rv hsp
/-! ### a seal that numbers its threes -/
def tab (ks : List (List Key)) : List (List Key × V) := ks.zipIdx.map fun p => (p.1, V.int ((p.2 : Nat) : Int))
theorem tab_snoc (ks : List (List Key)) (k : List Key) : tab (ks ++ [k]) = tab ks ++ [(k, V.int ((ks.length : Nat) : Int))] := by
  unfold tab
  rw [List.zipIdx_append, List.map_append]
  simp
theorem tab_len (ks : List (List Key)) : (tab ks).length = ks.length := by
  unfold tab
  rw [List.length_map, List.length_zipIdx]
theorem valV_app {κ : Type} [DecidableEq κ] (k : κ) : ∀ (l r : List (κ × V)) {v : V}, valV l k = some v → valV (l ++ r) k = some v
  | [], _, _, h => by cases h
  | p :: l, r, v, h => by
    by_cases e : p.1 = k
    · rw [valV_pos e] at h
      rw [List.cons_append, valV_pos e]
      exact h
    · rw [valV_neg e] at h
      rw [List.cons_append, valV_neg e]
      exact valV_app k l r h
theorem tab_at {ks : List (List Key)} {k : List Key} {v : V} (h : valV (tab ks) k = some v) : ∃ n : Nat, v = .int (n : Int) ∧ ks[n]? = some k := by
  unfold valV at h
  obtain ⟨p, hp, rfl⟩ := Option.map_eq_some_iff.mp h
  have h1 := List.mem_of_find?_eq_some hp
  have h2 : decide (p.1 = k) = true := List.find?_some (p := fun kv : List Key × V => decide (kv.1 = k)) hp
  obtain ⟨q, hq, rfl⟩ := List.mem_map.mp h1
  refine ⟨q.2, rfl, ?_⟩
  have h3 : q.1 = k := of_decide_eq_true h2
  have h4 := List.mk_mem_zipIdx_iff_getElem?.mp (show (q.1, q.2) ∈ ks.zipIdx from hq)
  rw [h4, h3]
inductive DenN (kvs : List (List Key × V)) : Key → Tm → Prop
  | int (i : Int) : DenN kvs (.inl i) (.int i)
  | str (x : Str) (h : txtOk x = true) : DenN kvs (.inr x) (.str x)
  | sl {m : Str} {ka kb : Key} {a b : Tm} {n : Int} (ha : DenN kvs ka a) (hb : DenN kvs kb b) (h : valV kvs [.inr m, ka, kb] = some (.int n)) : DenN kvs (.inl n) (.sl m a b)
theorem DenN.app {kvs more : List (List Key × V)} {k : Key} {t : Tm} (h : DenN kvs k t) : DenN (kvs ++ more) k t := by
  induction h with
  | int i => exact .int i
  | str x h => exact .str x h
  | sl _ _ h iha ihb => exact .sl iha ihb (valV_app _ _ _ h)
theorem DenN.fn {kvs : List (List Key × V)} {k : Key} {t : Tm} (h : DenN kvs k t) : ∀ {k'}, DenN kvs k' t → k = k' := by
  induction h with
  | int i => intro k' h'; cases h'; rfl
  | str x h => intro k' h'; cases h'; rfl
  | sl _ _ h iha ihb =>
    intro k' h'
    cases h' with
    | sl ha' hb' h' =>
      rw [← iha ha', ← ihb hb', h] at h'
      cases h'
      rfl
theorem DenN.lay {kvs : List (List Key × V)} {k : Key} {t : Tm} (h : DenN kvs k t) (K : PySem.W.Frag) (H : Hp) : ∃ d, Dp K H (kV k) d ∧ d.canLay0 = true ∧ d.depth = 0 := by
  cases h with
  | int i => exact ⟨.int i, .int i, rfl, rfl⟩
  | str x h => exact ⟨.str x, .str x, h, rfl⟩
  | sl _ _ _ => exact ⟨.int _, .int _, rfl, rfl⟩
/-- the cell at c holds the dict at d -/
def CellO (c d : Addr) : HO := .ext fun h => h.IsCell c (some (.ref d))
theorem cellO_at {H : Hp} {h : Heap} {c d : Addr} (hok : HOk P w H h) (e : H c = some (CellO c d)) : h.IsCell c (some (.ref d)) := (hok c _ e).1
theorem cellO_ok {H : Hp} {h : Heap} {c d : Addr} (e : h.IsCell c (some (.ref d))) : ObjOk P w H h c (CellO c d) := by
  obtain ⟨o, ho, hd⟩ := id e
  exact ⟨e, ⟨o, ho⟩, fun h1 h2 ⟨o', ho', hd'⟩ st => ⟨o', st _ ho', hd'⟩⟩
structure NumD where
  f : Addr
  q : Str
  c : Addr
  c0 : Addr
  d : Addr
abbrev NumD.F (N : NumD) : NdefX.NF := NdefX.NF.of s__law_numbering__law_numbered "_law_numbered" N.q [("_law_told", N.c0)] N.c
structure NumOk (N : NumD) (H : Hp) (r : Nat) : Prop where
  dict : ∃ ks, H N.d = some (.dT (tab ks)) ∧ ks.length + r ≤ sizeLine
  fn : H N.f = some (NdefX.FnO N.f N.F)
  code : H N.c = some (LamX.CodeO N.c N.q)
  cell : H N.c0 = some (CellO N.c0 N.d)
def numSys (N : NumD) : Sys := ⟨N.f, fun H v t => ∃ kvs k, H N.d = some (.dT kvs) ∧ DenN kvs k t ∧ v = kV k, fun H r => NumOk N H r⟩
theorem goodN (N : NumD) : (numSys N).Good K := by
  refine ⟨?_, ?_, ?_, ?_, ?_, ?_⟩
  · rintro H H' v t e ⟨kvs, k, hd, hk, rfl⟩
    obtain ⟨more, e1⟩ := e.grow _ _ hd
    exact ⟨_, k, e1, hk.app, rfl⟩
  · rintro H H' r e ⟨⟨ks, h1, h2⟩, h3, h4, h5⟩
    exact ⟨⟨ks, e _ _ h1 True.intro, h2⟩, e _ _ h3 True.intro, e _ _ h4 True.intro, e _ _ h5 True.intro⟩
  · rintro H r r' ⟨⟨ks, h1, h2⟩, h3, h4, h5⟩ hr
    exact ⟨⟨ks, h1, by omega⟩, h3, h4, h5⟩
  · rintro H r i ⟨⟨ks, h1, h2⟩, _⟩
    exact ⟨_, .inl i, h1, .int i, rfl⟩
  · rintro H r x ⟨⟨ks, h1, h2⟩, _⟩ hx
    exact ⟨_, .inr x, h1, .str x hx, rfl⟩
  · rintro H v v' t ⟨kvs, k, h1, h2, rfl⟩ ⟨kvs', k', h1', h2', rfl⟩
    rw [h1] at h1'
    cases h1'
    have e := h2.fn h2'
    subst e
    obtain ⟨d, a, b, c⟩ := h2.lay K H
    exact ⟨d, a, a, b, by omega⟩
/-- its own promise: ws, what its cell holds -/
def spNumd (ws : List (Option V)) : Sp := fun vs H Q _ => ∃ (d : Addr) (ks : List (List Key)) (m : Str) (ka kb : Key), ws = [some (.ref d)] ∧ vs = [.str m, kV ka, kV kb] ∧ H d = some (.dT (tab ks)) ∧ ks.length < sizeLine ∧
  ∀ (n : Int) (H' : Hp) (more : List (List Key)), Ext H H' → H' d = some (.dT (tab (ks ++ more))) → more.length ≤ 1 → valV (tab (ks ++ more)) [.inr m, ka, kb] = some (.int n) → Q (.int n) H'
theorem scN : NdefX.NScope N__law_numbering__law_numbered ["_law_mark", "_law_one", "_law_two"] ["_law_told"] (defScope s__law_numbering__law_numbered) := NdefX.nscope_by (by decide +kernel)
theorem nok_num (mlen : mg "len" = none) (N : NumD) : NdefX.NOk P w K mg base L2.CX0 1 N.f N.F ["_law_mark", "_law_one", "_law_two"] ["_law_told"] spNumd := by
  refine NdefX.nok_of (N := N__law_numbering__law_numbered) scN (fun _ _ _ us hl => match us, hl with | [_, _, _], _ => rfl) (fun ws vs H Q E h => ?_) (fun A outer s H vs ws Q E hr hf hc hw h => ?_)
  · obtain ⟨d, ks, m, ka, kb, _, rfl, _⟩ := h
    rfl
  obtain ⟨d, ks, m, ka, kb, rfl, rfl, hd, hl, q⟩ := h
  have hu : (NdefX.ncx L2.CX0 P w K mg base N__law_numbering__law_numbered N.F N.f A outer s H E).A.units + 1 < cLine := hu_of hr
  refine ⟨_, (pss_cons (ps_if (pt_cmp (pc_dnotin hu (pe_tup (pa_cons (pv 0) (pa_cons (pv 1) (pa_cons (pv 2) pa_nil)))) (pv 3))) (pss_one (ps_dput hu (pv 3) (pe_tup (pa_cons (pv 0) (pa_cons (pv 1) (pa_cons (pv 2) pa_nil)))) (pe_callB call_len_dT rfl mlen PySem.boot_len (pa_cons (pv 3) pa_nil)) rfl)) pss_nil)
  (pss_one (ps_ret (pe_dget hu (pv 3) (pe_tup (pa_cons (pv 0) (pa_cons (pv 1) (pa_cons (pv 2) pa_nil)))) (fun _ _ => rfl))))), ?_⟩
  have ek : ([.str m, kV ka, kV kb] : List V) = ([.inr m, ka, kb] : List Key).map kV := rfl
  have hp0 : ∀ p : Addr, H p = none → d ≠ p := fun p hp => ne_of_none hd hp
  refine ⟨_, rfl, _, rfl, _, rfl, (by show 3 ≤ sizeLine; decide), fun p hp => ?_⟩
  have d1 : upd H p (.tup [.str m, kV ka, kV kb]) d = some (.dT (tab ks)) := by
    rw [upd_ne (hp0 p hp)]
    exact hd
  refine ⟨_, rfl, d, _, rfl, DGet.t (k := [.inr m, ka, kb]) d1 upd_same, _, rfl, ?_⟩
  cases hv : valV (tab ks) [.inr m, ka, kb] with
  | some v =>
    obtain ⟨n, rfl, _⟩ := tab_at hv
    refine iteF ?_
    refine ⟨_, rfl, _, rfl, _, rfl, _, rfl, (by show 3 ≤ sizeLine; decide), fun p2 hp2 => ?_⟩
    have d2 : upd (upd H p (.tup [.str m, kV ka, kV kb])) p2 (.tup [.str m, kV ka, kV kb]) d = some (.dT (tab ks)) := by
      rw [upd_ne (ne_of_none d1 hp2)]
      exact d1
    refine ⟨d, .int n, rfl, ?_, ?_⟩
    · have g := DGet.t (k := [.inr m, ka, kb]) d2 upd_same
      rw [hv] at g
      exact g
    · exact q n _ [] ((Ext.new hp).trans (Ext.new hp2)) (by rw [List.append_nil]; exact d2) (Nat.zero_le _) (by rw [List.append_nil]; exact hv)
  | none =>
    refine iteT ?_
    refine ⟨_, rfl, d, _, rfl, d1, ?_⟩
    refine ⟨_, rfl, _, rfl, _, rfl, _, rfl, (by show 3 ≤ sizeLine; decide), fun p2 hp2 => ?_⟩
    have d2 : upd (upd H p (.tup [.str m, kV ka, kV kb])) p2 (.tup [.str m, kV ka, kV kb]) d = some (.dT (tab ks)) := by
      rw [upd_ne (ne_of_none d1 hp2)]
      exact d1
    refine ⟨d, _, rfl, DPut.t (k := [.inr m, ka, kb]) d2 upd_same (by rw [tab_len]; exact hl), ?_⟩
    rw [putK_new _ hv, tab_len, ← tab_snoc]
    have x2 : Ext H (upd (upd H p (.tup [.str m, kV ka, kV kb])) p2 (.tup [.str m, kV ka, kV kb])) := (Ext.new hp).trans (Ext.new hp2)
    have x3 : Ext H (upd (upd (upd H p (.tup [.str m, kV ka, kV kb])) p2 (.tup [.str m, kV ka, kV kb])) d (.dT (tab (ks ++ [[.inr m, ka, kb]])))) := by
      refine ⟨fun a o ha hn => ?_, fun a kvs ha => ?_⟩
      · rw [upd_ne (show a ≠ d from fun z => by rw [z, hd] at ha; exact hn _ (Option.some.inj ha).symm)]
        exact x2.keep a o ha hn
      · by_cases e : a = d
        · subst e
          rw [hd] at ha
          cases ha
          exact ⟨[(_, _)], by rw [upd_same, tab_snoc]⟩
        · rw [upd_ne e]
          exact x2.grow a kvs ha
    have d3 : upd (upd (upd H p (.tup [.str m, kV ka, kV kb])) p2 (.tup [.str m, kV ka, kV kb])) d (.dT (tab (ks ++ [[.inr m, ka, kb]]))) d = some (.dT (tab (ks ++ [[.inr m, ka, kb]]))) := upd_same
    generalize upd (upd (upd H p (.tup [.str m, kV ka, kV kb])) p2 (.tup [.str m, kV ka, kV kb])) d (.dT (tab (ks ++ [[.inr m, ka, kb]]))) = H3 at x3 d3 ⊢
    refine ⟨_, rfl, _, rfl, _, rfl, _, rfl, (by show 3 ≤ sizeLine; decide), fun p3 hp3 => ?_⟩
    have d4 : upd H3 p3 (.tup [.str m, kV ka, kV kb]) d = some (.dT (tab (ks ++ [[.inr m, ka, kb]]))) := by
      rw [upd_ne (ne_of_none d3 hp3)]
      exact d3
    have hv3 : valV (tab (ks ++ [[.inr m, ka, kb]])) [.inr m, ka, kb] = some (.int ((ks.length : Nat) : Int)) := by
      rw [tab_snoc, valV_snoc _ _ _ _ hv, if_pos rfl]
    refine ⟨d, .int ((ks.length : Nat) : Int), rfl, ?_, ?_⟩
    · have g := DGet.t (k := [.inr m, ka, kb]) d4 upd_same
      rw [hv3] at g
      exact g
    · exact q _ _ _ (x3.trans (Ext.new hp3)) d4 (Nat.le_refl _) hv3
/-- its cell set aside for the call -/
def er (H : Hp) (c : Addr) : Hp := fun b => if b = c then none else H b
theorem er_ne {H : Hp} {c b : Addr} (h : b ≠ c) : er H c b = H b := if_neg h
theorem er_same {H : Hp} {c : Addr} : er H c c = none := if_pos rfl
theorem er_some {H : Hp} {c b : Addr} {o : HO} (h : er H c b = some o) : b ≠ c ∧ H b = some o := by
  by_cases e : b = c
  · rw [e, er_same] at h
    cases h
  · rw [er_ne e] at h
    exact ⟨e, h⟩
theorem cell_ne_own {H : Hp} {c d a b : Addr} (e : H c = some (CellO c d)) (h : H b = some (.own a)) : b ≠ c := fun z => by
  rw [z, e] at h
  have h : HO.ext _ = HO.own a := Option.some.inj h
  cases h
theorem cell_ne_tup {H : Hp} {c d b : Addr} {xs : List V} (e : H c = some (CellO c d)) (h : H b = some (.tup xs)) : b ≠ c := fun z => by
  rw [z, e] at h
  have h : HO.ext _ = HO.tup xs := Option.some.inj h
  cases h
theorem er_hok {H : Hp} {h : Heap} {c d : Addr} (e : H c = some (CellO c d)) (ok : HOk P w H h) : HOk P w (er H c) h := fun a o ha => by
  obtain ⟨n, ha'⟩ := er_some ha
  exact (ok a o ha').stay (fun _ _ _ q => q) (fun b hb => by rw [er_ne (cell_ne_own e hb)]; exact hb) fun b xs hb => by rw [er_ne (cell_ne_tup e hb)]; exact hb
theorem held_num (mlen : mg "len" = none) (N : NumD) : HeldSl P w K mg base 1 (numSys N) := by
  refine ⟨fun H h r X ok h1 => ?_, fun A outer s H us vs Q E hr e0 rv h => ?_⟩
  · obtain ⟨od, sl, doc, pm, ctv, e⟩ := NdefX.fnO_at ok h1.fn
    exact ⟨_, _, _, _, e⟩
  obtain ⟨r, m, a, b, va, vb, rfl, hm, ok, ha, hb, q⟩ := h
  obtain ⟨⟨ks, hd, hl⟩, hf, hc, hcell⟩ := id ok
  obtain ⟨kvs, ka, hd1, hka, rfl⟩ := ha
  obtain ⟨kvs', kb, hd2, hkb, rfl⟩ := hb
  rw [hd] at hd1 hd2
  cases hd1
  cases hd2
  have isC := cellO_at e0.hok hcell
  have nf : N.f ≠ N.c0 := fun z => by
    obtain ⟨od, sl, doc, pm, ctv, e⟩ := NdefX.fnO_at e0.hok hf
    obtain ⟨o, e', d'⟩ := id isC
    rw [z, e'] at e
    cases e
    cases d'
  have nc : N.c ≠ N.c0 := fun z => by
    obtain ⟨c, oc, us, t, e1, e2, e3, e4⟩ := NdefX.codeO_at e0.hok hc
    cases e1
    obtain ⟨o, e', d'⟩ := id isC
    rw [z, e'] at e2
    cases e2
    rw [d'] at e3
    cases e3
  have nd : N.d ≠ N.c0 := fun z => by
    rw [z, hcell] at hd
    have hd : HO.ext _ = HO.dT _ := Option.some.inj hd
    cases hd
  have e1 : Env0 P w K mg base A outer s (er H N.c0) := by
    refine ⟨e0.frames, e0.mod, fun b o hb => ⟨(e0.bs b o hb).1, ?_⟩, e0.bsz, e0.funs, fun b hb => ?_, er_hok hcell e0.hok, e0.bare⟩
    · by_cases z : b = N.c0
      · rw [z, er_same]
      · rw [er_ne z]
        exact (e0.bs b o hb).2
    · by_cases z : b = N.c0
      · rw [z, er_same]
      · rw [er_ne z]
        exact e0.frf b hb
  have lk : ∀ {y : Str} {c : Addr}, List.lookup y N.F.cl = some c → y = "_law_told" ∧ c = N.c0 := fun {y c} h => by
    have h : List.lookup y [(("_law_told" : Str), N.c0)] = some c := h
    by_cases z : y = "_law_told"
    · subst z
      simp at h
      exact ⟨rfl, h.symm⟩
    · have z' : (y == ("_law_told" : Str)) = false := beq_eq_false_iff_ne.mpr z
      unfold List.lookup at h
      rw [z'] at h
      cases h
  have CA : NdefX.CellsAt N.F.cl ["_law_told"] [some (.ref N.d)] s.heap (er H N.c0) := by
    refine ⟨rfl, fun y c h => ?_, fun x y c h1 h2 => (lk h1).1.trans (lk h2).1.symm, fun i y h => ?_⟩
    · rw [(lk h).2]
      exact ⟨er_same, _, isC⟩
    · cases i with
      | zero =>
        cases h
        refine ⟨N.c0, by simp [List.lookup, NdefX.NF.of], fun v hv => ?_⟩
        cases hv
        exact ⟨_, rfl, isC⟩
      | succ i => simp at h
  have nfr : N.c0 ∉ frs outer := fun z => by
    have := e0.frf _ z
    rw [hcell] at this
    cases this
  refine codeAny_mono ((nok_num mlen N).run A outer s (er H N.c0) us _ [some (.ref N.d)] (fun v H' => Q v (upd H' N.c0 (CellO N.c0 N.d))) E hr e1 (by rw [er_ne nf]; exact hf) (by rw [show N.F.c = N.c from rfl, er_ne nc]; exact hc) CA rv
    ⟨N.d, ks, m, ka, kb, rfl, rfl, by rw [er_ne nd]; exact hd, by omega, fun n H' more x hd' hmore hv => ?_⟩) fun res s' hq => ?_
  · have kp : ∀ b o, H b = some o → b ≠ N.c0 → (∀ kvs, o ≠ .dT kvs) → H' b = some o := fun b o hb hn hn2 => x.keep b o (by rw [er_ne hn]; exact hb) hn2
    refine q _ _ ⟨fun b o hb hn => ?_, fun b kvs hb => ?_⟩ ⟨⟨ks ++ more, ?_, ?_⟩, ?_, ?_, upd_same⟩ ⟨_, .inl n, by rw [upd_ne nd]; exact hd', ?_, rfl⟩
    · by_cases z : b = N.c0
      · rw [z, upd_same]
        rw [z, hcell] at hb
        exact hb
      · rw [upd_ne z]
        exact kp b o hb z hn
    · have z : b ≠ N.c0 := fun z => by
        rw [z, hcell] at hb
        have hb : HO.ext _ = HO.dT _ := Option.some.inj hb
        cases hb
      rw [upd_ne z]
      exact x.grow b kvs (by rw [er_ne z]; exact hb)
    · rw [upd_ne nd]
      exact hd'
    · rw [List.length_append]
      omega
    · rw [upd_ne nf]
      exact kp _ _ hf nf fun _ z => HO.noConfusion z
    · rw [upd_ne nc]
      exact kp _ _ hc nc fun _ z => HO.noConfusion z
    · have t : ∀ {k t}, DenN (tab ks) k t → DenN (tab (ks ++ more)) k t := fun {k t} h => by
        obtain ⟨m2, e2⟩ := x.grow N.d (tab ks) (by rw [er_ne nd]; exact hd)
        rw [hd'] at e2
        have e3 : tab (ks ++ more) = tab ks ++ m2 := by
          have e2 := Option.some.inj e2
          injection e2
        rw [e3]
        exact h.app
      exact .sl (t hka) (t hkb) hv
  · cases res with
    | error e => exact hq
    | ok fl =>
      cases fl with
      | next => exact hq
      | brk => exact hq
      | cont => exact hq
      | ret u =>
        obtain ⟨v, H', os, bare, un, hok, rvu, q'⟩ := hq
        have nH : ∀ b, H b = none → b ≠ N.c0 := fun b hb z => by
          rw [z, hcell] at hb
          cases hb
        have ern : ∀ b, H b = none → er H N.c0 b = none := fun b hb => by
          rw [er_ne (nH b hb)]
          exact hb
        obtain ⟨oc, hoc, hod⟩ := id isC
        have hH' : H' N.c0 = none := un.free _ oc hoc er_same (by simp)
        have hcs : s'.heap.get? N.c0 = some oc := un.keep _ oc hoc er_same nfr (by simp)
        refine ⟨v, upd H' N.c0 (CellO N.c0 N.d), os, bare, ⟨fun b o e n hb hx => un.keep b o e (ern b n) hb hx, fun b o e n hb hx => un.slot b o e (ern b n) hb hx, fun b o e n hx => ?_, un.there, fun b xs e => ?_, fun b o u e => ?_, fun b ps e => ?_⟩, fun b u e => ?_, rvu, q'⟩
        · rw [upd_ne (nH b n)]
          exact un.free b o e (ern b n) hx
        · have z := cell_ne_tup hcell e
          rw [upd_ne z]
          exact un.tups b xs (by rw [er_ne z]; exact e)
        · have z : b ≠ N.c0 := fun z => by
            rw [z, hcell] at e
            have e : HO.ext _ = HO.frz _ _ := Option.some.inj e
            cases e
          rw [upd_ne z]
          exact un.frzs b o u (by rw [er_ne z]; exact e)
        · have z : b ≠ N.c0 := fun z => by
            rw [z, hcell] at e
            have e : HO.ext _ = HO.tbl _ := Option.some.inj e
            cases e
          obtain ⟨more, hm⟩ := un.tbls b ps (by rw [er_ne z]; exact e)
          exact ⟨more, by rw [upd_ne z]; exact hm⟩
        · by_cases z : b = N.c0
          · rw [z, upd_same] at e
            cases e
            rw [z]
            exact cellO_ok ⟨oc, hcs, hod⟩
          · rw [upd_ne z] at e
            exact (hok b u e).stay (fun _ _ _ q => q) (fun b hb => by rw [upd_ne (ne_of_none hb hH')]; exact hb) fun b xs hb => by rw [upd_ne (ne_of_none hb hH')]; exact hb
end

/-! ### the three seals, by the law's own defs -/
section
variable {P : Program} {w : World} {K : PySem.W.Frag} {mg : Str → Option Value} {base : Heap}
theorem fn_plain {f : Addr} {fd : FuncData} (F : L2.Fun K "_law_plain" "_law_plain" s__law_plain f fd) : FnOk P w K mg base L2.CX0 1 f fd ["_law_mark", "_law_one", "_law_two"] (spTup tfP) := by
  refine F.ok sc__law_plain (fun vs H Q E h => ?_) (fun cdv A outer s H vs Q E hr h => ?_)
  · obtain ⟨m, a, b, rfl, _⟩ := h
    rfl
  obtain ⟨m, a, b, rfl, q⟩ := h
  refine ⟨_, (pss_one (ps_ret (pe_tup (pa_cons (pv 0) (pa_cons (pv 1) (pa_cons (pv 2) pa_nil)))))), ?_⟩
  exact ⟨_, rfl, _, rfl, _, rfl, (by show 3 ≤ sizeLine; decide), fun p hp => q p hp⟩
theorem fn_turned {f : Addr} {fd : FuncData} (F : L2.Fun K "_law_turned" "_law_turned" s__law_turned f fd) : FnOk P w K mg base L2.CX0 1 f fd ["_law_mark", "_law_one", "_law_two"] (spTup tfT) := by
  refine F.ok sc__law_turned (fun vs H Q E h => ?_) (fun cdv A outer s H vs Q E hr h => ?_)
  · obtain ⟨m, a, b, rfl, _⟩ := h
    rfl
  obtain ⟨m, a, b, rfl, q⟩ := h
  refine ⟨_, (pss_one (ps_ret (pe_tup (pa_cons pe_str (pa_cons (pv 2) (pa_cons (pv 1) (pa_cons (pv 0) pa_nil))))))), ?_⟩
  exact ⟨_, rfl, _, rfl, _, rfl, (by show 4 ≤ sizeLine; decide), fun p hp => q p hp⟩
/-- the three of them -/
def Fam3 (mg : Str → Option Value) : Sys → Prop := fun S => (∃ f, mg "_law_plain" = some (.ref f) ∧ S = plainSys tfP f) ∨ (∃ f, mg "_law_turned" = some (.ref f) ∧ S = plainSys tfT f) ∨ ∃ N : NumD, S = numSys N
theorem sla3 {cc : Addr} (T : Txt K mg cc) : SlA P w K mg base (Fam3 mg) := by
  obtain ⟨fP, fdP, FP, mP, bP⟩ := T.d__law_plain.ex
  obtain ⟨fT, fdT, FT, mT, bT⟩ := T.d__law_turned.ex
  refine ⟨fun {S} h => ?_, fun S h => ?_⟩
  · rcases h with ⟨f, _, rfl⟩ | ⟨f, _, rfl⟩ | ⟨N, rfl⟩
    · exact goodP f
    · exact goodT f
    · exact goodN N
  · rcases h with ⟨f, m, rfl⟩ | ⟨f, m, rfl⟩ | ⟨N, rfl⟩
    · rw [mP] at m
      cases m
      exact held_plain FP bP (fn_plain FP)
    · rw [mT] at m
      cases m
      exact held_plain FT bT (fn_turned FT)
    · exact held_num T.Z.len N
/-- its making: the table at PT is empty before -/
def spNumg (PT : Addr) : Sp := fun vs H Q _ => vs = [] ∧ H PT = some (.tbl #[]) ∧ ∀ (N : NumD) (H' : Hp), LamX.ExtN H H' → NumOk N H' sizeLine → Q (.ref N.f) H'
theorem fn_numbering {f c PT : Addr} {kV doc pm ct oc : Value} {an od : Option Addr} {osl : Array (Option Value)} (TB : LamX.TabB base mg c PT)
    (lk : K.lookup f = some ⟨oc, od, .func (PySem.W.fnOf "_law_numbering" "_law_numbering" (defArgs s__law_numbering) (defBody s__law_numbering) (defScope s__law_numbering) .none kV doc pm an (.ref c) ct), osl⟩) (hcd : PySem.W.codeIn K (.ref c) "_law_numbering" = true) :
    FnOk P w K mg base L2.CX0 1 f (PySem.W.fnOf "_law_numbering" "_law_numbering" (defArgs s__law_numbering) (defBody s__law_numbering) (defScope s__law_numbering) .none kV doc pm an (.ref c) ct) [] (spNumg PT) := by
  refine ⟨fun vs H Q E h => by rw [h.1] <;> rfl, fun A outer s H args us vs Q E hr e0 hb r hsp => ?_⟩
  obtain ⟨rfl, hPT, q⟩ := hsp
  have KX : K.In s.heap := e0.mod.kin.keeps fun b o e => (e0.bs b o e).1
  have lim : s.heap.NoLimit := e0.mod.nolimit.keeps fun b o e => (e0.bs b o e).1
  refine codeAny_call_function hr.depth (KX _ _ lk) rfl sc__law_numbering.co sc__law_numbering.gen rfl (PySem.W.codeRec_of KX hcd) (hb _ _ _ _ ?_)
  refine wpAny_newFunctionEnv_cells sc__law_numbering.kind (fun ⟨n, v⟩ hy => by simp at hy) fun env he s1 x => ?_
  subst he
  refine ⟨lim.keeps x.toInCall.keep, codeAny_func ?_⟩
  have I : Inv (cxOf L2.CX0 P w K mg base N__law_numbering "_law_numbering" (defScope s__law_numbering) f (.ref c) A outer s H E) [] (start N__law_numbering []) H s1 := inv_start sc__law_numbering hr.hd e0 rfl r x
  have b3 : defBody s__law_numbering = [(defBody s__law_numbering).getD 0 (.Pass ⟨0, 0, 0, 0⟩), inDef s__law_numbering 1, (defBody s__law_numbering).getD 2 (.Pass ⟨0, 0, 0, 0⟩)] := rfl
  refine wpAny_mono (Q := fun fl s' => ∃ u, fl = .ret u ∧ CE outer P w H s Q u s') ?_ (fun fl s' hs => ?_) fun e s' hs => hs
  · rw [b3]
    have hfree : NdefX.ndefB (defScope s__law_numbering) (C8.fnScope s__law_numbering__law_numbered) ["_law_told"] = true := by decide +kernel
    have e1 : PS (cxOf L2.CX0 P w K mg base N__law_numbering "_law_numbering" (defScope s__law_numbering) f (.ref c) A outer s H E) ((defBody s__law_numbering).getD 0 (.Pass ⟨0, 0, 0, 0⟩)) (tAsg tDNewT (gName 1)) := ps_set (i := 1) sc__law_numbering.nd rfl (Or.inr rfl) pe_dnewT
    have e2 := NdefX.ps_ndefS (X := cxOf L2.CX0 P w K mg base N__law_numbering "_law_numbering" (defScope s__law_numbering) f (.ref c) A outer s H E) (st := s__law_numbering__law_numbered) (name := "_law_numbered") (i := 0) (T := [(PT, fun _ _ => (envOfC "_law_numbering" (defScope s__law_numbering) s.heap.objs.size f (.ref c)).qual ++ "_law_numbered")]) (c := c) (P := PT)
      (nm := fun _ _ => (envOfC "_law_numbering" (defScope s__law_numbering) s.heap.objs.size f (.ref c)).qual ++ "_law_numbered") rfl TB rfl List.mem_cons_self rfl (fun p hp _ => by rw [List.mem_singleton.mp hp]) (NdefX.ndef_free hfree) rfl rfl rfl sc__law_numbering.nd rfl (Or.inl rfl) (Or.inl rfl)
    have e3 : PE (cxOf L2.CX0 P w K mg base N__law_numbering "_law_numbering" (defScope s__law_numbering) f (.ref c) A outer s H E) (match (defBody s__law_numbering).getD 2 (.Pass ⟨0, 0, 0, 0⟩) with | .Return (some e) _ => e | _ => .Name "" ⟨0, 0, 0, 0⟩) (tVar 0) := pv 0
    have b4 : ∃ pos : Pos, (defBody s__law_numbering).getD 2 (.Pass ⟨0, 0, 0, 0⟩) = .Return (some (match (defBody s__law_numbering).getD 2 (.Pass ⟨0, 0, 0, 0⟩) with | .Return (some e) _ => e | _ => .Name "" ⟨0, 0, 0, 0⟩)) pos := ⟨_, rfl⟩
    obtain ⟨pos, b4⟩ := b4
    refine wpAny_execs_cons (thn (e1.run [] s1 _ H ⟨fun σ H' => ∃ d, H d = none ∧ σ = [none, some (.ref d)] ∧ H' = upd H d (.dT []), fun _ _ => False, fun _ _ => False, fun _ _ => False⟩ I fun d nd => ⟨d, nd, rfl, rfl⟩) fun fl s2 h2 => ?_)
    cases fl with
    | ret v => obtain ⟨_, _, _, _, _, z⟩ := h2; exact z.elim
    | brk => obtain ⟨_, _, _, z⟩ := h2; exact z.elim
    | cont => obtain ⟨_, _, _, z⟩ := h2; exact z.elim
    | next =>
    obtain ⟨σ2, H2, I2, d, nd, rfl, rfl⟩ := h2
    have tb : NdefX.TabsN [(PT, fun _ _ => (envOfC "_law_numbering" (defScope s__law_numbering) s.heap.objs.size f (.ref c)).qual ++ "_law_numbered")] (upd H d (.dT [])) := fun p hp => by
      rw [List.mem_singleton.mp hp]
      exact NdefX.TabN.nil (by rw [upd_ne (ne_of_none hPT nd)]; exact hPT)
    refine wpAny_execs_cons (thn (e2.run [] s2 _ _ ⟨fun σ H' => ∃ f2 c2, LamX.ExtN (upd H d (.dT [])) H' ∧ σ = [some (.ref f2), some (.ref d)] ∧ H' f2 = some (NdefX.FnO f2 (NdefX.NF.of s__law_numbering__law_numbered "_law_numbered" ((envOfC "_law_numbering" (defScope s__law_numbering) s.heap.objs.size f (.ref c)).qual ++ "_law_numbered") [("_law_told", s.heap.objs.size + 1)] c2)) ∧
        H' c2 = some (LamX.CodeO c2 ((envOfC "_law_numbering" (defScope s__law_numbering) s.heap.objs.size f (.ref c)).qual ++ "_law_numbered")), fun _ _ => False, fun _ _ => False, fun _ _ => False⟩ I2 ⟨tb, fun f2 c2 H3 x3 _ _ hf2 hc2 => ⟨f2, c2, x3, rfl, hf2, hc2⟩⟩) fun fl s3 h3 => ?_)
    cases fl with
    | ret v => obtain ⟨_, _, _, _, _, z⟩ := h3; exact z.elim
    | brk => obtain ⟨_, _, _, z⟩ := h3; exact z.elim
    | cont => obtain ⟨_, _, _, z⟩ := h3; exact z.elim
    | next =>
    obtain ⟨σ3, H3, I3, f2, c2, x3, rfl, hf2, hc2⟩ := h3
    rw [b4]
    refine wpAny_execs_cons (wpAny_Return_some (thn (e3.run [] s3 _ H3 (fun v H' => v = .ref f2 ∧ H' = H3) I3 ⟨_, rfl, rfl, rfl⟩) fun u s4 h4 => ?_))
    obtain ⟨v, H4, I4, ru, rfl, rfl⟩ := h4
    refine ⟨u, rfl, ?_⟩
    -- the cell
    have hce : (cxOf L2.CX0 P w K mg base N__law_numbering "_law_numbering" (defScope s__law_numbering) f (.ref c) A outer s H E).env.cells.lookup ("_law_told" : Str) = some (s.heap.objs.size + 1) := rfl
    have isC : s4.heap.IsCell (s.heap.objs.size + 1) (some (.ref d)) := by
      obtain ⟨m, hn, hl⟩ := I4.loc
      obtain ⟨u2, r2, l2⟩ := hl 1 "_law_told" (.ref d) rfl rfl (.inr (.inl rfl))
      have e2 : u2 = .ref d := r2
      subst e2
      rcases l2 with ⟨k, _⟩ | ⟨_, c3, hc3, z⟩
      · cases (show some NameKind.cell = some NameKind.local from k)
      · rw [hce] at hc3
        cases hc3
        exact z
    have fc := I4.freeC _ _ hce
    have hs0 : H (s.heap.objs.size + 1) = none := e0.hok.fresh (Nat.le_succ _)
    have un := I4.base
    have xn : LamX.ExtN H (upd H4 (s.heap.objs.size + 1) (CellO (s.heap.objs.size + 1) d)) := fun b o hb hn => by
      rw [upd_ne (ne_of_none hb hs0)]
      exact x3 b o (by rw [upd_ne (ne_of_none hb nd)]; exact hb) hn
    have hd4 : H4 d = some (.dT []) := x3 d _ upd_same fun ps z => by cases z
    refine ⟨.ref f2, upd H4 (s.heap.objs.size + 1) (CellO (s.heap.objs.size + 1) d), I4.os, I4.bare, ⟨un.keep, un.slot, fun b o e n hx => ?_, un.there, fun b xs e => ?_, fun b o u e => ?_, fun b ps e => ?_⟩, fun b u e => ?_, ru, ?_⟩
    · rw [upd_ne (Nat.ne_of_lt (Nat.lt_succ_of_lt (Heap.lt_size e)))]
      exact un.free b o e n hx
    · rw [upd_ne (ne_of_none e hs0)]
      exact un.tups b xs e
    · rw [upd_ne (ne_of_none e hs0)]
      exact un.frzs b o u e
    · obtain ⟨more, hm⟩ := un.tbls b ps e
      exact ⟨more, by rw [upd_ne (ne_of_none e hs0)]; exact hm⟩
    · by_cases z : b = s.heap.objs.size + 1
      · rw [z, upd_same] at e
        cases e
        rw [z]
        exact cellO_ok isC
      · rw [upd_ne z] at e
        exact (I4.hok b u e).stay (fun _ _ _ q => q) (fun b hb => by rw [upd_ne (ne_of_none hb fc)]; exact hb) fun b xs hb => by rw [upd_ne (ne_of_none hb fc)]; exact hb
    · refine q ⟨f2, (envOfC "_law_numbering" (defScope s__law_numbering) s.heap.objs.size f (.ref c)).qual ++ "_law_numbered", c2, s.heap.objs.size + 1, d⟩ _ xn ⟨⟨[], ?_, ?_⟩, ?_, ?_, upd_same⟩
      · rw [upd_ne (ne_of_none hd4 fc)]
        exact hd4
      · exact Nat.le_of_eq (Nat.zero_add _)
      · rw [upd_ne (ne_of_none hf2 fc)]
        exact hf2
      · rw [upd_ne (ne_of_none hc2 fc)]
        exact hc2
  · obtain ⟨u, rfl, h⟩ := hs
    exact h
theorem cal_numbering {c PT : Addr} (D : DefM K mg "_law_numbering" s__law_numbering c) (TB : LamX.TabB base mg c PT) : Cal P w K mg base 1 "_law_numbering" (spNumg PT) [] := by
  obtain ⟨f, oc, od, kV, doc, pm, an, ct, osl, lk, hc, kp, m⟩ := D.ex
  exact ⟨f, _, [], [], fn_numbering TB lk hc, m, kp, .all fun us hl => match us, hl with | [], _ => rfl, .nil⟩
/-! ### the law's own helpers -/
/-- script[k] where it is, else 0 -/
def cell (ns : List Int) (k : Int) : Int := ns.getD k.toNat 0
def spCellA (K : PySem.W.Frag) : Sp := fun vs H Q _ => ∃ (a : Addr) (ns : List Int) (k : Int), vs = [.ref a, .int k] ∧ SqL K H a (ns.map V.int) ∧ 0 ≤ k ∧ Q (.int (cell ns k)) H
theorem ok_cell_at {cc : Addr} (T : Txt K mg cc) : Cal P w K mg base 1 "_law_cell_at" (spCellA K) [] := by
  have Z := T.Z
  refine cal_of T.d__law_cell_at sc__law_cell_at (fun vs H Q E h => ?_) (fun f cdv A outer s H vs Q E hr h => ?_)
  · obtain ⟨a, ns, k, rfl, _⟩ := h
    rfl
  obtain ⟨a, ns, k, rfl, hS, hk, q⟩ := h
  refine ⟨_, (pss_cons (ps_if (pt_cmpR op_lt (pv 1) (pe_callB call_len_seq rfl Z.len PySem.boot_len (pa_cons (pv 0) pa_nil)) (nomark _)) (pss_one (ps_ret (pe_ix ix_list (pv 0) (pv 1) (fun _ _ => rfl)))) pss_nil)
  (pss_one (ps_ret pe_int))), ?_⟩
  refine ⟨_, rfl, _, rfl, a, _, rfl, .inl hS, _, _, rfl, rfl, _, rfl, ?_⟩
  rw [List.length_map]
  refine ite2 (fun c => ?_) (fun c => ?_)
  · have c' : k < (ns.length : Int) := of_decide_eq_true c
    have hl : k.toNat < ns.length := by omega
    refine ⟨_, rfl, _, rfl, a, _, k, .int (cell ns k), rfl, rfl, hS, at_of (j := k.toNat) (by omega) ?_, q⟩
    rw [List.getElem?_map, List.getElem?_eq_getElem hl]
    unfold cell
    rw [List.getD_eq_getElem?_getD, List.getElem?_eq_getElem hl]
    rfl
  · have c' : ¬ k < (ns.length : Int) := of_decide_eq_false (Bool.eq_false_iff.mpr c)
    have e : cell ns k = 0 := by
      unfold cell
      rw [List.getD_eq_getElem?_getD, List.getElem?_eq_none (by omega)]
      rfl
    rw [e] at q
    exact q
/-- one of three seals, its state new -/
def spSlBy (K : PySem.W.Frag) (mg : Str → Option Value) (PT : Addr) : Sp := fun vs H Q _ => ∃ (a : Addr) (ns : List Int), vs = [.ref a] ∧ SqL K H a (ns.map V.int) ∧ H PT = some (.tbl #[]) ∧ ∀ (S : Sys) (H' : Hp), Fam3 mg S → LamX.ExtN H H' → S.ok H' sizeLine → Q (.ref S.f) H'
theorem ok_seal_by {cc PT : Addr} (T : Txt K mg cc) (TB : LamX.TabB base mg cc PT) : Cal P w K mg base 2 "_law_seal_by" (spSlBy K mg PT) [] := by
  have Z := T.Z
  obtain ⟨fP, fdP, FP, mP, bP⟩ := T.d__law_plain.ex
  obtain ⟨fT, fdT, FT, mT, bT⟩ := T.d__law_turned.ex
  obtain ⟨fN, fdN, psN, dsN, FN, mN, kN, bN, vN⟩ := (cal_numbering (P := P) (w := w) T.m__law_numbering TB).ex
  have C__law_cell_at := ok_cell_at (P := P) (w := w) (base := base) T
  refine cal_of T.d__law_seal_by sc__law_seal_by (fun vs H Q E h => ?_) (fun f cdv A outer s H vs Q E hr h => ?_)
  · obtain ⟨a, ns, rfl, _⟩ := h
    rfl
  obtain ⟨a, ns, rfl, hS, hPT, q⟩ := h
  refine ⟨_, (pss_cons (ps_set (i := 1) sc__law_seal_by.nd rfl (Or.inl rfl) (pe_op op_mod (pe_op op_fdiv (pe_c C__law_cell_at hr (by omega) rfl (pa_cons (pv 0) (pa_cons pe_int pa_nil))) pe_int) pe_int))
  (pss_cons (ps_if (pt_cmpR op_eq (pv 1) pe_int (nomark _)) (pss_one (ps_ret (pe_glob (v := .ref fP) rfl mP rfl))) pss_nil)
  (pss_cons (ps_if (pt_cmpR op_eq (pv 1) pe_int (nomark _)) (pss_one (ps_ret (pe_glob (v := .ref fT) rfl mT rfl))) pss_nil)
  (pss_one (ps_ret (pe_call0 FN hr rfl mN kN bN vN pass0)))))), ?_⟩
  refine ⟨_, rfl, a, ns, 0, rfl, hS, Int.le_refl 0, _, 7, rfl, rfl, ⟨by decide, by decide⟩, _, 3, rfl, rfl, (by show (0 : Int) < 3; decide), ?_⟩
  refine ⟨_, rfl, rfl, _, rfl, ite2 (fun _ => ?_) (fun _ => ?_)⟩
  · exact q (plainSys tfP fP) H (.inl ⟨fP, mP, rfl⟩) (LamX.ExtN.refl H) True.intro
  refine ⟨_, rfl, rfl, _, rfl, ite2 (fun _ => ?_) (fun _ => ?_)⟩
  · exact q (plainSys tfT fT) H (.inr (.inl ⟨fT, mT, rfl⟩)) (LamX.ExtN.refl H) True.intro
  have e0 : dsN = [] := by
    cases vN
    rfl
  subst e0
  exact ⟨rfl, hPT, fun N H' x ok => q (numSys N) H' (.inr (.inr ⟨N, rfl⟩)) x ok⟩
end

/-! ### the greatest power of two below a number -/
def splitN (n : Nat) : Nat := 2 ^ (n - 1).log2
theorem splitN_pos (n : Nat) : 0 < splitN n := Nat.two_pow_pos _
theorem splitN_lt {n : Nat} (h : 2 ≤ n) : splitN n < n := by
  have q := Nat.log2_self_le (show n - 1 ≠ 0 by omega)
  unfold splitN
  omega
theorem splitN_ge {n : Nat} (h : 2 ≤ n) : n ≤ 2 * splitN n := by
  have q : n - 1 < 2 ^ ((n - 1).log2 + 1) := Nat.lt_log2_self
  rw [Nat.pow_succ] at q
  unfold splitN
  omega
theorem splitN_of {n i : Nat} (h1 : 2 ^ i < n) (h2 : n ≤ 2 * 2 ^ i) : splitN n = 2 ^ i := by
  have h0 : n - 1 ≠ 0 := by
    have := Nat.two_pow_pos i
    omega
  have a : i ≤ (n - 1).log2 := (Nat.le_log2 h0).mpr (by omega)
  have b : (n - 1).log2 < i + 1 := (Nat.log2_lt h0).mpr (by rw [Nat.pow_succ]; omega)
  unfold splitN
  rw [show (n - 1).log2 = i by omega]
theorem splitN_le_pow {n k : Nat} (h : 2 ≤ n) (hk : n ≤ 2 ^ (k + 1)) : splitN n ≤ 2 ^ k ∧ n - splitN n ≤ 2 ^ k := by
  have h0 : n - 1 ≠ 0 := by omega
  have a : (n - 1).log2 < k + 1 := (Nat.log2_lt h0).mpr (by omega)
  have b : splitN n ≤ 2 ^ k := Nat.pow_le_pow_right (by decide) (by omega)
  have c := splitN_ge h
  exact ⟨b, by omega⟩
/-! ### the top of a row -/
def nonT : Tm := .sl "none" (.int 0) (.int 0)
def pairT (a b : Tm) : Tm := .sl "pair" a b
def topT (ts : List Tm) : Tm :=
  if h : ts.length < 2 then ts.headD nonT else pairT (topT (ts.take (splitN ts.length))) (topT (ts.drop (splitN ts.length)))
termination_by ts.length
decreasing_by
  · rw [List.length_take]
    have := splitN_lt (n := ts.length) (by omega)
    omega
  · rw [List.length_drop]
    have := splitN_pos ts.length
    omega
theorem topT_nil : topT [] = nonT := by rw [topT]; rfl
theorem topT_one (t : Tm) : topT [t] = t := by rw [topT]; rfl
theorem topT_single {ts : List Tm} (h : ts.length = 1) : topT ts = ts.getD 0 nonT := by
  match ts, h with
  | [t], _ => exact topT_one t
theorem topT_more {ts : List Tm} (h : 2 ≤ ts.length) : topT ts = pairT (topT (ts.take (splitN ts.length))) (topT (ts.drop (splitN ts.length))) := by
  rw [topT, dif_neg (by omega)]
theorem topT_dep {d : Nat} : ∀ (k : Nat) (ts : List Tm), ts.length ≤ 2 ^ k → (∀ t ∈ ts, t.dep ≤ d) → (topT ts).dep ≤ d + k + 1
  | 0, [], _, _ => by rw [topT_nil]; show 0 + 1 ≤ _; omega
  | 0, [t], _, h => by rw [topT_one]; have := h t List.mem_cons_self; omega
  | 0, t :: u :: r, h, _ => by simp at h
  | k + 1, ts, hl, h => by
    by_cases h2 : 2 ≤ ts.length
    · rw [topT_more h2]
      obtain ⟨a, b⟩ := splitN_le_pow h2 hl
      have e1 := topT_dep k (ts.take (splitN ts.length)) (by rw [List.length_take]; omega) fun t ht => h t (List.mem_of_mem_take ht)
      have e2 := topT_dep k (ts.drop (splitN ts.length)) (by rw [List.length_drop]; omega) fun t ht => h t (List.mem_of_mem_drop ht)
      show max _ _ + 1 ≤ _
      omega
    · match ts, h2 with
      | [], _ => rw [topT_nil]; show 0 + 1 ≤ _; omega
      | [t], _ => rw [topT_one]; have := h t List.mem_cons_self; omega
      | t :: u :: r, h2 => exact absurd (show 2 ≤ (t :: u :: r).length by simp) h2
/-- how many tellings a top wants -/
def costT (n : Nat) : Nat := if n = 0 then 1 else n - 1
theorem costT_split {n : Nat} (h : 2 ≤ n) : costT (splitN n) + costT (n - splitN n) + 1 ≤ costT n := by
  have a := splitN_pos n
  have b := splitN_lt h
  unfold costT
  rw [if_neg (by omega), if_neg (by omega), if_neg (by omega)]
  omega
theorem costT_le (n : Nat) : costT n ≤ n + 1 := by
  unfold costT
  split <;> omega


/-! ### the program's seals and tops -/
section
variable {P : Program} {w : World} {K : PySem.W.Frag} {mg : Str → Option Value} {base : Heap} {Fam : Sys → Prop}
def spNone (Fam : Sys → Prop) : Sp := fun vs H Q _ => ∃ (S : Sys) (r : Nat), Fam S ∧ vs = [.ref S.f] ∧ S.ok H (r + 1) ∧ ∀ v H', Ext H H' → S.ok H' r → S.den H' v nonT → Q v H'
theorem ok_none_seal {cc : Addr} (T : Txt K mg cc) (A : SlA P w K mg base Fam) : Cal P w K mg base 2 "none_seal" (spNone Fam) [] := by
  refine cal_of T.d_none_seal sc_none_seal (fun vs H Q E h => ?_) (fun f cdv A' outer s H vs Q E hr h => ?_)
  · obtain ⟨S, r, _, rfl, _⟩ := h
    rfl
  obtain ⟨S, r, hF, rfl, hok, q⟩ := h
  have G := A.good hF
  refine ⟨_, (pss_one (ps_ret (pe_sl (i := 0) A.held hr (by omega) rfl (by first | exact Or.inl rfl | exact Or.inr (Or.inl rfl) | exact Or.inr (Or.inr rfl)) (pa_cons pe_str (pa_cons pe_int (pa_cons pe_int pa_nil)))))), ?_⟩
  exact ⟨S, _, hF, rfl, hok, r, "none", .int 0, .int 0, _, _, rfl, by decide +kernel, hok, G.int 0 hok, G.int 0 hok, fun v H' e ok d => q v H' e ok d⟩
end

/-! ### for the law: equal things are seen equal; the head -/
section
variable {K : PySem.W.Frag} {H : Hp} {S : Sys}
theorem shaped_of {d : PyData} (h : d.canLay0 = true) (hd : d.depth ≤ 64) : SeqAt.shaped d = true := by
  unfold SeqAt.shaped
  rw [h, decide_eq_true hd]
  rfl
theorem eqv_self {d : PyData} (h : d.canLay0 = true) : PyData.eqv d d = true := SeqAt.eqv_refl d h
theorem eq_rows (G : S.Good K) {p p' : Addr} {xs ys : List V} {ts : List Tm} (hp : SqL K H p xs) (hp' : SqL K H p' ys) (h : DenL S H xs ts) (h' : DenL S H ys ts) (hd : ∀ t ∈ ts, t.dep ≤ 60) :
    ∃ d, Dp K H (.ref p) d ∧ Dp K H (.ref p') d ∧ SeqAt.shaped d = true ∧ PyData.eqv d d = true := by
  obtain ⟨ds, a, b, c, e⟩ := DenL.same G h h' hd
  have c' : (PyData.list ds).canLay0 = true := c
  exact ⟨.list ds, .lst hp a, .lst hp' b, shaped_of c' (by show PyData.depthAll ds + 1 ≤ 64; omega), eqv_self c'⟩
theorem eq_tm (G : S.Good K) {v v' : V} {t : Tm} (h : S.den H v t) (h' : S.den H v' t) (hd : t.dep ≤ 60) :
    ∃ d, Dp K H v d ∧ Dp K H v' d ∧ SeqAt.shaped d = true ∧ PyData.eqv d d = true := by
  obtain ⟨d, a, b, c, e⟩ := G.same h h'
  exact ⟨d, a, b, shaped_of c (by omega), eqv_self c⟩
theorem ext_seq {K : PySem.W.Frag} {H H' : Hp} {a : Addr} {xs : List V} (e : LamX.ExtN H H') (h : SqL K H a xs) : SqL K H' a xs := by
  rcases h with (h | ⟨o, h⟩) | h
  · exact .inl (.inl (e _ _ h fun _ z => nomatch z))
  · exact .inl (.inr ⟨o, e _ _ h fun _ z => nomatch z⟩)
  · exact .inr h
end
/-- a row's places -/
theorem map_int_mem {l : List Int} {x : V} (h : x ∈ l.map V.int) : ∃ z ∈ l, x = .int z := by
  obtain ⟨z, hz, e⟩ := List.mem_map.mp h
  exact ⟨z, hz, e.symm⟩
/-- the law's promise; a table of code objects at PT -/
def spLaw (K : PySem.W.Frag) (PT : Addr) : Sp := fun vs H Q _ => ∃ (a : Addr) (ns : List Int), vs = [.ref a] ∧ SqL K H a (ns.map V.int) ∧ ns.length ≤ 63 ∧ H PT = some (.tbl #[]) ∧ ∀ H', Q (.bl true) H'
theorem law_end {l : PySem.W.OpenLaw} {w : World} {K : PySem.W.Frag} {h : Heap} {mg : Str → Option Value} {fa c PT : Addr} {k : Nat} (X : K.In h) (hP : ∀ Q ∈ [PT], h.get? Q = some (PySem.W.tabObj #[])) (nP : K.lookup PT = none) (hc : PySem.W.codeHdIn K c PT = true)
    (F : ∃ fd : FuncData, (∀ (s : Shared) (v : Value), BindsTo s fd ⟨[v], []⟩ [("_law_script", v)]) ∧ ∀ base : Heap, K.In base → base.Ns mainGlobals mg → LamX.TabB base mg c PT → FnOk l.prog w K mg base L2.CX0 k fa fd ["_law_script"] (spLaw K PT)) :
    LamX.LawAtS l w K L2.CX0 k 63 "_law_script" mg fa h := by
  obtain ⟨fd, hb, hF⟩ := F
  refine ⟨fd, [(c, PT)], spLaw K PT, fun p hp => ?_, fun p hp => ?_, fun p hp => ?_, hb, fun H a ns hl _ hT hS => ⟨a, ns, rfl, hS, hl, hT _ (List.mem_singleton.mpr rfl), fun _ => rfl⟩, fun base KB NB TB => hF base KB NB (TB _ (List.mem_singleton.mpr rfl))⟩
  · rw [List.mem_singleton.mp hp]
    exact hP PT (List.mem_singleton.mpr rfl)
  · rw [List.mem_singleton.mp hp]
    exact nP
  · rw [List.mem_singleton.mp hp]
    exact PySem.W.codeHd_of_K X hc
theorem law_fnT {P : Program} {w : World} {K : PySem.W.Frag} {mg : Str → Option Value} {x p : Str} {st : Stmt} {N : List Str} {k : Nat} {sp : Sp} {fa c PT : Addr} (D : DefX K mg x st [p]) (hfa : mg x = some (.ref fa)) (S : FnScope N [p] (defScope st)) (len : ∀ vs H Q E, sp vs H Q E → vs.length = 1)
    (hbody : ∀ (base : Heap), LamX.TabB base mg c PT → ∀ (f : Addr) (cdv : Value) (A : Around) (outer : List Env) (s : Shared) (H : Hp) (vs : List V) (Q : VK) (E : XK), Room k (A.deeper (envOfC x (defScope st) s.heap.objs.size f cdv)) → sp vs H Q E →
      ∃ t, PSs (cxOf L2.CX0 P w K mg base N x (defScope st) f cdv A outer s H E).nox (defBody st) t ∧ t { nx := fun _ H' => Q .non H', rt := Q } (start N vs) H) :
    ∃ fd : FuncData, (∀ (s : Shared) (v : Value), BindsTo s fd ⟨[v], []⟩ [(p, v)]) ∧ ∀ base : Heap, K.In base → base.Ns mainGlobals mg → LamX.TabB base mg c PT → FnOk P w K mg base L2.CX0 (k + 1) fa fd [p] sp := by
  obtain ⟨f, fd, F, m, b⟩ := D.ex
  have e := hfa.symm.trans m
  cases e
  exact ⟨fd, fun s v => .of_eq (b [v] rfl), fun base _ _ TB => F.ok S len (hbody base TB fa)⟩

/-! ### what is told apart -/
/-- alike in kind, so that equal values tell equal terms -/
def cmpT : Tm → Tm → Prop
  | .int _, .int _ => True
  | .str _, .str _ => True
  | .sl m a b, .sl m' a' b' => m ≠ m' ∨ (cmpT a a' ∧ cmpT b b')
  | _, _ => False
structure Sys.Inj (K : PySem.W.Frag) (S : Sys) : Prop where
  inj : ∀ {H : Hp} {r : Nat} {v v' : V} {t t' : Tm}, S.ok H r → S.den H v t → S.den H v' t' → cmpT t t' → ∃ d d', Dp K H v d ∧ Dp K H v' d' ∧ d.canLay0 = true ∧ d'.canLay0 = true ∧ d.depth ≤ t.dep ∧ d'.depth ≤ t'.dep ∧ PyData.eqv d d' = decide (t = t')
theorem eqv_int (i j : Int) : PyData.eqv (.int i) (.int j) = decide (i = j) := by
  rw [PyData.eqv]
  first | rfl | simp [BEq.beq]
theorem eqv_str (x y : Str) : PyData.eqv (.str x) (.str y) = decide (x = y) := by
  rw [PyData.eqv]
  first | rfl | simp [BEq.beq]
theorem eqvP : ∀ t t' : Tm, PyData.eqv (datP t) (datP t') = decide (t = t')
  | .int i, .int j => by
    show PyData.eqv (.int i) (.int j) = _
    rw [eqv_int]
    by_cases h : i = j
    · rw [h]; simp
    · rw [decide_eq_false h, decide_eq_false (fun z => h (Tm.int.inj z))]
  | .str i, .str j => by
    show PyData.eqv (.str i) (.str j) = _
    rw [eqv_str]
    by_cases h : i = j
    · rw [h]; simp
    · rw [decide_eq_false h, decide_eq_false (fun z => h (Tm.str.inj z))]
  | .sl m a b, .sl m' a' b' => by
    show PyData.eqv (.tuple [.str m, datP a, datP b]) (.tuple [.str m', datP a', datP b']) = _
    rw [PyData.eqv, PyData.eqvAll, PyData.eqvAll, PyData.eqvAll, PyData.eqvAll, eqv_str, eqvP a a', eqvP b b']
    by_cases h1 : m = m' <;> by_cases h2 : a = a' <;> by_cases h3 : b = b' <;> simp [h1, h2, h3]
  | .int _, .str _ => rfl
  | .str _, .int _ => rfl
  | .int _, .sl _ _ _ => rfl
  | .sl _ _ _, .int _ => rfl
  | .str _, .sl _ _ _ => rfl
  | .sl _ _ _, .str _ => rfl
theorem eqvT : ∀ t t' : Tm, PyData.eqv (datT t) (datT t') = decide (t = t')
  | .int i, .int j => by
    show PyData.eqv (.int i) (.int j) = _
    rw [eqv_int]
    by_cases h : i = j
    · rw [h]; simp
    · rw [decide_eq_false h, decide_eq_false (fun z => h (Tm.int.inj z))]
  | .str i, .str j => by
    show PyData.eqv (.str i) (.str j) = _
    rw [eqv_str]
    by_cases h : i = j
    · rw [h]; simp
    · rw [decide_eq_false h, decide_eq_false (fun z => h (Tm.str.inj z))]
  | .sl m a b, .sl m' a' b' => by
    show PyData.eqv (.tuple [.str "seal of", datT b, datT a, .str m]) (.tuple [.str "seal of", datT b', datT a', .str m']) = _
    rw [PyData.eqv, PyData.eqvAll, PyData.eqvAll, PyData.eqvAll, PyData.eqvAll, PyData.eqvAll, eqv_str, eqv_str, eqvT a a', eqvT b b']
    by_cases h1 : m = m' <;> by_cases h2 : a = a' <;> by_cases h3 : b = b' <;> simp [h1, h2, h3]
  | .int _, .str _ => rfl
  | .str _, .int _ => rfl
  | .int _, .sl _ _ _ => rfl
  | .sl _ _ _, .int _ => rfl
  | .str _, .sl _ _ _ => rfl
  | .sl _ _ _, .str _ => rfl
theorem DenN.inj {ks : List (List Key)} {k : Key} {t : Tm} (h : DenN (tab ks) k t) : ∀ {t'}, DenN (tab ks) k t' → cmpT t t' → t = t' := by
  induction h with
  | int i =>
    intro t' h' c
    cases h' with
    | int => rfl
    | sl _ _ _ => exact c.elim
  | str x h =>
    intro t' h' c
    cases h'
    rfl
  | @sl m ka kb a b n ha hb hv iha ihb =>
    intro t' h' c
    cases h' with
    | int => exact c.elim
    | @sl m' ka' kb' a' b' _ ha' hb' hv' =>
      obtain ⟨i, e1, g1⟩ := tab_at hv
      obtain ⟨j, e2, g2⟩ := tab_at hv'
      have e3 := V.int.inj (e1.symm.trans e2)
      have e4 : i = j := by omega
      subst e4
      rw [g1] at g2
      have g3 := Option.some.inj g2
      have g4 : m = m' := by
        have := (List.cons.inj g3).1
        exact Sum.inr.inj this
      have g5 : ka = ka' := (List.cons.inj (List.cons.inj g3).2).1
      have g6 : kb = kb' := (List.cons.inj (List.cons.inj (List.cons.inj g3).2).2).1
      subst g4 g5 g6
      rcases c with c | ⟨c1, c2⟩
      · exact absurd rfl c
      · rw [iha ha' c1, ihb hb' c2]
theorem DenN.apart {ks : List (List Key)} {K : PySem.W.Frag} {H : Hp} {k k' : Key} {t t' : Tm} (h : DenN (tab ks) k t) (h' : DenN (tab ks) k' t') (c : cmpT t t') : ∃ d d', Dp K H (kV k) d ∧ Dp K H (kV k') d' ∧ d.canLay0 = true ∧ d'.canLay0 = true ∧ d.depth ≤ t.dep ∧ d'.depth ≤ t'.dep ∧ PyData.eqv d d' = decide (t = t') := by
  have key : decide (k = k') = decide (t = t') := by
    by_cases e : k = k'
    · subst e
      rw [h.inj h' c]
      simp
    · rw [decide_eq_false e, decide_eq_false]
      rintro rfl
      exact e (h.fn h')
  rw [← key]
  cases h with
  | int i =>
    cases h' with
    | int j => exact ⟨_, _, .int _, .int _, rfl, rfl, Nat.zero_le _, Nat.zero_le _, by rw [eqv_int]; by_cases e : i = j <;> simp [e]⟩
    | str y hy => exact c.elim
    | sl _ _ _ => exact c.elim
  | str x hx =>
    cases h' with
    | int j => exact c.elim
    | str y hy => exact ⟨_, _, .str _, .str _, hx, hy, Nat.zero_le _, Nat.zero_le _, by rw [eqv_str]; by_cases e : x = y <;> simp [e]⟩
    | sl _ _ _ => exact c.elim
  | @sl _ _ _ _ _ n _ _ _ =>
    cases h' with
    | int j => exact c.elim
    | str y hy => exact c.elim
    | @sl _ _ _ _ _ n' _ _ _ => exact ⟨_, _, .int _, .int _, rfl, rfl, Nat.zero_le _, Nat.zero_le _, by rw [eqv_int]; by_cases e : n = n' <;> simp [e]⟩
theorem inj3 {K : PySem.W.Frag} {mg : Str → Option Value} {S : Sys} (h : Fam3 mg S) : S.Inj K := by
  rcases h with ⟨f, _, rfl⟩ | ⟨f, _, rfl⟩ | ⟨N, rfl⟩
  · exact ⟨fun _ h h' _ => ⟨_, _, h.dp.1, h'.dp.1, (DenP.dp (K := K) h).2.1, (DenP.dp (K := K) h').2.1, (DenP.dp (K := K) h).2.2, (DenP.dp (K := K) h').2.2, eqvP _ _⟩⟩
  · exact ⟨fun _ h h' _ => ⟨_, _, h.dt.1, h'.dt.1, (DenP.dt (K := K) h).2.1, (DenP.dt (K := K) h').2.1, (DenP.dt (K := K) h).2.2, (DenP.dt (K := K) h').2.2, eqvT _ _⟩⟩
  · refine ⟨fun ok h h' c => ?_⟩
    obtain ⟨ks, hd, _⟩ := ok.dict
    obtain ⟨kvs, k, e1, g, rfl⟩ := h
    obtain ⟨kvs', k', e1', g', rfl⟩ := h'
    rw [hd] at e1 e1'
    cases e1
    cases e1'
    exact g.apart g' c
/-- rows told apart -/
theorem DenL.apart {K : PySem.W.Frag} {S : Sys} (I : S.Inj K) {H : Hp} {r n : Nat} (ok : S.ok H r) : ∀ {vs us : List V} {ts rs : List Tm}, DenL S H vs ts → DenL S H us rs → (∀ t ∈ ts, ∀ u ∈ rs, cmpT t u) → (∀ t ∈ ts, t.dep ≤ n) → (∀ t ∈ rs, t.dep ≤ n) →
    (∀ t ∈ ts, cmpT t t) → (∀ t ∈ rs, cmpT t t) → ∃ ds es, DpAll K H vs ds ∧ DpAll K H us es ∧ PyData.canLayAll0 ds = true ∧ PyData.canLayAll0 es = true ∧ PyData.depthAll ds ≤ n ∧ PyData.depthAll es ≤ n ∧ PyData.eqvAll ds es = decide (ts = rs)
  | vs, us, [], [], h, h', _, _, _, _, _ => by
    have e1 : vs = [] := List.eq_nil_of_length_eq_zero h.len
    have e2 : us = [] := List.eq_nil_of_length_eq_zero h'.len
    subst e1 e2
    exact ⟨[], [], .nil, .nil, rfl, rfl, Nat.zero_le _, Nat.zero_le _, by rw [PyData.eqvAll]; rfl⟩
  | [], _, t :: ts, _, h, _, _, _, _, _, _ => absurd h.len (by simp)
  | _, [], _, u :: rs, _, h', _, _, _, _, _ => absurd h'.len (by simp)
  | v :: vs, us, t :: ts, [], h, h', c, hd, hd', ct, cu => by
    have e2 : us = [] := List.eq_nil_of_length_eq_zero h'.len
    subst e2
    have t1 : DenL S H vs ts := h.drop 1
    obtain ⟨d, _, a1, _, a3, _, a4, _, _⟩ := I.inj ok (h.at_ 0 v t rfl rfl) (h.at_ 0 v t rfl rfl) (ct t List.mem_cons_self)
    obtain ⟨ds, es, b1, b2, b3, b4, b5, b6, b7⟩ := DenL.apart I ok t1 h' (fun t ht u hu => c t (List.mem_cons_of_mem _ ht) u hu) (fun t ht => hd t (List.mem_cons_of_mem _ ht)) hd' (fun t ht => ct t (List.mem_cons_of_mem _ ht)) cu
    cases b2
    refine ⟨d :: ds, [], .cons a1 b1, .nil, by rw [PyData.canLayAll0, a3, b3]; rfl, rfl, ?_, Nat.zero_le _, by rw [PyData.eqvAll]; first | rfl | simp⟩
    have := hd t List.mem_cons_self
    show max d.depth (PyData.depthAll ds) ≤ n
    omega
  | vs, u :: us, [], w :: rs, h, h', c, hd, hd', ct, cu => by
    have e2 : vs = [] := List.eq_nil_of_length_eq_zero h.len
    subst e2
    have t1 : DenL S H us rs := h'.drop 1
    obtain ⟨d, _, a1, _, a3, _, a4, _, _⟩ := I.inj ok (h'.at_ 0 u w rfl rfl) (h'.at_ 0 u w rfl rfl) (cu w List.mem_cons_self)
    obtain ⟨ds, es, b1, b2, b3, b4, b5, b6, b7⟩ := DenL.apart I ok h t1 (fun t ht u hu => c t ht u (List.mem_cons_of_mem _ hu)) hd (fun t ht => hd' t (List.mem_cons_of_mem _ ht)) ct (fun t ht => cu t (List.mem_cons_of_mem _ ht))
    cases b1
    refine ⟨[], d :: es, .nil, .cons a1 b2, rfl, by rw [PyData.canLayAll0, a3, b4]; rfl, Nat.zero_le _, ?_, by rw [PyData.eqvAll]; first | rfl | simp⟩
    have := hd' w List.mem_cons_self
    show max d.depth (PyData.depthAll es) ≤ n
    omega
  | v :: vs, u :: us, t :: ts, w :: rs, h, h', c, hd, hd', ct, cu => by
    have t1 : DenL S H vs ts := h.drop 1
    have t2 : DenL S H us rs := h'.drop 1
    obtain ⟨d, e, a1, a2, a3, a4, a5, a6, a7⟩ := I.inj ok (h.at_ 0 v t rfl rfl) (h'.at_ 0 u w rfl rfl) (c t List.mem_cons_self w List.mem_cons_self)
    obtain ⟨ds, es, b1, b2, b3, b4, b5, b6, b7⟩ := DenL.apart I ok t1 t2 (fun t ht u hu => c t (List.mem_cons_of_mem _ ht) u (List.mem_cons_of_mem _ hu)) (fun t ht => hd t (List.mem_cons_of_mem _ ht)) (fun t ht => hd' t (List.mem_cons_of_mem _ ht)) (fun t ht => ct t (List.mem_cons_of_mem _ ht)) (fun t ht => cu t (List.mem_cons_of_mem _ ht))
    refine ⟨d :: ds, e :: es, .cons a1 b1, .cons a2 b2, by rw [PyData.canLayAll0, a3, b3]; rfl, by rw [PyData.canLayAll0, a4, b4]; rfl, ?_, ?_, ?_⟩
    · have := hd t List.mem_cons_self
      show max d.depth (PyData.depthAll ds) ≤ n
      omega
    · have := hd' w List.mem_cons_self
      show max e.depth (PyData.depthAll es) ≤ n
      omega
    · rw [PyData.eqvAll, a7, b7]
      by_cases h1 : t = w <;> by_cases h2 : ts = rs <;> simp [h1, h2]
termination_by vs us ts rs => ts.length + rs.length
decreasing_by
  all_goals (simp; try omega)
/-! ### well-made tops of leaves -/
inductive WS : Tm → Prop
  | leaf (x : Str) (i : Int) : WS (.sl "leaf" (.str x) (.int i))
  | non : WS nonT
  | pair {a b : Tm} (ha : WS a) (hb : WS b) : WS (pairT a b)
theorem WS.cmp {a : Tm} (h : WS a) : ∀ {b}, WS b → cmpT a b := by
  induction h with
  | leaf x i =>
    intro b hb
    cases hb with
    | leaf y j => exact .inr ⟨True.intro, True.intro⟩
    | non => exact .inl (by decide +kernel)
    | pair _ _ => exact .inl (by decide +kernel)
  | non =>
    intro b hb
    cases hb with
    | leaf y j => exact .inl (by decide +kernel)
    | non => exact .inr ⟨True.intro, True.intro⟩
    | pair _ _ => exact .inl (by decide +kernel)
  | pair _ _ iha ihb =>
    intro b hb
    cases hb with
    | leaf y j => exact .inl (by decide +kernel)
    | non => exact .inl (by decide +kernel)
    | pair ha' hb' => exact .inr ⟨iha ha', ihb hb'⟩
theorem topT_ws {ts : List Tm} (h : ∀ t ∈ ts, WS t) : WS (topT ts) := by
  by_cases h2 : ts.length < 2
  · match ts, h2 with
    | [], _ => rw [topT_nil]; exact .non
    | [t], _ => rw [topT_one]; exact h t List.mem_cons_self
    | t :: u :: r, h2 => exact absurd h2 (by simp)
  · have hs := splitN_lt (n := ts.length) (by omega)
    have hs0 := splitN_pos ts.length
    rw [topT_more (by omega)]
    exact .pair (topT_ws fun t ht => h t (List.mem_of_mem_take ht)) (topT_ws fun t ht => h t (List.mem_of_mem_drop ht))
termination_by ts.length
decreasing_by
  · rw [List.length_take]; omega
  · rw [List.length_drop]; omega

/-! ### methods that may raise -/
structure MetR (P : Program) (w : World) (K : PySem.W.Frag) (mg : Str → Option Value) (base : Heap) (k : Nat) (C : Addr) (m : Str) (sp : Sp) : Prop where
  ex : ∃ (f : Addr) (fd : FuncData) (ps : List Str), Cls K C ∧ Meth K C m f ∧ FnOk P w K mg base (L2.CX P w) k f fd ps sp ∧ Binds K fd ps []
theorem metR_of {P : Program} {w : World} {K : PySem.W.Frag} {mg : Str → Option Value} {base : Heap} {C : Addr} {m qual : Str} {st : Stmt} {N ps : List Str} {k : Nat} {sp : Sp} (c : Cls K C) (D : MetX K C m qual st ps) (S : FnScope N ps (defScope st)) (len : ∀ vs H Q E, sp vs H Q E → vs.length = ps.length)
    (hbody : ∀ (f : Addr) (cdv : Value) (A : Around) (outer : List Env) (s : Shared) (H : Hp) (vs : List V) (Q : VK) (E : XK), Room k (A.deeper (envOfC qual (defScope st) s.heap.objs.size f cdv)) → sp vs H Q E →
      ∃ t, PSs (cxOf (L2.CX P w) P w K mg base N qual (defScope st) f cdv A outer s H E) (defBody st) t ∧ t { nx := fun _ H' => Q .non H', rt := Q } (start N vs) H) : MetR P w K mg base (k + 1) C m sp := by
  obtain ⟨f, fd, F, me, b⟩ := D.ex
  exact ⟨f, fd, ps, c, me, F.okX S len (hbody f), .all b⟩
def tMethX (C : Addr) (m : Str) (sp : Sp) (E : L2.St → XK) (ta : TE) (t : TA) : TE := fun σ H Q => ta σ H fun x H1 => ∃ a dx fs, x = .ref a ∧ H1 a = some (.ins C dx fs) ∧ fs.lookup m = none ∧ t σ H1 fun vs H2 => sp (x :: vs) H2 Q (E σ)
section
variable {X : Cx} {k j : Nat} {C : Addr} {m : Str} {sp : Sp} {pos apos : Pos} {e o : Expr} {es : List Expr} {ta : TE} {t : TA} {W : WX}
theorem pe_mtx {pl : Sem Bool} (c : MetR X.prog X.w X.K X.mg X.base k C m sp) (tk : Takes X W) (hr : Room j X.A) (hk : k ≤ j) (he : PE X o ta) (ha : PA X (e :: es) t)
    (hst : starEach (e :: es) X.env = (false, eval e X.env) :: starEach es X.env := by rfl) (hpl : (backTo pos (starEach es X.env)).any (·.1) = false := by rfl)
    (ht : eval (.Call (.Attribute o m apos) (e :: es) [] pos) X.env = (do
      let ov ← eval o X.env
      standAt apos.atName
      let (f, first) ← holding [ov] (getMethod ov m pl)
      callWith pos f first (backTo pos (starEach (e :: es) X.env)) (backToKw pos (keywordEach [] X.env))) := by rfl) :
    PE X (.Call (.Attribute o m apos) (e :: es) [] pos) (tMethX C m sp (WE W) ta t) := by
  obtain ⟨f, fd, ps, hc, hm, F, b⟩ := c.ex
  refine ⟨fun pins s σ H Q I h => ?_⟩
  refine PySem.W.methodCall_KW (pl := pl) (thn (he.run pins s σ H _ I h) fun u s1 ⟨x, H1, I1, rx, a, dx, fs, ex, ea, l, q⟩ => ?_) ht
  subst ex
  obtain rfl : u = Value.ref a := rx
  refine getmeth_ok I1 ea hc hm l ?_
  refine PySem.W.callWith_K (first := [.ref a]) (h₀ := X.base) I.ok.mod.kin hm.kp (thn (ha.run pos pins s1 σ H1 _ I1 q) fun us s2 ⟨vs, H2, I2, r, q2⟩ => ⟨I2.kIn, ?_⟩) hst hpl
  exact run_fnS (us := .ref a :: us) (vs := .ref a :: vs) F (hr.mono hk) b (passAt tk σ) I2 (.cons rfl r) q2
end

/-! ### numbers and words drawn -/
section
variable {P : Program} {w : World} {K : PySem.W.Frag} {mg : Str → Option Value} {base : Heap}
def spDraw : Sp := fun vs H Q _ => ∃ (c k m : Int), vs = [.int c, .int k, .int m] ∧ 0 ≤ k ∧ k < 1000000 ∧ 0 < m ∧ ∀ (z : Int) (H' : Hp), 0 ≤ z → z < m → Same H H' → Q (.int z) H'
theorem prime_pos : ∀ i : Nat, i < 16 → ∃ z : Int, 0 < z ∧ ([.int 1000003, .int 1000033, .int 1000037, .int 1000039, .int 1000081, .int 1000099, .int 1000117, .int 1000121, .int 1000133, .int 1000151, .int 1000159, .int 1000171, .int 1000183, .int 1000187, .int 1000193, .int 1000199] : List V)[i]? = some (V.int z)
  | 0, _ => ⟨_, by decide, rfl⟩
  | 1, _ => ⟨_, by decide, rfl⟩
  | 2, _ => ⟨_, by decide, rfl⟩
  | 3, _ => ⟨_, by decide, rfl⟩
  | 4, _ => ⟨_, by decide, rfl⟩
  | 5, _ => ⟨_, by decide, rfl⟩
  | 6, _ => ⟨_, by decide, rfl⟩
  | 7, _ => ⟨_, by decide, rfl⟩
  | 8, _ => ⟨_, by decide, rfl⟩
  | 9, _ => ⟨_, by decide, rfl⟩
  | 10, _ => ⟨_, by decide, rfl⟩
  | 11, _ => ⟨_, by decide, rfl⟩
  | 12, _ => ⟨_, by decide, rfl⟩
  | 13, _ => ⟨_, by decide, rfl⟩
  | 14, _ => ⟨_, by decide, rfl⟩
  | 15, _ => ⟨_, by decide, rfl⟩
  | n + 16, h => absurd h (by omega)
theorem ok_draw {cc : Addr} (T : Txt K mg cc) : Cal P w K mg base 1 "_law_draw" spDraw [] := by
  have Z := T.Z
  refine cal_of T.d__law_draw sc__law_draw (fun vs H Q E h => ?_) (fun f cdv A outer s H vs Q E hr h => ?_)
  · obtain ⟨c, k, m, rfl, _⟩ := h
    rfl
  obtain ⟨c, k, m, rfl, k0, k1, m0, q⟩ := h
  refine ⟨_, (pss_cons (ps_set (i := 3) sc__law_draw.nd rfl (Or.inl rfl) (pe_tup (pa_cons pe_int (pa_cons pe_int (pa_cons pe_int (pa_cons pe_int (pa_cons pe_int (pa_cons pe_int (pa_cons pe_int (pa_cons pe_int (pa_cons pe_int (pa_cons pe_int (pa_cons pe_int (pa_cons pe_int (pa_cons pe_int (pa_cons pe_int (pa_cons pe_int (pa_cons pe_int pa_nil))))))))))))))))))
  (pss_one (ps_ret (pe_op op_mod (pe_op op_mod (pe_op op_add (pe_op op_mul (pv 0) pe_int) (pe_op op_mul (pv 1) pe_int)) (pe_ix ix_tup (pv 3) (pe_op op_mod (pv 1) pe_int) (fun _ _ => rfl))) (pv 2))))), ?_⟩
  refine ⟨by show 16 ≤ sizeLine; decide, fun p hp => ?_⟩
  obtain ⟨i, hi⟩ := Int.eq_ofNat_of_zero_le (Int.emod_nonneg k (show (16 : Int) ≠ 0 by decide))
  have hi16 : i < 16 := by
    have := Int.emod_lt_of_pos k (show (0 : Int) < 16 by decide)
    omega
  obtain ⟨z, hz, hzi⟩ := prime_pos i hi16
  refine ⟨_, rfl, _, _, rfl, rfl, .inr ⟨by decide, by decide⟩, _, rfl, _, _, rfl, rfl, .inr ⟨by decide, by decide⟩, _, _, rfl, rfl, _, rfl, _, rfl, _, 16, rfl, rfl, (by show (0 : Int) < 16; decide), p, _, _, V.int z, rfl, rfl, SqT.of upd_same, by rw [hi]; exact atI_nat hzi, ?_⟩
  refine ⟨_, _, rfl, rfl, hz, _, rfl, _, _, rfl, rfl, m0, ?_⟩
  exact q _ _ (Int.emod_nonneg _ (by omega)) (Int.emod_lt_of_pos _ m0) (same_upd hp)
end

/-! ### heaps where one instance may change -/
structure ExtO (p : Addr) (H H' : Hp) : Prop where
  keep : ∀ a o, a ≠ p → H a = some o → (∀ kvs, o ≠ .dT kvs) → H' a = some o
  grow : ∀ a kvs, H a = some (.dT kvs) → ∃ more, H' a = some (.dT (kvs ++ more))
  gr : Gr H H'
theorem Ext.o {p : Addr} {H H' : Hp} (e : Ext H H') : ExtO p H H' := ⟨fun a o _ h n => e.keep a o h n, e.grow, e.gr⟩
theorem ExtO.trans {p : Addr} {H H1 H2 : Hp} (a : ExtO p H H1) (b : ExtO p H1 H2) : ExtO p H H2 := by
  refine ⟨fun x o q e n => b.keep x o q (a.keep x o q e n) n, fun x kvs e => ?_, a.gr.trans b.gr⟩
  obtain ⟨m1, e1⟩ := a.grow x kvs e
  obtain ⟨m2, e2⟩ := b.grow x _ e1
  exact ⟨m1 ++ m2, by rw [e2, List.append_assoc]⟩
theorem ExtO.put {p C dx : Addr} {H : Hp} {fs : List (Str × V)} {o : HO} (h : H p = some (.ins C dx fs)) : ExtO p H (upd H p o) := by
  refine ⟨fun a u q e _ => by rw [upd_ne q]; exact e, fun a kvs e => ⟨[], ?_⟩, (Kp.ins h).gr⟩
  rw [List.append_nil, upd_ne]
  · exact e
  · rintro rfl
    rw [h] at e
    cases e
theorem ExtO.lst {p a : Addr} {H H' : Hp} {xs : List V} (e : ExtO p H H') (q : a ≠ p) (h : H a = some (.lst xs)) : H' a = some (.lst xs) := e.keep _ _ q h fun _ z => nomatch z
theorem ExtO.ins {p a C dx : Addr} {H H' : Hp} {fs : List (Str × V)} (e : ExtO p H H') (q : a ≠ p) (h : H a = some (.ins C dx fs)) : H' a = some (.ins C dx fs) := e.keep _ _ q h fun _ z => nomatch z
/-- the instance was made behind H -/
theorem ExtO.ext {p : Addr} {H H1 H' : Hp} (e : ExtO p H1 H') (x : Ext H H1) (hp : H p = none) : Ext H H' := by
  refine ⟨fun a o h n => e.keep a o (ne_of_none h hp) (x.keep a o h n) n, fun a kvs h => ?_⟩
  obtain ⟨m1, e1⟩ := x.grow a kvs h
  obtain ⟨m2, e2⟩ := e.grow a _ e1
  exact ⟨m1 ++ m2, by rw [e2, List.append_assoc]⟩

/-! ### sorted(pairs of an int and a text), by ints that tell them apart -/
namespace KvS
open PySem PyProof.Rows Srt SrtO
section
variable {prog : Program} {w : World} {A : Around} {s : Shared} {E : Value → Shared → Prop}
def IsKv (h : Heap) (v : Value) (x : Int) (y : Str) : Prop := ∃ a o t u n, v = .ref a ∧ h.get? a = some o ∧ o.cls = .type "tuple" ∧ o.data = .seq #[.int x t, .str y u] n
theorem IsKv.keeps {h h' : Heap} {v : Value} {x : Int} {y : Str} (p : IsKv h v x y) (k : ∀ b o, h.get? b = some o → o.cls = .type "tuple" → h'.get? b = some o) : IsKv h' v x y := by
  obtain ⟨a, o, t, u, n, e, ho, hc, hd⟩ := p
  exact ⟨a, o, t, u, n, e, k _ _ ho hc, hc, hd⟩
theorem kv_cmp {vs : List Value} {k : Value → Int} {f : Value → Str} (hp : ∀ v ∈ vs, IsKv s.heap v (k v) (f v)) (hi : ∀ v ∈ vs, ∀ u ∈ vs, k v = k u → f v = f u) : Cmp prog w A s (tuples' true) (fun p => p.1 ∈ vs) (lt2 fun v u => decide (k v < k u)) := by
  intro p q hm hm'
  have h1 := hp _ hm
  have h2 := hp _ hm'
  have h3 := hi _ hm _ hm'
  show wpAny (model prog w) A (keyLt' (tuples' true) p.1 q.1) (fun r s' => s' = s ∧ r = decide (k p.1 < k q.1)) (fun _ _ => False) s
  generalize k p.1 = x at h1 h3 ⊢
  generalize f p.1 = y at h1 h3 ⊢
  generalize k q.1 = x' at h2 h3 ⊢
  generalize f q.1 = y' at h2 h3 ⊢
  obtain ⟨a, o, t, u, n, e, ho, hc, hd⟩ := h1
  obtain ⟨a', o', t', u', n', e', ho', hc', hd'⟩ := h2
  rw [e, e']
  refine PySem.W.kat_lt ho hd ho' hd' ?_
  show PySem.W.KatLex prog w A true (decide (2 < 2)) _ [(.int x t, .int x' t'), (.str y u, .str y' u')] 0 s
  refine PySem.W.kat_cons (SeqAt.EqAt.int_int x t x' t' prog w _ _ ?_)
  refine PySem.W.kat_go (fun e1 => ?_) (fun e1 => ?_)
  · have ex : x = x' := by simpa using e1
    refine PySem.W.kat_yes (PySem.W.kat_cons (SeqAt.EqAt.str_str y u y' u' prog w _ _ ?_))
    refine PySem.W.kat_go (fun e2 => ?_) (fun e2 => ?_)
    · exact PySem.W.kat_yes (PySem.W.kat_nil ⟨rfl, (decide_eq_false (by rw [ex]; exact Int.lt_irrefl _)).symm⟩)
    · rw [h3 ex] at e2
      simp at e2
  · exact PySem.W.kat_no (oneLt_int ⟨rfl, rfl⟩)
theorem firsts_kv {h : Heap} : ∀ {vs : List Value}, (∀ v ∈ vs, ∃ x y, IsKv h v x y) → ∃ fs : List Value, PySem.W.KatTups h vs fs ∧ fs.length = vs.length ∧ ∀ f ∈ fs, ∃ x t, f = Value.int x t
  | [], _ => ⟨[], PySem.W.KatTups.nil, rfl, fun _ hm => by simp at hm⟩
  | v :: vs, hp => by
    obtain ⟨fs, h1, h2, h3⟩ := firsts_kv (vs := vs) fun v' hm => hp v' (List.mem_cons_of_mem _ hm)
    obtain ⟨x, y, a, o, t, u, n, e, ho, hc, hd⟩ := hp v (List.mem_cons_self ..)
    subst e
    refine ⟨.int x t :: fs, PySem.W.KatTups.cons ho hc hd rfl h1, by rw [List.length_cons, List.length_cons, h2], fun f hm => ?_⟩
    rcases List.mem_cons.mp hm with rfl | hm
    · exact ⟨x, t, rfl⟩
    · exact h3 f hm
theorem kv_sortable {a : Addr} {vs : List Value} {k : Value → Int} {f : Value → Str} (h0 : 0 < vs.length) (hp : ∀ v ∈ vs, IsKv s.heap v (k v) (f v)) (hi : ∀ v ∈ vs, ∀ u ∈ vs, k v = k u → f v = f u) (ha : ∀ o, s.heap.get? a = some o → o.cls ≠ .type "tuple") : SortableO prog w A s a vs fun v u => decide (k v < k u) := by
  intro h' keep
  have hp' : ∀ v ∈ vs, IsKv h' v (k v) (f v) := fun v hm => (hp v hm).keeps fun b o e c => keep b o (fun z => by subst z; exact ha o e c) e
  obtain ⟨fs, h1, h2, h3⟩ := firsts_kv fun v hm => ⟨_, _, hp' v hm⟩
  refine ⟨tuples' true, fun Q E hq => ?_, kv_cmp hp' hi⟩
  refine PySem.W.kat_kind (T := .type "int") h1 (by omega) (fun f hm => ?_) (by rfl) ?_
  · obtain ⟨x, t, rfl⟩ := h3 f hm
    exact PySem.W.Looks.now
  · have e : (Value.type "int" != Value.type "tuple") = true := by first | decide +kernel | rfl | decide
    rw [e]
    exact hq
theorem swo_key (k : Value → Int) : Swo fun v u => decide (k v < k u) := by
  refine ⟨fun x y h => ?_, fun x y z h1 h2 => ?_⟩
  · exact decide_eq_false (Int.not_lt.mpr (Int.le_of_lt (of_decide_eq_true h)))
  · have a := of_decide_eq_false h1
    have b := of_decide_eq_false h2
    exact decide_eq_false (by omega)
theorem sorted_kv {l : Addr} {vs : List Value} {k : Value → Int} {f : Value → Str} {Q : Value → Shared → Prop} (hl : s.heap.IsList l vs.toArray) (hz : vs.length ≤ sizeLine) (hp : ∀ v ∈ vs, IsKv s.heap v (k v) (f v)) (hi : ∀ v ∈ vs, ∀ u ∈ vs, k v = k u → f v = f u)
    (h : ∀ (h' : Heap) (d : Addr) (out : List Value), Srtd (fun v u => decide (k v < k u)) out → Stb (fun v u => decide (k v < k u)) out vs → (∀ b o, s.heap.get? b = some o → h'.get? b = some o) → s.heap.objs.size ≤ d → (∃ n, h'.get? d = some (seqObj "list" out.toArray n)) → Q (.ref d) { s with heap := h' }) :
    wpAny (model prog w) A (call (.builtin "sorted") [.ref l]) Q E s := by
  refine sorted_ord (swo_key k) hl hz (fun h2 h₁ a ha kk => ?_) fun out hs hb => ?_
  · refine kv_sortable (s := { s with heap := h₁ }) (by omega) (fun v hm => (hp v hm).keeps fun b o e _ => (kk b o e).2) hi fun o e => ?_
    have e' : some o = some (seqObj "list" vs.toArray 0) := e.symm.trans ha
    cases e'
    intro c
    exact absurd (Value.type.inj c) (by decide)
  · exact h _ _ out hs hb (fun b o e => sortedAll_old e) (Nat.le_succ _) (sortedAll_at s.heap vs out.toArray)
end
end KvS
section
variable {X : Cx}
/-- sorted(xs), pairs of an int and a text, no two of one int with unlike texts: a new list of the same pairs, by rising ints -/
def rSortKv (K : PySem.W.Frag) : List V → Hp → VK → Prop := fun vs H Q => ∃ (a : Addr) (xs : List V) (k : V → Int) (f : V → Str), vs = [V.ref a] ∧ SqL K H a xs ∧ (∀ x ∈ xs, ∃ t, x = V.ref t ∧ H t = some (.tup [.int (k x), .str (f x)])) ∧ (∀ x ∈ xs, ∀ y ∈ xs, k x = k y → f x = f y) ∧
  ∀ ys p, ys.Perm xs → ys.Pairwise (fun x y => k x ≤ k y) → H p = none → Q (.ref p) (upd H p (.lst ys))
theorem cr_sortedKv : CallR X (.builtin "sorted") (rSortKv X.K) := by
  intro pins s σ H vs us Q I r h
  obtain ⟨a, xs, k, f, rfl, hs, hx, hi, q⟩ := h
  obtain ⟨its, rv, hl, hz⟩ := I.list hs
  obtain ⟨u, rfl, ru⟩ := vals1 r
  obtain rfl : u = Value.ref a := ru
  obtain ⟨e1, e2⟩ := refs_back rv fun x m => by
    obtain ⟨t, e, _⟩ := hx x m
    exact ⟨t, e⟩
  have mem : ∀ v ∈ its, backV v ∈ xs := fun v hv => by rw [e1]; exact List.mem_map.mpr ⟨_, hv, rfl⟩
  refine KvS.sorted_kv (k := fun v => k (backV v)) (f := fun v => f (backV v)) hl.isList (by rw [← rv.length]; exact hz) (fun v hv => ?_) (fun v hv u hu e => hi _ (mem v hv) _ (mem u hu) e) fun h' d out hs' hb hk hd hn => ?_
  · obtain ⟨t, rfl⟩ := e2 v hv
    obtain ⟨t', e, ht⟩ := hx _ (mem _ hv)
    have et : t = t' := V.ref.inj e
    subst et
    obtain ⟨_, its2, r2, o, ho, hc, n, hd⟩ := I.hok _ _ ht
    obtain ⟨u1, u2, rfl, ri, rj⟩ := vals2 r2
    obtain ⟨t1, rfl⟩ := ri
    obtain ⟨t2, rfl⟩ := rj
    exact ⟨t, o, t1, t2, n, rfl, ho, hc, hd⟩
  · have hp := hb.perm
    have h3 : ∀ u ∈ out, ∃ a, u = Value.ref a := fun u hu => e2 u (hp.mem_iff.mp hu)
    obtain ⟨n, hn⟩ := hn
    have hlen : (out.map backV).length ≤ sizeLine := by
      rw [List.length_map, hp.length_eq, ← rv.length]
      exact hz
    refine ⟨.ref d, upd H d (.lst (out.map backV)), I.laid (t' := s.toks) (fun b o e => hk b o e) hd ⟨hlen, out, n, vals_back h3, hn⟩, rfl, q _ _ ?_ ?_ (I.hok.fresh hd)⟩
    · rw [e1]
      exact hp.map backV
    · refine List.pairwise_map.mpr (hs'.imp fun {x y} h => ?_)
      exact Int.not_lt.mp (of_decide_eq_false (p := k (backV y) < k (backV x)) h)
end

/-! ### the parts of a table -/
structure KvL (H : Hp) (vs : List V) (rows : List (Int × Str)) : Prop where
  len : vs.length = rows.length
  at_ : ∀ (j : Nat) (v : V) (e : Int × Str), vs[j]? = some v → rows[j]? = some e → ∃ q, v = .ref q ∧ H q = some (.tup [.int e.1, .str e.2]) ∧ txtOk e.2 = true
theorem KvL.gr {H H' : Hp} {vs : List V} {rows : List (Int × Str)} (h : KvL H vs rows) (x : Gr H H') : KvL H' vs rows := by
  refine ⟨h.len, fun j v e a b => ?_⟩
  obtain ⟨q, h1, h2, h3⟩ := h.at_ j v e a b
  exact ⟨q, h1, x.keep _ _ h2 True.intro (fun _ z => nomatch z), h3⟩
theorem KvL.nil {H : Hp} : KvL H [] [] := ⟨rfl, fun j v e a _ => by simp at a⟩
theorem KvL.snoc {H : Hp} {vs : List V} {rows : List (Int × Str)} {q : Addr} {e : Int × Str} (h : KvL H vs rows) (hq : H q = some (.tup [.int e.1, .str e.2])) (hx : txtOk e.2 = true) : KvL H (vs ++ [.ref q]) (rows ++ [e]) := by
  have hl := h.len
  refine ⟨by rw [List.length_append, List.length_append, hl]; rfl, fun i v t a b => ?_⟩
  by_cases c : i < vs.length
  · rw [List.getElem?_append_left c] at a
    rw [List.getElem?_append_left (by omega)] at b
    exact h.at_ i v t a b
  · rw [List.getElem?_append_right (by omega)] at a b
    rw [← hl] at b
    cases hj : i - vs.length with
    | zero =>
      rw [hj] at a b
      cases a
      cases b
      exact ⟨q, rfl, hq, hx⟩
    | succ j =>
      rw [hj] at a
      simp at a
def bitK (l : Nat) (b : Int) (e : Int × Str) : Bool := decide (e.1 / 2 ^ l % 2 = b)
def partT : Nat → List (Int × Str) → Tm
  | _, [] => nonT
  | _, [e] => .sl "row" (.int e.1) (.str e.2)
  | 0, _ :: _ :: _ => nonT
  | l + 1, a :: b :: r => .sl "fork" (partT l ((a :: b :: r).filter (bitK l 0))) (partT l ((a :: b :: r).filter (bitK l 1)))
theorem partT_nil (l : Nat) : partT l [] = nonT := by cases l <;> rfl
theorem partT_one (l : Nat) (e : Int × Str) : partT l [e] = .sl "row" (.int e.1) (.str e.2) := by cases l <;> rfl
theorem partT_more {l : Nat} {rows : List (Int × Str)} (h : 2 ≤ rows.length) : partT (l + 1) rows = .sl "fork" (partT l (rows.filter (bitK l 0))) (partT l (rows.filter (bitK l 1))) := by
  match rows, h with
  | a :: b :: r, _ => rfl
def RowsOk (l : Nat) (rows : List (Int × Str)) : Prop := (∀ e ∈ rows, 0 ≤ e.1) ∧ rows.Pairwise fun a b => a.1 % 2 ^ l ≠ b.1 % 2 ^ l
theorem RowsOk.zero {rows : List (Int × Str)} (h : RowsOk 0 rows) : rows.length ≤ 1 := by
  match rows, h with
  | [], _ => exact Nat.zero_le _
  | [_], _ => exact Nat.le_refl _
  | a :: b :: r, ⟨_, h⟩ =>
    have := (List.pairwise_cons.mp h).1 b List.mem_cons_self
    simp at this
theorem bit_mod (a : Int) (l : Nat) : a % 2 ^ (l + 1) = a % 2 ^ l + 2 ^ l * (a / 2 ^ l % 2) := by
  have hM : (0 : Int) < 2 ^ l := Int.pow_pos (by decide)
  rw [Int.pow_succ]
  generalize (2 : Int) ^ l = M at hM ⊢
  have h1 := Int.emod_nonneg a (show M ≠ 0 by omega)
  have h2 := Int.emod_lt_of_pos a hM
  have h3 := Int.mul_ediv_add_emod a M
  have h4 := Int.mul_ediv_add_emod (a / M) 2
  have h5 : a / M % 2 = 0 ∨ a / M % 2 = 1 := by omega
  have e : a = M * 2 * (a / M / 2) + (a % M + M * (a / M % 2)) := by
    rw [Int.mul_assoc, Int.add_comm (a % M), ← Int.add_assoc, ← Int.mul_add, h4, h3]
  have lo : 0 ≤ a % M + M * (a / M % 2) := by
    rcases h5 with h | h <;> rw [h] <;> omega
  have hi : a % M + M * (a / M % 2) < M * 2 := by
    rcases h5 with h | h <;> rw [h] <;> omega
  have := Int.emod_eq_of_lt lo hi
  rw [← this]
  conv => lhs; rw [e]
  rw [Int.add_comm, Int.add_mul_emod_self_left]
theorem RowsOk.part {l : Nat} {b : Int} {rows : List (Int × Str)} (h : RowsOk (l + 1) rows) : RowsOk l (rows.filter (bitK l b)) := by
  refine ⟨fun e he => h.1 e (List.mem_filter.mp he).1, ?_⟩
  rw [List.pairwise_filter]
  refine h.2.imp fun {x y} hxy hx hy e => hxy ?_
  rw [bit_mod, bit_mod, e, of_decide_eq_true hx, of_decide_eq_true hy]
theorem partT_dep : ∀ (l : Nat) (rows : List (Int × Str)), (partT l rows).dep ≤ l + 1
  | l, [] => by rw [partT_nil]; show max 0 0 + 1 ≤ _; omega
  | l, [e] => by rw [partT_one]; show max 0 0 + 1 ≤ _; omega
  | 0, _ :: _ :: _ => by show max 0 0 + 1 ≤ _; omega
  | l + 1, a :: b :: r => by
    have h1 := partT_dep l ((a :: b :: r).filter (bitK l 0))
    have h2 := partT_dep l ((a :: b :: r).filter (bitK l 1))
    show max _ _ + 1 ≤ _
    omega
/-- how many tellings -/
def costP (l n : Nat) : Nat := if n = 0 then 1 else n * (2 * l + 1)
theorem costP_split {l a b n : Nat} (h : a + b = n) (hn : 2 ≤ n) : costP l a + costP l b + 1 ≤ costP (l + 1) n := by
  subst h
  have e : (a + b) * (2 * (l + 1) + 1) = a * (2 * l + 1) + b * (2 * l + 1) + 2 * (a + b) := by
    rw [show 2 * (l + 1) + 1 = (2 * l + 1) + 2 by omega, Nat.mul_add, Nat.add_mul, Nat.mul_comm (a + b) 2]
  unfold costP
  rw [if_neg (show ¬ a + b = 0 by omega), e]
  by_cases ha : a = 0
  · subst ha
    rw [if_pos rfl, if_neg (by omega), Nat.zero_mul]
    omega
  · rw [if_neg ha]
    by_cases hb : b = 0
    · subst hb
      rw [if_pos rfl, Nat.zero_mul]
      omega
    · rw [if_neg hb]
      omega
theorem filter_split {rows : List (Int × Str)} (l : Nat) : (rows.filter (bitK l 0)).length + (rows.filter (bitK l 1)).length = rows.length := by
  induction rows with
  | nil => rfl
  | cons e r ih =>
    rw [List.filter_cons, List.filter_cons, List.length_cons]
    have h1 := Int.emod_nonneg (e.1 / 2 ^ l) (show (2 : Int) ≠ 0 by decide)
    have h2 := Int.emod_lt_of_pos (e.1 / 2 ^ l) (show (0 : Int) < 2 by decide)
    have h3 : e.1 / 2 ^ l % 2 = 0 ∨ e.1 / 2 ^ l % 2 = 1 := by omega
    rcases h3 with h | h
    · rw [show bitK l 0 e = true from decide_eq_true h, show bitK l 1 e = false from decide_eq_false (by omega)]
      simp
      omega
    · rw [show bitK l 0 e = false from decide_eq_false (by omega), show bitK l 1 e = true from decide_eq_true h]
      simp
      omega
theorem take_filter {α : Type} (p : α → Bool) (l : List α) {i : Nat} {x : α} (h : l[i]? = some x) : (l.take (i + 1)).filter p = (l.take i).filter p ++ (if p x = true then [x] else []) := by
  rw [List.take_succ, h, List.filter_append]
  congr 1
  show [x].filter p = _
  rw [List.filter_cons]
  rfl

/-! ### split and the top, by the law's own defs -/
section
variable {P : Program} {w : World} {K : PySem.W.Frag} {mg : Str → Option Value} {base : Heap} {Fam : Sys → Prop}
/-- a def of which nothing is asked -/
def spNo : Sp := fun _ _ _ _ => False
theorem cal_no {x : Str} {st : Stmt} {ps : List Str} (D : DefX K mg x st ps) (k : Nat) : Cal P w K mg base k x spNo [] := by
  obtain ⟨f, fd, F, m, b⟩ := D.ex
  exact ⟨f, fd, ps, [], ⟨fun _ _ _ _ h => h.elim, fun _ _ _ _ _ _ _ _ _ _ _ _ _ h => h.elim⟩, m, F.kp, .all b, .nil⟩
theorem cal_mono {x : Str} {j k : Nat} {sp : Sp} {dvs : List V} (c : Cal P w K mg base j x sp dvs) (h : j ≤ k) : Cal P w K mg base k x sp dvs := by
  obtain ⟨f, fd, ps, ds, F, m, kp, b, v⟩ := c.ex
  exact ⟨f, fd, ps, ds, F.mono h, m, kp, b, v⟩
end

section
variable {P : Program} {w : World} {K : PySem.W.Frag} {mg : Str → Option Value} {base : Heap} {Fam : Sys → Prop}
def spParted (K : PySem.W.Frag) : Sp := fun vs H Q _ => ∃ (a : Addr) (xs : List V) (rows : List (Int × Str)) (l : Nat), vs = [.ref a, .int (l : Int)] ∧ SqL K H a xs ∧ KvL H xs rows ∧ (∀ e ∈ rows, 0 ≤ e.1) ∧ rows.length ≤ 1000 ∧
  ∀ q p1 p2 ys zs H', Ext H H' → Kp H H' → H p1 = none → H p2 = none → H' q = some (.tup [.ref p1, .ref p2]) → H' p1 = some (.lst ys) → H' p2 = some (.lst zs) → KvL H' ys (rows.filter (bitK l 0)) → KvL H' zs (rows.filter (bitK l 1)) → Q (.ref q) H'
theorem ok_parted {cc : Addr} (T : Txt K mg cc) : Cal P w K mg base 1 "parted" (spParted K) [] := by
  have Z := T.Z
  refine cal_of T.d_parted sc_parted (fun vs H Q E h => ?_) (fun f cdv A' outer s H vs Q E hr h => ?_)
  · obtain ⟨a, xs, rows, l, rfl, _⟩ := h
    rfl
  obtain ⟨a, xs, rows, l, rfl, hS, hk, h0, hl, q⟩ := h
  have hxl := hk.len
  have e16 : sizeLine = 16777216 := sizeLine_eq
  refine ⟨_, (pss_cons (ps_setLc (i := 2) (own := [("row", 4)]) (g := gName 4) (tt := _) rfl sc_parted.nd rfl rfl (sw_true rfl rfl rfl (by decide +kernel)) (pi_list (pv 0)) (blkOk_by (N := N_parted) (sc := defScope s_parted) (by decide +kernel)) (fun _ _ _ _ _ => (pg_name (i := 4) sc_parted.nd rfl (Or.inl rfl))) (fun _ _ _ _ _ => (pts_one (pt_cmpR op_eq (pe_op op_odd (pe_op op_shrN (pe_ix (r := rIxT K) ix_tup (pv 4) pe_int (fun _ _ => rfl)) (pv 1)) pe_int) pe_int (nomark _)))) (fun _ _ _ _ _ => (pv 4)))
  (pss_cons (ps_setLc (i := 3) (own := [("row", 4)]) (g := gName 4) (tt := _) rfl sc_parted.nd rfl rfl (sw_true rfl rfl rfl (by decide +kernel)) (pi_list (pv 0)) (blkOk_by (N := N_parted) (sc := defScope s_parted) (by decide +kernel)) (fun _ _ _ _ _ => (pg_name (i := 4) sc_parted.nd rfl (Or.inl rfl))) (fun _ _ _ _ _ => (pts_one (pt_cmpR op_eq (pe_op op_odd (pe_op op_shrN (pe_ix (r := rIxT K) ix_tup (pv 4) pe_int (fun _ _ => rfl)) (pv 1)) pe_int) pe_int (nomark _)))) (fun _ _ _ _ _ => (pv 4)))
  (pss_one (ps_ret (pe_tup (pa_cons (pv 2) (pa_cons (pv 3) pa_nil))))))), ?_⟩
  refine ⟨_, rfl, a, rfl, ⟨_, hS⟩, fun D nD => ?_⟩
  refine lc_list (K := K) (a := a) (xs := xs) (fun i H' => ∃ ys, Ext H H' ∧ Kp H H' ∧ H' D = some (.lst ys) ∧ KvL H' ys ((rows.take i).filter (bitK l 0))) ⟨[], Ext.new nD, Kp.new nD, upd_same, KvL.nil⟩ (fun i H' _ ⟨_, x, _⟩ => x.seq hS) ?_ ?_
  · rintro i y H' hi ⟨ys, x, k, hD, hy⟩
    have hlt := (List.getElem?_eq_some_iff.mp hi).1
    have hri : rows[i]? = some (rows[i]'(by omega)) := List.getElem?_eq_getElem _
    obtain ⟨qe, rfl, hqe, hqx⟩ := (hk.gr x.gr).at_ i y _ hi hri
    have h0e := h0 _ (List.getElem_mem (show i < rows.length by omega))
    generalize rows[i]'(by omega) = e at hri hqe hqx h0e
    obtain ⟨m, hm⟩ := Int.eq_ofNat_of_zero_le (Int.ediv_nonneg h0e (Int.le_of_lt (show (0 : Int) < 2 ^ l from Int.pow_pos (by decide))))
    refine ⟨rfl, _, rfl, qe, _, 0, _, rfl, rfl, SqT.of hqe, rfl, _, rfl, _, l, rfl, rfl, m, by rw [hm], rfl, rfl, _, rfl, ite2 (fun c => ?_) (fun c => ?_)⟩
    · have c' : ((m % 2 : Nat) : Int) = 0 := V.int.inj (of_decide_eq_true c)
      have hb : bitK l 0 e = true := decide_eq_true (by rw [hm]; omega)
      refine ⟨_, rfl, ys, hD, ?_, ys ++ [.ref qe], x.mut nD, k.trans (Kp.lst hD), upd_same, ?_⟩
      · have := hy.len
        have := List.length_filter_le (bitK l 0) (rows.take i)
        rw [List.length_take] at this
        omega
      · rw [take_filter _ _ hri, hb]
        exact (hy.gr (Kp.lst hD).gr).snoc ((Kp.lst hD) _ _ hqe True.intro) hqx
    · have c' : ¬ ((m % 2 : Nat) : Int) = 0 := fun z => c (decide_eq_true (by rw [z]))
      have hb : bitK l 0 e = false := decide_eq_false (by rw [hm]; omega)
      refine ⟨ys, x, k, hD, ?_⟩
      rw [take_filter _ _ hri, hb]
      simpa using hy
  rintro H1 ⟨ys, x1, k1, hD1, hy1⟩
  rw [hxl, List.take_length] at hy1
  refine ⟨_, rfl, a, rfl, ⟨_, x1.seq hS⟩, fun D2 nD2 => ?_⟩
  refine lc_list (K := K) (a := a) (xs := xs) (fun i H' => ∃ zs, Ext H1 H' ∧ Kp H1 H' ∧ H' D2 = some (.lst zs) ∧ KvL H' zs ((rows.take i).filter (bitK l 1))) ⟨[], Ext.new nD2, Kp.new nD2, upd_same, KvL.nil⟩ (fun i H' _ ⟨_, x, _⟩ => (x1.trans x).seq hS) ?_ ?_
  · rintro i y H' hi ⟨zs, x, k, hD, hy⟩
    have hlt := (List.getElem?_eq_some_iff.mp hi).1
    have hri : rows[i]? = some (rows[i]'(by omega)) := List.getElem?_eq_getElem _
    obtain ⟨qe, rfl, hqe, hqx⟩ := (hk.gr (x1.trans x).gr).at_ i y _ hi hri
    have h0e := h0 _ (List.getElem_mem (show i < rows.length by omega))
    generalize rows[i]'(by omega) = e at hri hqe hqx h0e
    obtain ⟨m, hm⟩ := Int.eq_ofNat_of_zero_le (Int.ediv_nonneg h0e (Int.le_of_lt (show (0 : Int) < 2 ^ l from Int.pow_pos (by decide))))
    refine ⟨rfl, _, rfl, qe, _, 0, _, rfl, rfl, SqT.of hqe, rfl, _, rfl, _, l, rfl, rfl, m, by rw [hm], rfl, rfl, _, rfl, ite2 (fun c => ?_) (fun c => ?_)⟩
    · have c' : ((m % 2 : Nat) : Int) = 1 := V.int.inj (of_decide_eq_true c)
      have hb : bitK l 1 e = true := decide_eq_true (by rw [hm]; omega)
      refine ⟨_, rfl, zs, hD, ?_, zs ++ [.ref qe], x.mut nD2, k.trans (Kp.lst hD), upd_same, ?_⟩
      · have := hy.len
        have := List.length_filter_le (bitK l 1) (rows.take i)
        rw [List.length_take] at this
        omega
      · rw [take_filter _ _ hri, hb]
        exact (hy.gr (Kp.lst hD).gr).snoc ((Kp.lst hD) _ _ hqe True.intro) hqx
    · have c' : ¬ ((m % 2 : Nat) : Int) = 1 := fun z => c (decide_eq_true (by rw [z]))
      have hb : bitK l 1 e = false := decide_eq_false (by rw [hm]; omega)
      refine ⟨zs, x, k, hD, ?_⟩
      rw [take_filter _ _ hri, hb]
      simpa using hy
  rintro H2 ⟨zs, x2, k2, hD2, hy2⟩
  rw [hxl, List.take_length] at hy2
  refine ⟨_, rfl, _, rfl, by show 2 ≤ sizeLine; decide, fun p np => ?_⟩
  have u := Ext.new (o := .tup [.ref D, .ref D2]) np
  have ku := Kp.new (o := .tup [.ref D, .ref D2]) np
  exact q p D D2 ys zs _ ((x1.trans x2).trans u) ((k1.trans k2).trans ku) nD (x1.free nD2) upd_same ((x2.trans u).lst hD1) (u.lst hD2) (hy1.gr (x2.trans u).gr) (hy2.gr u.gr)
def spPart (K : PySem.W.Frag) (Fam : Sys → Prop) (k : Nat) : Sp := fun vs H Q _ => ∃ (S : Sys) (a : Addr) (xs : List V) (rows : List (Int × Str)) (l r : Nat), Fam S ∧ vs = [.ref S.f, .ref a, .int (l : Int)] ∧ SqL K H a xs ∧ KvL H xs rows ∧ RowsOk l rows ∧ rows.length ≤ 1000 ∧ (l < k ∧ l ≤ 20) ∧ S.ok H (r + costP l rows.length) ∧
  ∀ v H', Ext H H' → S.ok H' r → S.den H' v (partT l rows) → Q v H'
theorem ok_part1 {cc : Addr} {k : Nat} (T : Txt K mg cc) (A : SlA P w K mg base Fam) (C_none_seal : Cal P w K mg base 2 "none_seal" (spNone Fam) []) (C_parted : Cal P w K mg base 1 "parted" (spParted K) []) (C_part_top : Cal P w K mg base (k + 3) "part_top" (spPart K Fam k) []) : Cal P w K mg base (k + 4) "part_top" (spPart K Fam (k + 1)) [] := by
  have Z := T.Z
  refine cal_of T.d_part_top sc_part_top (fun vs H Q E h => ?_) (fun f cdv A' outer s H vs Q E hr h => ?_)
  · obtain ⟨S, a, xs, rows, l, r, _, rfl, _⟩ := h
    rfl
  obtain ⟨S, a, xs, rows, l, r, hF, rfl, hS, hk, hro, hl, hlk, hok, q⟩ := h
  have G := A.good hF
  have hxl := hk.len
  refine ⟨_, (pss_cons (ps_if (pt_cmpR op_eq (pe_callB call_len_seq rfl Z.len PySem.boot_len (pa_cons (pv 1) pa_nil)) pe_int (nomark _)) (pss_one (ps_ret (pe_c C_none_seal hr (by omega) rfl (pa_cons (pv 0) pa_nil)))) pss_nil)
  (pss_cons (ps_if (pt_cmpR op_eq (pe_callB call_len_seq rfl Z.len PySem.boot_len (pa_cons (pv 1) pa_nil)) pe_int (nomark _)) (pss_one (ps_ret (pe_sl (i := 0) A.held hr (by omega) rfl (by first | exact Or.inl rfl | exact Or.inr (Or.inl rfl) | exact Or.inr (Or.inr rfl)) (pa_cons pe_str (pa_cons (pe_ix ix_tup (pe_ix ix_list (pv 1) pe_int (fun _ _ => rfl)) pe_int (fun _ _ => rfl)) (pa_cons (pe_ix ix_tup (pe_ix ix_list (pv 1) pe_int (fun _ _ => rfl)) pe_int (fun _ _ => rfl)) pa_nil)))))) pss_nil)
  (pss_cons (ps_set (i := 3) sc_part_top.nd rfl (Or.inl rfl) (pe_c C_parted hr (by omega) rfl (pa_cons (pv 1) (pa_cons (pe_op op_sub (pv 2) pe_int) pa_nil))))
  (pss_one (ps_ret (pe_sl (i := 0) A.held hr (by omega) rfl (by first | exact Or.inl rfl | exact Or.inr (Or.inl rfl) | exact Or.inr (Or.inr rfl)) (pa_cons pe_str (pa_cons (pe_c C_part_top hr (by omega) rfl (pa_cons (pv 0) (pa_cons (pe_ix ix_tup (pv 3) pe_int (fun _ _ => rfl)) (pa_cons (pe_op op_sub (pv 2) pe_int) pa_nil)))) (pa_cons (pe_c C_part_top hr (by omega) rfl (pa_cons (pv 0) (pa_cons (pe_ix ix_tup (pv 3) pe_int (fun _ _ => rfl)) (pa_cons (pe_op op_sub (pv 2) pe_int) pa_nil)))) pa_nil))))))))), ?_⟩
  refine ⟨_, rfl, a, xs, rfl, .inl hS, rfl, _, rfl, ite2 (fun c => ?_) (fun c => ?_)⟩
  · have c' : (xs.length : Int) = 0 := V.int.inj (of_decide_eq_true c)
    have e : rows = [] := List.eq_nil_of_length_eq_zero (by omega)
    subst e
    refine ⟨_, rfl, S, r, hF, rfl, hok, fun v H' x ok d => q v H' x ok ?_⟩
    rw [partT_nil]
    exact d
  have n0 : xs.length ≠ 0 := fun z => c (decide_eq_true (by rw [z] <;> rfl))
  have cpos : costP l rows.length = rows.length * (2 * l + 1) := if_neg (by omega)
  refine ⟨_, rfl, a, xs, rfl, .inl hS, rfl, _, rfl, ite2 (fun c => ?_) (fun c => ?_)⟩
  · have c' : (xs.length : Int) = 1 := V.int.inj (of_decide_eq_true c)
    match rows, hk, hxl, q, cpos, hok with
    | [e], hk, hxl, q, cpos, hok =>
      obtain ⟨v0, hv0⟩ : ∃ v0, xs[0]? = some v0 := ⟨xs[0]'(by omega), List.getElem?_eq_getElem _⟩
      obtain ⟨qe, rfl, hqe, hqx⟩ := hk.at_ 0 v0 e hv0 rfl
      have h1 : 1 ≤ costP l ([e] : List (Int × Str)).length := by rw [cpos]; show 1 ≤ 1 * _; omega
      refine ⟨S, _, hF, rfl, hok, _, rfl, a, xs, 0, _, rfl, rfl, hS, atI_nat hv0, qe, _, 0, _, rfl, rfl, SqT.of hqe, rfl, _, rfl, a, xs, 0, _, rfl, rfl, hS, atI_nat hv0, qe, _, 1, _, rfl, rfl, SqT.of hqe, rfl, r, "row", .int e.1, .str e.2, _, _, rfl, by decide +kernel, G.less hok (by omega), G.int _ hok, G.str _ hok hqx, fun v H' x ok d => q v H' x ok ?_⟩
      rw [partT_one]
      exact d
    | [], _, hxl, _, _, _ => exact absurd hxl n0
    | _ :: _ :: _, _, hxl, _, _, _ => simp at hxl; omega
  have n1 : xs.length ≠ 1 := fun z => c (decide_eq_true (by rw [z] <;> rfl))
  have h2 : 2 ≤ rows.length := by omega
  obtain ⟨l', rfl⟩ : ∃ l', l = l' + 1 := by
    cases l with
    | zero => have := hro.zero; omega
    | succ l' => exact ⟨l', rfl⟩
  have el : ((l' + 1 : Nat) : Int) - 1 = (l' : Int) := by omega
  have hsp := filter_split (rows := rows) l'
  have hcs := costP_split (l := l') hsp h2
  refine ⟨_, rfl, _, rfl, _, 1, rfl, rfl, a, xs, rows, l', by rw [← el]; rfl, hS, hk, hro.1, hl, fun qb p1 p2 ys zs H1 x1 k1 _ _ hqb hp1 hp2 hy hz => ?_⟩
  have ok1 := G.keep k1 hok
  have lf1 := List.length_filter_le (bitK l' 0) rows
  have lf2 := List.length_filter_le (bitK l' 1) rows
  refine ⟨S, _, hF, rfl, ok1, _, rfl, _, rfl, qb, _, 0, .ref p1, rfl, rfl, SqT.of hqb, rfl, _, rfl, _, 1, rfl, rfl, S, p1, ys, rows.filter (bitK l' 0), l', r + 1 + costP l' (rows.filter (bitK l' 1)).length, hF, by rw [← el]; rfl, SqL.of hp1, hy, hro.part, by omega, by omega, G.less ok1 (by omega), fun v1 H2 x2 ok2 d1 => ?_⟩
  refine ⟨_, rfl, _, rfl, qb, _, 1, .ref p2, rfl, rfl, SqT.of (x2.tup hqb), rfl, _, rfl, _, 1, rfl, rfl, S, p2, zs, rows.filter (bitK l' 1), l', r + 1, hF, by rw [← el]; rfl, SqL.of (x2.lst hp2), hz.gr x2.gr, hro.part, by omega, by omega, G.less ok2 (by omega), fun v2 H3 x3 ok3 d2 => ?_⟩
  refine ⟨r, "fork", _, _, v1, v2, rfl, by decide +kernel, ok3, G.mono x3.gr d1, d2, fun v H4 x4 ok4 d4 => q v H4 (((x1.trans x2).trans x3).trans x4) ok4 ?_⟩
  rw [partT_more h2]
  exact d4
theorem ok_part {cc : Addr} (T : Txt K mg cc) (A : SlA P w K mg base Fam) (C_none_seal : Cal P w K mg base 2 "none_seal" (spNone Fam) []) (C_parted : Cal P w K mg base 1 "parted" (spParted K) []) : ∀ k : Nat, Cal P w K mg base (k + 3) "part_top" (spPart K Fam k) []
  | 0 => by
    obtain ⟨f, fd, ps, ds, F, m, kp, b, v⟩ := (cal_no (P := P) (w := w) (base := base) T.d_part_top 3).ex
    exact ⟨f, fd, ps, ds, F.imp fun vs H Q E h => by obtain ⟨_, _, _, _, _, _, _, _, _, _, _, _, z, _⟩ := h; exact absurd z.1 (Nat.not_lt_zero _), m, kp, b, v⟩
  | k + 1 => ok_part1 T A C_none_seal C_parted (ok_part T A C_none_seal C_parted k)
end

section
variable {P : Program} {w : World} {K : PySem.W.Frag} {mg : Str → Option Value} {base : Heap} {Fam : Sys → Prop}
theorem ok_lawpart1 {cc : Addr} {k : Nat} (T : Txt K mg cc) (A : SlA P w K mg base Fam) (C__law_part : Cal P w K mg base (k + 2) "_law_part" (spPart K Fam k) []) : Cal P w K mg base (k + 3) "_law_part" (spPart K Fam (k + 1)) [] := by
  have Z := T.Z
  refine cal_of T.d__law_part sc__law_part (fun vs H Q E h => ?_) (fun f cdv A' outer s H vs Q E hr h => ?_)
  · obtain ⟨S, a, xs, rows, l, r, _, rfl, _⟩ := h
    rfl
  obtain ⟨S, a, xs, rows, l, r, hF, rfl, hS, hk, hro, hl, hlk, hok, q⟩ := h
  have G := A.good hF
  have hxl := hk.len
  have e16 : sizeLine = 16777216 := sizeLine_eq
  have hkk : k ≤ 1000 := by
    have := hr.dp
    have e0 : recursionLimit = 1000 := rfl
    omega
  refine ⟨_, (pss_cons (ps_if (pt_cmpR op_eq (pe_callB call_len_seq rfl Z.len PySem.boot_len (pa_cons (pv 1) pa_nil)) pe_int (nomark _)) (pss_one (ps_ret (pe_sl (i := 0) A.held hr (by omega) rfl (by first | exact Or.inl rfl | exact Or.inr (Or.inl rfl) | exact Or.inr (Or.inr rfl)) (pa_cons pe_str (pa_cons pe_int (pa_cons pe_int pa_nil)))))) pss_nil)
  (pss_cons (ps_if (pt_cmpR op_eq (pe_callB call_len_seq rfl Z.len PySem.boot_len (pa_cons (pv 1) pa_nil)) pe_int (nomark _)) (pss_one (ps_ret (pe_sl (i := 0) A.held hr (by omega) rfl (by first | exact Or.inl rfl | exact Or.inr (Or.inl rfl) | exact Or.inr (Or.inr rfl)) (pa_cons pe_str (pa_cons (pe_ix ix_tup (pe_ix ix_list (pv 1) pe_int (fun _ _ => rfl)) pe_int (fun _ _ => rfl)) (pa_cons (pe_ix ix_tup (pe_ix ix_list (pv 1) pe_int (fun _ _ => rfl)) pe_int (fun _ _ => rfl)) pa_nil)))))) pss_nil)
  (pss_cons (ps_set (i := 3) sc__law_part.nd rfl (Or.inr rfl) (pe_op op_oneShl pe_int (pe_op op_sub (pv 2) pe_int)))
  (pss_cons (ps_setLc (i := 4) (own := [("_law_row", 6)]) (g := gName 6) (tt := _) rfl sc__law_part.nd rfl rfl (sw_true rfl rfl rfl (by decide +kernel)) (pi_list (pv 1)) (blkOk_by (N := N__law_part) (sc := defScope s__law_part) (by decide +kernel)) (fun _ _ _ _ _ => (pg_name (i := 6) sc__law_part.nd rfl (Or.inl rfl))) (fun _ _ _ _ _ => (pts_one (pt_cmpR op_eq (pe_op op_mod (pe_op op_fdiv (pe_ix (r := rIxT K) ix_tup (pv 6) pe_int (fun _ _ => rfl)) (pv 3)) pe_int) pe_int (nomark _)))) (fun _ _ _ _ _ => (pv 6)))
  (pss_cons (ps_setLc (i := 5) (own := [("_law_row", 6)]) (g := gName 6) (tt := _) rfl sc__law_part.nd rfl rfl (sw_true rfl rfl rfl (by decide +kernel)) (pi_list (pv 1)) (blkOk_by (N := N__law_part) (sc := defScope s__law_part) (by decide +kernel)) (fun _ _ _ _ _ => (pg_name (i := 6) sc__law_part.nd rfl (Or.inl rfl))) (fun _ _ _ _ _ => (pts_one (pt_cmpR op_eq (pe_op op_mod (pe_op op_fdiv (pe_ix (r := rIxT K) ix_tup (pv 6) pe_int (fun _ _ => rfl)) (pv 3)) pe_int) pe_int (nomark _)))) (fun _ _ _ _ _ => (pv 6)))
  (pss_one (ps_ret (pe_sl (i := 0) A.held hr (by omega) rfl (by first | exact Or.inl rfl | exact Or.inr (Or.inl rfl) | exact Or.inr (Or.inr rfl)) (pa_cons pe_str (pa_cons (pe_c C__law_part hr (by omega) rfl (pa_cons (pv 0) (pa_cons (pv 4) (pa_cons (pe_op op_sub (pv 2) pe_int) pa_nil)))) (pa_cons (pe_c C__law_part hr (by omega) rfl (pa_cons (pv 0) (pa_cons (pv 5) (pa_cons (pe_op op_sub (pv 2) pe_int) pa_nil)))) pa_nil))))))))))), ?_⟩
  refine ⟨_, rfl, a, xs, rfl, .inl hS, rfl, _, rfl, ite2 (fun c => ?_) (fun c => ?_)⟩
  · have c' : (xs.length : Int) = 0 := V.int.inj (of_decide_eq_true c)
    have e : rows = [] := List.eq_nil_of_length_eq_zero (by omega)
    subst e
    refine ⟨S, _, hF, rfl, hok, r, "none", .int 0, .int 0, _, _, rfl, by decide +kernel, hok, G.int 0 hok, G.int 0 hok, fun v H' x ok d => q v H' x ok ?_⟩
    rw [partT_nil]
    exact d
  have n0 : xs.length ≠ 0 := fun z => c (decide_eq_true (by rw [z] <;> rfl))
  have cpos : costP l rows.length = rows.length * (2 * l + 1) := if_neg (by omega)
  refine ⟨_, rfl, a, xs, rfl, .inl hS, rfl, _, rfl, ite2 (fun c => ?_) (fun c => ?_)⟩
  · have c' : (xs.length : Int) = 1 := V.int.inj (of_decide_eq_true c)
    match rows, hk, hxl, q, cpos, hok with
    | [e], hk, hxl, q, cpos, hok =>
      obtain ⟨v0, hv0⟩ : ∃ v0, xs[0]? = some v0 := ⟨xs[0]'(by omega), List.getElem?_eq_getElem _⟩
      obtain ⟨qe, rfl, hqe, hqx⟩ := hk.at_ 0 v0 e hv0 rfl
      have h1 : 1 ≤ costP l ([e] : List (Int × Str)).length := by rw [cpos]; show 1 ≤ 1 * _; omega
      refine ⟨S, _, hF, rfl, hok, _, rfl, a, xs, 0, _, rfl, rfl, hS, atI_nat hv0, qe, _, 0, _, rfl, rfl, SqT.of hqe, rfl, _, rfl, a, xs, 0, _, rfl, rfl, hS, atI_nat hv0, qe, _, 1, _, rfl, rfl, SqT.of hqe, rfl, r, "row", .int e.1, .str e.2, _, _, rfl, by decide +kernel, G.less hok (by omega), G.int _ hok, G.str _ hok hqx, fun v H' x ok d => q v H' x ok ?_⟩
      rw [partT_one]
      exact d
    | [], _, hxl, _, _, _ => exact absurd hxl n0
    | _ :: _ :: _, _, hxl, _, _, _ => simp at hxl; omega
  have n1 : xs.length ≠ 1 := fun z => c (decide_eq_true (by rw [z] <;> rfl))
  have h2 : 2 ≤ rows.length := by omega
  obtain ⟨l', rfl⟩ : ∃ l', l = l' + 1 := by
    cases l with
    | zero => have := hro.zero; omega
    | succ l' => exact ⟨l', rfl⟩
  have el : ((l' + 1 : Nat) : Int) - 1 = (l' : Int) := by omega
  have hsp := filter_split (rows := rows) l'
  have hcs := costP_split (l := l') hsp h2
  have hM : (0 : Int) < 2 ^ l' := Int.pow_pos (by decide)
  have hM2 : (2 : Int) ^ l' < 1073741824 := by
    have h1 : 2 ^ l' ≤ 2 ^ 20 := Nat.pow_le_pow_right (by decide) (by omega)
    have h2 : ((2 ^ l' : Nat) : Int) = 2 ^ l' := by rw [Int.natCast_pow]; rfl
    have h3 : (2 : Nat) ^ 20 = 1048576 := rfl
    omega
  refine ⟨_, rfl, _, 1, rfl, rfl, l', rfl, by rw [← el], by omega, ?_⟩
  -- the two parts
  refine ⟨_, rfl, a, rfl, ⟨_, hS⟩, fun D nD => ?_⟩
  refine lc_list (K := K) (a := a) (xs := xs) (fun i H' => ∃ ys, Ext H H' ∧ Kp H H' ∧ H' D = some (.lst ys) ∧ KvL H' ys ((rows.take i).filter (bitK l' 0))) ⟨[], Ext.new nD, Kp.new nD, upd_same, KvL.nil⟩ (fun i H' _ ⟨_, x, _⟩ => x.seq hS) ?_ ?_
  · rintro i y H' hi ⟨ys, x, k, hD, hy⟩
    have hlt := (List.getElem?_eq_some_iff.mp hi).1
    have hri : rows[i]? = some (rows[i]'(by omega)) := List.getElem?_eq_getElem _
    obtain ⟨qe, rfl, hqe, hqx⟩ := (hk.gr x.gr).at_ i y _ hi hri
    generalize rows[i]'(by omega) = e at hri hqe hqx
    refine ⟨rfl, _, rfl, qe, _, 0, _, rfl, rfl, SqT.of hqe, rfl, _, rfl, _, _, rfl, rfl, ⟨hM, hM2⟩, _, 2, rfl, rfl, by show (0 : Int) < 2; decide, rfl, _, rfl, ite2 (fun c => ?_) (fun c => ?_)⟩
    · have c' : e.1 / 2 ^ l' % 2 = 0 := V.int.inj (of_decide_eq_true c)
      have hb : bitK l' 0 e = true := decide_eq_true c'
      refine ⟨_, rfl, ys, hD, ?_, ys ++ [.ref qe], x.mut nD, k.trans (Kp.lst hD), upd_same, ?_⟩
      · have := hy.len
        have := List.length_filter_le (bitK l' 0) (rows.take i)
        rw [List.length_take] at this
        omega
      · rw [take_filter _ _ hri, hb]
        exact (hy.gr (Kp.lst hD).gr).snoc ((Kp.lst hD) _ _ hqe True.intro) hqx
    · have c' : ¬ e.1 / 2 ^ l' % 2 = 0 := fun z => c (decide_eq_true (congrArg V.int z))
      have hb : bitK l' 0 e = false := decide_eq_false c'
      refine ⟨ys, x, k, hD, ?_⟩
      rw [take_filter _ _ hri, hb]
      simpa using hy
  rintro H1 ⟨ys, x1, k1, hD1, hy1⟩
  rw [hxl, List.take_length] at hy1
  refine ⟨_, rfl, a, rfl, ⟨_, x1.seq hS⟩, fun D2 nD2 => ?_⟩
  refine lc_list (K := K) (a := a) (xs := xs) (fun i H' => ∃ zs, Ext H1 H' ∧ Kp H1 H' ∧ H' D2 = some (.lst zs) ∧ KvL H' zs ((rows.take i).filter (bitK l' 1))) ⟨[], Ext.new nD2, Kp.new nD2, upd_same, KvL.nil⟩ (fun i H' _ ⟨_, x, _⟩ => (x1.trans x).seq hS) ?_ ?_
  · rintro i y H' hi ⟨zs, x, k, hD, hy⟩
    have hlt := (List.getElem?_eq_some_iff.mp hi).1
    have hri : rows[i]? = some (rows[i]'(by omega)) := List.getElem?_eq_getElem _
    obtain ⟨qe, rfl, hqe, hqx⟩ := (hk.gr (x1.trans x).gr).at_ i y _ hi hri
    generalize rows[i]'(by omega) = e at hri hqe hqx
    refine ⟨rfl, _, rfl, qe, _, 0, _, rfl, rfl, SqT.of hqe, rfl, _, rfl, _, _, rfl, rfl, ⟨hM, hM2⟩, _, 2, rfl, rfl, by show (0 : Int) < 2; decide, rfl, _, rfl, ite2 (fun c => ?_) (fun c => ?_)⟩
    · have c' : e.1 / 2 ^ l' % 2 = 1 := V.int.inj (of_decide_eq_true c)
      have hb : bitK l' 1 e = true := decide_eq_true c'
      refine ⟨_, rfl, zs, hD, ?_, zs ++ [.ref qe], x.mut nD2, k.trans (Kp.lst hD), upd_same, ?_⟩
      · have := hy.len
        have := List.length_filter_le (bitK l' 1) (rows.take i)
        rw [List.length_take] at this
        omega
      · rw [take_filter _ _ hri, hb]
        exact (hy.gr (Kp.lst hD).gr).snoc ((Kp.lst hD) _ _ hqe True.intro) hqx
    · have c' : ¬ e.1 / 2 ^ l' % 2 = 1 := fun z => c (decide_eq_true (congrArg V.int z))
      have hb : bitK l' 1 e = false := decide_eq_false c'
      refine ⟨zs, x, k, hD, ?_⟩
      rw [take_filter _ _ hri, hb]
      simpa using hy
  rintro H2 ⟨zs, x2, k2, hD2, hy2⟩
  rw [hxl, List.take_length] at hy2
  have ok2 := G.keep (k1.trans k2) hok
  have lf1 := List.length_filter_le (bitK l' 0) rows
  have lf2 := List.length_filter_le (bitK l' 1) rows
  refine ⟨S, _, hF, rfl, ok2, _, rfl, _, rfl, _, rfl, _, 1, rfl, rfl, S, D, ys, rows.filter (bitK l' 0), l', r + 1 + costP l' (rows.filter (bitK l' 1)).length, hF, by rw [← el]; rfl, SqL.of (x2.lst hD1), hy1.gr x2.gr, hro.part, by omega, by omega, G.less ok2 (by omega), fun v1 H3 x3 ok3 d1 => ?_⟩
  refine ⟨_, rfl, _, rfl, _, rfl, _, 1, rfl, rfl, S, D2, zs, rows.filter (bitK l' 1), l', r + 1, hF, by rw [← el]; rfl, SqL.of (x3.lst hD2), hy2.gr x3.gr, hro.part, by omega, by omega, G.less ok3 (by omega), fun v2 H4 x4 ok4 d2 => ?_⟩
  refine ⟨r, "fork", _, _, v1, v2, rfl, by decide +kernel, ok4, G.mono x4.gr d1, d2, fun v H5 x5 ok5 d5 => q v H5 ((((x1.trans x2).trans x3).trans x4).trans x5) ok5 ?_⟩
  rw [partT_more h2]
  exact d5
theorem ok_lawpart {cc : Addr} (T : Txt K mg cc) (A : SlA P w K mg base Fam) : ∀ k : Nat, Cal P w K mg base (k + 2) "_law_part" (spPart K Fam k) []
  | 0 => by
    obtain ⟨f, fd, ps, ds, F, m, kp, b, v⟩ := (cal_no (P := P) (w := w) (base := base) T.d__law_part 2).ex
    exact ⟨f, fd, ps, ds, F.imp fun vs H Q E h => by obtain ⟨_, _, _, _, _, _, _, _, _, _, _, _, z, _⟩ := h; exact absurd z.1 (Nat.not_lt_zero _), m, kp, b, v⟩
  | k + 1 => ok_lawpart1 T A (ok_lawpart T A k)
end

/-! ### raising where nothing is handled, its context told; raising and calls while an exception is handled -/
section
variable {P : Program} {w : World} {K : PySem.W.Frag} {mg : Str → Option Value} {base : Heap}
theorem pmk_ownN {X : Cx} {C : Addr} {bmB : List Value} {B newId initId : String} {x m : Str} {j : Nat} {p p2 pos : Pos} (F : ExcBaseFacts B newId initId bmB) (hq : PySem.W.excIn X.K C bmB newId = true) (gC : X.mg x = some (.ref C)) (kC : PySem.W.keepIn X.K (.ref C) = true)
    (r : Raises X (.ref C)) (hg : Gl X x) (hdb : (x == ("__debug__" : Str)) = false := by decide) : L2N.PMk X (.Call (.Name x p) [.Constant (.str m) j p2] [] pos) (fun _ H Q => Q (.ref C) none H) := fun pins s σ H Q I h =>
  wpAny_Call_Name_kw (ld_glob I hg gC (PySem.W.callWith_K (h₀ := X.base) I.ok.mod.kin kC (thn ((pa_cons (pe_str (X := X) (x := m)) pa_nil).run pos pins s σ H (fun vs H1 => vs = [V.str m] ∧ H = H1) I ⟨rfl, rfl⟩) fun us s1 ⟨vs, H1, I1, r1, ev, eH⟩ => by
    subst ev eH
    refine ⟨I1.kIn, ?_⟩
    rcases r1 with _ | ⟨ru, rn⟩
    rcases rn with _ | _
    obtain ⟨_, _, _, _, _, _, _, _, _, _, _, _, _, _, _, _, mN, hC, hN, hni, T⟩ := exc_obj I1.kIn hq
    exact wpAny_call_exc_subT F T hC hN hni (fun h' e hm => L2N.mk_of I1 hm r h (I1.hok.gone hm.new)) (by show 1 ≤ sizeLine; rw [sizeLine_eq]; omega))) hdb)
/-- a method that may raise, cold; what it raises has no context -/
structure MetN (P : Program) (w : World) (K : PySem.W.Frag) (mg : Str → Option Value) (base : Heap) (k : Nat) (C : Addr) (m : Str) (sp : Sp) : Prop where
  ex : ∃ (f : Addr) (fd : FuncData) (ps : List Str), Cls K C ∧ Meth K C m f ∧ FnOk P w K mg base (L2N.CX P w) k f fd ps sp ∧ Binds K fd ps []
theorem metN_of {C : Addr} {m qual : Str} {st : Stmt} {N ps : List Str} {k : Nat} {sp : Sp} (c : Cls K C) (D : MetX K C m qual st ps) (S : FnScope N ps (defScope st)) (len : ∀ vs H Q E, sp vs H Q E → vs.length = ps.length)
    (hbody : ∀ (f : Addr) (cdv : Value) (A : Around) (outer : List Env) (s : Shared) (H : Hp) (vs : List V) (Q : VK) (E : XK), Room k (A.deeper (envOfC qual (defScope st) s.heap.objs.size f cdv)) → sp vs H Q E →
      ∃ t, PSs (cxOf (L2N.CX P w) P w K mg base N qual (defScope st) f cdv A outer s H E) (defBody st) t ∧ t { nx := fun _ H' => Q .non H', rt := Q } (start N vs) H) : MetN P w K mg base (k + 1) C m sp := by
  obtain ⟨f, fd, F, me, b⟩ := D.ex
  obtain ⟨oc, od, kV, doc, pm, an, cdv, ct, osl, rfl, lk, hcd⟩ := F.ex
  exact ⟨f, _, ps, c, me, fn_of lk hcd S len (hbody f cdv), .all b⟩
theorem MetN.weak {C : Addr} {m : Str} {k : Nat} {sp : Sp} (c : MetN P w K mg base k C m sp) : MetR P w K mg base k C m sp := by
  obtain ⟨f, fd, ps, hc, hm, F, b⟩ := c.ex
  refine ⟨f, fd, ps, hc, hm, ⟨F.len, fun A outer s H args us vs Q E hr e0 hb hv hsp => codeAny_mono (F.run A outer s H args us vs Q E hr e0 hb hv hsp) fun r s' q => ?_⟩, b⟩
  cases r with
  | ok fl =>
    cases fl <;> exact q
  | error e =>
    obtain ⟨a, B, H', cls, d, rfl, fl, more⟩ := q
    exact ⟨a, B, H', cls, d, rfl, L2H.flyingZ_imp (fun _ z => z.zc) fl, more⟩
theorem passAtN {X : Cx} {W : WX} (tk : L2N.Takes X W) (σ : L2.St) : PassesAt (L2N.CX X.prog X.w) X σ (WE W σ) := fun _ _ _ e s' I c => tk e s' (L2N.XE.of_call I (fun _ _ _ h => h) c)
section
variable {X : Cx} {k j : Nat} {C : Addr} {x m : Str} {sp : Sp} {p pos apos : Pos} {e o : Expr} {es : List Expr} {ta : TE} {t : TA} {W : WX}
theorem pe_mtn {pl : Sem Bool} (c : MetN X.prog X.w X.K X.mg X.base k C m sp) (tk : L2N.Takes X W) (hr : Room j X.A) (hk : k ≤ j) (he : PE X o ta) (ha : PA X (e :: es) t)
    (hst : starEach (e :: es) X.env = (false, eval e X.env) :: starEach es X.env := by rfl) (hpl : (backTo pos (starEach es X.env)).any (·.1) = false := by rfl)
    (ht : eval (.Call (.Attribute o m apos) (e :: es) [] pos) X.env = (do
      let ov ← eval o X.env
      standAt apos.atName
      let (f, first) ← holding [ov] (getMethod ov m pl)
      callWith pos f first (backTo pos (starEach (e :: es) X.env)) (backToKw pos (keywordEach [] X.env))) := by rfl) :
    PE X (.Call (.Attribute o m apos) (e :: es) [] pos) (tMethX C m sp (WE W) ta t) := by
  obtain ⟨f, fd, ps, hc, hm, F, b⟩ := c.ex
  refine ⟨fun pins s σ H Q I h => PySem.W.methodCall_KW (pl := pl) (thn (he.run pins s σ H _ I h) fun u s1 ⟨x, H1, I1, rx, a, dx, fs, ex, ea, l, q⟩ => ?_) ht⟩
  subst ex
  obtain rfl : u = Value.ref a := rx
  exact getmeth_ok I1 ea hc hm l (PySem.W.callWith_K (first := [.ref a]) (h₀ := X.base) I.ok.mod.kin hm.kp (thn (ha.run pos pins s1 σ H1 _ I1 q) fun us s2 ⟨vs, H2, I2, r, q2⟩ => ⟨I2.kIn, run_fnS (us := .ref a :: us) (vs := .ref a :: vs) F (hr.mono hk) b (passAtN tk σ) I2 (.cons rfl r) q2⟩) hst hpl)
theorem ps_raiseXN {j : Nat} {p2 p3 : Pos} (F : ExcF X.K C) (gC : X.mg x = some (.ref C)) (hc : X.calm = true) (tk : L2N.Takes X W) (hg : Gl X x) (hdb : (x == ("__debug__" : Str)) = false := by decide) :
    PS X (.Raise (some (.Call (.Name x p) [.Constant (.str m) j p2] [] p3)) none pos) (fun _ σ H => W (.ref C) none σ H) :=
  L2N.ps_raise hc tk (pmk_ownN PySem.F.excBase_ValueError F.xP gC F.kP (raises_own F.bP F.tP) hg hdb)
theorem ps_raiseXH {j : Nat} {p2 p3 : Pos} (F : ExcF X.K C) (gC : X.mg x = some (.ref C)) (hot : L2H.HotC X) (tk : Takes X W) (hg : Gl X x) (hdb : (x == ("__debug__" : Str)) = false := by decide) :
    PS X (.Raise (some (.Call (.Name x p) [.Constant (.str m) j p2] [] p3)) none pos) (fun _ σ H => W (.ref C) none σ H) :=
  L2H.ps_raiseH hot tk (pmk_ownN PySem.F.excBase_ValueError F.xP gC F.kP (raises_own F.bP F.tP) hg hdb)
theorem hot_tr {pn : List (Addr × Obj)} {xe : Value → Shared → Prop} (h : L2H.HotC X) (hq : ∀ q ∈ X.pn, q ∈ pn) : L2H.HotC (X.tr pn xe) := by
  obtain ⟨q, a, b⟩ := h
  exact ⟨q, a, hq q b⟩
theorem hot_suite {a : Addr} {oe : Obj} {cls : Value} {d : Option Addr} {pn : List (Addr × Obj)} (hz : L2N.Zn cls d oe) (hf : ∃ vs, oe.data = .fields vs) : L2H.HotC (X.suite a ((a, oe) :: pn)) := by
  obtain ⟨vs, e⟩ := hf
  exact ⟨(a, oe), ⟨rfl, vs, e, hz.2.2 vs e⟩, List.mem_cons_self⟩
end
/-- a method called while an exception is handled -/
structure MetH (P : Program) (w : World) (K : PySem.W.Frag) (mg : Str → Option Value) (base : Heap) (k : Nat) (C : Addr) (m : Str) (sp : Sp) : Prop where
  ex : ∃ (f : Addr) (fd : FuncData) (ps : List Str), Cls K C ∧ Meth K C m f ∧ L2H.FnH P w K mg base (L2.CX P w) k f fd ps sp ∧ Binds K fd ps []
theorem metH_of {C : Addr} {m qual : Str} {st : Stmt} {N ps : List Str} {k : Nat} {sp : Sp} (c : Cls K C) (D : MetX K C m qual st ps) (S : FnScope N ps (defScope st)) (len : ∀ vs H Q E, sp vs H Q E → vs.length = ps.length)
    (hbody : ∀ (f : Addr) (cdv : Value) (A : Around) (outer : List Env) (s : Shared) (H : Hp) (vs : List V) (Q : VK) (E : XK) (p : Addr × Obj), L2H.Hot1 A p → L2H.RoomH k (A.deeper (envOfC qual (defScope st) s.heap.objs.size f cdv)) → sp vs H Q E →
      ∃ t, PSs (L2H.cxH (L2.CX P w) P w K mg base N qual (defScope st) f cdv A outer s H E p) (defBody st) t ∧ t { nx := fun _ H' => Q .non H', rt := Q } (start N vs) H) : MetH P w K mg base (k + 1) C m sp := by
  obtain ⟨f, fd, F, me, b⟩ := D.ex
  obtain ⟨oc, od, kV, doc, pm, an, cdv, ct, osl, rfl, lk, hcd⟩ := F.ex
  exact ⟨f, _, ps, c, me, L2H.fn_ofH lk hcd S len (hbody f cdv), .all b⟩
/-- a def called while an exception is handled -/
structure CalH (P : Program) (w : World) (K : PySem.W.Frag) (mg : Str → Option Value) (base : Heap) (k : Nat) (x : Str) (sp : Sp) : Prop where
  ex : ∃ (f : Addr) (fd : FuncData) (ps : List Str), L2H.FnH P w K mg base L2.CX0 k f fd ps sp ∧ mg x = some (.ref f) ∧ PySem.W.keepIn K (.ref f) = true ∧ Binds K fd ps []
theorem calH_of {x : Str} {st : Stmt} {N ps : List Str} {k : Nat} {sp : Sp} (D : DefX K mg x st ps) (S : FnScope N ps (defScope st)) (len : ∀ vs H Q E, sp vs H Q E → vs.length = ps.length)
    (hbody : ∀ (f : Addr) (cdv : Value) (A : Around) (outer : List Env) (s : Shared) (H : Hp) (vs : List V) (Q : VK) (E : XK) (p : Addr × Obj), L2H.Hot1 A p → L2H.RoomH k (A.deeper (envOfC x (defScope st) s.heap.objs.size f cdv)) → sp vs H Q E →
      ∃ t, PSs (L2H.cxH L2.CX0 P w K mg base N x (defScope st) f cdv A outer s H E p).nox (defBody st) t ∧ t { nx := fun _ H' => Q .non H', rt := Q } (start N vs) H) : CalH P w K mg base (k + 1) x sp := by
  obtain ⟨f, fd, F, me, b⟩ := D.ex
  have kp := F.kp
  obtain ⟨oc, od, kV, doc, pm, an, cdv, ct, osl, rfl, lk, hcd⟩ := F.ex
  refine ⟨f, _, ps, L2H.fn_ofH lk hcd S len (fun A outer s H vs Q E p h1 hr hsp => ?_), me, kp, .all b⟩
  obtain ⟨t, g1, g2⟩ := hbody f cdv A outer s H vs Q E p h1 hr hsp
  exact ⟨t, g1.nox, g2⟩
section
variable {X : Cx} {k j : Nat} {C : Addr} {x m : Str} {sp : Sp} {p pos apos : Pos} {e o : Expr} {es : List Expr} {ta : TE} {t : TA} {W : WX}
theorem pe_mth {pl : Sem Bool} (c : MetH X.prog X.w X.K X.mg X.base k C m sp) (hot : L2H.HotC X) (tk : Takes X W) (hr : L2H.RoomH j X.A) (hk : k ≤ j) (he : PE X o ta) (ha : PA X (e :: es) t)
    (hst : starEach (e :: es) X.env = (false, eval e X.env) :: starEach es X.env := by rfl) (hpl : (backTo pos (starEach es X.env)).any (·.1) = false := by rfl)
    (ht : eval (.Call (.Attribute o m apos) (e :: es) [] pos) X.env = (do
      let ov ← eval o X.env
      standAt apos.atName
      let (f, first) ← holding [ov] (getMethod ov m pl)
      callWith pos f first (backTo pos (starEach (e :: es) X.env)) (backToKw pos (keywordEach [] X.env))) := by rfl) :
    PE X (.Call (.Attribute o m apos) (e :: es) [] pos) (L2H.tMethH C m sp (WE W) ta t) := by
  obtain ⟨f, fd, ps, hc, hm, F, b⟩ := c.ex
  exact L2H.pe_methH (pl := pl) he hc hm F (hr.mono hk) hot b (fun σ => passAt tk σ) ha hst hpl ht
theorem pe_cH (c : CalH X.prog X.w X.K X.mg X.base k x sp) (hot : L2H.HotC X) (hr : L2H.RoomH j X.A) (hk : k ≤ j) (hg : Gl X x) (ha : PA X (e :: es) t)
    (hdb : (x == ("__debug__" : Str)) = false := by decide) (he : starEach (e :: es) X.env = (false, eval e X.env) :: starEach es X.env := by rfl) (hpl : (backTo pos (starEach es X.env)).any (·.1) = false := by rfl) :
    PE X (.Call (.Name x p) (e :: es) [] pos) (tCallS sp (fun _ => L2.E0) t) := by
  obtain ⟨f, fd, ps, F, m, kp, b⟩ := c.ex
  exact L2H.pe_callH F (hr.mono hk) hot hg m kp b (fun σ _ _ _ _ _ _ z => False.elim z) ha hdb he hpl
end
end
theorem takesN0 {X : Cx} : L2N.Takes X (fun _ _ _ _ => False) := fun _ _ ⟨_, _, _, _, _, _, _, _, _, _, _, _, _, _, _, _, z⟩ => z.elim
theorem roomH_suite {X : Cx} {k : Nat} {a : Addr} {pn : List (Addr × Obj)} (h : Room k X.A) : L2H.RoomH k (X.suite a pn).A := ⟨h.dp, h.un⟩

/-! ### a table: its dict as a row of pairs -/
def convT (kvs : List (Int × Str)) : List (Key × V) := kvs.map fun e => ((Sum.inl e.1 : Key), V.str e.2)
def putI (kvs : List (Int × Str)) (k : Int) (x : Str) : List (Int × Str) := if (kvs.any fun e => decide (e.1 = k)) = true then kvs.map (fun e => if e.1 = k then (e.1, x) else e) else kvs ++ [(k, x)]
def popI (kvs : List (Int × Str)) (k : Int) : List (Int × Str) := kvs.filter fun e => decide (e.1 ≠ k)
def getI (kvs : List (Int × Str)) (k : Int) : Option Str := (kvs.find? fun e => decide (e.1 = k)).map (·.2)
theorem inl_iff (a k : Int) : ((Sum.inl a : Key) = Sum.inl k) ↔ a = k := ⟨Sum.inl.inj, fun h => by rw [h]⟩
theorem conv_put (kvs : List (Int × Str)) (k : Int) (x : Str) : putK (convT kvs) (.inl k) (.str x) = convT (putI kvs k x) := by
  unfold putK putI convT
  rw [List.any_map]
  have e : ((fun kv : Key × V => decide (kv.1 = (Sum.inl k : Key))) ∘ fun e : Int × Str => ((Sum.inl e.1 : Key), V.str e.2)) = fun e : Int × Str => decide (e.1 = k) := by
    funext e
    exact decide_eq_decide.mpr (inl_iff _ _)
  rw [e]
  by_cases h : (kvs.any fun e => decide (e.1 = k)) = true
  · rw [if_pos h, if_pos h, List.map_map, List.map_map]
    refine List.map_congr_left fun e _ => ?_
    show (if (Sum.inl e.1 : Key) = Sum.inl k then _ else _) = _
    by_cases q : e.1 = k
    · rw [if_pos (by rw [q])]
      show _ = (fun e : Int × Str => ((Sum.inl e.1 : Key), V.str e.2)) (if e.1 = k then (e.1, x) else e)
      rw [if_pos q]
    · rw [if_neg (fun z => q (Sum.inl.inj z))]
      show _ = (fun e : Int × Str => ((Sum.inl e.1 : Key), V.str e.2)) (if e.1 = k then (e.1, x) else e)
      rw [if_neg q]
  · rw [if_neg h, if_neg h, List.map_append]
    rfl
theorem conv_pop (kvs : List (Int × Str)) (k : Int) : dropK (convT kvs) (.inl k) = convT (popI kvs k) := by
  unfold dropK popI convT
  rw [List.filter_map]
  congr 1
  refine List.filter_congr fun e _ => ?_
  exact decide_eq_decide.mpr (not_congr (inl_iff _ _))
theorem conv_get (kvs : List (Int × Str)) (k : Int) : valV (convT kvs) (.inl k) = (getI kvs k).map V.str := by
  unfold valV getI convT
  rw [List.find?_map]
  have e : ((fun kv : Key × V => decide (kv.1 = (Sum.inl k : Key))) ∘ fun e : Int × Str => ((Sum.inl e.1 : Key), V.str e.2)) = fun e : Int × Str => decide (e.1 = k) := by
    funext e
    exact decide_eq_decide.mpr (inl_iff _ _)
  rw [e, Option.map_map, Option.map_map]
  rfl
def tbF (f : Addr) (depth : Int) (d : Addr) : List (Str × V) := [("seal", .ref f), ("depth", .int depth), ("held", .ref d)]
theorem tbF_seal (f : Addr) (n : Int) (d : Addr) : (tbF f n d).lookup ("seal" : Str) = some (.ref f) := by kernel_rfl
theorem tbF_depth (f : Addr) (n : Int) (d : Addr) : (tbF f n d).lookup ("depth" : Str) = some (.int n) := by kernel_rfl
theorem tbF_held (f : Addr) (n : Int) (d : Addr) : (tbF f n d).lookup ("held" : Str) = some (.ref d) := by kernel_rfl
theorem tbF_mk (f : Addr) (n : Int) (d : Addr) : putF "held" (.ref d) (putF "depth" (.int n) (putF "seal" (.ref f) [])) = tbF f n d := by kernel_rfl
theorem tbF_no (f : Addr) (n : Int) (d : Addr) : (tbF f n d).lookup ("asked" : Str) = none ∧ (tbF f n d).lookup ("put" : Str) = none ∧ (tbF f n d).lookup ("cut" : Str) = none ∧ (tbF f n d).lookup ("value" : Str) = none ∧ (tbF f n d).lookup ("rows" : Str) = none ∧ (tbF f n d).lookup ("head" : Str) = none ∧ (tbF f n d).lookup ("way" : Str) = none ∧ (tbF f n d).lookup ("twin" : Str) = none :=
  ⟨by kernel_rfl, by kernel_rfl, by kernel_rfl, by kernel_rfl, by kernel_rfl, by kernel_rfl, by kernel_rfl, by kernel_rfl⟩
section
variable {P : Program} {w : World} {K : PySem.W.Frag} {mg : Str → Option Value} {base : Heap} {C : Addr}
def spAsked (mg : Str → Option Value) (C : Addr) : Sp := fun vs H Q E => ∃ (f p dx d : Addr) (l : Nat) (k : Int), vs = [.ref p, .int k] ∧ H p = some (.ins C dx (tbF f (l : Int) d)) ∧ l ≤ 1000 ∧
  (0 ≤ k ∧ k < 2 ^ l → Q .non H) ∧ (¬ (0 ≤ k ∧ k < 2 ^ l) → ∀ D, mg "NoPlace" = some (.ref D) → E (.ref D) none H)
theorem ok_askedN {cc : Addr} (T : Txt K mg cc) (KT : K_Table K mg C) : MetN P w K mg base 1 C "asked" (spAsked mg C) := by
  obtain ⟨C_NoPlace, g_NoPlace, F_NoPlace⟩ := T.x_NoPlace.ex
  refine metN_of KT.cl KT.m_asked sc_Table_asked (fun vs H Q E h => ?_) (fun f cdv A' outer s H vs Q E hr h => ?_)
  · obtain ⟨f, p, dx, d, l, k, rfl, _⟩ := h
    rfl
  obtain ⟨f, p, dx, d, l, k, rfl, hp, hl, q1, q2⟩ := h
  refine ⟨_, (pss_one (ps_if (pt_not (pt_chain op_le op_lt pe_int (pv 1) (pe_op op_oneShl pe_int (pe_fld (pv 0) rfl)))) (pss_one (ps_raiseXN F_NoPlace g_NoPlace rfl (L2N.takes_of rfl rfl rfl rfl) rfl)) pss_nil)), ?_⟩
  refine ⟨_, rfl, _, _, rfl, rfl, _, rfl, ite2 (fun c => ?_) (fun c => ?_)⟩
  · have c' : (0 : Int) ≤ k := of_decide_eq_true c
    refine ⟨_, rfl, p, C, dx, _, _, rfl, hp, KT.cl, KT.n_depth, tbF_depth _ _ _, l, rfl, rfl, by omega, _, _, rfl, rfl, _, rfl, ?_⟩
    by_cases c2 : k < 2 ^ l
    · rw [decide_eq_true c2]
      exact iteF (q1 ⟨c', c2⟩)
    · rw [decide_eq_false c2]
      exact iteT (q2 (fun z => c2 z.2) _ g_NoPlace)
  · have c' : ¬ (0 : Int) ≤ k := of_decide_eq_false (Bool.eq_false_iff.mpr c)
    exact ⟨_, rfl, iteT (q2 (fun z => c' z.1) _ g_NoPlace)⟩
theorem ok_asked {cc : Addr} (T : Txt K mg cc) (KT : K_Table K mg C) : MetR P w K mg base 1 C "asked" (spAsked mg C) := (ok_askedN T KT).weak
theorem ExtO.dict {d : Addr} {H : Hp} {kvs : List (Key × V)} {o : HO} (h : H d = some (.dK kvs)) : ExtO d H (upd H d o) := by
  refine ⟨fun a u q e _ => by rw [upd_ne q]; exact e, fun a ks e => ⟨[], ?_⟩, (Kp.dK h).gr⟩
  rw [List.append_nil, upd_ne]
  · exact e
  · rintro rfl
    rw [h] at e
    cases e
structure TbAt (C : Addr) (f : Addr) (H : Hp) (p d : Addr) (l : Nat) (kvs : List (Int × Str)) : Prop where
  at_ : ∃ dx, H p = some (.ins C dx (tbF f (l : Int) d))
  held : H d = some (.dK (convT kvs))
  small : kvs.length ≤ 1000 ∧ l ≤ 1000
def spPut (mg : Str → Option Value) (C : Addr) : Sp := fun vs H Q E => ∃ (f p d : Addr) (l : Nat) (kvs : List (Int × Str)) (k : Int) (x : Str), vs = [.ref p, .int k, .str x] ∧ TbAt C f H p d l kvs ∧
  (0 ≤ k ∧ k < 2 ^ l → Q .non (upd H d (.dK (convT (putI kvs k x))))) ∧ (¬ (0 ≤ k ∧ k < 2 ^ l) → ∀ D, mg "NoPlace" = some (.ref D) → E (.ref D) none H)
theorem ok_putN {cc : Addr} (T : Txt K mg cc) (KT : K_Table K mg C) : MetN P w K mg base 2 C "put" (spPut mg C) := by
  have M_asked := ok_askedN (P := P) (w := w) (base := base) T KT
  refine metN_of KT.cl KT.m_put sc_Table_put (fun vs H Q E h => ?_) (fun f cdv A' outer s H vs Q E hr h => ?_)
  · obtain ⟨f, p, d, l, kvs, k, x, rfl, _⟩ := h
    rfl
  obtain ⟨f', p, d, l, kvs, k, x, rfl, ⟨⟨dx, hp⟩, hd, hz, hl⟩, q1, q2⟩ := h
  have hu := hu_of hr
  refine ⟨_, (pss_cons (ps_expr (pe_mtn M_asked (L2N.takes_of rfl rfl rfl rfl) hr (by omega) (pv 0) (pa_cons (pv 1) pa_nil)))
  (pss_one (ps_dput hu (pe_fld (pv 0) rfl) (pv 1) (pv 2) rfl))), ?_⟩
  refine ⟨_, rfl, p, dx, _, rfl, hp, (tbF_no _ _ _).1, _, rfl, f', p, dx, d, l, k, rfl, hp, hl, fun hk => ?_, fun hk D hD => q2 hk D hD⟩
  refine ⟨_, rfl, _, rfl, p, C, dx, _, _, rfl, hp, KT.cl, KT.n_held, tbF_held _ _ _, _, rfl, d, _, rfl, DPut.k (k := .inl k) hd (by unfold convT; rw [List.length_map, sizeLine_eq]; omega), ?_⟩
  rw [conv_put]
  exact q1 hk
theorem ok_put {cc : Addr} (T : Txt K mg cc) (KT : K_Table K mg C) : MetR P w K mg base 2 C "put" (spPut mg C) := (ok_putN T KT).weak
def spValue (mg : Str → Option Value) (C : Addr) : Sp := fun vs H Q E => ∃ (f p d : Addr) (l : Nat) (kvs : List (Int × Str)) (k : Int), vs = [.ref p, .int k] ∧ TbAt C f H p d l kvs ∧
  (0 ≤ k ∧ k < 2 ^ l → Q (((getI kvs k).map V.str).getD .non) H) ∧ (¬ (0 ≤ k ∧ k < 2 ^ l) → ∀ D, mg "NoPlace" = some (.ref D) → E (.ref D) none H)
theorem ok_value {cc : Addr} (T : Txt K mg cc) (KT : K_Table K mg C) : MetR P w K mg base 2 C "value" (spValue mg C) := by
  have M_asked := ok_asked (P := P) (w := w) (base := base) T KT
  refine metR_of KT.cl KT.m_value sc_Table_value (fun vs H Q E h => ?_) (fun f cdv A' outer s H vs Q E hr h => ?_)
  · obtain ⟨f, p, d, l, kvs, k, rfl, _⟩ := h
    rfl
  obtain ⟨f', p, d, l, kvs, k, rfl, ⟨⟨dx, hp⟩, hd, hz, hl⟩, q1, q2⟩ := h
  have hu := hu_of hr
  refine ⟨_, (pss_cons (ps_expr (pe_mtx M_asked (takes_of rfl rfl rfl rfl) hr (by omega) (pv 0) (pa_cons (pv 1) pa_nil)))
  (pss_one (ps_ret (pe_dget1 hu (pe_fld (pv 0) rfl) (pv 1) ⟨rfl, rfl, rfl, rfl⟩)))), ?_⟩
  refine ⟨_, rfl, p, dx, _, rfl, hp, (tbF_no _ _ _).1, _, rfl, f', p, dx, d, l, k, rfl, hp, hl, fun hk => ?_, fun hk D hD => q2 hk D hD⟩
  refine ⟨_, rfl, p, C, dx, _, _, rfl, hp, KT.cl, KT.n_held, tbF_held _ _ _, d, rfl, .inl ⟨_, .inl hd⟩, _, rfl, _, DGet.k (k := .inl k) hd, ?_⟩
  rw [conv_get]
  exact q1 hk
end

section
variable {P : Program} {w : World} {K : PySem.W.Frag} {mg : Str → Option Value} {base : Heap} {C : Addr}
def kOf (H : Hp) : V → Int
  | .ref t => match H t with
    | some (.tup [.int i, .str _]) => i
    | _ => 0
  | _ => 0
def fOf (H : Hp) : V → Str
  | .ref t => match H t with
    | some (.tup [.int _, .str x]) => x
    | _ => ""
  | _ => ""
theorem kOf_at {H : Hp} {t : Addr} {i : Int} {x : Str} (h : H t = some (.tup [.int i, .str x])) : kOf H (.ref t) = i ∧ fOf H (.ref t) = x := by
  unfold kOf fOf
  simp only [h]
  exact ⟨trivial, trivial⟩
theorem nodup_key {kvs : List (Int × Str)} (h : (kvs.map (·.1)).Nodup) {a b : Int × Str} (ha : a ∈ kvs) (hb : b ∈ kvs) (e : a.1 = b.1) : a = b := by
  induction kvs with
  | nil => cases ha
  | cons c r ih =>
    rw [List.map_cons, List.nodup_cons] at h
    rcases List.mem_cons.mp ha with rfl | ha'
    · rcases List.mem_cons.mp hb with rfl | hb'
      · rfl
      · exact absurd (List.mem_map.mpr ⟨b, hb', e.symm⟩) h.1
    · rcases List.mem_cons.mp hb with rfl | hb'
      · exact absurd (List.mem_map.mpr ⟨a, ha', e⟩) h.1
      · exact ih h.2 ha' hb'
def spRows (C : Addr) : Sp := fun vs H Q _ => ∃ (f p d : Addr) (l : Nat) (kvs : List (Int × Str)), vs = [.ref p] ∧ TbAt C f H p d l kvs ∧ (kvs.map (·.1)).Nodup ∧ (∀ e ∈ kvs, txtOk e.2 = true) ∧
  ∀ q ys rows H', Ext H H' → Kp H H' → H q = none → H' q = some (.lst ys) → KvL H' ys rows → rows.Perm kvs → rows.Pairwise (fun a b => a.1 ≤ b.1) → Q (.ref q) H'
theorem ok_rows {cc : Addr} (T : Txt K mg cc) (KT : K_Table K mg C) : Met P w K mg base 1 C "rows" (spRows C) [] := by
  have Z := T.Z
  refine met_of KT.cl KT.m_rows sc_Table_rows (fun vs H Q E h => ?_) (fun f cdv A' outer s H vs Q E hr h => ?_)
  · obtain ⟨f, p, d, l, kvs, rfl, _⟩ := h
    rfl
  obtain ⟨f', p, d, l, kvs, rfl, ⟨⟨dx, hp⟩, hd, hz, hl⟩, hnd, htx, q⟩ := h
  have e16 : sizeLine = 16777216 := sizeLine_eq
  refine ⟨_, (pss_one (ps_ret (pe_callB cr_sortedKv rfl Z.sorted (by decide +kernel) (pa_cons (pe_lock (pe_lc (own := [("key", 1), ("text", 2)]) (g := gTup K 2 (gCons (gName 1) (gCons (gName 2) gNil))) (tt := tYes) rfl sc_Table_rows.nd (pi_items (pe_fld (pv 0) rfl)) (blkOk_by (N := N_Table_rows) (sc := defScope s_Table_rows) (by decide +kernel)) (fun _ _ _ _ _ => (pg_tup rfl (pgs_cons (pg_name (i := 1) sc_Table_rows.nd rfl (Or.inl rfl)) (pgs_cons (pg_name (i := 2) sc_Table_rows.nd rfl (Or.inl rfl)) pgs_nil)))) (fun _ _ _ _ _ => pts_nil) (fun _ _ _ _ _ => (pe_tup (pa_cons (pv 1) (pa_cons (pv 2) pa_nil)))))) pa_nil)))), ?_⟩
  refine ⟨d, _, hd, True.intro, fun od => ?_⟩
  have ndp : p ≠ d := fun z => by rw [z, hd] at hp; cases hp
  refine ⟨_, rfl, p, C, dx, _, _, rfl, by rw [upd_ne ndp]; exact hp, KT.cl, KT.n_held, tbF_held _ _ _, d, od, convT kvs, rfl, upd_same, fun D nD => ?_⟩
  have lc : (convT kvs).length = kvs.length := by unfold convT; rw [List.length_map]
  have x0 := ExtO.dict (o := .frz od (.dK (convT kvs))) hd
  have k0 := Kp.dK (o := .frz od (.dK (convT kvs))) hd
  have hd0 : upd H d (.frz od (.dK (convT kvs))) d = some (.frz od (.dK (convT kvs))) := upd_same
  generalize upd H d (.frz od (.dK (convT kvs))) = H0 at x0 k0 hd0 nD ⊢
  have nDd : D ≠ d := fun z => by rw [z, hd0] at nD; cases nD
  have nDH : H D = none := by
    cases e : H D with
    | none => rfl
    | some o =>
      by_cases n : ∃ ks, o = .dT ks
      · obtain ⟨ks, rfl⟩ := n
        obtain ⟨m, e1⟩ := x0.grow D ks e
        rw [e1] at nD
        cases nD
      · rw [x0.keep D o nDd e fun ks z => n ⟨ks, z⟩] at nD
        cases nD
  refine lc_it walk_items (fun i H' => ∃ acc, H' d = some (.frz od (.dK (convT kvs))) ∧ Ext H0 H' ∧ Kp H0 H' ∧ H' D = some (.lst acc) ∧ KvL H' acc (kvs.take i)) ⟨[], by rw [upd_ne nDd.symm]; exact hd0, Ext.new nD, Kp.new nD, upd_same, KvL.nil⟩ (fun i H' _ ⟨_, h, _⟩ => h) ?_ ?_
  · rintro i x H1 H2 hi ⟨acc, h1, x1, k1, hD, hk⟩ ⟨t, kx, vx, rfl, nt, rfl, e1, e2⟩
    rw [lc] at hi
    obtain ⟨e, he⟩ : ∃ e, kvs[i]? = some e := ⟨kvs[i], List.getElem?_eq_getElem hi⟩
    have hc : (convT kvs)[i]? = some ((Sum.inl e.1 : Key), V.str e.2) := by unfold convT; rw [List.getElem?_map, he]; rfl
    have e1' : (convT kvs)[i]?.map (fun kv => kV kv.1) = some kx := e1
    have e2' : (convT kvs)[i]?.map Prod.snd = some vx := e2
    rw [hc] at e1' e2'
    have ek : V.int e.1 = kx := Option.some.inj e1'
    have ev : V.str e.2 = vx := Option.some.inj e2'
    subst ek ev
    have hex : txtOk e.2 = true := htx e (List.mem_of_getElem? he)
    have u1 := Ext.new (o := .tup [.int e.1, .str e.2]) nt
    have j1 := Kp.new (o := .tup [.int e.1, .str e.2]) nt
    refine ⟨t, _, rfl, SqT.of upd_same, rfl, _, _, rfl, _, _, rfl, rfl, rfl, _, rfl, _, rfl, by show 2 ≤ sizeLine; decide, fun q2 nq2 => ?_⟩
    have u2 := u1.trans (Ext.new (o := .tup [.int e.1, .str e.2]) nq2)
    have j2 := j1.trans (Kp.new (o := .tup [.int e.1, .str e.2]) nq2)
    have hD2 := u2.lst hD
    have hd2 := u2.frz h1
    have hal := hk.len
    rw [List.length_take] at hal
    have j3 := j2.trans (Kp.lst (o := .lst (acc ++ [.ref q2])) hD2)
    refine ⟨acc, hD2, by omega, acc ++ [.ref q2], by rw [upd_ne nDd.symm]; exact hd2, (x1.trans u2).mut nD, k1.trans j3, upd_same, ?_⟩
    have et : kvs.take (i + 1) = kvs.take i ++ [e] := by rw [List.take_succ, he]; rfl
    rw [et]
    exact (hk.gr j3.gr).snoc ((Kp.lst hD2) _ _ (by exact upd_same) True.intro) hex
  rintro H1 ⟨acc, h1, x1, k1, hD, hk⟩
  rw [lc, List.take_length] at hk
  refine ⟨h1, ?_⟩
  have hD3 : upd H1 d (.dK (convT kvs)) D = some (.lst acc) := by rw [upd_ne nDd]; exact hD
  have x3 : Ext H (upd H1 d (.dK (convT kvs))) := by
    refine ⟨fun a o ha n => ?_, fun a ks ha => ?_⟩
    · by_cases e : a = d
      · subst e
        rw [hd] at ha
        cases ha
        exact upd_same
      · rw [upd_ne e]
        exact x1.keep a o (x0.keep a o e ha n) n
    · have e : a ≠ d := fun z => by rw [z, hd] at ha; cases ha
      obtain ⟨m1, e1⟩ := x0.grow a ks ha
      obtain ⟨m2, e2⟩ := x1.grow a _ e1
      exact ⟨m1 ++ m2, by rw [upd_ne e, e2, List.append_assoc]⟩
  have k3 : Kp H (upd H1 d (.dK (convT kvs))) := fun a o ha st => by
    by_cases e : a = d
    · subst e
      rw [hd] at ha
      cases ha
      exact st.elim
    · rw [upd_ne e]
      exact k1 a o (k0 a o ha st) st
  have hk3 : KvL (upd H1 d (.dK (convT kvs))) acc kvs := by
    refine ⟨hk.len, fun j v e a b => ?_⟩
    obtain ⟨q', g1, g2, g3⟩ := hk.at_ j v e a b
    refine ⟨q', g1, ?_, g3⟩
    rw [upd_ne]
    · exact g2
    · rintro rfl
      rw [h1] at g2
      cases g2
  have nD3 := nDH
  generalize upd H1 d (.dK (convT kvs)) = H3 at hD3 x3 k3 hk3 ⊢
  have hal := hk3.len
  have mem : ∀ x ∈ acc, ∃ t e, x = .ref t ∧ H3 t = some (.tup [.int e.1, .str e.2]) ∧ e ∈ kvs ∧ kOf H3 x = e.1 ∧ fOf H3 x = e.2 := fun x hx => by
    obtain ⟨j, hj⟩ := List.getElem?_of_mem hx
    have hjl := (List.getElem?_eq_some_iff.mp hj).1
    have he : kvs[j]? = some (kvs[j]'(by omega)) := List.getElem?_eq_getElem _
    obtain ⟨t, rfl, ht, _⟩ := hk3.at_ j x _ hj he
    exact ⟨t, _, rfl, ht, List.mem_of_getElem? he, (kOf_at ht).1, (kOf_at ht).2⟩
  have mapk : acc.map (fun x => (kOf H3 x, fOf H3 x)) = kvs := by
    apply List.ext_getElem?
    intro j
    rw [List.getElem?_map]
    cases hj : acc[j]? with
    | none =>
      have := List.getElem?_eq_none_iff.mp hj
      rw [List.getElem?_eq_none (by omega)]
      rfl
    | some x =>
      have hjl := (List.getElem?_eq_some_iff.mp hj).1
      have he : kvs[j]? = some (kvs[j]'(by omega)) := List.getElem?_eq_getElem _
      obtain ⟨t, rfl, ht, _⟩ := hk3.at_ j x _ hj he
      rw [he]
      show some (kOf H3 (.ref t), fOf H3 (.ref t)) = _
      rw [(kOf_at ht).1, (kOf_at ht).2]
  refine ⟨D, acc, kOf H3, fOf H3, rfl, SqL.of hD3, fun x hx => ?_, fun x hx y hy e => ?_, fun ys p2 perm pw np => ?_⟩
  · obtain ⟨t, e, h1, h2, _, h4, h5⟩ := mem x hx
    exact ⟨t, h1, by rw [h4, h5]; exact h2⟩
  · obtain ⟨t, e1, _, _, h3, h4, h5⟩ := mem x hx
    obtain ⟨t', e2, _, _, g3, g4, g5⟩ := mem y hy
    rw [h4, g4] at e
    have := nodup_key hnd h3 g3 e
    rw [h5, g5, this]
  · have u := Ext.new (o := .lst ys) np
    refine q p2 ys (ys.map fun x => (kOf H3 x, fOf H3 x)) _ (x3.trans u) (k3.trans (Kp.new np)) (x3.free np) upd_same ⟨by rw [List.length_map], fun j v e a b => ?_⟩ ?_ ?_
    · rw [List.getElem?_map, a] at b
      obtain ⟨t, e', h1, h2, h3, h4, h5⟩ := mem v (perm.mem_iff.mp (List.mem_of_getElem? a))
      have eb := Option.some.inj b
      subst eb
      refine ⟨t, h1, u.tup ?_, ?_⟩
      · show H3 t = some (.tup [.int (kOf H3 v), .str (fOf H3 v)])
        rw [h4, h5]
        exact h2
      · show txtOk (fOf H3 v) = true
        rw [h5]
        exact htx _ h3
    · have := perm.map fun x => (kOf H3 x, fOf H3 x)
      rwa [mapk] at this
    · exact List.pairwise_map.mpr pw
end

section
variable {P : Program} {w : World} {K : PySem.W.Frag} {mg : Str → Option Value} {base : Heap} {Fam : Sys → Prop} {C : Addr}
structure TbOk (l : Nat) (kvs : List (Int × Str)) : Prop where
  nd : (kvs.map (·.1)).Nodup
  rg : ∀ e ∈ kvs, 0 ≤ e.1 ∧ e.1 < 2 ^ l
  tx : ∀ e ∈ kvs, txtOk e.2 = true
theorem rows_ok {l : Nat} {kvs rows : List (Int × Str)} (h : TbOk l kvs) (p : rows.Perm kvs) : RowsOk l rows := by
  have nd : (rows.map (·.1)).Nodup := (p.map (·.1)).nodup_iff.mpr h.nd
  have rg : ∀ e ∈ rows, 0 ≤ e.1 ∧ e.1 < 2 ^ l := fun e he => h.rg e (p.mem_iff.mp he)
  refine ⟨fun e he => (rg e he).1, ?_⟩
  have pw : rows.Pairwise fun a b => a.1 ≠ b.1 := List.pairwise_map.mp nd
  refine List.Pairwise.imp_of_mem (fun {a b} ha hb hab => ?_) pw
  rw [Int.emod_eq_of_lt (rg a ha).1 (rg a ha).2, Int.emod_eq_of_lt (rg b hb).1 (rg b hb).2]
  exact hab
def spTInit (C : Addr) (Fam : Sys → Prop) : Sp := fun vs H Q _ => ∃ (S : Sys) (p dx : Addr) (l : Nat) (r : Nat), Fam S ∧ vs = [.ref p, .ref S.f, .int (l : Int)] ∧ H p = some (.ins C dx []) ∧ l ≤ 1000 ∧ S.ok H r ∧ ∀ H' d, ExtO p H H' → Kp H H' → H d = none → S.ok H' r → TbAt C S.f H' p d l [] → Q .non H'
theorem tinit_body (A : SlA P w K mg base Fam) (KT : K_Table K mg C) : ∀ (f : Addr) (cdv : Value) (A' : Around) (outer : List Env) (s : Shared) (H : Hp) (vs : List V) (Q : VK) (E : XK), Room 0 (A'.deeper (envOfC "Table.__init__" (defScope s_Table___init__) s.heap.objs.size f cdv)) → spTInit C Fam vs H Q E →
      ∃ t, PSs (cxOf L2.CX0 P w K mg base N_Table___init__ "Table.__init__" (defScope s_Table___init__) f cdv A' outer s H E).nox (defBody s_Table___init__) t ∧ t { nx := fun _ H' => Q .non H', rt := Q } (start N_Table___init__ vs) H := by
  intro f cdv A' outer s H vs Q E hr h
  obtain ⟨S, p, dx, l, r, hF, rfl, hp, hl, hok, q⟩ := h
  have G := A.good hF
  refine ⟨_, (pss_cons (ps_fld (pv 0) (pv 1) rfl)
  (pss_cons (ps_fld (pv 0) (pv 2) rfl)
  (pss_one (ps_fld (pv 0) pe_dnewK rfl)))), ?_⟩
  refine ⟨_, rfl, _, rfl, p, C, dx, _, rfl, hp, KT.cl, KT.n_seal, by show 0 < 1000; decide, ?_⟩
  have x1 := ExtO.put (o := .ins C dx (putF "seal" (.ref S.f) [])) hp
  have k1 := Kp.ins (o := .ins C dx (putF "seal" (.ref S.f) [])) hp
  have h1 : upd H p (.ins C dx (putF "seal" (.ref S.f) [])) p = some (.ins C dx (putF "seal" (.ref S.f) [])) := upd_same
  have n1 : ∀ d, upd H p (.ins C dx (putF "seal" (.ref S.f) [])) d = none → H d = none := fun d h => by
    by_cases e : d = p
    · rw [e, upd_same] at h; cases h
    · rwa [upd_ne e] at h
  generalize upd H p (.ins C dx (putF "seal" (.ref S.f) [])) = H1 at x1 k1 h1 n1 ⊢
  refine ⟨_, rfl, _, rfl, p, C, dx, _, rfl, h1, KT.cl, KT.n_depth, by show 1 < 1000; decide, ?_⟩
  have x2 := x1.trans (ExtO.put (o := .ins C dx (putF "depth" (.int (l : Int)) (putF "seal" (.ref S.f) []))) h1)
  have k2 := k1.trans (Kp.ins (o := .ins C dx (putF "depth" (.int (l : Int)) (putF "seal" (.ref S.f) []))) h1)
  have h2 : upd H1 p (.ins C dx (putF "depth" (.int (l : Int)) (putF "seal" (.ref S.f) []))) p = some (.ins C dx (putF "depth" (.int (l : Int)) (putF "seal" (.ref S.f) []))) := upd_same
  have n2 : ∀ d, upd H1 p (.ins C dx (putF "depth" (.int (l : Int)) (putF "seal" (.ref S.f) []))) d = none → H d = none := fun d h => by
    by_cases e : d = p
    · rw [e, upd_same] at h; cases h
    · rw [upd_ne e] at h; exact n1 d h
  generalize upd H1 p (.ins C dx (putF "depth" (.int (l : Int)) (putF "seal" (.ref S.f) []))) = H2 at x2 k2 h2 n2 ⊢
  refine fun d nd => ?_
  have npd : p ≠ d := ne_of_none h2 nd
  have x3 := x2.trans (Ext.new (o := .dK []) nd).o
  have k3 := k2.trans (Kp.new (o := .dK []) nd)
  have h3 : upd H2 d (.dK []) p = some (.ins C dx (putF "depth" (.int (l : Int)) (putF "seal" (.ref S.f) []))) := by rw [upd_ne npd]; exact h2
  refine ⟨_, rfl, p, C, dx, _, rfl, h3, KT.cl, KT.n_held, by show 2 < 1000; decide, ?_⟩
  refine q _ d (x3.trans (ExtO.put h3)) (k3.trans (Kp.ins h3)) (n2 d nd) (G.keep (k3.trans (Kp.ins h3)) hok) ⟨⟨dx, by rw [upd_same, tbF_mk]⟩, by rw [upd_ne npd.symm]; exact upd_same, by decide, hl⟩
theorem ok_tinit (A : SlA P w K mg base Fam) (KT : K_Table K mg C) : Mak P w K mg base 1 "Table" C (spTInit C Fam) [] :=
  mak_ofD 3 1 KT.mgC KT.made (by simp) rfl (fun T kV doc pm an cdv ct us its hu hi => match us, its, hu, hi with | [_, _, _], [_], _, _ => ⟨_, rfl, rfl⟩) sc_Table___init__ (fun vs H Q E h => by obtain ⟨S, p, dx, l, r, _, rfl, _⟩ := h; rfl) (tinit_body A KT)
theorem ok_tinit8 (A : SlA P w K mg base Fam) (KT : K_Table K mg C) : Mak P w K mg base 1 "Table" C (spTInit C Fam) [.int 8] :=
  mak_ofD 2 0 KT.mgC KT.made (by simp) rfl (fun T kV doc pm an cdv ct us its hu hi => match us, its, hu, hi with | [_, _], [_], _, _ => ⟨_, rfl, rfl⟩) sc_Table___init__ (fun vs H Q E h => by obtain ⟨S, p, dx, l, r, _, rfl, _⟩ := h; rfl) (tinit_body A KT)
end

/-! ### rows of a key and a text, by rising keys: one and the same for the same pairs -/
theorem kv_uniq : ∀ {a b : List (Int × Str)}, a.Perm b → a.Pairwise (fun x y => x.1 < y.1) → b.Pairwise (fun x y => x.1 < y.1) → a = b
  | [], b, p, _, _ => (List.nil_perm.mp p).symm
  | x :: a, [], p, _, _ => absurd (List.perm_nil.mp p) (List.cons_ne_nil _ _)
  | x :: a, y :: b, p, ha, hb => by
    have e : x = y := by
      rcases List.mem_cons.mp (p.mem_iff.mp (List.mem_cons_self ..)) with h | h
      · exact h
      · rcases List.mem_cons.mp (p.mem_iff.mpr (List.mem_cons_self ..)) with g | g
        · exact g.symm
        · have h1 := (List.pairwise_cons.mp hb).1 x h
          have h2 := (List.pairwise_cons.mp ha).1 y g
          omega
    subst e
    rw [kv_uniq (List.Perm.cons_inv p) (List.pairwise_cons.mp ha).2 (List.pairwise_cons.mp hb).2]
theorem kv_strict {a : List (Int × Str)} (hn : (a.map (·.1)).Nodup) (h : a.Pairwise fun x y => x.1 ≤ y.1) : a.Pairwise fun x y => x.1 < y.1 := by
  have pw : a.Pairwise fun x y => x.1 ≠ y.1 := List.pairwise_map.mp hn
  refine (h.and pw).imp fun {x y} h => ?_
  have h1 := h.1
  have h2 := h.2
  omega
theorem kv_same {a b kvs : List (Int × Str)} (hn : (kvs.map (·.1)).Nodup) (pa : a.Perm kvs) (pb : b.Perm kvs) (ha : a.Pairwise fun x y => x.1 ≤ y.1) (hb : b.Pairwise fun x y => x.1 ≤ y.1) : a = b :=
  kv_uniq (pa.trans pb.symm) (kv_strict ((pa.map (·.1)).nodup_iff.mpr hn) ha) (kv_strict ((pb.map (·.1)).nodup_iff.mpr hn) hb)
/-! ### what the deeds do to the pairs -/
theorem tbok_put {l : Nat} {kvs : List (Int × Str)} {k : Int} {x : Str} (h : TbOk l kvs) (h0 : 0 ≤ k) (h1 : k < 2 ^ l) (hx : txtOk x = true) : TbOk l (putI kvs k x) := by
  unfold putI
  by_cases c : (kvs.any fun e => decide (e.1 = k)) = true
  · rw [if_pos c]
    have em : (kvs.map fun e => if e.1 = k then (e.1, x) else e).map (·.1) = kvs.map (·.1) := by
      rw [List.map_map]
      refine List.map_congr_left fun e _ => ?_
      show (if e.1 = k then (e.1, x) else e).1 = e.1
      by_cases q : e.1 = k
      · rw [if_pos q]
      · rw [if_neg q]
    refine ⟨by rw [em]; exact h.nd, fun e he => ?_, fun e he => ?_⟩
    · obtain ⟨e', he', rfl⟩ := List.mem_map.mp he
      by_cases q : e'.1 = k
      · rw [if_pos q]
        exact h.rg e' he'
      · rw [if_neg q]
        exact h.rg e' he'
    · obtain ⟨e', he', rfl⟩ := List.mem_map.mp he
      by_cases q : e'.1 = k
      · rw [if_pos q]
        exact hx
      · rw [if_neg q]
        exact h.tx e' he'
  · rw [if_neg c]
    refine ⟨?_, fun e he => ?_, fun e he => ?_⟩
    · rw [List.map_append, List.nodup_append]
      refine ⟨h.nd, List.pairwise_singleton _ _, fun a ha b hb => ?_⟩
      have hb' : b = k := List.mem_singleton.mp hb
      subst hb'
      obtain ⟨e, he, rfl⟩ := List.mem_map.mp ha
      exact fun q => c (List.any_eq_true.mpr ⟨e, he, decide_eq_true q⟩)
    · rcases List.mem_append.mp he with he | he
      · exact h.rg e he
      · rw [List.mem_singleton.mp he]
        exact ⟨h0, h1⟩
    · rcases List.mem_append.mp he with he | he
      · exact h.tx e he
      · rw [List.mem_singleton.mp he]
        exact hx
theorem tbok_pop {l : Nat} {kvs : List (Int × Str)} {k : Int} (h : TbOk l kvs) : TbOk l (popI kvs k) := by
  unfold popI
  exact ⟨h.nd.sublist (List.Sublist.map _ List.filter_sublist), fun e he => h.rg e (List.mem_filter.mp he).1, fun e he => h.tx e (List.mem_filter.mp he).1⟩
theorem put_length (kvs : List (Int × Str)) (k : Int) (x : Str) : (putI kvs k x).length ≤ kvs.length + 1 := by
  unfold putI
  split
  · rw [List.length_map]; omega
  · rw [List.length_append]; exact Nat.le_refl _
theorem pop_length (kvs : List (Int × Str)) (k : Int) : (popI kvs k).length ≤ kvs.length := by
  unfold popI
  exact List.length_filter_le _ _

theorem kp_same {H H' : Hp} (h : Same H H') : Kp H H' := fun a o e _ => h a o e
theorem TbAt.ext {C f : Addr} {l : Nat} {H H' : Hp} {p d : Addr} {kvs : List (Int × Str)} (h : TbAt C f H p d l kvs) (x : Ext H H') : TbAt C f H' p d l kvs := by
  obtain ⟨⟨dx, a⟩, b, c⟩ := h
  exact ⟨⟨dx, x.ins a⟩, x.dK b, c⟩
theorem costP_le {l n : Nat} (hl : l ≤ 16) (hn : n ≤ 63) : costP l n ≤ 2079 := by
  unfold costP
  split
  · omega
  · have h := Nat.mul_le_mul hn (show 2 * l + 1 ≤ 33 by omega)
    omega

/-! ### rows by their keys -/
theorem getI_of : ∀ {kvs : List (Int × Str)} {e : Int × Str}, (kvs.map (·.1)).Nodup → e ∈ kvs → getI kvs e.1 = some e.2
  | [], _, _, h => nomatch h
  | x :: kvs, e, hn, h => by
    rw [List.map_cons, List.nodup_cons] at hn
    unfold getI
    rw [List.find?_cons]
    rcases List.mem_cons.mp h with rfl | h
    · rw [decide_eq_true rfl]
      rfl
    · have ne : ¬ x.1 = e.1 := fun z => hn.1 (by rw [z]; exact List.mem_map_of_mem h)
      rw [decide_eq_false ne]
      exact getI_of hn.2 h
/-- the pairs by the row of their keys -/
theorem keys_rows {kvs : List (Int × Str)} {ks : List Int} (hn : (kvs.map (·.1)).Nodup) (pm : ks.Perm (kvs.map (·.1))) : (ks.map fun x => (x, (getI kvs x).getD "")).Perm kvs := by
  have h := pm.map fun x => (x, (getI kvs x).getD "")
  refine h.trans (List.Perm.of_eq ?_)
  rw [List.map_map]
  refine (List.map_congr_left fun e he => ?_).trans (List.map_id _)
  show (e.1, (getI kvs e.1).getD "") = e
  rw [getI_of hn he]
  rfl
theorem getI_mem : ∀ {kvs : List (Int × Str)} {x : Int}, x ∈ kvs.map (·.1) → ∃ t, getI kvs x = some t ∧ (x, t) ∈ kvs := by
  intro kvs x h
  unfold getI
  cases hf : kvs.find? fun e => decide (e.1 = x) with
  | none =>
    obtain ⟨e, he, rfl⟩ := List.mem_map.mp h
    exact absurd (List.find?_eq_none.mp hf e he) (by simp)
  | some e =>
    have h1 := List.mem_of_find?_eq_some hf
    have h2 : e.1 = x := by have := List.find?_some hf; simpa using this
    subst h2
    exact ⟨e.2, rfl, h1⟩

/-! ### the way of a key -/
def wayT : Nat → List (Int × Str) → Int → List Tm × List (Int × Str)
  | 0, rows, _ => ([], rows)
  | l + 1, rows, k => if rows.length ≤ 1 then ([], rows) else
    (partT l (rows.filter (bitK l (1 - k / 2 ^ l % 2))) :: (wayT l (rows.filter (bitK l (k / 2 ^ l % 2))) k).1, (wayT l (rows.filter (bitK l (k / 2 ^ l % 2))) k).2)
theorem wayT_few {l : Nat} {rows : List (Int × Str)} {k : Int} (h : rows.length ≤ 1) : wayT l rows k = ([], rows) := by
  cases l with
  | zero => rfl
  | succ l => exact if_pos h
theorem wayT_more {l : Nat} {rows : List (Int × Str)} {k : Int} (h : 2 ≤ rows.length) : wayT (l + 1) rows k =
    (partT l (rows.filter (bitK l (1 - k / 2 ^ l % 2))) :: (wayT l (rows.filter (bitK l (k / 2 ^ l % 2))) k).1, (wayT l (rows.filter (bitK l (k / 2 ^ l % 2))) k).2) := if_neg (by omega)
theorem bit01 (k : Int) (l : Nat) : k / 2 ^ l % 2 = 0 ∨ k / 2 ^ l % 2 = 1 := by
  have h1 := Int.emod_nonneg (k / 2 ^ l) (show (2 : Int) ≠ 0 by decide)
  have h2 := Int.emod_lt_of_pos (k / 2 ^ l) (show (0 : Int) < 2 by decide)
  omega
theorem wayT_len : ∀ (l : Nat) (rows : List (Int × Str)) (k : Int), (wayT l rows k).1.length ≤ l
  | 0, _, _ => Nat.le_refl _
  | l + 1, rows, k => by
    by_cases h : rows.length ≤ 1
    · rw [wayT_few h]
      exact Nat.zero_le _
    · rw [wayT_more (by omega)]
      have := wayT_len l (rows.filter (bitK l (k / 2 ^ l % 2))) k
      show _ + 1 ≤ _
      omega
theorem wayT_dep : ∀ (l : Nat) (rows : List (Int × Str)) (k : Int), ∀ t ∈ (wayT l rows k).1, t.dep ≤ l + 1
  | 0, _, _ => fun t h => nomatch h
  | l + 1, rows, k => by
    by_cases h : rows.length ≤ 1
    · rw [wayT_few h]
      exact fun t h => nomatch h
    · rw [wayT_more (by omega)]
      intro t ht
      rcases List.mem_cons.mp ht with rfl | ht
      · exact Nat.le_succ_of_le (partT_dep l _)
      · exact Nat.le_succ_of_le (wayT_dep l _ k t ht)
theorem wayT_end : ∀ (l : Nat) (rows : List (Int × Str)) (k : Int), RowsOk l rows → (wayT l rows k).2.length ≤ 1 ∧ ∀ e ∈ (wayT l rows k).2, e ∈ rows
  | 0, rows, k, h => ⟨h.zero, fun e he => he⟩
  | l + 1, rows, k, h => by
    by_cases c : rows.length ≤ 1
    · rw [wayT_few c]
      exact ⟨c, fun e he => he⟩
    · rw [wayT_more (by omega)]
      obtain ⟨a, b⟩ := wayT_end l (rows.filter (bitK l (k / 2 ^ l % 2))) k h.part
      exact ⟨a, fun e he => (List.mem_filter.mp (b e he)).1⟩
theorem costP_way {l n a b : Nat} (h : a + b = n) (hn : 2 ≤ n) : costP l a + costP l b ≤ costP (l + 1) n := by
  have := costP_split (l := l) h hn
  omega

section
variable {P : Program} {w : World} {K : PySem.W.Frag} {mg : Str → Option Value} {base : Heap} {Fam : Sys → Prop} {C : Addr}
def EndV (H : Hp) (e : V) (rows : List (Int × Str)) : Prop := (rows = [] ∧ e = .non) ∨ ∃ (x : Int × Str) (qe : Addr), rows = [x] ∧ e = .ref qe ∧ H qe = some (.tup [.int x.1, .str x.2]) ∧ txtOk x.2 = true
structure WayV (S : Sys) (H H' : Hp) (v : V) (w : List Tm × List (Int × Str)) : Prop where
  ex : ∃ (q o : Addr) (e : V) (ys : List V), v = .ref q ∧ H' q = some (.tup [.ref o, e]) ∧ H o = none ∧ H q = none ∧ H' o = some (.lst ys) ∧ DenL S H' ys w.1 ∧ EndV H' e w.2
def spWay (mg : Str → Option Value) (C : Addr) (Fam : Sys → Prop) : Sp := fun vs H Q E => ∃ (S : Sys) (p d : Addr) (l : Nat) (kvs : List (Int × Str)) (k : Int) (r : Nat), Fam S ∧ vs = [.ref p, .int k] ∧ TbAt C S.f H p d l kvs ∧ TbOk l kvs ∧ l ≤ 20 ∧ S.ok H (r + costP l kvs.length) ∧
  (0 ≤ k ∧ k < 2 ^ l → ∀ v rows H', Ext H H' → S.ok H' r → rows.Perm kvs → rows.Pairwise (fun a b => a.1 ≤ b.1) → WayV S H H' v (wayT l rows k) → Q v H') ∧ (¬ (0 ≤ k ∧ k < 2 ^ l) → ∀ D, mg "NoPlace" = some (.ref D) → E (.ref D) none H)
theorem ok_wayN {cc : Addr} (T : Txt K mg cc) (A : SlA P w K mg base Fam) (KT : K_Table K mg C) : MetN P w K mg base 25 C "way" (spWay mg C Fam) := by
  have Z := T.Z
  have M_asked := ok_askedN (P := P) (w := w) (base := base) T KT
  have M_rows := ok_rows (P := P) (w := w) (base := base) T KT
  have C_parted := ok_parted (P := P) (w := w) (base := base) T
  have C_part_top := ok_part T A (ok_none_seal T A) (ok_parted T) 21
  refine metN_of KT.cl KT.m_way sc_Table_way (fun vs H Q E h => ?_) (fun f cdv A' outer s H vs Q E hr h => ?_)
  · obtain ⟨S, p, d, l, kvs, k, r, _, rfl, _⟩ := h
    rfl
  obtain ⟨S, p, d, l, kvs, k, r, hF, rfl, ht, hk, hl, hok, q1, q2⟩ := h
  have hu := hu_of hr
  have G := A.good hF
  have e16 : sizeLine = 16777216 := sizeLine_eq
  obtain ⟨⟨dx, hp⟩, hd, hz, hl'⟩ := id ht
  refine ⟨_, (pss_cons (ps_expr (pe_mtn M_asked (L2N.takes_of rfl rfl rfl rfl) hr (by omega) (pv 0) (pa_cons (pv 1) pa_nil)))
  (pss_cons (ps_set (i := 2) sc_Table_way.nd rfl (Or.inl rfl) (pe_mt0 M_rows hr (by omega) (pv 0)))
  (pss_cons (ps_set (i := 3) sc_Table_way.nd rfl (Or.inl rfl) (pe_fld (pv 0) rfl))
  (pss_cons (ps_set (i := 4) sc_Table_way.nd rfl (Or.inl rfl) (pe_lst pa_nil))
  (pss_cons (ps_while (passes_of rfl) (pt_cmpR op_gt (pe_callB call_len_seq rfl Z.len PySem.boot_len (pa_cons (pv 2) pa_nil)) pe_int (nomark _)) (pss_cons (ps_set (i := 3) sc_Table_way.nd rfl (Or.inl rfl) (pe_op op_sub (pv 3) pe_int))
  (pss_cons (ps_set (i := 5) sc_Table_way.nd rfl (Or.inl rfl) (pe_c C_parted hr (by omega) rfl (pa_cons (pv 2) (pa_cons (pv 3) pa_nil))))
  (pss_cons (ps_set (i := 6) sc_Table_way.nd rfl (Or.inl rfl) (pe_op op_odd (pe_op op_shrN (pv 1) (pv 3)) pe_int))
  (pss_cons (ps_expr (pe_bm PySem.F.plainAttrs_list PySem.F.slot_list_append PySem.F.type_list_append mt_append (pv 4) (pa_cons (pe_c C_part_top hr (by omega) rfl (pa_cons (pe_fld (pv 0) rfl) (pa_cons (pe_ix ix_tup (pv 5) (pe_op op_sub pe_int (pv 6)) (fun _ _ => rfl)) (pa_cons (pv 3) pa_nil)))) pa_nil)))
  (pss_one (ps_set (i := 2) sc_Table_way.nd rfl (Or.inl rfl) (pe_ix ix_tup (pv 5) (pv 6) (fun _ _ => rfl)))))))))
  (pss_cons (ps_if (pt_cmpR op_eq (pe_callB call_len_seq rfl Z.len PySem.boot_len (pa_cons (pv 2) pa_nil)) pe_int (nomark _)) (pss_one (ps_ret (pe_tup (pa_cons (pv 4) (pa_cons pe_non pa_nil))))) pss_nil)
  (pss_one (ps_ret (pe_tup (pa_cons (pv 4) (pa_cons (pe_ix ix_list (pv 2) pe_int (fun _ _ => rfl)) pa_nil))))))))))), ?_⟩
  refine ⟨_, rfl, p, dx, _, rfl, hp, (tbF_no _ _ _).1, _, rfl, S.f, p, dx, d, l, k, rfl, hp, hl', fun hin => ?_, fun hout D hD => q2 hout D hD⟩
  refine ⟨_, rfl, p, dx, _, rfl, hp, (tbF_no _ _ _).2.2.2.2.1, S.f, p, d, l, kvs, rfl, ht, hk.nd, hk.tx, fun qr ys rows H1 x1 k1 nq hqr hrows perm pw => ?_⟩
  refine ⟨_, rfl, p, C, dx, _, _, rfl, x1.ins hp, KT.cl, KT.n_depth, tbF_depth _ _ _, by show 0 ≤ sizeLine; decide, fun o no => ?_⟩
  have hro := rows_ok hk perm
  have hrl := perm.length_eq
  have noH := x1.free no
  have hin0 := hin.1
  obtain ⟨W, hW⟩ : ∃ W, wayT l rows k = W := ⟨_, rfl⟩
  have q3 := fun v H' x ok => q1 hin v rows H' x ok perm pw
  rw [hW] at q3
  have u1 := Ext.new (o := .lst []) no
  refine ⟨fun m σ H' => ∃ (q : Addr) (xs : List V) (rws : List (Int × Str)) (vs : List V) (ts : List Tm) (y5 y6 : Option V), σ = [some (.ref p), some (.int k), some (.ref q), some (.int (m : Int)), some (.ref o), y5, y6] ∧ Ext H H' ∧ H' o = some (.lst vs) ∧ H' q = some (.lst xs) ∧ q ≠ o ∧ KvL H' xs rws ∧ RowsOk m rws ∧ m ≤ 20 ∧ rws.length ≤ 1000 ∧ DenL S H' vs ts ∧ ts.length + m = l ∧ S.ok H' (r + costP m rws.length) ∧ ts ++ (wayT m rws k).1 = W.1 ∧ (wayT m rws k).2 = W.2,
    ⟨l, qr, ys, rows, [], [], none, none, rfl, x1.trans u1, upd_same, u1.lst hqr, (fun z => by rw [z, no] at hqr; cases hqr), hrows.gr u1.gr, hro, hl, by omega, DenL.nil, by show 0 + l = l; omega, by rw [hrl]; exact G.keep (k1.trans (Kp.new no)) hok, by rw [hW]; rfl, by rw [hW]⟩, ?_⟩
  rintro m σ H2 ⟨q, xs, rws, vs, ts, y5, y6, rfl, x2, ho, hq, nqo, hxs, hr2, hm20, hrz, hden, htm, ok2, e1, e2⟩
  have hxl := hxs.len
  refine ⟨_, rfl, q, xs, rfl, .inl (SqL.of hq), _, _, rfl, rfl, _, rfl, ?_⟩
  by_cases c : rws.length ≤ 1
  · rw [decide_eq_false (show ¬ (1 : Int) < (xs.length : Int) by omega)]
    refine iteF ?_
    rw [wayT_few c] at e1 e2
    rw [List.append_nil] at e1
    have e2 : rws = W.2 := e2
    refine ⟨_, rfl, q, xs, rfl, .inl (SqL.of hq), rfl, _, rfl, ite2 (fun c2 => ?_) (fun c2 => ?_)⟩
    · have c2' : (xs.length : Int) = 0 := V.int.inj (of_decide_eq_true c2)
      refine ⟨_, rfl, by show 2 ≤ sizeLine; decide, fun t nt => ?_⟩
      have u := Ext.new (o := .tup [.ref o, .non]) nt
      refine q3 _ _ (x2.trans u) (G.less (G.keep (Kp.new nt) ok2) (by omega)) ⟨t, o, .non, vs, rfl, upd_same, noH, x2.free nt, u.lst ho, by rw [← e1]; exact hden.mono G u.gr, .inl ⟨?_, rfl⟩⟩
      rw [← e2]
      exact List.eq_nil_of_length_eq_zero (by omega)
    · have n0 : xs.length ≠ 0 := fun z => c2 (decide_eq_true (by rw [z] <;> rfl))
      obtain ⟨x, hx⟩ : ∃ x, rws = [x] := List.length_eq_one_iff.mp (by omega)
      obtain ⟨v0, hv0⟩ : ∃ v0, xs[0]? = some v0 := ⟨xs[0]'(by omega), List.getElem?_eq_getElem _⟩
      obtain ⟨qe, rfl, hqe, hqx⟩ := hxs.at_ 0 v0 x hv0 (by rw [hx]; rfl)
      refine ⟨_, rfl, _, rfl, q, xs, 0, _, rfl, rfl, SqL.of hq, atI_nat hv0, by show 2 ≤ sizeLine; decide, fun t nt => ?_⟩
      have u := Ext.new (o := .tup [.ref o, .ref qe]) nt
      exact q3 _ _ (x2.trans u) (G.less (G.keep (Kp.new nt) ok2) (by omega)) ⟨t, o, .ref qe, vs, rfl, upd_same, noH, x2.free nt, u.lst ho, by rw [← e1]; exact hden.mono G u.gr, .inr ⟨x, qe, by rw [← e2]; exact hx, rfl, u.tup hqe, hqx⟩⟩
  rw [decide_eq_true (show (1 : Int) < (xs.length : Int) by omega)]
  refine iteT ?_
  obtain ⟨m, rfl⟩ : ∃ j, m = j + 1 := by
    cases m with
    | zero => have := hr2.zero; omega
    | succ j => exact ⟨j, rfl⟩
  rw [wayT_more (by omega)] at e1 e2
  refine ⟨fun σ' H' => ∃ m', m' < m + 1 ∧ _, fun _ _ h => h, ?_⟩
  refine ⟨_, rfl, _, _, rfl, rfl, ?_⟩
  show gName 3 (V.int (((m + 1 : Nat) : Int) - 1)) _ _ _
  rw [show (((m + 1 : Nat) : Int) - 1) = (m : Int) by omega]
  refine ⟨_, rfl, _, rfl, q, xs, rws, m, rfl, SqL.of hq, hxs, hr2.1, hrz, fun tq p1 p2 as bs H3 x3 k3 n31 n32 htq hp1 hp2 ha hb => ?_⟩
  obtain ⟨n, hn⟩ := Int.eq_ofNat_of_zero_le (Int.ediv_nonneg hin0 (Int.le_of_lt (show (0 : Int) < 2 ^ m from Int.pow_pos (by decide))))
  refine ⟨_, rfl, _, rfl, _, m, rfl, rfl, n, by rw [hn], rfl, ?_⟩
  have hbit : k / 2 ^ m % 2 = ((n % 2 : Nat) : Int) := by rw [hn]; omega
  have hsp := filter_split (rows := rws) m
  have hcw : costP m (rws.filter (bitK m (k / 2 ^ m % 2))).length + costP m (rws.filter (bitK m (1 - k / 2 ^ m % 2))).length ≤ costP (m + 1) rws.length := by
    rcases bit01 k m with h | h
    · rw [h]
      exact costP_way (a := (rws.filter (bitK m 0)).length) (b := (rws.filter (bitK m 1)).length) hsp (by omega)
    · rw [h]
      exact costP_way (a := (rws.filter (bitK m 1)).length) (b := (rws.filter (bitK m 0)).length) (by omega) (by omega)
  -- the part that is gone into, and the other one
  obtain ⟨pb, po, yb, yo, npb, ib, io, hpb, hpo, hyb, hyo⟩ : ∃ (pb po : Addr) (yb yo : List V), H2 pb = none ∧ atI [V.ref p1, V.ref p2] ((n % 2 : Nat) : Int) = some (.ref pb) ∧ atI [V.ref p1, V.ref p2] (1 - ((n % 2 : Nat) : Int)) = some (.ref po) ∧ H3 pb = some (.lst yb) ∧ H3 po = some (.lst yo) ∧
      KvL H3 yb (rws.filter (bitK m (k / 2 ^ m % 2))) ∧ KvL H3 yo (rws.filter (bitK m (1 - k / 2 ^ m % 2))) := by
    rw [hbit]
    rcases Nat.mod_two_eq_zero_or_one n with h | h
    · rw [h]
      exact ⟨p1, p2, as, bs, n31, rfl, rfl, hp1, hp2, ha, hb⟩
    · rw [h]
      exact ⟨p2, p1, bs, as, n32, rfl, rfl, hp2, hp1, hb, ha⟩
  have hp3 := (x2.trans x3).ins hp
  have ho3 := x3.lst ho
  have lb := List.length_filter_le (bitK m (k / 2 ^ m % 2)) rws
  have lo := List.length_filter_le (bitK m (1 - k / 2 ^ m % 2)) rws
  refine ⟨_, rfl, .inl ⟨rfl, _, SqL.of ho3⟩, ?_⟩
  refine ⟨_, rfl, p, C, dx, _, _, rfl, hp3, KT.cl, KT.n_seal, tbF_seal _ _ _, _, rfl, _, rfl, _, _, rfl, rfl, tq, _, _, _, rfl, rfl, SqT.of htq, io, _, rfl, ?_⟩
  refine ⟨S, po, yo, _, m, r + costP m (rws.filter (bitK m (k / 2 ^ m % 2))).length, hF, rfl, SqL.of hpo, hyo, hr2.part, by omega, by omega, G.less (G.keep k3 ok2) (by omega), fun v H4 x4 ok4 d4 => ?_⟩
  have ho4 := x4.lst ho3
  have hvl := hden.len
  refine ⟨o, vs, v, rfl, rfl, ho4, by omega, ?_⟩
  have x5 := (x2.trans x3).trans x4
  have k5 := Kp.lst (o := .lst (vs ++ [v])) ho4
  have npo : pb ≠ o := fun z => by rw [z, ho] at npb; cases npb
  refine ⟨_, rfl, _, rfl, tq, _, _, _, rfl, rfl, SqT.of (by rw [upd_ne (fun z => by rw [← z, x4.tup htq] at ho4; cases ho4)]; exact x4.tup htq), ib, ?_⟩
  refine ⟨m, Nat.lt_succ_self _, pb, yb, _, vs ++ [v], ts ++ [partT m (rws.filter (bitK m (1 - k / 2 ^ m % 2)))], _, _, rfl, x5.mut noH, upd_same, by rw [upd_ne npo]; exact x4.lst hpb, npo, (hyb.gr x4.gr).gr k5.gr, hr2.part, by omega, by omega,
    ((hden.mono G (x3.trans x4).gr).mono G k5.gr).append (DenL.one (G.mono k5.gr d4)), by rw [List.length_append]; show ts.length + 1 + m = l; omega, G.keep k5 ok4, by rw [← e1]; simp, e2⟩
end

/-! ### rows of a key and a text as data -/
theorem kv_dps {K : PySem.W.Frag} {H : Hp} : ∀ {rows : List (Int × Str)} {vs us : List V}, KvL H vs rows → KvL H us rows → ∃ ds, DpAll K H vs ds ∧ DpAll K H us ds ∧ PyData.canLayAll0 ds = true ∧ PyData.depthAll ds ≤ 1
  | [], vs, us, h, h' => by
    obtain rfl : vs = [] := List.length_eq_zero_iff.mp h.len
    obtain rfl : us = [] := List.length_eq_zero_iff.mp h'.len
    exact ⟨[], .nil, .nil, rfl, Nat.zero_le _⟩
  | e :: rows, [], us, h, h' => absurd h.len (by simp)
  | e :: rows, v :: vs, [], h, h' => absurd h'.len (by simp)
  | e :: rows, v :: vs, u :: us, h, h' => by
    obtain ⟨q, rfl, hq, hx⟩ := h.at_ 0 v e rfl rfl
    obtain ⟨q', rfl, hq', _⟩ := h'.at_ 0 u e rfl rfl
    obtain ⟨ds, a1, a2, c, d⟩ := kv_dps (K := K) (rows := rows) (vs := vs) (us := us) ⟨by have := h.len; simpa using this, fun j v' e' p1 p2 => h.at_ (j + 1) v' e' p1 p2⟩ ⟨by have := h'.len; simpa using this, fun j v' e' p1 p2 => h'.at_ (j + 1) v' e' p1 p2⟩
    refine ⟨.tuple [.int e.1, .str e.2] :: ds, .cons (.tup (SqT.of hq) (.cons (.int _) (.cons (.str _) .nil))) a1, .cons (.tup (SqT.of hq') (.cons (.int _) (.cons (.str _) .nil))) a2, ?_, ?_⟩
    · show (PyData.canLay0 (.tuple [.int e.1, .str e.2]) && PyData.canLayAll0 ds) = true
      rw [c, Bool.and_true]
      show (true && (txtOk e.2 && true)) = true
      rw [hx]
      rfl
    · show max (max 0 (max 0 0) + 1) (PyData.depthAll ds) ≤ 1
      omega
theorem kv_eqd {K : PySem.W.Frag} {H : Hp} {a b : Addr} {rows : List (Int × Str)} {vs us : List V} (ha : SqL K H a vs) (hb : SqL K H b us) (h : KvL H vs rows) (h' : KvL H us rows) :
    ∃ d, Dp K H (.ref a) d ∧ Dp K H (.ref b) d ∧ SeqAt.shaped d = true ∧ PyData.eqv d d = true := by
  obtain ⟨ds, a1, a2, c, d⟩ := kv_dps (K := K) h h'
  have c' : (PyData.list ds).canLay0 = true := c
  exact ⟨.list ds, .lst ha a1, .lst hb a2, shaped_of c' (by show PyData.depthAll ds + 1 ≤ 64; omega), eqv_self c'⟩

section
variable {P : Program} {w : World} {K : PySem.W.Frag} {mg : Str → Option Value} {base : Heap} {Fam : Sys → Prop}
def spLawWay (K : PySem.W.Frag) (Fam : Sys → Prop) : Sp := fun vs H Q _ => ∃ (S : Sys) (a : Addr) (xs : List V) (rows : List (Int × Str)) (l : Nat) (k : Int) (r : Nat), Fam S ∧ vs = [.ref S.f, .ref a, .int (l : Int), .int k] ∧ H a = some (.lst xs) ∧ KvL H xs rows ∧ RowsOk l rows ∧ l ≤ 20 ∧ rows.length ≤ 1000 ∧ 0 ≤ k ∧ S.ok H (r + costP l rows.length) ∧
  ∀ v H', Ext H H' → S.ok H' r → WayV S H H' v (wayT l rows k) → Q v H'
theorem bitK_ne (m : Nat) (k : Int) (e : Int × Str) : bitK m (1 - k / 2 ^ m % 2) e = decide (e.1 / 2 ^ m % 2 ≠ k / 2 ^ m % 2) := by
  unfold bitK
  have h1 := bit01 k m
  have h2 := bit01 e.1 m
  rw [decide_eq_decide]
  omega
theorem neI_of {a b : Int} (c : (!decide (V.int a = V.int b)) = true) : a ≠ b := fun z => by
  rw [decide_eq_true (congrArg V.int z)] at c
  cases c
theorem neI_to {a b : Int} (c : a ≠ b) : (!decide (V.int a = V.int b)) = true := by
  rw [decide_eq_false (fun z => c (V.int.inj z))]
  rfl
theorem ok_lawway {cc : Addr} (T : Txt K mg cc) (A : SlA P w K mg base Fam) : Cal P w K mg base 24 "_law_way" (spLawWay K Fam) [] := by
  have Z := T.Z
  have C__law_part := ok_lawpart (P := P) (w := w) (base := base) T A 21
  refine cal_of T.d__law_way sc__law_way (fun vs H Q E h => ?_) (fun f cdv A' outer s H vs Q E hr h => ?_)
  · obtain ⟨S, a, xs, rows, l, k, r, _, rfl, _⟩ := h
    rfl
  obtain ⟨S, a, xs, rows, l, k, r, hF, rfl, hS, hxs, hro, hl, hrz, hk0, hok, q⟩ := h
  have hu := hu_of hr
  have G := A.good hF
  have e16 : sizeLine = 16777216 := sizeLine_eq
  refine ⟨_, (pss_cons (ps_set (i := 4) sc__law_way.nd rfl (Or.inl rfl) (pe_lst pa_nil))
  (pss_cons (ps_set (i := 5) sc__law_way.nd rfl (Or.inl rfl) (pv 2))
  (pss_cons (ps_while PassesOwn.never (pt_cmpR op_gt (pe_callB call_len_seq rfl Z.len PySem.boot_len (pa_cons (pv 1) pa_nil)) pe_int (nomark _)) (pss_cons (ps_set (i := 5) sc__law_way.nd rfl (Or.inl rfl) (pe_op op_sub (pv 5) pe_int))
  (pss_cons (ps_set (i := 6) sc__law_way.nd rfl (Or.inr rfl) (pe_op op_oneShl pe_int (pv 5)))
  (pss_cons (ps_expr (pe_bm PySem.F.plainAttrs_list PySem.F.slot_list_append PySem.F.type_list_append mt_append (pv 4) (pa_cons (pe_c C__law_part hr (by omega) rfl (pa_cons (pv 0) (pa_cons (pe_lc (own := [("_law_row", 7)]) (g := gName 7) (tt := _) rfl sc__law_way.nd (pi_list (pv 1)) (blkOk_by (N := N__law_way) (sc := defScope s__law_way) (by decide +kernel)) (fun _ _ _ _ _ => (pg_name (i := 7) sc__law_way.nd rfl (Or.inl rfl))) (fun _ _ _ _ _ => (pts_one (pt_cmpR op_ne (pe_op op_mod (pe_op op_fdiv (pe_ix (r := rIxT K) ix_tup (pv 7) pe_int (fun _ _ => rfl)) (pv 6)) pe_int) (pe_op op_mod (pe_op op_fdiv (pv 3) (pv 6)) pe_int) (nomark _)))) (fun _ _ _ _ _ => (pv 7))) (pa_cons (pv 5) pa_nil)))) pa_nil)))
  (pss_one (ps_setLc (i := 1) (own := [("_law_row", 7)]) (g := gName 7) (tt := _) rfl sc__law_way.nd rfl rfl (sw_true rfl rfl rfl (by decide +kernel)) (pi_list (pv 1)) (blkOk_by (N := N__law_way) (sc := defScope s__law_way) (by decide +kernel)) (fun _ _ _ _ _ => (pg_name (i := 7) sc__law_way.nd rfl (Or.inl rfl))) (fun _ _ _ _ _ => (pts_one (pt_cmpR op_eq (pe_op op_mod (pe_op op_fdiv (pe_ix (r := rIxT K) ix_tup (pv 7) pe_int (fun _ _ => rfl)) (pv 6)) pe_int) (pe_op op_mod (pe_op op_fdiv (pv 3) (pv 6)) pe_int) (nomark _)))) (fun _ _ _ _ _ => (pv 7))))))))
  (pss_cons (ps_if (pt_cmpR (op_eqD hr.units) (pv 1) (pe_lst pa_nil) (nomark _)) (pss_one (ps_ret (pe_tup (pa_cons (pv 4) (pa_cons pe_non pa_nil))))) pss_nil)
  (pss_one (ps_ret (pe_tup (pa_cons (pv 4) (pa_cons (pe_ix ix_list (pv 1) pe_int (fun _ _ => rfl)) pa_nil))))))))), ?_⟩
  refine ⟨by show 0 ≤ sizeLine; decide, fun o no => ?_⟩
  refine ⟨_, rfl, ?_⟩
  obtain ⟨W, hW⟩ : ∃ W, wayT l rows k = W := ⟨_, rfl⟩
  rw [hW] at q
  have u1 := Ext.new (o := .lst []) no
  refine ⟨fun m σ H' => ∃ (b : Addr) (xs : List V) (rws : List (Int × Str)) (vs : List V) (ts : List Tm) (y6 y7 : Option V), σ = [some (.ref S.f), some (.ref b), some (.int (l : Int)), some (.int k), some (.ref o), some (.int (m : Int)), y6, y7] ∧ Ext H H' ∧ H' o = some (.lst vs) ∧ H' b = some (.lst xs) ∧ b ≠ o ∧ KvL H' xs rws ∧ RowsOk m rws ∧ m ≤ 20 ∧ rws.length ≤ 1000 ∧ DenL S H' vs ts ∧ ts.length + m = l ∧ S.ok H' (r + costP m rws.length) ∧ ts ++ (wayT m rws k).1 = W.1 ∧ (wayT m rws k).2 = W.2,
    ⟨l, a, xs, rows, [], [], none, none, rfl, u1, upd_same, u1.lst hS, (fun z => by rw [z, no] at hS; cases hS), hxs.gr u1.gr, hro, hl, hrz, DenL.nil, by show 0 + l = l; omega, G.keep (Kp.new no) hok, by rw [hW]; rfl, by rw [hW]⟩, ?_⟩
  rintro m σ H2 ⟨b, xs, rws, vs, ts, y6, y7, rfl, x2, ho, hq, nbo, hxs, hr2, hm20, hrz, hden, htm, ok2, e1, e2⟩
  have hxl := hxs.len
  refine ⟨_, rfl, b, xs, rfl, .inl (SqL.of hq), _, _, rfl, rfl, _, rfl, ?_⟩
  by_cases c : rws.length ≤ 1
  · rw [decide_eq_false (show ¬ (1 : Int) < (xs.length : Int) by omega)]
    refine iteF ?_
    rw [wayT_few c] at e1 e2
    rw [List.append_nil] at e1
    have e2 : rws = W.2 := e2
    refine ⟨_, rfl, by show 0 ≤ sizeLine; decide, fun e ne => ?_⟩
    have ue := Ext.new (o := .lst []) ne
    have ke := Kp.new (o := .lst []) ne
    obtain ⟨ds, dp, _, cl, dpt⟩ := kv_dps (K := K) (hxs.gr ue.gr) (hxs.gr ue.gr)
    have sh : SeqAt.shaped (.list ds) = true := shaped_of (d := .list ds) cl (by show PyData.depthAll ds + 1 ≤ 64; omega)
    refine ⟨.list ds, .list [], .lst (SqL.of (ue.lst hq)) dp, .lst (SqL.of upd_same) .nil, sh, by decide +kernel, _, rfl, ?_⟩
    have hq3 := ue.lst hq
    have ho3 := ue.lst ho
    have hxs3 := hxs.gr ue.gr
    have x3 := x2.trans ue
    have ok3 := G.less (G.keep ke ok2) (show r ≤ r + costP m rws.length by omega)
    have hden3 := hden.mono G ue.gr
    generalize upd H2 e (.lst []) = H3 at hq3 ho3 hxs3 x3 ok3 hden3 dp ⊢
    match rws, hxl, e2, hxs3, dp with
    | [], hxl, e2, hxs3, dp =>
      have hx0 : xs = [] := List.eq_nil_of_length_eq_zero hxl
      subst hx0
      cases dp
      rw [eqv_self (d := .list []) rfl]
      refine iteT ⟨_, rfl, by show 2 ≤ sizeLine; decide, fun t nt => ?_⟩
      have u := Ext.new (o := .tup [.ref o, .non]) nt
      exact q _ _ (x3.trans u) (G.keep (Kp.new nt) ok3) ⟨t, o, .non, vs, rfl, upd_same, no, x3.free nt, u.lst ho3, by rw [← e1]; exact hden3.mono G u.gr, .inl ⟨e2.symm, rfl⟩⟩
    | [x], hxl, e2, hxs3, dp =>
      obtain ⟨v0, rfl⟩ : ∃ v0, xs = [v0] := List.length_eq_one_iff.mp hxl
      obtain ⟨qe, rfl, hqe, hqx⟩ := hxs3.at_ 0 v0 x rfl rfl
      cases dp with
      | cons dp1 dp2 =>
        rw [PyData.eqv, PyData.eqvAll]
        refine iteF ⟨_, rfl, _, rfl, b, _, 0, _, rfl, rfl, SqL.of hq3, rfl, by show 2 ≤ sizeLine; decide, fun t nt => ?_⟩
        have u := Ext.new (o := .tup [.ref o, .ref qe]) nt
        exact q _ _ (x3.trans u) (G.keep (Kp.new nt) ok3) ⟨t, o, .ref qe, vs, rfl, upd_same, no, x3.free nt, u.lst ho3, by rw [← e1]; exact hden3.mono G u.gr, .inr ⟨x, qe, e2.symm, rfl, u.tup hqe, hqx⟩⟩
    | _ :: _ :: _, hxl, e2, hxs3, dp => exact absurd c (by simp)
  rw [decide_eq_true (show (1 : Int) < (xs.length : Int) by omega)]
  refine iteT ?_
  obtain ⟨m, rfl⟩ : ∃ j, m = j + 1 := by
    cases m with
    | zero => have := hr2.zero; omega
    | succ j => exact ⟨j, rfl⟩
  rw [wayT_more (by omega)] at e1 e2
  refine ⟨fun σ' H' => ∃ m', m' < m + 1 ∧ _, fun _ _ h => h, ?_⟩
  refine ⟨_, rfl, _, _, rfl, rfl, ?_⟩
  show gName 5 (V.int (((m + 1 : Nat) : Int) - 1)) _ _ _
  rw [show (((m + 1 : Nat) : Int) - 1) = (m : Int) by omega]
  refine ⟨_, rfl, m, rfl, rfl, by omega, ?_⟩
  have hM : (0 : Int) < 2 ^ m := Int.pow_pos (by decide)
  have hM2 : (2 : Int) ^ m < 1073741824 := by
    have h1 : 2 ^ m ≤ 2 ^ 20 := Nat.pow_le_pow_right (by decide) (by omega)
    have h2 : ((2 ^ m : Nat) : Int) = 2 ^ m := by rw [Int.natCast_pow]; rfl
    have h3 : (2 : Nat) ^ 20 = 1048576 := rfl
    omega
  have hsp := filter_split (rows := rws) m
  have hcw : costP m (rws.filter (bitK m (k / 2 ^ m % 2))).length + costP m (rws.filter (bitK m (1 - k / 2 ^ m % 2))).length ≤ costP (m + 1) rws.length := by
    rcases bit01 k m with h | h
    · rw [h]
      exact costP_way (a := (rws.filter (bitK m 0)).length) (b := (rws.filter (bitK m 1)).length) hsp (by omega)
    · rw [h]
      exact costP_way (a := (rws.filter (bitK m 1)).length) (b := (rws.filter (bitK m 0)).length) (by omega) (by omega)
  have lb := List.length_filter_le (bitK m (k / 2 ^ m % 2)) rws
  have lo := List.length_filter_le (bitK m (1 - k / 2 ^ m % 2)) rws
  refine ⟨_, rfl, .inl ⟨rfl, _, SqL.of ho⟩, _, rfl, _, rfl, b, rfl, ⟨_, SqL.of hq⟩, fun D nD => ?_⟩
  refine lc_list (K := K) (a := b) (xs := xs) (fun i H' => ∃ ys, Ext H2 H' ∧ Kp H2 H' ∧ H' D = some (.lst ys) ∧ KvL H' ys ((rws.take i).filter (bitK m (1 - k / 2 ^ m % 2)))) ⟨[], Ext.new nD, Kp.new nD, upd_same, KvL.nil⟩ (fun i H' _ ⟨_, x, _⟩ => SqL.of (x.lst hq)) ?_ ?_
  · rintro i y H' hi ⟨ys, x, kk, hD, hy⟩
    have hlt := (List.getElem?_eq_some_iff.mp hi).1
    have hri : rws[i]? = some (rws[i]'(by omega)) := List.getElem?_eq_getElem _
    obtain ⟨qe, rfl, hqe, hqx⟩ := (hxs.gr x.gr).at_ i y _ hi hri
    generalize rws[i]'(by omega) = e at hri hqe hqx
    refine ⟨rfl, _, rfl, qe, _, 0, _, rfl, rfl, SqT.of hqe, rfl, _, rfl, _, _, rfl, rfl, ⟨hM, hM2⟩, _, 2, rfl, rfl, by show (0 : Int) < 2; decide, _, rfl, _, rfl, _, _, rfl, rfl, ⟨hM, hM2⟩, _, 2, rfl, rfl, by show (0 : Int) < 2; decide, rfl, _, rfl, ite2 (fun c => ?_) (fun c => ?_)⟩
    · have hb : bitK m (1 - k / 2 ^ m % 2) e = true := by
        rw [bitK_ne]
        exact decide_eq_true fun z => neI_of c z
      refine ⟨_, rfl, ys, hD, ?_, ys ++ [.ref qe], x.mut nD, kk.trans (Kp.lst hD), upd_same, ?_⟩
      · have := hy.len
        have := List.length_filter_le (bitK m (1 - k / 2 ^ m % 2)) (rws.take i)
        rw [List.length_take] at this
        omega
      · rw [take_filter _ _ hri, hb]
        exact (hy.gr (Kp.lst hD).gr).snoc ((Kp.lst hD) _ _ hqe True.intro) hqx
    · have hb : bitK m (1 - k / 2 ^ m % 2) e = false := by
        rw [bitK_ne]
        exact decide_eq_false fun z => c (neI_to z)
      refine ⟨ys, x, kk, hD, ?_⟩
      rw [take_filter _ _ hri, hb]
      simpa using hy
  rintro H3 ⟨yo, x3, k3, hD3, hyo⟩
  rw [hxl, List.take_length] at hyo
  have ho3 := x3.lst ho
  have nDo : D ≠ o := fun z => by rw [z, ho] at nD; cases nD
  refine ⟨_, rfl, S, D, yo, _, m, r + costP m (rws.filter (bitK m (k / 2 ^ m % 2))).length, hF, rfl, SqL.of hD3, hyo, hr2.part, by omega, by omega, G.less (G.keep k3 ok2) (by omega), fun v H4 x4 ok4 d4 => ?_⟩
  have ho4 := x4.lst ho3
  have hvl := hden.len
  refine ⟨o, vs, v, rfl, rfl, ho4, by omega, ?_⟩
  have x5 := ((x2.trans x3).trans x4).mut no (o := .lst (vs ++ [v]))
  have k5 := Kp.lst (o := .lst (vs ++ [v])) ho4
  have ho5 : upd H4 o (.lst (vs ++ [v])) o = some (.lst (vs ++ [v])) := upd_same
  have hb5 : upd H4 o (.lst (vs ++ [v])) b = some (.lst xs) := by rw [upd_ne nbo]; exact (x3.trans x4).lst hq
  have ok5 := G.keep k5 ok4
  have hden5 := (((hden.mono G (x3.trans x4).gr).mono G k5.gr).append (DenL.one (G.mono k5.gr d4)))
  have hxs5 := (hxs.gr (x3.trans x4).gr).gr k5.gr
  generalize upd H4 o (.lst (vs ++ [v])) = H5 at x5 ho5 hb5 ok5 hden5 hxs5 ⊢
  refine ⟨_, rfl, b, rfl, ⟨_, SqL.of hb5⟩, fun D2 nD2 => ?_⟩
  refine lc_list (K := K) (a := b) (xs := xs) (fun i H' => ∃ ys, Ext H5 H' ∧ Kp H5 H' ∧ H' D2 = some (.lst ys) ∧ KvL H' ys ((rws.take i).filter (bitK m (k / 2 ^ m % 2)))) ⟨[], Ext.new nD2, Kp.new nD2, upd_same, KvL.nil⟩ (fun i H' _ ⟨_, x, _⟩ => SqL.of (x.lst hb5)) ?_ ?_
  · rintro i y H' hi ⟨ys, x, kk, hD, hy⟩
    have hlt := (List.getElem?_eq_some_iff.mp hi).1
    have hri : rws[i]? = some (rws[i]'(by omega)) := List.getElem?_eq_getElem _
    obtain ⟨qe, rfl, hqe, hqx⟩ := (hxs5.gr x.gr).at_ i y _ hi hri
    generalize rws[i]'(by omega) = e at hri hqe hqx
    refine ⟨rfl, _, rfl, qe, _, 0, _, rfl, rfl, SqT.of hqe, rfl, _, rfl, _, _, rfl, rfl, ⟨hM, hM2⟩, _, 2, rfl, rfl, by show (0 : Int) < 2; decide, _, rfl, _, rfl, _, _, rfl, rfl, ⟨hM, hM2⟩, _, 2, rfl, rfl, by show (0 : Int) < 2; decide, rfl, _, rfl, ite2 (fun c => ?_) (fun c => ?_)⟩
    · have c' : e.1 / 2 ^ m % 2 = k / 2 ^ m % 2 := V.int.inj (of_decide_eq_true c)
      have hb : bitK m (k / 2 ^ m % 2) e = true := decide_eq_true c'
      refine ⟨_, rfl, ys, hD, ?_, ys ++ [.ref qe], x.mut nD2, kk.trans (Kp.lst hD), upd_same, ?_⟩
      · have := hy.len
        have := List.length_filter_le (bitK m (k / 2 ^ m % 2)) (rws.take i)
        rw [List.length_take] at this
        omega
      · rw [take_filter _ _ hri, hb]
        exact (hy.gr (Kp.lst hD).gr).snoc ((Kp.lst hD) _ _ hqe True.intro) hqx
    · have hb : bitK m (k / 2 ^ m % 2) e = false := decide_eq_false fun z => c (decide_eq_true (congrArg V.int z))
      refine ⟨ys, x, kk, hD, ?_⟩
      rw [take_filter _ _ hri, hb]
      simpa using hy
  rintro H6 ⟨yb, x6, k6, hD6, hyb⟩
  rw [hxl, List.take_length] at hyb
  have nDo2 : D2 ≠ o := fun z => by rw [z, ho5] at nD2; cases nD2
  exact ⟨m, Nat.lt_succ_self _, D2, yb, _, vs ++ [v], ts ++ [partT m (rws.filter (bitK m (1 - k / 2 ^ m % 2)))], _, _, rfl, x5.trans x6, x6.lst ho5, hD6, nDo2, hyb, hr2.part, by omega, by omega,
    hden5.mono G x6.gr, by rw [List.length_append]; show ts.length + 1 + m = l; omega, G.keep k6 ok5, by rw [← e1]; simp, e2⟩
end

/-! ### figures -/
theorem txt_of_tl {x : Str} (h : ∀ c ∈ TL.tl x, c < 0x110000) : txtOk x = true := by
  show x.cps.all (· < 0x110000) = true
  rw [Array.all_eq_true']
  intro c hc
  exact decide_eq_true (h c (by rw [← Array.mem_toList_iff] at hc; exact hc))
theorem txt_num (n : Nat) : txtOk (Str.ofString (toString ((n : Nat) : Int))) = true := by
  refine txt_of_tl fun c hc => ?_
  rw [TL.tl_num] at hc
  have := TL.numL_digits n c hc
  omega
theorem log_small {z : Int} (h0 : 0 ≤ z) (h : z < 2 ^ 64) : z.natAbs.log2 < 1920 := by
  obtain ⟨n, rfl⟩ := Int.eq_ofNat_of_zero_le h0
  have h1 : n < 2 ^ 64 := by omega
  rw [Int.natAbs_natCast]
  by_cases c : n = 0
  · subst c; decide
  · have := (Nat.log2_lt c).mpr h1
    omega
theorem cut_ints (ks : List Int) (lo hi : Option Int) : ∃ ks' : List Int, cutV (ks.map V.int) lo hi = ks'.map V.int ∧ (∀ k ∈ ks', k ∈ ks) ∧ ks'.length ≤ ks.length := by
  unfold cutV
  rw [List.length_map, ← List.map_drop, ← List.map_take]
  refine ⟨_, rfl, fun k hk => List.mem_of_mem_drop (List.mem_of_mem_take hk), ?_⟩
  rw [List.length_take, List.length_drop]
  omega

theorem getI_put (kvs : List (Int × Str)) (k : Int) (x : Str) : getI (putI kvs k x) k = some x := by
  have h := valV_put (convT kvs) (Sum.inl k) (Sum.inl k) (V.str x)
  rw [if_pos rfl, conv_put, conv_get] at h
  cases e : getI (putI kvs k x) k with
  | none => rw [e] at h; cases h
  | some y => rw [e] at h; cases h; rfl
theorem getI_pop (kvs : List (Int × Str)) (k : Int) : getI (popI kvs k) k = none := by
  unfold getI popI
  rw [List.find?_eq_none.mpr]
  · rfl
  · intro e he
    have := (List.mem_filter.mp he).2
    simpa using this

section
variable {P : Program} {w : World} {K : PySem.W.Frag} {mg : Str → Option Value} {S : Sys}
theorem EndV.gr {H H' : Hp} {e : V} {rows : List (Int × Str)} (h : EndV H e rows) (x : Gr H H') : EndV H' e rows := by
  rcases h with h | ⟨y, qe, h1, h2, h3, h4⟩
  · exact .inl h
  · exact .inr ⟨y, qe, h1, h2, x.keep _ _ h3 True.intro (fun _ z => nomatch z), h4⟩
theorem WayV.ext (G : S.Good K) {H0 H H' : Hp} {v : V} {wt : List Tm × List (Int × Str)} (h : WayV S H0 H v wt) (x : Ext H H') : WayV S H0 H' v wt := by
  obtain ⟨q, o, e, ys, h1, h2, h3, h4, h5, h6, h7⟩ := h.ex
  exact ⟨q, o, e, ys, h1, x.tup h2, h3, h4, x.lst h5, h6.mono G x.gr, h7.gr x.gr⟩
theorem way_dp (G : S.Good K) {H0 H0' H : Hp} {v v' : V} {wt : List Tm × List (Int × Str)} (h : WayV S H0 H v wt) (h' : WayV S H0' H v' wt) (hd : ∀ t ∈ wt.1, t.dep ≤ 50) :
    ∃ d, Dp K H v d ∧ Dp K H v' d ∧ SeqAt.shaped d = true ∧ PyData.eqv d d = true := by
  obtain ⟨q, o, e, ys, rfl, h2, _, _, h5, h6, h7⟩ := h.ex
  obtain ⟨q', o', e', ys', rfl, h2', _, _, h5', h6', h7'⟩ := h'.ex
  obtain ⟨ds, a, b, c, dl⟩ := DenL.same G h6 h6' hd
  obtain ⟨de, f1, f2, f3, f4⟩ : ∃ de, Dp K H e de ∧ Dp K H e' de ∧ de.canLay0 = true ∧ de.depth ≤ 1 := by
    rcases h7 with ⟨g1, rfl⟩ | ⟨y, qe, g1, rfl, g3, g4⟩
    · rcases h7' with ⟨_, rfl⟩ | ⟨y', qe', g1', _⟩
      · exact ⟨.none, .non, .non, rfl, Nat.zero_le _⟩
      · rw [g1] at g1'; cases g1'
    · rcases h7' with ⟨g1', _⟩ | ⟨y', qe', g1', rfl, g3', g4'⟩
      · rw [g1] at g1'; cases g1'
      · rw [g1] at g1'
        cases g1'
        refine ⟨.tuple [.int y.1, .str y.2], .tup (SqT.of g3) (.cons (.int _) (.cons (.str _) .nil)), .tup (SqT.of g3') (.cons (.int _) (.cons (.str _) .nil)), ?_, by show max 0 (max 0 0) + 1 ≤ 1; decide⟩
        show (true && (txtOk y.2 && true)) = true
        rw [g4]
        rfl
  have lay : (PyData.tuple [.list ds, de]).canLay0 = true := by
    show (PyData.canLayAll0 ds && (de.canLay0 && true)) = true
    rw [c, f3]
    rfl
  have dep : (PyData.tuple [.list ds, de]).depth ≤ 64 := by
    show max (PyData.depthAll ds + 1) (max de.depth 0) + 1 ≤ 64
    omega
  exact ⟨.tuple [.list ds, de], .tup (SqT.of h2) (.cons (.lst (SqL.of h5) a) (.cons f1 .nil)), .tup (SqT.of h2') (.cons (.lst (SqL.of h5') b) (.cons f2 .nil)), shaped_of lay dep, eqv_self lay⟩
/-- keys of the depth -/
def InL (l : Nat) (ks : List Int) : Prop := ∀ k ∈ ks, 0 ≤ k ∧ k < 2 ^ l
theorem xor1_in {l : Nat} {k : Int} (h1 : 1 ≤ l) (h : 0 ≤ k ∧ k < 2 ^ l) : 0 ≤ Builtin.bitXor k 1 ∧ Builtin.bitXor k 1 < 2 ^ l := by
  obtain ⟨n, rfl⟩ := Int.eq_ofNat_of_zero_le h.1
  rw [Bits.bitXor_pp h.1 (by decide)]
  refine ⟨Int.natCast_nonneg _, ?_⟩
  have e : ((2 ^ l : Nat) : Int) = 2 ^ l := by rw [Int.natCast_pow]; rfl
  have h2 : n < 2 ^ l := by have := h.2; omega
  have h3 : (1 : Nat) < 2 ^ l := Nat.one_lt_two_pow (by omega)
  have := Nat.xor_lt_two_pow h2 h3
  rw [← e]
  show (((n : Int).toNat ^^^ (1 : Int).toNat : Nat) : Int) < _
  rw [Int.toNat_natCast]
  exact Int.ofNat_lt.mpr this
theorem cut_mem {xs : List V} {lo hi : Option Int} {x : V} (h : x ∈ cutV xs lo hi) : x ∈ xs := by
  unfold cutV at h
  exact List.mem_of_mem_drop (List.mem_of_mem_take h)
end

section
variable {P : Program} {w : World} {K : PySem.W.Frag} {mg : Str → Option Value}
theorem ok_law {fa cc PT : Addr} (T : Txt K mg cc) (hfa : mg "law" = some (.ref fa)) : ∃ fd : FuncData, (∀ (s : Shared) (v : Value), BindsTo s fd ⟨[v], []⟩ [("_law_script", v)]) ∧ ∀ base : Heap, K.In base → base.Ns mainGlobals mg → LamX.TabB base mg cc PT → FnOk P w K mg base L2.CX0 26 fa fd ["_law_script"] (spLaw K PT) := by
  have Z := T.Z
  obtain ⟨CT, KT⟩ := T.k_Table
  refine law_fnT T.d_law hfa sc_law (fun vs H Q E h => ?_) (fun base TB f cdv A' outer s H vs Q E hr h => ?_)
  · obtain ⟨a, ns, rfl, _⟩ := h
    rfl
  obtain ⟨a, ns, rfl, hS, hlen, hPT, q⟩ := h
  have A := sla3 (P := P) (w := w) (base := base) T
  have C__law_seal_by := ok_seal_by (P := P) (w := w) T TB
  have C__law_cell_at := ok_cell_at (P := P) (w := w) (base := base) T
  have C__law_draw := ok_draw (P := P) (w := w) (base := base) T
  have C__law_way := ok_lawway (P := P) (w := w) (base := base) T A
  have C_Table := ok_tinit A KT
  have M_put := ok_put (P := P) (w := w) (base := base) T KT
  have M_way := (ok_wayN T A KT).weak
  have hu := hu_of hr
  have e16 : sizeLine = 16777216 := sizeLine_eq
  refine ⟨_, (pss_cons (ps_set (i := 0) sc_law.nd rfl (Or.inl rfl) (pe_slice sl_list (pv 0) po_none (po_some pe_int)))
  (pss_cons (ps_set (i := 1) sc_law.nd rfl (Or.inl rfl) (pe_c C__law_seal_by hr (by omega) rfl (pa_cons (pv 0) pa_nil)))
  (pss_cons (ps_set (i := 2) sc_law.nd rfl (Or.inl rfl) (pe_op op_add pe_int (pe_op op_mod (pe_c C__law_cell_at hr (by omega) rfl (pa_cons (pv 0) (pa_cons pe_int pa_nil))) pe_int)))
  (pss_cons (ps_set (i := 3) sc_law.nd rfl (Or.inl rfl) (pe_mk C_Table hr (by omega) rfl (pa_cons (pv 1) (pa_cons (pv 2) pa_nil))))
  (pss_cons (ps_set (i := 4) sc_law.nd rfl (Or.inr rfl) pe_dnewK)
  (Evl.pss_cut (ps_set (i := 5) sc_law.nd rfl (Or.inl rfl) (pe_ifExp (pt_cmpR op_eq (pe_op op_mod (pe_op op_fdiv (pe_c C__law_cell_at hr (by omega) rfl (pa_cons (pv 0) (pa_cons pe_int pa_nil))) pe_int) pe_int) pe_int (nomark _)) pe_int pe_int))
  (pss_cons (ps_set (i := 6) sc_law.nd rfl (Or.inl rfl) (pe_lst (pa_cons pe_int (pa_cons (pe_op op_sub (pe_op op_oneShl pe_int (pv 2)) pe_int) pa_nil))))
  (pss_cons (ps_for PassesOwn.never rfl (pi_range1 rfl Z.range (pa_cons (pe_callB call_len_seq rfl Z.len PySem.boot_len (pa_cons (pv 0) pa_nil)) pa_nil)) (pg_name (i := 7) sc_law.nd rfl (Or.inl rfl)) (pss_cons (ps_set (i := 8) sc_law.nd rfl (Or.inl rfl) (pe_op op_add (pe_ix ix_list (pv 0) (pv 7) (fun _ _ => rfl)) (pe_op op_mul pe_int (pv 7))))
  (Evl.pss_cut (ps_set (i := 9) sc_law.nd rfl (Or.inl rfl) (pe_ifExp (pt_cmpR op_gt (pe_c C__law_draw hr (by omega) rfl (pa_cons (pv 8) (pa_cons pe_int (pa_cons pe_int pa_nil)))) pe_int (nomark _)) (pe_c C__law_draw hr (by omega) rfl (pa_cons (pv 8) (pa_cons pe_int (pa_cons (pe_op op_oneShl pe_int (pv 2)) pa_nil)))) (pe_op op_xor (pe_ix ix_list (pv 6) (pe_c C__law_draw hr (by omega) rfl (pa_cons (pv 8) (pa_cons pe_int (pa_cons (pe_callB call_len_seq rfl Z.len PySem.boot_len (pa_cons (pv 6) pa_nil)) pa_nil)))) (fun _ _ => rfl)) pe_int)))
  (Evl.pss_cut (ps_if (PW.pt (pw_and (pt_cmpR op_lt (pe_callB call_lenD rfl Z.len PySem.boot_len (pa_cons (pv 4) pa_nil)) (pv 5) (nomark _)) (pw_and1 (pt_cmpR op_gt (pe_c C__law_draw hr (by omega) rfl (pa_cons (pv 8) (pa_cons pe_int (pa_cons pe_int pa_nil)))) pe_int (nomark _))))) (pss_cons (ps_dput hu (pv 4) (pv 9) (pe_callTy call_str_int rfl Z.str (by decide +kernel) (pa_cons (pe_c C__law_draw hr (by omega) rfl (pa_cons (pv 8) (pa_cons pe_int (pa_cons pe_int pa_nil)))) pa_nil)) rfl)
  (pss_one (ps_expr (pe_mtx M_put takes0 hr (by omega) (pv 3) (pa_cons (pv 9) (pa_cons (pe_dget hu (pv 4) (pv 9) (fun _ _ => rfl)) pa_nil)))))) pss_nil)
  (pss_one (ps_expr (pe_bm PySem.F.plainAttrs_list PySem.F.slot_list_append PySem.F.type_list_append mt_append (pv 6) (pa_cons (pv 9) pa_nil))))))))
  (pss_cons (ps_setLc (i := 10) (own := [("_law_key", 9)]) (g := gName 9) (tt := tYes) rfl sc_law.nd rfl rfl (sw_true rfl rfl rfl (by decide +kernel)) (pi_list (pe_callB (call_sortedDI rfl) rfl Z.sorted (by decide +kernel) (pa_cons (pv 4) pa_nil))) (blkOk_by (N := N_law) (sc := defScope s_law) (by decide +kernel)) (fun _ _ _ _ _ => (pg_name (i := 9) sc_law.nd rfl (Or.inl rfl))) (fun _ _ _ _ _ => pts_nil) (fun _ _ _ _ _ => (pe_tup (pa_cons (pv 9) (pa_cons (pe_dget hu (pv 4) (pv 9) (fun _ _ => rfl)) pa_nil)))))
  (Evl.pss_cut (ps_set (i := 6) sc_law.nd rfl (Or.inl rfl) (pe_ifExp (pt_cmpR op_gt (pv 5) pe_int (nomark _)) (pe_op op_cat (pe_slice sl_list (pv 6) po_none (po_some pe_int)) (pe_slice sl_list (pv 6) (po_some (pe_op op_sub (pe_callB call_len_seq rfl Z.len PySem.boot_len (pa_cons (pv 6) pa_nil)) pe_int)) po_none)) (pv 6)))
  (pss_cons (ps_for PassesOwn.never rfl (pi_list (pe_op op_cat (pv 6) (pe_lc (own := [("_law_key", 9)]) (g := gName 9) (tt := tYes) rfl sc_law.nd (pi_list (pv 6)) (blkOk_by (N := N_law) (sc := defScope s_law) (by decide +kernel)) (fun _ _ _ _ _ => (pg_name (i := 9) sc_law.nd rfl (Or.inl rfl))) (fun _ _ _ _ _ => pts_nil) (fun _ _ _ _ _ => (pe_op op_xor (pv 9) pe_int))))) (pg_name (i := 9) sc_law.nd rfl (Or.inl rfl)) (pss_cons (ps_set (i := 11) sc_law.nd rfl (Or.inl rfl) (pe_mtx M_way takes0 hr (by omega) (pv 3) (pa_cons (pv 9) pa_nil)))
  (pss_cons (ps_if (PW.pt (pw_or (pt_not (pt_val (pe_callB call_isi rfl Z.isinstance (by decide +kernel) (pa_cons (pv 11) (pa_cons (pe_bltn (v := .ty "tuple") rfl Z.tuple (by decide +kernel) rfl) pa_nil))))) (pw_or (pt_cmpR op_ne (pe_callB call_len_seq rfl Z.len PySem.boot_len (pa_cons (pv 11) pa_nil)) pe_int (nomark _)) (pw_or1 (pt_not (pt_val (pe_callB call_isi rfl Z.isinstance (by decide +kernel) (pa_cons (pe_ix ix_tup (pv 11) pe_int (fun _ _ => rfl)) (pa_cons (pe_bltn (v := .ty "list") rfl Z.list (by decide +kernel) rfl) pa_nil))))))))) (pss_one (ps_ret pe_bl)) pss_nil)
  (pss_cons (ps_if (PW.pt (pw_or (pt_cmpR (op_neD hr.units) (pv 11) (pe_c C__law_way hr (by omega) rfl (pa_cons (pv 1) (pa_cons (pv 10) (pa_cons (pv 2) (pa_cons (pv 9) pa_nil))))) (nomark _)) (pw_or1 (pt_cmpR op_gt (pe_callB call_len_seq rfl Z.len PySem.boot_len (pa_cons (pe_ix ix_tup (pv 11) pe_int (fun _ _ => rfl)) pa_nil)) (pv 2) (nomark _))))) (pss_one (ps_ret pe_bl)) pss_nil)
  (pss_cons (ps_expr (pe_bm PySem.F.plainAttrs_list PySem.F.slot_list_append PySem.F.type_list_append mt_append (pe_ix ix_tup (pv 11) pe_int (fun _ _ => rfl)) (pa_cons pe_int pa_nil)))
  (pss_one (ps_if (pt_cmpR (op_neD hr.units) (pe_mtx M_way takes0 hr (by omega) (pv 3) (pa_cons (pv 9) pa_nil)) (pe_c C__law_way hr (by omega) rfl (pa_cons (pv 1) (pa_cons (pv 10) (pa_cons (pv 2) (pa_cons (pv 9) pa_nil))))) (nomark _)) (pss_one (ps_ret pe_bl)) pss_nil)))))))
  (pss_one (ps_ret pe_bl))))))))))))), ?_⟩
  refine ⟨.ref a, rfl, 63, rfl, a, _, rfl, hS, fun c nc => ?_⟩
  rw [take63 hlen]
  refine ⟨_, rfl, c, ns, rfl, SqL.of upd_same, by rw [upd_ne (ne_of_none hPT nc)]; exact hPT, fun S H1 hF x1 ok1 => ?_⟩
  have G := A.good hF
  have hc1 : H1 c = some (.lst (ns.map V.int)) := x1 _ _ upd_same fun _ z => nomatch z
  have ok1' := G.less ok1 (show 16000000 ≤ sizeLine by omega)
  refine ⟨_, rfl, c, ns, 0, rfl, SqL.of hc1, by decide, _, 16, rfl, rfl, by show (0 : Int) < 16; decide, _, _, rfl, rfl, ?_⟩
  obtain ⟨l0, hl0⟩ := Int.eq_ofNat_of_zero_le (Int.emod_nonneg (cell ns 0) (show (16 : Int) ≠ 0 by decide))
  have hl16 := Int.emod_lt_of_pos (cell ns 0) (show (0 : Int) < 16 by decide)
  obtain ⟨l, hl, l1, l2⟩ : ∃ l : Nat, 1 + cell ns 0 % 16 = (l : Int) ∧ 1 ≤ l ∧ l ≤ 16 := ⟨l0 + 1, by omega, by omega, by omega⟩
  show gName 2 (V.int (1 + cell ns 0 % 16)) _ _ _
  rw [hl]
  have h2l : (0 : Int) < 2 ^ l := Int.pow_pos (by decide)
  refine ⟨_, rfl, _, rfl, fun q1 qx nq nqx nex => ?_⟩
  have y1 : Ext H1 (upd (upd H1 qx (.own q1)) q1 (.ins CT qx [])) := (Ext.new nqx).trans (Ext.new (by rw [upd_ne nex.symm]; exact nq))
  have ky1 : Kp H1 (upd (upd H1 qx (.own q1)) q1 (.ins CT qx [])) := (Kp.new nqx).trans (Kp.new (by rw [upd_ne nex.symm]; exact nq))
  refine ⟨S, q1, qx, l, _, hF, rfl, upd_same, by omega, G.keep ky1 ok1', fun H2 d1 xo2 kp2 nd1 ok2 tb1 => ⟨rfl, fun dl ndl => ?_⟩⟩
  have x2 : Ext H1 H2 := xo2.ext y1 nq
  have x3 := x2.trans (Ext.new (o := .dK []) ndl)
  have tb3 := tb1.ext (Ext.new (o := .dK []) ndl)
  have ok3 := G.keep (Kp.new (o := .dK []) ndl) ok2
  have hdl3 : upd H2 dl (.dK []) dl = some (.dK (convT [])) := upd_same
  have nd3 : d1 ≠ dl := fun z => by rw [← z, tb1.held] at ndl; cases ndl
  have hc3 := x3.lst hc1
  generalize upd H2 dl (.dK []) = H3 at x3 tb3 ok3 hdl3 hc3 ⊢
  refine ⟨fun σ H' => ∃ mz : Int, σ = [some (.ref c), some (.ref S.f), some (.int (l : Int)), some (.ref q1), some (.ref dl), some (.int mz), none, none, none, none, none, none] ∧ H3 = H', ?_, ?_⟩
  · refine ⟨_, rfl, c, ns, 0, rfl, SqL.of hc3, by decide, _, _, rfl, rfl, ⟨by decide, by decide⟩, _, 5, rfl, rfl, by show (0 : Int) < 5; decide, rfl, _, rfl, ite2 (fun _ => ?_) (fun _ => ?_)⟩
    · exact ⟨60, rfl, rfl⟩
    · exact ⟨12, rfl, rfl⟩
  rintro σ H' ⟨mz, rfl, rfl⟩
  -- the keys to be asked
  refine ⟨_, rfl, l, rfl, rfl, by omega, _, _, rfl, rfl, by show 2 ≤ sizeLine; decide, fun kq nkq => ?_⟩
  have x4 := x3.trans (Ext.new (o := .lst [.int 0, .int (2 ^ l - 1)]) nkq)
  have tb4 := tb3.ext (Ext.new (o := .lst [.int 0, .int (2 ^ l - 1)]) nkq)
  have ok4 := G.keep (Kp.new (o := .lst [.int 0, .int (2 ^ l - 1)]) nkq) ok3
  have hdl4 := (Ext.new (o := .lst [.int 0, .int (2 ^ l - 1)]) nkq).dK hdl3
  have hc4 := (Ext.new (o := .lst [.int 0, .int (2 ^ l - 1)]) nkq).lst hc3
  have hkq4 : upd H3 kq (.lst [.int 0, .int (2 ^ l - 1)]) kq = some (.lst ([0, 2 ^ l - 1].map V.int)) := upd_same
  have nkc : kq ≠ c := fun z => by rw [z, hc3] at nkq; cases nkq
  generalize upd H3 kq (.lst [.int 0, .int (2 ^ l - 1)]) = H4 at x4 tb4 ok4 hdl4 hc4 hkq4 ⊢
  refine ⟨_, rfl, c, _, rfl, .inl (SqL.of hc4), (ns.length : Int), by rw [List.length_map], by omega, by omega, ?_⟩
  rw [Int.toNat_natCast]
  refine for_range (fun i σ H' => ∃ (y7 y8 y9 : Option V) (ks : List Int) (kvs : List (Int × Str)), σ = [some (.ref c), some (.ref S.f), some (.int (l : Int)), some (.ref q1), some (.ref dl), some (.int mz), some (.ref kq), y7, y8, y9, none, none] ∧ TbAt CT S.f H' q1 d1 l kvs ∧ H' dl = some (.dK (convT kvs)) ∧ TbOk l kvs ∧ kvs.length ≤ i ∧ H' c = some (.lst (ns.map V.int)) ∧ H' kq = some (.lst (ks.map V.int)) ∧ InL l ks ∧ ks.length = i + 2 ∧ S.ok H' 16000000)
    ⟨none, none, none, [0, 2 ^ l - 1], [], rfl, tb4, hdl4, ⟨List.nodup_nil, (fun e h => nomatch h), (fun e h => nomatch h)⟩, Nat.le_refl _, hc4, hkq4, ?_, rfl, ok4⟩ ?_ ?_
  · intro k hk
    rcases List.mem_cons.mp hk with rfl | hk
    · exact ⟨Int.le_refl _, h2l⟩
    · rw [List.mem_singleton.mp hk]
      omega
  · rintro i σ H' hi ⟨y7, y8, y9, ks, kvs, rfl, tb, hdl, hk, hkl, hc, hkq, hin, hksl, ok⟩
    rw [Int.zero_add]
    obtain ⟨z0, hz0⟩ : ∃ z0 : Int, (ns.map V.int)[i]? = some (.int z0) := ⟨_, by rw [List.getElem?_map, List.getElem?_eq_getElem hi]; rfl⟩
    refine ⟨_, rfl, _, rfl, c, _, _, _, rfl, rfl, SqL.of hc, atI_nat hz0, _, rfl, _, _, rfl, rfl, .inl ⟨by decide, by decide⟩, _, _, rfl, rfl, ?_⟩
    refine ⟨fun σ' H'' => ∃ (cz k : Int), 0 ≤ k ∧ k < 2 ^ l ∧ σ' = [some (.ref c), some (.ref S.f), some (.int (l : Int)), some (.ref q1), some (.ref dl), some (.int mz), some (.ref kq), some (.int (i : Int)), some (.int cz), some (.int k), none, none] ∧ Same H' H'', ?_, ?_⟩
    · refine ⟨_, rfl, _, _, _, rfl, by decide, by decide, by decide, fun z1 H2 z10 z11 s2 => ⟨_, _, rfl, rfl, _, rfl, ite2 (fun _ => ?_) (fun _ => ?_)⟩⟩
      · refine ⟨_, rfl, _, rfl, l, rfl, rfl, by omega, _, _, _, rfl, by decide, by decide, h2l, fun z2 H4 z20 z21 s4 => ?_⟩
        exact ⟨_, z2, z20, z21, rfl, s2.trans s4⟩
      · refine ⟨_, rfl, _, rfl, _, rfl, kq, _, rfl, .inl (SqL.of (s2 _ _ hkq)), _, _, _, rfl, by decide, by decide, (by rw [List.length_map]; omega), fun z2 H4 z20 z21 s4 => ?_⟩
        rw [List.length_map] at z21
        obtain ⟨j, rfl⟩ := Int.eq_ofNat_of_zero_le z20
        have hj : j < ks.length := by omega
        have hkj : (ks.map V.int)[j]? = some (.int ks[j]) := by rw [List.getElem?_map, List.getElem?_eq_getElem hj]; rfl
        refine ⟨kq, _, _, _, rfl, rfl, SqL.of (s4 _ _ (s2 _ _ hkq)), atI_nat hkj, _, _, rfl, rfl, ?_⟩
        obtain ⟨b1, b2⟩ := xor1_in l1 (hin _ (List.getElem_mem hj))
        exact ⟨_, _, b1, b2, rfl, s2.trans s4⟩
    rintro σ' H2 ⟨cz, k, hk0, hk1, rfl, s2⟩
    have x2 := Ext.of_same s2
    have tb2 := tb.ext x2
    have hdl2 := x2.dK hdl
    have hc2 := x2.lst hc
    have hkq2 := x2.lst hkq
    have ok2 := G.keep (kp_same s2) ok
    refine ⟨fun σ' H'' => ∃ kvs', σ' = [some (.ref c), some (.ref S.f), some (.int (l : Int)), some (.ref q1), some (.ref dl), some (.int mz), some (.ref kq), some (.int (i : Int)), some (.int cz), some (.int k), none, none] ∧ TbAt CT S.f H'' q1 d1 l kvs' ∧ H'' dl = some (.dK (convT kvs')) ∧ TbOk l kvs' ∧ kvs'.length ≤ i + 1 ∧ H'' c = some (.lst (ns.map V.int)) ∧ H'' kq = some (.lst (ks.map V.int)) ∧ S.ok H'' 16000000, ?_, ?_⟩
    · obtain ⟨dx, hq1⟩ := tb2.at_
      have sz := tb2.small
      refine ⟨_, rfl, dl, _, rfl, hdl2, _, rfl, _, _, rfl, rfl, _, rfl, ite2 (fun _ => ?_) (fun _ => ?_)⟩
      · refine ⟨_, rfl, _, _, _, rfl, by decide, by decide, by decide, fun z3 H4 _ _ s4 => ⟨_, _, rfl, rfl, _, rfl, ite2 (fun _ => ?_) (fun _ => ?_)⟩⟩
        · refine ⟨_, rfl, _, _, _, rfl, by decide, by decide, by decide, fun z4 H5 z40 z41 s5 => ?_⟩
          obtain ⟨n4, rfl⟩ := Int.eq_ofNat_of_zero_le z40
          have tx := txt_num n4
          refine ⟨_, rfl, log_small z40 (by omega), ?_⟩
          generalize Str.ofString (toString ((n4 : Nat) : Int)) = x at tx
          have x5 := Ext.of_same (s4.trans s5)
          have hdl5 := x5.dK hdl2
          have tb5 := tb2.ext x5
          obtain ⟨⟨dy, hqy⟩, hd5, _⟩ := id tb5
          refine ⟨_, rfl, _, rfl, dl, _, rfl, DPut.k (k := .inl k) hdl5 (by unfold convT; rw [List.length_map, sizeLine_eq]; omega), ?_⟩
          rw [conv_put]
          have hdl6 : upd H5 dl (.dK (convT (putI kvs k x))) dl = some (.dK (convT (putI kvs k x))) := upd_same
          have tb6 : TbAt CT S.f (upd H5 dl (.dK (convT (putI kvs k x)))) q1 d1 l kvs := ⟨⟨dy, by rw [upd_ne (fun z => by rw [z, hdl5] at hqy; cases hqy)]; exact hqy⟩, by rw [upd_ne nd3]; exact hd5, sz⟩
          obtain ⟨⟨dy6, hqy6⟩, hd6, _⟩ := id tb6
          refine ⟨_, rfl, q1, dy6, _, rfl, hqy6, (tbF_no _ _ _).2.1, _, rfl, _, rfl, _, rfl, dl, .str x, rfl, by
            have g := DGet.k (k := .inl k) hdl6
            rw [conv_get, getI_put] at g
            exact g, S.f, q1, d1, l, kvs, k, x, rfl, tb6, fun _ => ?_, fun h => absurd ⟨hk0, hk1⟩ h⟩
          have pl := put_length kvs k x
          have ne : ∀ {a : Addr} {xs : List V}, H5 a = some (.lst xs) → a ≠ dl ∧ a ≠ d1 := fun {a xs} e => ⟨(fun z => by rw [z, hdl5] at e; cases e), (fun z => by rw [z, hd5] at e; cases e)⟩
          have hc5 := x5.lst hc2
          have hkq5 := x5.lst hkq2
          refine ⟨putI kvs k x, rfl, ⟨⟨dy6, by rw [upd_ne (fun z => by rw [z, hd6] at hqy6; cases hqy6)]; exact hqy6⟩, upd_same, by omega, sz.2⟩, by rw [upd_ne nd3.symm]; exact hdl6, tbok_put hk hk0 hk1 tx, by omega, ?_, ?_, G.keep ((Kp.dK hdl5).trans (Kp.dK hd6)) (G.keep (kp_same (s4.trans s5)) ok2)⟩
          · rw [upd_ne (ne hc5).2, upd_ne (ne hc5).1]
            exact hc5
          · rw [upd_ne (ne hkq5).2, upd_ne (ne hkq5).1]
            exact hkq5
        · have x4 := Ext.of_same s4
          exact ⟨kvs, rfl, tb2.ext x4, x4.dK hdl2, hk, by omega, x4.lst hc2, x4.lst hkq2, G.keep (kp_same s4) ok2⟩
      · exact iteF ⟨kvs, rfl, tb2, hdl2, hk, by omega, hc2, hkq2, ok2⟩
    rintro σ' H3 ⟨kvs', rfl, tb3, hdl3, hk3, hkl3, hc3, hkq3, ok3⟩
    obtain ⟨⟨dx, hq1⟩, hd3, hz3⟩ := id tb3
    refine ⟨_, rfl, .inl ⟨rfl, _, SqL.of hkq3⟩, _, rfl, kq, _, .int k, rfl, rfl, hkq3, by rw [List.length_map, e16]; omega, ?_⟩
    refine ⟨_, _, _, ks ++ [k], kvs', rfl, ⟨⟨dx, by rw [upd_ne (fun z => by rw [z, hkq3] at hq1; cases hq1)]; exact hq1⟩, by rw [upd_ne (fun z => by rw [z, hkq3] at hd3; cases hd3)]; exact hd3, hz3⟩, by rw [upd_ne (fun z => by rw [z, hkq3] at hdl3; cases hdl3)]; exact hdl3, hk3, hkl3, by rw [upd_ne nkc.symm]; exact hc3, by rw [upd_same, List.map_append]; rfl, ?_, by rw [List.length_append, hksl]; rfl, G.keep (Kp.lst hkq3) ok3⟩
    intro k' hk'
    rcases List.mem_append.mp hk' with h | h
    · exact hin k' h
    · rw [List.mem_singleton.mp h]
      exact ⟨hk0, hk1⟩
  · rintro σ H2 ⟨y7, y8, y9, ks, kvs, rfl, tb, hdl, hk, hkl, hc, hkq, hin, hksl, ok⟩
    have hd2 := tb.held
    -- the rows
    have ek : (convT kvs).map (·.1) = (kvs.map (·.1)).map Sum.inl := by unfold convT; rw [List.map_map, List.map_map]; rfl
    refine ⟨_, rfl, dl, convT kvs, kvs.map (·.1), rfl, .inl hdl, ek, by rw [List.length_map]; omega, fun js a pm pw na => ?_⟩
    have x1 := Ext.new (o := .lst (js.map V.int)) na
    have k1 := Kp.new (o := .lst (js.map V.int)) na
    have ha : upd H2 a (.lst (js.map V.int)) a = some (.lst (js.map V.int)) := upd_same
    have hdl1 := x1.dK hdl
    generalize upd H2 a (.lst (js.map V.int)) = H3 at x1 k1 ha hdl1 ⊢
    refine ⟨a, rfl, ⟨_, SqL.of ha⟩, fun D nD => ?_⟩
    have hrow : ∀ x ∈ js, ∃ t, getI kvs x = some t ∧ (x, t) ∈ kvs := fun x hx => getI_mem (pm.mem_iff.mp hx)
    refine lc_list (K := K) (a := a) (xs := js.map V.int) (fun i H' => ∃ ys, Ext H3 H' ∧ Kp H3 H' ∧ H' D = some (.lst ys) ∧ KvL H' ys ((js.take i).map fun x => (x, (getI kvs x).getD ""))) ⟨[], Ext.new nD, Kp.new nD, upd_same, KvL.nil⟩ (fun i H' _ ⟨_, x, _⟩ => SqL.of (x.lst ha)) ?_ ?_
    · rintro i y H' hi ⟨ys, x, kk, hD, hy⟩
      rw [List.getElem?_map] at hi
      obtain ⟨z, hz, rfl⟩ := Option.map_eq_some_iff.mp hi
      obtain ⟨t, ht1, ht2⟩ := hrow z (List.mem_of_getElem? hz)
      refine ⟨rfl, _, rfl, ?_⟩
      have hg : DGet H' dl (V.int z) (some (V.str t)) := by
        have g := DGet.k (k := .inl z) (x.dK hdl1)
        rw [conv_get, ht1] at g
        exact g
      refine ⟨_, rfl, _, rfl, dl, .str t, rfl, hg, by show 2 ≤ sizeLine; decide, fun q2 nq2 => ?_⟩
      have u1 := Ext.new (o := .tup [.int z, .str t]) nq2
      have j1 := Kp.new (o := .tup [.int z, .str t]) nq2
      have nD2 : q2 ≠ D := fun e => by rw [e, hD] at nq2; cases nq2
      have hD2 := u1.lst hD
      refine ⟨ys, hD2, ?_, ys ++ [.ref q2], (x.trans u1).mut nD, (kk.trans j1).trans (Kp.lst hD2), upd_same, ?_⟩
      · have e1 := hy.len
        rw [List.length_map, List.length_take] at e1
        have e2 := pm.length_eq
        rw [List.length_map] at e2
        omega
      · rw [List.take_succ, hz, List.map_append]
        have ex : (getI kvs z).getD "" = t := by rw [ht1]; rfl
        show KvL _ _ (_ ++ [(z, (getI kvs z).getD "")])
        rw [ex]
        exact (hy.gr (j1.trans (Kp.lst hD2)).gr).snoc (by rw [upd_ne nD2]; exact upd_same) (hk.tx _ ht2)
    rintro H4 ⟨ys, x4, k4, hD, hy⟩
    rw [List.length_map, List.take_length] at hy
    have pr := keys_rows hk.nd pm
    have sr : (js.map fun x => (x, (getI kvs x).getD "")).Pairwise fun a b => a.1 ≤ b.1 := List.pairwise_map.mpr pw
    generalize (js.map fun x => (x, (getI kvs x).getD "")) = rows at hy pr sr
    have x5 := x1.trans x4
    have ok5 := G.keep (k1.trans k4) ok
    have tb5 := tb.ext x5
    have hkq5 := x5.lst hkq
    clear hdl1 ha x1 x4 k1 k4
    refine ⟨fun σ' H' => ∃ (kr : Addr) (kl : List Int), σ' = [some (.ref c), some (.ref S.f), some (.int (l : Int)), some (.ref q1), some (.ref dl), some (.int mz), some (.ref kr), y7, y8, y9, some (.ref D), none] ∧ Ext H4 H' ∧ Kp H4 H' ∧ H' kr = some (.lst (kl.map V.int)) ∧ InL l kl ∧ kl.length ≤ 130, ?_, ?_⟩
    · refine ⟨_, rfl, _, _, rfl, rfl, _, rfl, ite2 (fun _ => ?_) (fun _ => ?_)⟩
      · refine ⟨_, rfl, 8, rfl, kq, _, rfl, SqL.of hkq5, fun p5 np5 => ?_⟩
        obtain ⟨ka, ea, ma, la⟩ := cut_ints ks none (some 8)
        rw [ea]
        have u5 := Ext.new (o := .lst (ka.map V.int)) np5
        have j5 := Kp.new (o := .lst (ka.map V.int)) np5
        have hp5 : upd H4 p5 (.lst (ka.map V.int)) p5 = some (.lst (ka.map V.int)) := upd_same
        generalize upd H4 p5 (.lst (ka.map V.int)) = H5 at u5 j5 hp5 ⊢
        have hkq6 := u5.lst hkq5
        refine ⟨_, rfl, _, rfl, kq, _, rfl, .inl (SqL.of hkq6), _, _, rfl, rfl, _, rfl, kq, _, rfl, SqL.of hkq6, fun p6 np6 => ?_⟩
        obtain ⟨kb, eb, mb, lb⟩ := cut_ints ks (some (((ks.map V.int).length : Int) - 8)) none
        rw [eb]
        have u6 := Ext.new (o := .lst (kb.map V.int)) np6
        have j6 := Kp.new (o := .lst (kb.map V.int)) np6
        have hp6 : upd H5 p6 (.lst (kb.map V.int)) p6 = some (.lst (kb.map V.int)) := upd_same
        generalize upd H5 p6 (.lst (kb.map V.int)) = H6 at u6 j6 hp6 ⊢
        refine ⟨p5, p6, _, _, rfl, rfl, u6.lst hp5, hp6, by rw [List.length_map, List.length_map]; omega, fun p7 np7 => ?_⟩
        rw [← List.map_append]
        refine ⟨p7, ka ++ kb, rfl, (u5.trans u6).trans (Ext.new np7), (j5.trans j6).trans (Kp.new np7), upd_same, fun k hk => ?_, by rw [List.length_append]; omega⟩
        rcases List.mem_append.mp hk with h | h
        · exact hin k (ma k h)
        · exact hin k (mb k h)
      · exact ⟨_, rfl, kq, ks, rfl, Ext.refl _, Kp.refl _, hkq5, hin, by omega⟩
    rintro σ' H5 ⟨kr, kl, rfl, x6, k6, hkr, hkin, hkll⟩
    refine ⟨_, rfl, _, rfl, kr, rfl, ⟨_, SqL.of hkr⟩, fun D3 nD3 => ?_⟩
    refine lc_list (K := K) (a := kr) (xs := kl.map V.int) (fun i H' => Ext H5 H' ∧ Kp H5 H' ∧ H' D3 = some (.lst (((kl.take i).map fun k => Builtin.bitXor k 1).map V.int))) ⟨Ext.new nD3, Kp.new nD3, upd_same⟩ (fun i H' _ ⟨x, _⟩ => SqL.of (x.lst hkr)) ?_ ?_
    · rintro i y H' hi ⟨x, kk, hD3⟩
      rw [List.getElem?_map] at hi
      obtain ⟨z, hz, rfl⟩ := Option.map_eq_some_iff.mp hi
      refine ⟨rfl, _, rfl, _, _, rfl, rfl, _, hD3, ?_, x.mut nD3, kk.trans (Kp.lst hD3), ?_⟩
      · rw [List.length_map, List.length_map, List.length_take]
        omega
      · rw [upd_same, List.take_succ, hz, List.map_append, List.map_append]
        rfl
    rintro H6 ⟨x7, k7, hD3⟩
    rw [List.length_map, List.take_length] at hD3
    refine ⟨kr, D3, _, _, rfl, rfl, x7.lst hkr, hD3, by rw [List.length_map, List.length_map, List.length_map]; omega, fun K4 nK4 => ?_⟩
    rw [← List.map_append]
    have hkin2 : InL l (kl ++ kl.map fun k => Builtin.bitXor k 1) := fun k hk => by
      rcases List.mem_append.mp hk with h | h
      · exact hkin k h
      · obtain ⟨k', hk', rfl⟩ := List.mem_map.mp h
        exact xor1_in l1 (hkin k' hk')
    have hkl2 : (kl ++ kl.map fun k => Builtin.bitXor k 1).length ≤ 260 := by
      rw [List.length_append, List.length_map]
      omega
    generalize (kl ++ kl.map fun k => Builtin.bitXor k 1) = al at hkin2 hkl2 ⊢
    have u8 := Ext.new (o := .lst (al.map V.int)) nK4
    have x8 : Ext H4 (upd H6 K4 (.lst (al.map V.int))) := (x6.trans x7).trans u8
    have ok8 := G.keep ((k6.trans k7).trans (Kp.new (o := .lst (al.map V.int)) nK4)) ok5
    have hK4 : upd H6 K4 (.lst (al.map V.int)) K4 = some (.lst (al.map V.int)) := upd_same
    generalize upd H6 K4 (.lst (al.map V.int)) = H7 at x8 ok8 hK4 ⊢
    have tb7 := tb5.ext x8
    have hD7 := x8.lst hD
    have hy7 := hy.gr x8.gr
    have hrl := pr.length_eq
    have hro := rows_ok hk pr
    have hcp := costP_le l2 (show rows.length ≤ 63 by omega)
    have hcp2 := costP_le l2 (show kvs.length ≤ 63 by omega)
    refine ⟨K4, rfl, ⟨_, SqL.of hK4⟩, for_list (K := K) (a := K4) (xs := al.map V.int) (fun i σ H' => ∃ (y9 y11 : Option V), σ = [some (.ref c), some (.ref S.f), some (.int (l : Int)), some (.ref q1), some (.ref dl), some (.int mz), some (.ref kr), y7, y8, y9, some (.ref D), y11] ∧ Ext H7 H' ∧ S.ok H' (16000000 - i * 9000)) ⟨_, _, rfl, Ext.refl _, ok8⟩ (fun i σ H' _ ⟨_, _, _, x, _⟩ => SqL.of (x.lst hK4)) ?_ ?_⟩
    · rintro i x σ H' hx ⟨y9', y11, rfl, xi, oki⟩
      rw [List.getElem?_map] at hx
      obtain ⟨k, hki, rfl⟩ := Option.map_eq_some_iff.mp hx
      have hil := (List.getElem?_eq_some_iff.mp hki).1
      have hkr01 := hkin2 k (List.mem_of_getElem? hki)
      have tbi := tb7.ext xi
      obtain ⟨⟨dx, hq1⟩, _⟩ := id tbi
      have hdep := fun t ht => Nat.le_trans (wayT_dep l rows k t ht) (show l + 1 ≤ 50 by omega)
      have wl := wayT_len l rows k
      refine ⟨_, rfl, q1, dx, _, rfl, hq1, (tbF_no _ _ _).2.2.2.2.2.2.1, _, rfl, S, q1, d1, l, kvs, k, 16000000 - i * 9000 - 2100, hF, rfl, tbi, hk, by omega, G.less oki (by omega), fun _ v rows3 H9 x9 ok9 pm9 pw9 wv => ?_, fun h => absurd hkr01 h⟩
      obtain rfl : rows3 = rows := kv_same hk.nd pm9 pr pw9 sr
      obtain ⟨tq, o, e, ys3, rfl, htq, no, ntq, ho, hden, hend⟩ := id wv.ex
      have kt : PySem.W.kitOne K (.type "tuple") (.type "tuple") = some true := by kernel_rfl
      have kli : PySem.W.kitOne K (.type "list") (.type "list") = some true := by kernel_rfl
      refine ⟨_, rfl, .ref tq, .ty "tuple", _, _, true, rfl, .ty _, .base (.tup htq), kt, _, rfl, iteF ?_⟩
      refine ⟨_, rfl, tq, _, rfl, .inr (SqT.of htq), rfl, _, rfl, ite2 (fun c => absurd rfl (neI_of c)) (fun _ => ?_)⟩
      refine ⟨_, rfl, tq, _, 0, _, rfl, rfl, SqT.of htq, rfl, .ref o, .ty "list", _, _, true, rfl, .ty _, .base (.lst ho), kli, _, rfl, iteF ?_⟩
      have xi9 := xi.trans x9
      refine ⟨_, rfl, _, rfl, _, rfl, _, rfl, _, rfl, S, D, ys, rows3, l, k, 16000000 - i * 9000 - 4200, hF, rfl, xi9.lst hD7, hy7.gr xi9.gr, hro, by omega, by omega, hkr01.1, G.less ok9 (by omega), fun v2 H10 x10 ok10 wv2 => ?_⟩
      obtain ⟨dd, dp1, dp2, sh, eq⟩ := way_dp (K := K) G (wv.ext G x10) wv2 hdep
      refine ⟨dd, dd, dp1, dp2, sh, sh, _, rfl, ?_⟩
      rw [eq]
      have ho10 := x10.lst ho
      have htq10 := x10.tup htq
      have hyl := hden.len
      refine iteF ⟨_, rfl, tq, _, 0, _, rfl, rfl, SqT.of htq10, rfl, o, _, rfl, .inl (SqL.of ho10), _, rfl, _, _, rfl, rfl, _, rfl, ?_⟩
      rw [decide_eq_false (show ¬ (l : Int) < (ys3.length : Int) by omega)]
      refine iteF ?_
      refine ⟨_, rfl, tq, _, 0, _, rfl, rfl, SqT.of htq10, rfl, .inl ⟨rfl, _, SqL.of ho10⟩, o, ys3, .int 0, rfl, rfl, ho10, by omega, ?_⟩
      have x11 : Ext H7 (upd H10 o (.lst (ys3 ++ [.int 0]))) := (xi9.trans x10).mut (xi.free no)
      have ok11 := G.keep (Kp.lst (o := .lst (ys3 ++ [.int 0])) ho10) ok10
      generalize upd H10 o (.lst (ys3 ++ [.int 0])) = H11 at x11 ok11 ⊢
      have tb11 := tb7.ext x11
      obtain ⟨⟨dx11, hq11⟩, _⟩ := id tb11
      refine ⟨_, rfl, q1, dx11, _, rfl, hq11, (tbF_no _ _ _).2.2.2.2.2.2.1, _, rfl, S, q1, d1, l, kvs, k, 16000000 - i * 9000 - 6300, hF, rfl, tb11, hk, by omega, G.less ok11 (by omega), fun _ v3 rows4 H12 x12 ok12 pm12 pw12 wv3 => ?_, fun h => absurd hkr01 h⟩
      obtain rfl : rows4 = rows3 := kv_same hk.nd pm12 pr pw12 sr
      have x712 := x11.trans x12
      refine ⟨_, rfl, _, rfl, _, rfl, _, rfl, S, D, ys, rows4, l, k, 16000000 - (i + 1) * 9000, hF, rfl, x712.lst hD7, hy7.gr x712.gr, hro, by omega, by omega, hkr01.1, G.less ok12 (by omega), fun v4 H13 x13 ok13 wv4 => ?_⟩
      obtain ⟨dd2, dp3, dp4, sh2, eq2⟩ := way_dp (K := K) G (wv3.ext G x13) wv4 hdep
      refine ⟨dd2, dd2, dp3, dp4, sh2, sh2, _, rfl, ?_⟩
      rw [eq2]
      exact iteF ⟨_, _, rfl, x712.trans x13, ok13⟩
    · rintro σ H' ⟨_, _, rfl, _, _⟩
      exact q H'
end

end My
open PySem PySem.W PyProof.Rows
set_option maxHeartbeats 0 in
theorem PySem.Challenge.cw_growbook_k08_ways_holds : PySem.Challenge.rw_growbook_k08_ways.Holds := by
  w_on; o_law; k_head; (case hw => w_witness2)
  k_fill
  refine LamX.walk_ofTs (l := PySem.Challenge.rw_growbook_k08_ways) (n := 63) (k := 26) (x := "_law_script") (CX := fun _ => L2.CX0) rfl (by decide) rfl ⟨rfl, by decide, by decide⟩ (fun w h Y => PySem.W.km_in_of Y) ?F (fun _ _ _ _ _ h => h)
  case F =>
    intro w mg fa h Y KX G hmg
    have hT := PySem.W.km_tabs_of Y
    refine My.law_end (c := ?c) KX hT (by kernel_rfl) ?hcode (My.ok_law ?T hmg)
    case T =>
      refine' My.txt_mk KX G ?a0 ?l0 ?c0 ?k0 ?a1 ?l1 ?c1 ?k1 ?a2 ?l2 ?c2 ?k2 ?a3 ?l3 ?c3 ?k3 ?a4 ?l4 ?c4 ?k4 ?a5 ?l5 ?c5 ?k5 ?a6 ?l6 ?c6 ?k6 ?a7 ?l7 ?c7 ?k7 ?a8 ?l8 ?c8 ?k8 ?a9 ?l9 ?c9 ?k9 ?a10 ?l10 ?c10 ?k10 ?a11 ?l11 ?c11 ?k11 ?a12 ?l12 ?c12 ?k12 ?z_len ?z_isinstance ?z_list ?z_tuple ?z_range ?z_str ?z_sorted ?g_NoPlace ?xP_NoPlace ?kP_NoPlace ?bP_NoPlace ?tP_NoPlace ?hg_NoPlace ?hk_NoPlace ?hd_NoPlace ?ha_NoPlace ?hn_NoPlace ?ht_NoPlace ?hm_NoPlace ?ex_NoPlace ?g_Table ?pg_Table ?hd_Table ?po_Table ?sa_Table ?n_Table_seal ?n_Table_depth ?n_Table_held ?ia_Table ?in_Table ?it_Table ?im_Table ?aTable0 ?iTable0 ?lTable0 ?cTable0 ?kTable0 ?dTable0 ?mk_Table ?kc_Table ?aTable1 ?iTable1 ?lTable1 ?cTable1 ?kTable1 ?aTable2 ?iTable2 ?lTable2 ?cTable2 ?kTable2 ?aTable3 ?iTable3 ?lTable3 ?cTable3 ?kTable3 ?aTable4 ?iTable4 ?lTable4 ?cTable4 ?kTable4 ?aTable5 ?iTable5 ?lTable5 ?cTable5 ?kTable5 ?aTable7 ?iTable7 ?lTable7 ?cTable7 ?kTable7 ?aTable8 ?iTable8 ?lTable8 ?cTable8 ?kTable8
      (case a0 => k_is)
      (case l0 => k_is)
      (case c0 => k_is)
      (case k0 => k_is)
      (case a1 => k_is)
      (case l1 => k_is)
      (case c1 => k_is)
      (case k1 => k_is)
      (case a2 => k_is)
      (case l2 => k_is)
      (case c2 => k_is)
      (case k2 => k_is)
      (case a3 => k_is)
      (case l3 => k_is)
      (case c3 => k_is)
      (case k3 => k_is)
      (case a4 => k_is)
      (case l4 => k_is)
      (case c4 => k_is)
      (case k4 => k_is)
      (case a5 => k_is)
      (case l5 => k_is)
      (case c5 => k_is)
      (case k5 => k_is)
      (case a6 => k_is)
      (case l6 => k_is)
      (case c6 => k_is)
      (case k6 => k_is)
      (case a7 => k_is)
      (case l7 => k_is)
      (case c7 => k_is)
      (case k7 => k_is)
      (case a8 => k_is)
      (case l8 => k_is)
      (case c8 => k_is)
      (case k8 => k_is)
      (case a9 => k_is)
      (case l9 => k_is)
      (case c9 => k_is)
      (case k9 => k_is)
      (case a10 => k_is)
      (case l10 => k_is)
      (case c10 => k_is)
      (case k10 => k_is)
      (case a11 => k_is)
      (case l11 => k_is)
      (case c11 => k_is)
      (case k11 => k_is)
      (case a12 => k_is)
      (case l12 => k_is)
      (case c12 => k_is)
      (case k12 => k_is)
      (case z_len => k_is)
      (case z_isinstance => k_is)
      (case z_list => k_is)
      (case z_tuple => k_is)
      (case z_range => k_is)
      (case z_str => k_is)
      (case z_sorted => k_is)
      (case g_NoPlace => k_is)
      (case xP_NoPlace => k_exc)
      (case kP_NoPlace => k_is)
      (case bP_NoPlace => k_is)
      (case tP_NoPlace => k_is)
      (case hg_NoPlace => k_is)
      (case hk_NoPlace => k_is)
      (case hd_NoPlace => k_is)
      (case ha_NoPlace => k_is)
      (case hn_NoPlace => k_is)
      (case ht_NoPlace => k_is)
      (case hm_NoPlace => k_is)
      (case ex_NoPlace => kernel_rfl)
      (case g_Table => k_is)
      (case pg_Table => k_is)
      (case hd_Table => k_is)
      (case po_Table => k_is)
      (case sa_Table => k_is)
      (case n_Table_seal => k_is)
      (case n_Table_depth => k_is)
      (case n_Table_held => k_is)
      (case ia_Table => k_is)
      (case in_Table => k_is)
      (case it_Table => k_is)
      (case im_Table => k_is)
      (case aTable0 => k_is)
      (case iTable0 => k_is)
      (case lTable0 => k_is)
      (case cTable0 => k_is)
      (case kTable0 => k_is)
      (case dTable0 => k_is)
      (case mk_Table => k_is)
      (case kc_Table => k_is)
      (case aTable1 => k_is)
      (case iTable1 => k_is)
      (case lTable1 => k_is)
      (case cTable1 => k_is)
      (case kTable1 => k_is)
      (case aTable2 => k_is)
      (case iTable2 => k_is)
      (case lTable2 => k_is)
      (case cTable2 => k_is)
      (case kTable2 => k_is)
      (case aTable3 => k_is)
      (case iTable3 => k_is)
      (case lTable3 => k_is)
      (case cTable3 => k_is)
      (case kTable3 => k_is)
      (case aTable4 => k_is)
      (case iTable4 => k_is)
      (case lTable4 => k_is)
      (case cTable4 => k_is)
      (case kTable4 => k_is)
      (case aTable5 => k_is)
      (case iTable5 => k_is)
      (case lTable5 => k_is)
      (case cTable5 => k_is)
      (case kTable5 => k_is)
      (case aTable7 => k_is)
      (case iTable7 => k_is)
      (case lTable7 => k_is)
      (case cTable7 => k_is)
      (case kTable7 => k_is)
      (case aTable8 => k_is)
      (case iTable8 => k_is)
      (case lTable8 => k_is)
      (case cTable8 => k_is)
      (case kTable8 => k_is)
    case hcode => kernel_rfl
#print axioms PySem.Challenge.cw_growbook_k08_ways_holds

