import PyProof.Rows.All
import Wide.All
import OpenK.AllK
import Wide.FinOn
import HandS.ForMost
import HandS.WideBits
import HandS.IsInst
import HandS.Codes
import HandS.Evl
import HandS.Nested
import HandS.EndTab
import HandS.TupLen
import HandS.Conv
import HandS.Rev
import HandS.ForExc
import HandS.ExcIs
import HandS.TryElse
import HandS.Style
import HandS.Defaults
import HandS.SortInts
import HandS.More
import HandS.Walk
import HandS.HotCalls
import HandS.SuiteRaise
import PySem.Challenge.RW_growbook_k10_changed

import HandS.ExcInit
import HandS.ExcInitHot
import HandS.ExcField
import HandS.StrMore
import HandS.TupAny
import HandS.CallSlots
import HandS.NestedHot
set_option Elab.async false
set_option linter.all false
set_option maxRecDepth 100000
set_option maxHeartbeats 4000000
namespace My
open PySem PySem.Spec PyProof.Rows L2
open C8 (Cal Met Mak CalAt pe_c pe_mk pe_mt pe_mt0)

/-! ### the text by places -/
def inDef (s : Stmt) (j : Nat) : Stmt := (defBody s).getD j (.Pass ⟨0, 0, 0, 0⟩)
def topS (i : Nat) : Stmt := PySem.Challenge.pw_growbook_k10_changed.main.body.getD i (.Pass ⟨0, 0, 0, 0⟩)
abbrev s__wall : Stmt := topS 0
abbrev N__wall : List Str := ["k"]
theorem sc__wall : FnScope ["k"] ["k"] (defScope s__wall) := ⟨rfl, rfl, rfl, by decide +kernel, rfl, by decide +kernel, by decide +kernel⟩
abbrev s_BadRow___init__ : Stmt := inClass (topS 4) 0
abbrev N_BadRow___init__ : List Str := ["self", "row"]
theorem sc_BadRow___init__ : FnScope ["self", "row"] ["self", "row"] (defScope s_BadRow___init__) := ⟨rfl, rfl, rfl, by decide +kernel, rfl, by decide +kernel, by decide +kernel⟩
abbrev s_none_seal : Stmt := topS 6
abbrev N_none_seal : List Str := ["seal"]
theorem sc_none_seal : FnScope ["seal"] ["seal"] (defScope s_none_seal) := ⟨rfl, rfl, rfl, by decide +kernel, rfl, by decide +kernel, by decide +kernel⟩
abbrev s_parted : Stmt := topS 8
abbrev N_parted : List Str := ["rows", "level", "low", "high", "row"]
theorem sc_parted : FnScope ["rows", "level", "low", "high", "row"] ["rows", "level"] (defScope s_parted) := ⟨rfl, rfl, rfl, by decide +kernel, rfl, by decide +kernel, by decide +kernel⟩
abbrev s_part_top : Stmt := topS 9
abbrev N_part_top : List Str := ["seal", "rows", "level", "both"]
theorem sc_part_top : FnScope ["seal", "rows", "level", "both"] ["seal", "rows", "level"] (defScope s_part_top) := ⟨rfl, rfl, rfl, by decide +kernel, rfl, by decide +kernel, by decide +kernel⟩
abbrev s_table_seal : Stmt := topS 10
abbrev N_table_seal : List Str := ["seal", "depth", "top"]
theorem sc_table_seal : FnScope ["seal", "depth", "top"] ["seal", "depth", "top"] (defScope s_table_seal) := ⟨rfl, rfl, rfl, by decide +kernel, rfl, by decide +kernel, by decide +kernel⟩
abbrev s_Table___init__ : Stmt := inClass (topS 11) 0
abbrev N_Table___init__ : List Str := ["self", "seal", "depth"]
theorem sc_Table___init__ : FnScope ["self", "seal", "depth"] ["self", "seal", "depth"] (defScope s_Table___init__) := ⟨rfl, rfl, rfl, by decide +kernel, rfl, by decide +kernel, by decide +kernel⟩
abbrev s_Table_asked : Stmt := inClass (topS 11) 1
abbrev N_Table_asked : List Str := ["self", "key"]
theorem sc_Table_asked : FnScope ["self", "key"] ["self", "key"] (defScope s_Table_asked) := ⟨rfl, rfl, rfl, by decide +kernel, rfl, by decide +kernel, by decide +kernel⟩
abbrev s_Table_put : Stmt := inClass (topS 11) 2
abbrev N_Table_put : List Str := ["self", "key", "text"]
theorem sc_Table_put : FnScope ["self", "key", "text"] ["self", "key", "text"] (defScope s_Table_put) := ⟨rfl, rfl, rfl, by decide +kernel, rfl, by decide +kernel, by decide +kernel⟩
abbrev s_Table_cut : Stmt := inClass (topS 11) 3
abbrev N_Table_cut : List Str := ["self", "key"]
theorem sc_Table_cut : FnScope ["self", "key"] ["self", "key"] (defScope s_Table_cut) := ⟨rfl, rfl, rfl, by decide +kernel, rfl, by decide +kernel, by decide +kernel⟩
abbrev s_Table_value : Stmt := inClass (topS 11) 4
abbrev N_Table_value : List Str := ["self", "key"]
theorem sc_Table_value : FnScope ["self", "key"] ["self", "key"] (defScope s_Table_value) := ⟨rfl, rfl, rfl, by decide +kernel, rfl, by decide +kernel, by decide +kernel⟩
abbrev s_Table_rows : Stmt := inClass (topS 11) 5
abbrev N_Table_rows : List Str := ["self", "key", "text"]
theorem sc_Table_rows : FnScope ["self", "key", "text"] ["self"] (defScope s_Table_rows) := ⟨rfl, rfl, rfl, by decide +kernel, rfl, by decide +kernel, by decide +kernel⟩
abbrev s_Table_head : Stmt := inClass (topS 11) 6
abbrev N_Table_head : List Str := ["self"]
theorem sc_Table_head : FnScope ["self"] ["self"] (defScope s_Table_head) := ⟨rfl, rfl, rfl, by decide +kernel, rfl, by decide +kernel, by decide +kernel⟩
abbrev s_Table_way : Stmt := inClass (topS 11) 7
abbrev N_Table_way : List Str := ["self", "key"]
theorem sc_Table_way : FnScope ["self", "key"] ["self", "key"] (defScope s_Table_way) := ⟨rfl, rfl, rfl, by decide +kernel, rfl, by decide +kernel, by decide +kernel⟩
abbrev s_Table_twin : Stmt := inClass (topS 11) 8
abbrev N_Table_twin : List Str := ["self"]
theorem sc_Table_twin : FnScope ["self"] ["self"] (defScope s_Table_twin) := ⟨rfl, rfl, rfl, by decide +kernel, rfl, by decide +kernel, by decide +kernel⟩
abbrev s_key_of : Stmt := topS 13
abbrev N_key_of : List Str := ["figures", "depth", "key"]
theorem sc_key_of : FnScope ["figures", "depth", "key"] ["figures", "depth"] (defScope s_key_of) := ⟨rfl, rfl, rfl, by decide +kernel, rfl, by decide +kernel, by decide +kernel⟩
abbrev s_read_row : Stmt := topS 14
abbrev N_read_row : List Str := ["row", "depth", "bare", "word", "blank", "rest", "figures", "behind", "text", "key"]
theorem sc_read_row : FnScope ["row", "depth", "bare", "word", "blank", "rest", "figures", "behind", "text", "key"] ["row", "depth"] (defScope s_read_row) := ⟨rfl, rfl, rfl, by decide +kernel, rfl, by decide +kernel, by decide +kernel⟩
abbrev s_placed : Stmt := topS 15
abbrev N_placed : List Str := ["row", "place", "depth", "said"]
theorem sc_placed : FnScope ["row", "place", "depth", "said"] ["row", "place", "depth"] (defScope s_placed) := ⟨rfl, rfl, rfl, by decide +kernel, rfl, by decide +kernel, by decide +kernel⟩
abbrev s_changed : Stmt := topS 16
abbrev N_changed : List Str := ["table", "text", "depth", "other", "key", "value", "place", "row", "said"]
theorem sc_changed : FnScope ["table", "text", "depth", "other", "key", "value", "place", "row", "said"] ["table", "text", "depth"] (defScope s_changed) := ⟨rfl, rfl, rfl, by decide +kernel, rfl, by decide +kernel, by decide +kernel⟩
abbrev s__law_cell_at : Stmt := topS 18
abbrev N__law_cell_at : List Str := ["_law_script", "_law_k"]
theorem sc__law_cell_at : FnScope ["_law_script", "_law_k"] ["_law_script", "_law_k"] (defScope s__law_cell_at) := ⟨rfl, rfl, rfl, by decide +kernel, rfl, by decide +kernel, by decide +kernel⟩
abbrev s__law_plain : Stmt := topS 19
abbrev N__law_plain : List Str := ["_law_mark", "_law_one", "_law_two"]
theorem sc__law_plain : FnScope ["_law_mark", "_law_one", "_law_two"] ["_law_mark", "_law_one", "_law_two"] (defScope s__law_plain) := ⟨rfl, rfl, rfl, by decide +kernel, rfl, by decide +kernel, by decide +kernel⟩
abbrev s__law_turned : Stmt := topS 20
abbrev N__law_turned : List Str := ["_law_mark", "_law_one", "_law_two"]
theorem sc__law_turned : FnScope ["_law_mark", "_law_one", "_law_two"] ["_law_mark", "_law_one", "_law_two"] (defScope s__law_turned) := ⟨rfl, rfl, rfl, by decide +kernel, rfl, by decide +kernel, by decide +kernel⟩
abbrev s__law_numbering : Stmt := topS 21
abbrev N__law_numbering : List Str := ["_law_numbered", "_law_told"]
theorem sc__law_numbering : FnScope ["_law_numbered", "_law_told"] [] (defScope s__law_numbering) := ⟨rfl, rfl, rfl, by decide +kernel, rfl, by decide +kernel, by decide +kernel⟩
abbrev s__law_numbering__law_numbered : Stmt := inDef (topS 21) 1
abbrev N__law_numbering__law_numbered : List Str := ["_law_mark", "_law_one", "_law_two", "_law_told"]
abbrev s__law_seal_by : Stmt := topS 22
abbrev N__law_seal_by : List Str := ["_law_script", "_law_kind"]
theorem sc__law_seal_by : FnScope ["_law_script", "_law_kind"] ["_law_script"] (defScope s__law_seal_by) := ⟨rfl, rfl, rfl, by decide +kernel, rfl, by decide +kernel, by decide +kernel⟩
abbrev s__law_draw : Stmt := topS 23
abbrev N__law_draw : List Str := ["_law_cell", "_law_k", "_law_many", "_law_primes"]
theorem sc__law_draw : FnScope ["_law_cell", "_law_k", "_law_many", "_law_primes"] ["_law_cell", "_law_k", "_law_many"] (defScope s__law_draw) := ⟨rfl, rfl, rfl, by decide +kernel, rfl, by decide +kernel, by decide +kernel⟩
abbrev s__law_word : Stmt := topS 24
abbrev N__law_word : List Str := ["_law_cell", "_law_some", "_law_many", "_law_kept", "_law_k", "_law_sign"]
theorem sc__law_word : FnScope ["_law_cell", "_law_some", "_law_many", "_law_kept", "_law_k", "_law_sign"] ["_law_cell"] (defScope s__law_word) := ⟨rfl, rfl, rfl, by decide +kernel, rfl, by decide +kernel, by decide +kernel⟩
abbrev s__law_part : Stmt := topS 25
abbrev N__law_part : List Str := ["_law_seal", "_law_rows", "_law_level", "_law_half", "_law_low", "_law_high", "_law_row"]
theorem sc__law_part : FnScope ["_law_seal", "_law_rows", "_law_level", "_law_half", "_law_low", "_law_high", "_law_row"] ["_law_seal", "_law_rows", "_law_level"] (defScope s__law_part) := ⟨rfl, rfl, rfl, by decide +kernel, rfl, by decide +kernel, by decide +kernel⟩
abbrev s__law_table : Stmt := topS 26
abbrev N__law_table : List Str := ["_law_seal", "_law_held", "_law_depth", "_law_key"]
theorem sc__law_table : FnScope ["_law_seal", "_law_held", "_law_depth", "_law_key"] ["_law_seal", "_law_held", "_law_depth"] (defScope s__law_table) := ⟨rfl, rfl, rfl, by decide +kernel, rfl, by decide +kernel, by decide +kernel⟩
abbrev s__law_text : Stmt := topS 27
abbrev N__law_text : List Str := ["_law_cell", "_law_depth", "_law_near", "_law_rows", "_law_done", "_law_k", "_law_one", "_law_key", "_law_kind", "_law_text_here"]
theorem sc__law_text : FnScope ["_law_cell", "_law_depth", "_law_near", "_law_rows", "_law_done", "_law_k", "_law_one", "_law_key", "_law_kind", "_law_text_here"] ["_law_cell", "_law_depth", "_law_near"] (defScope s__law_text) := ⟨rfl, rfl, rfl, by decide +kernel, rfl, by decide +kernel, by decide +kernel⟩
abbrev s__law_behind : Stmt := topS 28
abbrev N__law_behind : List Str := ["_law_held", "_law_done", "_law_behind_here", "_law_one"]
theorem sc__law_behind : FnScope ["_law_held", "_law_done", "_law_behind_here", "_law_one"] ["_law_held", "_law_done"] (defScope s__law_behind) := ⟨rfl, rfl, rfl, by decide +kernel, rfl, by decide +kernel, by decide +kernel⟩
abbrev s__law_spoilt : Stmt := topS 29
abbrev N__law_spoilt : List Str := ["_law_text_here", "_law_due", "_law_cell", "_law_rows", "_law_at"]
theorem sc__law_spoilt : FnScope ["_law_text_here", "_law_due", "_law_cell", "_law_rows", "_law_at"] ["_law_text_here", "_law_due", "_law_cell"] (defScope s__law_spoilt) := ⟨rfl, rfl, rfl, by decide +kernel, rfl, by decide +kernel, by decide +kernel⟩
abbrev s__law_right : Stmt := topS 30
abbrev N__law_right : List Str := ["_law_seal", "_law_table_here", "_law_held", "_law_depth", "_law_key"]
theorem sc__law_right : FnScope ["_law_seal", "_law_table_here", "_law_held", "_law_depth", "_law_key"] ["_law_seal", "_law_table_here", "_law_held", "_law_depth"] (defScope s__law_right) := ⟨rfl, rfl, rfl, by decide +kernel, rfl, by decide +kernel, by decide +kernel⟩
abbrev s_law : Stmt := topS 31
abbrev N_law : List Str := ["_law_script", "_law_seal", "_law_depth", "_law_near", "_law_table_here", "_law_held", "_law_at", "_law_cell", "_law_made", "_law_text_here", "_law_due", "_law_both", "_law_other", "_law_third", "e", "_law_k"]
theorem sc_law : FnScope ["_law_script", "_law_seal", "_law_depth", "_law_near", "_law_table_here", "_law_held", "_law_at", "_law_cell", "_law_made", "_law_text_here", "_law_due", "_law_both", "_law_other", "_law_third", "e", "_law_k"] ["_law_script"] (defScope s_law) := ⟨rfl, rfl, rfl, by decide +kernel, rfl, by decide +kernel, by decide +kernel⟩

/-! ### a def of the module -/
structure DefX (K : PySem.W.Frag) (mg : Str → Option Value) (x : Str) (st : Stmt) (ps : List Str) : Prop where
  ex : ∃ (f : Addr) (fd : FuncData), L2.Fun K x x st f fd ∧ mg x = some (.ref f) ∧ ∀ us : List Value, us.length = ps.length → bindArgs fd ⟨us, []⟩ = pure (ps.zip us)
/-- a def that makes defs: its code object's address is told -/
structure DefM (K : PySem.W.Frag) (mg : Str → Option Value) (x : Str) (st : Stmt) (c : Addr) : Prop where
  ex : ∃ (f : Addr) (oc : Value) (od : Option Addr) (kV doc pm : Value) (an : Option Addr) (ct : Value) (osl : Array (Option Value)), K.lookup f = some ⟨oc, od, .func (PySem.W.fnOf x x (defArgs st) (defBody st) (defScope st) .none kV doc pm an (.ref c) ct), osl⟩ ∧
    PySem.W.codeIn K (.ref c) x = true ∧ PySem.W.keepIn K (.ref f) = true ∧ mg x = some (.ref f)
/-- an own class of errors over ValueError, without an __init__ of its own -/
structure ExcF (K : PySem.W.Frag) (C : Addr) : Prop where
  xP : PySem.W.excIn K C [.type "ValueError", .type "Exception", .type "BaseException", .type "object"] "ValueError.__new__" = true
  kP : PySem.W.keepIn K (.ref C) = true
  bP : PySem.W.subIn K (.ref C) (.type "BaseException") = some true
  tP : PySem.W.typeIn K (.ref C) = some (.type "type")
  cP : ExcC K C
  eP : PySem.W.exmOne K (.ref C) (.ref C) = some true
structure ExcX (K : PySem.W.Frag) (mg : Str → Option Value) (x : Str) : Prop where
  ex : ∃ C, mg x = some (.ref C) ∧ ExcF K C
/-- a def that may raise -/
structure CalX (P : Program) (w : World) (K : PySem.W.Frag) (mg : Str → Option Value) (base : Heap) (k : Nat) (x : Str) (sp : Sp) : Prop where
  ex : ∃ (f : Addr) (fd : FuncData) (ps : List Str), FnOk P w K mg base (L2.CX P w) k f fd ps sp ∧ mg x = some (.ref f) ∧ PySem.W.keepIn K (.ref f) = true ∧ Binds K fd ps []
theorem calX_of {P : Program} {w : World} {K : PySem.W.Frag} {mg : Str → Option Value} {base : Heap} {x : Str} {st : Stmt} {N ps : List Str} {k : Nat} {sp : Sp} (D : DefX K mg x st ps) (S : FnScope N ps (defScope st)) (len : ∀ vs H Q E, sp vs H Q E → vs.length = ps.length)
    (hbody : ∀ (f : Addr) (cdv : Value) (A : Around) (outer : List Env) (s : Shared) (H : Hp) (vs : List V) (Q : VK) (E : XK), Room k (A.deeper (envOfC x (defScope st) s.heap.objs.size f cdv)) → sp vs H Q E →
      ∃ t, PSs (cxOf (L2.CX P w) P w K mg base N x (defScope st) f cdv A outer s H E) (defBody st) t ∧ t { nx := fun _ H' => Q .non H', rt := Q } (start N vs) H) : CalX P w K mg base (k + 1) x sp := by
  obtain ⟨f, fd, F, m, b⟩ := D.ex
  exact ⟨f, fd, ps, F.okX S len (hbody f), m, F.kp, .all b⟩
theorem calX_mono {P : Program} {w : World} {K : PySem.W.Frag} {mg : Str → Option Value} {base : Heap} {x : Str} {j k : Nat} {sp : Sp} (c : CalX P w K mg base j x sp) (h : j ≤ k) : CalX P w K mg base k x sp := by
  obtain ⟨f, fd, ps, F, m, kp, b⟩ := c.ex
  exact ⟨f, fd, ps, F.mono h, m, kp, b⟩
/-- x(..) that may raise, within what takes W -/
theorem pe_cx {X : Cx} {k j : Nat} {x : Str} {sp : Sp} {W : WX} {t : TA} {e : Expr} {es : List Expr} {p pos : Pos} (c : CalX X.prog X.w X.K X.mg X.base k x sp) (tk : Takes X W) (hr : Room j X.A) (hk : k ≤ j) (hg : Gl X x) (ha : PA X (e :: es) t)
    (hdb : (x == ("__debug__" : Str)) = false := by decide) (he : starEach (e :: es) X.env = (false, eval e X.env) :: starEach es X.env := by rfl) (hpl : (backTo pos (starEach es X.env)).any (·.1) = false := by rfl) :
    PE X (.Call (.Name x p) (e :: es) [] pos) (tCallS sp (WE W) t) := by
  obtain ⟨f, fd, ps, F, m, kp, b⟩ := c.ex
  exact pe_callS F (hr.mono hk) hg m kp b (fun σ => passAt tk σ) ha hdb he hpl
theorem zc_of {cls : Value} {C : Addr} {d : Option Addr} {oe : Obj} (hz : Zc cls d oe) (h : cls = .ref C ∧ d = none) : Zc (.ref C) none oe := by
  rw [← h.1, ← h.2]
  exact hz
/-- known where the reading is at hand -/
theorem pss_when {X : Cx} {st : List Stmt} {t : TS} {P : Prop} (h : P → PSs X st t) : PSs X st (fun D σ H => P ∧ t D σ H) := ⟨fun pins s σ H D I ⟨p, q⟩ => (h p).run pins s σ H D I q⟩
theorem pe_when {X : Cx} {e : Expr} {t : TE} {P : Prop} (h : P → PE X e t) : PE X e (fun σ H Q => P ∧ t σ H Q) := ⟨fun pins s σ H Q I ⟨p, q⟩ => (h p).run pins s σ H Q I q⟩
/-- raise X('..') -/
theorem ps_raiseX {X : Cx} {W : WX} {x m : Str} {C : Addr} {j : Nat} {p p2 p3 pos : Pos} (F : ExcF X.K C) (gC : X.mg x = some (.ref C)) (hc : X.calm = true) (tk : Takes X W) (hg : Gl X x) (hdb : (x == ("__debug__" : Str)) = false := by decide) :
    PS X (.Raise (some (.Call (.Name x p) [.Constant (.str m) j p2] [] p3)) none pos) (fun _ σ H => W (.ref C) none σ H) :=
  ps_raise hc tk (pmk_own PySem.F.excBase_ValueError F.xP gC F.kP (raises_own F.bP F.tP) hg hdb)
theorem cal_of {P : Program} {w : World} {K : PySem.W.Frag} {mg : Str → Option Value} {base : Heap} {x : Str} {st : Stmt} {N ps : List Str} {k : Nat} {sp : Sp} (D : DefX K mg x st ps) (S : FnScope N ps (defScope st)) (len : ∀ vs H Q E, sp vs H Q E → vs.length = ps.length)
    (hbody : ∀ (f : Addr) (cdv : Value) (A : Around) (outer : List Env) (s : Shared) (H : Hp) (vs : List V) (Q : VK) (E : XK), Room k (A.deeper (envOfC x (defScope st) s.heap.objs.size f cdv)) → sp vs H Q E →
      ∃ t, PSs (cxOf L2.CX0 P w K mg base N x (defScope st) f cdv A outer s H E).nox (defBody st) t ∧ t { nx := fun _ H' => Q .non H', rt := Q } (start N vs) H) : Cal P w K mg base (k + 1) x sp [] := by
  obtain ⟨f, fd, F, m, b⟩ := D.ex
  exact ⟨f, fd, ps, [], F.ok S len (hbody f), m, F.kp, .all b, .nil⟩
/-- the law's own def, for the end -/
theorem law_fn {P : Program} {w : World} {K : PySem.W.Frag} {mg : Str → Option Value} {x p : Str} {st : Stmt} {N : List Str} {k : Nat} {sp : Sp} {fa : Addr} (D : DefX K mg x st [p]) (hfa : mg x = some (.ref fa)) (S : FnScope N [p] (defScope st)) (len : ∀ vs H Q E, sp vs H Q E → vs.length = 1)
    (hbody : ∀ (base : Heap) (f : Addr) (cdv : Value) (A : Around) (outer : List Env) (s : Shared) (H : Hp) (vs : List V) (Q : VK) (E : XK), Room k (A.deeper (envOfC x (defScope st) s.heap.objs.size f cdv)) → sp vs H Q E →
      ∃ t, PSs (cxOf L2.CX0 P w K mg base N x (defScope st) f cdv A outer s H E).nox (defBody st) t ∧ t { nx := fun _ H' => Q .non H', rt := Q } (start N vs) H) :
    ∃ fd : FuncData, (∀ (s : Shared) (v : Value), BindsTo s fd ⟨[v], []⟩ [(p, v)]) ∧ ∀ base : Heap, K.In base → base.Ns mainGlobals mg → FnOk P w K mg base L2.CX0 (k + 1) fa fd [p] sp := by
  obtain ⟨f, fd, F, m, b⟩ := D.ex
  have e := hfa.symm.trans m
  cases e
  exact ⟨fd, fun s v => .of_eq (b [v] rfl), fun base _ _ => F.ok S len (hbody base fa)⟩
theorem cut_to (xs : List V) (n : Nat) : cutV xs none (some (n : Int)) = xs.take n := by
  unfold cutV
  rw [HT.sIx_none, HT.sIx_nat, List.drop_zero, Nat.sub_zero]
  by_cases h : n ≤ xs.length
  · rw [Nat.min_eq_left h]
  · rw [Nat.min_eq_right (by omega), List.take_length, List.take_of_length_le (by omega)]
theorem cut_from (xs : List V) (n : Nat) : cutV xs (some (n : Int)) none = xs.drop n := by
  unfold cutV
  rw [HT.sIx_none, HT.sIx_nat]
  by_cases h : n ≤ xs.length
  · rw [Nat.min_eq_left h, List.take_of_length_le (by rw [List.length_drop]; omega)]
  · rw [Nat.min_eq_right (by omega), List.drop_length, List.drop_eq_nil_of_le (by omega), List.take_nil]
theorem cut_mid {xs : List V} {n m : Nat} (h : n ≤ m) (hm : m ≤ xs.length) : cutV xs (some (n : Int)) (some (m : Int)) = (xs.drop n).take (m - n) := by
  unfold cutV
  rw [HT.sIx_nat, HT.sIx_nat, Nat.min_eq_left hm, Nat.min_eq_left (show n ≤ xs.length by omega)]
theorem take63 {ns : List Int} (h : ns.length ≤ 63) : cutV (ns.map V.int) none (some 63) = ns.map V.int := by
  rw [show (63 : Int) = ((63 : Nat) : Int) from rfl, cut_to, List.take_of_length_le (by rw [List.length_map]; exact h)]
theorem small {n : Nat} (h : n ≤ 1000) : n ≤ sizeLine := Nat.le_of_lt (small1000 h)
theorem same_upd {H : Hp} {p : Addr} {o : HO} (h : H p = none) : Same H (upd H p o) := fun b x e => by
  rw [upd_ne (ne_of_none e h)]
  exact e

/-! ### classes -/
structure MetX (K : PySem.W.Frag) (C : Addr) (m qual : Str) (st : Stmt) (ps : List Str) : Prop where
  ex : ∃ (f : Addr) (fd : FuncData), L2.Fun K m qual st f fd ∧ Meth K C m f ∧ ∀ us : List Value, us.length = ps.length → bindArgs fd ⟨us, []⟩ = pure (ps.zip us)
structure MakX (K : PySem.W.Frag) (C : Addr) (qual : Str) (st : Stmt) (ps : List Str) : Prop where
  ex : ∃ (f : Addr) (fd : FuncData), L2.Fun K "__init__" qual st f fd ∧ Mk K C f ∧ ∀ us : List Value, us.length = ps.length → bindArgs fd ⟨us, []⟩ = pure (ps.zip us)
/-- an __init__ with defaults -/
structure MakD (K : PySem.W.Frag) (C : Addr) (qual : Str) (st : Stmt) (ps : List Str) (dvs : List V) : Prop where
  ex : ∃ (f : Addr) (fd : FuncData), L2.FunD K "__init__" qual (defArgs st) (defBody st) (defScope st) dvs [] f fd ∧ Mk K C f
theorem mak_ofD {P : Program} {w : World} {K : PySem.W.Frag} {mg : Str → Option Value} {base : Heap} {C : Addr} {x qual : Str} {st : Stmt} {N ps : List Str} {dvs : List V} {k : Nat} {sp : Sp} (n j : Nat) (hm : mg x = some (.ref C)) (D : MakD K C qual st ps dvs) (hd : dvs ≠ []) (hn : n + (dvs.length - j) = ps.length)
    (hb : ∀ (T : Addr) (kV doc pm : Value) (an : Option Addr) (cdv ct : Value) (us its : List Value), us.length = n → its.length = dvs.length →
      ∃ k, bindArgs (PySem.W.fnOf "__init__" qual (defArgs st) (defBody st) (defScope st) (.ref T) kV doc pm an cdv ct) ⟨us, []⟩ = seqItems? (.ref T) >>= k ∧ k (some its.toArray) = pure (ps.zip (us ++ its.drop j)))
    (S : FnScope N ps (defScope st)) (len : ∀ vs H Q E, sp vs H Q E → vs.length = ps.length)
    (hbody : ∀ (f : Addr) (cdv : Value) (A : Around) (outer : List Env) (s : Shared) (H : Hp) (vs : List V) (Q : VK) (E : XK), Room k (A.deeper (envOfC qual (defScope st) s.heap.objs.size f cdv)) → sp vs H Q E →
      ∃ t, PSs (cxOf L2.CX0 P w K mg base N qual (defScope st) f cdv A outer s H E).nox (defBody st) t ∧ t { nx := fun _ H' => Q .non H', rt := Q } (start N vs) H) : Mak P w K mg base (k + 1) x C sp (dvs.drop j) := by
  obtain ⟨f, fd, F, M⟩ := D.ex
  obtain ⟨ds, d, b⟩ := F.binds1 n j hd hn hb
  refine ⟨f, fd, ps, ds, M, F.ok S len fun cdv A outer s H vs Q E hr h => ?_, hm, b, d⟩
  obtain ⟨t, h1, h2⟩ := hbody f cdv A outer s H vs Q E hr h
  exact ⟨t, h1.nox, h2⟩
theorem met_of {P : Program} {w : World} {K : PySem.W.Frag} {mg : Str → Option Value} {base : Heap} {C : Addr} {m qual : Str} {st : Stmt} {N ps : List Str} {k : Nat} {sp : Sp} (c : Cls K C) (D : MetX K C m qual st ps) (S : FnScope N ps (defScope st)) (len : ∀ vs H Q E, sp vs H Q E → vs.length = ps.length)
    (hbody : ∀ (f : Addr) (cdv : Value) (A : Around) (outer : List Env) (s : Shared) (H : Hp) (vs : List V) (Q : VK) (E : XK), Room k (A.deeper (envOfC qual (defScope st) s.heap.objs.size f cdv)) → sp vs H Q E →
      ∃ t, PSs (cxOf L2.CX0 P w K mg base N qual (defScope st) f cdv A outer s H E).nox (defBody st) t ∧ t { nx := fun _ H' => Q .non H', rt := Q } (start N vs) H) : Met P w K mg base (k + 1) C m sp [] := by
  obtain ⟨f, fd, F, me, b⟩ := D.ex
  exact ⟨f, fd, ps, [], c, me, F.ok S len (hbody f), .all b, .nil⟩
theorem mak_of {P : Program} {w : World} {K : PySem.W.Frag} {mg : Str → Option Value} {base : Heap} {C : Addr} {x qual : Str} {st : Stmt} {N ps : List Str} {k : Nat} {sp : Sp} (hm : mg x = some (.ref C)) (D : MakX K C qual st ps) (S : FnScope N ps (defScope st)) (len : ∀ vs H Q E, sp vs H Q E → vs.length = ps.length)
    (hbody : ∀ (f : Addr) (cdv : Value) (A : Around) (outer : List Env) (s : Shared) (H : Hp) (vs : List V) (Q : VK) (E : XK), Room k (A.deeper (envOfC qual (defScope st) s.heap.objs.size f cdv)) → sp vs H Q E →
      ∃ t, PSs (cxOf L2.CX0 P w K mg base N qual (defScope st) f cdv A outer s H E).nox (defBody st) t ∧ t { nx := fun _ H' => Q .non H', rt := Q } (start N vs) H) : Mak P w K mg base (k + 1) x C sp [] := by
  obtain ⟨f, fd, F, M, b⟩ := D.ex
  exact ⟨f, fd, ps, [], M, F.ok S len (hbody f), hm, .all b, .nil⟩

/-! ### a method with defaults, as it stands -/
structure MetD (K : PySem.W.Frag) (C : Addr) (m qual : Str) (st : Stmt) (ps : List Str) (dvs : List V) : Prop where
  ex : ∃ (f : Addr) (fd : FuncData), L2.FunD K m qual (defArgs st) (defBody st) (defScope st) dvs [] f fd ∧ Meth K C m f

/-! ### heaps that grow -/
/-- all that was tracked is as it was, but dicts keyed by tuples may have got more -/
structure Ext (H H' : Hp) : Prop where
  keep : ∀ a o, H a = some o → (∀ kvs, o ≠ .dT kvs) → H' a = some o
  grow : ∀ a kvs, H a = some (.dT kvs) → ∃ more, H' a = some (.dT (kvs ++ more))
theorem Ext.of_same {H H' : Hp} (h : Same H H') : Ext H H' := ⟨fun a o e _ => h a o e, fun a kvs e => ⟨[], by rw [List.append_nil]; exact h a _ e⟩⟩
theorem Ext.refl (H : Hp) : Ext H H := .of_same (Same.refl H)
theorem Ext.trans {H H1 H2 : Hp} (a : Ext H H1) (b : Ext H1 H2) : Ext H H2 := by
  refine ⟨fun x o e n => b.keep x o (a.keep x o e n) n, fun x kvs e => ?_⟩
  obtain ⟨m1, e1⟩ := a.grow x kvs e
  obtain ⟨m2, e2⟩ := b.grow x _ e1
  exact ⟨m1 ++ m2, by rw [e2, List.append_assoc]⟩
theorem Ext.new {H : Hp} {p : Addr} {o : HO} (h : H p = none) : Ext H (upd H p o) := .of_same (same_upd h)
theorem Ext.mut {H H' : Hp} {p : Addr} {o : HO} (e : Ext H H') (h : H p = none) : Ext H (upd H' p o) := by
  refine ⟨fun a u ha n => ?_, fun a kvs ha => ?_⟩
  · rw [upd_ne (ne_of_none ha h)]
    exact e.keep a u ha n
  · rw [upd_ne (ne_of_none ha h)]
    exact e.grow a kvs ha
theorem Ext.free {H H' : Hp} {p : Addr} (e : Ext H H') (h : H' p = none) : H p = none := by
  cases q : H p with
  | none => rfl
  | some o =>
    by_cases n : ∃ kvs, o = .dT kvs
    · obtain ⟨kvs, rfl⟩ := n
      obtain ⟨m, e1⟩ := e.grow p kvs q
      rw [e1] at h
      cases h
    · rw [e.keep p o q fun kvs z => n ⟨kvs, z⟩] at h
      cases h
theorem Ext.lst {H H' : Hp} {a : Addr} {xs : List V} (e : Ext H H') (h : H a = some (.lst xs)) : H' a = some (.lst xs) := e.keep _ _ h fun _ z => nomatch z
theorem Ext.tup {H H' : Hp} {a : Addr} {xs : List V} (e : Ext H H') (h : H a = some (.tup xs)) : H' a = some (.tup xs) := e.keep _ _ h fun _ z => nomatch z
theorem Ext.ins {H H' : Hp} {a C dx : Addr} {fs : List (Str × V)} (e : Ext H H') (h : H a = some (.ins C dx fs)) : H' a = some (.ins C dx fs) := e.keep _ _ h fun _ z => nomatch z
theorem Ext.dK {H H' : Hp} {a : Addr} {kvs : List (Key × V)} (e : Ext H H') (h : H a = some (.dK kvs)) : H' a = some (.dK kvs) := e.keep _ _ h fun _ z => nomatch z
theorem Ext.frz {H H' : Hp} {a : Addr} {o : Obj} {u : HO} (e : Ext H H') (h : H a = some (.frz o u)) : H' a = some (.frz o u) := e.keep _ _ h fun _ z => nomatch z
theorem Ext.seq {K : PySem.W.Frag} {H H' : Hp} {a : Addr} {xs : List V} (e : Ext H H') (h : SqL K H a xs) : SqL K H' a xs := by
  rcases h with (h | ⟨o, h⟩) | h
  · exact .inl (.inl (e.lst h))
  · exact .inl (.inr ⟨o, e.frz h⟩)
  · exact .inr h
theorem Ext.seqT {K : PySem.W.Frag} {H H' : Hp} {a : Addr} {xs : List V} (e : Ext H H') (h : SqT K H a xs) : SqT K H' a xs := by
  rcases h with (h | ⟨o, h⟩) | h
  · exact .inl (.inl (e.tup h))
  · exact .inl (.inr ⟨o, e.frz h⟩)
  · exact .inr h
/-- what the telling of a thing leans on: it is never changed, but dicts keyed by tuples -/
def stat : HO → Prop
  | .lst _ | .dK _ | .ins _ _ _ | .set _ _ | .xd _ => False
  | _ => True
def Kp (H H' : Hp) : Prop := ∀ a o, H a = some o → stat o → H' a = some o
structure Gr (H H' : Hp) : Prop where
  keep : ∀ a o, H a = some o → stat o → (∀ kvs, o ≠ .dT kvs) → H' a = some o
  grow : ∀ a kvs, H a = some (.dT kvs) → ∃ more, H' a = some (.dT (kvs ++ more))
theorem Ext.gr {H H' : Hp} (e : Ext H H') : Gr H H' := ⟨fun a o h _ n => e.keep a o h n, e.grow⟩
theorem Kp.gr {H H' : Hp} (e : Kp H H') : Gr H H' := ⟨fun a o h s _ => e a o h s, fun a kvs h => ⟨[], by rw [List.append_nil]; exact e a _ h True.intro⟩⟩
theorem Kp.refl (H : Hp) : Kp H H := fun _ _ h _ => h
theorem Kp.trans {H H1 H2 : Hp} (a : Kp H H1) (b : Kp H1 H2) : Kp H H2 := fun c o h s => b c o (a c o h s) s
theorem Gr.refl (H : Hp) : Gr H H := (Kp.refl H).gr
theorem Gr.trans {H H1 H2 : Hp} (a : Gr H H1) (b : Gr H1 H2) : Gr H H2 := by
  refine ⟨fun x o e s n => b.keep x o (a.keep x o e s n) s n, fun x kvs e => ?_⟩
  obtain ⟨m1, e1⟩ := a.grow x kvs e
  obtain ⟨m2, e2⟩ := b.grow x _ e1
  exact ⟨m1 ++ m2, by rw [e2, List.append_assoc]⟩
theorem Kp.new {H : Hp} {p : Addr} {o : HO} (h : H p = none) : Kp H (upd H p o) := fun a u e _ => by
  rw [upd_ne (ne_of_none e h)]
  exact e
theorem Kp.lst {H : Hp} {p : Addr} {o : HO} {xs : List V} (h : H p = some (.lst xs)) : Kp H (upd H p o) := fun a u e s => by
  by_cases q : a = p
  · subst q
    rw [h] at e
    cases e
    exact s.elim
  · rw [upd_ne q]
    exact e
theorem Kp.ins {H : Hp} {p C dx : Addr} {o : HO} {fs : List (Str × V)} (h : H p = some (.ins C dx fs)) : Kp H (upd H p o) := fun a u e s => by
  by_cases q : a = p
  · subst q
    rw [h] at e
    cases e
    exact s.elim
  · rw [upd_ne q]
    exact e
theorem Kp.dK {H : Hp} {p : Addr} {o : HO} {kvs : List (Key × V)} (h : H p = some (.dK kvs)) : Kp H (upd H p o) := fun a u e s => by
  by_cases q : a = p
  · subst q
    rw [h] at e
    cases e
    exact s.elim
  · rw [upd_ne q]
    exact e
/-! ### free terms, and seals -/
inductive Tm where
  | int (i : Int)
  | str (x : Str)
  | sl (m : Str) (a b : Tm)
  deriving DecidableEq
def Tm.dep : Tm → Nat
  | .int _ | .str _ => 0
  | .sl _ a b => max a.dep b.dep + 1
abbrev txtOk (x : Str) : Bool := PySem.PyData.strOk x
/-- a seal: its function, what its values tell, its state (so many more things may be told) -/
structure Sys where
  f : Addr
  den : Hp → V → Tm → Prop
  ok : Hp → Nat → Prop
structure Sys.Good (K : PySem.W.Frag) (S : Sys) : Prop where
  mono : ∀ {H H' : Hp} {v : V} {t : Tm}, Gr H H' → S.den H v t → S.den H' v t
  keep : ∀ {H H' : Hp} {r : Nat}, Kp H H' → S.ok H r → S.ok H' r
  less : ∀ {H : Hp} {r r' : Nat}, S.ok H r → r' ≤ r → S.ok H r'
  int : ∀ {H : Hp} {r : Nat} (i : Int), S.ok H r → S.den H (.int i) (.int i)
  str : ∀ {H : Hp} {r : Nat} (x : Str), S.ok H r → txtOk x = true → S.den H (.str x) (.str x)
  same : ∀ {H : Hp} {v v' : V} {t : Tm}, S.den H v t → S.den H v' t → ∃ d, Dp K H v d ∧ Dp K H v' d ∧ d.canLay0 = true ∧ d.depth ≤ t.dep
def spSl (S : Sys) : Sp := fun vs H Q _ => ∃ (r : Nat) (m : Str) (a b : Tm) (va vb : V), vs = [.str m, va, vb] ∧ txtOk m = true ∧ S.ok H (r + 1) ∧ S.den H va a ∧ S.den H vb b ∧
  ∀ v H', Ext H H' → S.ok H' r → S.den H' v (.sl m a b) → Q v H'
structure HeldSl (P : Program) (w : World) (K : PySem.W.Frag) (mg : Str → Option Value) (base : Heap) (k : Nat) (S : Sys) : Prop where
  at_ : ∀ (H : Hp) (h : Heap) (r : Nat), K.In h → HOk P w H h → S.ok H r → PySem.W.FnAt S.f h
  run : ∀ (A : Around) (outer : List Env) (s : Shared) (H : Hp) (us : List Value) (vs : List V) (Q : VK) (E : XK), Room k A → Env0 P w K mg base A outer s H → Vals vs us → spSl S vs H Q E →
    codeAny (model P w) A (.call (.ref S.f) ⟨us, []⟩) (CR L2.CX0 outer P w H s Q E) s
/-- of a family of seals: each is good, and its calls keep the promise -/
structure SlA (P : Program) (w : World) (K : PySem.W.Frag) (mg : Str → Option Value) (base : Heap) (Fam : Sys → Prop) : Prop where
  good : ∀ {S : Sys}, Fam S → S.Good K
  held : ∀ S, Fam S → HeldSl P w K mg base 1 S
/-- x(..), x a name that holds a seal -/
def tSl (Fam : Sys → Prop) (i : Nat) (t : TA) : TE := fun σ H Q => ∃ (S : Sys) (r : Nat), Fam S ∧ σ[i]? = some (some (.ref S.f)) ∧ S.ok H r ∧ t σ H fun vs H1 => spSl S vs H1 Q L2.E0
section
variable {X : Cx} {i j k : Nat} {x : Str} {p pos : Pos} {e : Expr} {es : List Expr} {t : TA} {Fam : Sys → Prop}
theorem pe_sl (A : ∀ S, Fam S → HeldSl X.prog X.w X.K X.mg X.base k S) (hr : Room j X.A) (hk : k ≤ j) (hN : X.N[i]? = some x) (hv : Vis X.env.scope x) (ha : PA X (e :: es) t)
    (hdb : (x == ("__debug__" : Str)) = false := by decide) (hcd : (x == ("__classdict__" : Str)) = false := by decide)
    (he : starEach (e :: es) X.env = (false, eval e X.env) :: starEach es X.env := by rfl) (hpl : (backTo pos (starEach es X.env)).any (·.1) = false := by rfl) : PE X (.Call (.Name x p) (e :: es) [] pos) (tSl Fam i t) := by
  refine ⟨fun pins s σ H Q I h => ?_⟩
  obtain ⟨S, r, hS, hs, hok, ht⟩ := h
  refine wpAny_Call_Name_kw (thn ((pe_var (pos := p) hN hv hdb hcd).run pins s σ H (fun v H1 => v = .ref S.f ∧ H1 = H) I ⟨.ref S.f, hs, rfl, rfl⟩) fun u s1 ⟨v, H1, I1, r1, q1⟩ => ?_)
  obtain ⟨rfl, rfl⟩ := q1
  cases r1
  refine PySem.W.callWith_F ((A S hS).at_ _ _ _ I1.kIn I1.hok hok) (thn (ha.run pos pins s1 σ _ _ I1 ht) fun us s2 ⟨vs, H2, I2, rv, q⟩ => ?_) he hpl
  obtain ⟨r', m, a, b, va, vb, e1, e2, e3, q'⟩ := id q
  refine ⟨(A S hS).at_ _ _ _ I2.kIn I2.hok e3, ?_⟩
  refine wpAny_call (codeAny_mono ((A S hS).run X.A X.stack s2 H2 us vs Q L2.E0 (hr.mono hk) I2.env0 rv q) fun r s' hq => ?_)
  cases r with
  | error e => exact False.elim hq
  | ok fl =>
    cases fl with
    | ret u => exact I2.after hq
    | next => exact False.elim hq
    | brk => exact False.elim hq
    | cont => exact False.elim hq
end
/-! ### rows of told things -/
structure DenL (S : Sys) (H : Hp) (vs : List V) (ts : List Tm) : Prop where
  len : vs.length = ts.length
  at_ : ∀ (i : Nat) (v : V) (t : Tm), vs[i]? = some v → ts[i]? = some t → S.den H v t
section
variable {S : Sys} {K : PySem.W.Frag} {H H' : Hp} {vs us : List V} {ts rs : List Tm}
theorem DenL.mono (G : S.Good K) (e : Gr H H') (h : DenL S H vs ts) : DenL S H' vs ts := ⟨h.len, fun i v t a b => G.mono e (h.at_ i v t a b)⟩
theorem DenL.nil : DenL S H [] [] := ⟨rfl, fun i v t a _ => by simp at a⟩
theorem DenL.append (h : DenL S H vs ts) (h' : DenL S H us rs) : DenL S H (vs ++ us) (ts ++ rs) := by
  refine ⟨by rw [List.length_append, List.length_append, h.len, h'.len], fun i v t a b => ?_⟩
  have hl := h.len
  by_cases q : i < vs.length
  · rw [List.getElem?_append_left q] at a
    rw [List.getElem?_append_left (by omega)] at b
    exact h.at_ i v t a b
  · rw [List.getElem?_append_right (by omega)] at a b
    rw [← hl] at b
    exact h'.at_ _ v t a b
theorem DenL.one {v : V} {t : Tm} (h : S.den H v t) : DenL S H [v] [t] := by
  refine ⟨rfl, fun i u r a b => ?_⟩
  cases i with
  | zero =>
    cases a
    cases b
    exact h
  | succ i => simp at a
theorem DenL.cons {v : V} {t : Tm} (h : S.den H v t) (h' : DenL S H vs ts) : DenL S H (v :: vs) (t :: ts) := (DenL.one h).append h'
theorem DenL.take (n : Nat) (h : DenL S H vs ts) : DenL S H (vs.take n) (ts.take n) := by
  refine ⟨by rw [List.length_take, List.length_take, h.len], fun i v t a b => ?_⟩
  rw [List.getElem?_take] at a b
  split at a
  · rename_i q
    rw [if_pos q] at b
    exact h.at_ i v t a b
  · cases a
theorem DenL.drop (n : Nat) (h : DenL S H vs ts) : DenL S H (vs.drop n) (ts.drop n) := by
  refine ⟨by rw [List.length_drop, List.length_drop, h.len], fun i v t a b => ?_⟩
  rw [List.getElem?_drop] at a b
  exact h.at_ _ v t a b
theorem DenL.get (h : DenL S H vs ts) {i : Nat} (hi : i < ts.length) : ∃ v, vs[i]? = some v ∧ S.den H v ts[i] := by
  have hl := h.len
  have hv : i < vs.length := by omega
  exact ⟨vs[i], List.getElem?_eq_getElem hv, h.at_ i _ _ (List.getElem?_eq_getElem hv) (List.getElem?_eq_getElem hi)⟩
/-- the same row told twice -/
theorem DenL.same (G : S.Good K) {n : Nat} : ∀ {vs us : List V} {ts : List Tm}, DenL S H vs ts → DenL S H us ts → (∀ t ∈ ts, t.dep ≤ n) → ∃ ds, DpAll K H vs ds ∧ DpAll K H us ds ∧ PyData.canLayAll0 ds = true ∧ PyData.depthAll ds ≤ n
  | vs, us, [], h, h', _ => by
    have e1 : vs = [] := List.eq_nil_of_length_eq_zero h.len
    have e2 : us = [] := List.eq_nil_of_length_eq_zero h'.len
    subst e1
    subst e2
    exact ⟨[], .nil, .nil, rfl, Nat.zero_le _⟩
  | [], us, t :: ts, h, _, _ => absurd h.len (by simp)
  | v :: vs, [], t :: ts, _, h, _ => absurd h.len (by simp)
  | v :: vs, u :: us, t :: ts, h, h', hd => by
    obtain ⟨d, a1, a2, a3, a4⟩ := G.same (h.at_ 0 v t rfl rfl) (h'.at_ 0 u t rfl rfl)
    have t1 : DenL S H vs ts := h.drop 1
    have t2 : DenL S H us ts := h'.drop 1
    obtain ⟨ds, b1, b2, b3, b4⟩ := DenL.same G t1 t2 fun x hx => hd x (List.mem_cons_of_mem _ hx)
    refine ⟨d :: ds, .cons a1 b1, .cons a2 b2, ?_, ?_⟩
    · rw [PyData.canLayAll0, a3, b3]
      rfl
    · have := hd t List.mem_cons_self
      show max d.depth (PyData.depthAll ds) ≤ n
      omega
end

/-! ### an own error with an __init__ of its own, over an own class of errors without one -/
structure ExcI (K : PySem.W.Frag) (mg : Str → Option Value) (x bx fld qual : Str) (st : Stmt) (ps : List Str) (C B : Addr) : Prop where
  gC : mg x = some (.ref C)
  T : OexC K C
  xf : XfC K C
  no : PySem.W.findIn K (.ref C) fld = some none
  ini : ∃ (fI : Addr) (fd : FuncData), L2.Fun K "__init__" qual st fI fd ∧ PySem.W.findIn K (.ref C) "__init__" = some (some (.ref fI)) ∧ PySem.W.typeIn K (.ref fI) = some (.type "function") ∧ ∀ us : List Value, us.length = ps.length → bindArgs fd ⟨us, []⟩ = pure (ps.zip us)
  cP : ExcC K C
  eP : PySem.W.exmOne K (.ref C) (.ref C) = some true
  gB : mg bx = some (.ref B)
  b1 : PySem.W.specialIn K (.ref B) "__getattribute__" = some (some (.builtin "type.__getattribute__"))
  b2 : PySem.W.readsIn K B (.type "type") = true
  b3 : PySem.W.findCls K (.ref B) (.type "type") "__init__" = some (.val (.builtin "ValueError.__init__"))

structure Zs (mg : Str → Option Value) : Prop where
  len : mg "len" = none
  isinstance : mg "isinstance" = none
  int : mg "int" = none
  dict : mg "dict" = none
  range : mg "range" = none
  str : mg "str" = none
  sorted : mg "sorted" = none
  min : mg "min" = none
  enumerate : mg "enumerate" = none
structure K_Table (K : PySem.W.Frag) (mg : Str → Option Value) (C : Addr) : Prop where
  mgC : mg "Table" = some (.ref C)
  cl : Cls K C
  n_seal : NoAttr K C "seal"
  n_depth : NoAttr K C "depth"
  n_held : NoAttr K C "held"
  ia_ : PySem.W.findIn K (.ref C) "__class__" = some (some (.builtin "object.__class__"))
  in_ : PySem.W.specialIn K (.builtin "object.__class__") "__get__" = some (some (.builtin "getset_descriptor.__get__"))
  it_ : PySem.W.takesIn K (.builtin "object.__class__") = some true
  im_ : PySem.W.mroIn K C (.type "object") = some true
  made : MakD K C "Table.__init__" s_Table___init__ ["self", "seal", "depth"] [.int 8]
  m_asked : MetX K C "asked" "Table.asked" s_Table_asked ["self", "key"]
  m_put : MetX K C "put" "Table.put" s_Table_put ["self", "key", "text"]
  m_cut : MetX K C "cut" "Table.cut" s_Table_cut ["self", "key"]
  m_value : MetX K C "value" "Table.value" s_Table_value ["self", "key"]
  m_rows : MetX K C "rows" "Table.rows" s_Table_rows ["self"]
  m_head : MetX K C "head" "Table.head" s_Table_head ["self"]
structure Txt (K : PySem.W.Frag) (mg : Str → Option Value) (cc : Addr) : Prop where
  d__wall : DefX K mg "_wall" s__wall ["k"]
  d_none_seal : DefX K mg "none_seal" s_none_seal ["seal"]
  d_parted : DefX K mg "parted" s_parted ["rows", "level"]
  d_part_top : DefX K mg "part_top" s_part_top ["seal", "rows", "level"]
  d_table_seal : DefX K mg "table_seal" s_table_seal ["seal", "depth", "top"]
  d_key_of : DefX K mg "key_of" s_key_of ["figures", "depth"]
  d_read_row : DefX K mg "read_row" s_read_row ["row", "depth"]
  d_placed : DefX K mg "placed" s_placed ["row", "place", "depth"]
  d_changed : DefX K mg "changed" s_changed ["table", "text", "depth"]
  d__law_cell_at : DefX K mg "_law_cell_at" s__law_cell_at ["_law_script", "_law_k"]
  d__law_plain : DefX K mg "_law_plain" s__law_plain ["_law_mark", "_law_one", "_law_two"]
  d__law_turned : DefX K mg "_law_turned" s__law_turned ["_law_mark", "_law_one", "_law_two"]
  m__law_numbering : DefM K mg "_law_numbering" s__law_numbering cc
  d__law_seal_by : DefX K mg "_law_seal_by" s__law_seal_by ["_law_script"]
  d__law_draw : DefX K mg "_law_draw" s__law_draw ["_law_cell", "_law_k", "_law_many"]
  d__law_word : DefX K mg "_law_word" s__law_word ["_law_cell"]
  d__law_part : DefX K mg "_law_part" s__law_part ["_law_seal", "_law_rows", "_law_level"]
  d__law_table : DefX K mg "_law_table" s__law_table ["_law_seal", "_law_held", "_law_depth"]
  d__law_text : DefX K mg "_law_text" s__law_text ["_law_cell", "_law_depth", "_law_near"]
  d__law_behind : DefX K mg "_law_behind" s__law_behind ["_law_held", "_law_done"]
  d__law_spoilt : DefX K mg "_law_spoilt" s__law_spoilt ["_law_text_here", "_law_due", "_law_cell"]
  d__law_right : DefX K mg "_law_right" s__law_right ["_law_seal", "_law_table_here", "_law_held", "_law_depth"]
  d_law : DefX K mg "law" s_law ["_law_script"]
  g_BookError : ∃ C, mg "BookError" = some (.ref C)
  x_NoPlace : ExcX K mg "NoPlace"
  y_BadRow : ∃ C B, ExcI K mg "BadRow" "BookError" "row" "BadRow.__init__" s_BadRow___init__ ["self", "row"] C B
  k_Table : ∃ C, K_Table K mg C
  Z : Zs mg
theorem txt_mk {K : PySem.W.Frag} {h : Heap} {mg : Str → Option Value} (X : K.In h) (G : h.Ns mainGlobals mg) {cc f0 f1 f2 f3 f4 f5 f6 f7 f8 f9 f10 f11 f12 f13 f14 f15 f16 f17 f18 f19 f20 f21 f22 C_BookError C_NoPlace C_BadRow C_Table fTable0 dTTable0 fTable1 fTable2 fTable3 fTable4 fTable5 fTable6 : Addr} {od0 an0 od1 an1 od2 an2 od3 an3 od4 an4 od5 an5 od6 an6 od7 an7 od8 an8 od9 an9 od10 an10 od11 an11 od12 an12 od13 an13 od14 an14 od15 an15 od16 an16 od17 an17 od18 an18 od19 an19 od20 an20 od21 an21 od22 an22 odTable0 anTable0 pTTable0 odTable1 anTable1 odTable2 anTable2 odTable3 anTable3 odTable4 anTable4 odTable5 anTable5 odTable6 anTable6 : Option Addr} {sl0 sl1 sl2 sl3 sl4 sl5 sl6 sl7 sl8 sl9 sl10 sl11 sl12 sl13 sl14 sl15 sl16 sl17 sl18 sl19 sl20 sl21 sl22 slTable0 sTTable0 slTable1 slTable2 slTable3 slTable4 slTable5 slTable6 : Array (Option Value)} {oc0 kV0 dc0 pm0 cd0 ct0 oc1 kV1 dc1 pm1 cd1 ct1 oc2 kV2 dc2 pm2 cd2 ct2 oc3 kV3 dc3 pm3 cd3 ct3 oc4 kV4 dc4 pm4 cd4 ct4 oc5 kV5 dc5 pm5 cd5 ct5 oc6 kV6 dc6 pm6 cd6 ct6 oc7 kV7 dc7 pm7 cd7 ct7 oc8 kV8 dc8 pm8 cd8 ct8 oc9 kV9 dc9 pm9 cd9 ct9 oc10 kV10 dc10 pm10 cd10 ct10 oc11 kV11 dc11 pm11 cd11 ct11 oc12 kV12 dc12 pm12 ct12 oc13 kV13 dc13 pm13 cd13 ct13 oc14 kV14 dc14 pm14 cd14 ct14 oc15 kV15 dc15 pm15 cd15 ct15 oc16 kV16 dc16 pm16 cd16 ct16 oc17 kV17 dc17 pm17 cd17 ct17 oc18 kV18 dc18 pm18 cd18 ct18 oc19 kV19 dc19 pm19 cd19 ct19 oc20 kV20 dc20 pm20 cd20 ct20 oc21 kV21 dc21 pm21 cd21 ct21 oc22 kV22 dc22 pm22 cd22 ct22 ocTable0 kVTable0 dcTable0 pmTable0 cdTable0 ctTable0 oTTable0 ocTable1 kVTable1 dcTable1 pmTable1 cdTable1 ctTable1 ocTable2 kVTable2 dcTable2 pmTable2 cdTable2 ctTable2 ocTable3 kVTable3 dcTable3 pmTable3 cdTable3 ctTable3 ocTable4 kVTable4 dcTable4 pmTable4 cdTable4 ctTable4 ocTable5 kVTable5 dcTable5 pmTable5 cdTable5 ctTable5 ocTable6 kVTable6 dcTable6 pmTable6 cdTable6 ctTable6 : Value} {fI_BadRow N_BadRow : Addr} {nm_BadRow qn_BadRow : Str} {bs_BadRow sub_BadRow : List Value} {sn_BadRow : List Str} {ab_BadRow : Bool} {col_BadRow : Option Bool} {dd_BadRow od_BadRow an_BadRow : Option Addr} {m0_BadRow m1_BadRow m2_BadRow m3_BadRow m5_BadRow : Option Value} {oc_BadRow kV_BadRow dc_BadRow pm_BadRow cd_BadRow ct_BadRow : Value} {sl_BadRow : Array (Option Value)} {nTTable0 : Nat} {uTTable0_0 : Tok}
    (a0 : PySem.W.nsIn K mainGlobals "_wall" = some (some (.ref f0))) (l0 : K.lookup f0 = some ⟨oc0, od0, .func (PySem.W.fnOf "_wall" "_wall" (defArgs s__wall) (defBody s__wall) (defScope s__wall) .none kV0 dc0 pm0 an0 cd0 ct0), sl0⟩) (c0 : PySem.W.codeIn K cd0 "_wall" = true) (k0 : PySem.W.keepIn K (.ref f0) = true)
    (a1 : PySem.W.nsIn K mainGlobals "none_seal" = some (some (.ref f1))) (l1 : K.lookup f1 = some ⟨oc1, od1, .func (PySem.W.fnOf "none_seal" "none_seal" (defArgs s_none_seal) (defBody s_none_seal) (defScope s_none_seal) .none kV1 dc1 pm1 an1 cd1 ct1), sl1⟩) (c1 : PySem.W.codeIn K cd1 "none_seal" = true) (k1 : PySem.W.keepIn K (.ref f1) = true)
    (a2 : PySem.W.nsIn K mainGlobals "parted" = some (some (.ref f2))) (l2 : K.lookup f2 = some ⟨oc2, od2, .func (PySem.W.fnOf "parted" "parted" (defArgs s_parted) (defBody s_parted) (defScope s_parted) .none kV2 dc2 pm2 an2 cd2 ct2), sl2⟩) (c2 : PySem.W.codeIn K cd2 "parted" = true) (k2 : PySem.W.keepIn K (.ref f2) = true)
    (a3 : PySem.W.nsIn K mainGlobals "part_top" = some (some (.ref f3))) (l3 : K.lookup f3 = some ⟨oc3, od3, .func (PySem.W.fnOf "part_top" "part_top" (defArgs s_part_top) (defBody s_part_top) (defScope s_part_top) .none kV3 dc3 pm3 an3 cd3 ct3), sl3⟩) (c3 : PySem.W.codeIn K cd3 "part_top" = true) (k3 : PySem.W.keepIn K (.ref f3) = true)
    (a4 : PySem.W.nsIn K mainGlobals "table_seal" = some (some (.ref f4))) (l4 : K.lookup f4 = some ⟨oc4, od4, .func (PySem.W.fnOf "table_seal" "table_seal" (defArgs s_table_seal) (defBody s_table_seal) (defScope s_table_seal) .none kV4 dc4 pm4 an4 cd4 ct4), sl4⟩) (c4 : PySem.W.codeIn K cd4 "table_seal" = true) (k4 : PySem.W.keepIn K (.ref f4) = true)
    (a5 : PySem.W.nsIn K mainGlobals "key_of" = some (some (.ref f5))) (l5 : K.lookup f5 = some ⟨oc5, od5, .func (PySem.W.fnOf "key_of" "key_of" (defArgs s_key_of) (defBody s_key_of) (defScope s_key_of) .none kV5 dc5 pm5 an5 cd5 ct5), sl5⟩) (c5 : PySem.W.codeIn K cd5 "key_of" = true) (k5 : PySem.W.keepIn K (.ref f5) = true)
    (a6 : PySem.W.nsIn K mainGlobals "read_row" = some (some (.ref f6))) (l6 : K.lookup f6 = some ⟨oc6, od6, .func (PySem.W.fnOf "read_row" "read_row" (defArgs s_read_row) (defBody s_read_row) (defScope s_read_row) .none kV6 dc6 pm6 an6 cd6 ct6), sl6⟩) (c6 : PySem.W.codeIn K cd6 "read_row" = true) (k6 : PySem.W.keepIn K (.ref f6) = true)
    (a7 : PySem.W.nsIn K mainGlobals "placed" = some (some (.ref f7))) (l7 : K.lookup f7 = some ⟨oc7, od7, .func (PySem.W.fnOf "placed" "placed" (defArgs s_placed) (defBody s_placed) (defScope s_placed) .none kV7 dc7 pm7 an7 cd7 ct7), sl7⟩) (c7 : PySem.W.codeIn K cd7 "placed" = true) (k7 : PySem.W.keepIn K (.ref f7) = true)
    (a8 : PySem.W.nsIn K mainGlobals "changed" = some (some (.ref f8))) (l8 : K.lookup f8 = some ⟨oc8, od8, .func (PySem.W.fnOf "changed" "changed" (defArgs s_changed) (defBody s_changed) (defScope s_changed) .none kV8 dc8 pm8 an8 cd8 ct8), sl8⟩) (c8 : PySem.W.codeIn K cd8 "changed" = true) (k8 : PySem.W.keepIn K (.ref f8) = true)
    (a9 : PySem.W.nsIn K mainGlobals "_law_cell_at" = some (some (.ref f9))) (l9 : K.lookup f9 = some ⟨oc9, od9, .func (PySem.W.fnOf "_law_cell_at" "_law_cell_at" (defArgs s__law_cell_at) (defBody s__law_cell_at) (defScope s__law_cell_at) .none kV9 dc9 pm9 an9 cd9 ct9), sl9⟩) (c9 : PySem.W.codeIn K cd9 "_law_cell_at" = true) (k9 : PySem.W.keepIn K (.ref f9) = true)
    (a10 : PySem.W.nsIn K mainGlobals "_law_plain" = some (some (.ref f10))) (l10 : K.lookup f10 = some ⟨oc10, od10, .func (PySem.W.fnOf "_law_plain" "_law_plain" (defArgs s__law_plain) (defBody s__law_plain) (defScope s__law_plain) .none kV10 dc10 pm10 an10 cd10 ct10), sl10⟩) (c10 : PySem.W.codeIn K cd10 "_law_plain" = true) (k10 : PySem.W.keepIn K (.ref f10) = true)
    (a11 : PySem.W.nsIn K mainGlobals "_law_turned" = some (some (.ref f11))) (l11 : K.lookup f11 = some ⟨oc11, od11, .func (PySem.W.fnOf "_law_turned" "_law_turned" (defArgs s__law_turned) (defBody s__law_turned) (defScope s__law_turned) .none kV11 dc11 pm11 an11 cd11 ct11), sl11⟩) (c11 : PySem.W.codeIn K cd11 "_law_turned" = true) (k11 : PySem.W.keepIn K (.ref f11) = true)
    (a12 : PySem.W.nsIn K mainGlobals "_law_numbering" = some (some (.ref f12))) (l12 : K.lookup f12 = some ⟨oc12, od12, .func (PySem.W.fnOf "_law_numbering" "_law_numbering" (defArgs s__law_numbering) (defBody s__law_numbering) (defScope s__law_numbering) .none kV12 dc12 pm12 an12 (.ref cc) ct12), sl12⟩) (c12 : PySem.W.codeIn K (.ref cc) "_law_numbering" = true) (k12 : PySem.W.keepIn K (.ref f12) = true)
    (a13 : PySem.W.nsIn K mainGlobals "_law_seal_by" = some (some (.ref f13))) (l13 : K.lookup f13 = some ⟨oc13, od13, .func (PySem.W.fnOf "_law_seal_by" "_law_seal_by" (defArgs s__law_seal_by) (defBody s__law_seal_by) (defScope s__law_seal_by) .none kV13 dc13 pm13 an13 cd13 ct13), sl13⟩) (c13 : PySem.W.codeIn K cd13 "_law_seal_by" = true) (k13 : PySem.W.keepIn K (.ref f13) = true)
    (a14 : PySem.W.nsIn K mainGlobals "_law_draw" = some (some (.ref f14))) (l14 : K.lookup f14 = some ⟨oc14, od14, .func (PySem.W.fnOf "_law_draw" "_law_draw" (defArgs s__law_draw) (defBody s__law_draw) (defScope s__law_draw) .none kV14 dc14 pm14 an14 cd14 ct14), sl14⟩) (c14 : PySem.W.codeIn K cd14 "_law_draw" = true) (k14 : PySem.W.keepIn K (.ref f14) = true)
    (a15 : PySem.W.nsIn K mainGlobals "_law_word" = some (some (.ref f15))) (l15 : K.lookup f15 = some ⟨oc15, od15, .func (PySem.W.fnOf "_law_word" "_law_word" (defArgs s__law_word) (defBody s__law_word) (defScope s__law_word) .none kV15 dc15 pm15 an15 cd15 ct15), sl15⟩) (c15 : PySem.W.codeIn K cd15 "_law_word" = true) (k15 : PySem.W.keepIn K (.ref f15) = true)
    (a16 : PySem.W.nsIn K mainGlobals "_law_part" = some (some (.ref f16))) (l16 : K.lookup f16 = some ⟨oc16, od16, .func (PySem.W.fnOf "_law_part" "_law_part" (defArgs s__law_part) (defBody s__law_part) (defScope s__law_part) .none kV16 dc16 pm16 an16 cd16 ct16), sl16⟩) (c16 : PySem.W.codeIn K cd16 "_law_part" = true) (k16 : PySem.W.keepIn K (.ref f16) = true)
    (a17 : PySem.W.nsIn K mainGlobals "_law_table" = some (some (.ref f17))) (l17 : K.lookup f17 = some ⟨oc17, od17, .func (PySem.W.fnOf "_law_table" "_law_table" (defArgs s__law_table) (defBody s__law_table) (defScope s__law_table) .none kV17 dc17 pm17 an17 cd17 ct17), sl17⟩) (c17 : PySem.W.codeIn K cd17 "_law_table" = true) (k17 : PySem.W.keepIn K (.ref f17) = true)
    (a18 : PySem.W.nsIn K mainGlobals "_law_text" = some (some (.ref f18))) (l18 : K.lookup f18 = some ⟨oc18, od18, .func (PySem.W.fnOf "_law_text" "_law_text" (defArgs s__law_text) (defBody s__law_text) (defScope s__law_text) .none kV18 dc18 pm18 an18 cd18 ct18), sl18⟩) (c18 : PySem.W.codeIn K cd18 "_law_text" = true) (k18 : PySem.W.keepIn K (.ref f18) = true)
    (a19 : PySem.W.nsIn K mainGlobals "_law_behind" = some (some (.ref f19))) (l19 : K.lookup f19 = some ⟨oc19, od19, .func (PySem.W.fnOf "_law_behind" "_law_behind" (defArgs s__law_behind) (defBody s__law_behind) (defScope s__law_behind) .none kV19 dc19 pm19 an19 cd19 ct19), sl19⟩) (c19 : PySem.W.codeIn K cd19 "_law_behind" = true) (k19 : PySem.W.keepIn K (.ref f19) = true)
    (a20 : PySem.W.nsIn K mainGlobals "_law_spoilt" = some (some (.ref f20))) (l20 : K.lookup f20 = some ⟨oc20, od20, .func (PySem.W.fnOf "_law_spoilt" "_law_spoilt" (defArgs s__law_spoilt) (defBody s__law_spoilt) (defScope s__law_spoilt) .none kV20 dc20 pm20 an20 cd20 ct20), sl20⟩) (c20 : PySem.W.codeIn K cd20 "_law_spoilt" = true) (k20 : PySem.W.keepIn K (.ref f20) = true)
    (a21 : PySem.W.nsIn K mainGlobals "_law_right" = some (some (.ref f21))) (l21 : K.lookup f21 = some ⟨oc21, od21, .func (PySem.W.fnOf "_law_right" "_law_right" (defArgs s__law_right) (defBody s__law_right) (defScope s__law_right) .none kV21 dc21 pm21 an21 cd21 ct21), sl21⟩) (c21 : PySem.W.codeIn K cd21 "_law_right" = true) (k21 : PySem.W.keepIn K (.ref f21) = true)
    (a22 : PySem.W.nsIn K mainGlobals "law" = some (some (.ref f22))) (l22 : K.lookup f22 = some ⟨oc22, od22, .func (PySem.W.fnOf "law" "law" (defArgs s_law) (defBody s_law) (defScope s_law) .none kV22 dc22 pm22 an22 cd22 ct22), sl22⟩) (c22 : PySem.W.codeIn K cd22 "law" = true) (k22 : PySem.W.keepIn K (.ref f22) = true)
    (z_len : PySem.W.nsIn K mainGlobals "len" = some none)
    (z_isinstance : PySem.W.nsIn K mainGlobals "isinstance" = some none)
    (z_int : PySem.W.nsIn K mainGlobals "int" = some none)
    (z_dict : PySem.W.nsIn K mainGlobals "dict" = some none)
    (z_range : PySem.W.nsIn K mainGlobals "range" = some none)
    (z_str : PySem.W.nsIn K mainGlobals "str" = some none)
    (z_sorted : PySem.W.nsIn K mainGlobals "sorted" = some none)
    (z_min : PySem.W.nsIn K mainGlobals "min" = some none)
    (z_enumerate : PySem.W.nsIn K mainGlobals "enumerate" = some none)
    (g_BookError : PySem.W.nsIn K mainGlobals "BookError" = some (some (.ref C_BookError)))
    (g_NoPlace : PySem.W.nsIn K mainGlobals "NoPlace" = some (some (.ref C_NoPlace)))
    (xP_NoPlace : PySem.W.excIn K C_NoPlace [.type "ValueError", .type "Exception", .type "BaseException", .type "object"] "ValueError.__new__" = true)
    (kP_NoPlace : PySem.W.keepIn K (.ref C_NoPlace) = true)
    (bP_NoPlace : PySem.W.subIn K (.ref C_NoPlace) (.type "BaseException") = some true)
    (tP_NoPlace : PySem.W.typeIn K (.ref C_NoPlace) = some (.type "type"))
    (hg_NoPlace : PySem.W.findIn K (.ref C_NoPlace) "__getattribute__" = some (some (.builtin "BaseException.__getattribute__")))
    (hk_NoPlace : PySem.W.findIn K (.ref C_NoPlace) "__getattr__" = some none)
    (hd_NoPlace : PySem.W.hasDictIn K C_NoPlace = true)
    (ha_NoPlace : PySem.W.findIn K (.ref C_NoPlace) "__class__" = some (some (.builtin "object.__class__")))
    (hn_NoPlace : PySem.W.specialIn K (.builtin "object.__class__") "__get__" = some (some (.builtin "getset_descriptor.__get__")))
    (ht_NoPlace : PySem.W.takesIn K (.builtin "object.__class__") = some true)
    (hm_NoPlace : PySem.W.mroIn K C_NoPlace (.type "object") = some true)
    (ex_NoPlace : PySem.W.exmOne K (.ref C_NoPlace) (.ref C_NoPlace) = some true)
    (g_BadRow : PySem.W.nsIn K mainGlobals "BadRow" = some (some (.ref C_BadRow)))
    (xL_BadRow : K.lookup C_BadRow = some (excClassObj nm_BadRow qn_BadRow C_BadRow N_BadRow bs_BadRow [.ref C_BookError, .type "ValueError", .type "Exception", .type "BaseException", .type "object"] true sn_BadRow sub_BadRow ab_BadRow col_BadRow dd_BadRow m0_BadRow m1_BadRow m2_BadRow m3_BadRow m5_BadRow "ValueError.__new__"))
    (sa_BadRow : PySem.W.findIn K (.ref C_BadRow) "__setattr__" = some (some (.builtin "object.__setattr__")))
    (ga_BadRow : PySem.W.findIn K (.ref C_BadRow) "__getattribute__" = some (some (.builtin "BaseException.__getattribute__")))
    (gg_BadRow : PySem.W.findIn K (.ref C_BadRow) "__getattr__" = some none)
    (nf_BadRow : PySem.W.findIn K (.ref C_BadRow) "row" = some none)
    (kC_BadRow : PySem.W.keepIn K (.ref C_BadRow) = true)
    (eC_BadRow : PySem.W.subIn K (.ref C_BadRow) (.type "BaseException") = some true)
    (tC_BadRow : PySem.W.typeIn K (.ref C_BadRow) = some (.type "type"))
    (hC_BadRow : PySem.W.hasDictIn K C_BadRow = true)
    (iac_BadRow : PySem.W.findIn K (.ref C_BadRow) "__class__" = some (some (.builtin "object.__class__")))
    (xm_BadRow : PySem.W.mroIn K C_BadRow (.type "object") = some true)
    (xe_BadRow : PySem.W.exmOne K (.ref C_BadRow) (.ref C_BadRow) = some true)
    (fi_BadRow : PySem.W.findIn K (.ref C_BadRow) "__init__" = some (some (.ref fI_BadRow)))
    (ti_BadRow : PySem.W.typeIn K (.ref fI_BadRow) = some (.type "function"))
    (bg_BadRow : PySem.W.specialIn K (.ref C_BookError) "__getattribute__" = some (some (.builtin "type.__getattribute__")))
    (br_BadRow : PySem.W.readsIn K C_BookError (.type "type") = true)
    (bf_BadRow : PySem.W.findCls K (.ref C_BookError) (.type "type") "__init__" = some (.val (.builtin "ValueError.__init__")))
    (xn_BadRow : PySem.W.specialIn K (.builtin "object.__class__") "__get__" = some (some (.builtin "getset_descriptor.__get__")))
    (xt_BadRow : PySem.W.takesIn K (.builtin "object.__class__") = some true)
    (li_BadRow : K.lookup fI_BadRow = some ⟨oc_BadRow, od_BadRow, .func (PySem.W.fnOf "__init__" "BadRow.__init__" (defArgs s_BadRow___init__) (defBody s_BadRow___init__) (defScope s_BadRow___init__) .none kV_BadRow dc_BadRow pm_BadRow an_BadRow cd_BadRow ct_BadRow), sl_BadRow⟩) (ci_BadRow : PySem.W.codeIn K cd_BadRow "BadRow.__init__" = true) (ki_BadRow : PySem.W.keepIn K (.ref fI_BadRow) = true)
    (g_Table : PySem.W.nsIn K mainGlobals "Table" = some (some (.ref C_Table)))
    (pg_Table : PySem.W.plainGet K C_Table Str.empty = true)
    (hd_Table : PySem.W.hasDictIn K C_Table = true)
    (po_Table : PySem.W.plainOver K C_Table = true)
    (sa_Table : PySem.W.findIn K (.ref C_Table) "__setattr__" = some (some (.builtin "object.__setattr__")))
    (n_Table_seal : PySem.W.findIn K (.ref C_Table) "seal" = some none)
    (n_Table_depth : PySem.W.findIn K (.ref C_Table) "depth" = some none)
    (n_Table_held : PySem.W.findIn K (.ref C_Table) "held" = some none)
    (ia_Table : PySem.W.findIn K (.ref C_Table) "__class__" = some (some (.builtin "object.__class__")))
    (in_Table : PySem.W.specialIn K (.builtin "object.__class__") "__get__" = some (some (.builtin "getset_descriptor.__get__")))
    (it_Table : PySem.W.takesIn K (.builtin "object.__class__") = some true)
    (im_Table : PySem.W.mroIn K C_Table (.type "object") = some true)
    (aTable0 : PySem.W.findIn K (.ref C_Table) "__init__" = some (some (.ref fTable0))) (iTable0 : PySem.W.isFn K (.ref fTable0) = true) (lTable0 : K.lookup fTable0 = some ⟨ocTable0, odTable0, .func (PySem.W.fnOf "__init__" "Table.__init__" (defArgs s_Table___init__) (defBody s_Table___init__) (defScope s_Table___init__) (.ref dTTable0) kVTable0 dcTable0 pmTable0 anTable0 cdTable0 ctTable0), slTable0⟩) (cTable0 : PySem.W.codeIn K cdTable0 "Table.__init__" = true) (kTable0 : PySem.W.keepIn K (.ref fTable0) = true)
    (dTable0 : K.lookup dTTable0 = some ⟨oTTable0, pTTable0, .seq #[.int 8 uTTable0_0] nTTable0, sTTable0⟩)
    (mk_Table : PySem.W.makesIn K C_Table = true) (kc_Table : PySem.W.keepIn K (.ref C_Table) = true)
    (aTable1 : PySem.W.findIn K (.ref C_Table) "asked" = some (some (.ref fTable1))) (iTable1 : PySem.W.isFn K (.ref fTable1) = true) (lTable1 : K.lookup fTable1 = some ⟨ocTable1, odTable1, .func (PySem.W.fnOf "asked" "Table.asked" (defArgs s_Table_asked) (defBody s_Table_asked) (defScope s_Table_asked) .none kVTable1 dcTable1 pmTable1 anTable1 cdTable1 ctTable1), slTable1⟩) (cTable1 : PySem.W.codeIn K cdTable1 "Table.asked" = true) (kTable1 : PySem.W.keepIn K (.ref fTable1) = true)
    (aTable2 : PySem.W.findIn K (.ref C_Table) "put" = some (some (.ref fTable2))) (iTable2 : PySem.W.isFn K (.ref fTable2) = true) (lTable2 : K.lookup fTable2 = some ⟨ocTable2, odTable2, .func (PySem.W.fnOf "put" "Table.put" (defArgs s_Table_put) (defBody s_Table_put) (defScope s_Table_put) .none kVTable2 dcTable2 pmTable2 anTable2 cdTable2 ctTable2), slTable2⟩) (cTable2 : PySem.W.codeIn K cdTable2 "Table.put" = true) (kTable2 : PySem.W.keepIn K (.ref fTable2) = true)
    (aTable3 : PySem.W.findIn K (.ref C_Table) "cut" = some (some (.ref fTable3))) (iTable3 : PySem.W.isFn K (.ref fTable3) = true) (lTable3 : K.lookup fTable3 = some ⟨ocTable3, odTable3, .func (PySem.W.fnOf "cut" "Table.cut" (defArgs s_Table_cut) (defBody s_Table_cut) (defScope s_Table_cut) .none kVTable3 dcTable3 pmTable3 anTable3 cdTable3 ctTable3), slTable3⟩) (cTable3 : PySem.W.codeIn K cdTable3 "Table.cut" = true) (kTable3 : PySem.W.keepIn K (.ref fTable3) = true)
    (aTable4 : PySem.W.findIn K (.ref C_Table) "value" = some (some (.ref fTable4))) (iTable4 : PySem.W.isFn K (.ref fTable4) = true) (lTable4 : K.lookup fTable4 = some ⟨ocTable4, odTable4, .func (PySem.W.fnOf "value" "Table.value" (defArgs s_Table_value) (defBody s_Table_value) (defScope s_Table_value) .none kVTable4 dcTable4 pmTable4 anTable4 cdTable4 ctTable4), slTable4⟩) (cTable4 : PySem.W.codeIn K cdTable4 "Table.value" = true) (kTable4 : PySem.W.keepIn K (.ref fTable4) = true)
    (aTable5 : PySem.W.findIn K (.ref C_Table) "rows" = some (some (.ref fTable5))) (iTable5 : PySem.W.isFn K (.ref fTable5) = true) (lTable5 : K.lookup fTable5 = some ⟨ocTable5, odTable5, .func (PySem.W.fnOf "rows" "Table.rows" (defArgs s_Table_rows) (defBody s_Table_rows) (defScope s_Table_rows) .none kVTable5 dcTable5 pmTable5 anTable5 cdTable5 ctTable5), slTable5⟩) (cTable5 : PySem.W.codeIn K cdTable5 "Table.rows" = true) (kTable5 : PySem.W.keepIn K (.ref fTable5) = true)
    (aTable6 : PySem.W.findIn K (.ref C_Table) "head" = some (some (.ref fTable6))) (iTable6 : PySem.W.isFn K (.ref fTable6) = true) (lTable6 : K.lookup fTable6 = some ⟨ocTable6, odTable6, .func (PySem.W.fnOf "head" "Table.head" (defArgs s_Table_head) (defBody s_Table_head) (defScope s_Table_head) .none kVTable6 dcTable6 pmTable6 anTable6 cdTable6 ctTable6), slTable6⟩) (cTable6 : PySem.W.codeIn K cdTable6 "Table.head" = true) (kTable6 : PySem.W.keepIn K (.ref fTable6) = true)
    : Txt K mg cc := by
  exact ⟨⟨⟨_, _, fun_mk (st := s__wall) l0 c0 k0, PySem.W.mg_of X G a0, fun us hl => match us, hl with | [_], _ => rfl⟩⟩,
    ⟨⟨_, _, fun_mk (st := s_none_seal) l1 c1 k1, PySem.W.mg_of X G a1, fun us hl => match us, hl with | [_], _ => rfl⟩⟩,
    ⟨⟨_, _, fun_mk (st := s_parted) l2 c2 k2, PySem.W.mg_of X G a2, fun us hl => match us, hl with | [_, _], _ => rfl⟩⟩,
    ⟨⟨_, _, fun_mk (st := s_part_top) l3 c3 k3, PySem.W.mg_of X G a3, fun us hl => match us, hl with | [_, _, _], _ => rfl⟩⟩,
    ⟨⟨_, _, fun_mk (st := s_table_seal) l4 c4 k4, PySem.W.mg_of X G a4, fun us hl => match us, hl with | [_, _, _], _ => rfl⟩⟩,
    ⟨⟨_, _, fun_mk (st := s_key_of) l5 c5 k5, PySem.W.mg_of X G a5, fun us hl => match us, hl with | [_, _], _ => rfl⟩⟩,
    ⟨⟨_, _, fun_mk (st := s_read_row) l6 c6 k6, PySem.W.mg_of X G a6, fun us hl => match us, hl with | [_, _], _ => rfl⟩⟩,
    ⟨⟨_, _, fun_mk (st := s_placed) l7 c7 k7, PySem.W.mg_of X G a7, fun us hl => match us, hl with | [_, _, _], _ => rfl⟩⟩,
    ⟨⟨_, _, fun_mk (st := s_changed) l8 c8 k8, PySem.W.mg_of X G a8, fun us hl => match us, hl with | [_, _, _], _ => rfl⟩⟩,
    ⟨⟨_, _, fun_mk (st := s__law_cell_at) l9 c9 k9, PySem.W.mg_of X G a9, fun us hl => match us, hl with | [_, _], _ => rfl⟩⟩,
    ⟨⟨_, _, fun_mk (st := s__law_plain) l10 c10 k10, PySem.W.mg_of X G a10, fun us hl => match us, hl with | [_, _, _], _ => rfl⟩⟩,
    ⟨⟨_, _, fun_mk (st := s__law_turned) l11 c11 k11, PySem.W.mg_of X G a11, fun us hl => match us, hl with | [_, _, _], _ => rfl⟩⟩,
    ⟨⟨_, _, _, _, _, _, _, _, _, l12, c12, k12, PySem.W.mg_of X G a12⟩⟩,
    ⟨⟨_, _, fun_mk (st := s__law_seal_by) l13 c13 k13, PySem.W.mg_of X G a13, fun us hl => match us, hl with | [_], _ => rfl⟩⟩,
    ⟨⟨_, _, fun_mk (st := s__law_draw) l14 c14 k14, PySem.W.mg_of X G a14, fun us hl => match us, hl with | [_, _, _], _ => rfl⟩⟩,
    ⟨⟨_, _, fun_mk (st := s__law_word) l15 c15 k15, PySem.W.mg_of X G a15, fun us hl => match us, hl with | [_], _ => rfl⟩⟩,
    ⟨⟨_, _, fun_mk (st := s__law_part) l16 c16 k16, PySem.W.mg_of X G a16, fun us hl => match us, hl with | [_, _, _], _ => rfl⟩⟩,
    ⟨⟨_, _, fun_mk (st := s__law_table) l17 c17 k17, PySem.W.mg_of X G a17, fun us hl => match us, hl with | [_, _, _], _ => rfl⟩⟩,
    ⟨⟨_, _, fun_mk (st := s__law_text) l18 c18 k18, PySem.W.mg_of X G a18, fun us hl => match us, hl with | [_, _, _], _ => rfl⟩⟩,
    ⟨⟨_, _, fun_mk (st := s__law_behind) l19 c19 k19, PySem.W.mg_of X G a19, fun us hl => match us, hl with | [_, _], _ => rfl⟩⟩,
    ⟨⟨_, _, fun_mk (st := s__law_spoilt) l20 c20 k20, PySem.W.mg_of X G a20, fun us hl => match us, hl with | [_, _, _], _ => rfl⟩⟩,
    ⟨⟨_, _, fun_mk (st := s__law_right) l21 c21 k21, PySem.W.mg_of X G a21, fun us hl => match us, hl with | [_, _, _, _], _ => rfl⟩⟩,
    ⟨⟨_, _, fun_mk (st := s_law) l22 c22 k22, PySem.W.mg_of X G a22, fun us hl => match us, hl with | [_], _ => rfl⟩⟩,
    ⟨C_BookError, PySem.W.mg_of X G g_BookError⟩,
    ⟨⟨C_NoPlace, PySem.W.mg_of X G g_NoPlace, xP_NoPlace, kP_NoPlace, bP_NoPlace, tP_NoPlace, ⟨hg_NoPlace, hk_NoPlace, bP_NoPlace, hd_NoPlace, ha_NoPlace, hn_NoPlace, ht_NoPlace, hm_NoPlace⟩, ex_NoPlace⟩⟩,
    ⟨C_BadRow, C_BookError, ⟨PySem.W.mg_of X G g_BadRow, ⟨⟨_, _, _, _, _, _, _, _, _, _, _, _, _, _, _, xL_BadRow, rfl⟩, sa_BadRow, eC_BadRow, tC_BadRow, kC_BadRow⟩, ⟨ga_BadRow, gg_BadRow, eC_BadRow, hC_BadRow⟩, nf_BadRow, ⟨_, _, fun_mk (st := s_BadRow___init__) li_BadRow ci_BadRow ki_BadRow, fi_BadRow, ti_BadRow, fun us hl => match us, hl with | [_, _], _ => rfl⟩, ⟨ga_BadRow, gg_BadRow, eC_BadRow, hC_BadRow, iac_BadRow, xn_BadRow, xt_BadRow, xm_BadRow⟩, xe_BadRow, PySem.W.mg_of X G g_BookError, bg_BadRow, br_BadRow, bf_BadRow⟩⟩,
    ⟨C_Table, ⟨PySem.W.mg_of X G g_Table,
      ⟨pg_Table, hd_Table, po_Table, sa_Table⟩,
      n_Table_seal,
      n_Table_depth,
      n_Table_held,
      ia_Table,
      in_Table,
      it_Table,
      im_Table,
      ⟨⟨_, _, ⟨⟨_, _, _, _, _, _, _, _, _, _, rfl, lTable0, cTable0, .inr ⟨by simp, dTTable0, _, _, _, rfl, dTable0, rfl, (.cons ⟨_, rfl⟩ .nil)⟩, .inl rfl⟩, kTable0⟩, ⟨mk_Table, aTable0, iTable0, kc_Table⟩⟩⟩,
      ⟨⟨_, _, fun_mk (st := s_Table_asked) lTable1 cTable1 kTable1, ⟨aTable1, iTable1, kTable1⟩, fun us hl => match us, hl with | [_, _], _ => rfl⟩⟩,
      ⟨⟨_, _, fun_mk (st := s_Table_put) lTable2 cTable2 kTable2, ⟨aTable2, iTable2, kTable2⟩, fun us hl => match us, hl with | [_, _, _], _ => rfl⟩⟩,
      ⟨⟨_, _, fun_mk (st := s_Table_cut) lTable3 cTable3 kTable3, ⟨aTable3, iTable3, kTable3⟩, fun us hl => match us, hl with | [_, _], _ => rfl⟩⟩,
      ⟨⟨_, _, fun_mk (st := s_Table_value) lTable4 cTable4 kTable4, ⟨aTable4, iTable4, kTable4⟩, fun us hl => match us, hl with | [_, _], _ => rfl⟩⟩,
      ⟨⟨_, _, fun_mk (st := s_Table_rows) lTable5 cTable5 kTable5, ⟨aTable5, iTable5, kTable5⟩, fun us hl => match us, hl with | [_], _ => rfl⟩⟩,
      ⟨⟨_, _, fun_mk (st := s_Table_head) lTable6 cTable6 kTable6, ⟨aTable6, iTable6, kTable6⟩, fun us hl => match us, hl with | [_], _ => rfl⟩⟩⟩⟩, ⟨PySem.W.mg_none_of X G z_len, PySem.W.mg_none_of X G z_isinstance, PySem.W.mg_none_of X G z_int, PySem.W.mg_none_of X G z_dict, PySem.W.mg_none_of X G z_range, PySem.W.mg_none_of X G z_str, PySem.W.mg_none_of X G z_sorted, PySem.W.mg_none_of X G z_min, PySem.W.mg_none_of X G z_enumerate⟩⟩
/-! ### seals that make a tuple of their three things -/
inductive DenP (tf : Str → V → V → List V) (H : Hp) : V → Tm → Prop
  | int (i : Int) : DenP tf H (.int i) (.int i)
  | str (x : Str) (h : txtOk x = true) : DenP tf H (.str x) (.str x)
  | sl {p : Addr} {m : Str} {va vb : V} {a b : Tm} (hm : txtOk m = true) (h : H p = some (.tup (tf m va vb))) (ha : DenP tf H va a) (hb : DenP tf H vb b) : DenP tf H (.ref p) (.sl m a b)
theorem DenP.mono {tf : Str → V → V → List V} {H H' : Hp} (e : Gr H H') {v : V} {t : Tm} (h : DenP tf H v t) : DenP tf H' v t := by
  induction h with
  | int i => exact .int i
  | str x h => exact .str x h
  | sl hm h _ _ iha ihb => exact .sl hm (e.keep _ _ h True.intro fun _ z => nomatch z) iha ihb
def tfP (m : Str) (a b : V) : List V := [.str m, a, b]
def tfT (m : Str) (a b : V) : List V := [.str "seal of", b, a, .str m]
def datP : Tm → PyData
  | .int i => .int i
  | .str x => .str x
  | .sl m a b => .tuple [.str m, datP a, datP b]
def datT : Tm → PyData
  | .int i => .int i
  | .str x => .str x
  | .sl m a b => .tuple [.str "seal of", datT b, datT a, .str m]
theorem DenP.dp {K : PySem.W.Frag} {H : Hp} {v : V} {t : Tm} (h : DenP tfP H v t) : Dp K H v (datP t) ∧ (datP t).canLay0 = true ∧ (datP t).depth ≤ t.dep := by
  induction h with
  | int i => exact ⟨.int i, rfl, Nat.le_refl _⟩
  | str x h => exact ⟨.str x, h, Nat.le_refl _⟩
  | @sl p m va vb a b hm h _ _ iha ihb =>
    obtain ⟨a1, a2, a3⟩ := iha
    obtain ⟨b1, b2, b3⟩ := ihb
    refine ⟨.tup (SqT.of h) (.cons (.str m) (.cons a1 (.cons b1 .nil))), ?_, ?_⟩
    · show (PySem.PyData.strOk m && ((datP a).canLay0 && ((datP b).canLay0 && true))) = true
      rw [show PySem.PyData.strOk m = true from hm, a2, b2]
      rfl
    · show max 0 (max (datP a).depth (max (datP b).depth 0)) + 1 ≤ max a.dep b.dep + 1
      omega
theorem DenP.dt {K : PySem.W.Frag} {H : Hp} {v : V} {t : Tm} (h : DenP tfT H v t) : Dp K H v (datT t) ∧ (datT t).canLay0 = true ∧ (datT t).depth ≤ t.dep := by
  induction h with
  | int i => exact ⟨.int i, rfl, Nat.le_refl _⟩
  | str x h => exact ⟨.str x, h, Nat.le_refl _⟩
  | @sl p m va vb a b hm h _ _ iha ihb =>
    obtain ⟨a1, a2, a3⟩ := iha
    obtain ⟨b1, b2, b3⟩ := ihb
    refine ⟨.tup (SqT.of h) (.cons (.str _) (.cons b1 (.cons a1 (.cons (.str m) .nil)))), ?_, ?_⟩
    · show (PySem.PyData.strOk "seal of" && ((datT b).canLay0 && ((datT a).canLay0 && (PySem.PyData.strOk m && true)))) = true
      rw [show PySem.PyData.strOk m = true from hm, a2, b2]
      decide +kernel
    · show max 0 (max (datT b).depth (max (datT a).depth (max 0 0))) + 1 ≤ max a.dep b.dep + 1
      omega
def plainSys (tf : Str → V → V → List V) (f : Addr) : Sys := ⟨f, fun H v t => DenP tf H v t, fun _ _ => True⟩
theorem goodP {K : PySem.W.Frag} (f : Addr) : (plainSys tfP f).Good K :=
  ⟨fun e h => h.mono e, fun _ _ => trivial, fun _ _ => trivial, fun i _ => .int i, fun x _ h => .str x h, fun h h' => ⟨_, DenP.dp h |>.1, DenP.dp h' |>.1, (DenP.dp (K := K) h).2.1, (DenP.dp (K := K) h).2.2⟩⟩
theorem goodT {K : PySem.W.Frag} (f : Addr) : (plainSys tfT f).Good K :=
  ⟨fun e h => h.mono e, fun _ _ => trivial, fun _ _ => trivial, fun i _ => .int i, fun x _ h => .str x h, fun h h' => ⟨_, DenP.dt h |>.1, DenP.dt h' |>.1, (DenP.dt (K := K) h).2.1, (DenP.dt (K := K) h).2.2⟩⟩
section
variable {P : Program} {w : World} {K : PySem.W.Frag} {mg : Str → Option Value} {base : Heap}
theorem fnAt_fun {x qual : Str} {st : Stmt} {f : Addr} {fd : FuncData} (F : L2.Fun K x qual st f fd) {h : Heap} (X : K.In h) : PySem.W.FnAt f h := by
  obtain ⟨oc, od, kV, doc, pm, an, cdv, ct, osl, rfl, lk, _⟩ := F.ex
  exact ⟨_, _, _, _, X _ _ lk⟩
def spTup (tf : Str → V → V → List V) : Sp := fun vs H Q _ => ∃ m a b, vs = [.str m, a, b] ∧ ∀ p, H p = none → Q (.ref p) (upd H p (.tup (tf m a b)))
theorem held_plain {tf : Str → V → V → List V} {x : Str} {st : Stmt} {ps : List Str} {f : Addr} {fd : FuncData} (F : L2.Fun K x x st f fd) (b : ∀ us : List Value, us.length = ps.length → bindArgs fd ⟨us, []⟩ = pure (ps.zip us)) (G : FnOk P w K mg base L2.CX0 1 f fd ps (spTup tf)) :
    HeldSl P w K mg base 1 (plainSys tf f) := by
  refine ⟨fun H h r X _ _ => fnAt_fun F X, fun A outer s H us vs Q E hr e0 rv h => ?_⟩
  obtain ⟨r, m, a, b', va, vb, rfl, hm, _, ha, hb, q⟩ := h
  have hsp : spTup tf [.str m, va, vb] H Q E := ⟨m, va, vb, rfl, fun p hp => q _ _ (Ext.new hp) True.intro (.sl hm upd_same (ha.mono (Kp.new hp).gr) (hb.mono (Kp.new hp).gr))⟩
  have hl : us.length = ps.length := by rw [← rv.length]; exact G.len _ _ _ _ hsp
  exact G.run A outer s H ⟨us, []⟩ us _ Q E hr e0 (.of_eq (b us hl)) rv hsp

/-! ### a seal that numbers its threes -/
def tab (ks : List (List Key)) : List (List Key × V) := ks.zipIdx.map fun p => (p.1, V.int ((p.2 : Nat) : Int))
theorem tab_snoc (ks : List (List Key)) (k : List Key) : tab (ks ++ [k]) = tab ks ++ [(k, V.int ((ks.length : Nat) : Int))] := by
  unfold tab
  rw [List.zipIdx_append, List.map_append]
  simp
theorem tab_len (ks : List (List Key)) : (tab ks).length = ks.length := by
  unfold tab
  rw [List.length_map, List.length_zipIdx]
theorem valV_app {κ : Type} [DecidableEq κ] (k : κ) : ∀ (l r : List (κ × V)) {v : V}, valV l k = some v → valV (l ++ r) k = some v
  | [], _, _, h => by cases h
  | p :: l, r, v, h => by
    by_cases e : p.1 = k
    · rw [valV_pos e] at h
      rw [List.cons_append, valV_pos e]
      exact h
    · rw [valV_neg e] at h
      rw [List.cons_append, valV_neg e]
      exact valV_app k l r h
theorem tab_at {ks : List (List Key)} {k : List Key} {v : V} (h : valV (tab ks) k = some v) : ∃ n : Nat, v = .int (n : Int) ∧ ks[n]? = some k := by
  unfold valV at h
  obtain ⟨p, hp, rfl⟩ := Option.map_eq_some_iff.mp h
  have h1 := List.mem_of_find?_eq_some hp
  have h2 : decide (p.1 = k) = true := List.find?_some (p := fun kv : List Key × V => decide (kv.1 = k)) hp
  obtain ⟨q, hq, rfl⟩ := List.mem_map.mp h1
  refine ⟨q.2, rfl, ?_⟩
  have h3 : q.1 = k := of_decide_eq_true h2
  have h4 := List.mk_mem_zipIdx_iff_getElem?.mp (show (q.1, q.2) ∈ ks.zipIdx from hq)
  rw [h4, h3]
inductive DenN (kvs : List (List Key × V)) : Key → Tm → Prop
  | int (i : Int) : DenN kvs (.inl i) (.int i)
  | str (x : Str) (h : txtOk x = true) : DenN kvs (.inr x) (.str x)
  | sl {m : Str} {ka kb : Key} {a b : Tm} {n : Int} (ha : DenN kvs ka a) (hb : DenN kvs kb b) (h : valV kvs [.inr m, ka, kb] = some (.int n)) : DenN kvs (.inl n) (.sl m a b)
theorem DenN.app {kvs more : List (List Key × V)} {k : Key} {t : Tm} (h : DenN kvs k t) : DenN (kvs ++ more) k t := by
  induction h with
  | int i => exact .int i
  | str x h => exact .str x h
  | sl _ _ h iha ihb => exact .sl iha ihb (valV_app _ _ _ h)
theorem DenN.fn {kvs : List (List Key × V)} {k : Key} {t : Tm} (h : DenN kvs k t) : ∀ {k'}, DenN kvs k' t → k = k' := by
  induction h with
  | int i => intro k' h'; cases h'; rfl
  | str x h => intro k' h'; cases h'; rfl
  | sl _ _ h iha ihb =>
    intro k' h'
    cases h' with
    | sl ha' hb' h' =>
      rw [← iha ha', ← ihb hb', h] at h'
      cases h'
      rfl
theorem DenN.lay {kvs : List (List Key × V)} {k : Key} {t : Tm} (h : DenN kvs k t) (K : PySem.W.Frag) (H : Hp) : ∃ d, Dp K H (kV k) d ∧ d.canLay0 = true ∧ d.depth = 0 := by
  cases h with
  | int i => exact ⟨.int i, .int i, rfl, rfl⟩
  | str x h => exact ⟨.str x, .str x, h, rfl⟩
  | sl _ _ _ => exact ⟨.int _, .int _, rfl, rfl⟩
/-- the cell at c holds the dict at d -/
def CellO (c d : Addr) : HO := .ext fun h => h.IsCell c (some (.ref d))
theorem cellO_at {H : Hp} {h : Heap} {c d : Addr} (hok : HOk P w H h) (e : H c = some (CellO c d)) : h.IsCell c (some (.ref d)) := (hok c _ e).1
theorem cellO_ok {H : Hp} {h : Heap} {c d : Addr} (e : h.IsCell c (some (.ref d))) : ObjOk P w H h c (CellO c d) := by
  obtain ⟨o, ho, hd⟩ := id e
  exact ⟨e, ⟨o, ho⟩, fun h1 h2 ⟨o', ho', hd'⟩ st => ⟨o', st _ ho', hd'⟩⟩
structure NumD where
  f : Addr
  q : Str
  c : Addr
  c0 : Addr
  d : Addr
abbrev NumD.F (N : NumD) : NdefX.NF := NdefX.NF.of s__law_numbering__law_numbered "_law_numbered" N.q [("_law_told", N.c0)] N.c
structure NumOk (N : NumD) (H : Hp) (r : Nat) : Prop where
  dict : ∃ ks, H N.d = some (.dT (tab ks)) ∧ ks.length + r ≤ sizeLine
  fn : H N.f = some (NdefX.FnO N.f N.F)
  code : H N.c = some (LamX.CodeO N.c N.q)
  cell : H N.c0 = some (CellO N.c0 N.d)
def numSys (N : NumD) : Sys := ⟨N.f, fun H v t => ∃ kvs k, H N.d = some (.dT kvs) ∧ DenN kvs k t ∧ v = kV k, fun H r => NumOk N H r⟩
theorem goodN (N : NumD) : (numSys N).Good K := by
  refine ⟨?_, ?_, ?_, ?_, ?_, ?_⟩
  · rintro H H' v t e ⟨kvs, k, hd, hk, rfl⟩
    obtain ⟨more, e1⟩ := e.grow _ _ hd
    exact ⟨_, k, e1, hk.app, rfl⟩
  · rintro H H' r e ⟨⟨ks, h1, h2⟩, h3, h4, h5⟩
    exact ⟨⟨ks, e _ _ h1 True.intro, h2⟩, e _ _ h3 True.intro, e _ _ h4 True.intro, e _ _ h5 True.intro⟩
  · rintro H r r' ⟨⟨ks, h1, h2⟩, h3, h4, h5⟩ hr
    exact ⟨⟨ks, h1, by omega⟩, h3, h4, h5⟩
  · rintro H r i ⟨⟨ks, h1, h2⟩, _⟩
    exact ⟨_, .inl i, h1, .int i, rfl⟩
  · rintro H r x ⟨⟨ks, h1, h2⟩, _⟩ hx
    exact ⟨_, .inr x, h1, .str x hx, rfl⟩
  · rintro H v v' t ⟨kvs, k, h1, h2, rfl⟩ ⟨kvs', k', h1', h2', rfl⟩
    rw [h1] at h1'
    cases h1'
    have e := h2.fn h2'
    subst e
    obtain ⟨d, a, b, c⟩ := h2.lay K H
    exact ⟨d, a, a, b, by omega⟩
/-- its own promise: ws, what its cell holds -/
def spNumd (ws : List (Option V)) : Sp := fun vs H Q _ => ∃ (d : Addr) (ks : List (List Key)) (m : Str) (ka kb : Key), ws = [some (.ref d)] ∧ vs = [.str m, kV ka, kV kb] ∧ H d = some (.dT (tab ks)) ∧ ks.length < sizeLine ∧
  ∀ (n : Int) (H' : Hp) (more : List (List Key)), Ext H H' → H' d = some (.dT (tab (ks ++ more))) → more.length ≤ 1 → valV (tab (ks ++ more)) [.inr m, ka, kb] = some (.int n) → Q (.int n) H'
theorem scN : NdefX.NScope N__law_numbering__law_numbered ["_law_mark", "_law_one", "_law_two"] ["_law_told"] (defScope s__law_numbering__law_numbered) := NdefX.nscope_by (by decide +kernel)
theorem nok_num (mlen : mg "len" = none) (N : NumD) : NdefX.NOk P w K mg base L2.CX0 1 N.f N.F ["_law_mark", "_law_one", "_law_two"] ["_law_told"] spNumd := by
  refine NdefX.nok_of (N := N__law_numbering__law_numbered) scN (fun _ _ _ us hl => match us, hl with | [_, _, _], _ => rfl) (fun ws vs H Q E h => ?_) (fun A outer s H vs ws Q E hr hf hc hw h => ?_)
  · obtain ⟨d, ks, m, ka, kb, _, rfl, _⟩ := h
    rfl
  obtain ⟨d, ks, m, ka, kb, rfl, rfl, hd, hl, q⟩ := h
  have hu : (NdefX.ncx L2.CX0 P w K mg base N__law_numbering__law_numbered N.F N.f A outer s H E).A.units + 1 < cLine := hu_of hr
  refine ⟨_, (pss_cons (ps_if (pt_cmp (pc_dnotin hu (pe_tup (pa_cons (pv 0) (pa_cons (pv 1) (pa_cons (pv 2) pa_nil)))) (pv 3))) (pss_one (ps_dput hu (pv 3) (pe_tup (pa_cons (pv 0) (pa_cons (pv 1) (pa_cons (pv 2) pa_nil)))) (pe_callB call_len_dT rfl mlen PySem.boot_len (pa_cons (pv 3) pa_nil)) rfl)) pss_nil)
  (pss_one (ps_ret (pe_dget hu (pv 3) (pe_tup (pa_cons (pv 0) (pa_cons (pv 1) (pa_cons (pv 2) pa_nil)))) (fun _ _ => rfl))))), ?_⟩
  have ek : ([.str m, kV ka, kV kb] : List V) = ([.inr m, ka, kb] : List Key).map kV := rfl
  have hp0 : ∀ p : Addr, H p = none → d ≠ p := fun p hp => ne_of_none hd hp
  refine ⟨_, rfl, _, rfl, _, rfl, (by show 3 ≤ sizeLine; decide), fun p hp => ?_⟩
  have d1 : upd H p (.tup [.str m, kV ka, kV kb]) d = some (.dT (tab ks)) := by
    rw [upd_ne (hp0 p hp)]
    exact hd
  refine ⟨_, rfl, d, _, rfl, DGet.t (k := [.inr m, ka, kb]) d1 upd_same, _, rfl, ?_⟩
  cases hv : valV (tab ks) [.inr m, ka, kb] with
  | some v =>
    obtain ⟨n, rfl, _⟩ := tab_at hv
    refine iteF ?_
    refine ⟨_, rfl, _, rfl, _, rfl, _, rfl, (by show 3 ≤ sizeLine; decide), fun p2 hp2 => ?_⟩
    have d2 : upd (upd H p (.tup [.str m, kV ka, kV kb])) p2 (.tup [.str m, kV ka, kV kb]) d = some (.dT (tab ks)) := by
      rw [upd_ne (ne_of_none d1 hp2)]
      exact d1
    refine ⟨d, .int n, rfl, ?_, ?_⟩
    · have g := DGet.t (k := [.inr m, ka, kb]) d2 upd_same
      rw [hv] at g
      exact g
    · exact q n _ [] ((Ext.new hp).trans (Ext.new hp2)) (by rw [List.append_nil]; exact d2) (Nat.zero_le _) (by rw [List.append_nil]; exact hv)
  | none =>
    refine iteT ?_
    refine ⟨_, rfl, d, _, rfl, d1, ?_⟩
    refine ⟨_, rfl, _, rfl, _, rfl, _, rfl, (by show 3 ≤ sizeLine; decide), fun p2 hp2 => ?_⟩
    have d2 : upd (upd H p (.tup [.str m, kV ka, kV kb])) p2 (.tup [.str m, kV ka, kV kb]) d = some (.dT (tab ks)) := by
      rw [upd_ne (ne_of_none d1 hp2)]
      exact d1
    refine ⟨d, _, rfl, DPut.t (k := [.inr m, ka, kb]) d2 upd_same (by rw [tab_len]; exact hl), ?_⟩
    rw [putK_new _ hv, tab_len, ← tab_snoc]
    have x2 : Ext H (upd (upd H p (.tup [.str m, kV ka, kV kb])) p2 (.tup [.str m, kV ka, kV kb])) := (Ext.new hp).trans (Ext.new hp2)
    have x3 : Ext H (upd (upd (upd H p (.tup [.str m, kV ka, kV kb])) p2 (.tup [.str m, kV ka, kV kb])) d (.dT (tab (ks ++ [[.inr m, ka, kb]])))) := by
      refine ⟨fun a o ha hn => ?_, fun a kvs ha => ?_⟩
      · rw [upd_ne (show a ≠ d from fun z => by rw [z, hd] at ha; exact hn _ (Option.some.inj ha).symm)]
        exact x2.keep a o ha hn
      · by_cases e : a = d
        · subst e
          rw [hd] at ha
          cases ha
          exact ⟨[(_, _)], by rw [upd_same, tab_snoc]⟩
        · rw [upd_ne e]
          exact x2.grow a kvs ha
    have d3 : upd (upd (upd H p (.tup [.str m, kV ka, kV kb])) p2 (.tup [.str m, kV ka, kV kb])) d (.dT (tab (ks ++ [[.inr m, ka, kb]]))) d = some (.dT (tab (ks ++ [[.inr m, ka, kb]]))) := upd_same
    generalize upd (upd (upd H p (.tup [.str m, kV ka, kV kb])) p2 (.tup [.str m, kV ka, kV kb])) d (.dT (tab (ks ++ [[.inr m, ka, kb]]))) = H3 at x3 d3 ⊢
    refine ⟨_, rfl, _, rfl, _, rfl, _, rfl, (by show 3 ≤ sizeLine; decide), fun p3 hp3 => ?_⟩
    have d4 : upd H3 p3 (.tup [.str m, kV ka, kV kb]) d = some (.dT (tab (ks ++ [[.inr m, ka, kb]]))) := by
      rw [upd_ne (ne_of_none d3 hp3)]
      exact d3
    have hv3 : valV (tab (ks ++ [[.inr m, ka, kb]])) [.inr m, ka, kb] = some (.int ((ks.length : Nat) : Int)) := by
      rw [tab_snoc, valV_snoc _ _ _ _ hv, if_pos rfl]
    refine ⟨d, .int ((ks.length : Nat) : Int), rfl, ?_, ?_⟩
    · have g := DGet.t (k := [.inr m, ka, kb]) d4 upd_same
      rw [hv3] at g
      exact g
    · exact q _ _ _ (x3.trans (Ext.new hp3)) d4 (Nat.le_refl _) hv3
/-- its cell set aside for the call -/
def er (H : Hp) (c : Addr) : Hp := fun b => if b = c then none else H b
theorem er_ne {H : Hp} {c b : Addr} (h : b ≠ c) : er H c b = H b := if_neg h
theorem er_same {H : Hp} {c : Addr} : er H c c = none := if_pos rfl
theorem er_some {H : Hp} {c b : Addr} {o : HO} (h : er H c b = some o) : b ≠ c ∧ H b = some o := by
  by_cases e : b = c
  · rw [e, er_same] at h
    cases h
  · rw [er_ne e] at h
    exact ⟨e, h⟩
theorem cell_ne_own {H : Hp} {c d a b : Addr} (e : H c = some (CellO c d)) (h : H b = some (.own a)) : b ≠ c := fun z => by
  rw [z, e] at h
  have h : HO.ext _ = HO.own a := Option.some.inj h
  cases h
theorem cell_ne_tup {H : Hp} {c d b : Addr} {xs : List V} (e : H c = some (CellO c d)) (h : H b = some (.tup xs)) : b ≠ c := fun z => by
  rw [z, e] at h
  have h : HO.ext _ = HO.tup xs := Option.some.inj h
  cases h
theorem er_hok {H : Hp} {h : Heap} {c d : Addr} (e : H c = some (CellO c d)) (ok : HOk P w H h) : HOk P w (er H c) h := fun a o ha => by
  obtain ⟨n, ha'⟩ := er_some ha
  exact (ok a o ha').stay (fun _ _ _ q => q) (fun b hb => by rw [er_ne (cell_ne_own e hb)]; exact hb) fun b xs hb => by rw [er_ne (cell_ne_tup e hb)]; exact hb
theorem held_num (mlen : mg "len" = none) (N : NumD) : HeldSl P w K mg base 1 (numSys N) := by
  refine ⟨fun H h r X ok h1 => ?_, fun A outer s H us vs Q E hr e0 rv h => ?_⟩
  · obtain ⟨od, sl, doc, pm, ctv, e⟩ := NdefX.fnO_at ok h1.fn
    exact ⟨_, _, _, _, e⟩
  obtain ⟨r, m, a, b, va, vb, rfl, hm, ok, ha, hb, q⟩ := h
  obtain ⟨⟨ks, hd, hl⟩, hf, hc, hcell⟩ := id ok
  obtain ⟨kvs, ka, hd1, hka, rfl⟩ := ha
  obtain ⟨kvs', kb, hd2, hkb, rfl⟩ := hb
  rw [hd] at hd1 hd2
  cases hd1
  cases hd2
  have isC := cellO_at e0.hok hcell
  have nf : N.f ≠ N.c0 := fun z => by
    obtain ⟨od, sl, doc, pm, ctv, e⟩ := NdefX.fnO_at e0.hok hf
    obtain ⟨o, e', d'⟩ := id isC
    rw [z, e'] at e
    cases e
    cases d'
  have nc : N.c ≠ N.c0 := fun z => by
    obtain ⟨c, oc, us, t, e1, e2, e3, e4⟩ := NdefX.codeO_at e0.hok hc
    cases e1
    obtain ⟨o, e', d'⟩ := id isC
    rw [z, e'] at e2
    cases e2
    rw [d'] at e3
    cases e3
  have nd : N.d ≠ N.c0 := fun z => by
    rw [z, hcell] at hd
    have hd : HO.ext _ = HO.dT _ := Option.some.inj hd
    cases hd
  have e1 : Env0 P w K mg base A outer s (er H N.c0) := by
    refine ⟨e0.frames, e0.mod, fun b o hb => ⟨(e0.bs b o hb).1, ?_⟩, e0.bsz, e0.funs, fun b hb => ?_, er_hok hcell e0.hok, e0.bare⟩
    · by_cases z : b = N.c0
      · rw [z, er_same]
      · rw [er_ne z]
        exact (e0.bs b o hb).2
    · by_cases z : b = N.c0
      · rw [z, er_same]
      · rw [er_ne z]
        exact e0.frf b hb
  have lk : ∀ {y : Str} {c : Addr}, List.lookup y N.F.cl = some c → y = "_law_told" ∧ c = N.c0 := fun {y c} h => by
    have h : List.lookup y [(("_law_told" : Str), N.c0)] = some c := h
    by_cases z : y = "_law_told"
    · subst z
      simp at h
      exact ⟨rfl, h.symm⟩
    · have z' : (y == ("_law_told" : Str)) = false := beq_eq_false_iff_ne.mpr z
      unfold List.lookup at h
      rw [z'] at h
      cases h
  have CA : NdefX.CellsAt N.F.cl ["_law_told"] [some (.ref N.d)] s.heap (er H N.c0) := by
    refine ⟨rfl, fun y c h => ?_, fun x y c h1 h2 => (lk h1).1.trans (lk h2).1.symm, fun i y h => ?_⟩
    · rw [(lk h).2]
      exact ⟨er_same, _, isC⟩
    · cases i with
      | zero =>
        cases h
        refine ⟨N.c0, by simp [List.lookup, NdefX.NF.of], fun v hv => ?_⟩
        cases hv
        exact ⟨_, rfl, isC⟩
      | succ i => simp at h
  have nfr : N.c0 ∉ frs outer := fun z => by
    have := e0.frf _ z
    rw [hcell] at this
    cases this
  refine codeAny_mono ((nok_num mlen N).run A outer s (er H N.c0) us _ [some (.ref N.d)] (fun v H' => Q v (upd H' N.c0 (CellO N.c0 N.d))) E hr e1 (by rw [er_ne nf]; exact hf) (by rw [show N.F.c = N.c from rfl, er_ne nc]; exact hc) CA rv
    ⟨N.d, ks, m, ka, kb, rfl, rfl, by rw [er_ne nd]; exact hd, by omega, fun n H' more x hd' hmore hv => ?_⟩) fun res s' hq => ?_
  · have kp : ∀ b o, H b = some o → b ≠ N.c0 → (∀ kvs, o ≠ .dT kvs) → H' b = some o := fun b o hb hn hn2 => x.keep b o (by rw [er_ne hn]; exact hb) hn2
    refine q _ _ ⟨fun b o hb hn => ?_, fun b kvs hb => ?_⟩ ⟨⟨ks ++ more, ?_, ?_⟩, ?_, ?_, upd_same⟩ ⟨_, .inl n, by rw [upd_ne nd]; exact hd', ?_, rfl⟩
    · by_cases z : b = N.c0
      · rw [z, upd_same]
        rw [z, hcell] at hb
        exact hb
      · rw [upd_ne z]
        exact kp b o hb z hn
    · have z : b ≠ N.c0 := fun z => by
        rw [z, hcell] at hb
        have hb : HO.ext _ = HO.dT _ := Option.some.inj hb
        cases hb
      rw [upd_ne z]
      exact x.grow b kvs (by rw [er_ne z]; exact hb)
    · rw [upd_ne nd]
      exact hd'
    · rw [List.length_append]
      omega
    · rw [upd_ne nf]
      exact kp _ _ hf nf fun _ z => HO.noConfusion z
    · rw [upd_ne nc]
      exact kp _ _ hc nc fun _ z => HO.noConfusion z
    · have t : ∀ {k t}, DenN (tab ks) k t → DenN (tab (ks ++ more)) k t := fun {k t} h => by
        obtain ⟨m2, e2⟩ := x.grow N.d (tab ks) (by rw [er_ne nd]; exact hd)
        rw [hd'] at e2
        have e3 : tab (ks ++ more) = tab ks ++ m2 := by
          have e2 := Option.some.inj e2
          injection e2
        rw [e3]
        exact h.app
      exact .sl (t hka) (t hkb) hv
  · cases res with
    | error e => exact hq
    | ok fl =>
      cases fl with
      | next => exact hq
      | brk => exact hq
      | cont => exact hq
      | ret u =>
        obtain ⟨v, H', os, bare, un, hok, rvu, q'⟩ := hq
        have nH : ∀ b, H b = none → b ≠ N.c0 := fun b hb z => by
          rw [z, hcell] at hb
          cases hb
        have ern : ∀ b, H b = none → er H N.c0 b = none := fun b hb => by
          rw [er_ne (nH b hb)]
          exact hb
        obtain ⟨oc, hoc, hod⟩ := id isC
        have hH' : H' N.c0 = none := un.free _ oc hoc er_same (by simp)
        have hcs : s'.heap.get? N.c0 = some oc := un.keep _ oc hoc er_same nfr (by simp)
        refine ⟨v, upd H' N.c0 (CellO N.c0 N.d), os, bare, ⟨fun b o e n hb hx => un.keep b o e (ern b n) hb hx, fun b o e n hb hx => un.slot b o e (ern b n) hb hx, fun b o e n hx => ?_, un.there, fun b xs e => ?_, fun b o u e => ?_, fun b ps e => ?_⟩, fun b u e => ?_, rvu, q'⟩
        · rw [upd_ne (nH b n)]
          exact un.free b o e (ern b n) hx
        · have z := cell_ne_tup hcell e
          rw [upd_ne z]
          exact un.tups b xs (by rw [er_ne z]; exact e)
        · have z : b ≠ N.c0 := fun z => by
            rw [z, hcell] at e
            have e : HO.ext _ = HO.frz _ _ := Option.some.inj e
            cases e
          rw [upd_ne z]
          exact un.frzs b o u (by rw [er_ne z]; exact e)
        · have z : b ≠ N.c0 := fun z => by
            rw [z, hcell] at e
            have e : HO.ext _ = HO.tbl _ := Option.some.inj e
            cases e
          obtain ⟨more, hm⟩ := un.tbls b ps (by rw [er_ne z]; exact e)
          exact ⟨more, by rw [upd_ne z]; exact hm⟩
        · by_cases z : b = N.c0
          · rw [z, upd_same] at e
            cases e
            rw [z]
            exact cellO_ok ⟨oc, hcs, hod⟩
          · rw [upd_ne z] at e
            exact (hok b u e).stay (fun _ _ _ q => q) (fun b hb => by rw [upd_ne (ne_of_none hb hH')]; exact hb) fun b xs hb => by rw [upd_ne (ne_of_none hb hH')]; exact hb
end


/-! ### the three seals, by the law's own defs -/
section
variable {P : Program} {w : World} {K : PySem.W.Frag} {mg : Str → Option Value} {base : Heap}
theorem fn_plain {f : Addr} {fd : FuncData} (F : L2.Fun K "_law_plain" "_law_plain" s__law_plain f fd) : FnOk P w K mg base L2.CX0 1 f fd ["_law_mark", "_law_one", "_law_two"] (spTup tfP) := by
  refine F.ok sc__law_plain (fun vs H Q E h => ?_) (fun cdv A outer s H vs Q E hr h => ?_)
  · obtain ⟨m, a, b, rfl, _⟩ := h
    rfl
  obtain ⟨m, a, b, rfl, q⟩ := h
  refine ⟨_, (pss_one (ps_ret (pe_tup (pa_cons (pv 0) (pa_cons (pv 1) (pa_cons (pv 2) pa_nil)))))), ?_⟩
  exact ⟨_, rfl, _, rfl, _, rfl, (by show 3 ≤ sizeLine; decide), fun p hp => q p hp⟩
theorem fn_turned {f : Addr} {fd : FuncData} (F : L2.Fun K "_law_turned" "_law_turned" s__law_turned f fd) : FnOk P w K mg base L2.CX0 1 f fd ["_law_mark", "_law_one", "_law_two"] (spTup tfT) := by
  refine F.ok sc__law_turned (fun vs H Q E h => ?_) (fun cdv A outer s H vs Q E hr h => ?_)
  · obtain ⟨m, a, b, rfl, _⟩ := h
    rfl
  obtain ⟨m, a, b, rfl, q⟩ := h
  refine ⟨_, (pss_one (ps_ret (pe_tup (pa_cons pe_str (pa_cons (pv 2) (pa_cons (pv 1) (pa_cons (pv 0) pa_nil))))))), ?_⟩
  exact ⟨_, rfl, _, rfl, _, rfl, (by show 4 ≤ sizeLine; decide), fun p hp => q p hp⟩
/-- the three of them -/
def Fam3 (mg : Str → Option Value) : Sys → Prop := fun S => (∃ f, mg "_law_plain" = some (.ref f) ∧ S = plainSys tfP f) ∨ (∃ f, mg "_law_turned" = some (.ref f) ∧ S = plainSys tfT f) ∨ ∃ N : NumD, S = numSys N
theorem sla3 {cc : Addr} (T : Txt K mg cc) : SlA P w K mg base (Fam3 mg) := by
  obtain ⟨fP, fdP, FP, mP, bP⟩ := T.d__law_plain.ex
  obtain ⟨fT, fdT, FT, mT, bT⟩ := T.d__law_turned.ex
  refine ⟨fun {S} h => ?_, fun S h => ?_⟩
  · rcases h with ⟨f, _, rfl⟩ | ⟨f, _, rfl⟩ | ⟨N, rfl⟩
    · exact goodP f
    · exact goodT f
    · exact goodN N
  · rcases h with ⟨f, m, rfl⟩ | ⟨f, m, rfl⟩ | ⟨N, rfl⟩
    · rw [mP] at m
      cases m
      exact held_plain FP bP (fn_plain FP)
    · rw [mT] at m
      cases m
      exact held_plain FT bT (fn_turned FT)
    · exact held_num T.Z.len N
/-- its making: the table at PT is empty before -/
def spNumg (PT : Addr) : Sp := fun vs H Q _ => vs = [] ∧ H PT = some (.tbl #[]) ∧ ∀ (N : NumD) (H' : Hp), LamX.ExtN H H' → NumOk N H' sizeLine → Q (.ref N.f) H'
theorem fn_numbering {f c PT : Addr} {kV doc pm ct oc : Value} {an od : Option Addr} {osl : Array (Option Value)} (TB : LamX.TabB base mg c PT)
    (lk : K.lookup f = some ⟨oc, od, .func (PySem.W.fnOf "_law_numbering" "_law_numbering" (defArgs s__law_numbering) (defBody s__law_numbering) (defScope s__law_numbering) .none kV doc pm an (.ref c) ct), osl⟩) (hcd : PySem.W.codeIn K (.ref c) "_law_numbering" = true) :
    FnOk P w K mg base L2.CX0 1 f (PySem.W.fnOf "_law_numbering" "_law_numbering" (defArgs s__law_numbering) (defBody s__law_numbering) (defScope s__law_numbering) .none kV doc pm an (.ref c) ct) [] (spNumg PT) := by
  refine ⟨fun vs H Q E h => by rw [h.1] <;> rfl, fun A outer s H args us vs Q E hr e0 hb r hsp => ?_⟩
  obtain ⟨rfl, hPT, q⟩ := hsp
  have KX : K.In s.heap := e0.mod.kin.keeps fun b o e => (e0.bs b o e).1
  have lim : s.heap.NoLimit := e0.mod.nolimit.keeps fun b o e => (e0.bs b o e).1
  refine codeAny_call_function hr.depth (KX _ _ lk) rfl sc__law_numbering.co sc__law_numbering.gen rfl (PySem.W.codeRec_of KX hcd) (hb _ _ _ _ ?_)
  refine wpAny_newFunctionEnv_cells sc__law_numbering.kind (fun ⟨n, v⟩ hy => by simp at hy) fun env he s1 x => ?_
  subst he
  refine ⟨lim.keeps x.toInCall.keep, codeAny_func ?_⟩
  have I : Inv (cxOf L2.CX0 P w K mg base N__law_numbering "_law_numbering" (defScope s__law_numbering) f (.ref c) A outer s H E) [] (start N__law_numbering []) H s1 := inv_start sc__law_numbering hr.hd e0 rfl r x
  have b3 : defBody s__law_numbering = [(defBody s__law_numbering).getD 0 (.Pass ⟨0, 0, 0, 0⟩), inDef s__law_numbering 1, (defBody s__law_numbering).getD 2 (.Pass ⟨0, 0, 0, 0⟩)] := rfl
  refine wpAny_mono (Q := fun fl s' => ∃ u, fl = .ret u ∧ CE outer P w H s Q u s') ?_ (fun fl s' hs => ?_) fun e s' hs => hs
  · rw [b3]
    have hfree : NdefX.ndefB (defScope s__law_numbering) (C8.fnScope s__law_numbering__law_numbered) ["_law_told"] = true := by decide +kernel
    have e1 : PS (cxOf L2.CX0 P w K mg base N__law_numbering "_law_numbering" (defScope s__law_numbering) f (.ref c) A outer s H E) ((defBody s__law_numbering).getD 0 (.Pass ⟨0, 0, 0, 0⟩)) (tAsg tDNewT (gName 1)) := ps_set (i := 1) sc__law_numbering.nd rfl (Or.inr rfl) pe_dnewT
    have e2 := NdefX.ps_ndefS (X := cxOf L2.CX0 P w K mg base N__law_numbering "_law_numbering" (defScope s__law_numbering) f (.ref c) A outer s H E) (st := s__law_numbering__law_numbered) (name := "_law_numbered") (i := 0) (T := [(PT, fun _ _ => (envOfC "_law_numbering" (defScope s__law_numbering) s.heap.objs.size f (.ref c)).qual ++ "_law_numbered")]) (c := c) (P := PT)
      (nm := fun _ _ => (envOfC "_law_numbering" (defScope s__law_numbering) s.heap.objs.size f (.ref c)).qual ++ "_law_numbered") rfl TB rfl List.mem_cons_self rfl (fun p hp _ => by rw [List.mem_singleton.mp hp]) (NdefX.ndef_free hfree) rfl rfl rfl sc__law_numbering.nd rfl (Or.inl rfl) (Or.inl rfl)
    have e3 : PE (cxOf L2.CX0 P w K mg base N__law_numbering "_law_numbering" (defScope s__law_numbering) f (.ref c) A outer s H E) (match (defBody s__law_numbering).getD 2 (.Pass ⟨0, 0, 0, 0⟩) with | .Return (some e) _ => e | _ => .Name "" ⟨0, 0, 0, 0⟩) (tVar 0) := pv 0
    have b4 : ∃ pos : Pos, (defBody s__law_numbering).getD 2 (.Pass ⟨0, 0, 0, 0⟩) = .Return (some (match (defBody s__law_numbering).getD 2 (.Pass ⟨0, 0, 0, 0⟩) with | .Return (some e) _ => e | _ => .Name "" ⟨0, 0, 0, 0⟩)) pos := ⟨_, rfl⟩
    obtain ⟨pos, b4⟩ := b4
    refine wpAny_execs_cons (thn (e1.run [] s1 _ H ⟨fun σ H' => ∃ d, H d = none ∧ σ = [none, some (.ref d)] ∧ H' = upd H d (.dT []), fun _ _ => False, fun _ _ => False, fun _ _ => False⟩ I fun d nd => ⟨d, nd, rfl, rfl⟩) fun fl s2 h2 => ?_)
    cases fl with
    | ret v => obtain ⟨_, _, _, _, _, z⟩ := h2; exact z.elim
    | brk => obtain ⟨_, _, _, z⟩ := h2; exact z.elim
    | cont => obtain ⟨_, _, _, z⟩ := h2; exact z.elim
    | next =>
    obtain ⟨σ2, H2, I2, d, nd, rfl, rfl⟩ := h2
    have tb : NdefX.TabsN [(PT, fun _ _ => (envOfC "_law_numbering" (defScope s__law_numbering) s.heap.objs.size f (.ref c)).qual ++ "_law_numbered")] (upd H d (.dT [])) := fun p hp => by
      rw [List.mem_singleton.mp hp]
      exact NdefX.TabN.nil (by rw [upd_ne (ne_of_none hPT nd)]; exact hPT)
    refine wpAny_execs_cons (thn (e2.run [] s2 _ _ ⟨fun σ H' => ∃ f2 c2, LamX.ExtN (upd H d (.dT [])) H' ∧ σ = [some (.ref f2), some (.ref d)] ∧ H' f2 = some (NdefX.FnO f2 (NdefX.NF.of s__law_numbering__law_numbered "_law_numbered" ((envOfC "_law_numbering" (defScope s__law_numbering) s.heap.objs.size f (.ref c)).qual ++ "_law_numbered") [("_law_told", s.heap.objs.size + 1)] c2)) ∧
        H' c2 = some (LamX.CodeO c2 ((envOfC "_law_numbering" (defScope s__law_numbering) s.heap.objs.size f (.ref c)).qual ++ "_law_numbered")), fun _ _ => False, fun _ _ => False, fun _ _ => False⟩ I2 ⟨tb, fun f2 c2 H3 x3 _ _ hf2 hc2 => ⟨f2, c2, x3, rfl, hf2, hc2⟩⟩) fun fl s3 h3 => ?_)
    cases fl with
    | ret v => obtain ⟨_, _, _, _, _, z⟩ := h3; exact z.elim
    | brk => obtain ⟨_, _, _, z⟩ := h3; exact z.elim
    | cont => obtain ⟨_, _, _, z⟩ := h3; exact z.elim
    | next =>
    obtain ⟨σ3, H3, I3, f2, c2, x3, rfl, hf2, hc2⟩ := h3
    rw [b4]
    refine wpAny_execs_cons (wpAny_Return_some (thn (e3.run [] s3 _ H3 (fun v H' => v = .ref f2 ∧ H' = H3) I3 ⟨_, rfl, rfl, rfl⟩) fun u s4 h4 => ?_))
    obtain ⟨v, H4, I4, ru, rfl, rfl⟩ := h4
    refine ⟨u, rfl, ?_⟩
    -- the cell
    have hce : (cxOf L2.CX0 P w K mg base N__law_numbering "_law_numbering" (defScope s__law_numbering) f (.ref c) A outer s H E).env.cells.lookup ("_law_told" : Str) = some (s.heap.objs.size + 1) := rfl
    have isC : s4.heap.IsCell (s.heap.objs.size + 1) (some (.ref d)) := by
      obtain ⟨m, hn, hl⟩ := I4.loc
      obtain ⟨u2, r2, l2⟩ := hl 1 "_law_told" (.ref d) rfl rfl (.inr (.inl rfl))
      have e2 : u2 = .ref d := r2
      subst e2
      rcases l2 with ⟨k, _⟩ | ⟨_, c3, hc3, z⟩
      · cases (show some NameKind.cell = some NameKind.local from k)
      · rw [hce] at hc3
        cases hc3
        exact z
    have fc := I4.freeC _ _ hce
    have hs0 : H (s.heap.objs.size + 1) = none := e0.hok.fresh (Nat.le_succ _)
    have un := I4.base
    have xn : LamX.ExtN H (upd H4 (s.heap.objs.size + 1) (CellO (s.heap.objs.size + 1) d)) := fun b o hb hn => by
      rw [upd_ne (ne_of_none hb hs0)]
      exact x3 b o (by rw [upd_ne (ne_of_none hb nd)]; exact hb) hn
    have hd4 : H4 d = some (.dT []) := x3 d _ upd_same fun ps z => by cases z
    refine ⟨.ref f2, upd H4 (s.heap.objs.size + 1) (CellO (s.heap.objs.size + 1) d), I4.os, I4.bare, ⟨un.keep, un.slot, fun b o e n hx => ?_, un.there, fun b xs e => ?_, fun b o u e => ?_, fun b ps e => ?_⟩, fun b u e => ?_, ru, ?_⟩
    · rw [upd_ne (Nat.ne_of_lt (Nat.lt_succ_of_lt (Heap.lt_size e)))]
      exact un.free b o e n hx
    · rw [upd_ne (ne_of_none e hs0)]
      exact un.tups b xs e
    · rw [upd_ne (ne_of_none e hs0)]
      exact un.frzs b o u e
    · obtain ⟨more, hm⟩ := un.tbls b ps e
      exact ⟨more, by rw [upd_ne (ne_of_none e hs0)]; exact hm⟩
    · by_cases z : b = s.heap.objs.size + 1
      · rw [z, upd_same] at e
        cases e
        rw [z]
        exact cellO_ok isC
      · rw [upd_ne z] at e
        exact (I4.hok b u e).stay (fun _ _ _ q => q) (fun b hb => by rw [upd_ne (ne_of_none hb fc)]; exact hb) fun b xs hb => by rw [upd_ne (ne_of_none hb fc)]; exact hb
    · refine q ⟨f2, (envOfC "_law_numbering" (defScope s__law_numbering) s.heap.objs.size f (.ref c)).qual ++ "_law_numbered", c2, s.heap.objs.size + 1, d⟩ _ xn ⟨⟨[], ?_, ?_⟩, ?_, ?_, upd_same⟩
      · rw [upd_ne (ne_of_none hd4 fc)]
        exact hd4
      · exact Nat.le_of_eq (Nat.zero_add _)
      · rw [upd_ne (ne_of_none hf2 fc)]
        exact hf2
      · rw [upd_ne (ne_of_none hc2 fc)]
        exact hc2
  · obtain ⟨u, rfl, h⟩ := hs
    exact h
theorem cal_numbering {c PT : Addr} (D : DefM K mg "_law_numbering" s__law_numbering c) (TB : LamX.TabB base mg c PT) : Cal P w K mg base 1 "_law_numbering" (spNumg PT) [] := by
  obtain ⟨f, oc, od, kV, doc, pm, an, ct, osl, lk, hc, kp, m⟩ := D.ex
  exact ⟨f, _, [], [], fn_numbering TB lk hc, m, kp, .all fun us hl => match us, hl with | [], _ => rfl, .nil⟩
/-! ### the law's own helpers -/
/-- script[k] where it is, else 0 -/
def cell (ns : List Int) (k : Int) : Int := ns.getD k.toNat 0
def spCellA (K : PySem.W.Frag) : Sp := fun vs H Q _ => ∃ (a : Addr) (ns : List Int) (k : Int), vs = [.ref a, .int k] ∧ SqL K H a (ns.map V.int) ∧ 0 ≤ k ∧ Q (.int (cell ns k)) H
theorem ok_cell_at {cc : Addr} (T : Txt K mg cc) : Cal P w K mg base 1 "_law_cell_at" (spCellA K) [] := by
  have Z := T.Z
  refine cal_of T.d__law_cell_at sc__law_cell_at (fun vs H Q E h => ?_) (fun f cdv A outer s H vs Q E hr h => ?_)
  · obtain ⟨a, ns, k, rfl, _⟩ := h
    rfl
  obtain ⟨a, ns, k, rfl, hS, hk, q⟩ := h
  refine ⟨_, (pss_cons (ps_if (pt_cmpR op_lt (pv 1) (pe_callB call_len_seq rfl Z.len PySem.boot_len (pa_cons (pv 0) pa_nil)) (nomark _)) (pss_one (ps_ret (pe_ix ix_list (pv 0) (pv 1) (fun _ _ => rfl)))) pss_nil)
  (pss_one (ps_ret pe_int))), ?_⟩
  refine ⟨_, rfl, _, rfl, a, _, rfl, .inl hS, _, _, rfl, rfl, _, rfl, ?_⟩
  rw [List.length_map]
  refine ite2 (fun c => ?_) (fun c => ?_)
  · have c' : k < (ns.length : Int) := of_decide_eq_true c
    have hl : k.toNat < ns.length := by omega
    refine ⟨_, rfl, _, rfl, a, _, k, .int (cell ns k), rfl, rfl, hS, at_of (j := k.toNat) (by omega) ?_, q⟩
    rw [List.getElem?_map, List.getElem?_eq_getElem hl]
    unfold cell
    rw [List.getD_eq_getElem?_getD, List.getElem?_eq_getElem hl]
    rfl
  · have c' : ¬ k < (ns.length : Int) := of_decide_eq_false (Bool.eq_false_iff.mpr c)
    have e : cell ns k = 0 := by
      unfold cell
      rw [List.getD_eq_getElem?_getD, List.getElem?_eq_none (by omega)]
      rfl
    rw [e] at q
    exact q
/-- one of three seals, its state new -/
def spSlBy (K : PySem.W.Frag) (mg : Str → Option Value) (PT : Addr) : Sp := fun vs H Q _ => ∃ (a : Addr) (ns : List Int), vs = [.ref a] ∧ SqL K H a (ns.map V.int) ∧ H PT = some (.tbl #[]) ∧ ∀ (S : Sys) (H' : Hp), Fam3 mg S → LamX.ExtN H H' → S.ok H' sizeLine → Q (.ref S.f) H'
theorem ok_seal_by {cc PT : Addr} (T : Txt K mg cc) (TB : LamX.TabB base mg cc PT) : Cal P w K mg base 2 "_law_seal_by" (spSlBy K mg PT) [] := by
  have Z := T.Z
  obtain ⟨fP, fdP, FP, mP, bP⟩ := T.d__law_plain.ex
  obtain ⟨fT, fdT, FT, mT, bT⟩ := T.d__law_turned.ex
  obtain ⟨fN, fdN, psN, dsN, FN, mN, kN, bN, vN⟩ := (cal_numbering (P := P) (w := w) T.m__law_numbering TB).ex
  have C__law_cell_at := ok_cell_at (P := P) (w := w) (base := base) T
  refine cal_of T.d__law_seal_by sc__law_seal_by (fun vs H Q E h => ?_) (fun f cdv A outer s H vs Q E hr h => ?_)
  · obtain ⟨a, ns, rfl, _⟩ := h
    rfl
  obtain ⟨a, ns, rfl, hS, hPT, q⟩ := h
  refine ⟨_, (pss_cons (ps_set (i := 1) sc__law_seal_by.nd rfl (Or.inl rfl) (pe_op op_mod (pe_op op_fdiv (pe_c C__law_cell_at hr (by omega) rfl (pa_cons (pv 0) (pa_cons pe_int pa_nil))) pe_int) pe_int))
  (pss_cons (ps_if (pt_cmpR op_eq (pv 1) pe_int (nomark _)) (pss_one (ps_ret (pe_glob (v := .ref fP) rfl mP rfl))) pss_nil)
  (pss_cons (ps_if (pt_cmpR op_eq (pv 1) pe_int (nomark _)) (pss_one (ps_ret (pe_glob (v := .ref fT) rfl mT rfl))) pss_nil)
  (pss_one (ps_ret (pe_call0 FN hr rfl mN kN bN vN pass0)))))), ?_⟩
  refine ⟨_, rfl, a, ns, 0, rfl, hS, Int.le_refl 0, _, 7, rfl, rfl, ⟨by decide, by decide⟩, _, 3, rfl, rfl, (by show (0 : Int) < 3; decide), ?_⟩
  refine ⟨_, rfl, rfl, _, rfl, ite2 (fun _ => ?_) (fun _ => ?_)⟩
  · exact q (plainSys tfP fP) H (.inl ⟨fP, mP, rfl⟩) (LamX.ExtN.refl H) True.intro
  refine ⟨_, rfl, rfl, _, rfl, ite2 (fun _ => ?_) (fun _ => ?_)⟩
  · exact q (plainSys tfT fT) H (.inr (.inl ⟨fT, mT, rfl⟩)) (LamX.ExtN.refl H) True.intro
  have e0 : dsN = [] := by
    cases vN
    rfl
  subst e0
  exact ⟨rfl, hPT, fun N H' x ok => q (numSys N) H' (.inr (.inr ⟨N, rfl⟩)) x ok⟩
end

/-! ### the greatest power of two below a number -/
def splitN (n : Nat) : Nat := 2 ^ (n - 1).log2
theorem splitN_pos (n : Nat) : 0 < splitN n := Nat.two_pow_pos _
theorem splitN_lt {n : Nat} (h : 2 ≤ n) : splitN n < n := by
  have q := Nat.log2_self_le (show n - 1 ≠ 0 by omega)
  unfold splitN
  omega
theorem splitN_ge {n : Nat} (h : 2 ≤ n) : n ≤ 2 * splitN n := by
  have q : n - 1 < 2 ^ ((n - 1).log2 + 1) := Nat.lt_log2_self
  rw [Nat.pow_succ] at q
  unfold splitN
  omega
theorem splitN_of {n i : Nat} (h1 : 2 ^ i < n) (h2 : n ≤ 2 * 2 ^ i) : splitN n = 2 ^ i := by
  have h0 : n - 1 ≠ 0 := by
    have := Nat.two_pow_pos i
    omega
  have a : i ≤ (n - 1).log2 := (Nat.le_log2 h0).mpr (by omega)
  have b : (n - 1).log2 < i + 1 := (Nat.log2_lt h0).mpr (by rw [Nat.pow_succ]; omega)
  unfold splitN
  rw [show (n - 1).log2 = i by omega]
theorem splitN_le_pow {n k : Nat} (h : 2 ≤ n) (hk : n ≤ 2 ^ (k + 1)) : splitN n ≤ 2 ^ k ∧ n - splitN n ≤ 2 ^ k := by
  have h0 : n - 1 ≠ 0 := by omega
  have a : (n - 1).log2 < k + 1 := (Nat.log2_lt h0).mpr (by omega)
  have b : splitN n ≤ 2 ^ k := Nat.pow_le_pow_right (by decide) (by omega)
  have c := splitN_ge h
  exact ⟨b, by omega⟩
/-! ### the top of a row -/
def nonT : Tm := .sl "none" (.int 0) (.int 0)
def pairT (a b : Tm) : Tm := .sl "pair" a b
def topT (ts : List Tm) : Tm :=
  if h : ts.length < 2 then ts.headD nonT else pairT (topT (ts.take (splitN ts.length))) (topT (ts.drop (splitN ts.length)))
termination_by ts.length
decreasing_by
  · rw [List.length_take]
    have := splitN_lt (n := ts.length) (by omega)
    omega
  · rw [List.length_drop]
    have := splitN_pos ts.length
    omega
theorem topT_nil : topT [] = nonT := by rw [topT]; rfl
theorem topT_one (t : Tm) : topT [t] = t := by rw [topT]; rfl
theorem topT_single {ts : List Tm} (h : ts.length = 1) : topT ts = ts.getD 0 nonT := by
  match ts, h with
  | [t], _ => exact topT_one t
theorem topT_more {ts : List Tm} (h : 2 ≤ ts.length) : topT ts = pairT (topT (ts.take (splitN ts.length))) (topT (ts.drop (splitN ts.length))) := by
  rw [topT, dif_neg (by omega)]
theorem topT_dep {d : Nat} : ∀ (k : Nat) (ts : List Tm), ts.length ≤ 2 ^ k → (∀ t ∈ ts, t.dep ≤ d) → (topT ts).dep ≤ d + k + 1
  | 0, [], _, _ => by rw [topT_nil]; show 0 + 1 ≤ _; omega
  | 0, [t], _, h => by rw [topT_one]; have := h t List.mem_cons_self; omega
  | 0, t :: u :: r, h, _ => by simp at h
  | k + 1, ts, hl, h => by
    by_cases h2 : 2 ≤ ts.length
    · rw [topT_more h2]
      obtain ⟨a, b⟩ := splitN_le_pow h2 hl
      have e1 := topT_dep k (ts.take (splitN ts.length)) (by rw [List.length_take]; omega) fun t ht => h t (List.mem_of_mem_take ht)
      have e2 := topT_dep k (ts.drop (splitN ts.length)) (by rw [List.length_drop]; omega) fun t ht => h t (List.mem_of_mem_drop ht)
      show max _ _ + 1 ≤ _
      omega
    · match ts, h2 with
      | [], _ => rw [topT_nil]; show 0 + 1 ≤ _; omega
      | [t], _ => rw [topT_one]; have := h t List.mem_cons_self; omega
      | t :: u :: r, h2 => exact absurd (show 2 ≤ (t :: u :: r).length by simp) h2
/-- how many tellings a top wants -/
def costT (n : Nat) : Nat := if n = 0 then 1 else n - 1
theorem costT_split {n : Nat} (h : 2 ≤ n) : costT (splitN n) + costT (n - splitN n) + 1 ≤ costT n := by
  have a := splitN_pos n
  have b := splitN_lt h
  unfold costT
  rw [if_neg (by omega), if_neg (by omega), if_neg (by omega)]
  omega
theorem costT_le (n : Nat) : costT n ≤ n + 1 := by
  unfold costT
  split <;> omega

/-! ### an exception is handled, its context None or an exception without one -/
/-- the handled exception and its context, as they stand -/
def At2 (A : Around) (x1 y : Addr) (h : Heap) : Prop := A.handled = some (.ref x1) ∧ ∃ (o o2 : Obj) (vs : Array Value), h.get? x1 = some o ∧ o.data = .fields vs ∧ h.get? y = some o2 ∧
  (vs[2]? = some .none ∨ (vs[2]? = some (.ref y) ∧ ∃ vs2 : Array Value, o2.data = .fields vs2 ∧ vs2[2]? = some .none))
theorem At2.keeps {A : Around} {x1 y : Addr} {h h' : Heap} (a : At2 A x1 y h) (k : ∀ b o, (b = x1 ∨ b = y) → h.get? b = some o → h'.get? b = some o) : At2 A x1 y h' := by
  obtain ⟨hh, o, o2, vs, e, d, e2, c⟩ := a
  exact ⟨hh, o, o2, vs, k _ _ (.inl rfl) e, d, k _ _ (.inr rfl) e2, c⟩
theorem At2.lt {A : Around} {x1 y : Addr} {h : Heap} (a : At2 A x1 y h) : x1 < h.objs.size ∧ y < h.objs.size := by
  obtain ⟨hh, o, o2, vs, e, d, e2, c⟩ := a
  exact ⟨Heap.lt_size e, Heap.lt_size e2⟩
section
variable {prog : Program} {w : World} {A : Around} {E : Value → Shared → Prop} {s : Shared}
theorem unchained2 {x1 y a : Addr} {Q : Value → Shared → Prop} (hot : At2 A x1 y s.heap) (ny : y ≠ a) (q : Q .none s) :
    wpAny (model prog w) A (holding [Value.ref a] (runValue (.builtin "proto.unchain" ⟨[.ref a, .ref x1, .ref x1, .bool false], []⟩))) Q E s := by
  obtain ⟨_, o1, o2, vs1, h1, d1, h2, c⟩ := hot
  refine wpAny_holding (wpAny_runValue (codeAny_builtin HotX.entry_unchain ?_))
  show wpAny _ _ (field (.ref x1) 2 >>= _) _ _ s
  rcases c with c1 | ⟨c1, vs2, d2, c2⟩
  · refine wpAny_bind (wpAny_field h1 d1 c1 ?_)
    rw [if_pos (show (Value.none == Value.none) = true from rfl)]
    first
    | exact wpAny_bind (wpAny_pure (wpAny_pure q))
    | exact wpAny_pure q
  · have nx : y ≠ x1 := fun z => by
      rw [z, h1] at h2
      cases h2
      rw [d1] at d2
      cases d2
      rw [c1] at c2
      cases c2
    refine wpAny_bind (wpAny_field h1 d1 c1 ?_)
    rw [if_neg (show ¬ ((Value.ref y == Value.none) = true) by simp)]
    rw [if_neg (show ¬ ((Value.ref y == Value.ref a) = true) by simp [ny])]
    rw [if_neg (show ¬ ((Value.ref y == Value.ref x1) = true) by simp [nx])]
    refine wpAny_bind (wpAny_pure ?_)
    refine wpAny_pure ⟨by kernel_rfl, codeAny_builtin HotX.entry_unchain ?_⟩
    show wpAny _ _ (field (.ref y) 2 >>= _) _ _ s
    refine wpAny_bind (wpAny_field h2 d2 c2 ?_)
    rw [if_pos (show (Value.none == Value.none) = true from rfl)]
    first
    | exact wpAny_bind (wpAny_pure (wpAny_pure q))
    | exact wpAny_pure q
theorem raiseNew_hot2 {α : Type} {a x1 y : Addr} {oe : Obj} {vs : Array Value} {Q : α → Shared → Prop} (hot : At2 A x1 y s.heap) (hne : x1 ≠ a) (ny : y ≠ a) (ha : s.heap.get? a = some oe) (da : oe.data = .fields vs) (hi : 2 < vs.size)
    (hE : E (.ref a) { s with heap := s.heap.update a (Obj.mapFields (·.setIfInBounds 2 (.ref x1))) }) : wpAny (model prog w) A (raiseNew (.ref a) : Sem α) Q E s := by
  have hh := hot.1
  unfold raiseNew
  refine wpAny_bind (wpAny_handled ?_)
  rw [hh]
  have hb : (Value.ref x1 != Value.ref a) = true := HotX.ref_bne hne
  first
  | (show wpAny _ _ (if (Value.ref x1 != Value.ref a) = true then _ else _) _ _ _
     rw [if_pos hb]
     first
     | exact wpAny_bind (unchained2 hot ny (wpAny_bind (HotX.chained ha da hi (wpAny_throw hE))))
     | exact wpAny_bind (wpAny_bind (unchained2 hot ny (HotX.chained ha da hi (wpAny_throw hE)))))
  | (refine wpAny_bind ?_
     show wpAny _ _ (if (Value.ref x1 != Value.ref a) = true then _ else _) _ _ _
     rw [if_pos hb]
     exact wpAny_bind (unchained2 hot ny (HotX.chained ha da hi (wpAny_throw hE))))
/-- StopIteration of an iterator whose heap is got by an update -/
theorem stop_hot2 {α : Type} {x1 y : Addr} {Q : α → Shared → Prop} (hot : At2 A.in1 x1 y s.heap) (hQ : ∀ h', (∀ b o, s.heap.get? b = some o → h'.get? b = some o) → ∀ a, (∃ o, h'.get? a = some o ∧ o.cls = .type "StopIteration") → E (.ref a) { s with heap := h' }) :
    wpAny (model prog w) A.in1 (newExc (.type "StopIteration") [] >>= fun e => (raiseNew e : Sem α)) Q E s := by
  refine wpAny_bind ?_
  simp only [newExc, newTuple]
  refine wpAny_bind (wpAny_newObj_type ?_ (by size_fits))
  refine wpAny_bind (m := firstArgMember _ _) (wpAny_of_eq (a := Value.none) (by first | rfl | (simp only [firstArgMember]; rfl)) ?_)
  refine wpAny_newObj_type ?_ (by size_fits)
  have hot1 := hot.keeps (h' := s.heap.push { cls := .type "tuple", data := .seq #[] }) fun b o _ e => Heap.get?_push_of_some _ e
  refine raiseNew_hot2 (hot1.keeps fun b o _ e => Heap.get?_push_of_some _ e) (Nat.ne_of_lt hot1.lt.1) (Nat.ne_of_lt hot1.lt.2) (Heap.get?_push_size _ rfl) rfl (by first | (simp; done) | (simp; omega) | (simp only [Array.size_append]; simp; omega)) ?_
  refine hQ _ (fun b o e => ?_) _ ⟨_, Heap.get?_update_self _ (Heap.get?_push_size _ rfl) rfl, rfl⟩
  rw [Heap.get?_update_other _ _ (Nat.ne_of_gt (Heap.lt_size (Heap.get?_push_of_some _ e)))]
  exact Heap.get?_push_of_some _ (Heap.get?_push_of_some _ e)
/-- the iterator of a list at its end -/
theorem next_list_end2 {it l x1 y : Addr} {i : Nat} {items : Array Value} {Q : Option Value → Shared → Prop} (hot : At2 A x1 y s.heap) (n1 : x1 ≠ it) (n2 : y ≠ it)
    (hit : s.heap.IsListIter it l i) (hl : s.heap.IsList l items) (hx : items[i]? = none)
    (hQ : ∀ h', (∀ b o, b ≠ it → s.heap.get? b = some o → h'.get? b = some o) → Q none { s with heap := h' }) : wpAny (model prog w) A (pyNext (.ref it)) Q E s := by
  obtain ⟨o, ho, hc, hd⟩ := id hit
  obtain ⟨ol, hol, _, nl, hdl⟩ := hl
  unfold pyNext
  refine wpAny_bind (wpAny_attempt (wpAny_callSpecial?_slot (name := Str.ofString "__next__") hit.typeIs slot_listiter_next
    (wpAny_call_entry slot_listiter_next hit.typeIs entry_listiter_next ?_ (args_listiter_next _))))
  show wpAny _ _ (field (.ref it) 0 >>= _) _ _ s
  refine wpAny_bind (wpAny_field ho hd (x := .ref l) rfl ?_)
  show wpAny _ _ (if (Value.ref l == Value.none) = true then _ else _) _ _ s
  rw [if_neg (show ¬ ((Value.ref l == Value.none) = true) from Bool.false_ne_true)]
  show wpAny _ _ (field (.ref it) 1 >>= _) _ _ s
  refine wpAny_bind (wpAny_field ho hd (x := .int i 0) rfl ?_)
  show wpAny _ _ (seqItems? (.ref l) >>= _) _ _ s
  refine wpAny_bind (wpAny_seqItems hol hdl ?_)
  simp only [Int.toNat_natCast, hx]
  refine wpAny_bind (wpAny_rule (wpAny_bind (wpAny_setField ho hd (by simp) ?_)))
  have kp : ∀ b o, b ≠ it → s.heap.get? b = some o → (s.heap.update it (Obj.mapFields (·.setIfInBounds 0 .none))).get? b = some o := fun b o n e => by
    rw [Heap.get?_update_other _ _ (Ne.symm n)]
    exact e
  have hot' : At2 A.in1 x1 y (s.heap.update it (Obj.mapFields (·.setIfInBounds 0 .none))) := hot.keeps fun b o hb e => kp b o (by rcases hb with rfl | rfl; exact n1; exact n2) e
  show wpAny _ _ (newExc (.type "StopIteration") [] >>= _) _ _ _
  refine stop_hot2 (s := { s with heap := s.heap.update it (Obj.mapFields (·.setIfInBounds 0 .none)) }) hot' fun h' k a ⟨oa, ea, ca⟩ => ?_
  refine wpAny_bind (wpAny_isInstance (T := "StopIteration") (b := true) ⟨oa, ea, ca⟩ isSubtype_stop ?_)
  exact wpAny_pure (hQ _ fun b o n e => k b o (kp b o n e))
/-- the iterator of a dict's items at its end -/
theorem next_items_end2 {κ : Type} [DecidableEq κ] {knd : KeyKind prog w κ} {it d x1 y : Addr} {i ep : Nat} {kvs : List (κ × Value)} {ok ov : Value} {Q : Option Value → Shared → Prop} (hot : At2 A x1 y s.heap) (n1 : x1 ≠ it) (n2 : y ≠ it) (hit : IsItemIter s.heap it d i kvs.length ep ok ov)
    (hm : s.heap.DictAt knd d kvs ep) (hx : kvs[i]? = none)
    (hQ : ∀ h', (∀ b o, b ≠ it → s.heap.get? b = some o → h'.get? b = some o) → Q none { s with heap := h' }) : wpAny (model prog w) A (pyNext (.ref it)) Q E s := by
  obtain ⟨od, es, hod, hcd, hdd, hk, hpr, hn⟩ := id hm
  have hT : s.TypeIs (.ref it) "dict_itemiterator" := ⟨_, hit, rfl⟩
  unfold pyNext
  refine wpAny_bind (wpAny_attempt (wpAny_callSpecial?_slot (name := Str.ofString "__next__") hT F.slot_dict_itemiterator_next
    (wpAny_call_entry F.slot_dict_itemiterator_next hT F.entry_dict_itemiterator_next ?_ (F.args_dict_itemiterator_next_1 _))))
  refine wpAny_bind (wpAny_pure ?_)
  refine wpAny_bind ?_
  refine wpAny_bind ?_
  first | refine wpAny_bind (wpAny_typeNameOfWhole_itemiter hT (wpAny_pure ?_)) | refine wpAny_bind (wpAny_typeNameOf_itemiter hT (wpAny_pure ?_))
  refine wpAny_bind (wpAny_fieldsOf hit rfl ?_)
  have hown : Builtin.Dict_items.ownsTuple "dict_itemiterator" = true := by decide
  simp only [hown, if_true]
  show wpAny _ _ (if (Value.ref d == Value.none) = true then _ else _) _ _ s
  rw [if_neg (show ¬ ((Value.ref d == Value.none) = true) from Bool.false_ne_true)]
  refine wpAny_bind (wpAny_pure ?_)
  refine wpAny_bind (wpAny_dictEntries hod hdd ?_)
  have hsz : es.size = kvs.length := by rw [← hpr.length]; simp
  rw [if_neg (by rw [hsz]; simp)]
  refine wpAny_bind (wpAny_pure ?_)
  refine wpAny_bind (wpAny_dictEpoch hod hdd ?_)
  rw [if_neg (by simp)]
  refine wpAny_pure ?_
  have hge : es.size ≤ i := by rw [hsz]; simpa using hx
  simp only [show ¬ ((i : Int) < 0) from by omega, if_false, Int.toNat_natCast, Array.getElem?_eq_none hge]
  refine wpAny_bind ?_
  first | refine wpAny_bind (wpAny_typeNameOfWhole_itemiter hT (wpAny_pure ?_)) | refine wpAny_bind (wpAny_typeNameOf_itemiter hT (wpAny_pure ?_))
  show wpAny _ _ (setField (.ref it) 2 .none >>= _) _ _ s
  refine wpAny_bind (wpAny_setField hit rfl (by simp) ?_)
  have kp : ∀ b o, b ≠ it → s.heap.get? b = some o → (s.heap.update it (Obj.mapFields (·.setIfInBounds 2 .none))).get? b = some o := fun b o n e => by
    rw [Heap.get?_update_other _ _ (Ne.symm n)]
    exact e
  have hot' : At2 A.in1 x1 y (s.heap.update it (Obj.mapFields (·.setIfInBounds 2 .none))) := hot.keeps fun b o hb e => kp b o (by rcases hb with rfl | rfl; exact n1; exact n2) e
  show wpAny _ _ (newExc (.type "StopIteration") [] >>= _) _ _ _
  refine stop_hot2 (s := { s with heap := s.heap.update it (Obj.mapFields (·.setIfInBounds 2 .none)) }) hot' fun h' k a ⟨oa, ea, ca⟩ => ?_
  refine wpAny_bind (wpAny_isInstance (T := "StopIteration") (b := true) ⟨oa, ea, ca⟩ isSubtype_stop ?_)
  exact wpAny_pure (hQ _ fun b o n e => k b o (kp b o n e))
end

/-! ### walks and comprehensions while such an exception is handled -/
structure TurnK (P : Program) (w : World) (K : PySem.W.Frag) (tg : Expr) (J : It) (fp : List Addr) (it : Addr) (tn : Nat → Heap → Prop) : Prop where
  mem : it ∈ fp
  obj : ∀ i h, tn i h → ∀ b ∈ fp, ∃ o, h.get? b = some o ∧ ∀ v, o.data ≠ .cell v
  keep : ∀ i h h', tn i h → (∀ b ∈ fp, ∀ o, h.get? b = some o → h'.get? b = some o) → tn i h'
  item : ∀ (X : Cx), X.prog = P → X.w = w → X.K = K → ∀ (i : Nat) (pins : List (Addr × Obj)) (s : Shared) (σ : L2.St) (H : Hp) (E : Value → Shared → Prop), Inv X pins σ H s → (∀ b ∈ fp, FpOk X pins H b) → tn i s.heap → J.go i H →
    wpAny (model P w) X.A (pyNext (.ref it)) (fun r s1 => ∃ u, r = some u ∧
      wpAny (model P w) X.A (letOwnedTupleGo tg (.ref it) u) (fun _ s2 => ∃ x H', Inv X pins σ H' s2 ∧ RelV x u ∧ J.yld i H x H' ∧ tn (i + 1) s2.heap ∧ ∀ b ∈ fp, H' b = none) E s1) E s
  done : ∀ (X : Cx), X.prog = P → X.w = w → X.K = K → ∀ (i : Nat) (pins : List (Addr × Obj)) (s : Shared) (σ : L2.St) (H : Hp) (E : Value → Shared → Prop), Inv X pins σ H s → (∀ b ∈ fp, FpOk X pins H b) → (∃ x1 y, At2 X.A x1 y s.heap ∧ x1 ∉ fp ∧ y ∉ fp) → tn i s.heap → J.stop i H →
    wpAny (model P w) X.A (pyNext (.ref it)) (fun r s1 => r = none ∧ Inv X pins σ H s1) E s
  self : ∀ (A : Around) (i : Nat) (s : Shared) (Q : Value → Shared → Prop) (E : Value → Shared → Prop), tn i s.heap → Q (.ref it) s → wpAny (model P w) A (pyIter (.ref it)) Q E s
theorem turnK_list {P : Program} {w : World} {K : PySem.W.Frag} {tg : Expr} (a it : Addr) : TurnK P w K tg (Itl K a) [it] it (fun i h => h.IsListIter it a i) where
  mem := by simp
  obj := fun i h st b hb => by
    have e : b = it := by simpa using hb
    subst e
    obtain ⟨o, e, c, d⟩ := st
    exact ⟨o, e, fun v z => by rw [d] at z; cases z⟩
  keep := fun i h h' st k => st.at fun o e => k it (by simp) o e
  item := by
    intro X hP hw hK i pins s σ H E I hf st hg
    subst hP hw hK
    obtain ⟨xs, x, hq, hx⟩ := hg
    obtain ⟨its, rv, p, hz⟩ := I.list hq
    obtain ⟨u, hu, ru⟩ := rv.get hx
    obtain ⟨f0, f1, f2, f3, f4, f5⟩ := hf it (by simp)
    refine wpAny_pyNext_list_item st p.isList (x := u) (by simpa using hu) fun h' st' sb => ?_
    have I1 : Inv X pins σ H { s with heap := h' } := I.turned (t' := s.toks) (fun b o hb e => (sb.2 b hb).trans e) f0 f1 f3 f4 f5
    obtain ⟨o, e, c, d⟩ := id st'
    exact ⟨u, rfl, go_of (s := { s with heap := h' }) e c d (by decide) ⟨x, H, I1, ru, ⟨rfl, fun ys hy => by rw [I.list_inj hy hq]; exact hx⟩, st', fun b hb => (hf b hb).1⟩⟩
  done := by
    intro X hP hw hK i pins s σ H E I hf hot st hg
    subst hP hw hK
    obtain ⟨x1, y, hot, n1, n2⟩ := hot
    obtain ⟨xs, hq, hx⟩ := hg
    obtain ⟨its, rv, p, hz⟩ := I.list hq
    obtain ⟨f0, f1, f2, f3, f4, f5⟩ := hf it (by simp)
    have hl := rv.length
    exact next_list_end2 hot (fun z => n1 (by rw [z]; simp)) (fun z => n2 (by rw [z]; simp)) st p.isList (by simp; omega) fun h' eb => ⟨rfl, I.turned (t' := s.toks) (fun b o hb e => eb b o hb e) f0 f1 f3 f4 f5⟩
  self := fun _ _ _ _ _ st h => wpAny_pyIter_listiter st h
theorem turnK_items {P : Program} {w : World} {K : PySem.W.Frag} {d : Addr} {o : Obj} {es : Array DictEntry} {ep : Nat} {kvs : List (Key × V)} {elts : List Expr} {kk : Nat} {tpos : Pos} (it : Addr) (hod : o.data = .dict es ep) :
    TurnK P w K (.Tuple elts kk tpos) (Iti d o kvs) [it] it (fun i h => ∃ ok ov, IsItemIter h it d i kvs.length ep ok ov) where
  mem := by simp
  obj := fun i h st b hb => by
    have e : b = it := by simpa using hb
    subst e
    obtain ⟨ok, ov, e⟩ := st
    exact ⟨_, e, fun v z => nomatch z⟩
  keep := fun i h h' st k => let ⟨ok, ov, e⟩ := st; ⟨ok, ov, k it (by simp) _ e⟩
  item := by
    intro X hP hw hK i pins s σ H E I hf st hg
    subst hP hw hK
    obtain ⟨hd, hi⟩ := hg
    obtain ⟨hs, hgd, hx, es', ep', vs, hdt, hsz, kv, hm⟩ := I.frzK hd
    obtain ⟨rfl, rfl⟩ := dict_ep hod hdt
    obtain ⟨⟨k, v⟩, hkv⟩ : ∃ p, kvs[i]? = some p := ⟨kvs[i], List.getElem?_eq_getElem hi⟩
    obtain ⟨u, hu, ru⟩ := kv_get kv hkv
    have hl : kvs.length = vs.length := Paired.length kv
    obtain ⟨ok, ov, he⟩ := st
    rw [hl] at he
    have hlt : it < s.heap.objs.size := Heap.lt_size he
    refine wpAny_pyNext_items_item he hm hu fun key h' hkey ho hT hz hk => ?_
    refine ⟨_, rfl, wpAny_letOwnedTupleGo_items (s := { s with heap := h' }) ho fun h'' he' sb => ?_⟩
    have hT2 : h''.get? s.heap.objs.size = some { cls := .type "tuple", data := .seq #[key, u] } := (sb.2 _ (Nat.ne_of_gt hlt)).trans hT
    have new : ObjOk X.prog X.w (upd H s.heap.objs.size (.tup [kV k, v])) h'' s.heap.objs.size (.tup [kV k, v]) :=
      ⟨by show 2 ≤ sizeLine; decide, [key, u], .cons (relV_key (show keyIs k key = true from hkey)) (.cons ru .nil), ⟨_, hT2, rfl, _, rfl⟩⟩
    have I1 : Inv X pins σ (upd H s.heap.objs.size (.tup [kV k, v])) { s with heap := h'' } :=
      I.turnedNew (t' := s.toks) (ch := [it]) (fun b ob hb e => (sb.2 b (by simpa using hb)).trans (hk b ob (by simpa using hb) e)) hf (Nat.le_refl _) new
    refine ⟨.ref s.heap.objs.size, _, I1, rfl, ⟨_, k, v, hkv, rfl, I.hok.fresh (Nat.le_refl _), rfl⟩, ⟨key, u, ?_⟩, fun b hb => ?_⟩
    · rw [hl]; exact he'
    · have e : b = it := by simpa using hb
      rw [e, upd_ne (Nat.ne_of_lt hlt)]
      exact (hf it (by simp)).1
  done := by
    intro X hP hw hK i pins s σ H E I hf hot st hg
    subst hP hw hK
    obtain ⟨x1, y, hot, n1, n2⟩ := hot
    obtain ⟨hd, hi⟩ := hg
    obtain ⟨f0, f1, f2, f3, f4, f5⟩ := hf it (by simp)
    obtain ⟨hs, hgd, hx, es', ep', vs, hdt, hsz, kv, hm⟩ := I.frzK hd
    obtain ⟨rfl, rfl⟩ := dict_ep hod hdt
    have hl : kvs.length = vs.length := Paired.length kv
    obtain ⟨ok, ov, he⟩ := st
    rw [hl] at he
    exact next_items_end2 hot (fun z => n1 (by rw [z]; simp)) (fun z => n2 (by rw [z]; simp)) he hm (List.getElem?_eq_none (by omega)) fun h' eb => ⟨rfl, I.turned (t' := s.toks) (fun b ob hb e => eb b ob hb e) f0 f1 f3 f4 f5⟩
  self := fun A i s Q E st h => let ⟨_, _, e⟩ := st; PySem.W.kcp_self e h
def PIEK (X : Cx) (pins : List (Addr × Obj)) (σ : L2.St) (tg : Expr) (R : It → Hp → Prop) (itv : Value) (s2 : Shared) : Prop :=
  ∃ (it : Addr) (fp : List Addr) (tn : Nat → Heap → Prop) (J : It) (H' : Hp), itv = .ref it ∧ Inv X pins σ H' s2 ∧ TurnK X.prog X.w X.K tg J fp it tn ∧ tn 0 s2.heap ∧ (∀ b ∈ fp, FpOk X pins H' b) ∧ R J H'
structure PIK (X : Cx) (tg iter : Expr) (wi : TI) : Prop where
  run : ∀ (pins : List (Addr × Obj)) (s : Shared) (σ : L2.St) (H : Hp) (R : It → Hp → Prop), Inv X pins σ H s → wi σ H R →
    wpAny (model X.prog X.w) X.A (eval iter X.env) (fun v s1 => wpAny (model X.prog X.w) X.A (pyIter v) (PIEK X pins σ tg R) X.xe s1) X.xe s
section
variable {X : Cx} {tg : Expr}
theorem piK_one {pins : List (Addr × Obj)} {σ : L2.St} {H : Hp} {s : Shared} {R : It → Hp → Prop} {J : It} {tn : Nat → Heap → Prop} {tk : Nat} (I : Inv X pins σ H s) (o : Obj)
    (T : TurnK X.prog X.w X.K tg J [s.heap.objs.size] s.heap.objs.size tn) (st : tn 0 (s.heap.push o)) (q : R J H) : PIEK X pins σ tg R (.ref s.heap.objs.size) { s with heap := s.heap.push o, toks := tk } := by
  refine ⟨s.heap.objs.size, [s.heap.objs.size], tn, J, H, rfl, I.kept fun b ob e => Heap.get?_push_of_some _ e, T, st, fun b hb => ?_, q⟩
  have e : b = s.heap.objs.size := by simpa using hb
  subst e
  exact I.fpOk (Nat.le_refl _) (I.hok.fresh (Nat.le_refl _))
theorem piK_list {l : Expr} {tl : TE} (hl : PE X l tl) : PIK X tg l (iList X.K tl) := by
  refine ⟨fun pins s σ H R I h => ?_⟩
  refine thn (hl.run pins s σ H _ I h) fun v s1 ⟨x, H1, I1, r1, q1⟩ => ?_
  obtain ⟨a, e, ⟨xs, hq⟩, q⟩ := q1
  subst e
  cases r1
  obtain ⟨its, rv, p, hz⟩ := I1.list hq
  refine wpAny_pyIter_list p.isList (piK_one (tk := s1.toks) I1 _ (turnK_list a _) ⟨_, Heap.get?_push_size _ rfl, rfl, rfl⟩ q)
theorem piK_items {e : Expr} {td : TE} {apos cpos : Pos} {elts : List Expr} {kk : Nat} {tpos : Pos} (he : PE X e td) (hbase : attributeBase e "items" X.env (eval e X.env) = eval e X.env := by rfl) (hline : (apos.endLine == cpos.line) = true := by rfl) :
    PIK X (.Tuple elts kk tpos) (.Call (.Attribute e "items" apos) [] [] cpos) (iItems td) := by
  refine ⟨fun pins s σ H R I h => ?_⟩
  refine wpAny_Call_method (T := "dict") (id := "dict.items") hbase rfl hline F.plainAttrs_dict F.slot_dict_items F.type_dict_items (thn (he.run pins s σ H _ I h) fun u s1 ⟨x, H1, I1, rx, d, o, kvs, ex, hd, q⟩ => ?_)
  subst ex
  obtain rfl : u = Value.ref d := rx
  obtain ⟨hs, hgd, hx, es, ep, vs, hdt, hsz, kv, hm⟩ := I1.frzK hd
  have hl : kvs.length = vs.length := Paired.length kv
  refine ⟨hm.dictOf.typeIs, hm.dictOf.mapOf.noDict, ?_⟩
  have I2 : Inv X pins σ H1 { s1 with heap := s1.heap.push { cls := .type "dict_items", data := .fields #[.ref d] } } := I1.kept (t' := s1.toks) fun b ob q => Heap.get?_push_of_some _ q
  have fin : wpAny (model X.prog X.w) X.A (pyIter (.ref s1.heap.objs.size)) (PIEK X pins σ (.Tuple elts kk tpos) R) X.xe { s1 with heap := s1.heap.push { cls := .type "dict_items", data := .fields #[.ref d] } } := by
    refine wpAny_pyIter_items (d := d) (knd := mixKind X.prog X.w) ⟨_, Heap.get?_push_size _ rfl, rfl, rfl⟩ (hm.push _) (piK_one (tk := s1.toks) I2 _ (turnK_items _ hdt) ⟨.none, .none, ?_⟩ q)
    rw [hl]
    exact Heap.get?_push_size _ rfl
  show wpAny _ _ (callWith cpos (.builtin "dict.items") [.ref d] [] []) _ X.xe s1
  exact method_meetsIn F.slot_dict_items F.entry_dict_items rfl (PySem.evalArgs_none ⟨rfl, hm.dictOf.typeIs, F.args_dict_items_1 _, _, meets_dict_items (mixKind X.prog X.w) d hs, ⟨vs, hm.dictOf⟩, fin⟩)
end

/-! ### defs called while such an exception is handled -/
/-- p's object is handled, its context is None or q's object, which has none -/
def Hot2 (A : Around) (p q : Addr × Obj) : Prop := A.handled = some (.ref p.1) ∧ ∃ vs : Array Value, p.2.data = .fields vs ∧ (vs[2]? = some .none ∨ (vs[2]? = some (.ref q.1) ∧ ∃ vs2 : Array Value, q.2.data = .fields vs2 ∧ vs2[2]? = some .none))
theorem Hot2.at2 {A : Around} {p q : Addr × Obj} {h : Heap} (c : Hot2 A p q) (e1 : h.get? p.1 = some p.2) (e2 : h.get? q.1 = some q.2) : At2 A p.1 q.1 h := by
  obtain ⟨hh, vs, d, c⟩ := c
  exact ⟨hh, p.2, q.2, vs, e1, d, e2, c⟩
def HotK (X : Cx) : Prop := ∃ p ∈ X.pn, ∃ q ∈ X.pn, Hot2 X.A p q
theorem pin_ok {X : Cx} {pins : List (Addr × Obj)} {σ : L2.St} {H : Hp} {s : Shared} (I : Inv X pins σ H s) {p : Addr × Obj} (hp : p ∈ X.pn) : L2H.PinOk X.stack H s p := by
  obtain ⟨a1, a2, a3, a4, a5⟩ := I.pin p (List.mem_append_left _ hp)
  exact ⟨a1, a2, fun hm => (List.mem_cons.mp (I.stkSub p.1 hm)).elim a3 a4, a5⟩
structure FnK (P : Program) (w : World) (K : PySem.W.Frag) (mg : Str → Option Value) (base : Heap) (k : Nat) (f : Addr) (fd : FuncData) (ps : List Str) (sp : Sp) : Prop where
  len : ∀ vs H Q E, sp vs H Q E → vs.length = ps.length
  run : ∀ (A : Around) (outer : List Env) (s : Shared) (H : Hp) (args : Args) (us : List Value) (vs : List V) (Q : VK) (E : XK) (p q : Addr × Obj), L2H.RoomH k A → Hot2 A p q → L2H.PinOk outer H s p → L2H.PinOk outer H s q → Env0 P w K mg base A outer s H → BindsTo s fd args (ps.zip us) → Vals vs us → sp vs H Q E →
    codeAny (model P w) A (.call (.ref f) args) (CR L2.CX0 outer P w H s Q E) s
/-- the context of such a def's body -/
def cxK (P : Program) (w : World) (K : PySem.W.Frag) (mg : Str → Option Value) (base : Heap) (N : List Str) (qual : Str) (scope : Scope) (f : Addr) (cd : Value) (A : Around) (outer : List Env) (s : Shared) (H : Hp) (E : XK) (p q : Addr × Obj) : Cx :=
  { cxOf L2.CX0 P w K mg base N qual scope f cd A outer s H E with calm := false, pn := [p, q] }
/-- the same state with one more pin -/
theorem inv_pin2 {X : Cx} {p q : Addr × Obj} {σ : L2.St} {H : Hp} {s : Shared} (I : Inv { X with pn := [p] } [] σ H s) (J : Inv { X with pn := [q] } [] σ H s) : Inv { X with pn := [p, q] } [] σ H s :=
  ⟨⟨I.ok.mod, I.ok.kind, I.ok.glob, I.ok.blt, I.ok.above, I.ok.inj, I.ok.has, I.ok.cab, I.ok.hd, I.ok.frames, I.ok.stk, I.ok.exf, I.ok.bs, I.ok.bsz, I.ok.noex, I.ok.exfs, I.ok.funs, I.ok.frf⟩,
    I.os, I.bare, I.base, I.loc, I.cell, I.free, I.freeC, fun r hr => by
      have hr : r ∈ [p, q] := by simpa using hr
      by_cases e : r = p
      · exact I.pin r (by rw [e]; exact List.mem_cons_self)
      · have e2 : r = q := (List.mem_cons.mp hr).elim (fun z => absurd z e) fun z => List.mem_singleton.mp z
        exact J.pin r (by rw [e2]; exact List.mem_cons_self), I.hok, I.len⟩
theorem fn_ofK {P : Program} {w : World} {K : PySem.W.Frag} {mg : Str → Option Value} {base : Heap} {k : Nat} {f : Addr} {name qual : Str} {params : Arguments} {body : List Stmt} {scope : Scope} {dV kV doc pm cdv ct oc : Value} {an od : Option Addr}
    {osl : Array (Option Value)} {N ps : List Str} {sp : Sp} (lk : K.lookup f = some ⟨oc, od, .func (PySem.W.fnOf name qual params body scope dV kV doc pm an cdv ct), osl⟩) (hcd : PySem.W.codeIn K cdv qual = true) (S : FnScope N ps scope)
    (len : ∀ vs H Q E, sp vs H Q E → vs.length = ps.length)
    (hbody : ∀ (A : Around) (outer : List Env) (s : Shared) (H : Hp) (vs : List V) (Q : VK) (E : XK) (p q : Addr × Obj), Hot2 A p q → L2H.RoomH k (A.deeper (envOfC qual scope s.heap.objs.size f cdv)) → sp vs H Q E →
      ∃ t, PSs (cxK P w K mg base N qual scope f cdv A outer s H E p q) body t ∧ t { nx := fun _ H' => Q .non H', rt := Q } (L2.start N vs) H) :
    FnK P w K mg base (k + 1) f (PySem.W.fnOf name qual params body scope dV kV doc pm an cdv ct) ps sp := by
  refine ⟨len, fun A outer s H args us vs Q E p q room hot pp pq env0 bnd rel want => ?_⟩
  have stays : ∀ b o, base.get? b = some o → s.heap.get? b = some o := fun b o e => (env0.bs b o e).1
  have inK : K.In s.heap := env0.mod.kin.keeps stays
  have room1 : s.heap.NoLimit := env0.mod.nolimit.keeps stays
  have kinds : ∀ y ∈ ps.zip us, scope.names.lookup y.1 = some .local ∨ (scope.names.lookup y.1 = some .cell ∧ ((cellsFrom (s.heap.objs.size + 1) scope.names []).lookup y.1).isSome = true) := fun ⟨n, v⟩ hy =>
    (S.par n (List.of_mem_zip hy).1).imp id fun z => ⟨z, PySem.W.cellsFrom_some _ _ _ (.inl z)⟩
  refine codeAny_call_function room.depth (inK _ _ lk) rfl S.co S.gen rfl (PySem.W.codeRec_of inK hcd) (bnd _ _ _ _ (wpAny_newFunctionEnv_cells S.kind kinds fun env he s1 made => ?_))
  subst he
  obtain ⟨t, walk, start⟩ := hbody A outer s H vs Q E p q hot (room.deeper _) want
  have hl := len _ _ _ _ want
  have I := inv_pin2 (X := cxOf L2.CX0 P w K mg base N qual scope f cdv A outer s H E |> fun Y => { Y with calm := false }) (L2H.inv_startH S pp env0 hl rel made) (L2H.inv_startH S pq env0 hl rel made)
  refine ⟨room1.keeps made.toInCall.keep, codeAny_func (wpAny_mono (walk.run [] s1 (L2.start N vs) H _ I start) (fun fl sE fin => ?_) fun e sE fin => fin)⟩
  cases fl with
  | ret u => exact fin.elim fun v ⟨_, H', J, rv, q2⟩ => ⟨v, H', J.os, J.bare, J.base, J.hok, rv, q2⟩
  | next => exact fin.elim fun _ ⟨H', J, q2⟩ => ⟨V.non, H', J.os, J.bare, J.base, J.hok, rfl, q2⟩
  | brk => exact fin.elim fun _ ⟨_, _, z⟩ => z.elim
  | cont => exact fin.elim fun _ ⟨_, _, z⟩ => z.elim
section
variable {X : Cx} {k : Nat} {f : Addr} {fd : FuncData} {ps : List Str} {sp : Sp}
theorem run_fnK {pins : List (Addr × Obj)} {σ : L2.St} {H : Hp} {s : Shared} {Q : VK} {us : List Value} {vs : List V} (F : FnK X.prog X.w X.K X.mg X.base k f fd ps sp) (room : L2H.RoomH k X.A) (hot : HotK X) (bs : Binds X.K fd ps [])
    (I : Inv X pins σ H s) (rel : Vals vs us) (want : sp vs H Q L2.E0) : wpAny (model X.prog X.w) X.A (call (.ref f) us) (EP X pins σ Q) X.xe s := by
  obtain ⟨p, hp, q, hq, hot⟩ := hot
  have bnd := bs s us I.kIn (by rw [List.append_nil, ← rel.length]; exact F.len _ _ _ _ want)
  rw [List.append_nil] at bnd
  refine wpAny_call (codeAny_mono (F.run X.A X.stack s H ⟨us, []⟩ us vs Q L2.E0 p q room hot (pin_ok I hp) (pin_ok I hq) I.env0 bnd rel want) fun r sE fin => ?_)
  cases r with
  | error e => exact fin.elim
  | ok fl =>
    cases fl with
    | ret u => exact I.after fin
    | next => exact fin.elim
    | brk => exact fin.elim
    | cont => exact fin.elim
end
/-- a def called so -/
structure CalK (P : Program) (w : World) (K : PySem.W.Frag) (mg : Str → Option Value) (base : Heap) (k : Nat) (x : Str) (sp : Sp) : Prop where
  ex : ∃ (f : Addr) (fd : FuncData) (ps : List Str), FnK P w K mg base k f fd ps sp ∧ mg x = some (.ref f) ∧ PySem.W.keepIn K (.ref f) = true ∧ Binds K fd ps []
/-- a method called so -/
structure MetK (P : Program) (w : World) (K : PySem.W.Frag) (mg : Str → Option Value) (base : Heap) (k : Nat) (C : Addr) (m : Str) (sp : Sp) : Prop where
  ex : ∃ (f : Addr) (fd : FuncData) (ps : List Str), Cls K C ∧ Meth K C m f ∧ FnK P w K mg base k f fd ps sp ∧ Binds K fd ps []
section
variable {P : Program} {w : World} {K : PySem.W.Frag} {mg : Str → Option Value} {base : Heap}
theorem calK_of {x : Str} {st : Stmt} {N ps : List Str} {k : Nat} {sp : Sp} (D : DefX K mg x st ps) (S : FnScope N ps (defScope st)) (len : ∀ vs H Q E, sp vs H Q E → vs.length = ps.length)
    (hbody : ∀ (f : Addr) (cdv : Value) (A : Around) (outer : List Env) (s : Shared) (H : Hp) (vs : List V) (Q : VK) (E : XK) (p q : Addr × Obj), Hot2 A p q → L2H.RoomH k (A.deeper (envOfC x (defScope st) s.heap.objs.size f cdv)) → sp vs H Q E →
      ∃ t, PSs (cxK P w K mg base N x (defScope st) f cdv A outer s H E p q).nox (defBody st) t ∧ t { nx := fun _ H' => Q .non H', rt := Q } (start N vs) H) : CalK P w K mg base (k + 1) x sp := by
  obtain ⟨f, fd, F, me, b⟩ := D.ex
  have kp := F.kp
  obtain ⟨oc, od, kV, doc, pm, an, cdv, ct, osl, rfl, lk, hcd⟩ := F.ex
  refine ⟨f, _, ps, fn_ofK lk hcd S len (fun A outer s H vs Q E p q h1 hr hsp => ?_), me, kp, .all b⟩
  obtain ⟨t, g1, g2⟩ := hbody f cdv A outer s H vs Q E p q h1 hr hsp
  exact ⟨t, g1.nox, g2⟩
theorem metK_of {C : Addr} {m qual : Str} {st : Stmt} {N ps : List Str} {k : Nat} {sp : Sp} (c : Cls K C) (D : MetX K C m qual st ps) (S : FnScope N ps (defScope st)) (len : ∀ vs H Q E, sp vs H Q E → vs.length = ps.length)
    (hbody : ∀ (f : Addr) (cdv : Value) (A : Around) (outer : List Env) (s : Shared) (H : Hp) (vs : List V) (Q : VK) (E : XK) (p q : Addr × Obj), Hot2 A p q → L2H.RoomH k (A.deeper (envOfC qual (defScope st) s.heap.objs.size f cdv)) → sp vs H Q E →
      ∃ t, PSs (cxK P w K mg base N qual (defScope st) f cdv A outer s H E p q).nox (defBody st) t ∧ t { nx := fun _ H' => Q .non H', rt := Q } (start N vs) H) : MetK P w K mg base (k + 1) C m sp := by
  obtain ⟨f, fd, F, me, b⟩ := D.ex
  obtain ⟨oc, od, kV, doc, pm, an, cdv, ct, osl, rfl, lk, hcd⟩ := F.ex
  refine ⟨f, _, ps, c, me, fn_ofK lk hcd S len (fun A outer s H vs Q E p q h1 hr hsp => ?_), .all b⟩
  obtain ⟨t, g1, g2⟩ := hbody f cdv A outer s H vs Q E p q h1 hr hsp
  exact ⟨t, g1.nox, g2⟩
theorem calK_no {x : Str} {st : Stmt} {ps : List Str} (D : DefX K mg x st ps) (k : Nat) : CalK P w K mg base k x (fun _ _ _ _ => False) := by
  obtain ⟨f, fd, F, m, b⟩ := D.ex
  have kp := F.kp
  exact ⟨f, fd, ps, ⟨fun _ _ _ _ z => z.elim, fun _ _ _ _ _ _ _ _ _ _ _ _ _ _ _ _ _ _ z => z.elim⟩, m, kp, .all b⟩
theorem CalK.imp {k : Nat} {x : Str} {sp sp' : Sp} (c : CalK P w K mg base k x sp) (h : ∀ vs H Q E, sp' vs H Q E → sp vs H Q E) : CalK P w K mg base k x sp' := by
  obtain ⟨f, fd, ps, F, m, kp, b⟩ := c.ex
  exact ⟨f, fd, ps, ⟨fun vs H Q E z => F.len vs H Q E (h _ _ _ _ z), fun A outer s H args us vs Q E p q r h2 pp pq e0 bt rv z => F.run A outer s H args us vs Q E p q r h2 pp pq e0 bt rv (h _ _ _ _ z)⟩, m, kp, b⟩
end
section
variable {X : Cx} {k j : Nat} {C : Addr} {x m : Str} {sp : Sp} {p pos apos : Pos} {e o : Expr} {es : List Expr} {ta : TE} {t : TA}
theorem pe_cK (c : CalK X.prog X.w X.K X.mg X.base k x sp) (hot : HotK X) (hr : L2H.RoomH j X.A) (hk : k ≤ j) (hg : Gl X x) (ha : PA X (e :: es) t)
    (hdb : (x == ("__debug__" : Str)) = false := by decide) (he : starEach (e :: es) X.env = (false, eval e X.env) :: starEach es X.env := by rfl) (hpl : (backTo pos (starEach es X.env)).any (·.1) = false := by rfl) :
    PE X (.Call (.Name x p) (e :: es) [] pos) (tCall sp [] L2.E0 t) := by
  obtain ⟨f, fd, ps, F, m, kp, b⟩ := c.ex
  refine ⟨fun pins s σ H Q I h => wpAny_Call_Name_kw (ld_glob I hg m (PySem.W.callWith_K (h₀ := X.base) I.ok.mod.kin kp (thn (ha.run pos pins s σ H _ I h) fun us s1 ⟨vs, H1, I1, r, q⟩ => ⟨I1.kIn, ?_⟩) he hpl) hdb)⟩
  have q : sp (vs ++ []) H1 Q L2.E0 := q
  rw [List.append_nil] at q
  exact run_fnK F (hr.mono hk) hot b I1 r q
theorem pe_mtK {pl : Sem Bool} (c : MetK X.prog X.w X.K X.mg X.base k C m sp) (hot : HotK X) (hr : L2H.RoomH j X.A) (hk : k ≤ j) (he : PE X o ta) (ha : PA X (e :: es) t)
    (hst : starEach (e :: es) X.env = (false, eval e X.env) :: starEach es X.env := by rfl) (hpl : (backTo pos (starEach es X.env)).any (·.1) = false := by rfl)
    (ht : eval (.Call (.Attribute o m apos) (e :: es) [] pos) X.env = (do
      let ov ← eval o X.env
      standAt apos.atName
      let (f, first) ← holding [ov] (getMethod ov m pl)
      callWith pos f first (backTo pos (starEach (e :: es) X.env)) (backToKw pos (keywordEach [] X.env))) := by rfl) :
    PE X (.Call (.Attribute o m apos) (e :: es) [] pos) (tMeth C m sp [] L2.E0 ta t) := by
  obtain ⟨f, fd, ps, hc, hm, F, b⟩ := c.ex
  refine ⟨fun pins s σ H Q I h => PySem.W.methodCall_KW (pl := pl) (thn (he.run pins s σ H _ I h) fun u s1 ⟨x, H1, I1, rx, a, dx, fs, ex, ea, l, q⟩ => ?_) ht⟩
  subst ex
  obtain rfl : u = Value.ref a := rx
  exact getmeth_ok I1 ea hc hm l (PySem.W.callWith_K (first := [.ref a]) (h₀ := X.base) I.ok.mod.kin hm.kp (thn (ha.run pos pins s1 σ H1 _ I1 q) fun us s2 ⟨vs, H2, I2, r, q2⟩ => ⟨I2.kIn, run_fnK (us := .ref a :: us) (vs := .ref a :: vs) F (hr.mono hk) hot b I2 (.cons rfl r) (by have q2 : sp (.ref a :: (vs ++ [])) H2 Q L2.E0 := q2; rw [List.append_nil] at q2; exact q2)⟩) hst hpl)
theorem pe_mtK0 {pl : Sem Bool} (c : MetK X.prog X.w X.K X.mg X.base k C m sp) (hot : HotK X) (hr : L2H.RoomH j X.A) (hk : k ≤ j) (he : PE X o ta)
    (ht : eval (.Call (.Attribute o m apos) [] [] pos) X.env = (do
      let ov ← eval o X.env
      standAt apos.atName
      let (f, first) ← holding [ov] (getMethod ov m pl)
      callWith pos f first (backTo pos (starEach [] X.env)) (backToKw pos (keywordEach [] X.env))) := by rfl) :
    PE X (.Call (.Attribute o m apos) [] [] pos) (tMeth C m sp [] L2.E0 ta tNil) := by
  obtain ⟨f, fd, ps, hc, hm, F, b⟩ := c.ex
  refine ⟨fun pins s σ H Q I h => PySem.W.methodCall_KW (pl := pl) (thn (he.run pins s σ H _ I h) fun u s1 ⟨x, H1, I1, rx, a, dx, fs, ex, ea, l, q⟩ => ?_) ht⟩
  subst ex
  obtain rfl : u = Value.ref a := rx
  exact getmeth_ok I1 ea hc hm l (PySem.W.callWith_K0 (first := [.ref a]) I1.kIn hm.kp (run_fnK (us := [.ref a]) (vs := [.ref a]) F (hr.mono hk) hot b I1 (.cons rfl .nil) q))
end

/-! ### a tuple taken apart while such an exception is handled -/
section
variable {prog : Program} {w : World} {A : Around} {E : Value → Shared → Prop} {s : Shared}
theorem next_tup_end2 {it t x1 y : Addr} {i : Nat} {items : Array Value} {Q : Option Value → Shared → Prop} (hot : At2 A x1 y s.heap) (n1 : x1 ≠ it) (n2 : y ≠ it) (hit : IsTupIter s.heap it t i) (ht : IsTup s.heap t items) (hx : items[i]? = none)
    (hQ : ∀ h', (∀ b o, b ≠ it → s.heap.get? b = some o → h'.get? b = some o) → Q none { s with heap := h' }) : wpAny (model prog w) A (pyNext (.ref it)) Q E s := by
  obtain ⟨o, ho, hc, hd⟩ := id hit
  obtain ⟨ol, hol, _, nl, hdl⟩ := ht
  unfold pyNext
  refine wpAny_bind (wpAny_attempt (wpAny_callSpecial?_slot (name := Str.ofString "__next__") hit.typeIs slot_tupleiter_next
    (wpAny_call_entry slot_tupleiter_next hit.typeIs entry_tupleiter_next ?_ (args_tupleiter_next _))))
  show wpAny _ _ (field (.ref it) 0 >>= _) _ _ s
  refine wpAny_bind (wpAny_field ho hd (x := .ref t) rfl ?_)
  show wpAny _ _ (if (Value.ref t == Value.none) = true then _ else _) _ _ s
  rw [if_neg (show ¬ ((Value.ref t == Value.none) = true) from Bool.false_ne_true)]
  show wpAny _ _ (field (.ref it) 1 >>= _) _ _ s
  refine wpAny_bind (wpAny_field ho hd (x := .int i 0) rfl ?_)
  show wpAny _ _ (seqItems? (.ref t) >>= _) _ _ s
  refine wpAny_bind (wpAny_seqItems hol hdl ?_)
  simp only [Int.toNat_natCast, hx]
  refine wpAny_bind (wpAny_rule (wpAny_bind (wpAny_setField ho hd (by simp) ?_)))
  have kp : ∀ b o, b ≠ it → s.heap.get? b = some o → (s.heap.update it (Obj.mapFields (·.setIfInBounds 0 .none))).get? b = some o := fun b o n e => by
    rw [Heap.get?_update_other _ _ (Ne.symm n)]
    exact e
  have hot' : At2 A.in1 x1 y (s.heap.update it (Obj.mapFields (·.setIfInBounds 0 .none))) := hot.keeps fun b o hb e => kp b o (by rcases hb with rfl | rfl; exact n1; exact n2) e
  show wpAny _ _ (newExc (.type "StopIteration") [] >>= _) _ _ _
  refine stop_hot2 (s := { s with heap := s.heap.update it (Obj.mapFields (·.setIfInBounds 0 .none)) }) hot' fun h' k a ⟨oa, ea, ca⟩ => ?_
  refine wpAny_bind (wpAny_isInstance (T := "StopIteration") (b := true) ⟨oa, ea, ca⟩ isSubtype_stop ?_)
  exact wpAny_pure (hQ _ fun b o n e => k b o (kp b o n e))
theorem tuple_items2 {t x1 y : Addr} {items : Array Value} {Q : List Value → Shared → Prop} (hot : At2 A x1 y s.heap) (ht : IsTup s.heap t items)
    (hQ : ∀ h', (∀ b o, s.heap.get? b = some o → h'.get? b = some o) → Q items.toList { s with heap := h' }) : wpAny (model prog w) A (unpackItems (.ref t) items.size none) Q E s := by
  have old : t ≠ s.heap.objs.size := by obtain ⟨o, ho, _⟩ := ht; exact Nat.ne_of_lt (Heap.lt_size ho)
  unfold unpackItems
  refine wpAny_bind ?_
  unfold notIterableAtAll
  refine wpAny_bind (wpAny_specialOf ht.typeIs slot_tuple_iter.lookup ?_)
  refine wpAny_pure ?_
  simp only [Bool.false_eq_true, if_false]
  refine wpAny_bind (wpAny_holding (iter_tuple ht ?_))
  refine wpAny_bind (wpAny_holding (draw_tuple old items.size 0 _ _ ⟨_, Heap.get?_push_size _ rfl, rfl, rfl⟩ (ht.push _) (by omega) fun h1 it1 sb1 => ?_))
  have whole : List.take items.size (List.drop 0 items.toList) = items.toList := by
    rw [List.drop_zero]
    exact List.take_of_length_le (by simp)
  rw [whole, if_neg (by simp)]
  have up : ∀ b o, s.heap.get? b = some o → h1.get? b = some o := fun b o e => sb1.extBut b o (Nat.ne_of_lt (Heap.lt_size e)) (Heap.get?_push_of_some _ e)
  have hot1 : At2 A x1 y h1 := hot.keeps fun b o _ e => up b o e
  refine wpAny_bind (wpAny_holding (next_tup_end2 (s := { s with heap := h1 }) hot1 (Nat.ne_of_lt hot.lt.1) (Nat.ne_of_lt hot.lt.2) it1 ((ht.push _).extBut sb1.extBut old) (by simp) fun h2 k2 => ?_))
  simp only [Option.isSome_none, Bool.false_eq_true, if_false]
  exact wpAny_pure (hQ h2 fun b o e => k2 b o (Nat.ne_of_lt (Heap.lt_size e)) (up b o e))
end
section
variable {X : Cx}
theorem HotK.at2 {pins : List (Addr × Obj)} {σ : L2.St} {H : Hp} {s : Shared} (hot : HotK X) (I : Inv X pins σ H s) : ∃ x1 y, At2 X.A x1 y s.heap := by
  obtain ⟨p, hp, q, hq, h2⟩ := hot
  exact ⟨p.1, q.1, h2.at2 (pin_ok I hp).get (pin_ok I hq).get⟩
theorem pg_tupK {es : List Expr} {k : Nat} {t : TGs} {n : Nat} {pos : Pos} (hot : HotK X) (h : PGs X es t)
    (hn : (assignEach es X.env).length = n := by rfl) (hst : (assignEach es X.env).findIdx? (·.1) = none := by rfl) : PG X (.Tuple es k pos) (gTup X.K n t) := by
  refine ⟨fun pins s σ H v u Q I r want => ?_⟩
  obtain ⟨a, xs, rfl, hq, hl, want⟩ := want
  cases r
  obtain ⟨its, rv, tup, hz⟩ := I.tuple hq
  obtain ⟨x1, y, at2⟩ := hot.at2 I
  rw [PyProof.Rows.assign_Tuple]
  refine wpAny_bind (wpAny_standAt ?_)
  unfold unpack
  rw [show (assignEach es X.env).length = its.toArray.size by simp [hn, ← hl, rv.length], hst]
  refine wpAny_bind (wpAny_holding (tuple_items2 at2 tup fun h' up => ?_))
  have I1 : Inv X pins σ H { s with heap := h' } := I.kept (t' := s.toks) up
  exact h.run pins _ σ H xs _ Q I1 (by simpa using rv) want
end

/-! ### a list comprehension while such an exception is handled -/
/-- the block's context, the pins kept -/
abbrev blkK (X : Cx) (s : Shared) (H : Hp) (scope : Scope) (cenv : Env) (fp : List Addr) (p q : Addr × Obj) : Cx := { X.blk s H scope cenv fp with pn := [p, q] }
theorem hotK_blk {X : Cx} {s : Shared} {H : Hp} {scope : Scope} {cenv : Env} {fp : List Addr} {p q : Addr × Obj} (h : Hot2 X.A p q) : HotK (blkK X s H scope cenv fp p q) := ⟨p, List.mem_cons_self, q, List.mem_cons_of_mem _ List.mem_cons_self, h⟩
section
variable {X : Cx}
theorem lck_core {pins : List (Addr × Obj)} {s : Shared} {σ : L2.St} {H : Hp} {Q : VK} {elt tg iter : Expr} {ifs : List Expr} {scope : Scope} {own : List (Str × Nat)} {pos pos' : Pos} {wi : TI} {g : TG} {tt : TT} {te : TE} {use : Option (Value → Sem Unit)} {Qf : Value → Shared → Prop}
    (hot : HotK X) (nd : X.N.Nodup) (I : Inv X pins σ H s) (walk : PIK X tg iter wi) (bo : BlkOk X.N X.env.scope scope own)
    (wg : ∀ (s : Shared) (H : Hp) (C : Addr) (cl : List (Str × Addr)) (fp : List Addr) (p q : Addr × Obj), Hot2 X.A p q → PG (blkK X s H scope (compEnvC scope cl C X.env) fp p q) tg g) (wt : ∀ (s : Shared) (H : Hp) (C : Addr) (cl : List (Str × Addr)) (fp : List Addr) (p q : Addr × Obj), Hot2 X.A p q → PTs (blkK X s H scope (compEnvC scope cl C X.env) fp p q) ifs tt)
    (we : ∀ (s : Shared) (H : Hp) (C : Addr) (cl : List (Str × Addr)) (fp : List Addr) (p q : Addr × Obj), Hot2 X.A p q → PE (blkK X s H scope (compEnvC scope cl C X.env) fp p q) elt te) (nofold : ∀ x, foldedSetIterable iter X.env x = pure x)
    (want : tLc wi g tt te (own.map (·.2)) σ H Q)
    (ends : ∀ D C s' m H', Inv X pins σ H' s' → Q (.ref D) H' → s'.heap.Ns C m → FpOk X pins H' C → compPost (model X.prog X.w) X.A X.xe use Qf (.ref D) C (.ok .next) s') :
    wpAny (model X.prog X.w) X.A (comprehension (.ListComp elt [⟨tg, iter, ifs, 0⟩] scope pos) scope X.env pos' (newList []) false (eval iter X.env) use) Qf X.xe s := by
  have outerCells : ∀ y ∈ scope.names, y.2 = .free → ∃ c, X.env.cells.lookup y.1 = some c := fun y hy e => (bo.free y hy e).elim (fun z => I.ok.has _ (.inl z)) fun z => I.ok.has _ (.inr z)
  refine wpAny_comprehension_free (use := use) rfl nofold (closure_ok outerCells) bo.kind (fun y hy e => by rw [bo.uniq y hy, e]) (thn (walk.run pins s σ H _ I want) fun xv sA hA => thn hA fun itv s2 hB => ?_)
  obtain ⟨it, fp, tn, J, H2, rfl, I2, T, st2, f2, plan⟩ := hB
  refine wpAny_newObj_type (newEnv_comp ?_) (by show 0 ≤ sizeLine; decide)
  generalize hD : s2.heap.objs.size = D
  have freshD : H2 D = none := I2.hok.fresh (Nat.le_of_eq hD)
  obtain ⟨W, ⟨m0, w0⟩, turn⟩ := plan D freshD
  have up3 : ∀ b o, s2.heap.get? b = some o → (s2.heap.push { cls := .type "list", data := .seq ([] : List Value).toArray }).get? b = some o := fun b o e => Heap.get?_push_of_some _ e
  have I3 : Inv X pins σ (upd H2 D (.lst [])) { s2 with heap := s2.heap.push { cls := .type "list", data := .seq ([] : List Value).toArray } } :=
    I2.laid (t' := s2.toks) up3 (Nat.le_of_eq hD) ⟨Nat.zero_le _, [], 0, .nil, by rw [← hD]; exact Heap.get?_push_size _ rfl⟩
  have f3 : ∀ b ∈ fp, FpOk X pins (upd H2 D (.lst [])) b ∧ b < (s2.heap.push { cls := .type "list", data := .seq ([] : List Value).toArray }).objs.size := fun b hb => by
    obtain ⟨o, e, _⟩ := T.obj _ _ st2 b hb
    have lt := Heap.lt_size e
    exact ⟨⟨by rw [upd_ne (by rw [← hD]; exact Nat.ne_of_lt lt)]; exact (f2 b hb).1, (f2 b hb).2⟩, by rw [Heap.size_push]; exact Nat.lt_succ_of_lt lt⟩
  have st3 : tn 0 (s2.heap.push { cls := .type "list", data := .seq ([] : List Value).toArray }) := T.keep _ _ _ st2 fun b _ o e => up3 b o e
  have e3 : ∀ h t, ({ s2 with heap := h, toks := t } : Shared).heap = h := fun _ _ => rfl
  generalize hs3 : ({ s2 with heap := s2.heap.push { cls := .type "list", data := .seq ([] : List Value).toArray } } : Shared) = s3 at I3
  have h3 : s3.heap = s2.heap.push { cls := .type "list", data := .seq ([] : List Value).toArray } := by rw [← hs3]
  rw [← h3] at f3 st3
  generalize hH3 : upd H2 D (.lst []) = H3 at I3 w0 f3
  have none3 : ∀ b ∈ fp, H3 b = none := fun b hb => (f3 b hb).1.1
  -- the handled exception, out of the block's reach
  obtain ⟨p, hp, q, hq, h2⟩ := hot
  have off : ∀ r ∈ X.pn, s3.heap.get? r.1 = some r.2 ∧ H3 r.1 = none ∧ r.1 ∉ frs X.stack ∧ r.1 ∉ fp := fun r hr =>
    let z := pin_ok I3 hr
    ⟨z.get, z.free, z.nofs, fun hm => (f3 r.1 hm).1.2.2.2.2.2 r (List.mem_append_left _ hr) rfl⟩
  have I4 : Inv (blkK X s3 H3 scope (compEnvC scope (cellsFrom (s3.heap.objs.size + 1) scope.names (cloFrom X.env.cells scope.names [])) s3.heap.objs.size X.env) fp p q) [] (wipe σ (own.map (·.2))) H3 { s3 with heap := pushCells (s3.heap.push { cls := .type "dict", data := .dict #[] }) scope.names } := by
    have B := block_start I3 bo nd f3
    have one : ∀ r ∈ X.pn, (pushCells (s3.heap.push { cls := .type "dict", data := .dict #[] }) scope.names).get? r.1 = some r.2 ∧ H3 r.1 = none ∧ r.1 ≠ s3.heap.objs.size ∧ r.1 ∉ frs X.stack ∧ ∀ v, r.2.data ≠ .cell v := fun r hr =>
      ⟨pushCells_keeps _ _ _ _ (Heap.get?_push_of_some _ (off r hr).1), (off r hr).2.1, Nat.ne_of_lt (Heap.lt_size (off r hr).1), (off r hr).2.2.1, (pin_ok I3 hr).nocell⟩
    exact ⟨⟨B.ok.mod, B.ok.kind, B.ok.glob, B.ok.blt, B.ok.above, B.ok.inj, B.ok.has, B.ok.cab, B.ok.hd, B.ok.frames, B.ok.stk, B.ok.exf, B.ok.bs, B.ok.bsz, B.ok.noex, B.ok.exfs, B.ok.funs, B.ok.frf⟩,
      B.os, B.bare, B.base, B.loc, B.cell, B.free, B.freeC, fun r hr => by
        by_cases e : r = p
        · rw [e]
          exact one p hp
        · have e2 : r = q := (List.mem_cons.mp (show r ∈ [p, q] by simpa using hr)).elim (fun z => absurd z e) fun z => List.mem_singleton.mp z
          rw [e2]
          exact one q hq, B.hok, B.len⟩
  have pg := wg s3 H3 s3.heap.objs.size (cellsFrom (s3.heap.objs.size + 1) scope.names (cloFrom X.env.cells scope.names [])) fp p q h2
  have pt := wt s3 H3 s3.heap.objs.size (cellsFrom (s3.heap.objs.size + 1) scope.names (cloFrom X.env.cells scope.names [])) fp p q h2
  have pe := we s3 H3 s3.heap.objs.size (cellsFrom (s3.heap.objs.size + 1) scope.names (cloFrom X.env.cells scope.names [])) fp p q h2
  show codeAny _ _ (.compStart (.ListComp elt [⟨tg, iter, ifs, 0⟩] scope pos) 0 (.ref it) (.ref D) (compEnvC scope (cellsFrom (s3.heap.objs.size + 1) scope.names (cloFrom X.env.cells scope.names [])) s3.heap.objs.size X.env)) (compPost (model X.prog X.w) X.A X.xe use Qf (.ref D) s3.heap.objs.size) { s3 with heap := pushCells (s3.heap.push { cls := .type "dict", data := .dict #[] }) scope.names }
  generalize hce : compEnvC scope (cellsFrom (s3.heap.objs.size + 1) scope.names (cloFrom X.env.cells scope.names [])) s3.heap.objs.size X.env = ce at I4 pg pt pe ⊢
  have cL : ce.locals = s3.heap.objs.size := by subst hce; rfl
  have st4 : tn 0 (pushCells (s3.heap.push { cls := .type "dict", data := .dict #[] }) scope.names) := T.keep _ _ _ st3 fun b _ o e => pushCells_keeps _ _ _ _ (Heap.get?_push_of_some _ e)
  generalize hs4 : ({ s3 with heap := pushCells (s3.heap.push { cls := .type "dict", data := .dict #[] }) scope.names } : Shared) = s4 at I4 ⊢
  have h4 : s4.heap = pushCells (s3.heap.push { cls := .type "dict", data := .dict #[] }) scope.names := by rw [← hs4]
  rw [← h4] at st4
  have fpo : ∀ {σ' : L2.St} {H' : Hp} {s' : Shared}, Inv (blkK X s3 H3 scope ce fp p q) [] σ' H' s' → (∀ b ∈ fp, H' b = none) → ∀ b ∈ fp, FpOk (blkK X s3 H3 scope ce fp p q) [] H' b := fun {σ' H' s'} I' hn b hb =>
    ⟨hn b hb, (I'.ok.exf b hb).1, I'.ok.exfs b hb, .inl hb, fun x c e => (I'.ok.exf b hb).2 x c e, fun r hr z => by
      by_cases e : r = p
      · exact (off p hp).2.2.2 (by rw [← e, z]; exact hb)
      · have e2 : r = q := (List.mem_cons.mp (show r ∈ [p, q] by simpa using hr)).elim (fun z => absurd z e) fun z => List.mem_singleton.mp z
        exact (off q hq).2.2.2 (by rw [← e2, z]; exact hb)⟩
  have hotIn : ∀ {σ' : L2.St} {H' : Hp} {s' : Shared}, Inv (blkK X s3 H3 scope ce fp p q) [] σ' H' s' → ∃ x1 y, At2 X.A x1 y s'.heap ∧ x1 ∉ fp ∧ y ∉ fp := fun {σ' H' s'} I' => by
    obtain ⟨a1, a2, a3, a4⟩ := off p hp
    obtain ⟨b1, b2, b3, b4⟩ := off q hq
    exact ⟨p.1, q.1, h2.at2 (I'.base.keep _ _ a1 a2 a3 a4) (I'.base.keep _ _ b1 b2 b3 b4), a4, b4⟩
  have loop : codeAny (model X.prog X.w) X.A (.compLoop (.ListComp elt [⟨tg, iter, ifs, 0⟩] scope pos) 0 (.ref it) (.ref D) ce) (compPost (model X.prog X.w) X.A X.xe use Qf (.ref D) s3.heap.objs.size) s4 := by
    refine compLoop_any (fun n s' => ∃ i H', Inv (blkK X s3 H3 scope ce fp p q) [] (wipe σ (own.map (·.2))) H' s' ∧ tn i s'.heap ∧ (∀ b ∈ fp, H' b = none) ∧ W i n H') ?_ m0 ⟨0, H3, I4, st4, none3, w0⟩
    rintro n s5 ⟨i, H5, I5, st5, n5, w5⟩
    rcases turn i n H5 w5 with ⟨stop, done⟩ | ⟨go, Nx, less, step⟩
    · refine thnF (T.done (blkK X s3 H3 scope ce fp p q) rfl rfl rfl i [] s5 _ H5 (fun _ _ => False) I5 (fpo I5 n5) (hotIn I5) st5 stop) fun r s6 ⟨hr, I6⟩ => ?_
      subst hr
      have I7 : Inv X pins σ H5 s6 := I3.call' (ch := fp) I6.os I6.base I6.hok I6.bare fun b hb => ⟨(f3 b hb).1.2.2.2.1, (f3 b hb).1.2.1, (f3 b hb).1.2.2.2.2.1, (f3 b hb).1.2.2.2.2.2⟩
      have freeL : H5 s3.heap.objs.size = none := cL ▸ (show H5 ce.locals = none from I6.free)
      obtain ⟨m, ns, _⟩ := I6.loc
      have ns : s6.heap.Ns ce.locals m := ns
      rw [cL] at ns
      exact ends D s3.heap.objs.size s6 m H5 I7 done ns (I3.fpOk (Nat.le_refl _) freeL)
    · refine thnF (T.item (blkK X s3 H3 scope ce fp p q) rfl rfl rfl i [] s5 _ H5 (fun _ _ => False) I5 (fpo I5 n5) st5 go) fun r s6 ⟨u, hr, h6⟩ => ?_
      subst hr
      refine thnF h6 fun _ s7 ⟨x, H7, I7, r7, y7, st7, n7⟩ => ?_
      have objs7 := T.obj _ _ st7
      refine thnF (pg.run _ s7 _ H7 x u _ (I7.pinned (fpo I7 n7) objs7) r7 (step x H7 y7)) fun _ s8 ⟨σ8, H8, I8, hw8, q8⟩ => ?_
      refine thnF (pt.run _ s8 σ8 H8 _ I8 q8) fun b s9 ⟨H9, I9, q9⟩ => ?_
      have next : ∀ {s' : Shared} {H' : Hp}, Inv (blkK X s3 H3 scope ce fp p q) ([] ++ pinsAt fp s7.heap) σ8 H' s' → Nx H' → ∃ m, m < n ∧ ∃ i H', Inv (blkK X s3 H3 scope ce fp p q) [] (wipe σ (own.map (·.2))) H' s' ∧ tn i s'.heap ∧ (∀ b ∈ fp, H' b = none) ∧ W i m H' := fun {s' H'} I' nx => by
        obtain ⟨m', lt, w'⟩ := less H' nx
        have held : ∀ b ∈ fp, ∀ o, s7.heap.get? b = some o → s'.heap.get? b = some o ∧ H' b = none := fun b hb o e =>
          (I'.pin (b, o) (List.mem_append_right _ (List.mem_append_right _ (mem_pinsAt hb e)))).imp id (·.1)
        refine ⟨m', lt, i + 1, H', (I'.unpinned (pins := [])).weak (by rw [← hw8, wipe_length]) (fun j v e => ?_), T.keep _ _ _ st7 fun b hb o e => (held b hb o e).1, fun b hb => (objs7 b hb).elim fun o z => (held b hb o z.1).2, w'⟩
        rw [← hw8] at e
        exact (wipe_some e).1
      cases b with
      | false =>
        simp only [Bool.false_eq_true, if_false] at q9 ⊢
        exact next I9 q9
      | true =>
        simp only [if_true] at q9 ⊢
        exact thnF (pe.run _ s9 σ8 H9 _ I9 q9) fun z s10 ⟨yv, H10, I10, r10, acc, hD10, hz10, nx⟩ => app_ok (X := blkK X s3 H3 scope ce fp p q) I10 hD10 hz10 r10 fun s11 I11 => next I11 nx
  exact codeAny_compStart_list loop (T.self X.A 0 _ _ _ st4 loop)
theorem pe_lcK {elt tg iter : Expr} {ifs : List Expr} {scope : Scope} {own : List (Str × Nat)} {pos : Pos} {wi : TI} {g : TG} {tt : TT} {te : TE} (hot : HotK X) (nd : X.N.Nodup) (walk : PIK X tg iter wi) (bo : BlkOk X.N X.env.scope scope own)
    (wg : ∀ (s : Shared) (H : Hp) (C : Addr) (cl : List (Str × Addr)) (fp : List Addr) (p q : Addr × Obj), Hot2 X.A p q → PG (blkK X s H scope (compEnvC scope cl C X.env) fp p q) tg g) (wt : ∀ (s : Shared) (H : Hp) (C : Addr) (cl : List (Str × Addr)) (fp : List Addr) (p q : Addr × Obj), Hot2 X.A p q → PTs (blkK X s H scope (compEnvC scope cl C X.env) fp p q) ifs tt)
    (we : ∀ (s : Shared) (H : Hp) (C : Addr) (cl : List (Str × Addr)) (fp : List Addr) (p q : Addr × Obj), Hot2 X.A p q → PE (blkK X s H scope (compEnvC scope cl C X.env) fp p q) elt te) (nofold : ∀ x, foldedSetIterable iter X.env x = pure x := by intro _; rfl) :
    PE X (.ListComp elt [⟨tg, iter, ifs, 0⟩] scope pos) (tLc wi g tt te (own.map (·.2))) := by
  refine ⟨fun pins s σ H Q I want => ?_⟩
  rw [eval_ListComp]
  refine lck_core hot nd I walk bo wg wt we nofold want fun D C s' m H' I' q ns f => ⟨m, ns, fun h'' sb => ?_⟩
  obtain ⟨f0, f1, f2, f3, f4, f5⟩ := f
  exact ⟨.ref D, H', I'.turned (t' := s'.toks) (fun b o hb e => (sb.2 b hb).trans e) f0 f1 f3 f4 f5, rfl, q⟩
theorem ps_setLcK {i : Nat} {y : Str} {py : Pos} {elt tg iter : Expr} {ifs : List Expr} {scope : Scope} {own : List (Str × Nat)} {pos spos : Pos} {wi : TI} {g : TG} {tt : TT} {te : TE} (hot : HotK X) (nd : X.N.Nodup) (hy : X.N[i]? = some y) (hyl : X.env.scope.names.lookup y = some .local)
    (sw : swapsWith (.ListComp elt [⟨tg, iter, ifs, 0⟩] scope pos) (some (.Name y py)) spos.line X.env = pure true) (walk : PIK X tg iter wi) (bo : BlkOk X.N X.env.scope scope own)
    (wg : ∀ (s : Shared) (H : Hp) (C : Addr) (cl : List (Str × Addr)) (fp : List Addr) (p q : Addr × Obj), Hot2 X.A p q → PG (blkK X s H scope (compEnvC scope cl C X.env) fp p q) tg g) (wt : ∀ (s : Shared) (H : Hp) (C : Addr) (cl : List (Str × Addr)) (fp : List Addr) (p q : Addr × Obj), Hot2 X.A p q → PTs (blkK X s H scope (compEnvC scope cl C X.env) fp p q) ifs tt)
    (we : ∀ (s : Shared) (H : Hp) (C : Addr) (cl : List (Str × Addr)) (fp : List Addr) (p q : Addr × Obj), Hot2 X.A p q → PE (blkK X s H scope (compEnvC scope cl C X.env) fp p q) elt te) (nofold : ∀ x, foldedSetIterable iter X.env x = pure x := by intro _; rfl) :
    PS X (.Assign [.Name y py] (.ListComp elt [⟨tg, iter, ifs, 0⟩] scope pos) spos) (tAsg (tLc wi g tt te (own.map (·.2))) (gName i)) := by
  refine ⟨fun pins s σ H D I want => ?_⟩
  rw [exec_Assign_Name_used _ _ _ _ sw]
  refine wpAny_bind (wpAny_standAt (wpAny_bind ?_))
  have want : tLc wi g tt te (own.map (·.2)) σ H (fun x H1 => gName i x σ H1 D.nx) := want
  show wpAny _ X.A (do let _ ← comprehension (.ListComp elt [⟨tg, iter, ifs, 0⟩] scope pos) scope X.env (firstIterPos [⟨tg, iter, ifs, 0⟩] pos) (newList []) false (eval iter X.env) (some (assign (.Name y py) X.env))) _ _ s
  refine wpAny_bind (thn (lck_core (Qf := fun _ s' => SP X pins D .next s') hot nd I walk bo wg wt we nofold want fun L C s' m H' I' q ns f => ?_) fun _ s' z => wpAny_pure (wpAny_pure z))
  show wpAny _ _ (assign (.Name y py) X.env (.ref L)) _ _ _
  refine wpAny_assign_Name (store_ok2 (v := V.ref L) I' nd hy (.inl hyl) rfl (fun s2 I2 ⟨a, sb, ha⟩ => ?_) (.inr hyl))
  obtain ⟨f0, f1, f2, f3, f4, f5⟩ := f
  have apart : C ≠ a := ha.elim (fun z => by rw [z]; exact f1) fun z e => f4 y a z e.symm
  exact ⟨m, ns.sameBut sb apart, fun hZ sbZ => ⟨_, H', I2.turned (t' := s2.toks) (fun b o hb e => (sbZ.2 b hb).trans e) f0 f1 f3 f4 f5, q⟩⟩
end

/-! ### nested defs and seals called while such an exception is handled -/
structure NOkK (P : Program) (w : World) (K : PySem.W.Frag) (mg : Str → Option Value) (base : Heap) (k : Nat) (f : Addr) (F : NdefX.NF) (ps fr : List Str) (sp : List (Option V) → Sp) : Prop where
  run : ∀ (A : Around) (outer : List Env) (s : Shared) (H : Hp) (us : List Value) (vs : List V) (ws : List (Option V)) (Q : VK) (E : XK) (p q : Addr × Obj), L2H.RoomH k A → Hot2 A p q → L2H.PinOk outer H s p → L2H.PinOk outer H s q → Env0 P w K mg base A outer s H → H f = some (NdefX.FnO f F) → H F.c = some (LamX.CodeO F.c F.qual) →
    NdefX.CellsAt F.cl fr ws s.heap H → Vals vs us → sp ws vs H Q E → codeAny (model P w) A (.call (.ref f) ⟨us, []⟩) (CR L2.CX0 outer P w H s Q E) s
def ncxK (P : Program) (w : World) (K : PySem.W.Frag) (mg : Str → Option Value) (base : Heap) (N : List Str) (F : NdefX.NF) (f : Addr) (A : Around) (outer : List Env) (s : Shared) (H : Hp) (E : XK) (p q : Addr × Obj) : Cx :=
  { NdefX.ncx L2.CX0 P w K mg base N F f A outer s H E with calm := false, pn := [p, q] }
section
variable {P : Program} {w : World} {K : PySem.W.Frag} {mg : Str → Option Value} {base : Heap}
theorem nokK_of {N ps fr : List Str} {F : NdefX.NF} {f : Addr} {k : Nat} {sp : List (Option V) → Sp} (S : NdefX.NScope N ps fr F.scope) (bnd : ∀ (doc pm ctv : Value) (us : List Value), us.length = ps.length → bindArgs (F.fd doc pm ctv) ⟨us, []⟩ = pure (ps.zip us)) (len : ∀ ws vs H Q E, sp ws vs H Q E → vs.length = ps.length)
    (body : ∀ (A : Around) (outer : List Env) (s : Shared) (H : Hp) (vs : List V) (ws : List (Option V)) (Q : VK) (E : XK) (p q : Addr × Obj), Hot2 A p q → L2H.RoomH k (A.deeper (NdefX.envF F f s.heap.objs.size)) → H f = some (NdefX.FnO f F) → H F.c = some (LamX.CodeO F.c F.qual) → ws.length = fr.length → sp ws vs H Q E →
      ∃ t, PSs (ncxK P w K mg base N F f A outer s H E p q) F.body t ∧ t { nx := fun _ H' => Q .non H', rt := Q } (NdefX.startF N vs ws) H) :
    NOkK P w K mg base (k + 1) f F ps fr sp := by
  refine ⟨fun A outer s H us vs ws Q E p q room hot pp pq env0 hf hc cells rel want => ?_⟩
  have hl := len _ _ _ _ _ want
  have room1 : s.heap.NoLimit := env0.mod.nolimit.keeps fun b o e => (env0.bs b o e).1
  obtain ⟨od, sl, doc, pm, ctv, ho⟩ := NdefX.fnO_at env0.hok hf
  refine codeAny_call_function room.depth ho rfl S.co S.gen rfl (NdefX.codeO_at env0.hok hc) ?_
  rw [bnd doc pm ctv us (by rw [← rel.length]; exact hl)]
  refine wpAny_pure (wpAny_newFunctionEnv S.nocell (fun ⟨n, _⟩ hy => S.par n (List.of_mem_zip hy).1) (fun h1 ns sb => ⟨room1.fresh _ sb, ?_⟩) S.kind)
  show codeAny _ _ (.func F.body (NdefX.envF F f s.heap.objs.size)) _ _
  have kp : ∀ b o, s.heap.get? b = some o → h1.get? b = some o := fun b o e => sb.extBut b o (Nat.ne_of_lt (Heap.lt_size e)) (Heap.get?_push_of_some _ e)
  obtain ⟨t, walk, start⟩ := body A outer s H vs ws Q E p q hot (room.deeper _) hf hc cells.len want
  have I := inv_pin2 (X := NdefX.ncx L2.CX0 P w K mg base N F f A outer s H E |> fun Y => { Y with calm := false }) (NdefX.inv_startNH (tk := s.toks + (ps.zip us).length) S pp env0 hl rel cells ns kp) (NdefX.inv_startNH (tk := s.toks + (ps.zip us).length) S pq env0 hl rel cells ns kp)
  refine codeAny_func (wpAny_mono (walk.run [] _ (NdefX.startF N vs ws) H _ I start) (fun fl sE fin => ?_) fun e sE fin => fin)
  cases fl with
  | ret u => exact fin.elim fun v ⟨_, H', J, rv, q2⟩ => ⟨v, H', J.os, J.bare, J.base, J.hok, rv, q2⟩
  | next => exact fin.elim fun _ ⟨H', J, q2⟩ => ⟨V.non, H', J.os, J.bare, J.base, J.hok, rfl, q2⟩
  | brk => exact fin.elim fun _ ⟨_, _, z⟩ => z.elim
  | cont => exact fin.elim fun _ ⟨_, _, z⟩ => z.elim
structure HeldSlK (P : Program) (w : World) (K : PySem.W.Frag) (mg : Str → Option Value) (base : Heap) (k : Nat) (S : Sys) : Prop where
  at_ : ∀ (H : Hp) (h : Heap) (r : Nat), K.In h → HOk P w H h → S.ok H r → PySem.W.FnAt S.f h
  run : ∀ (A : Around) (outer : List Env) (s : Shared) (H : Hp) (us : List Value) (vs : List V) (Q : VK) (E : XK) (p q : Addr × Obj), L2H.RoomH k A → Hot2 A p q → L2H.PinOk outer H s p → L2H.PinOk outer H s q → Env0 P w K mg base A outer s H → Vals vs us → spSl S vs H Q E →
    codeAny (model P w) A (.call (.ref S.f) ⟨us, []⟩) (CR L2.CX0 outer P w H s Q E) s
end
section
variable {X : Cx} {i j k : Nat} {x : Str} {p pos : Pos} {e : Expr} {es : List Expr} {t : TA} {Fam : Sys → Prop}
theorem pe_slK (A : ∀ S, Fam S → HeldSlK X.prog X.w X.K X.mg X.base k S) (hot : HotK X) (hr : L2H.RoomH j X.A) (hk : k ≤ j) (hN : X.N[i]? = some x) (hv : Vis X.env.scope x) (ha : PA X (e :: es) t)
    (hdb : (x == ("__debug__" : Str)) = false := by decide) (hcd : (x == ("__classdict__" : Str)) = false := by decide)
    (he : starEach (e :: es) X.env = (false, eval e X.env) :: starEach es X.env := by rfl) (hpl : (backTo pos (starEach es X.env)).any (·.1) = false := by rfl) : PE X (.Call (.Name x p) (e :: es) [] pos) (tSl Fam i t) := by
  refine ⟨fun pins s σ H Q I h => ?_⟩
  obtain ⟨S, r, hS, hs, hok, ht⟩ := h
  refine wpAny_Call_Name_kw (thn ((pe_var (pos := p) hN hv hdb hcd).run pins s σ H (fun v H1 => v = .ref S.f ∧ H1 = H) I ⟨.ref S.f, hs, rfl, rfl⟩) fun u s1 ⟨v, H1, I1, r1, q1⟩ => ?_)
  obtain ⟨rfl, rfl⟩ := q1
  cases r1
  refine PySem.W.callWith_F ((A S hS).at_ _ _ _ I1.kIn I1.hok hok) (thn (ha.run pos pins s1 σ _ _ I1 ht) fun us s2 ⟨vs, H2, I2, rv, q⟩ => ?_) he hpl
  obtain ⟨r', m, a, b, va, vb, e1, e2, e3, q'⟩ := id q
  obtain ⟨p0, hp0, q0, hq0, h2⟩ := hot
  refine ⟨(A S hS).at_ _ _ _ I2.kIn I2.hok e3, ?_⟩
  refine wpAny_call (codeAny_mono ((A S hS).run X.A X.stack s2 H2 us vs Q L2.E0 p0 q0 (hr.mono hk) h2 (pin_ok I2 hp0) (pin_ok I2 hq0) I2.env0 rv q) fun r s' hq => ?_)
  cases r with
  | error e => exact False.elim hq
  | ok fl =>
    cases fl with
    | ret u => exact I2.after hq
    | next => exact False.elim hq
    | brk => exact False.elim hq
    | cont => exact False.elim hq
end
theorem hotK_cx {P : Program} {w : World} {K : PySem.W.Frag} {mg : Str → Option Value} {base : Heap} {N : List Str} {qual : Str} {scope : Scope} {f : Addr} {cd : Value} {A : Around} {outer : List Env} {s : Shared} {H : Hp} {E : XK} {p q : Addr × Obj} (h : Hot2 A p q) : HotK (cxK P w K mg base N qual scope f cd A outer s H E p q).nox :=
  ⟨p, List.mem_cons_self, q, List.mem_cons_of_mem _ List.mem_cons_self, h⟩
theorem huK_of {A : Around} {k : Nat} (r : L2H.RoomH k A) : A.units + 1 < cLine := by have := r.un; omega
theorem unitsK {A : Around} {k : Nat} (r : L2H.RoomH k A) : A.units + 64 < cLine := by have := r.un; omega

section
variable {P : Program} {w : World} {K : PySem.W.Frag} {mg : Str → Option Value} {base : Heap}
theorem heldK_plain {tf : Str → V → V → List V} {x : Str} {st : Stmt} {ps : List Str} {f : Addr} {fd : FuncData} (F : L2.Fun K x x st f fd) (b : ∀ us : List Value, us.length = ps.length → bindArgs fd ⟨us, []⟩ = pure (ps.zip us)) (G : FnK P w K mg base 1 f fd ps (spTup tf)) :
    HeldSlK P w K mg base 1 (plainSys tf f) := by
  refine ⟨fun H h r X _ _ => fnAt_fun F X, fun A outer s H us vs Q E p1 p2 hr h2 pp pq e0 rv h => ?_⟩
  obtain ⟨r, m, a, b', va, vb, rfl, hm, _, ha, hb, q⟩ := h
  have hsp : spTup tf [.str m, va, vb] H Q E := ⟨m, va, vb, rfl, fun p hp => q _ _ (Ext.new hp) True.intro (.sl hm upd_same (ha.mono (Kp.new hp).gr) (hb.mono (Kp.new hp).gr))⟩
  have hl : us.length = ps.length := by rw [← rv.length]; exact G.len _ _ _ _ hsp
  exact G.run A outer s H ⟨us, []⟩ us _ Q E p1 p2 hr h2 pp pq e0 (.of_eq (b us hl)) rv hsp
theorem nokK_num (mlen : mg "len" = none) (N : NumD) : NOkK P w K mg base 1 N.f N.F ["_law_mark", "_law_one", "_law_two"] ["_law_told"] spNumd := by
  refine nokK_of (N := N__law_numbering__law_numbered) scN (fun _ _ _ us hl => match us, hl with | [_, _, _], _ => rfl) (fun ws vs H Q E h => ?_) (fun A outer s H vs ws Q E p1 p2 h2 hr hf hc hw h => ?_)
  · obtain ⟨d, ks, m, ka, kb, _, rfl, _⟩ := h
    rfl
  obtain ⟨d, ks, m, ka, kb, rfl, rfl, hd, hl, q⟩ := h
  have hu : (ncxK P w K mg base N__law_numbering__law_numbered N.F N.f A outer s H E p1 p2).A.units + 1 < cLine := huK_of hr
  refine ⟨_, (pss_cons (ps_if (pt_cmp (pc_dnotin hu (pe_tup (pa_cons (pv 0) (pa_cons (pv 1) (pa_cons (pv 2) pa_nil)))) (pv 3))) (pss_one (ps_dput hu (pv 3) (pe_tup (pa_cons (pv 0) (pa_cons (pv 1) (pa_cons (pv 2) pa_nil)))) (pe_callB call_len_dT rfl mlen PySem.boot_len (pa_cons (pv 3) pa_nil)) rfl)) pss_nil)
  (pss_one (ps_ret (pe_dget hu (pv 3) (pe_tup (pa_cons (pv 0) (pa_cons (pv 1) (pa_cons (pv 2) pa_nil)))) (fun _ _ => rfl))))), ?_⟩
  have ek : ([.str m, kV ka, kV kb] : List V) = ([.inr m, ka, kb] : List Key).map kV := rfl
  have hp0 : ∀ p : Addr, H p = none → d ≠ p := fun p hp => ne_of_none hd hp
  refine ⟨_, rfl, _, rfl, _, rfl, (by show 3 ≤ sizeLine; decide), fun p hp => ?_⟩
  have d1 : upd H p (.tup [.str m, kV ka, kV kb]) d = some (.dT (tab ks)) := by
    rw [upd_ne (hp0 p hp)]
    exact hd
  refine ⟨_, rfl, d, _, rfl, DGet.t (k := [.inr m, ka, kb]) d1 upd_same, _, rfl, ?_⟩
  cases hv : valV (tab ks) [.inr m, ka, kb] with
  | some v =>
    obtain ⟨n, rfl, _⟩ := tab_at hv
    refine iteF ?_
    refine ⟨_, rfl, _, rfl, _, rfl, _, rfl, (by show 3 ≤ sizeLine; decide), fun p2 hp2 => ?_⟩
    have d2 : upd (upd H p (.tup [.str m, kV ka, kV kb])) p2 (.tup [.str m, kV ka, kV kb]) d = some (.dT (tab ks)) := by
      rw [upd_ne (ne_of_none d1 hp2)]
      exact d1
    refine ⟨d, .int n, rfl, ?_, ?_⟩
    · have g := DGet.t (k := [.inr m, ka, kb]) d2 upd_same
      rw [hv] at g
      exact g
    · exact q n _ [] ((Ext.new hp).trans (Ext.new hp2)) (by rw [List.append_nil]; exact d2) (Nat.zero_le _) (by rw [List.append_nil]; exact hv)
  | none =>
    refine iteT ?_
    refine ⟨_, rfl, d, _, rfl, d1, ?_⟩
    refine ⟨_, rfl, _, rfl, _, rfl, _, rfl, (by show 3 ≤ sizeLine; decide), fun p2 hp2 => ?_⟩
    have d2 : upd (upd H p (.tup [.str m, kV ka, kV kb])) p2 (.tup [.str m, kV ka, kV kb]) d = some (.dT (tab ks)) := by
      rw [upd_ne (ne_of_none d1 hp2)]
      exact d1
    refine ⟨d, _, rfl, DPut.t (k := [.inr m, ka, kb]) d2 upd_same (by rw [tab_len]; exact hl), ?_⟩
    rw [putK_new _ hv, tab_len, ← tab_snoc]
    have x2 : Ext H (upd (upd H p (.tup [.str m, kV ka, kV kb])) p2 (.tup [.str m, kV ka, kV kb])) := (Ext.new hp).trans (Ext.new hp2)
    have x3 : Ext H (upd (upd (upd H p (.tup [.str m, kV ka, kV kb])) p2 (.tup [.str m, kV ka, kV kb])) d (.dT (tab (ks ++ [[.inr m, ka, kb]])))) := by
      refine ⟨fun a o ha hn => ?_, fun a kvs ha => ?_⟩
      · rw [upd_ne (show a ≠ d from fun z => by rw [z, hd] at ha; exact hn _ (Option.some.inj ha).symm)]
        exact x2.keep a o ha hn
      · by_cases e : a = d
        · subst e
          rw [hd] at ha
          cases ha
          exact ⟨[(_, _)], by rw [upd_same, tab_snoc]⟩
        · rw [upd_ne e]
          exact x2.grow a kvs ha
    have d3 : upd (upd (upd H p (.tup [.str m, kV ka, kV kb])) p2 (.tup [.str m, kV ka, kV kb])) d (.dT (tab (ks ++ [[.inr m, ka, kb]]))) d = some (.dT (tab (ks ++ [[.inr m, ka, kb]]))) := upd_same
    generalize upd (upd (upd H p (.tup [.str m, kV ka, kV kb])) p2 (.tup [.str m, kV ka, kV kb])) d (.dT (tab (ks ++ [[.inr m, ka, kb]]))) = H3 at x3 d3 ⊢
    refine ⟨_, rfl, _, rfl, _, rfl, _, rfl, (by show 3 ≤ sizeLine; decide), fun p3 hp3 => ?_⟩
    have d4 : upd H3 p3 (.tup [.str m, kV ka, kV kb]) d = some (.dT (tab (ks ++ [[.inr m, ka, kb]]))) := by
      rw [upd_ne (ne_of_none d3 hp3)]
      exact d3
    have hv3 : valV (tab (ks ++ [[.inr m, ka, kb]])) [.inr m, ka, kb] = some (.int ((ks.length : Nat) : Int)) := by
      rw [tab_snoc, valV_snoc _ _ _ _ hv, if_pos rfl]
    refine ⟨d, .int ((ks.length : Nat) : Int), rfl, ?_, ?_⟩
    · have g := DGet.t (k := [.inr m, ka, kb]) d4 upd_same
      rw [hv3] at g
      exact g
    · exact q _ _ _ (x3.trans (Ext.new hp3)) d4 (Nat.le_refl _) hv3
theorem heldK_num (mlen : mg "len" = none) (N : NumD) : HeldSlK P w K mg base 1 (numSys N) := by
  refine ⟨fun H h r X ok h1 => ?_, fun A outer s H us vs Q E p1 p2 hr h2 pp pq e0 rv h => ?_⟩
  · obtain ⟨od, sl, doc, pm, ctv, e⟩ := NdefX.fnO_at ok h1.fn
    exact ⟨_, _, _, _, e⟩
  obtain ⟨r, m, a, b, va, vb, rfl, hm, ok, ha, hb, q⟩ := h
  obtain ⟨⟨ks, hd, hl⟩, hf, hc, hcell⟩ := id ok
  obtain ⟨kvs, ka, hd1, hka, rfl⟩ := ha
  obtain ⟨kvs', kb, hd2, hkb, rfl⟩ := hb
  rw [hd] at hd1 hd2
  cases hd1
  cases hd2
  have isC := cellO_at e0.hok hcell
  have nf : N.f ≠ N.c0 := fun z => by
    obtain ⟨od, sl, doc, pm, ctv, e⟩ := NdefX.fnO_at e0.hok hf
    obtain ⟨o, e', d'⟩ := id isC
    rw [z, e'] at e
    cases e
    cases d'
  have nc : N.c ≠ N.c0 := fun z => by
    obtain ⟨c, oc, us, t, e1, e2, e3, e4⟩ := NdefX.codeO_at e0.hok hc
    cases e1
    obtain ⟨o, e', d'⟩ := id isC
    rw [z, e'] at e2
    cases e2
    rw [d'] at e3
    cases e3
  have nd : N.d ≠ N.c0 := fun z => by
    rw [z, hcell] at hd
    have hd : HO.ext _ = HO.dT _ := Option.some.inj hd
    cases hd
  have e1 : Env0 P w K mg base A outer s (er H N.c0) := by
    refine ⟨e0.frames, e0.mod, fun b o hb => ⟨(e0.bs b o hb).1, ?_⟩, e0.bsz, e0.funs, fun b hb => ?_, er_hok hcell e0.hok, e0.bare⟩
    · by_cases z : b = N.c0
      · rw [z, er_same]
      · rw [er_ne z]
        exact (e0.bs b o hb).2
    · by_cases z : b = N.c0
      · rw [z, er_same]
      · rw [er_ne z]
        exact e0.frf b hb
  have pinE : ∀ {z : Addr × Obj}, L2H.PinOk outer H s z → L2H.PinOk outer (er H N.c0) s z := fun {z} hz => ⟨hz.get, by
    by_cases e : z.1 = N.c0
    · rw [e, er_same]
    · rw [er_ne e]
      exact hz.free, hz.nofs, hz.nocell⟩
  have lk : ∀ {y : Str} {c : Addr}, List.lookup y N.F.cl = some c → y = "_law_told" ∧ c = N.c0 := fun {y c} h => by
    have h : List.lookup y [(("_law_told" : Str), N.c0)] = some c := h
    by_cases z : y = "_law_told"
    · subst z
      simp at h
      exact ⟨rfl, h.symm⟩
    · have z' : (y == ("_law_told" : Str)) = false := beq_eq_false_iff_ne.mpr z
      unfold List.lookup at h
      rw [z'] at h
      cases h
  have CA : NdefX.CellsAt N.F.cl ["_law_told"] [some (.ref N.d)] s.heap (er H N.c0) := by
    refine ⟨rfl, fun y c h => ?_, fun x y c h1 h2 => (lk h1).1.trans (lk h2).1.symm, fun i y h => ?_⟩
    · rw [(lk h).2]
      exact ⟨er_same, _, isC⟩
    · cases i with
      | zero =>
        cases h
        refine ⟨N.c0, by simp [List.lookup, NdefX.NF.of], fun v hv => ?_⟩
        cases hv
        exact ⟨_, rfl, isC⟩
      | succ i => simp at h
  have nfr : N.c0 ∉ frs outer := fun z => by
    have := e0.frf _ z
    rw [hcell] at this
    cases this
  refine codeAny_mono ((nokK_num mlen N).run A outer s (er H N.c0) us _ [some (.ref N.d)] (fun v H' => Q v (upd H' N.c0 (CellO N.c0 N.d))) E p1 p2 hr h2 (pinE pp) (pinE pq) e1 (by rw [er_ne nf]; exact hf) (by rw [show N.F.c = N.c from rfl, er_ne nc]; exact hc) CA rv
    ⟨N.d, ks, m, ka, kb, rfl, rfl, by rw [er_ne nd]; exact hd, by omega, fun n H' more x hd' hmore hv => ?_⟩) fun res s' hq => ?_
  · have kp : ∀ b o, H b = some o → b ≠ N.c0 → (∀ kvs, o ≠ .dT kvs) → H' b = some o := fun b o hb hn hn2 => x.keep b o (by rw [er_ne hn]; exact hb) hn2
    refine q _ _ ⟨fun b o hb hn => ?_, fun b kvs hb => ?_⟩ ⟨⟨ks ++ more, ?_, ?_⟩, ?_, ?_, upd_same⟩ ⟨_, .inl n, by rw [upd_ne nd]; exact hd', ?_, rfl⟩
    · by_cases z : b = N.c0
      · rw [z, upd_same]
        rw [z, hcell] at hb
        exact hb
      · rw [upd_ne z]
        exact kp b o hb z hn
    · have z : b ≠ N.c0 := fun z => by
        rw [z, hcell] at hb
        have hb : HO.ext _ = HO.dT _ := Option.some.inj hb
        cases hb
      rw [upd_ne z]
      exact x.grow b kvs (by rw [er_ne z]; exact hb)
    · rw [upd_ne nd]
      exact hd'
    · rw [List.length_append]
      omega
    · rw [upd_ne nf]
      exact kp _ _ hf nf fun _ z => HO.noConfusion z
    · rw [upd_ne nc]
      exact kp _ _ hc nc fun _ z => HO.noConfusion z
    · have t : ∀ {k t}, DenN (tab ks) k t → DenN (tab (ks ++ more)) k t := fun {k t} h => by
        obtain ⟨m2, e2⟩ := x.grow N.d (tab ks) (by rw [er_ne nd]; exact hd)
        rw [hd'] at e2
        have e3 : tab (ks ++ more) = tab ks ++ m2 := by
          have e2 := Option.some.inj e2
          injection e2
        rw [e3]
        exact h.app
      exact .sl (t hka) (t hkb) hv
  · cases res with
    | error e => exact hq
    | ok fl =>
      cases fl with
      | next => exact hq
      | brk => exact hq
      | cont => exact hq
      | ret u =>
        obtain ⟨v, H', os, bare, un, hok, rvu, q'⟩ := hq
        have nH : ∀ b, H b = none → b ≠ N.c0 := fun b hb z => by
          rw [z, hcell] at hb
          cases hb
        have ern : ∀ b, H b = none → er H N.c0 b = none := fun b hb => by
          rw [er_ne (nH b hb)]
          exact hb
        obtain ⟨oc, hoc, hod⟩ := id isC
        have hH' : H' N.c0 = none := un.free _ oc hoc er_same (by simp)
        have hcs : s'.heap.get? N.c0 = some oc := un.keep _ oc hoc er_same nfr (by simp)
        refine ⟨v, upd H' N.c0 (CellO N.c0 N.d), os, bare, ⟨fun b o e n hb hx => un.keep b o e (ern b n) hb hx, fun b o e n hb hx => un.slot b o e (ern b n) hb hx, fun b o e n hx => ?_, un.there, fun b xs e => ?_, fun b o u e => ?_, fun b ps e => ?_⟩, fun b u e => ?_, rvu, q'⟩
        · rw [upd_ne (nH b n)]
          exact un.free b o e (ern b n) hx
        · have z := cell_ne_tup hcell e
          rw [upd_ne z]
          exact un.tups b xs (by rw [er_ne z]; exact e)
        · have z : b ≠ N.c0 := fun z => by
            rw [z, hcell] at e
            have e : HO.ext _ = HO.frz _ _ := Option.some.inj e
            cases e
          rw [upd_ne z]
          exact un.frzs b o u (by rw [er_ne z]; exact e)
        · have z : b ≠ N.c0 := fun z => by
            rw [z, hcell] at e
            have e : HO.ext _ = HO.tbl _ := Option.some.inj e
            cases e
          obtain ⟨more, hm⟩ := un.tbls b ps (by rw [er_ne z]; exact e)
          exact ⟨more, by rw [upd_ne z]; exact hm⟩
        · by_cases z : b = N.c0
          · rw [z, upd_same] at e
            cases e
            rw [z]
            exact cellO_ok ⟨oc, hcs, hod⟩
          · rw [upd_ne z] at e
            exact (hok b u e).stay (fun _ _ _ q => q) (fun b hb => by rw [upd_ne (ne_of_none hb hH')]; exact hb) fun b xs hb => by rw [upd_ne (ne_of_none hb hH')]; exact hb
theorem fnK_plain {f : Addr} {fd : FuncData} (F : L2.Fun K "_law_plain" "_law_plain" s__law_plain f fd) : FnK P w K mg base 1 f fd ["_law_mark", "_law_one", "_law_two"] (spTup tfP) := by
  obtain ⟨oc, od, kV, doc, pm, an, cdv, ct, osl, rfl, lk, hcd⟩ := F.ex
  refine fn_ofK lk hcd sc__law_plain (fun vs H Q E h => ?_) (fun A outer s H vs Q E p1 p2 h2 hr h => ?_)
  · obtain ⟨m, a, b, rfl, _⟩ := h
    rfl
  obtain ⟨m, a, b, rfl, q⟩ := h
  refine ⟨_, (pss_one (ps_ret (pe_tup (pa_cons (pv 0) (pa_cons (pv 1) (pa_cons (pv 2) pa_nil)))))), ?_⟩
  exact ⟨_, rfl, _, rfl, _, rfl, (by show 3 ≤ sizeLine; decide), fun p hp => q p hp⟩
theorem fnK_turned {f : Addr} {fd : FuncData} (F : L2.Fun K "_law_turned" "_law_turned" s__law_turned f fd) : FnK P w K mg base 1 f fd ["_law_mark", "_law_one", "_law_two"] (spTup tfT) := by
  obtain ⟨oc, od, kV, doc, pm, an, cdv, ct, osl, rfl, lk, hcd⟩ := F.ex
  refine fn_ofK lk hcd sc__law_turned (fun vs H Q E h => ?_) (fun A outer s H vs Q E p1 p2 h2 hr h => ?_)
  · obtain ⟨m, a, b, rfl, _⟩ := h
    rfl
  obtain ⟨m, a, b, rfl, q⟩ := h
  refine ⟨_, (pss_one (ps_ret (pe_tup (pa_cons pe_str (pa_cons (pv 2) (pa_cons (pv 1) (pa_cons (pv 0) pa_nil))))))), ?_⟩
  exact ⟨_, rfl, _, rfl, _, rfl, (by show 4 ≤ sizeLine; decide), fun p hp => q p hp⟩
theorem slaK3 {cc : Addr} (T : Txt K mg cc) : ∀ S, Fam3 mg S → HeldSlK P w K mg base 1 S := by
  obtain ⟨fP, fdP, FP, mP, bP⟩ := T.d__law_plain.ex
  obtain ⟨fT, fdT, FT, mT, bT⟩ := T.d__law_turned.ex
  intro S h
  rcases h with ⟨f, m, rfl⟩ | ⟨f, m, rfl⟩ | ⟨N, rfl⟩
  · rw [mP] at m
    cases m
    exact heldK_plain FP bP (fnK_plain FP)
  · rw [mT] at m
    cases m
    exact heldK_plain FT bT (fnK_turned FT)
  · exact heldK_num T.Z.len N
end

/-! ### sorted(a dict of ints) while such an exception is handled -/
section
variable {prog : Program} {w : World} {A : Around} {E : Value → Shared → Prop} {s : Shared} {κ : Type} [DecidableEq κ] {knd : KeyKind prog w κ}
/-- the iterator of a dict's keys at its end -/
theorem next_keys_end2 {it d x1 y : Addr} {i ep : Nat} {kvs : List (κ × Value)} {Q : Option Value → Shared → Prop} (hot : At2 A x1 y s.heap) (n1 : x1 ≠ it) (n2 : y ≠ it) (hit : s.heap.IsKeyIter it d i kvs.length ep)
    (hm : s.heap.DictAt knd d kvs ep) (hx : kvs[i]? = none)
    (hQ : ∀ h', (∀ b o, b ≠ it → s.heap.get? b = some o → h'.get? b = some o) → Q none { s with heap := h' }) : wpAny (model prog w) A (pyNext (.ref it)) Q E s := by
  obtain ⟨o, ho, hc, hd⟩ := id hit
  obtain ⟨od, es, hod, hcd, hdd, hk, hpr, hn⟩ := id hm
  unfold pyNext
  refine wpAny_bind (wpAny_attempt (wpAny_callSpecial?_slot (name := Str.ofString "__next__") hit.typeIs F.slot_dict_keyiterator_next
    (wpAny_call_entry F.slot_dict_keyiterator_next hit.typeIs F.entry_dict_keyiterator_next ?_ (F.args_dict_keyiterator_next_1 _))))
  refine wpAny_bind (wpAny_pure ?_)
  refine wpAny_bind ?_
  refine wpAny_bind ?_
  first | refine wpAny_bind (wpAny_typeNameOfWhole_keyiter hit.typeIs (wpAny_pure ?_)) | refine wpAny_bind (wpAny_typeNameOf_keyiter hit.typeIs (wpAny_pure ?_))
  refine wpAny_bind (wpAny_fieldsOf ho hd ?_)
  have hown : Builtin.Dict_items.ownsTuple "dict_keyiterator" = false := by decide
  simp only [hown, Bool.false_eq_true, if_false]
  show wpAny _ _ (if (Value.ref d == Value.none) = true then _ else _) _ _ s
  rw [if_neg (show ¬ ((Value.ref d == Value.none) = true) from Bool.false_ne_true)]
  refine wpAny_bind (wpAny_pure ?_)
  refine wpAny_bind (wpAny_dictEntries hod hdd ?_)
  have hsz : es.size = kvs.length := by rw [← hpr.length]; simp
  rw [if_neg (by rw [hsz]; simp)]
  refine wpAny_bind (wpAny_pure ?_)
  refine wpAny_bind (wpAny_dictEpoch hod hdd ?_)
  rw [if_neg (by simp)]
  refine wpAny_pure ?_
  have hge : es.size ≤ i := by rw [hsz]; simpa using hx
  simp only [show ¬ ((i : Int) < 0) from by omega, if_false, Int.toNat_natCast, Array.getElem?_eq_none hge]
  refine wpAny_bind ?_
  first | refine wpAny_bind (wpAny_typeNameOfWhole_keyiter hit.typeIs (wpAny_pure ?_)) | refine wpAny_bind (wpAny_typeNameOf_keyiter hit.typeIs (wpAny_pure ?_))
  show wpAny _ _ (setField (.ref it) 0 .none >>= _) _ _ s
  refine wpAny_bind (wpAny_setField ho hd (by simp) ?_)
  have kp : ∀ b o, b ≠ it → s.heap.get? b = some o → (s.heap.update it (Obj.mapFields (·.setIfInBounds 0 .none))).get? b = some o := fun b o n e => by
    rw [Heap.get?_update_other _ _ (Ne.symm n)]
    exact e
  have hot' : At2 A.in1 x1 y (s.heap.update it (Obj.mapFields (·.setIfInBounds 0 .none))) := hot.keeps fun b o hb e => kp b o (by rcases hb with rfl | rfl; exact n1; exact n2) e
  show wpAny _ _ (newExc (.type "StopIteration") [] >>= _) _ _ _
  refine stop_hot2 (s := { s with heap := s.heap.update it (Obj.mapFields (·.setIfInBounds 0 .none)) }) hot' fun h' k a ⟨oa, ea, ca⟩ => ?_
  refine wpAny_bind (wpAny_isInstance (T := "StopIteration") (b := true) ⟨oa, ea, ca⟩ isSubtype_stop ?_)
  exact wpAny_pure (hQ _ fun b o n e => k b o (kp b o n e))
theorem keys_walk2 {x1 y I d : Addr} (hd : d ≠ I) (h1 : x1 ≠ I) (h2 : y ≠ I) (kvs : List (κ × Value)) (ep : Nat) :
    Walks prog w A I [I, d, x1, y] [I] kvs.length (fun i v => ∃ k x, kvs[i]? = some (k, x) ∧ knd.is k v = true) (fun i h => h.IsKeyIter I d i kvs.length ep ∧ h.DictAt knd d kvs ep ∧ At2 A x1 y h) where
  sub := fun b hb => by simp at hb; simp [hb]
  frame := fun _ _ _ st hk => ⟨st.1.at fun o e => hk I (by simp) o e, st.2.1.at' fun o e => hk d (by simp) o e, st.2.2.keeps fun b o hb e => hk b (by rcases hb with rfl | rfl <;> simp) o e⟩
  item := fun i s Q E hi st hQ => by
    obtain ⟨⟨k, x⟩, hx⟩ : ∃ p, kvs[i]? = some p := ⟨kvs[i], by simp [hi]⟩
    refine wpAny_pyNext_dict_item st.1 st.2.1 hx fun key h' hkey hit' hs' => ?_
    exact hQ key h' s.toks ⟨k, x, hx, hkey⟩ ⟨hit', st.2.1.extBut hs'.extBut hd, st.2.2.keeps fun b o hb e => hs'.extBut b o (by rcases hb with rfl | rfl; exact h1; exact h2) e⟩ fun b o hb e => hs'.extBut b o (fun h => hb (by simp [h])) e
  done := fun s Q E st hQ => next_keys_end2 st.2.2 h1 h2 st.1 st.2.1 (by simp) fun h' he' => hQ h' s.toks fun b o hb e => he' b o (fun h => hb (by simp [h])) e
  self := fun _ _ _ _ st hQ => wpAny_pyIter_keyiter st.1 hQ
theorem keys_extend2 {x1 y d : Addr} {kvs : List (κ × Value)} {ep : Nat} {R : Result → Shared → Prop} (lo : (d == sysModules) = false) (hot : At2 A x1 y s.heap) (hm : s.heap.DictAt knd d kvs ep) (S : Addr) (nd : S ≠ d) (n1 : S ≠ x1) (n2 : S ≠ y) (res : Value) (c0 : Nat)
    (hS : s.heap.get? S = some { cls := .type "list", data := .seq #[] c0 }) (hn : kvs.length ≤ sizeLine)
    (hR : ∀ h' tk acc c', (∀ b o, b ≠ S → s.heap.get? b = some o → h'.get? b = some o) → h'.get? S = some { cls := .type "list", dict := none, data := .seq acc c', slots := #[] } → ItemsOf (fun i v => ∃ k x, kvs[i]? = some (k, x) ∧ knd.is k v = true) acc kvs.length → R (.ok (.ret res)) { s with heap := h', toks := tk }) :
    wpAny (model prog w) A.in1 (Builtin.List.listExtendWith (.ref S) (.ref d) res)
      (fun fin s' => match fin with | .done f => R (.ok f) s' | .again c' => c'.quiet = true ∧ codeAny (model prog w) A c' R s') (fun e s' => R (.error e) s') s := by
  have nI : S ≠ s.heap.objs.size := Nat.ne_of_lt (Heap.lt_size hS)
  have W := keys_walk2 (A := A.in1) (knd := knd) (x1 := x1) (y := y) (I := s.heap.objs.size) (Nat.ne_of_lt hm.lt_size) (Nat.ne_of_lt hot.lt.1) (Nat.ne_of_lt hot.lt.2) kvs ep
  have off : S ∉ [s.heap.objs.size, d, x1, y] := by simp [nI, nd, n1, n2]
  have st0 : ∀ h, (∀ b o, s.heap.get? b = some o → b ≠ S → h.get? b = some o) → h.get? s.heap.objs.size = some { cls := .type "dict_keyiterator", data := .fields #[.ref d, .int (0 : Nat) 0, .int kvs.length 0, .int ep 0] } →
      h.IsKeyIter s.heap.objs.size d 0 kvs.length ep ∧ h.DictAt knd d kvs ep ∧ At2 A.in1 x1 y h := fun h k e =>
    ⟨⟨_, e, rfl, rfl⟩, hm.at' fun o z => k d o z nd.symm, hot.keeps fun b o hb z => k b o z (by rcases hb with rfl | rfl; exact n1.symm; exact n2.symm)⟩
  have run : ∀ (h : Heap) (c1 tk : Nat), (h.IsKeyIter s.heap.objs.size d 0 kvs.length ep ∧ h.DictAt knd d kvs ep ∧ At2 A.in1 x1 y h) → (∀ b o, b ≠ S → s.heap.get? b = some o → h.get? b = some o) →
      h.get? S = some { cls := .type "list", data := .seq #[] c1 } → codeAny (model prog w) A (.builtin "list.extend.loop" ⟨[.ref S, .ref s.heap.objs.size, res], []⟩) R { s with heap := h, toks := tk } := by
    intro h c1 tk st k eS
    refine codeAny_extend_loopS W.toS hn S off res kvs.length 0 _ #[] c1 rfl (Nat.zero_le _) st eS (ItemsOf.nil _) fun s' acc c' moved eS' items => ?_
    rw [Moved.eq_with moved]
    refine hR s'.heap s'.toks acc c' (fun b o nb e => moved.heap b o (fun hmem => ?_) (k b o nb e)) eS' items
    rcases List.mem_cons.mp hmem with z | z
    · exact nb z
    · exact absurd (Heap.lt_size e) (by rw [List.mem_singleton.mp z]; exact Nat.lt_irrefl _)
  unfold Builtin.List.listExtendWith
  refine wpAny_bind (wpAny_typeOf (T := "dict") hm.dictOf.typeIs ?_)
  have same : Builtin.List.listSameRef (.ref S) (.ref d) = false := by simp [Builtin.List.listSameRef, nd]
  have nl : (Value.type "dict" == Value.type "list") = false := by decide
  have nt : (Value.type "dict" == Value.type "tuple") = false := by decide
  simp only [same, nl, nt, Bool.or_false, Bool.false_eq_true, if_false]
  refine wpAny_bind (wpAny_pyIter_dict lo hm ?_)
  have eS1 := Heap.get?_push_of_some { cls := .type "dict_keyiterator", data := .fields #[.ref d, .int (0 : Nat) 0, .int kvs.length 0, .int ep 0] } hS
  refine wpAny_bind (wpAny_holding (PySem.W.kdl_hint_dict (hm.push _).dictOf.typeIs ?_))
  refine wpAny_ite_split (fun _ => ?_) (fun _ => wpAny_pure ⟨plainId_quiet PySem.F.plain_extend_loop _, run _ c0 _ (st0 _ (fun b o e _ => Heap.get?_push_of_some _ e) (Heap.get?_push_size _ rfl)) (fun b o _ e => Heap.get?_push_of_some _ e) eS1⟩)
  refine wpAny_bind (wpAny_rule ?_)
  refine wpAny_bind ?_
  show wpAny _ _ (updateSeq S (·.push .none) >>= fun _ => updateSeq S (·.pop)) _ _ _
  refine wpAny_bind (wpAny_updateSeq eS1 rfl ?_)
  have eS2 := Heap.get?_update_self (Obj.mapSeq (·.push Value.none)) eS1 rfl
  refine wpAny_updateSeq (hz := by seq_fits) eS2 rfl ?_
  have eS3 := Heap.get?_update_self (Obj.mapSeq (·.pop)) eS2 rfl
  have oth : ∀ {b o}, b ≠ S → (s.heap.push { cls := .type "dict_keyiterator", data := .fields #[.ref d, .int (0 : Nat) 0, .int kvs.length 0, .int ep 0] }).get? b = some o →
      (((s.heap.push { cls := .type "dict_keyiterator", data := .fields #[.ref d, .int (0 : Nat) 0, .int kvs.length 0, .int ep 0] }).update S (Obj.mapSeq (·.push Value.none))).update S (Obj.mapSeq (·.pop))).get? b = some o := fun {b o} nb e => by
    rw [Heap.get?_update_other _ _ (Ne.symm nb), Heap.get?_update_other _ _ (Ne.symm nb)]
    exact e
  exact wpAny_pure ⟨plainId_quiet PySem.F.plain_extend_loop _, run _ _ _ (st0 _ (fun b o e nb => oth nb (Heap.get?_push_of_some _ e)) (oth nI.symm (Heap.get?_push_size _ rfl))) (fun b o nb e => oth nb (Heap.get?_push_of_some _ e)) eS3⟩
theorem keys_collect2 {x1 y d : Addr} {kvs : List (κ × Value)} {ep : Nat} {R : List Value → Shared → Prop} (lo : (d == sysModules) = false) (hot : At2 A x1 y s.heap) (hm : s.heap.DictAt knd d kvs ep) (hn : kvs.length ≤ sizeLine)
    (h : ∀ (h' : Heap) (tk : Nat) (acc : Array Value), (∀ b o, s.heap.get? b = some o → h'.get? b = some o) → ItemsOf (fun i v => ∃ k x, kvs[i]? = some (k, x) ∧ knd.is k v = true) acc kvs.length → R acc.toList { s with heap := h', toks := tk }) :
    wpAny (model prog w) A (collect (.ref d)) R E s := by
  unfold collect
  refine wpAny_bind (wpAny_runValue (codeAny_builtin PyProof.Rows.entry_proto_collect' ?_))
  rw [Around.under_plainId PySem.F.plain_proto_collect _]
  show wpAny _ A.in1 (newList [] >>= fun l => again (.builtin "list.__iadd__" ⟨[l, .ref d], []⟩)) _ _ s
  refine wpAny_bind (wpAny_newObj_type ?_)
  refine wpAny_pure ⟨plainId_quiet PySem.F.plain_list_iadd _, codeAny_builtin PyProof.Rows.entry_list_iadd' ?_⟩
  rw [Around.under_plainId PySem.F.plain_list_iadd _]
  have eS : (s.heap.push { cls := .type "list", data := .seq ([] : List Value).toArray }).get? s.heap.objs.size = some { cls := .type "list", data := .seq #[] } := Heap.get?_push_size _ rfl
  show wpAny _ A.in1 (Builtin.List.listExtendWith (.ref s.heap.objs.size) (.ref d) (.ref s.heap.objs.size)) _ _ _
  have key := keys_extend2 (A := A) (s := { s with heap := s.heap.push { cls := .type "list", data := .seq ([] : List Value).toArray } }) (knd := knd)
    (R := fun (q : Result) (s' : Shared) => ∃ (h' : Heap) (tk : Nat) (acc : Array Value) (c' : Nat), q = .ok (.ret (.ref s.heap.objs.size)) ∧ s' = { s with heap := h', toks := tk } ∧
      (∀ b o, s.heap.get? b = some o → h'.get? b = some o) ∧ h'.get? s.heap.objs.size = some { cls := .type "list", dict := none, data := .seq acc c', slots := #[] } ∧ ItemsOf (fun i v => ∃ k x, kvs[i]? = some (k, x) ∧ knd.is k v = true) acc kvs.length)
    lo (hot.keeps fun b o _ e => Heap.get?_push_of_some _ e) (hm.push _) s.heap.objs.size (Nat.ne_of_gt hm.lt_size) (Nat.ne_of_gt hot.lt.1) (Nat.ne_of_gt hot.lt.2) (.ref s.heap.objs.size) 0 eS hn
    (fun h' tk acc c' k e items => ⟨h', tk, acc, c', rfl, rfl, fun b o z => k b o (Nat.ne_of_lt (Heap.lt_size z)) (Heap.get?_push_of_some _ z), e, items⟩)
  refine wpAny_mono key (fun fin s' x => ?_) fun e s' x => ?_
  · cases fin with
    | done f =>
      obtain ⟨h', tk, acc, c', e, rfl, k, e2, items⟩ := x
      cases e
      show wpAny _ A (load s.heap.objs.size >>= _) _ _ _
      exact wpAny_bind (wpAny_load e2 (wpAny_pure (h h' tk acc k items)))
    | again c1 =>
      refine ⟨x.1, codeAny_mono x.2 fun q s2 y2 => ?_⟩
      obtain ⟨h', tk, acc, c', rfl, rfl, k, e2, items⟩ := y2
      show wpAny _ A (load s.heap.objs.size >>= _) _ _ _
      exact wpAny_bind (wpAny_load e2 (wpAny_pure (h h' tk acc k items)))
  · obtain ⟨_, _, _, _, z, _⟩ := x
    cases z
end
section
variable {X : Cx}
theorem call_sortedDIK (hot : HotK X) : CallR X (.builtin "sorted") (fun xs H Q => ∃ (a : Addr) (kvs : List (Key × V)) (ks : List Int), xs = [.ref a] ∧ Rd H a (.dK kvs) ∧ kvs.map (·.1) = ks.map Sum.inl ∧ ks.length ≤ sizeLine ∧
    ∀ (ys : List Int) (p : Addr), ys.Perm ks → ys.Pairwise (· ≤ ·) → H p = none → Q (.ref p) (upd H p (.lst (ys.map V.int)))) := by
  intro pins s σ H xs us Q I r want
  obtain ⟨a, kvs, ks, rfl, rd, keys, few, want⟩ := want
  obtain ⟨u, rfl, rx⟩ := vals1 r
  cases rx
  obtain ⟨x1, y, at2⟩ := hot.at2 I
  obtain ⟨z, lo, vs, rel, dd⟩ := dk_rd I.hok rd
  obtain ⟨ep, da⟩ := dd.dictAt
  have hkeys : vs.map (·.1) = ks.map Sum.inl := rel.keys.symm.trans keys
  have len : vs.length = ks.length := by simpa using congrArg List.length hkeys
  refine Calls.call_function_entry PyProof.Rows.kind_sorted PyProof.Rows.plain_sorted PyProof.Rows.entry_sorted (PyProof.Rows.args_sorted1 _) ?_
  unfold Builtin.«sorted»
  refine wpAny_bind (m := checkCount "sorted" 1 1 _) (wpAny_pure ?_)
  refine wpAny_bind (keys_collect2 (A := X.A.in1) (knd := mixKind X.prog X.w) lo at2 da (by rw [len]; exact few) fun h' tk acc up items => ?_)
  have al : acc.toList.length = ks.length := by rw [Array.length_toList, items.1, len]
  have each : IntsAre acc.toList ks := ints_each al fun j v e => by
    obtain ⟨k, x, e1, e2⟩ := items.2 j v (by rw [← Array.getElem?_toList]; exact e)
    have e3 : (vs.map (·.1))[j]? = some k := by rw [List.getElem?_map, e1]; rfl
    rw [hkeys, List.getElem?_map] at e3
    obtain ⟨i, e4, rfl⟩ := Option.map_eq_some_iff.mp e3
    rcases keyIs_shape (show keyIs (Sum.inl i) v = true from e2) with ⟨i', t, ek, ev⟩ | ⟨z', t, ek, ev⟩
    · cases ek
      exact ⟨i, t, e4, ev⟩
    · cases ek
  have I1 : Inv X pins σ H { s with heap := h', toks := tk } := I.kept up
  refine wpAny_bind (wpAny_newList ?_ (by rw [al]; exact few))
  have eL : (h'.push (seqObj "list" acc.toList.toArray 0)).get? h'.objs.size = some (seqObj "list" acc.toList.toArray 0) := Heap.get?_push_size _ rfl
  show wpAny _ _ _ _ _ { s with heap := h'.push (seqObj "list" acc.toList.toArray 0), toks := tk }
  refine wpAny_bind (wpAny_holding (wpAny_call_entry PyProof.Rows.slot_list_sort ⟨_, eL, rfl⟩ PyProof.Rows.entry_list_sort
    (SrtO.list_sort_ord (s := { s with heap := h'.push (seqObj "list" acc.toList.toArray 0), toks := tk }) SrtO.swo_int eL (by rw [al]; exact few) (fun h2 => SrtO.ints_sortable each h2) fun out h1 h2 => ⟨_, rfl, ?_⟩) (PyProof.Rows.args_list_sort _)))
  obtain ⟨g1, g2, g3⟩ := SrtO.ints_out each h1 h2
  obtain ⟨e', at'⟩ := PyProof.Rows.sortedHeap_at (vs := acc.toList) (out := out.toArray) eL
  have short : ((out.map SrtO.iv).map V.int).length ≤ sizeLine := by
    rw [List.length_map, g2.length_eq]
    exact few
  refine wpAny_pure ⟨_, rfl, .ref h'.objs.size, upd H h'.objs.size (.lst ((out.map SrtO.iv).map V.int)), I1.laid (t' := tk) (fun b o e => ?_) (Nat.le_refl _)
    (show ObjOk X.prog X.w _ _ _ (.lst ((out.map SrtO.iv).map V.int)) from ⟨short, out, e', vals_of_ints g1, at'⟩), rfl, want (out.map SrtO.iv) _ g2 g3 (I1.hok.fresh (Nat.le_refl _))⟩
  have hb : b < h'.objs.size := Heap.lt_size e
  rw [PyProof.Rows.sortedHeap_old (Nat.ne_of_lt hb) (by show b < (h'.push _).objs.size; rw [Heap.size_push]; exact Nat.lt_succ_of_lt hb)]
  exact Heap.get?_push_of_some _ e
end

/-! ### the program's seals and tops -/
section
variable {P : Program} {w : World} {K : PySem.W.Frag} {mg : Str → Option Value} {base : Heap} {Fam : Sys → Prop}
def spNone (Fam : Sys → Prop) : Sp := fun vs H Q _ => ∃ (S : Sys) (r : Nat), Fam S ∧ vs = [.ref S.f] ∧ S.ok H (r + 1) ∧ ∀ v H', Ext H H' → S.ok H' r → S.den H' v nonT → Q v H'
theorem ok_none_seal {cc : Addr} (T : Txt K mg cc) (A : SlA P w K mg base Fam) : Cal P w K mg base 2 "none_seal" (spNone Fam) [] := by
  refine cal_of T.d_none_seal sc_none_seal (fun vs H Q E h => ?_) (fun f cdv A' outer s H vs Q E hr h => ?_)
  · obtain ⟨S, r, _, rfl, _⟩ := h
    rfl
  obtain ⟨S, r, hF, rfl, hok, q⟩ := h
  have G := A.good hF
  refine ⟨_, (pss_one (ps_ret (pe_sl (i := 0) A.held hr (by omega) rfl (by first | exact Or.inl rfl | exact Or.inr (Or.inl rfl) | exact Or.inr (Or.inr rfl)) (pa_cons pe_str (pa_cons pe_int (pa_cons pe_int pa_nil)))))), ?_⟩
  exact ⟨S, _, hF, rfl, hok, r, "none", .int 0, .int 0, _, _, rfl, by decide +kernel, hok, G.int 0 hok, G.int 0 hok, fun v H' e ok d => q v H' e ok d⟩
end

/-! ### for the law: equal things are seen equal; the head -/
section
variable {K : PySem.W.Frag} {H : Hp} {S : Sys}
theorem shaped_of {d : PyData} (h : d.canLay0 = true) (hd : d.depth ≤ 64) : SeqAt.shaped d = true := by
  unfold SeqAt.shaped
  rw [h, decide_eq_true hd]
  rfl
theorem eqv_self {d : PyData} (h : d.canLay0 = true) : PyData.eqv d d = true := SeqAt.eqv_refl d h
theorem eq_rows (G : S.Good K) {p p' : Addr} {xs ys : List V} {ts : List Tm} (hp : SqL K H p xs) (hp' : SqL K H p' ys) (h : DenL S H xs ts) (h' : DenL S H ys ts) (hd : ∀ t ∈ ts, t.dep ≤ 60) :
    ∃ d, Dp K H (.ref p) d ∧ Dp K H (.ref p') d ∧ SeqAt.shaped d = true ∧ PyData.eqv d d = true := by
  obtain ⟨ds, a, b, c, e⟩ := DenL.same G h h' hd
  have c' : (PyData.list ds).canLay0 = true := c
  exact ⟨.list ds, .lst hp a, .lst hp' b, shaped_of c' (by show PyData.depthAll ds + 1 ≤ 64; omega), eqv_self c'⟩
theorem eq_tm (G : S.Good K) {v v' : V} {t : Tm} (h : S.den H v t) (h' : S.den H v' t) (hd : t.dep ≤ 60) :
    ∃ d, Dp K H v d ∧ Dp K H v' d ∧ SeqAt.shaped d = true ∧ PyData.eqv d d = true := by
  obtain ⟨d, a, b, c, e⟩ := G.same h h'
  exact ⟨d, a, b, shaped_of c (by omega), eqv_self c⟩
theorem ext_seq {K : PySem.W.Frag} {H H' : Hp} {a : Addr} {xs : List V} (e : LamX.ExtN H H') (h : SqL K H a xs) : SqL K H' a xs := by
  rcases h with (h | ⟨o, h⟩) | h
  · exact .inl (.inl (e _ _ h fun _ z => nomatch z))
  · exact .inl (.inr ⟨o, e _ _ h fun _ z => nomatch z⟩)
  · exact .inr h
end
/-- a row's places -/
theorem map_int_mem {l : List Int} {x : V} (h : x ∈ l.map V.int) : ∃ z ∈ l, x = .int z := by
  obtain ⟨z, hz, e⟩ := List.mem_map.mp h
  exact ⟨z, hz, e.symm⟩
/-- the law's promise; a table of code objects at PT -/
def spLaw (K : PySem.W.Frag) (PT : Addr) : Sp := fun vs H Q _ => ∃ (a : Addr) (ns : List Int), vs = [.ref a] ∧ SqL K H a (ns.map V.int) ∧ ns.length ≤ 63 ∧ H PT = some (.tbl #[]) ∧ ∀ H', Q (.bl true) H'
theorem law_end {l : PySem.W.OpenLaw} {w : World} {K : PySem.W.Frag} {h : Heap} {mg : Str → Option Value} {fa c PT : Addr} {k : Nat} (X : K.In h) (hP : ∀ Q ∈ [PT], h.get? Q = some (PySem.W.tabObj #[])) (nP : K.lookup PT = none) (hc : PySem.W.codeHdIn K c PT = true)
    (F : ∃ fd : FuncData, (∀ (s : Shared) (v : Value), BindsTo s fd ⟨[v], []⟩ [("_law_script", v)]) ∧ ∀ base : Heap, K.In base → base.Ns mainGlobals mg → LamX.TabB base mg c PT → FnOk l.prog w K mg base L2.CX0 k fa fd ["_law_script"] (spLaw K PT)) :
    LamX.LawAtS l w K L2.CX0 k 63 "_law_script" mg fa h := by
  obtain ⟨fd, hb, hF⟩ := F
  refine ⟨fd, [(c, PT)], spLaw K PT, fun p hp => ?_, fun p hp => ?_, fun p hp => ?_, hb, fun H a ns hl _ hT hS => ⟨a, ns, rfl, hS, hl, hT _ (List.mem_singleton.mpr rfl), fun _ => rfl⟩, fun base KB NB TB => hF base KB NB (TB _ (List.mem_singleton.mpr rfl))⟩
  · rw [List.mem_singleton.mp hp]
    exact hP PT (List.mem_singleton.mpr rfl)
  · rw [List.mem_singleton.mp hp]
    exact nP
  · rw [List.mem_singleton.mp hp]
    exact PySem.W.codeHd_of_K X hc
theorem law_fnT {P : Program} {w : World} {K : PySem.W.Frag} {mg : Str → Option Value} {x p : Str} {st : Stmt} {N : List Str} {k : Nat} {sp : Sp} {fa c PT : Addr} (D : DefX K mg x st [p]) (hfa : mg x = some (.ref fa)) (S : FnScope N [p] (defScope st)) (len : ∀ vs H Q E, sp vs H Q E → vs.length = 1)
    (hbody : ∀ (base : Heap), LamX.TabB base mg c PT → ∀ (f : Addr) (cdv : Value) (A : Around) (outer : List Env) (s : Shared) (H : Hp) (vs : List V) (Q : VK) (E : XK), Room k (A.deeper (envOfC x (defScope st) s.heap.objs.size f cdv)) → sp vs H Q E →
      ∃ t, PSs (cxOf L2.CX0 P w K mg base N x (defScope st) f cdv A outer s H E).nox (defBody st) t ∧ t { nx := fun _ H' => Q .non H', rt := Q } (start N vs) H) :
    ∃ fd : FuncData, (∀ (s : Shared) (v : Value), BindsTo s fd ⟨[v], []⟩ [(p, v)]) ∧ ∀ base : Heap, K.In base → base.Ns mainGlobals mg → LamX.TabB base mg c PT → FnOk P w K mg base L2.CX0 (k + 1) fa fd [p] sp := by
  obtain ⟨f, fd, F, m, b⟩ := D.ex
  have e := hfa.symm.trans m
  cases e
  exact ⟨fd, fun s v => .of_eq (b [v] rfl), fun base _ _ TB => F.ok S len (hbody base TB fa)⟩

/-! ### methods that may raise -/
structure MetR (P : Program) (w : World) (K : PySem.W.Frag) (mg : Str → Option Value) (base : Heap) (k : Nat) (C : Addr) (m : Str) (sp : Sp) : Prop where
  ex : ∃ (f : Addr) (fd : FuncData) (ps : List Str), Cls K C ∧ Meth K C m f ∧ FnOk P w K mg base (L2.CX P w) k f fd ps sp ∧ Binds K fd ps []
theorem metR_of {P : Program} {w : World} {K : PySem.W.Frag} {mg : Str → Option Value} {base : Heap} {C : Addr} {m qual : Str} {st : Stmt} {N ps : List Str} {k : Nat} {sp : Sp} (c : Cls K C) (D : MetX K C m qual st ps) (S : FnScope N ps (defScope st)) (len : ∀ vs H Q E, sp vs H Q E → vs.length = ps.length)
    (hbody : ∀ (f : Addr) (cdv : Value) (A : Around) (outer : List Env) (s : Shared) (H : Hp) (vs : List V) (Q : VK) (E : XK), Room k (A.deeper (envOfC qual (defScope st) s.heap.objs.size f cdv)) → sp vs H Q E →
      ∃ t, PSs (cxOf (L2.CX P w) P w K mg base N qual (defScope st) f cdv A outer s H E) (defBody st) t ∧ t { nx := fun _ H' => Q .non H', rt := Q } (start N vs) H) : MetR P w K mg base (k + 1) C m sp := by
  obtain ⟨f, fd, F, me, b⟩ := D.ex
  exact ⟨f, fd, ps, c, me, F.okX S len (hbody f), .all b⟩
def tMethX (C : Addr) (m : Str) (sp : Sp) (E : L2.St → XK) (ta : TE) (t : TA) : TE := fun σ H Q => ta σ H fun x H1 => ∃ a dx fs, x = .ref a ∧ H1 a = some (.ins C dx fs) ∧ fs.lookup m = none ∧ t σ H1 fun vs H2 => sp (x :: vs) H2 Q (E σ)
section
variable {X : Cx} {k j : Nat} {C : Addr} {m : Str} {sp : Sp} {pos apos : Pos} {e o : Expr} {es : List Expr} {ta : TE} {t : TA} {W : WX}
theorem pe_mtx {pl : Sem Bool} (c : MetR X.prog X.w X.K X.mg X.base k C m sp) (tk : Takes X W) (hr : Room j X.A) (hk : k ≤ j) (he : PE X o ta) (ha : PA X (e :: es) t)
    (hst : starEach (e :: es) X.env = (false, eval e X.env) :: starEach es X.env := by rfl) (hpl : (backTo pos (starEach es X.env)).any (·.1) = false := by rfl)
    (ht : eval (.Call (.Attribute o m apos) (e :: es) [] pos) X.env = (do
      let ov ← eval o X.env
      standAt apos.atName
      let (f, first) ← holding [ov] (getMethod ov m pl)
      callWith pos f first (backTo pos (starEach (e :: es) X.env)) (backToKw pos (keywordEach [] X.env))) := by rfl) :
    PE X (.Call (.Attribute o m apos) (e :: es) [] pos) (tMethX C m sp (WE W) ta t) := by
  obtain ⟨f, fd, ps, hc, hm, F, b⟩ := c.ex
  refine ⟨fun pins s σ H Q I h => ?_⟩
  refine PySem.W.methodCall_KW (pl := pl) (thn (he.run pins s σ H _ I h) fun u s1 ⟨x, H1, I1, rx, a, dx, fs, ex, ea, l, q⟩ => ?_) ht
  subst ex
  obtain rfl : u = Value.ref a := rx
  refine getmeth_ok I1 ea hc hm l ?_
  refine PySem.W.callWith_K (first := [.ref a]) (h₀ := X.base) I.ok.mod.kin hm.kp (thn (ha.run pos pins s1 σ H1 _ I1 q) fun us s2 ⟨vs, H2, I2, r, q2⟩ => ⟨I2.kIn, ?_⟩) hst hpl
  exact run_fnS (us := .ref a :: us) (vs := .ref a :: vs) F (hr.mono hk) b (passAt tk σ) I2 (.cons rfl r) q2
end

/-! ### methods that may raise, called with defaults -/
structure MetRD (P : Program) (w : World) (K : PySem.W.Frag) (mg : Str → Option Value) (base : Heap) (k : Nat) (C : Addr) (m : Str) (sp : Sp) (dvs : List V) : Prop where
  ex : ∃ (f : Addr) (fd : FuncData) (ps : List Str) (ds : List Value), Cls K C ∧ Meth K C m f ∧ FnOk P w K mg base (L2.CX P w) k f fd ps sp ∧ Binds K fd ps ds ∧ Vals dvs ds
theorem MetR.d {P : Program} {w : World} {K : PySem.W.Frag} {mg : Str → Option Value} {base : Heap} {C : Addr} {m : Str} {k : Nat} {sp : Sp} (c : MetR P w K mg base k C m sp) : MetRD P w K mg base k C m sp [] := by
  obtain ⟨f, fd, ps, hc, hm, F, b⟩ := c.ex
  exact ⟨f, fd, ps, [], hc, hm, F, b, .nil⟩
theorem metRD_of {P : Program} {w : World} {K : PySem.W.Frag} {mg : Str → Option Value} {base : Heap} {C : Addr} {m qual : Str} {st : Stmt} {N ps : List Str} {dvs : List V} {k : Nat} {sp : Sp} (n j : Nat) (c : Cls K C) (D : MetD K C m qual st ps dvs) (hd : dvs ≠ []) (hn : n + (dvs.length - j) = ps.length)
    (hb : ∀ (T : Addr) (kV doc pm : Value) (an : Option Addr) (cdv ct : Value) (us its : List Value), us.length = n → its.length = dvs.length →
      ∃ k, bindArgs (PySem.W.fnOf m qual (defArgs st) (defBody st) (defScope st) (.ref T) kV doc pm an cdv ct) ⟨us, []⟩ = seqItems? (.ref T) >>= k ∧ k (some its.toArray) = pure (ps.zip (us ++ its.drop j)))
    (S : FnScope N ps (defScope st)) (len : ∀ vs H Q E, sp vs H Q E → vs.length = ps.length)
    (hbody : ∀ (f : Addr) (cdv : Value) (A : Around) (outer : List Env) (s : Shared) (H : Hp) (vs : List V) (Q : VK) (E : XK), Room k (A.deeper (envOfC qual (defScope st) s.heap.objs.size f cdv)) → sp vs H Q E →
      ∃ t, PSs (cxOf (L2.CX P w) P w K mg base N qual (defScope st) f cdv A outer s H E) (defBody st) t ∧ t { nx := fun _ H' => Q .non H', rt := Q } (start N vs) H) : MetRD P w K mg base (k + 1) C m sp (dvs.drop j) := by
  obtain ⟨f, fd, F, me⟩ := D.ex
  obtain ⟨ds, d, b⟩ := F.binds1 n j hd hn hb
  exact ⟨f, fd, ps, ds, c, me, F.ok S len (hbody f), b, d⟩
def tMethXD (C : Addr) (m : Str) (sp : Sp) (dvs : List V) (E : L2.St → XK) (ta : TE) (t : TA) : TE := fun σ H Q => ta σ H fun x H1 => ∃ a dx fs, x = .ref a ∧ H1 a = some (.ins C dx fs) ∧ fs.lookup m = none ∧ t σ H1 fun vs H2 => sp ((x :: vs) ++ dvs) H2 Q (E σ)
section
variable {X : Cx} {k j : Nat} {C : Addr} {m : Str} {sp : Sp} {dvs : List V} {pos apos : Pos} {e o : Expr} {es : List Expr} {ta : TE} {t : TA} {W : WX}
theorem pe_mtd {pl : Sem Bool} (c : MetRD X.prog X.w X.K X.mg X.base k C m sp dvs) (tk : Takes X W) (hr : Room j X.A) (hk : k ≤ j) (he : PE X o ta) (ha : PA X (e :: es) t)
    (hst : starEach (e :: es) X.env = (false, eval e X.env) :: starEach es X.env := by rfl) (hpl : (backTo pos (starEach es X.env)).any (·.1) = false := by rfl)
    (ht : eval (.Call (.Attribute o m apos) (e :: es) [] pos) X.env = (do
      let ov ← eval o X.env
      standAt apos.atName
      let (f, first) ← holding [ov] (getMethod ov m pl)
      callWith pos f first (backTo pos (starEach (e :: es) X.env)) (backToKw pos (keywordEach [] X.env))) := by rfl) :
    PE X (.Call (.Attribute o m apos) (e :: es) [] pos) (tMethXD C m sp dvs (WE W) ta t) := by
  obtain ⟨f, fd, ps, ds, hc, hm, F, b, d⟩ := c.ex
  refine ⟨fun pins s σ H Q I h => ?_⟩
  refine PySem.W.methodCall_KW (pl := pl) (thn (he.run pins s σ H _ I h) fun u s1 ⟨x, H1, I1, rx, a, dx, fs, ex, ea, l, q⟩ => ?_) ht
  subst ex
  obtain rfl : u = Value.ref a := rx
  refine getmeth_ok I1 ea hc hm l ?_
  refine PySem.W.callWith_K (first := [.ref a]) (h₀ := X.base) I.ok.mod.kin hm.kp (thn (ha.run pos pins s1 σ H1 _ I1 q) fun us s2 ⟨vs, H2, I2, r, q2⟩ => ⟨I2.kIn, ?_⟩) hst hpl
  exact run_fnSD (us := .ref a :: us) (vs := .ref a :: vs) F (hr.mono hk) b d (passAt tk σ) I2 (.cons rfl r) q2
theorem pe_mtd0 {pl : Sem Bool} (c : MetRD X.prog X.w X.K X.mg X.base k C m sp dvs) (tk : Takes X W) (hr : Room j X.A) (hk : k ≤ j) (he : PE X o ta)
    (ht : eval (.Call (.Attribute o m apos) [] [] pos) X.env = (do
      let ov ← eval o X.env
      standAt apos.atName
      let (f, first) ← holding [ov] (getMethod ov m pl)
      callWith pos f first (backTo pos (starEach [] X.env)) (backToKw pos (keywordEach [] X.env))) := by rfl) :
    PE X (.Call (.Attribute o m apos) [] [] pos) (tMethXD C m sp dvs (WE W) ta tNil) := by
  obtain ⟨f, fd, ps, ds, hc, hm, F, b, d⟩ := c.ex
  refine ⟨fun pins s σ H Q I h => ?_⟩
  refine PySem.W.methodCall_KW (pl := pl) (thn (he.run pins s σ H _ I h) fun u s1 ⟨x, H1, I1, rx, a, dx, fs, ex, ea, l, q⟩ => ?_) ht
  subst ex
  obtain rfl : u = Value.ref a := rx
  refine getmeth_ok I1 ea hc hm l ?_
  exact PySem.W.callWith_K0 (first := [.ref a]) I1.kIn hm.kp (run_fnSD (us := [.ref a]) (vs := [.ref a]) F (hr.mono hk) b d (passAt tk σ) I1 (.cons rfl .nil) q)
end

/-! ### raising where nothing is handled, its context told; raising and calls while an exception is handled -/
section
variable {P : Program} {w : World} {K : PySem.W.Frag} {mg : Str → Option Value} {base : Heap}
theorem pmk_ownN {X : Cx} {C : Addr} {bmB : List Value} {B newId initId : String} {x m : Str} {j : Nat} {p p2 pos : Pos} (F : ExcBaseFacts B newId initId bmB) (hq : PySem.W.excIn X.K C bmB newId = true) (gC : X.mg x = some (.ref C)) (kC : PySem.W.keepIn X.K (.ref C) = true)
    (r : Raises X (.ref C)) (hg : Gl X x) (hdb : (x == ("__debug__" : Str)) = false := by decide) : L2N.PMk X (.Call (.Name x p) [.Constant (.str m) j p2] [] pos) (fun _ H Q => Q (.ref C) none H) := fun pins s σ H Q I h =>
  wpAny_Call_Name_kw (ld_glob I hg gC (PySem.W.callWith_K (h₀ := X.base) I.ok.mod.kin kC (thn ((pa_cons (pe_str (X := X) (x := m)) pa_nil).run pos pins s σ H (fun vs H1 => vs = [V.str m] ∧ H = H1) I ⟨rfl, rfl⟩) fun us s1 ⟨vs, H1, I1, r1, ev, eH⟩ => by
    subst ev eH
    refine ⟨I1.kIn, ?_⟩
    rcases r1 with _ | ⟨ru, rn⟩
    rcases rn with _ | _
    obtain ⟨_, _, _, _, _, _, _, _, _, _, _, _, _, _, _, _, mN, hC, hN, hni, T⟩ := exc_obj I1.kIn hq
    exact wpAny_call_exc_subT F T hC hN hni (fun h' e hm => L2N.mk_of I1 hm r h (I1.hok.gone hm.new)) (by show 1 ≤ sizeLine; rw [sizeLine_eq]; omega))) hdb)
/-- a method that may raise, cold; what it raises has no context -/
structure MetN (P : Program) (w : World) (K : PySem.W.Frag) (mg : Str → Option Value) (base : Heap) (k : Nat) (C : Addr) (m : Str) (sp : Sp) : Prop where
  ex : ∃ (f : Addr) (fd : FuncData) (ps : List Str), Cls K C ∧ Meth K C m f ∧ FnOk P w K mg base (L2N.CX P w) k f fd ps sp ∧ Binds K fd ps []
theorem metN_of {C : Addr} {m qual : Str} {st : Stmt} {N ps : List Str} {k : Nat} {sp : Sp} (c : Cls K C) (D : MetX K C m qual st ps) (S : FnScope N ps (defScope st)) (len : ∀ vs H Q E, sp vs H Q E → vs.length = ps.length)
    (hbody : ∀ (f : Addr) (cdv : Value) (A : Around) (outer : List Env) (s : Shared) (H : Hp) (vs : List V) (Q : VK) (E : XK), Room k (A.deeper (envOfC qual (defScope st) s.heap.objs.size f cdv)) → sp vs H Q E →
      ∃ t, PSs (cxOf (L2N.CX P w) P w K mg base N qual (defScope st) f cdv A outer s H E) (defBody st) t ∧ t { nx := fun _ H' => Q .non H', rt := Q } (start N vs) H) : MetN P w K mg base (k + 1) C m sp := by
  obtain ⟨f, fd, F, me, b⟩ := D.ex
  obtain ⟨oc, od, kV, doc, pm, an, cdv, ct, osl, rfl, lk, hcd⟩ := F.ex
  exact ⟨f, _, ps, c, me, fn_of lk hcd S len (hbody f cdv), .all b⟩
theorem MetN.weak {C : Addr} {m : Str} {k : Nat} {sp : Sp} (c : MetN P w K mg base k C m sp) : MetR P w K mg base k C m sp := by
  obtain ⟨f, fd, ps, hc, hm, F, b⟩ := c.ex
  refine ⟨f, fd, ps, hc, hm, ⟨F.len, fun A outer s H args us vs Q E hr e0 hb hv hsp => codeAny_mono (F.run A outer s H args us vs Q E hr e0 hb hv hsp) fun r s' q => ?_⟩, b⟩
  cases r with
  | ok fl =>
    cases fl <;> exact q
  | error e =>
    obtain ⟨a, B, H', cls, d, rfl, fl, more⟩ := q
    exact ⟨a, B, H', cls, d, rfl, L2H.flyingZ_imp (fun _ z => z.zc) fl, more⟩
theorem passAtN {X : Cx} {W : WX} (tk : L2N.Takes X W) (σ : L2.St) : PassesAt (L2N.CX X.prog X.w) X σ (WE W σ) := fun _ _ _ e s' I c => tk e s' (L2N.XE.of_call I (fun _ _ _ h => h) c)
section
variable {X : Cx} {k j : Nat} {C : Addr} {x m : Str} {sp : Sp} {p pos apos : Pos} {e o : Expr} {es : List Expr} {ta : TE} {t : TA} {W : WX}
theorem pe_mtn {pl : Sem Bool} (c : MetN X.prog X.w X.K X.mg X.base k C m sp) (tk : L2N.Takes X W) (hr : Room j X.A) (hk : k ≤ j) (he : PE X o ta) (ha : PA X (e :: es) t)
    (hst : starEach (e :: es) X.env = (false, eval e X.env) :: starEach es X.env := by rfl) (hpl : (backTo pos (starEach es X.env)).any (·.1) = false := by rfl)
    (ht : eval (.Call (.Attribute o m apos) (e :: es) [] pos) X.env = (do
      let ov ← eval o X.env
      standAt apos.atName
      let (f, first) ← holding [ov] (getMethod ov m pl)
      callWith pos f first (backTo pos (starEach (e :: es) X.env)) (backToKw pos (keywordEach [] X.env))) := by rfl) :
    PE X (.Call (.Attribute o m apos) (e :: es) [] pos) (tMethX C m sp (WE W) ta t) := by
  obtain ⟨f, fd, ps, hc, hm, F, b⟩ := c.ex
  refine ⟨fun pins s σ H Q I h => PySem.W.methodCall_KW (pl := pl) (thn (he.run pins s σ H _ I h) fun u s1 ⟨x, H1, I1, rx, a, dx, fs, ex, ea, l, q⟩ => ?_) ht⟩
  subst ex
  obtain rfl : u = Value.ref a := rx
  exact getmeth_ok I1 ea hc hm l (PySem.W.callWith_K (first := [.ref a]) (h₀ := X.base) I.ok.mod.kin hm.kp (thn (ha.run pos pins s1 σ H1 _ I1 q) fun us s2 ⟨vs, H2, I2, r, q2⟩ => ⟨I2.kIn, run_fnS (us := .ref a :: us) (vs := .ref a :: vs) F (hr.mono hk) b (passAtN tk σ) I2 (.cons rfl r) q2⟩) hst hpl)
theorem ps_raiseXN {j : Nat} {p2 p3 : Pos} (F : ExcF X.K C) (gC : X.mg x = some (.ref C)) (hc : X.calm = true) (tk : L2N.Takes X W) (hg : Gl X x) (hdb : (x == ("__debug__" : Str)) = false := by decide) :
    PS X (.Raise (some (.Call (.Name x p) [.Constant (.str m) j p2] [] p3)) none pos) (fun _ σ H => W (.ref C) none σ H) :=
  L2N.ps_raise hc tk (pmk_ownN PySem.F.excBase_ValueError F.xP gC F.kP (raises_own F.bP F.tP) hg hdb)
theorem ps_raiseXH {j : Nat} {p2 p3 : Pos} (F : ExcF X.K C) (gC : X.mg x = some (.ref C)) (hot : L2H.HotC X) (tk : Takes X W) (hg : Gl X x) (hdb : (x == ("__debug__" : Str)) = false := by decide) :
    PS X (.Raise (some (.Call (.Name x p) [.Constant (.str m) j p2] [] p3)) none pos) (fun _ σ H => W (.ref C) none σ H) :=
  L2H.ps_raiseH hot tk (pmk_ownN PySem.F.excBase_ValueError F.xP gC F.kP (raises_own F.bP F.tP) hg hdb)
theorem hot_tr {pn : List (Addr × Obj)} {xe : Value → Shared → Prop} (h : L2H.HotC X) (hq : ∀ q ∈ X.pn, q ∈ pn) : L2H.HotC (X.tr pn xe) := by
  obtain ⟨q, a, b⟩ := h
  exact ⟨q, a, hq q b⟩
theorem hot_suite {a : Addr} {oe : Obj} {cls : Value} {d : Option Addr} {pn : List (Addr × Obj)} (hz : L2N.Zn cls d oe) (hf : ∃ vs, oe.data = .fields vs) : L2H.HotC (X.suite a ((a, oe) :: pn)) := by
  obtain ⟨vs, e⟩ := hf
  exact ⟨(a, oe), ⟨rfl, vs, e, hz.2.2 vs e⟩, List.mem_cons_self⟩
end
/-- a method called while an exception is handled -/
structure MetH (P : Program) (w : World) (K : PySem.W.Frag) (mg : Str → Option Value) (base : Heap) (k : Nat) (C : Addr) (m : Str) (sp : Sp) : Prop where
  ex : ∃ (f : Addr) (fd : FuncData) (ps : List Str), Cls K C ∧ Meth K C m f ∧ L2H.FnH P w K mg base (L2.CX P w) k f fd ps sp ∧ Binds K fd ps []
theorem metH_of {C : Addr} {m qual : Str} {st : Stmt} {N ps : List Str} {k : Nat} {sp : Sp} (c : Cls K C) (D : MetX K C m qual st ps) (S : FnScope N ps (defScope st)) (len : ∀ vs H Q E, sp vs H Q E → vs.length = ps.length)
    (hbody : ∀ (f : Addr) (cdv : Value) (A : Around) (outer : List Env) (s : Shared) (H : Hp) (vs : List V) (Q : VK) (E : XK) (p : Addr × Obj), L2H.Hot1 A p → L2H.RoomH k (A.deeper (envOfC qual (defScope st) s.heap.objs.size f cdv)) → sp vs H Q E →
      ∃ t, PSs (L2H.cxH (L2.CX P w) P w K mg base N qual (defScope st) f cdv A outer s H E p) (defBody st) t ∧ t { nx := fun _ H' => Q .non H', rt := Q } (start N vs) H) : MetH P w K mg base (k + 1) C m sp := by
  obtain ⟨f, fd, F, me, b⟩ := D.ex
  obtain ⟨oc, od, kV, doc, pm, an, cdv, ct, osl, rfl, lk, hcd⟩ := F.ex
  exact ⟨f, _, ps, c, me, L2H.fn_ofH lk hcd S len (hbody f cdv), .all b⟩
/-- a def called while an exception is handled -/
structure CalH (P : Program) (w : World) (K : PySem.W.Frag) (mg : Str → Option Value) (base : Heap) (k : Nat) (x : Str) (sp : Sp) : Prop where
  ex : ∃ (f : Addr) (fd : FuncData) (ps : List Str), L2H.FnH P w K mg base L2.CX0 k f fd ps sp ∧ mg x = some (.ref f) ∧ PySem.W.keepIn K (.ref f) = true ∧ Binds K fd ps []
theorem calH_of {x : Str} {st : Stmt} {N ps : List Str} {k : Nat} {sp : Sp} (D : DefX K mg x st ps) (S : FnScope N ps (defScope st)) (len : ∀ vs H Q E, sp vs H Q E → vs.length = ps.length)
    (hbody : ∀ (f : Addr) (cdv : Value) (A : Around) (outer : List Env) (s : Shared) (H : Hp) (vs : List V) (Q : VK) (E : XK) (p : Addr × Obj), L2H.Hot1 A p → L2H.RoomH k (A.deeper (envOfC x (defScope st) s.heap.objs.size f cdv)) → sp vs H Q E →
      ∃ t, PSs (L2H.cxH L2.CX0 P w K mg base N x (defScope st) f cdv A outer s H E p).nox (defBody st) t ∧ t { nx := fun _ H' => Q .non H', rt := Q } (start N vs) H) : CalH P w K mg base (k + 1) x sp := by
  obtain ⟨f, fd, F, me, b⟩ := D.ex
  have kp := F.kp
  obtain ⟨oc, od, kV, doc, pm, an, cdv, ct, osl, rfl, lk, hcd⟩ := F.ex
  refine ⟨f, _, ps, L2H.fn_ofH lk hcd S len (fun A outer s H vs Q E p h1 hr hsp => ?_), me, kp, .all b⟩
  obtain ⟨t, g1, g2⟩ := hbody f cdv A outer s H vs Q E p h1 hr hsp
  exact ⟨t, g1.nox, g2⟩
section
variable {X : Cx} {k j : Nat} {C : Addr} {x m : Str} {sp : Sp} {p pos apos : Pos} {e o : Expr} {es : List Expr} {ta : TE} {t : TA} {W : WX}
theorem pe_mth {pl : Sem Bool} (c : MetH X.prog X.w X.K X.mg X.base k C m sp) (hot : L2H.HotC X) (tk : Takes X W) (hr : L2H.RoomH j X.A) (hk : k ≤ j) (he : PE X o ta) (ha : PA X (e :: es) t)
    (hst : starEach (e :: es) X.env = (false, eval e X.env) :: starEach es X.env := by rfl) (hpl : (backTo pos (starEach es X.env)).any (·.1) = false := by rfl)
    (ht : eval (.Call (.Attribute o m apos) (e :: es) [] pos) X.env = (do
      let ov ← eval o X.env
      standAt apos.atName
      let (f, first) ← holding [ov] (getMethod ov m pl)
      callWith pos f first (backTo pos (starEach (e :: es) X.env)) (backToKw pos (keywordEach [] X.env))) := by rfl) :
    PE X (.Call (.Attribute o m apos) (e :: es) [] pos) (L2H.tMethH C m sp (WE W) ta t) := by
  obtain ⟨f, fd, ps, hc, hm, F, b⟩ := c.ex
  exact L2H.pe_methH (pl := pl) he hc hm F (hr.mono hk) hot b (fun σ => passAt tk σ) ha hst hpl ht
theorem pe_cH (c : CalH X.prog X.w X.K X.mg X.base k x sp) (hot : L2H.HotC X) (hr : L2H.RoomH j X.A) (hk : k ≤ j) (hg : Gl X x) (ha : PA X (e :: es) t)
    (hdb : (x == ("__debug__" : Str)) = false := by decide) (he : starEach (e :: es) X.env = (false, eval e X.env) :: starEach es X.env := by rfl) (hpl : (backTo pos (starEach es X.env)).any (·.1) = false := by rfl) :
    PE X (.Call (.Name x p) (e :: es) [] pos) (tCallS sp (fun _ => L2.E0) t) := by
  obtain ⟨f, fd, ps, F, m, kp, b⟩ := c.ex
  exact L2H.pe_callH F (hr.mono hk) hot hg m kp b (fun σ _ _ _ _ _ _ z => False.elim z) ha hdb he hpl
end
end
theorem takesN0 {X : Cx} : L2N.Takes X (fun _ _ _ _ => False) := fun _ _ ⟨_, _, _, _, _, _, _, _, _, _, _, _, _, _, _, _, z⟩ => z.elim
theorem roomH_suite {X : Cx} {k : Nat} {a : Addr} {pn : List (Addr × Obj)} (h : Room k X.A) : L2H.RoomH k (X.suite a pn).A := ⟨h.dp, h.un⟩

section
variable {P : Program} {w : World} {K : PySem.W.Frag} {mg : Str → Option Value} {base : Heap}
theorem ps_imp {X : Cx} {st : Stmt} {t t' : TS} (h : PS X st t) (i : ∀ D σ H, t' D σ H → t D σ H) : PS X st t' := ⟨fun pins s σ H D I q => h.run pins s σ H D I (i D σ H q)⟩
section
variable {X : Cx} {C : Addr} {x : Str} {e : Expr} {es : List Expr} {te : TE} {ta : TA} {p p1 p2 pos : Pos}
/-- B.__init__(self, ..) of such a class B -/
theorem pe_beinit {pl : Sem Bool} (hg : Gl X x) (gC : X.mg x = some (.ref C)) (b1 : PySem.W.specialIn X.K (.ref C) "__getattribute__" = some (some (.builtin "type.__getattribute__"))) (b2 : PySem.W.readsIn X.K C (.type "type") = true)
    (b3 : PySem.W.findCls X.K (.ref C) (.type "type") "__init__" = some (.val (.builtin "ValueError.__init__"))) (ha : PA X (e :: es) ta) (hdb : (x == ("__debug__" : Str)) = false := by decide)
    (hc : eval (.Call (.Attribute (.Name x p1) "__init__" p2) (e :: es) [] pos) X.env = (do
      let ov ← eval (.Name x p1) X.env
      standAt p2.atName
      let (f, first) ← holding [ov] (getMethod ov "__init__" pl)
      callWith pos f first (backTo pos (starEach (e :: es) X.env)) (backToKw pos (keywordEach [] X.env))) := by rfl)
    (he : starEach (e :: es) X.env = (false, eval e X.env) :: starEach es X.env := by rfl) (hpl : (backTo pos (starEach es X.env)).any (·.1) = false := by rfl) :
    PE X (.Call (.Attribute (.Name x p1) "__init__" p2) (e :: es) [] pos) (tVeI X.K ta) := by
  refine ⟨fun pins s σ H Q I h => PySem.W.methodCall_KW (ld_glob I hg gC (PySem.W.method_cls I.kIn b1 (PySem.W.cls_value I.kIn b2 b3 (by decide +kernel) ?_)) hdb) hc⟩
  show wpAny _ _ (callWith pos (Value.builtin "ValueError.__init__") [] (backTo pos (starEach (e :: es) X.env)) []) _ _ _
  refine PyProof.Rows.callWith_method1 (thn (ha.run pos pins _ σ H _ (I.tok _) h) fun us s1 ⟨vs, H1, I1, r1, a, D, ws, ev, hl, T, ea, q⟩ => ?_) he hpl
  subst ev
  rcases r1 with _ | ⟨ra, rw'⟩
  obtain rfl := ra
  exact oinit_ok T I1 ea (by rw [← Paired.length rw', sizeLine_eq]; omega) fun s' J => ⟨.non, H1, J, rfl, q⟩
end
/-- C(e) cold, its context told -/
theorem pmk_oexN {X : Cx} {CX : CXT} {x : Str} {e : Expr} {es : List Expr} {ta : TA} {p pos : Pos} {C fI : Addr} {k : Nat} {fd : FuncData} {ps : List Str} {sp : Sp} (T : OexC X.K C) (iC : PySem.W.findIn X.K (.ref C) "__init__" = some (some (.ref fI))) (tI : PySem.W.typeIn X.K (.ref fI) = some (.type "function"))
    (F1 : FnOk X.prog X.w X.K X.mg X.base CX k fI fd ps sp) (hr : Room (k + 1) X.A) (hb : Binds X.K fd ps []) (hx : Passes CX X (fun _ _ _ => False)) (hg : Gl X x) (hm : X.mg x = some (.ref C)) (ha : PA X (e :: es) ta)
    (hdb : (x == ("__debug__" : Str)) = false := by decide) (he : starEach (e :: es) X.env = (false, eval e X.env) :: starEach es X.env := by rfl) (hpl : (backTo pos (starEach es X.env)).any (·.1) = false := by rfl) :
    L2N.PMk X (.Call (.Name x p) (e :: es) [] pos) (tMkO C sp [] ta) := by
  intro pins s σ H Q I h
  obtain ⟨_, _, _, _, bm, _, _, _, _, _, _, _, _, _, _, lC, rbm⟩ := T.cls
  refine wpAny_Call_Name_kw (ld_glob I hg hm (PySem.W.callWith_K (h₀ := X.base) I.ok.mod.kin T.kC (thn (ha.run pos pins s σ H _ I h) fun us s1 ⟨vs, H1, I1, r1, hz, q1⟩ => ⟨I1.kIn, ?_⟩) he hpl) hdb)
  obtain ⟨hp, g, dr, tk, os⟩ := s1
  have big : hp.objs.size ≤ hp.objs.size + 1 := Nat.le_succ _
  have hq := q1 (hp.objs.size + 1) (I1.hok.fresh big)
  rw [List.append_nil] at hq
  have keep : ∀ b o, hp.get? b = some o → ((hp.push (PySem.W.kdv_tup us)).push (PySem.HandSPX.excO C hp.objs.size)).get? b = some o := fun b o z => Heap.get?_push_of_some _ (Heap.get?_push_of_some _ z)
  have at1 : ((hp.push (PySem.W.kdv_tup us)).push (PySem.HandSPX.excO C hp.objs.size)).get? (hp.objs.size + 1) = some (PySem.HandSPX.excO C hp.objs.size) := by heap_get
  have I2 : Inv X pins σ (upd H1 (hp.objs.size + 1) (exo (hp.objs.size + 1) C none)) ⟨((hp.push (PySem.W.kdv_tup us)).push (PySem.HandSPX.excO C hp.objs.size)), g, dr, tk, os⟩ := I1.laid (t' := tk) (a := hp.objs.size + 1) (o := exo (hp.objs.size + 1) C none) (h' := ((hp.push (PySem.W.kdv_tup us)).push (PySem.HandSPX.excO C hp.objs.size))) keep big (exo_ok at1)
  have rv2 : Vals (V.ref (hp.objs.size + 1) :: vs) (Value.ref (hp.objs.size + 1) :: us) := .cons rfl r1
  have len2 : (Value.ref (hp.objs.size + 1) :: us ++ []).length = ps.length := by
    rw [List.append_nil, ← F1.len _ _ _ _ hq]
    exact rv2.length.symm
  have few : us.length ≤ sizeLine := by
    rw [← Paired.length r1, sizeLine_eq]
    omega
  have bnd := hb _ (Value.ref (hp.objs.size + 1) :: us) I2.kIn len2
  rw [List.append_nil] at bnd
  refine wpAny_call (PySem.HandSPX.call_own F.excBase_ValueError (fun Y => PySem.HandSPX.refsVE_contains Y bm rbm) (I1.kIn _ _ lC) (PySem.W.looks_findIn I1.kIn iC) (fun self => PySem.W.bind_fn I1.kIn self tI) few
    (codeAny_mono (F1.run _ X.stack _ _ ⟨Value.ref (hp.objs.size + 1) :: us, []⟩ (Value.ref (hp.objs.size + 1) :: us) _ _ (fun _ _ _ => False) (hr.make C us []) (I2.env0.make C us []) bnd rv2 hq) fun r sE done => ?_))
  rcases r with er | fl
  · exact hx pins σ _ _ er sE I2 done
  cases fl with
  | next => exact False.elim done
  | brk => exact False.elim done
  | cont => exact False.elim done
  | ret u =>
    obtain ⟨v, H2, os2, bare2, un2, hok2, rv, ev, d, fs, ea, ed, hd1, q2⟩ := done
    subst ev
    obtain ⟨h2, g2, d2, t2, os'⟩ := sE
    obtain ⟨t0, G, J, kG, ge, hoe, na⟩ := mk_end0 (d2 := d2) (t2 := t2) I1 big keep un2 hok2 os2 bare2 ea ed hd1
    exact ⟨rv, hp.objs.size + 1, _, _, ⟨G, g2, d2, t2, os'⟩, _, .ref C, some d, rfl, J, kG, ge, hoe, ⟨rfl, rfl, fun vs hv => by cases hv; rfl⟩, rfl, rfl, na, rfl, bare2, raises_own T.exC T.tyC, q2⟩
/-! ### the error's __init__, and raising it -/
def spExI (C : Addr) (fld : Str) : Sp := fun vs H Q _ => ∃ (a : Addr) (i : Int), vs = [.ref a, .int i] ∧ 0 ≤ i ∧ i < 1000000 ∧ H a = some (exo a C none) ∧ ∀ dx, H dx = none → dx ≠ a → Q .non (upd (upd H dx (exd dx [(fld, .int i)])) a (exo a C (some dx)))
/-- what raise C(e) asks -/
def tRzI (W : WX) (C : Addr) (fld : Str) (te : TE) : TS := fun _ σ H => te σ H fun v H1 => ∃ i : Int, v = .int i ∧ 0 ≤ i ∧ i < 1000000 ∧ ∀ dx, H1 dx = none → W (.ref C) (some dx) σ (upd H1 dx (.xd [(fld, .int i)]))
theorem rz_of {W : WX} {C : Addr} {fld : Str} {te : TE} (hte : ∀ σ H (Q Q' : VK), (∀ v H', Q v H' → Q' v H') → te σ H Q → te σ H Q') {D : Ends} {σ : L2.St} {H : Hp} (h : tRzI W C fld te D σ H) : tMkO C (spExI C fld) [] (tCons te tNil) σ H (fun cls d H' => W cls d σ H') := by
  refine hte σ H _ _ (fun v H1 q => ?_) h
  obtain ⟨i, rfl, h0, h1, q⟩ := q
  refine ⟨by show 1 ≤ 1000; decide, fun a na => ⟨a, i, rfl, h0, h1, upd_same, fun dx ndx hne => ?_⟩⟩
  have nd1 : H1 dx = none := by rwa [upd_ne hne] at ndx
  refine ⟨rfl, dx, _, upd_same, by rw [upd_ne hne]; exact upd_same, nd1, ?_⟩
  have e : upd (del (upd (upd (upd H1 a (exo a C none)) dx (exd dx [(fld, .int i)])) a (exo a C (some dx))) a) dx (.xd [(fld, .int i)]) = upd H1 dx (.xd [(fld, .int i)]) := by
    funext b
    by_cases c1 : b = dx
    · rw [c1, upd_same, upd_same]
    · rw [upd_ne c1, upd_ne c1]
      by_cases c2 : b = a
      · rw [c2, del_same, na]
      · rw [del_ne c2, upd_ne c2, upd_ne c1, upd_ne c2]
  rw [e]
  exact q dx nd1
section
variable {X : Cx} {x bx fld qual : Str} {st : Stmt} {ps : List Str} {C B : Addr} {e : Expr} {te : TE} {p p2 pos pos' : Pos} {W : WX}
theorem ps_raiseIN {j : Nat} (EI : ExcI X.K X.mg x bx fld qual st ps C B) (F : ∀ fI fd, L2.Fun X.K "__init__" qual st fI fd → FnOk X.prog X.w X.K X.mg X.base L2.CX0 1 fI fd ps (spExI C fld)) (hr : Room j X.A) (hj : 2 ≤ j) (hcl : X.calm = true) (tk : L2N.Takes X W) (hg : Gl X x) (he : PE X e te)
    (hte : ∀ σ H (Q Q' : VK), (∀ v H', Q v H' → Q' v H') → te σ H Q → te σ H Q') (hdb : (x == ("__debug__" : Str)) = false := by decide) (hst : starEach [e] X.env = (false, eval e X.env) :: starEach [] X.env := by rfl) (hpl : (backTo pos (starEach [] X.env)).any (·.1) = false := by rfl) :
    PS X (.Raise (some (.Call (.Name x p) [e] [] pos)) none pos') (tRzI W C fld te) := by
  obtain ⟨fI, fd, Fu, iC, tI, b⟩ := EI.ini
  exact ps_imp (L2N.ps_raise hcl tk (pmk_oexN EI.T iC tI (F fI fd Fu) (hr.mono hj) (.all b) (fun _ _ _ _ _ _ _ z => z.elim) hg EI.gC (pa_cons he pa_nil hst) hdb hst hpl)) fun D σ H q => rz_of hte q
theorem ps_raiseIH {j : Nat} (EI : ExcI X.K X.mg x bx fld qual st ps C B) (F : ∀ fI fd, L2.Fun X.K "__init__" qual st fI fd → L2H.FnH X.prog X.w X.K X.mg X.base L2.CX0 1 fI fd ps (spExI C fld)) (hr : L2H.RoomH j X.A) (hj : 2 ≤ j) (hot : L2H.HotC X) (tk : Takes X W) (hg : Gl X x) (he : PE X e te)
    (hte : ∀ σ H (Q Q' : VK), (∀ v H', Q v H' → Q' v H') → te σ H Q → te σ H Q') (hdb : (x == ("__debug__" : Str)) = false := by decide) (hst : starEach [e] X.env = (false, eval e X.env) :: starEach [] X.env := by rfl) (hpl : (backTo pos (starEach [] X.env)).any (·.1) = false := by rfl) :
    PS X (.Raise (some (.Call (.Name x p) [e] [] pos)) none pos') (tRzI W C fld te) := by
  obtain ⟨fI, fd, Fu, iC, tI, b⟩ := EI.ini
  exact ps_imp (L2H.ps_raiseH hot tk (L2H.pmk5_oexH EI.T iC tI (F fI fd Fu) (hr.mono hj) hot (.all b) (fun _ _ _ _ _ _ _ z => z.elim) hg EI.gC (pa_cons he pa_nil hst) hdb hst hpl).pmk) fun D σ H q => rz_of hte q
end
end

/-- a def that may raise, cold; what it raises has no context -/
structure CalN (P : Program) (w : World) (K : PySem.W.Frag) (mg : Str → Option Value) (base : Heap) (k : Nat) (x : Str) (sp : Sp) : Prop where
  ex : ∃ (f : Addr) (fd : FuncData) (ps : List Str), FnOk P w K mg base (L2N.CX P w) k f fd ps sp ∧ mg x = some (.ref f) ∧ PySem.W.keepIn K (.ref f) = true ∧ Binds K fd ps []
theorem calN_of {P : Program} {w : World} {K : PySem.W.Frag} {mg : Str → Option Value} {base : Heap} {x : Str} {st : Stmt} {N ps : List Str} {k : Nat} {sp : Sp} (D : DefX K mg x st ps) (S : FnScope N ps (defScope st)) (len : ∀ vs H Q E, sp vs H Q E → vs.length = ps.length)
    (hbody : ∀ (f : Addr) (cdv : Value) (A : Around) (outer : List Env) (s : Shared) (H : Hp) (vs : List V) (Q : VK) (E : XK), Room k (A.deeper (envOfC x (defScope st) s.heap.objs.size f cdv)) → sp vs H Q E →
      ∃ t, PSs (cxOf (L2N.CX P w) P w K mg base N x (defScope st) f cdv A outer s H E) (defBody st) t ∧ t { nx := fun _ H' => Q .non H', rt := Q } (start N vs) H) : CalN P w K mg base (k + 1) x sp := by
  obtain ⟨f, fd, F, m, b⟩ := D.ex
  have kp := F.kp
  obtain ⟨oc, od, kV, doc, pm, an, cdv, ct, osl, rfl, lk, hcd⟩ := F.ex
  exact ⟨f, _, ps, fn_of lk hcd S len (hbody f cdv), m, kp, .all b⟩
theorem CalN.weak {P : Program} {w : World} {K : PySem.W.Frag} {mg : Str → Option Value} {base : Heap} {x : Str} {k : Nat} {sp : Sp} (c : CalN P w K mg base k x sp) : CalX P w K mg base k x sp := by
  obtain ⟨f, fd, ps, F, m, kp, b⟩ := c.ex
  refine ⟨f, fd, ps, ⟨F.len, fun A outer s H args us vs Q E hr e0 hb hv hsp => codeAny_mono (F.run A outer s H args us vs Q E hr e0 hb hv hsp) fun r s' q => ?_⟩, m, kp, b⟩
  cases r with
  | ok fl =>
    cases fl <;> exact q
  | error e =>
    obtain ⟨a, B, H', cls, d, rfl, fl, more⟩ := q
    exact ⟨a, B, H', cls, d, rfl, L2H.flyingZ_imp (fun _ z => z.zc) fl, more⟩
/-- x(..) of such a def, within what takes W -/
theorem pe_cn {X : Cx} {k j : Nat} {x : Str} {sp : Sp} {W : WX} {t : TA} {e : Expr} {es : List Expr} {p pos : Pos} (c : CalN X.prog X.w X.K X.mg X.base k x sp) (tk : L2N.Takes X W) (hr : Room j X.A) (hk : k ≤ j) (hg : Gl X x) (ha : PA X (e :: es) t)
    (hdb : (x == ("__debug__" : Str)) = false := by decide) (he : starEach (e :: es) X.env = (false, eval e X.env) :: starEach es X.env := by rfl) (hpl : (backTo pos (starEach es X.env)).any (·.1) = false := by rfl) :
    PE X (.Call (.Name x p) (e :: es) [] pos) (tCallS sp (WE W) t) := by
  obtain ⟨f, fd, ps, F, m, kp, b⟩ := c.ex
  exact pe_callS F (hr.mono hk) hg m kp b (fun σ => passAtN tk σ) ha hdb he hpl

/-! ### try .. except X: (a suite that may raise) .. else -/
section
variable {X : Cx} {x : Str} {c : Value} {body more orelse : List Stmt} {st0 : Stmt} {np q0 q1 : Pos} {tb : WX → TS} {ts : Addr → Value → Option Addr → TS} {Wo : WX} {u : TS}
theorem ps_try_onlyXE (ho : PSs X orelse u) (hs : X.stack = X.env :: X.outer) (hf : X.env.frame = some X.env.locals) (hc : Names X x c) (hpa : ∀ hd : Option Value, PassesOwnAt (model X.prog X.w) (X.A.mark hd) X.A X.env X.xe) (tk : Takes X Wo)
    (hb : ∀ (W : WX) (pn : List (Addr × Obj)) (xe : Value → Shared → Prop), L2N.Takes (X.tr pn xe) W → PassesOwn (model X.prog X.w) X.A X.env xe → PSs (X.tr pn xe) body (tb W))
    (hsu : ∀ (a : Addr) (oe : Obj) (cls : Value) (d : Option Addr) (pn : List (Addr × Obj)), L2N.Zn cls d oe → (∃ vs, oe.data = .fields vs) → Takes (L2H.suiteX X a ((a, oe) :: pn)) Wo → L2H.HotC (L2H.suiteX X a ((a, oe) :: pn)) →
      PSs (L2H.suiteX X a ((a, oe) :: pn)) (st0 :: more) (ts a cls d)) :
    PS X (.Try body [.ExceptHandler (some (.Name x np)) none (st0 :: more) q1] orelse [] q0) (fun D σ H => tb (wOnly X.K c ts Wo D) { D with nx := u D } σ H) := by
  refine ⟨fun pins s0 σ H D I0 h0 => wpAny_Try_except ?_⟩
  have ok := I0.ok
  have frE : X.A.frames = some (X.env :: X.outer) := ok.frames.trans (congrArg some hs)
  let look : Value → Shared → Prop := fun e s₁ => wpAny (model X.prog X.w) X.A (noteFrame e X.env) (fun _ s₂ =>
    wpAny (model X.prog X.w) X.A (setFlight e none) (fun _ s₃ => wpAny (model X.prog X.w) X.A (handleBy e X.env
      [.ExceptHandler (some (.Name x np)) none (st0 :: more) q1]) (SP X pins D) X.xe s₃) X.xe s₂) X.xe s₁
  have hook : L2N.Takes (X.tr (X.pn ++ pins) look) (wOnly X.K c ts Wo D) := by
    rintro u1 sE ⟨a, B, sI, pins', σ1, H1, cls, d, rfl, J', nb, up, sky, na, os, ag, b, hbb, yes, no⟩
    have J : Inv X pins σ1 H1 sI := J'.ofTry ok
    have sky1 : Sky B (X.env :: X.outer) a (L2N.Zn cls d) X.env.locals sE.heap := hs ▸ sky
    refine L2N.Sky.land L2N.Zn.steady frE hf sky1 fun hA flA upA => ?_
    have JA : Inv X pins σ1 H1 { sE with heap := hA } := J.landed nb flA.1 (up.trans upA) os ag
    obtain ⟨oA, vA, gA, zA, dA⟩ := flA.there
    have offFrames : a ∉ frs (X.env :: X.outer) := fun hm => by
      obtain ⟨_, o', e', hnf⟩ := flA.2.2.1.mem hm
      cases gA.symm.trans e'
      exact hnf _ dA
    have offLoc : a ≠ X.env.locals := fun z => offFrames (List.mem_filterMap.mpr ⟨X.env, List.mem_cons_self, z ▸ hf⟩)
    have offFs : a ∉ X.fs := fun hm => (List.mem_filterMap.mp hm).elim fun e1 ⟨p1, p2⟩ => offFrames (List.mem_filterMap.mpr ⟨e1, List.mem_cons_of_mem _ p1, p2⟩)
    have SA := JA.suite gA dA na offLoc offFs
    have lookT : PySem.W.Looks (model X.prog X.w) hA (typeOf (.ref a)) cls := fun _ _ _ _ kk qq => wpAny_typeOf_ref (kk _ _ gA) (zA.1.symm ▸ qq)
    have exM := PySem.W.exm_one (M := model X.prog X.w) JA.kIn lookT hbb
    have named : ∀ {Q : Value → Shared → Prop} {E : Value → Shared → Prop}, Q c { sE with heap := hA } →
        wpAny (model X.prog X.w) (X.A.mark (some (.ref a))) (eval (.Name x np) X.env) Q E { sE with heap := hA } := fun qq => by
      rcases hc with ⟨g1, g2, g3 | ⟨g3, g4, g5⟩⟩
      · exact ld_glob (X := X.suite a ((a, oA) :: (X.pn ++ pins))) SA g1 g3 qq g2
      · exact ld_blt (X := X.suite a ((a, oA) :: (X.pn ++ pins))) SA g1 g3 g4 qq g5 g2
    refine wpAny_handleBy_cons (codeAny_handlers_test (named (exM.here ?_))) (fun z => nomatch z)
    cases b with
    | true =>
      refine codeAny_handlers_suite (HandSPX.lands_againZ flA fun hB flB upB => ?_)
      have JB : Inv X pins σ1 H1 { sE with heap := hB } := J.landed nb flB.1 ((up.trans upA).trans upB) os ag
      obtain ⟨oB, vB, gB, zB, dB⟩ := flB.there
      have tkS : Takes (L2H.suiteX X a ((a, oB) :: (X.pn ++ pins))) Wo := fun u2 s2 ⟨a2, B2, sI2, _, σ2, H2, cls2, d2, e2, I2, more2⟩ => tk u2 s2 ⟨a2, B2, sI2, pins, σ2, H2, cls2, d2, e2, L2H.unsuiteX I2 ok, more2⟩
      have hot : L2H.HotC (L2H.suiteX X a ((a, oB) :: (X.pn ++ pins))) := ⟨(a, oB), ⟨rfl, vB, dB, zB.2.2 vB dB⟩, List.mem_cons_self⟩
      refine wpAny_mono ((hsu a oB cls d (X.pn ++ pins) zB ⟨_, dB⟩ tkS hot).run [] _ _ H1 _ (L2H.suiteX_of (JB.suite gB dB na offLoc offFs)) (yes rfl a na)) (fun fl sF hh => ?_) (fun e6 s6 z => hpa (some (.ref a)) e6 s6 z)
      cases fl with
      | next => exact hh.elim fun _ ⟨_, T, qq⟩ => ⟨_, _, L2H.unsuiteX T ok, qq⟩
      | brk => exact hh.elim fun _ ⟨_, T, qq⟩ => ⟨_, _, L2H.unsuiteX T ok, qq⟩
      | cont => exact hh.elim fun _ ⟨_, T, qq⟩ => ⟨_, _, L2H.unsuiteX T ok, qq⟩
      | ret u => exact hh.elim fun _ ⟨_, _, T, rr, qq⟩ => ⟨_, _, _, L2H.unsuiteX T ok, rr, qq⟩
    | false =>
      have flZ : HandSPX.FlyingZ B (X.env :: X.outer) a (Zc cls d) hA := L2H.flyingZ_imp (fun _ z => z.zc) flA
      obtain ⟨_, _, _, oe, vs, tbk, _, _, he, _, hd, h1, _⟩ := id flZ
      show wpAny _ X.A (handleBy (.ref a) X.env []) _ _ _
      refine wpAny_handleBy_nil ?_
      have away : wpAny (model X.prog X.w) X.A (setFlight (.ref a) X.env.frame) (fun _ sG => wpAny (model X.prog X.w) X.A (throw (.ref a) : Sem Flow) (SP X pins D) X.xe sG) X.xe { sE with heap := hA } := by
        rw [hf]
        exact HandSPX.setFlight_upZ flZ fun hB heldB upB => wpAny_throw (tk _ _ ⟨a, B, sI, pins, σ1, H1, cls, d, rfl, J, nb, (up.trans upA).trans upB, .inr (.inr (hs.symm ▸ heldB)), na, os, ag, no rfl⟩)
      unfold PySem.passOn
      refine wpAny_bind (wpAny_field he hd h1 ?_)
      rw [if_neg (show ¬ ((Value.ref tbk == Value.none) = true) by simp)]
      first
        | exact wpAny_bind (wpAny_pure (wpAny_bind away))
        | exact wpAny_bind away
  refine wpAny_mono ((hb _ _ look hook PassesOwn.looking).run [] s0 σ H { D with nx := u D } (I0.toTry _) h0) (fun fl sE hh => ?_) (fun e sE he => he)
  cases fl with
  | next => exact hh.elim fun _ ⟨_, T, qq⟩ => ho.run pins sE _ _ D (T.ofTry ok) qq
  | brk => exact hh.elim fun _ ⟨_, T, qq⟩ => ⟨_, _, T.ofTry ok, qq⟩
  | cont => exact hh.elim fun _ ⟨_, T, qq⟩ => ⟨_, _, T.ofTry ok, qq⟩
  | ret u => exact hh.elim fun _ ⟨_, _, T, rr, qq⟩ => ⟨_, _, _, T.ofTry ok, rr, qq⟩
end

/-! ### numbers and words drawn -/
section
variable {P : Program} {w : World} {K : PySem.W.Frag} {mg : Str → Option Value} {base : Heap}
def spDraw : Sp := fun vs H Q _ => ∃ (c k m : Int), vs = [.int c, .int k, .int m] ∧ 0 ≤ k ∧ k < 1000000 ∧ 0 < m ∧ ∀ (z : Int) (H' : Hp), 0 ≤ z → z < m → Same H H' → Q (.int z) H'
theorem prime_pos : ∀ i : Nat, i < 16 → ∃ z : Int, 0 < z ∧ ([.int 1000003, .int 1000033, .int 1000037, .int 1000039, .int 1000081, .int 1000099, .int 1000117, .int 1000121, .int 1000133, .int 1000151, .int 1000159, .int 1000171, .int 1000183, .int 1000187, .int 1000193, .int 1000199] : List V)[i]? = some (V.int z)
  | 0, _ => ⟨_, by decide, rfl⟩
  | 1, _ => ⟨_, by decide, rfl⟩
  | 2, _ => ⟨_, by decide, rfl⟩
  | 3, _ => ⟨_, by decide, rfl⟩
  | 4, _ => ⟨_, by decide, rfl⟩
  | 5, _ => ⟨_, by decide, rfl⟩
  | 6, _ => ⟨_, by decide, rfl⟩
  | 7, _ => ⟨_, by decide, rfl⟩
  | 8, _ => ⟨_, by decide, rfl⟩
  | 9, _ => ⟨_, by decide, rfl⟩
  | 10, _ => ⟨_, by decide, rfl⟩
  | 11, _ => ⟨_, by decide, rfl⟩
  | 12, _ => ⟨_, by decide, rfl⟩
  | 13, _ => ⟨_, by decide, rfl⟩
  | 14, _ => ⟨_, by decide, rfl⟩
  | 15, _ => ⟨_, by decide, rfl⟩
  | n + 16, h => absurd h (by omega)
theorem ok_draw {cc : Addr} (T : Txt K mg cc) : Cal P w K mg base 1 "_law_draw" spDraw [] := by
  have Z := T.Z
  refine cal_of T.d__law_draw sc__law_draw (fun vs H Q E h => ?_) (fun f cdv A outer s H vs Q E hr h => ?_)
  · obtain ⟨c, k, m, rfl, _⟩ := h
    rfl
  obtain ⟨c, k, m, rfl, k0, k1, m0, q⟩ := h
  refine ⟨_, (pss_cons (ps_set (i := 3) sc__law_draw.nd rfl (Or.inl rfl) (pe_tup (pa_cons pe_int (pa_cons pe_int (pa_cons pe_int (pa_cons pe_int (pa_cons pe_int (pa_cons pe_int (pa_cons pe_int (pa_cons pe_int (pa_cons pe_int (pa_cons pe_int (pa_cons pe_int (pa_cons pe_int (pa_cons pe_int (pa_cons pe_int (pa_cons pe_int (pa_cons pe_int pa_nil))))))))))))))))))
  (pss_one (ps_ret (pe_op op_mod (pe_op op_mod (pe_op op_add (pe_op op_mul (pv 0) pe_int) (pe_op op_mul (pv 1) pe_int)) (pe_ix ix_tup (pv 3) (pe_op op_mod (pv 1) pe_int) (fun _ _ => rfl))) (pv 2))))), ?_⟩
  refine ⟨by show 16 ≤ sizeLine; decide, fun p hp => ?_⟩
  obtain ⟨i, hi⟩ := Int.eq_ofNat_of_zero_le (Int.emod_nonneg k (show (16 : Int) ≠ 0 by decide))
  have hi16 : i < 16 := by
    have := Int.emod_lt_of_pos k (show (0 : Int) < 16 by decide)
    omega
  obtain ⟨z, hz, hzi⟩ := prime_pos i hi16
  refine ⟨_, rfl, _, _, rfl, rfl, .inr ⟨by decide, by decide⟩, _, rfl, _, _, rfl, rfl, .inr ⟨by decide, by decide⟩, _, _, rfl, rfl, _, rfl, _, rfl, _, 16, rfl, rfl, (by show (0 : Int) < 16; decide), p, _, _, V.int z, rfl, rfl, SqT.of upd_same, by rw [hi]; exact atI_nat hzi, ?_⟩
  refine ⟨_, _, rfl, rfl, hz, _, rfl, _, _, rfl, rfl, m0, ?_⟩
  exact q _ _ (Int.emod_nonneg _ (by omega)) (Int.emod_lt_of_pos _ m0) (same_upd hp)
end

/-! ### heaps where one instance may change -/
structure ExtO (p : Addr) (H H' : Hp) : Prop where
  keep : ∀ a o, a ≠ p → H a = some o → (∀ kvs, o ≠ .dT kvs) → H' a = some o
  grow : ∀ a kvs, H a = some (.dT kvs) → ∃ more, H' a = some (.dT (kvs ++ more))
  gr : Gr H H'
theorem Ext.o {p : Addr} {H H' : Hp} (e : Ext H H') : ExtO p H H' := ⟨fun a o _ h n => e.keep a o h n, e.grow, e.gr⟩
theorem ExtO.trans {p : Addr} {H H1 H2 : Hp} (a : ExtO p H H1) (b : ExtO p H1 H2) : ExtO p H H2 := by
  refine ⟨fun x o q e n => b.keep x o q (a.keep x o q e n) n, fun x kvs e => ?_, a.gr.trans b.gr⟩
  obtain ⟨m1, e1⟩ := a.grow x kvs e
  obtain ⟨m2, e2⟩ := b.grow x _ e1
  exact ⟨m1 ++ m2, by rw [e2, List.append_assoc]⟩
theorem ExtO.put {p C dx : Addr} {H : Hp} {fs : List (Str × V)} {o : HO} (h : H p = some (.ins C dx fs)) : ExtO p H (upd H p o) := by
  refine ⟨fun a u q e _ => by rw [upd_ne q]; exact e, fun a kvs e => ⟨[], ?_⟩, (Kp.ins h).gr⟩
  rw [List.append_nil, upd_ne]
  · exact e
  · rintro rfl
    rw [h] at e
    cases e
theorem ExtO.lst {p a : Addr} {H H' : Hp} {xs : List V} (e : ExtO p H H') (q : a ≠ p) (h : H a = some (.lst xs)) : H' a = some (.lst xs) := e.keep _ _ q h fun _ z => nomatch z
theorem ExtO.ins {p a C dx : Addr} {H H' : Hp} {fs : List (Str × V)} (e : ExtO p H H') (q : a ≠ p) (h : H a = some (.ins C dx fs)) : H' a = some (.ins C dx fs) := e.keep _ _ q h fun _ z => nomatch z
/-- the instance was made behind H -/
theorem ExtO.ext {p : Addr} {H H1 H' : Hp} (e : ExtO p H1 H') (x : Ext H H1) (hp : H p = none) : Ext H H' := by
  refine ⟨fun a o h n => e.keep a o (ne_of_none h hp) (x.keep a o h n) n, fun a kvs h => ?_⟩
  obtain ⟨m1, e1⟩ := x.grow a kvs h
  obtain ⟨m2, e2⟩ := e.grow a _ e1
  exact ⟨m1 ++ m2, by rw [e2, List.append_assoc]⟩

/-! ### sorted(pairs of an int and a text), by ints that tell them apart -/
namespace KvS
open PySem PyProof.Rows Srt SrtO
section
variable {prog : Program} {w : World} {A : Around} {s : Shared} {E : Value → Shared → Prop}
def IsKv (h : Heap) (v : Value) (x : Int) (y : Str) : Prop := ∃ a o t u n, v = .ref a ∧ h.get? a = some o ∧ o.cls = .type "tuple" ∧ o.data = .seq #[.int x t, .str y u] n
theorem IsKv.keeps {h h' : Heap} {v : Value} {x : Int} {y : Str} (p : IsKv h v x y) (k : ∀ b o, h.get? b = some o → o.cls = .type "tuple" → h'.get? b = some o) : IsKv h' v x y := by
  obtain ⟨a, o, t, u, n, e, ho, hc, hd⟩ := p
  exact ⟨a, o, t, u, n, e, k _ _ ho hc, hc, hd⟩
theorem kv_cmp {vs : List Value} {k : Value → Int} {f : Value → Str} (hp : ∀ v ∈ vs, IsKv s.heap v (k v) (f v)) (hi : ∀ v ∈ vs, ∀ u ∈ vs, k v = k u → f v = f u) : Cmp prog w A s (tuples' true) (fun p => p.1 ∈ vs) (lt2 fun v u => decide (k v < k u)) := by
  intro p q hm hm'
  have h1 := hp _ hm
  have h2 := hp _ hm'
  have h3 := hi _ hm _ hm'
  show wpAny (model prog w) A (keyLt' (tuples' true) p.1 q.1) (fun r s' => s' = s ∧ r = decide (k p.1 < k q.1)) (fun _ _ => False) s
  generalize k p.1 = x at h1 h3 ⊢
  generalize f p.1 = y at h1 h3 ⊢
  generalize k q.1 = x' at h2 h3 ⊢
  generalize f q.1 = y' at h2 h3 ⊢
  obtain ⟨a, o, t, u, n, e, ho, hc, hd⟩ := h1
  obtain ⟨a', o', t', u', n', e', ho', hc', hd'⟩ := h2
  rw [e, e']
  refine PySem.W.kat_lt ho hd ho' hd' ?_
  show PySem.W.KatLex prog w A true (decide (2 < 2)) _ [(.int x t, .int x' t'), (.str y u, .str y' u')] 0 s
  refine PySem.W.kat_cons (SeqAt.EqAt.int_int x t x' t' prog w _ _ ?_)
  refine PySem.W.kat_go (fun e1 => ?_) (fun e1 => ?_)
  · have ex : x = x' := by simpa using e1
    refine PySem.W.kat_yes (PySem.W.kat_cons (SeqAt.EqAt.str_str y u y' u' prog w _ _ ?_))
    refine PySem.W.kat_go (fun e2 => ?_) (fun e2 => ?_)
    · exact PySem.W.kat_yes (PySem.W.kat_nil ⟨rfl, (decide_eq_false (by rw [ex]; exact Int.lt_irrefl _)).symm⟩)
    · rw [h3 ex] at e2
      simp at e2
  · exact PySem.W.kat_no (oneLt_int ⟨rfl, rfl⟩)
theorem firsts_kv {h : Heap} : ∀ {vs : List Value}, (∀ v ∈ vs, ∃ x y, IsKv h v x y) → ∃ fs : List Value, PySem.W.KatTups h vs fs ∧ fs.length = vs.length ∧ ∀ f ∈ fs, ∃ x t, f = Value.int x t
  | [], _ => ⟨[], PySem.W.KatTups.nil, rfl, fun _ hm => by simp at hm⟩
  | v :: vs, hp => by
    obtain ⟨fs, h1, h2, h3⟩ := firsts_kv (vs := vs) fun v' hm => hp v' (List.mem_cons_of_mem _ hm)
    obtain ⟨x, y, a, o, t, u, n, e, ho, hc, hd⟩ := hp v (List.mem_cons_self ..)
    subst e
    refine ⟨.int x t :: fs, PySem.W.KatTups.cons ho hc hd rfl h1, by rw [List.length_cons, List.length_cons, h2], fun f hm => ?_⟩
    rcases List.mem_cons.mp hm with rfl | hm
    · exact ⟨x, t, rfl⟩
    · exact h3 f hm
theorem kv_sortable {a : Addr} {vs : List Value} {k : Value → Int} {f : Value → Str} (h0 : 0 < vs.length) (hp : ∀ v ∈ vs, IsKv s.heap v (k v) (f v)) (hi : ∀ v ∈ vs, ∀ u ∈ vs, k v = k u → f v = f u) (ha : ∀ o, s.heap.get? a = some o → o.cls ≠ .type "tuple") : SortableO prog w A s a vs fun v u => decide (k v < k u) := by
  intro h' keep
  have hp' : ∀ v ∈ vs, IsKv h' v (k v) (f v) := fun v hm => (hp v hm).keeps fun b o e c => keep b o (fun z => by subst z; exact ha o e c) e
  obtain ⟨fs, h1, h2, h3⟩ := firsts_kv fun v hm => ⟨_, _, hp' v hm⟩
  refine ⟨tuples' true, fun Q E hq => ?_, kv_cmp hp' hi⟩
  refine PySem.W.kat_kind (T := .type "int") h1 (by omega) (fun f hm => ?_) (by rfl) ?_
  · obtain ⟨x, t, rfl⟩ := h3 f hm
    exact PySem.W.Looks.now
  · have e : (Value.type "int" != Value.type "tuple") = true := by first | decide +kernel | rfl | decide
    rw [e]
    exact hq
theorem swo_key (k : Value → Int) : Swo fun v u => decide (k v < k u) := by
  refine ⟨fun x y h => ?_, fun x y z h1 h2 => ?_⟩
  · exact decide_eq_false (Int.not_lt.mpr (Int.le_of_lt (of_decide_eq_true h)))
  · have a := of_decide_eq_false h1
    have b := of_decide_eq_false h2
    exact decide_eq_false (by omega)
theorem sorted_kv {l : Addr} {vs : List Value} {k : Value → Int} {f : Value → Str} {Q : Value → Shared → Prop} (hl : s.heap.IsList l vs.toArray) (hz : vs.length ≤ sizeLine) (hp : ∀ v ∈ vs, IsKv s.heap v (k v) (f v)) (hi : ∀ v ∈ vs, ∀ u ∈ vs, k v = k u → f v = f u)
    (h : ∀ (h' : Heap) (d : Addr) (out : List Value), Srtd (fun v u => decide (k v < k u)) out → Stb (fun v u => decide (k v < k u)) out vs → (∀ b o, s.heap.get? b = some o → h'.get? b = some o) → s.heap.objs.size ≤ d → (∃ n, h'.get? d = some (seqObj "list" out.toArray n)) → Q (.ref d) { s with heap := h' }) :
    wpAny (model prog w) A (call (.builtin "sorted") [.ref l]) Q E s := by
  refine sorted_ord (swo_key k) hl hz (fun h2 h₁ a ha kk => ?_) fun out hs hb => ?_
  · refine kv_sortable (s := { s with heap := h₁ }) (by omega) (fun v hm => (hp v hm).keeps fun b o e _ => (kk b o e).2) hi fun o e => ?_
    have e' : some o = some (seqObj "list" vs.toArray 0) := e.symm.trans ha
    cases e'
    intro c
    exact absurd (Value.type.inj c) (by decide)
  · exact h _ _ out hs hb (fun b o e => sortedAll_old e) (Nat.le_succ _) (sortedAll_at s.heap vs out.toArray)
end
end KvS
section
variable {X : Cx}
/-- sorted(xs), pairs of an int and a text, no two of one int with unlike texts: a new list of the same pairs, by rising ints -/
def rSortKv (K : PySem.W.Frag) : List V → Hp → VK → Prop := fun vs H Q => ∃ (a : Addr) (xs : List V) (k : V → Int) (f : V → Str), vs = [V.ref a] ∧ SqL K H a xs ∧ (∀ x ∈ xs, ∃ t, x = V.ref t ∧ H t = some (.tup [.int (k x), .str (f x)])) ∧ (∀ x ∈ xs, ∀ y ∈ xs, k x = k y → f x = f y) ∧
  ∀ ys p, ys.Perm xs → ys.Pairwise (fun x y => k x ≤ k y) → H p = none → Q (.ref p) (upd H p (.lst ys))
theorem cr_sortedKv : CallR X (.builtin "sorted") (rSortKv X.K) := by
  intro pins s σ H vs us Q I r h
  obtain ⟨a, xs, k, f, rfl, hs, hx, hi, q⟩ := h
  obtain ⟨its, rv, hl, hz⟩ := I.list hs
  obtain ⟨u, rfl, ru⟩ := vals1 r
  obtain rfl : u = Value.ref a := ru
  obtain ⟨e1, e2⟩ := refs_back rv fun x m => by
    obtain ⟨t, e, _⟩ := hx x m
    exact ⟨t, e⟩
  have mem : ∀ v ∈ its, backV v ∈ xs := fun v hv => by rw [e1]; exact List.mem_map.mpr ⟨_, hv, rfl⟩
  refine KvS.sorted_kv (k := fun v => k (backV v)) (f := fun v => f (backV v)) hl.isList (by rw [← rv.length]; exact hz) (fun v hv => ?_) (fun v hv u hu e => hi _ (mem v hv) _ (mem u hu) e) fun h' d out hs' hb hk hd hn => ?_
  · obtain ⟨t, rfl⟩ := e2 v hv
    obtain ⟨t', e, ht⟩ := hx _ (mem _ hv)
    have et : t = t' := V.ref.inj e
    subst et
    obtain ⟨_, its2, r2, o, ho, hc, n, hd⟩ := I.hok _ _ ht
    obtain ⟨u1, u2, rfl, ri, rj⟩ := vals2 r2
    obtain ⟨t1, rfl⟩ := ri
    obtain ⟨t2, rfl⟩ := rj
    exact ⟨t, o, t1, t2, n, rfl, ho, hc, hd⟩
  · have hp := hb.perm
    have h3 : ∀ u ∈ out, ∃ a, u = Value.ref a := fun u hu => e2 u (hp.mem_iff.mp hu)
    obtain ⟨n, hn⟩ := hn
    have hlen : (out.map backV).length ≤ sizeLine := by
      rw [List.length_map, hp.length_eq, ← rv.length]
      exact hz
    refine ⟨.ref d, upd H d (.lst (out.map backV)), I.laid (t' := s.toks) (fun b o e => hk b o e) hd ⟨hlen, out, n, vals_back h3, hn⟩, rfl, q _ _ ?_ ?_ (I.hok.fresh hd)⟩
    · rw [e1]
      exact hp.map backV
    · refine List.pairwise_map.mpr (hs'.imp fun {x y} h => ?_)
      exact Int.not_lt.mp (of_decide_eq_false (p := k (backV y) < k (backV x)) h)
end

/-! ### the parts of a table -/
structure KvL (H : Hp) (vs : List V) (rows : List (Int × Str)) : Prop where
  len : vs.length = rows.length
  at_ : ∀ (j : Nat) (v : V) (e : Int × Str), vs[j]? = some v → rows[j]? = some e → ∃ q, v = .ref q ∧ H q = some (.tup [.int e.1, .str e.2]) ∧ txtOk e.2 = true
theorem KvL.gr {H H' : Hp} {vs : List V} {rows : List (Int × Str)} (h : KvL H vs rows) (x : Gr H H') : KvL H' vs rows := by
  refine ⟨h.len, fun j v e a b => ?_⟩
  obtain ⟨q, h1, h2, h3⟩ := h.at_ j v e a b
  exact ⟨q, h1, x.keep _ _ h2 True.intro (fun _ z => nomatch z), h3⟩
theorem KvL.nil {H : Hp} : KvL H [] [] := ⟨rfl, fun j v e a _ => by simp at a⟩
theorem KvL.snoc {H : Hp} {vs : List V} {rows : List (Int × Str)} {q : Addr} {e : Int × Str} (h : KvL H vs rows) (hq : H q = some (.tup [.int e.1, .str e.2])) (hx : txtOk e.2 = true) : KvL H (vs ++ [.ref q]) (rows ++ [e]) := by
  have hl := h.len
  refine ⟨by rw [List.length_append, List.length_append, hl]; rfl, fun i v t a b => ?_⟩
  by_cases c : i < vs.length
  · rw [List.getElem?_append_left c] at a
    rw [List.getElem?_append_left (by omega)] at b
    exact h.at_ i v t a b
  · rw [List.getElem?_append_right (by omega)] at a b
    rw [← hl] at b
    cases hj : i - vs.length with
    | zero =>
      rw [hj] at a b
      cases a
      cases b
      exact ⟨q, rfl, hq, hx⟩
    | succ j =>
      rw [hj] at a
      simp at a
def bitK (l : Nat) (b : Int) (e : Int × Str) : Bool := decide (e.1 / 2 ^ l % 2 = b)
def partT : Nat → List (Int × Str) → Tm
  | _, [] => nonT
  | _, [e] => .sl "row" (.int e.1) (.str e.2)
  | 0, _ :: _ :: _ => nonT
  | l + 1, a :: b :: r => .sl "fork" (partT l ((a :: b :: r).filter (bitK l 0))) (partT l ((a :: b :: r).filter (bitK l 1)))
theorem partT_nil (l : Nat) : partT l [] = nonT := by cases l <;> rfl
theorem partT_one (l : Nat) (e : Int × Str) : partT l [e] = .sl "row" (.int e.1) (.str e.2) := by cases l <;> rfl
theorem partT_more {l : Nat} {rows : List (Int × Str)} (h : 2 ≤ rows.length) : partT (l + 1) rows = .sl "fork" (partT l (rows.filter (bitK l 0))) (partT l (rows.filter (bitK l 1))) := by
  match rows, h with
  | a :: b :: r, _ => rfl
def RowsOk (l : Nat) (rows : List (Int × Str)) : Prop := (∀ e ∈ rows, 0 ≤ e.1) ∧ rows.Pairwise fun a b => a.1 % 2 ^ l ≠ b.1 % 2 ^ l
theorem RowsOk.zero {rows : List (Int × Str)} (h : RowsOk 0 rows) : rows.length ≤ 1 := by
  match rows, h with
  | [], _ => exact Nat.zero_le _
  | [_], _ => exact Nat.le_refl _
  | a :: b :: r, ⟨_, h⟩ =>
    have := (List.pairwise_cons.mp h).1 b List.mem_cons_self
    simp at this
theorem bit_mod (a : Int) (l : Nat) : a % 2 ^ (l + 1) = a % 2 ^ l + 2 ^ l * (a / 2 ^ l % 2) := by
  have hM : (0 : Int) < 2 ^ l := Int.pow_pos (by decide)
  rw [Int.pow_succ]
  generalize (2 : Int) ^ l = M at hM ⊢
  have h1 := Int.emod_nonneg a (show M ≠ 0 by omega)
  have h2 := Int.emod_lt_of_pos a hM
  have h3 := Int.mul_ediv_add_emod a M
  have h4 := Int.mul_ediv_add_emod (a / M) 2
  have h5 : a / M % 2 = 0 ∨ a / M % 2 = 1 := by omega
  have e : a = M * 2 * (a / M / 2) + (a % M + M * (a / M % 2)) := by
    rw [Int.mul_assoc, Int.add_comm (a % M), ← Int.add_assoc, ← Int.mul_add, h4, h3]
  have lo : 0 ≤ a % M + M * (a / M % 2) := by
    rcases h5 with h | h <;> rw [h] <;> omega
  have hi : a % M + M * (a / M % 2) < M * 2 := by
    rcases h5 with h | h <;> rw [h] <;> omega
  have := Int.emod_eq_of_lt lo hi
  rw [← this]
  conv => lhs; rw [e]
  rw [Int.add_comm, Int.add_mul_emod_self_left]
theorem RowsOk.part {l : Nat} {b : Int} {rows : List (Int × Str)} (h : RowsOk (l + 1) rows) : RowsOk l (rows.filter (bitK l b)) := by
  refine ⟨fun e he => h.1 e (List.mem_filter.mp he).1, ?_⟩
  rw [List.pairwise_filter]
  refine h.2.imp fun {x y} hxy hx hy e => hxy ?_
  rw [bit_mod, bit_mod, e, of_decide_eq_true hx, of_decide_eq_true hy]
theorem partT_dep : ∀ (l : Nat) (rows : List (Int × Str)), (partT l rows).dep ≤ l + 1
  | l, [] => by rw [partT_nil]; show max 0 0 + 1 ≤ _; omega
  | l, [e] => by rw [partT_one]; show max 0 0 + 1 ≤ _; omega
  | 0, _ :: _ :: _ => by show max 0 0 + 1 ≤ _; omega
  | l + 1, a :: b :: r => by
    have h1 := partT_dep l ((a :: b :: r).filter (bitK l 0))
    have h2 := partT_dep l ((a :: b :: r).filter (bitK l 1))
    show max _ _ + 1 ≤ _
    omega
/-- how many tellings -/
def costP (l n : Nat) : Nat := if n = 0 then 1 else n * (2 * l + 1)
theorem costP_split {l a b n : Nat} (h : a + b = n) (hn : 2 ≤ n) : costP l a + costP l b + 1 ≤ costP (l + 1) n := by
  subst h
  have e : (a + b) * (2 * (l + 1) + 1) = a * (2 * l + 1) + b * (2 * l + 1) + 2 * (a + b) := by
    rw [show 2 * (l + 1) + 1 = (2 * l + 1) + 2 by omega, Nat.mul_add, Nat.add_mul, Nat.mul_comm (a + b) 2]
  unfold costP
  rw [if_neg (show ¬ a + b = 0 by omega), e]
  by_cases ha : a = 0
  · subst ha
    rw [if_pos rfl, if_neg (by omega), Nat.zero_mul]
    omega
  · rw [if_neg ha]
    by_cases hb : b = 0
    · subst hb
      rw [if_pos rfl, Nat.zero_mul]
      omega
    · rw [if_neg hb]
      omega
theorem filter_split {rows : List (Int × Str)} (l : Nat) : (rows.filter (bitK l 0)).length + (rows.filter (bitK l 1)).length = rows.length := by
  induction rows with
  | nil => rfl
  | cons e r ih =>
    rw [List.filter_cons, List.filter_cons, List.length_cons]
    have h1 := Int.emod_nonneg (e.1 / 2 ^ l) (show (2 : Int) ≠ 0 by decide)
    have h2 := Int.emod_lt_of_pos (e.1 / 2 ^ l) (show (0 : Int) < 2 by decide)
    have h3 : e.1 / 2 ^ l % 2 = 0 ∨ e.1 / 2 ^ l % 2 = 1 := by omega
    rcases h3 with h | h
    · rw [show bitK l 0 e = true from decide_eq_true h, show bitK l 1 e = false from decide_eq_false (by omega)]
      simp
      omega
    · rw [show bitK l 0 e = false from decide_eq_false (by omega), show bitK l 1 e = true from decide_eq_true h]
      simp
      omega
theorem take_filter {α : Type} (p : α → Bool) (l : List α) {i : Nat} {x : α} (h : l[i]? = some x) : (l.take (i + 1)).filter p = (l.take i).filter p ++ (if p x = true then [x] else []) := by
  rw [List.take_succ, h, List.filter_append]
  congr 1
  show [x].filter p = _
  rw [List.filter_cons]
  rfl

/-! ### figures -/
theorem txt_of_tl {x : Str} (h : ∀ c ∈ TL.tl x, c < 0x110000) : txtOk x = true := by
  show x.cps.all (· < 0x110000) = true
  rw [Array.all_eq_true']
  intro c hc
  exact decide_eq_true (h c (by rw [← Array.mem_toList_iff] at hc; exact hc))
theorem txt_num (n : Nat) : txtOk (Str.ofString (toString ((n : Nat) : Int))) = true := by
  refine txt_of_tl fun c hc => ?_
  rw [TL.tl_num] at hc
  have := TL.numL_digits n c hc
  omega
theorem log_small {z : Int} (h0 : 0 ≤ z) (h : z < 2 ^ 64) : z.natAbs.log2 < 1920 := by
  obtain ⟨n, rfl⟩ := Int.eq_ofNat_of_zero_le h0
  have h1 : n < 2 ^ 64 := by omega
  rw [Int.natAbs_natCast]
  by_cases c : n = 0
  · subst c; decide
  · have := (Nat.log2_lt c).mpr h1
    omega
theorem cut_ints (ks : List Int) (lo hi : Option Int) : ∃ ks' : List Int, cutV (ks.map V.int) lo hi = ks'.map V.int ∧ (∀ k ∈ ks', k ∈ ks) ∧ ks'.length ≤ ks.length := by
  unfold cutV
  rw [List.length_map, ← List.map_drop, ← List.map_take]
  refine ⟨_, rfl, fun k hk => List.mem_of_mem_drop (List.mem_of_mem_take hk), ?_⟩
  rw [List.length_take, List.length_drop]
  omega

/-! ### split and the top, by the law's own defs -/
section
variable {P : Program} {w : World} {K : PySem.W.Frag} {mg : Str → Option Value} {base : Heap} {Fam : Sys → Prop}
/-- a def of which nothing is asked -/
def spNo : Sp := fun _ _ _ _ => False
theorem cal_no {x : Str} {st : Stmt} {ps : List Str} (D : DefX K mg x st ps) (k : Nat) : Cal P w K mg base k x spNo [] := by
  obtain ⟨f, fd, F, m, b⟩ := D.ex
  exact ⟨f, fd, ps, [], ⟨fun _ _ _ _ h => h.elim, fun _ _ _ _ _ _ _ _ _ _ _ _ _ h => h.elim⟩, m, F.kp, .all b, .nil⟩
theorem cal_mono {x : Str} {j k : Nat} {sp : Sp} {dvs : List V} (c : Cal P w K mg base j x sp dvs) (h : j ≤ k) : Cal P w K mg base k x sp dvs := by
  obtain ⟨f, fd, ps, ds, F, m, kp, b, v⟩ := c.ex
  exact ⟨f, fd, ps, ds, F.mono h, m, kp, b, v⟩
end

/-! ### the program's other seals -/
section
variable {P : Program} {w : World} {K : PySem.W.Frag} {mg : Str → Option Value} {base : Heap} {Fam : Sys → Prop}
def spMark (m : Str) (Fam : Sys → Prop) : Sp := fun vs H Q _ => ∃ (S : Sys) (va vb : V) (a b : Tm) (r : Nat), Fam S ∧ vs = [.ref S.f, va, vb] ∧ S.ok H (r + 1) ∧ S.den H va a ∧ S.den H vb b ∧ ∀ v H', Ext H H' → S.ok H' r → S.den H' v (.sl m a b) → Q v H'
end

/-! ### sorted(d), a dict of int keys, any number of them -/
section
variable {X : Cx}
theorem call_sortedDIN (hcalm : X.calm = true) : CallR X (.builtin "sorted") (fun xs H Q => ∃ (a : Addr) (kvs : List (Key × V)) (ks : List Int), xs = [.ref a] ∧ Rd H a (.dK kvs) ∧ kvs.map (·.1) = ks.map Sum.inl ∧ ks.length ≤ sizeLine ∧
    ∀ (ys : List Int) (p : Addr), ys.Perm ks → ys.Pairwise (· ≤ ·) → H p = none → Q (.ref p) (upd H p (.lst (ys.map V.int)))) := by
  intro pins s σ H xs us Q I r q
  obtain ⟨a, kvs, ks, ex, hd, hks, h64, q⟩ := q
  subst ex
  obtain ⟨u, eu, rx⟩ := vals1 r
  subst eu
  cases rx
  obtain ⟨z, lo, vs, rel, dd⟩ := dk_rd I.hok hd
  obtain ⟨ep, hat⟩ := dd.dictAt
  have hkeys : vs.map (·.1) = ks.map Sum.inl := rel.keys.symm.trans hks
  have hl : vs.length = ks.length := by
    have e := congrArg List.length hkeys
    rw [List.length_map, List.length_map] at e
    exact e
  have h16 : vs.length ≤ sizeLine := by rw [hl]; exact h64
  refine Calls.call_function_entry PyProof.Rows.kind_sorted PyProof.Rows.plain_sorted PyProof.Rows.entry_sorted (PyProof.Rows.args_sorted1 _) ?_
  unfold Builtin.«sorted»
  refine wpAny_bind (m := checkCount "sorted" 1 1 _) (wpAny_pure ?_)
  refine wpAny_bind (PySem.W.kdu_collect (A := X.A.in1) (PySem.W.kdl_dict (knd := mixKind X.prog X.w) (kvs := vs) (ep := ep) lo) (I.ok.hd hcalm) hat h16 fun h' tk acc hk hacc => ?_)
  have hal : acc.toList.length = ks.length := by rw [Array.length_toList, hacc.1, hl]
  have hS : IntsAre acc.toList ks := ints_each hal fun j v e => by
    obtain ⟨k, x, e1, e2⟩ := hacc.2 j v (by rw [← Array.getElem?_toList]; exact e)
    have e3 : (vs.map (·.1))[j]? = some k := by rw [List.getElem?_map, e1]; rfl
    rw [hkeys, List.getElem?_map] at e3
    cases e4 : ks[j]? with
    | none => rw [e4] at e3; cases e3
    | some y =>
      rw [e4] at e3
      have e5 : Sum.inl y = k := Option.some.inj e3
      subst e5
      rcases keyIs_shape (show keyIs (Sum.inl y) v = true from e2) with ⟨i, t, ek, ev⟩ | ⟨z, t, ek, ev⟩
      · cases ek
        exact ⟨y, t, rfl, ev⟩
      · cases ek
  have I1 : Inv X pins σ H { s with heap := h', toks := tk } := I.kept hk
  refine wpAny_bind (wpAny_newList ?_ (by rw [hal]; exact h64))
  have hoL : (h'.push (seqObj "list" acc.toList.toArray 0)).get? h'.objs.size = some (seqObj "list" acc.toList.toArray 0) := Heap.get?_push_size _ rfl
  show wpAny _ _ _ _ _ { s with heap := h'.push (seqObj "list" acc.toList.toArray 0), toks := tk }
  refine wpAny_bind (wpAny_holding (wpAny_call_entry PyProof.Rows.slot_list_sort ⟨_, hoL, rfl⟩ PyProof.Rows.entry_list_sort
    (SrtO.list_sort_ord (s := { s with heap := h'.push (seqObj "list" acc.toList.toArray 0), toks := tk }) SrtO.swo_int hoL (by rw [hal]; exact h64) (fun h2 => SrtO.ints_sortable hS h2) fun out h1 h2 => ⟨_, rfl, ?_⟩) (PyProof.Rows.args_list_sort _)))
  obtain ⟨g1, g2, g3⟩ := SrtO.ints_out hS h1 h2
  obtain ⟨e', he'⟩ := PyProof.Rows.sortedHeap_at (vs := acc.toList) (out := out.toArray) hoL
  have hlen : ((out.map SrtO.iv).map V.int).length ≤ sizeLine := by
    rw [List.length_map, g2.length_eq]
    exact h64
  refine wpAny_pure ⟨_, rfl, .ref h'.objs.size, upd H h'.objs.size (.lst ((out.map SrtO.iv).map V.int)), I1.laid (t' := tk) (fun b u e => ?_) (Nat.le_refl _)
    (show ObjOk X.prog X.w _ _ _ (.lst ((out.map SrtO.iv).map V.int)) from ⟨hlen, out, e', vals_of_ints g1, he'⟩), rfl, q (out.map SrtO.iv) _ g2 g3 (I1.hok.fresh (Nat.le_refl _))⟩
  have hb : b < h'.objs.size := Heap.lt_size e
  rw [PyProof.Rows.sortedHeap_old (Nat.ne_of_lt hb) (by rw [size_push']; exact Nat.lt_succ_of_lt hb)]
  exact Heap.get?_push_of_some _ e
end

section
variable {P : Program} {w : World} {K : PySem.W.Frag} {mg : Str → Option Value} {base : Heap} {Fam : Sys → Prop}
def spParted (K : PySem.W.Frag) : Sp := fun vs H Q _ => ∃ (a : Addr) (xs : List V) (rows : List (Int × Str)) (l : Nat), vs = [.ref a, .int (l : Int)] ∧ SqL K H a xs ∧ KvL H xs rows ∧ (∀ e ∈ rows, 0 ≤ e.1) ∧ rows.length ≤ 1000 ∧
  ∀ q p1 p2 ys zs H', Ext H H' → Kp H H' → H p1 = none → H p2 = none → H' q = some (.tup [.ref p1, .ref p2]) → H' p1 = some (.lst ys) → H' p2 = some (.lst zs) → KvL H' ys (rows.filter (bitK l 0)) → KvL H' zs (rows.filter (bitK l 1)) → Q (.ref q) H'
theorem ok_parted {cc : Addr} (T : Txt K mg cc) : Cal P w K mg base 1 "parted" (spParted K) [] := by
  have Z := T.Z
  refine cal_of T.d_parted sc_parted (fun vs H Q E h => ?_) (fun f cdv A' outer s H vs Q E hr h => ?_)
  · obtain ⟨a, xs, rows, l, rfl, _⟩ := h
    rfl
  obtain ⟨a, xs, rows, l, rfl, hS, hk, h0, hl, q⟩ := h
  have hxl := hk.len
  have e16 : sizeLine = 16777216 := sizeLine_eq
  refine ⟨_, (pss_cons (ps_setLc (i := 2) (own := [("row", 4)]) (g := gName 4) (tt := _) rfl sc_parted.nd rfl rfl (sw_true rfl rfl rfl (by decide +kernel)) (pi_list (pv 0)) (blkOk_by (N := N_parted) (sc := defScope s_parted) (by decide +kernel)) (fun _ _ _ _ _ => (pg_name (i := 4) sc_parted.nd rfl (Or.inl rfl))) (fun _ _ _ _ _ => (pts_one (pt_cmpR op_eq (pe_op op_odd (pe_op op_shrN (pe_ix (r := rIxT K) ix_tup (pv 4) pe_int (fun _ _ => rfl)) (pv 1)) pe_int) pe_int (nomark _)))) (fun _ _ _ _ _ => (pv 4)))
  (pss_cons (ps_setLc (i := 3) (own := [("row", 4)]) (g := gName 4) (tt := _) rfl sc_parted.nd rfl rfl (sw_true rfl rfl rfl (by decide +kernel)) (pi_list (pv 0)) (blkOk_by (N := N_parted) (sc := defScope s_parted) (by decide +kernel)) (fun _ _ _ _ _ => (pg_name (i := 4) sc_parted.nd rfl (Or.inl rfl))) (fun _ _ _ _ _ => (pts_one (pt_cmpR op_eq (pe_op op_odd (pe_op op_shrN (pe_ix (r := rIxT K) ix_tup (pv 4) pe_int (fun _ _ => rfl)) (pv 1)) pe_int) pe_int (nomark _)))) (fun _ _ _ _ _ => (pv 4)))
  (pss_one (ps_ret (pe_tup (pa_cons (pv 2) (pa_cons (pv 3) pa_nil))))))), ?_⟩
  refine ⟨_, rfl, a, rfl, ⟨_, hS⟩, fun D nD => ?_⟩
  refine lc_list (K := K) (a := a) (xs := xs) (fun i H' => ∃ ys, Ext H H' ∧ Kp H H' ∧ H' D = some (.lst ys) ∧ KvL H' ys ((rows.take i).filter (bitK l 0))) ⟨[], Ext.new nD, Kp.new nD, upd_same, KvL.nil⟩ (fun i H' _ ⟨_, x, _⟩ => x.seq hS) ?_ ?_
  · rintro i y H' hi ⟨ys, x, k, hD, hy⟩
    have hlt := (List.getElem?_eq_some_iff.mp hi).1
    have hri : rows[i]? = some (rows[i]'(by omega)) := List.getElem?_eq_getElem _
    obtain ⟨qe, rfl, hqe, hqx⟩ := (hk.gr x.gr).at_ i y _ hi hri
    have h0e := h0 _ (List.getElem_mem (show i < rows.length by omega))
    generalize rows[i]'(by omega) = e at hri hqe hqx h0e
    obtain ⟨m, hm⟩ := Int.eq_ofNat_of_zero_le (Int.ediv_nonneg h0e (Int.le_of_lt (show (0 : Int) < 2 ^ l from Int.pow_pos (by decide))))
    refine ⟨rfl, _, rfl, qe, _, 0, _, rfl, rfl, SqT.of hqe, rfl, _, rfl, _, l, rfl, rfl, m, by rw [hm], rfl, rfl, _, rfl, ite2 (fun c => ?_) (fun c => ?_)⟩
    · have c' : ((m % 2 : Nat) : Int) = 0 := V.int.inj (of_decide_eq_true c)
      have hb : bitK l 0 e = true := decide_eq_true (by rw [hm]; omega)
      refine ⟨_, rfl, ys, hD, ?_, ys ++ [.ref qe], x.mut nD, k.trans (Kp.lst hD), upd_same, ?_⟩
      · have := hy.len
        have := List.length_filter_le (bitK l 0) (rows.take i)
        rw [List.length_take] at this
        omega
      · rw [take_filter _ _ hri, hb]
        exact (hy.gr (Kp.lst hD).gr).snoc ((Kp.lst hD) _ _ hqe True.intro) hqx
    · have c' : ¬ ((m % 2 : Nat) : Int) = 0 := fun z => c (decide_eq_true (by rw [z]))
      have hb : bitK l 0 e = false := decide_eq_false (by rw [hm]; omega)
      refine ⟨ys, x, k, hD, ?_⟩
      rw [take_filter _ _ hri, hb]
      simpa using hy
  rintro H1 ⟨ys, x1, k1, hD1, hy1⟩
  rw [hxl, List.take_length] at hy1
  refine ⟨_, rfl, a, rfl, ⟨_, x1.seq hS⟩, fun D2 nD2 => ?_⟩
  refine lc_list (K := K) (a := a) (xs := xs) (fun i H' => ∃ zs, Ext H1 H' ∧ Kp H1 H' ∧ H' D2 = some (.lst zs) ∧ KvL H' zs ((rows.take i).filter (bitK l 1))) ⟨[], Ext.new nD2, Kp.new nD2, upd_same, KvL.nil⟩ (fun i H' _ ⟨_, x, _⟩ => (x1.trans x).seq hS) ?_ ?_
  · rintro i y H' hi ⟨zs, x, k, hD, hy⟩
    have hlt := (List.getElem?_eq_some_iff.mp hi).1
    have hri : rows[i]? = some (rows[i]'(by omega)) := List.getElem?_eq_getElem _
    obtain ⟨qe, rfl, hqe, hqx⟩ := (hk.gr (x1.trans x).gr).at_ i y _ hi hri
    have h0e := h0 _ (List.getElem_mem (show i < rows.length by omega))
    generalize rows[i]'(by omega) = e at hri hqe hqx h0e
    obtain ⟨m, hm⟩ := Int.eq_ofNat_of_zero_le (Int.ediv_nonneg h0e (Int.le_of_lt (show (0 : Int) < 2 ^ l from Int.pow_pos (by decide))))
    refine ⟨rfl, _, rfl, qe, _, 0, _, rfl, rfl, SqT.of hqe, rfl, _, rfl, _, l, rfl, rfl, m, by rw [hm], rfl, rfl, _, rfl, ite2 (fun c => ?_) (fun c => ?_)⟩
    · have c' : ((m % 2 : Nat) : Int) = 1 := V.int.inj (of_decide_eq_true c)
      have hb : bitK l 1 e = true := decide_eq_true (by rw [hm]; omega)
      refine ⟨_, rfl, zs, hD, ?_, zs ++ [.ref qe], x.mut nD2, k.trans (Kp.lst hD), upd_same, ?_⟩
      · have := hy.len
        have := List.length_filter_le (bitK l 1) (rows.take i)
        rw [List.length_take] at this
        omega
      · rw [take_filter _ _ hri, hb]
        exact (hy.gr (Kp.lst hD).gr).snoc ((Kp.lst hD) _ _ hqe True.intro) hqx
    · have c' : ¬ ((m % 2 : Nat) : Int) = 1 := fun z => c (decide_eq_true (by rw [z]))
      have hb : bitK l 1 e = false := decide_eq_false (by rw [hm]; omega)
      refine ⟨zs, x, k, hD, ?_⟩
      rw [take_filter _ _ hri, hb]
      simpa using hy
  rintro H2 ⟨zs, x2, k2, hD2, hy2⟩
  rw [hxl, List.take_length] at hy2
  refine ⟨_, rfl, _, rfl, by show 2 ≤ sizeLine; decide, fun p np => ?_⟩
  have u := Ext.new (o := .tup [.ref D, .ref D2]) np
  have ku := Kp.new (o := .tup [.ref D, .ref D2]) np
  exact q p D D2 ys zs _ ((x1.trans x2).trans u) ((k1.trans k2).trans ku) nD (x1.free nD2) upd_same ((x2.trans u).lst hD1) (u.lst hD2) (hy1.gr (x2.trans u).gr) (hy2.gr u.gr)
def spPart (K : PySem.W.Frag) (Fam : Sys → Prop) (k : Nat) : Sp := fun vs H Q _ => ∃ (S : Sys) (a : Addr) (xs : List V) (rows : List (Int × Str)) (l r : Nat), Fam S ∧ vs = [.ref S.f, .ref a, .int (l : Int)] ∧ SqL K H a xs ∧ KvL H xs rows ∧ RowsOk l rows ∧ rows.length ≤ 1000 ∧ (l < k ∧ l ≤ 20) ∧ S.ok H (r + costP l rows.length) ∧
  ∀ v H', Ext H H' → S.ok H' r → S.den H' v (partT l rows) → Q v H'
theorem ok_part1 {cc : Addr} {k : Nat} (T : Txt K mg cc) (A : SlA P w K mg base Fam) (C_none_seal : Cal P w K mg base 2 "none_seal" (spNone Fam) []) (C_parted : Cal P w K mg base 1 "parted" (spParted K) []) (C_part_top : Cal P w K mg base (k + 3) "part_top" (spPart K Fam k) []) : Cal P w K mg base (k + 4) "part_top" (spPart K Fam (k + 1)) [] := by
  have Z := T.Z
  refine cal_of T.d_part_top sc_part_top (fun vs H Q E h => ?_) (fun f cdv A' outer s H vs Q E hr h => ?_)
  · obtain ⟨S, a, xs, rows, l, r, _, rfl, _⟩ := h
    rfl
  obtain ⟨S, a, xs, rows, l, r, hF, rfl, hS, hk, hro, hl, hlk, hok, q⟩ := h
  have G := A.good hF
  have hxl := hk.len
  refine ⟨_, (pss_cons (ps_if (pt_cmpR op_eq (pe_callB call_len_seq rfl Z.len PySem.boot_len (pa_cons (pv 1) pa_nil)) pe_int (nomark _)) (pss_one (ps_ret (pe_c C_none_seal hr (by omega) rfl (pa_cons (pv 0) pa_nil)))) pss_nil)
  (pss_cons (ps_if (pt_cmpR op_eq (pe_callB call_len_seq rfl Z.len PySem.boot_len (pa_cons (pv 1) pa_nil)) pe_int (nomark _)) (pss_one (ps_ret (pe_sl (i := 0) A.held hr (by omega) rfl (by first | exact Or.inl rfl | exact Or.inr (Or.inl rfl) | exact Or.inr (Or.inr rfl)) (pa_cons pe_str (pa_cons (pe_ix ix_tup (pe_ix ix_list (pv 1) pe_int (fun _ _ => rfl)) pe_int (fun _ _ => rfl)) (pa_cons (pe_ix ix_tup (pe_ix ix_list (pv 1) pe_int (fun _ _ => rfl)) pe_int (fun _ _ => rfl)) pa_nil)))))) pss_nil)
  (pss_cons (ps_set (i := 3) sc_part_top.nd rfl (Or.inl rfl) (pe_c C_parted hr (by omega) rfl (pa_cons (pv 1) (pa_cons (pe_op op_sub (pv 2) pe_int) pa_nil))))
  (pss_one (ps_ret (pe_sl (i := 0) A.held hr (by omega) rfl (by first | exact Or.inl rfl | exact Or.inr (Or.inl rfl) | exact Or.inr (Or.inr rfl)) (pa_cons pe_str (pa_cons (pe_c C_part_top hr (by omega) rfl (pa_cons (pv 0) (pa_cons (pe_ix ix_tup (pv 3) pe_int (fun _ _ => rfl)) (pa_cons (pe_op op_sub (pv 2) pe_int) pa_nil)))) (pa_cons (pe_c C_part_top hr (by omega) rfl (pa_cons (pv 0) (pa_cons (pe_ix ix_tup (pv 3) pe_int (fun _ _ => rfl)) (pa_cons (pe_op op_sub (pv 2) pe_int) pa_nil)))) pa_nil))))))))), ?_⟩
  refine ⟨_, rfl, a, xs, rfl, .inl hS, rfl, _, rfl, ite2 (fun c => ?_) (fun c => ?_)⟩
  · have c' : (xs.length : Int) = 0 := V.int.inj (of_decide_eq_true c)
    have e : rows = [] := List.eq_nil_of_length_eq_zero (by omega)
    subst e
    refine ⟨_, rfl, S, r, hF, rfl, hok, fun v H' x ok d => q v H' x ok ?_⟩
    rw [partT_nil]
    exact d
  have n0 : xs.length ≠ 0 := fun z => c (decide_eq_true (by rw [z] <;> rfl))
  have cpos : costP l rows.length = rows.length * (2 * l + 1) := if_neg (by omega)
  refine ⟨_, rfl, a, xs, rfl, .inl hS, rfl, _, rfl, ite2 (fun c => ?_) (fun c => ?_)⟩
  · have c' : (xs.length : Int) = 1 := V.int.inj (of_decide_eq_true c)
    match rows, hk, hxl, q, cpos, hok with
    | [e], hk, hxl, q, cpos, hok =>
      obtain ⟨v0, hv0⟩ : ∃ v0, xs[0]? = some v0 := ⟨xs[0]'(by omega), List.getElem?_eq_getElem _⟩
      obtain ⟨qe, rfl, hqe, hqx⟩ := hk.at_ 0 v0 e hv0 rfl
      have h1 : 1 ≤ costP l ([e] : List (Int × Str)).length := by rw [cpos]; show 1 ≤ 1 * _; omega
      refine ⟨S, _, hF, rfl, hok, _, rfl, a, xs, 0, _, rfl, rfl, hS, atI_nat hv0, qe, _, 0, _, rfl, rfl, SqT.of hqe, rfl, _, rfl, a, xs, 0, _, rfl, rfl, hS, atI_nat hv0, qe, _, 1, _, rfl, rfl, SqT.of hqe, rfl, r, "row", .int e.1, .str e.2, _, _, rfl, by decide +kernel, G.less hok (by omega), G.int _ hok, G.str _ hok hqx, fun v H' x ok d => q v H' x ok ?_⟩
      rw [partT_one]
      exact d
    | [], _, hxl, _, _, _ => exact absurd hxl n0
    | _ :: _ :: _, _, hxl, _, _, _ => simp at hxl; omega
  have n1 : xs.length ≠ 1 := fun z => c (decide_eq_true (by rw [z] <;> rfl))
  have h2 : 2 ≤ rows.length := by omega
  obtain ⟨l', rfl⟩ : ∃ l', l = l' + 1 := by
    cases l with
    | zero => have := hro.zero; omega
    | succ l' => exact ⟨l', rfl⟩
  have el : ((l' + 1 : Nat) : Int) - 1 = (l' : Int) := by omega
  have hsp := filter_split (rows := rows) l'
  have hcs := costP_split (l := l') hsp h2
  refine ⟨_, rfl, _, rfl, _, 1, rfl, rfl, a, xs, rows, l', by rw [← el]; rfl, hS, hk, hro.1, hl, fun qb p1 p2 ys zs H1 x1 k1 _ _ hqb hp1 hp2 hy hz => ?_⟩
  have ok1 := G.keep k1 hok
  have lf1 := List.length_filter_le (bitK l' 0) rows
  have lf2 := List.length_filter_le (bitK l' 1) rows
  refine ⟨S, _, hF, rfl, ok1, _, rfl, _, rfl, qb, _, 0, .ref p1, rfl, rfl, SqT.of hqb, rfl, _, rfl, _, 1, rfl, rfl, S, p1, ys, rows.filter (bitK l' 0), l', r + 1 + costP l' (rows.filter (bitK l' 1)).length, hF, by rw [← el]; rfl, SqL.of hp1, hy, hro.part, by omega, by omega, G.less ok1 (by omega), fun v1 H2 x2 ok2 d1 => ?_⟩
  refine ⟨_, rfl, _, rfl, qb, _, 1, .ref p2, rfl, rfl, SqT.of (x2.tup hqb), rfl, _, rfl, _, 1, rfl, rfl, S, p2, zs, rows.filter (bitK l' 1), l', r + 1, hF, by rw [← el]; rfl, SqL.of (x2.lst hp2), hz.gr x2.gr, hro.part, by omega, by omega, G.less ok2 (by omega), fun v2 H3 x3 ok3 d2 => ?_⟩
  refine ⟨r, "fork", _, _, v1, v2, rfl, by decide +kernel, ok3, G.mono x3.gr d1, d2, fun v H4 x4 ok4 d4 => q v H4 (((x1.trans x2).trans x3).trans x4) ok4 ?_⟩
  rw [partT_more h2]
  exact d4
theorem ok_part {cc : Addr} (T : Txt K mg cc) (A : SlA P w K mg base Fam) (C_none_seal : Cal P w K mg base 2 "none_seal" (spNone Fam) []) (C_parted : Cal P w K mg base 1 "parted" (spParted K) []) : ∀ k : Nat, Cal P w K mg base (k + 3) "part_top" (spPart K Fam k) []
  | 0 => by
    obtain ⟨f, fd, ps, ds, F, m, kp, b, v⟩ := (cal_no (P := P) (w := w) (base := base) T.d_part_top 3).ex
    exact ⟨f, fd, ps, ds, F.imp fun vs H Q E h => by obtain ⟨_, _, _, _, _, _, _, _, _, _, _, _, z, _⟩ := h; exact absurd z.1 (Nat.not_lt_zero _), m, kp, b, v⟩
  | k + 1 => ok_part1 T A C_none_seal C_parted (ok_part T A C_none_seal C_parted k)
end

section
variable {P : Program} {w : World} {K : PySem.W.Frag} {mg : Str → Option Value} {base : Heap} {Fam : Sys → Prop}
theorem ok_lawpart1 {cc : Addr} {k : Nat} (T : Txt K mg cc) (A : SlA P w K mg base Fam) (C__law_part : Cal P w K mg base (k + 2) "_law_part" (spPart K Fam k) []) : Cal P w K mg base (k + 3) "_law_part" (spPart K Fam (k + 1)) [] := by
  have Z := T.Z
  refine cal_of T.d__law_part sc__law_part (fun vs H Q E h => ?_) (fun f cdv A' outer s H vs Q E hr h => ?_)
  · obtain ⟨S, a, xs, rows, l, r, _, rfl, _⟩ := h
    rfl
  obtain ⟨S, a, xs, rows, l, r, hF, rfl, hS, hk, hro, hl, hlk, hok, q⟩ := h
  have G := A.good hF
  have hxl := hk.len
  have e16 : sizeLine = 16777216 := sizeLine_eq
  have hkk : k ≤ 1000 := by
    have := hr.dp
    have e0 : recursionLimit = 1000 := rfl
    omega
  refine ⟨_, (pss_cons (ps_if (pt_cmpR op_eq (pe_callB call_len_seq rfl Z.len PySem.boot_len (pa_cons (pv 1) pa_nil)) pe_int (nomark _)) (pss_one (ps_ret (pe_sl (i := 0) A.held hr (by omega) rfl (by first | exact Or.inl rfl | exact Or.inr (Or.inl rfl) | exact Or.inr (Or.inr rfl)) (pa_cons pe_str (pa_cons pe_int (pa_cons pe_int pa_nil)))))) pss_nil)
  (pss_cons (ps_if (pt_cmpR op_eq (pe_callB call_len_seq rfl Z.len PySem.boot_len (pa_cons (pv 1) pa_nil)) pe_int (nomark _)) (pss_one (ps_ret (pe_sl (i := 0) A.held hr (by omega) rfl (by first | exact Or.inl rfl | exact Or.inr (Or.inl rfl) | exact Or.inr (Or.inr rfl)) (pa_cons pe_str (pa_cons (pe_ix ix_tup (pe_ix ix_list (pv 1) pe_int (fun _ _ => rfl)) pe_int (fun _ _ => rfl)) (pa_cons (pe_ix ix_tup (pe_ix ix_list (pv 1) pe_int (fun _ _ => rfl)) pe_int (fun _ _ => rfl)) pa_nil)))))) pss_nil)
  (pss_cons (ps_set (i := 3) sc__law_part.nd rfl (Or.inr rfl) (pe_op op_oneShl pe_int (pe_op op_sub (pv 2) pe_int)))
  (pss_cons (ps_setLc (i := 4) (own := [("_law_row", 6)]) (g := gName 6) (tt := _) rfl sc__law_part.nd rfl rfl (sw_true rfl rfl rfl (by decide +kernel)) (pi_list (pv 1)) (blkOk_by (N := N__law_part) (sc := defScope s__law_part) (by decide +kernel)) (fun _ _ _ _ _ => (pg_name (i := 6) sc__law_part.nd rfl (Or.inl rfl))) (fun _ _ _ _ _ => (pts_one (pt_cmpR op_eq (pe_op op_mod (pe_op op_fdiv (pe_ix (r := rIxT K) ix_tup (pv 6) pe_int (fun _ _ => rfl)) (pv 3)) pe_int) pe_int (nomark _)))) (fun _ _ _ _ _ => (pv 6)))
  (pss_cons (ps_setLc (i := 5) (own := [("_law_row", 6)]) (g := gName 6) (tt := _) rfl sc__law_part.nd rfl rfl (sw_true rfl rfl rfl (by decide +kernel)) (pi_list (pv 1)) (blkOk_by (N := N__law_part) (sc := defScope s__law_part) (by decide +kernel)) (fun _ _ _ _ _ => (pg_name (i := 6) sc__law_part.nd rfl (Or.inl rfl))) (fun _ _ _ _ _ => (pts_one (pt_cmpR op_eq (pe_op op_mod (pe_op op_fdiv (pe_ix (r := rIxT K) ix_tup (pv 6) pe_int (fun _ _ => rfl)) (pv 3)) pe_int) pe_int (nomark _)))) (fun _ _ _ _ _ => (pv 6)))
  (pss_one (ps_ret (pe_sl (i := 0) A.held hr (by omega) rfl (by first | exact Or.inl rfl | exact Or.inr (Or.inl rfl) | exact Or.inr (Or.inr rfl)) (pa_cons pe_str (pa_cons (pe_c C__law_part hr (by omega) rfl (pa_cons (pv 0) (pa_cons (pv 4) (pa_cons (pe_op op_sub (pv 2) pe_int) pa_nil)))) (pa_cons (pe_c C__law_part hr (by omega) rfl (pa_cons (pv 0) (pa_cons (pv 5) (pa_cons (pe_op op_sub (pv 2) pe_int) pa_nil)))) pa_nil))))))))))), ?_⟩
  refine ⟨_, rfl, a, xs, rfl, .inl hS, rfl, _, rfl, ite2 (fun c => ?_) (fun c => ?_)⟩
  · have c' : (xs.length : Int) = 0 := V.int.inj (of_decide_eq_true c)
    have e : rows = [] := List.eq_nil_of_length_eq_zero (by omega)
    subst e
    refine ⟨S, _, hF, rfl, hok, r, "none", .int 0, .int 0, _, _, rfl, by decide +kernel, hok, G.int 0 hok, G.int 0 hok, fun v H' x ok d => q v H' x ok ?_⟩
    rw [partT_nil]
    exact d
  have n0 : xs.length ≠ 0 := fun z => c (decide_eq_true (by rw [z] <;> rfl))
  have cpos : costP l rows.length = rows.length * (2 * l + 1) := if_neg (by omega)
  refine ⟨_, rfl, a, xs, rfl, .inl hS, rfl, _, rfl, ite2 (fun c => ?_) (fun c => ?_)⟩
  · have c' : (xs.length : Int) = 1 := V.int.inj (of_decide_eq_true c)
    match rows, hk, hxl, q, cpos, hok with
    | [e], hk, hxl, q, cpos, hok =>
      obtain ⟨v0, hv0⟩ : ∃ v0, xs[0]? = some v0 := ⟨xs[0]'(by omega), List.getElem?_eq_getElem _⟩
      obtain ⟨qe, rfl, hqe, hqx⟩ := hk.at_ 0 v0 e hv0 rfl
      have h1 : 1 ≤ costP l ([e] : List (Int × Str)).length := by rw [cpos]; show 1 ≤ 1 * _; omega
      refine ⟨S, _, hF, rfl, hok, _, rfl, a, xs, 0, _, rfl, rfl, hS, atI_nat hv0, qe, _, 0, _, rfl, rfl, SqT.of hqe, rfl, _, rfl, a, xs, 0, _, rfl, rfl, hS, atI_nat hv0, qe, _, 1, _, rfl, rfl, SqT.of hqe, rfl, r, "row", .int e.1, .str e.2, _, _, rfl, by decide +kernel, G.less hok (by omega), G.int _ hok, G.str _ hok hqx, fun v H' x ok d => q v H' x ok ?_⟩
      rw [partT_one]
      exact d
    | [], _, hxl, _, _, _ => exact absurd hxl n0
    | _ :: _ :: _, _, hxl, _, _, _ => simp at hxl; omega
  have n1 : xs.length ≠ 1 := fun z => c (decide_eq_true (by rw [z] <;> rfl))
  have h2 : 2 ≤ rows.length := by omega
  obtain ⟨l', rfl⟩ : ∃ l', l = l' + 1 := by
    cases l with
    | zero => have := hro.zero; omega
    | succ l' => exact ⟨l', rfl⟩
  have el : ((l' + 1 : Nat) : Int) - 1 = (l' : Int) := by omega
  have hsp := filter_split (rows := rows) l'
  have hcs := costP_split (l := l') hsp h2
  have hM : (0 : Int) < 2 ^ l' := Int.pow_pos (by decide)
  have hM2 : (2 : Int) ^ l' < 1073741824 := by
    have h1 : 2 ^ l' ≤ 2 ^ 20 := Nat.pow_le_pow_right (by decide) (by omega)
    have h2 : ((2 ^ l' : Nat) : Int) = 2 ^ l' := by rw [Int.natCast_pow]; rfl
    have h3 : (2 : Nat) ^ 20 = 1048576 := rfl
    omega
  refine ⟨_, rfl, _, 1, rfl, rfl, l', rfl, by rw [← el], by omega, ?_⟩
  -- the two parts
  refine ⟨_, rfl, a, rfl, ⟨_, hS⟩, fun D nD => ?_⟩
  refine lc_list (K := K) (a := a) (xs := xs) (fun i H' => ∃ ys, Ext H H' ∧ Kp H H' ∧ H' D = some (.lst ys) ∧ KvL H' ys ((rows.take i).filter (bitK l' 0))) ⟨[], Ext.new nD, Kp.new nD, upd_same, KvL.nil⟩ (fun i H' _ ⟨_, x, _⟩ => x.seq hS) ?_ ?_
  · rintro i y H' hi ⟨ys, x, k, hD, hy⟩
    have hlt := (List.getElem?_eq_some_iff.mp hi).1
    have hri : rows[i]? = some (rows[i]'(by omega)) := List.getElem?_eq_getElem _
    obtain ⟨qe, rfl, hqe, hqx⟩ := (hk.gr x.gr).at_ i y _ hi hri
    generalize rows[i]'(by omega) = e at hri hqe hqx
    refine ⟨rfl, _, rfl, qe, _, 0, _, rfl, rfl, SqT.of hqe, rfl, _, rfl, _, _, rfl, rfl, ⟨hM, hM2⟩, _, 2, rfl, rfl, by show (0 : Int) < 2; decide, rfl, _, rfl, ite2 (fun c => ?_) (fun c => ?_)⟩
    · have c' : e.1 / 2 ^ l' % 2 = 0 := V.int.inj (of_decide_eq_true c)
      have hb : bitK l' 0 e = true := decide_eq_true c'
      refine ⟨_, rfl, ys, hD, ?_, ys ++ [.ref qe], x.mut nD, k.trans (Kp.lst hD), upd_same, ?_⟩
      · have := hy.len
        have := List.length_filter_le (bitK l' 0) (rows.take i)
        rw [List.length_take] at this
        omega
      · rw [take_filter _ _ hri, hb]
        exact (hy.gr (Kp.lst hD).gr).snoc ((Kp.lst hD) _ _ hqe True.intro) hqx
    · have c' : ¬ e.1 / 2 ^ l' % 2 = 0 := fun z => c (decide_eq_true (congrArg V.int z))
      have hb : bitK l' 0 e = false := decide_eq_false c'
      refine ⟨ys, x, k, hD, ?_⟩
      rw [take_filter _ _ hri, hb]
      simpa using hy
  rintro H1 ⟨ys, x1, k1, hD1, hy1⟩
  rw [hxl, List.take_length] at hy1
  refine ⟨_, rfl, a, rfl, ⟨_, x1.seq hS⟩, fun D2 nD2 => ?_⟩
  refine lc_list (K := K) (a := a) (xs := xs) (fun i H' => ∃ zs, Ext H1 H' ∧ Kp H1 H' ∧ H' D2 = some (.lst zs) ∧ KvL H' zs ((rows.take i).filter (bitK l' 1))) ⟨[], Ext.new nD2, Kp.new nD2, upd_same, KvL.nil⟩ (fun i H' _ ⟨_, x, _⟩ => (x1.trans x).seq hS) ?_ ?_
  · rintro i y H' hi ⟨zs, x, k, hD, hy⟩
    have hlt := (List.getElem?_eq_some_iff.mp hi).1
    have hri : rows[i]? = some (rows[i]'(by omega)) := List.getElem?_eq_getElem _
    obtain ⟨qe, rfl, hqe, hqx⟩ := (hk.gr (x1.trans x).gr).at_ i y _ hi hri
    generalize rows[i]'(by omega) = e at hri hqe hqx
    refine ⟨rfl, _, rfl, qe, _, 0, _, rfl, rfl, SqT.of hqe, rfl, _, rfl, _, _, rfl, rfl, ⟨hM, hM2⟩, _, 2, rfl, rfl, by show (0 : Int) < 2; decide, rfl, _, rfl, ite2 (fun c => ?_) (fun c => ?_)⟩
    · have c' : e.1 / 2 ^ l' % 2 = 1 := V.int.inj (of_decide_eq_true c)
      have hb : bitK l' 1 e = true := decide_eq_true c'
      refine ⟨_, rfl, zs, hD, ?_, zs ++ [.ref qe], x.mut nD2, k.trans (Kp.lst hD), upd_same, ?_⟩
      · have := hy.len
        have := List.length_filter_le (bitK l' 1) (rows.take i)
        rw [List.length_take] at this
        omega
      · rw [take_filter _ _ hri, hb]
        exact (hy.gr (Kp.lst hD).gr).snoc ((Kp.lst hD) _ _ hqe True.intro) hqx
    · have c' : ¬ e.1 / 2 ^ l' % 2 = 1 := fun z => c (decide_eq_true (congrArg V.int z))
      have hb : bitK l' 1 e = false := decide_eq_false c'
      refine ⟨zs, x, k, hD, ?_⟩
      rw [take_filter _ _ hri, hb]
      simpa using hy
  rintro H2 ⟨zs, x2, k2, hD2, hy2⟩
  rw [hxl, List.take_length] at hy2
  have ok2 := G.keep (k1.trans k2) hok
  have lf1 := List.length_filter_le (bitK l' 0) rows
  have lf2 := List.length_filter_le (bitK l' 1) rows
  refine ⟨S, _, hF, rfl, ok2, _, rfl, _, rfl, _, rfl, _, 1, rfl, rfl, S, D, ys, rows.filter (bitK l' 0), l', r + 1 + costP l' (rows.filter (bitK l' 1)).length, hF, by rw [← el]; rfl, SqL.of (x2.lst hD1), hy1.gr x2.gr, hro.part, by omega, by omega, G.less ok2 (by omega), fun v1 H3 x3 ok3 d1 => ?_⟩
  refine ⟨_, rfl, _, rfl, _, rfl, _, 1, rfl, rfl, S, D2, zs, rows.filter (bitK l' 1), l', r + 1, hF, by rw [← el]; rfl, SqL.of (x3.lst hD2), hy2.gr x3.gr, hro.part, by omega, by omega, G.less ok3 (by omega), fun v2 H4 x4 ok4 d2 => ?_⟩
  refine ⟨r, "fork", _, _, v1, v2, rfl, by decide +kernel, ok4, G.mono x4.gr d1, d2, fun v H5 x5 ok5 d5 => q v H5 ((((x1.trans x2).trans x3).trans x4).trans x5) ok5 ?_⟩
  rw [partT_more h2]
  exact d5
theorem ok_lawpart {cc : Addr} (T : Txt K mg cc) (A : SlA P w K mg base Fam) : ∀ k : Nat, Cal P w K mg base (k + 2) "_law_part" (spPart K Fam k) []
  | 0 => by
    obtain ⟨f, fd, ps, ds, F, m, kp, b, v⟩ := (cal_no (P := P) (w := w) (base := base) T.d__law_part 2).ex
    exact ⟨f, fd, ps, ds, F.imp fun vs H Q E h => by obtain ⟨_, _, _, _, _, _, _, _, _, _, _, _, z, _⟩ := h; exact absurd z.1 (Nat.not_lt_zero _), m, kp, b, v⟩
  | k + 1 => ok_lawpart1 T A (ok_lawpart T A k)
end

/-! ### a table: its dict as a row of pairs -/
def convT (kvs : List (Int × Str)) : List (Key × V) := kvs.map fun e => ((Sum.inl e.1 : Key), V.str e.2)
def putI (kvs : List (Int × Str)) (k : Int) (x : Str) : List (Int × Str) := if (kvs.any fun e => decide (e.1 = k)) = true then kvs.map (fun e => if e.1 = k then (e.1, x) else e) else kvs ++ [(k, x)]
def popI (kvs : List (Int × Str)) (k : Int) : List (Int × Str) := kvs.filter fun e => decide (e.1 ≠ k)
def getI (kvs : List (Int × Str)) (k : Int) : Option Str := (kvs.find? fun e => decide (e.1 = k)).map (·.2)
theorem inl_iff (a k : Int) : ((Sum.inl a : Key) = Sum.inl k) ↔ a = k := ⟨Sum.inl.inj, fun h => by rw [h]⟩
theorem conv_put (kvs : List (Int × Str)) (k : Int) (x : Str) : putK (convT kvs) (.inl k) (.str x) = convT (putI kvs k x) := by
  unfold putK putI convT
  rw [List.any_map]
  have e : ((fun kv : Key × V => decide (kv.1 = (Sum.inl k : Key))) ∘ fun e : Int × Str => ((Sum.inl e.1 : Key), V.str e.2)) = fun e : Int × Str => decide (e.1 = k) := by
    funext e
    exact decide_eq_decide.mpr (inl_iff _ _)
  rw [e]
  by_cases h : (kvs.any fun e => decide (e.1 = k)) = true
  · rw [if_pos h, if_pos h, List.map_map, List.map_map]
    refine List.map_congr_left fun e _ => ?_
    show (if (Sum.inl e.1 : Key) = Sum.inl k then _ else _) = _
    by_cases q : e.1 = k
    · rw [if_pos (by rw [q])]
      show _ = (fun e : Int × Str => ((Sum.inl e.1 : Key), V.str e.2)) (if e.1 = k then (e.1, x) else e)
      rw [if_pos q]
    · rw [if_neg (fun z => q (Sum.inl.inj z))]
      show _ = (fun e : Int × Str => ((Sum.inl e.1 : Key), V.str e.2)) (if e.1 = k then (e.1, x) else e)
      rw [if_neg q]
  · rw [if_neg h, if_neg h, List.map_append]
    rfl
theorem conv_pop (kvs : List (Int × Str)) (k : Int) : dropK (convT kvs) (.inl k) = convT (popI kvs k) := by
  unfold dropK popI convT
  rw [List.filter_map]
  congr 1
  refine List.filter_congr fun e _ => ?_
  exact decide_eq_decide.mpr (not_congr (inl_iff _ _))
theorem conv_get (kvs : List (Int × Str)) (k : Int) : valV (convT kvs) (.inl k) = (getI kvs k).map V.str := by
  unfold valV getI convT
  rw [List.find?_map]
  have e : ((fun kv : Key × V => decide (kv.1 = (Sum.inl k : Key))) ∘ fun e : Int × Str => ((Sum.inl e.1 : Key), V.str e.2)) = fun e : Int × Str => decide (e.1 = k) := by
    funext e
    exact decide_eq_decide.mpr (inl_iff _ _)
  rw [e, Option.map_map, Option.map_map]
  rfl
def tbF (f : Addr) (depth : Int) (d : Addr) : List (Str × V) := [("seal", .ref f), ("depth", .int depth), ("held", .ref d)]
theorem tbF_seal (f : Addr) (n : Int) (d : Addr) : (tbF f n d).lookup ("seal" : Str) = some (.ref f) := by kernel_rfl
theorem tbF_depth (f : Addr) (n : Int) (d : Addr) : (tbF f n d).lookup ("depth" : Str) = some (.int n) := by kernel_rfl
theorem tbF_held (f : Addr) (n : Int) (d : Addr) : (tbF f n d).lookup ("held" : Str) = some (.ref d) := by kernel_rfl
theorem tbF_mk (f : Addr) (n : Int) (d : Addr) : putF "held" (.ref d) (putF "depth" (.int n) (putF "seal" (.ref f) [])) = tbF f n d := by kernel_rfl
theorem tbF_no (f : Addr) (n : Int) (d : Addr) : (tbF f n d).lookup ("asked" : Str) = none ∧ (tbF f n d).lookup ("put" : Str) = none ∧ (tbF f n d).lookup ("cut" : Str) = none ∧ (tbF f n d).lookup ("value" : Str) = none ∧ (tbF f n d).lookup ("rows" : Str) = none ∧ (tbF f n d).lookup ("head" : Str) = none ∧ (tbF f n d).lookup ("way" : Str) = none ∧ (tbF f n d).lookup ("twin" : Str) = none :=
  ⟨by kernel_rfl, by kernel_rfl, by kernel_rfl, by kernel_rfl, by kernel_rfl, by kernel_rfl, by kernel_rfl, by kernel_rfl⟩
section
variable {P : Program} {w : World} {K : PySem.W.Frag} {mg : Str → Option Value} {base : Heap} {C : Addr}
def spAsked (mg : Str → Option Value) (C : Addr) : Sp := fun vs H Q E => ∃ (f p dx d : Addr) (l : Nat) (k : Int), vs = [.ref p, .int k] ∧ H p = some (.ins C dx (tbF f (l : Int) d)) ∧ l ≤ 1000 ∧
  (0 ≤ k ∧ k < 2 ^ l → Q .non H) ∧ (¬ (0 ≤ k ∧ k < 2 ^ l) → ∀ D, mg "NoPlace" = some (.ref D) → E (.ref D) none H)
theorem ok_askedN {cc : Addr} (T : Txt K mg cc) (KT : K_Table K mg C) : MetN P w K mg base 1 C "asked" (spAsked mg C) := by
  obtain ⟨C_NoPlace, g_NoPlace, F_NoPlace⟩ := T.x_NoPlace.ex
  refine metN_of KT.cl KT.m_asked sc_Table_asked (fun vs H Q E h => ?_) (fun f cdv A' outer s H vs Q E hr h => ?_)
  · obtain ⟨f, p, dx, d, l, k, rfl, _⟩ := h
    rfl
  obtain ⟨f, p, dx, d, l, k, rfl, hp, hl, q1, q2⟩ := h
  refine ⟨_, (pss_one (ps_if (pt_not (pt_chain op_le op_lt pe_int (pv 1) (pe_op op_oneShl pe_int (pe_fld (pv 0) rfl)))) (pss_one (ps_raiseXN F_NoPlace g_NoPlace rfl (L2N.takes_of rfl rfl rfl rfl) rfl)) pss_nil)), ?_⟩
  refine ⟨_, rfl, _, _, rfl, rfl, _, rfl, ite2 (fun c => ?_) (fun c => ?_)⟩
  · have c' : (0 : Int) ≤ k := of_decide_eq_true c
    refine ⟨_, rfl, p, C, dx, _, _, rfl, hp, KT.cl, KT.n_depth, tbF_depth _ _ _, l, rfl, rfl, by omega, _, _, rfl, rfl, _, rfl, ?_⟩
    by_cases c2 : k < 2 ^ l
    · rw [decide_eq_true c2]
      exact iteF (q1 ⟨c', c2⟩)
    · rw [decide_eq_false c2]
      exact iteT (q2 (fun z => c2 z.2) _ g_NoPlace)
  · have c' : ¬ (0 : Int) ≤ k := of_decide_eq_false (Bool.eq_false_iff.mpr c)
    exact ⟨_, rfl, iteT (q2 (fun z => c' z.1) _ g_NoPlace)⟩
theorem ok_asked {cc : Addr} (T : Txt K mg cc) (KT : K_Table K mg C) : MetR P w K mg base 1 C "asked" (spAsked mg C) := (ok_askedN T KT).weak
theorem ExtO.dict {d : Addr} {H : Hp} {kvs : List (Key × V)} {o : HO} (h : H d = some (.dK kvs)) : ExtO d H (upd H d o) := by
  refine ⟨fun a u q e _ => by rw [upd_ne q]; exact e, fun a ks e => ⟨[], ?_⟩, (Kp.dK h).gr⟩
  rw [List.append_nil, upd_ne]
  · exact e
  · rintro rfl
    rw [h] at e
    cases e
structure TbAt (C : Addr) (f : Addr) (H : Hp) (p d : Addr) (l : Nat) (kvs : List (Int × Str)) : Prop where
  at_ : ∃ dx, H p = some (.ins C dx (tbF f (l : Int) d))
  held : H d = some (.dK (convT kvs))
  small : kvs.length ≤ 1000 ∧ l ≤ 1000
def spPut (mg : Str → Option Value) (C : Addr) : Sp := fun vs H Q E => ∃ (f p d : Addr) (l : Nat) (kvs : List (Int × Str)) (k : Int) (x : Str), vs = [.ref p, .int k, .str x] ∧ TbAt C f H p d l kvs ∧
  (0 ≤ k ∧ k < 2 ^ l → Q .non (upd H d (.dK (convT (putI kvs k x))))) ∧ (¬ (0 ≤ k ∧ k < 2 ^ l) → ∀ D, mg "NoPlace" = some (.ref D) → E (.ref D) none H)
theorem ok_putN {cc : Addr} (T : Txt K mg cc) (KT : K_Table K mg C) : MetN P w K mg base 2 C "put" (spPut mg C) := by
  have M_asked := ok_askedN (P := P) (w := w) (base := base) T KT
  refine metN_of KT.cl KT.m_put sc_Table_put (fun vs H Q E h => ?_) (fun f cdv A' outer s H vs Q E hr h => ?_)
  · obtain ⟨f, p, d, l, kvs, k, x, rfl, _⟩ := h
    rfl
  obtain ⟨f', p, d, l, kvs, k, x, rfl, ⟨⟨dx, hp⟩, hd, hz, hl⟩, q1, q2⟩ := h
  have hu := hu_of hr
  refine ⟨_, (pss_cons (ps_expr (pe_mtn M_asked (L2N.takes_of rfl rfl rfl rfl) hr (by omega) (pv 0) (pa_cons (pv 1) pa_nil)))
  (pss_one (ps_dput hu (pe_fld (pv 0) rfl) (pv 1) (pv 2) rfl))), ?_⟩
  refine ⟨_, rfl, p, dx, _, rfl, hp, (tbF_no _ _ _).1, _, rfl, f', p, dx, d, l, k, rfl, hp, hl, fun hk => ?_, fun hk D hD => q2 hk D hD⟩
  refine ⟨_, rfl, _, rfl, p, C, dx, _, _, rfl, hp, KT.cl, KT.n_held, tbF_held _ _ _, _, rfl, d, _, rfl, DPut.k (k := .inl k) hd (by unfold convT; rw [List.length_map, sizeLine_eq]; omega), ?_⟩
  rw [conv_put]
  exact q1 hk
theorem ok_put {cc : Addr} (T : Txt K mg cc) (KT : K_Table K mg C) : MetR P w K mg base 2 C "put" (spPut mg C) := (ok_putN T KT).weak
def spValue (mg : Str → Option Value) (C : Addr) : Sp := fun vs H Q E => ∃ (f p d : Addr) (l : Nat) (kvs : List (Int × Str)) (k : Int), vs = [.ref p, .int k] ∧ TbAt C f H p d l kvs ∧
  (0 ≤ k ∧ k < 2 ^ l → Q (((getI kvs k).map V.str).getD .non) H) ∧ (¬ (0 ≤ k ∧ k < 2 ^ l) → ∀ D, mg "NoPlace" = some (.ref D) → E (.ref D) none H)
theorem ok_value {cc : Addr} (T : Txt K mg cc) (KT : K_Table K mg C) : MetR P w K mg base 2 C "value" (spValue mg C) := by
  have M_asked := ok_asked (P := P) (w := w) (base := base) T KT
  refine metR_of KT.cl KT.m_value sc_Table_value (fun vs H Q E h => ?_) (fun f cdv A' outer s H vs Q E hr h => ?_)
  · obtain ⟨f, p, d, l, kvs, k, rfl, _⟩ := h
    rfl
  obtain ⟨f', p, d, l, kvs, k, rfl, ⟨⟨dx, hp⟩, hd, hz, hl⟩, q1, q2⟩ := h
  have hu := hu_of hr
  refine ⟨_, (pss_cons (ps_expr (pe_mtx M_asked (takes_of rfl rfl rfl rfl) hr (by omega) (pv 0) (pa_cons (pv 1) pa_nil)))
  (pss_one (ps_ret (pe_dget1 hu (pe_fld (pv 0) rfl) (pv 1) ⟨rfl, rfl, rfl, rfl⟩)))), ?_⟩
  refine ⟨_, rfl, p, dx, _, rfl, hp, (tbF_no _ _ _).1, _, rfl, f', p, dx, d, l, k, rfl, hp, hl, fun hk => ?_, fun hk D hD => q2 hk D hD⟩
  refine ⟨_, rfl, p, C, dx, _, _, rfl, hp, KT.cl, KT.n_held, tbF_held _ _ _, d, rfl, .inl ⟨_, .inl hd⟩, _, rfl, _, DGet.k (k := .inl k) hd, ?_⟩
  rw [conv_get]
  exact q1 hk
end

section
variable {P : Program} {w : World} {K : PySem.W.Frag} {mg : Str → Option Value} {base : Heap} {C : Addr}
def spCut (mg : Str → Option Value) (C : Addr) : Sp := fun vs H Q E => ∃ (f p d : Addr) (l : Nat) (kvs : List (Int × Str)) (k : Int), vs = [.ref p, .int k] ∧ TbAt C f H p d l kvs ∧
  (0 ≤ k ∧ k < 2 ^ l ∧ (getI kvs k).isSome = true → Q .non (upd H d (.dK (convT (popI kvs k))))) ∧ (¬ (0 ≤ k ∧ k < 2 ^ l ∧ (getI kvs k).isSome = true) → ∀ D, mg "NoPlace" = some (.ref D) → E (.ref D) none H)
theorem ok_cutN {cc : Addr} (T : Txt K mg cc) (KT : K_Table K mg C) : MetN P w K mg base 2 C "cut" (spCut mg C) := by
  obtain ⟨C_NoPlace, g_NoPlace, F_NoPlace⟩ := T.x_NoPlace.ex
  have M_asked := ok_askedN (P := P) (w := w) (base := base) T KT
  refine metN_of KT.cl KT.m_cut sc_Table_cut (fun vs H Q E h => ?_) (fun f cdv A' outer s H vs Q E hr h => ?_)
  · obtain ⟨f, p, d, l, kvs, k, rfl, _⟩ := h
    rfl
  obtain ⟨f', p, d, l, kvs, k, rfl, ⟨⟨dx, hp⟩, hd, hz, hl⟩, q1, q2⟩ := h
  have hu := hu_of hr
  refine ⟨_, (pss_cons (ps_expr (pe_mtn M_asked (L2N.takes_of rfl rfl rfl rfl) hr (by omega) (pv 0) (pa_cons (pv 1) pa_nil)))
  (pss_cons (ps_if (pt_cmp (pc_dnotin hu (pv 1) (pe_fld (pv 0) rfl))) (pss_one (ps_raiseXN F_NoPlace g_NoPlace rfl (L2N.takes_of rfl rfl rfl rfl) rfl)) pss_nil)
  (pss_one (ps_expr (pe_dpop1 (pe_fld (pv 0) rfl) (pv 1) ⟨rfl, rfl, rfl, rfl⟩))))), ?_⟩
  refine ⟨_, rfl, p, dx, _, rfl, hp, (tbF_no _ _ _).1, _, rfl, f', p, dx, d, l, k, rfl, hp, hl, fun hk => ?_, fun hk D hD => q2 (fun z => hk ⟨z.1, z.2.1⟩) D hD⟩
  refine ⟨_, rfl, _, rfl, p, C, dx, _, _, rfl, hp, KT.cl, KT.n_held, tbF_held _ _ _, d, _, rfl, DGet.k (k := .inl k) hd, _, rfl, ?_⟩
  have hg := conv_get kvs k
  cases hgi : getI kvs k with
  | none =>
    rw [hgi] at hg
    rw [hg]
    exact iteT (q2 (fun z => by have := z.2.2; rw [hgi] at this; cases this) _ g_NoPlace)
  | some x =>
    rw [hgi] at hg
    rw [hg]
    refine iteF ?_
    refine ⟨_, rfl, p, C, dx, _, _, rfl, hp, KT.cl, KT.n_held, tbF_held _ _ _, d, rfl, .inl ⟨_, .inl hd⟩, _, rfl, _, .inl k, .str x, hd, rfl, hg, ?_⟩
    rw [conv_pop]
    exact q1 ⟨hk.1, hk.2, by rw [hgi]; rfl⟩
theorem ok_cut {cc : Addr} (T : Txt K mg cc) (KT : K_Table K mg C) : MetR P w K mg base 2 C "cut" (spCut mg C) := (ok_cutN T KT).weak
end

section
variable {P : Program} {w : World} {K : PySem.W.Frag} {mg : Str → Option Value} {base : Heap} {C : Addr}
def kOf (H : Hp) : V → Int
  | .ref t => match H t with
    | some (.tup [.int i, .str _]) => i
    | _ => 0
  | _ => 0
def fOf (H : Hp) : V → Str
  | .ref t => match H t with
    | some (.tup [.int _, .str x]) => x
    | _ => ""
  | _ => ""
theorem kOf_at {H : Hp} {t : Addr} {i : Int} {x : Str} (h : H t = some (.tup [.int i, .str x])) : kOf H (.ref t) = i ∧ fOf H (.ref t) = x := by
  unfold kOf fOf
  simp only [h]
  exact ⟨trivial, trivial⟩
theorem nodup_key {kvs : List (Int × Str)} (h : (kvs.map (·.1)).Nodup) {a b : Int × Str} (ha : a ∈ kvs) (hb : b ∈ kvs) (e : a.1 = b.1) : a = b := by
  induction kvs with
  | nil => cases ha
  | cons c r ih =>
    rw [List.map_cons, List.nodup_cons] at h
    rcases List.mem_cons.mp ha with rfl | ha'
    · rcases List.mem_cons.mp hb with rfl | hb'
      · rfl
      · exact absurd (List.mem_map.mpr ⟨b, hb', e.symm⟩) h.1
    · rcases List.mem_cons.mp hb with rfl | hb'
      · exact absurd (List.mem_map.mpr ⟨a, ha', e⟩) h.1
      · exact ih h.2 ha' hb'
def spRows (C : Addr) : Sp := fun vs H Q _ => ∃ (f p d : Addr) (l : Nat) (kvs : List (Int × Str)), vs = [.ref p] ∧ TbAt C f H p d l kvs ∧ (kvs.map (·.1)).Nodup ∧ (∀ e ∈ kvs, txtOk e.2 = true) ∧
  ∀ q ys rows H', Ext H H' → Kp H H' → H q = none → H' q = some (.lst ys) → KvL H' ys rows → rows.Perm kvs → rows.Pairwise (fun a b => a.1 ≤ b.1) → Q (.ref q) H'
theorem ok_rows {cc : Addr} (T : Txt K mg cc) (KT : K_Table K mg C) : Met P w K mg base 1 C "rows" (spRows C) [] := by
  have Z := T.Z
  refine met_of KT.cl KT.m_rows sc_Table_rows (fun vs H Q E h => ?_) (fun f cdv A' outer s H vs Q E hr h => ?_)
  · obtain ⟨f, p, d, l, kvs, rfl, _⟩ := h
    rfl
  obtain ⟨f', p, d, l, kvs, rfl, ⟨⟨dx, hp⟩, hd, hz, hl⟩, hnd, htx, q⟩ := h
  have e16 : sizeLine = 16777216 := sizeLine_eq
  refine ⟨_, (pss_one (ps_ret (pe_callB cr_sortedKv rfl Z.sorted (by decide +kernel) (pa_cons (pe_lock (pe_lc (own := [("key", 1), ("text", 2)]) (g := gTup K 2 (gCons (gName 1) (gCons (gName 2) gNil))) (tt := tYes) rfl sc_Table_rows.nd (pi_items (pe_fld (pv 0) rfl)) (blkOk_by (N := N_Table_rows) (sc := defScope s_Table_rows) (by decide +kernel)) (fun _ _ _ _ _ => (pg_tup rfl (pgs_cons (pg_name (i := 1) sc_Table_rows.nd rfl (Or.inl rfl)) (pgs_cons (pg_name (i := 2) sc_Table_rows.nd rfl (Or.inl rfl)) pgs_nil)))) (fun _ _ _ _ _ => pts_nil) (fun _ _ _ _ _ => (pe_tup (pa_cons (pv 1) (pa_cons (pv 2) pa_nil)))))) pa_nil)))), ?_⟩
  refine ⟨d, _, hd, True.intro, fun od => ?_⟩
  have ndp : p ≠ d := fun z => by rw [z, hd] at hp; cases hp
  refine ⟨_, rfl, p, C, dx, _, _, rfl, by rw [upd_ne ndp]; exact hp, KT.cl, KT.n_held, tbF_held _ _ _, d, od, convT kvs, rfl, upd_same, fun D nD => ?_⟩
  have lc : (convT kvs).length = kvs.length := by unfold convT; rw [List.length_map]
  have x0 := ExtO.dict (o := .frz od (.dK (convT kvs))) hd
  have k0 := Kp.dK (o := .frz od (.dK (convT kvs))) hd
  have hd0 : upd H d (.frz od (.dK (convT kvs))) d = some (.frz od (.dK (convT kvs))) := upd_same
  generalize upd H d (.frz od (.dK (convT kvs))) = H0 at x0 k0 hd0 nD ⊢
  have nDd : D ≠ d := fun z => by rw [z, hd0] at nD; cases nD
  have nDH : H D = none := by
    cases e : H D with
    | none => rfl
    | some o =>
      by_cases n : ∃ ks, o = .dT ks
      · obtain ⟨ks, rfl⟩ := n
        obtain ⟨m, e1⟩ := x0.grow D ks e
        rw [e1] at nD
        cases nD
      · rw [x0.keep D o nDd e fun ks z => n ⟨ks, z⟩] at nD
        cases nD
  refine lc_it walk_items (fun i H' => ∃ acc, H' d = some (.frz od (.dK (convT kvs))) ∧ Ext H0 H' ∧ Kp H0 H' ∧ H' D = some (.lst acc) ∧ KvL H' acc (kvs.take i)) ⟨[], by rw [upd_ne nDd.symm]; exact hd0, Ext.new nD, Kp.new nD, upd_same, KvL.nil⟩ (fun i H' _ ⟨_, h, _⟩ => h) ?_ ?_
  · rintro i x H1 H2 hi ⟨acc, h1, x1, k1, hD, hk⟩ ⟨t, kx, vx, rfl, nt, rfl, e1, e2⟩
    rw [lc] at hi
    obtain ⟨e, he⟩ : ∃ e, kvs[i]? = some e := ⟨kvs[i], List.getElem?_eq_getElem hi⟩
    have hc : (convT kvs)[i]? = some ((Sum.inl e.1 : Key), V.str e.2) := by unfold convT; rw [List.getElem?_map, he]; rfl
    have e1' : (convT kvs)[i]?.map (fun kv => kV kv.1) = some kx := e1
    have e2' : (convT kvs)[i]?.map Prod.snd = some vx := e2
    rw [hc] at e1' e2'
    have ek : V.int e.1 = kx := Option.some.inj e1'
    have ev : V.str e.2 = vx := Option.some.inj e2'
    subst ek ev
    have hex : txtOk e.2 = true := htx e (List.mem_of_getElem? he)
    have u1 := Ext.new (o := .tup [.int e.1, .str e.2]) nt
    have j1 := Kp.new (o := .tup [.int e.1, .str e.2]) nt
    refine ⟨t, _, rfl, SqT.of upd_same, rfl, _, _, rfl, _, _, rfl, rfl, rfl, _, rfl, _, rfl, by show 2 ≤ sizeLine; decide, fun q2 nq2 => ?_⟩
    have u2 := u1.trans (Ext.new (o := .tup [.int e.1, .str e.2]) nq2)
    have j2 := j1.trans (Kp.new (o := .tup [.int e.1, .str e.2]) nq2)
    have hD2 := u2.lst hD
    have hd2 := u2.frz h1
    have hal := hk.len
    rw [List.length_take] at hal
    have j3 := j2.trans (Kp.lst (o := .lst (acc ++ [.ref q2])) hD2)
    refine ⟨acc, hD2, by omega, acc ++ [.ref q2], by rw [upd_ne nDd.symm]; exact hd2, (x1.trans u2).mut nD, k1.trans j3, upd_same, ?_⟩
    have et : kvs.take (i + 1) = kvs.take i ++ [e] := by rw [List.take_succ, he]; rfl
    rw [et]
    exact (hk.gr j3.gr).snoc ((Kp.lst hD2) _ _ (by exact upd_same) True.intro) hex
  rintro H1 ⟨acc, h1, x1, k1, hD, hk⟩
  rw [lc, List.take_length] at hk
  refine ⟨h1, ?_⟩
  have hD3 : upd H1 d (.dK (convT kvs)) D = some (.lst acc) := by rw [upd_ne nDd]; exact hD
  have x3 : Ext H (upd H1 d (.dK (convT kvs))) := by
    refine ⟨fun a o ha n => ?_, fun a ks ha => ?_⟩
    · by_cases e : a = d
      · subst e
        rw [hd] at ha
        cases ha
        exact upd_same
      · rw [upd_ne e]
        exact x1.keep a o (x0.keep a o e ha n) n
    · have e : a ≠ d := fun z => by rw [z, hd] at ha; cases ha
      obtain ⟨m1, e1⟩ := x0.grow a ks ha
      obtain ⟨m2, e2⟩ := x1.grow a _ e1
      exact ⟨m1 ++ m2, by rw [upd_ne e, e2, List.append_assoc]⟩
  have k3 : Kp H (upd H1 d (.dK (convT kvs))) := fun a o ha st => by
    by_cases e : a = d
    · subst e
      rw [hd] at ha
      cases ha
      exact st.elim
    · rw [upd_ne e]
      exact k1 a o (k0 a o ha st) st
  have hk3 : KvL (upd H1 d (.dK (convT kvs))) acc kvs := by
    refine ⟨hk.len, fun j v e a b => ?_⟩
    obtain ⟨q', g1, g2, g3⟩ := hk.at_ j v e a b
    refine ⟨q', g1, ?_, g3⟩
    rw [upd_ne]
    · exact g2
    · rintro rfl
      rw [h1] at g2
      cases g2
  have nD3 := nDH
  generalize upd H1 d (.dK (convT kvs)) = H3 at hD3 x3 k3 hk3 ⊢
  have hal := hk3.len
  have mem : ∀ x ∈ acc, ∃ t e, x = .ref t ∧ H3 t = some (.tup [.int e.1, .str e.2]) ∧ e ∈ kvs ∧ kOf H3 x = e.1 ∧ fOf H3 x = e.2 := fun x hx => by
    obtain ⟨j, hj⟩ := List.getElem?_of_mem hx
    have hjl := (List.getElem?_eq_some_iff.mp hj).1
    have he : kvs[j]? = some (kvs[j]'(by omega)) := List.getElem?_eq_getElem _
    obtain ⟨t, rfl, ht, _⟩ := hk3.at_ j x _ hj he
    exact ⟨t, _, rfl, ht, List.mem_of_getElem? he, (kOf_at ht).1, (kOf_at ht).2⟩
  have mapk : acc.map (fun x => (kOf H3 x, fOf H3 x)) = kvs := by
    apply List.ext_getElem?
    intro j
    rw [List.getElem?_map]
    cases hj : acc[j]? with
    | none =>
      have := List.getElem?_eq_none_iff.mp hj
      rw [List.getElem?_eq_none (by omega)]
      rfl
    | some x =>
      have hjl := (List.getElem?_eq_some_iff.mp hj).1
      have he : kvs[j]? = some (kvs[j]'(by omega)) := List.getElem?_eq_getElem _
      obtain ⟨t, rfl, ht, _⟩ := hk3.at_ j x _ hj he
      rw [he]
      show some (kOf H3 (.ref t), fOf H3 (.ref t)) = _
      rw [(kOf_at ht).1, (kOf_at ht).2]
  refine ⟨D, acc, kOf H3, fOf H3, rfl, SqL.of hD3, fun x hx => ?_, fun x hx y hy e => ?_, fun ys p2 perm pw np => ?_⟩
  · obtain ⟨t, e, h1, h2, _, h4, h5⟩ := mem x hx
    exact ⟨t, h1, by rw [h4, h5]; exact h2⟩
  · obtain ⟨t, e1, _, _, h3, h4, h5⟩ := mem x hx
    obtain ⟨t', e2, _, _, g3, g4, g5⟩ := mem y hy
    rw [h4, g4] at e
    have := nodup_key hnd h3 g3 e
    rw [h5, g5, this]
  · have u := Ext.new (o := .lst ys) np
    refine q p2 ys (ys.map fun x => (kOf H3 x, fOf H3 x)) _ (x3.trans u) (k3.trans (Kp.new np)) (x3.free np) upd_same ⟨by rw [List.length_map], fun j v e a b => ?_⟩ ?_ ?_
    · rw [List.getElem?_map, a] at b
      obtain ⟨t, e', h1, h2, h3, h4, h5⟩ := mem v (perm.mem_iff.mp (List.mem_of_getElem? a))
      have eb := Option.some.inj b
      subst eb
      refine ⟨t, h1, u.tup ?_, ?_⟩
      · show H3 t = some (.tup [.int (kOf H3 v), .str (fOf H3 v)])
        rw [h4, h5]
        exact h2
      · show txtOk (fOf H3 v) = true
        rw [h5]
        exact htx _ h3
    · have := perm.map fun x => (kOf H3 x, fOf H3 x)
      rwa [mapk] at this
    · exact List.pairwise_map.mpr pw
end

section
variable {P : Program} {w : World} {K : PySem.W.Frag} {mg : Str → Option Value} {base : Heap} {Fam : Sys → Prop} {C : Addr}
structure TbOk (l : Nat) (kvs : List (Int × Str)) : Prop where
  nd : (kvs.map (·.1)).Nodup
  rg : ∀ e ∈ kvs, 0 ≤ e.1 ∧ e.1 < 2 ^ l
  tx : ∀ e ∈ kvs, txtOk e.2 = true
theorem rows_ok {l : Nat} {kvs rows : List (Int × Str)} (h : TbOk l kvs) (p : rows.Perm kvs) : RowsOk l rows := by
  have nd : (rows.map (·.1)).Nodup := (p.map (·.1)).nodup_iff.mpr h.nd
  have rg : ∀ e ∈ rows, 0 ≤ e.1 ∧ e.1 < 2 ^ l := fun e he => h.rg e (p.mem_iff.mp he)
  refine ⟨fun e he => (rg e he).1, ?_⟩
  have pw : rows.Pairwise fun a b => a.1 ≠ b.1 := List.pairwise_map.mp nd
  refine List.Pairwise.imp_of_mem (fun {a b} ha hb hab => ?_) pw
  rw [Int.emod_eq_of_lt (rg a ha).1 (rg a ha).2, Int.emod_eq_of_lt (rg b hb).1 (rg b hb).2]
  exact hab
def spTInit (C : Addr) (Fam : Sys → Prop) : Sp := fun vs H Q _ => ∃ (S : Sys) (p dx : Addr) (l : Nat) (r : Nat), Fam S ∧ vs = [.ref p, .ref S.f, .int (l : Int)] ∧ H p = some (.ins C dx []) ∧ l ≤ 1000 ∧ S.ok H r ∧ ∀ H' d, ExtO p H H' → Kp H H' → H d = none → S.ok H' r → TbAt C S.f H' p d l [] → Q .non H'
theorem tinit_body (A : SlA P w K mg base Fam) (KT : K_Table K mg C) : ∀ (f : Addr) (cdv : Value) (A' : Around) (outer : List Env) (s : Shared) (H : Hp) (vs : List V) (Q : VK) (E : XK), Room 0 (A'.deeper (envOfC "Table.__init__" (defScope s_Table___init__) s.heap.objs.size f cdv)) → spTInit C Fam vs H Q E →
      ∃ t, PSs (cxOf L2.CX0 P w K mg base N_Table___init__ "Table.__init__" (defScope s_Table___init__) f cdv A' outer s H E).nox (defBody s_Table___init__) t ∧ t { nx := fun _ H' => Q .non H', rt := Q } (start N_Table___init__ vs) H := by
  intro f cdv A' outer s H vs Q E hr h
  obtain ⟨S, p, dx, l, r, hF, rfl, hp, hl, hok, q⟩ := h
  have G := A.good hF
  refine ⟨_, (pss_cons (ps_fld (pv 0) (pv 1) rfl)
  (pss_cons (ps_fld (pv 0) (pv 2) rfl)
  (pss_one (ps_fld (pv 0) pe_dnewK rfl)))), ?_⟩
  refine ⟨_, rfl, _, rfl, p, C, dx, _, rfl, hp, KT.cl, KT.n_seal, by show 0 < 1000; decide, ?_⟩
  have x1 := ExtO.put (o := .ins C dx (putF "seal" (.ref S.f) [])) hp
  have k1 := Kp.ins (o := .ins C dx (putF "seal" (.ref S.f) [])) hp
  have h1 : upd H p (.ins C dx (putF "seal" (.ref S.f) [])) p = some (.ins C dx (putF "seal" (.ref S.f) [])) := upd_same
  have n1 : ∀ d, upd H p (.ins C dx (putF "seal" (.ref S.f) [])) d = none → H d = none := fun d h => by
    by_cases e : d = p
    · rw [e, upd_same] at h; cases h
    · rwa [upd_ne e] at h
  generalize upd H p (.ins C dx (putF "seal" (.ref S.f) [])) = H1 at x1 k1 h1 n1 ⊢
  refine ⟨_, rfl, _, rfl, p, C, dx, _, rfl, h1, KT.cl, KT.n_depth, by show 1 < 1000; decide, ?_⟩
  have x2 := x1.trans (ExtO.put (o := .ins C dx (putF "depth" (.int (l : Int)) (putF "seal" (.ref S.f) []))) h1)
  have k2 := k1.trans (Kp.ins (o := .ins C dx (putF "depth" (.int (l : Int)) (putF "seal" (.ref S.f) []))) h1)
  have h2 : upd H1 p (.ins C dx (putF "depth" (.int (l : Int)) (putF "seal" (.ref S.f) []))) p = some (.ins C dx (putF "depth" (.int (l : Int)) (putF "seal" (.ref S.f) []))) := upd_same
  have n2 : ∀ d, upd H1 p (.ins C dx (putF "depth" (.int (l : Int)) (putF "seal" (.ref S.f) []))) d = none → H d = none := fun d h => by
    by_cases e : d = p
    · rw [e, upd_same] at h; cases h
    · rw [upd_ne e] at h; exact n1 d h
  generalize upd H1 p (.ins C dx (putF "depth" (.int (l : Int)) (putF "seal" (.ref S.f) []))) = H2 at x2 k2 h2 n2 ⊢
  refine fun d nd => ?_
  have npd : p ≠ d := ne_of_none h2 nd
  have x3 := x2.trans (Ext.new (o := .dK []) nd).o
  have k3 := k2.trans (Kp.new (o := .dK []) nd)
  have h3 : upd H2 d (.dK []) p = some (.ins C dx (putF "depth" (.int (l : Int)) (putF "seal" (.ref S.f) []))) := by rw [upd_ne npd]; exact h2
  refine ⟨_, rfl, p, C, dx, _, rfl, h3, KT.cl, KT.n_held, by show 2 < 1000; decide, ?_⟩
  refine q _ d (x3.trans (ExtO.put h3)) (k3.trans (Kp.ins h3)) (n2 d nd) (G.keep (k3.trans (Kp.ins h3)) hok) ⟨⟨dx, by rw [upd_same, tbF_mk]⟩, by rw [upd_ne npd.symm]; exact upd_same, by decide, hl⟩
theorem ok_tinit (A : SlA P w K mg base Fam) (KT : K_Table K mg C) : Mak P w K mg base 1 "Table" C (spTInit C Fam) [] :=
  mak_ofD 3 1 KT.mgC KT.made (by simp) rfl (fun T kV doc pm an cdv ct us its hu hi => match us, its, hu, hi with | [_, _, _], [_], _, _ => ⟨_, rfl, rfl⟩) sc_Table___init__ (fun vs H Q E h => by obtain ⟨S, p, dx, l, r, _, rfl, _⟩ := h; rfl) (tinit_body A KT)
theorem ok_tinit8 (A : SlA P w K mg base Fam) (KT : K_Table K mg C) : Mak P w K mg base 1 "Table" C (spTInit C Fam) [.int 8] :=
  mak_ofD 2 0 KT.mgC KT.made (by simp) rfl (fun T kV doc pm an cdv ct us its hu hi => match us, its, hu, hi with | [_, _], [_], _, _ => ⟨_, rfl, rfl⟩) sc_Table___init__ (fun vs H Q E h => by obtain ⟨S, p, dx, l, r, _, rfl, _⟩ := h; rfl) (tinit_body A KT)
end

section
variable {P : Program} {w : World} {K : PySem.W.Frag} {mg : Str → Option Value} {base : Heap} {Fam : Sys → Prop} {C : Addr}
theorem ok_table_seal {cc : Addr} (T : Txt K mg cc) (A : SlA P w K mg base Fam) : Cal P w K mg base 2 "table_seal" (spMark "table" Fam) [] := by
  refine cal_of T.d_table_seal sc_table_seal (fun vs H Q E h => ?_) (fun f cdv A' outer s H vs Q E hr h => ?_)
  · obtain ⟨S, va, vb, a, b, r, _, rfl, _⟩ := h
    rfl
  obtain ⟨S, va, vb, a, b, r, hF, rfl, hok, ha, hb, q⟩ := h
  refine ⟨_, (pss_one (ps_ret (pe_sl (i := 0) A.held hr (by omega) rfl (by first | exact Or.inl rfl | exact Or.inr (Or.inl rfl) | exact Or.inr (Or.inr rfl)) (pa_cons pe_str (pa_cons (pv 1) (pa_cons (pv 2) pa_nil)))))), ?_⟩
  exact ⟨S, _, hF, rfl, hok, _, rfl, _, rfl, r, "table", a, b, _, _, rfl, by decide +kernel, hok, ha, hb, fun v H' e ok d => q v H' e ok d⟩

def spTHead (C : Addr) (Fam : Sys → Prop) : Sp := fun vs H Q _ => ∃ (S : Sys) (p d : Addr) (l : Nat) (kvs : List (Int × Str)) (r : Nat), Fam S ∧ vs = [.ref p] ∧ TbAt C S.f H p d l kvs ∧ TbOk l kvs ∧ l ≤ 20 ∧ S.ok H (r + 1 + costP l kvs.length) ∧
  ∀ v rows H', Ext H H' → S.ok H' r → rows.Perm kvs → rows.Pairwise (fun a b => a.1 ≤ b.1) → S.den H' v (.sl "table" (.int (l : Int)) (partT l rows)) → Q v H'
theorem ok_thead {cc : Addr} (T : Txt K mg cc) (A : SlA P w K mg base Fam) (KT : K_Table K mg C) : Met P w K mg base 25 C "head" (spTHead C Fam) [] := by
  have C_table_seal := ok_table_seal T A
  have C_part_top := ok_part T A (ok_none_seal T A) (ok_parted T) 21
  have M_rows := ok_rows (P := P) (w := w) (base := base) T KT
  refine met_of KT.cl KT.m_head sc_Table_head (fun vs H Q E h => ?_) (fun f cdv A' outer s H vs Q E hr h => ?_)
  · obtain ⟨S, p, d, l, kvs, r, _, rfl, _⟩ := h
    rfl
  obtain ⟨S, p, d, l, kvs, r, hF, rfl, ⟨⟨dx, hp⟩, hd, hz, hl'⟩, hk, hl, hok, q⟩ := h
  have G := A.good hF
  refine ⟨_, (pss_one (ps_ret (pe_c C_table_seal hr (by omega) rfl (pa_cons (pe_fld (pv 0) rfl) (pa_cons (pe_fld (pv 0) rfl) (pa_cons (pe_c C_part_top hr (by omega) rfl (pa_cons (pe_fld (pv 0) rfl) (pa_cons (pe_mt0 M_rows hr (by omega) (pv 0)) (pa_cons (pe_fld (pv 0) rfl) pa_nil)))) pa_nil)))))), ?_⟩
  refine ⟨_, rfl, p, C, dx, _, _, rfl, hp, KT.cl, KT.n_seal, tbF_seal _ _ _, _, rfl, p, C, dx, _, _, rfl, hp, KT.cl, KT.n_depth, tbF_depth _ _ _, _, rfl, p, C, dx, _, _, rfl, hp, KT.cl, KT.n_seal, tbF_seal _ _ _, ?_⟩
  refine ⟨_, rfl, p, dx, _, rfl, hp, (tbF_no _ _ _).2.2.2.2.1, S.f, p, d, l, kvs, rfl, ⟨⟨dx, hp⟩, hd, hz, hl'⟩, hk.nd, hk.tx, fun qr ys rows H1 x1 k1 nq hqr hrows perm pw => ?_⟩
  refine ⟨_, rfl, p, C, dx, _, _, rfl, x1.ins hp, KT.cl, KT.n_depth, tbF_depth _ _ _, S, qr, ys, rows, l, r + 1, hF, rfl, SqL.of hqr, hrows, rows_ok hk perm, by rw [perm.length_eq]; omega, by omega, by rw [perm.length_eq]; exact G.keep k1 hok, fun v H2 x2 ok2 d2 => ?_⟩
  exact ⟨S, .int (l : Int), v, .int (l : Int), partT l rows, r, hF, rfl, ok2, G.int _ ok2, d2, fun u H3 x3 ok3 d3 => q u rows H3 ((x1.trans x2).trans x3) ok3 perm pw d3⟩
end

/-! ### rows of a key and a text, by rising keys: one and the same for the same pairs -/
theorem kv_uniq : ∀ {a b : List (Int × Str)}, a.Perm b → a.Pairwise (fun x y => x.1 < y.1) → b.Pairwise (fun x y => x.1 < y.1) → a = b
  | [], b, p, _, _ => (List.nil_perm.mp p).symm
  | x :: a, [], p, _, _ => absurd (List.perm_nil.mp p) (List.cons_ne_nil _ _)
  | x :: a, y :: b, p, ha, hb => by
    have e : x = y := by
      rcases List.mem_cons.mp (p.mem_iff.mp (List.mem_cons_self ..)) with h | h
      · exact h
      · rcases List.mem_cons.mp (p.mem_iff.mpr (List.mem_cons_self ..)) with g | g
        · exact g.symm
        · have h1 := (List.pairwise_cons.mp hb).1 x h
          have h2 := (List.pairwise_cons.mp ha).1 y g
          omega
    subst e
    rw [kv_uniq (List.Perm.cons_inv p) (List.pairwise_cons.mp ha).2 (List.pairwise_cons.mp hb).2]
theorem kv_strict {a : List (Int × Str)} (hn : (a.map (·.1)).Nodup) (h : a.Pairwise fun x y => x.1 ≤ y.1) : a.Pairwise fun x y => x.1 < y.1 := by
  have pw : a.Pairwise fun x y => x.1 ≠ y.1 := List.pairwise_map.mp hn
  refine (h.and pw).imp fun {x y} h => ?_
  have h1 := h.1
  have h2 := h.2
  omega
theorem kv_same {a b kvs : List (Int × Str)} (hn : (kvs.map (·.1)).Nodup) (pa : a.Perm kvs) (pb : b.Perm kvs) (ha : a.Pairwise fun x y => x.1 ≤ y.1) (hb : b.Pairwise fun x y => x.1 ≤ y.1) : a = b :=
  kv_uniq (pa.trans pb.symm) (kv_strict ((pa.map (·.1)).nodup_iff.mpr hn) ha) (kv_strict ((pb.map (·.1)).nodup_iff.mpr hn) hb)
/-! ### what the deeds do to the pairs -/
theorem tbok_put {l : Nat} {kvs : List (Int × Str)} {k : Int} {x : Str} (h : TbOk l kvs) (h0 : 0 ≤ k) (h1 : k < 2 ^ l) (hx : txtOk x = true) : TbOk l (putI kvs k x) := by
  unfold putI
  by_cases c : (kvs.any fun e => decide (e.1 = k)) = true
  · rw [if_pos c]
    have em : (kvs.map fun e => if e.1 = k then (e.1, x) else e).map (·.1) = kvs.map (·.1) := by
      rw [List.map_map]
      refine List.map_congr_left fun e _ => ?_
      show (if e.1 = k then (e.1, x) else e).1 = e.1
      by_cases q : e.1 = k
      · rw [if_pos q]
      · rw [if_neg q]
    refine ⟨by rw [em]; exact h.nd, fun e he => ?_, fun e he => ?_⟩
    · obtain ⟨e', he', rfl⟩ := List.mem_map.mp he
      by_cases q : e'.1 = k
      · rw [if_pos q]
        exact h.rg e' he'
      · rw [if_neg q]
        exact h.rg e' he'
    · obtain ⟨e', he', rfl⟩ := List.mem_map.mp he
      by_cases q : e'.1 = k
      · rw [if_pos q]
        exact hx
      · rw [if_neg q]
        exact h.tx e' he'
  · rw [if_neg c]
    refine ⟨?_, fun e he => ?_, fun e he => ?_⟩
    · rw [List.map_append, List.nodup_append]
      refine ⟨h.nd, List.pairwise_singleton _ _, fun a ha b hb => ?_⟩
      have hb' : b = k := List.mem_singleton.mp hb
      subst hb'
      obtain ⟨e, he, rfl⟩ := List.mem_map.mp ha
      exact fun q => c (List.any_eq_true.mpr ⟨e, he, decide_eq_true q⟩)
    · rcases List.mem_append.mp he with he | he
      · exact h.rg e he
      · rw [List.mem_singleton.mp he]
        exact ⟨h0, h1⟩
    · rcases List.mem_append.mp he with he | he
      · exact h.tx e he
      · rw [List.mem_singleton.mp he]
        exact hx
theorem tbok_pop {l : Nat} {kvs : List (Int × Str)} {k : Int} (h : TbOk l kvs) : TbOk l (popI kvs k) := by
  unfold popI
  exact ⟨h.nd.sublist (List.Sublist.map _ List.filter_sublist), fun e he => h.rg e (List.mem_filter.mp he).1, fun e he => h.tx e (List.mem_filter.mp he).1⟩
theorem put_length (kvs : List (Int × Str)) (k : Int) (x : Str) : (putI kvs k x).length ≤ kvs.length + 1 := by
  unfold putI
  split
  · rw [List.length_map]; omega
  · rw [List.length_append]; exact Nat.le_refl _
theorem pop_length (kvs : List (Int × Str)) (k : Int) : (popI kvs k).length ≤ kvs.length := by
  unfold popI
  exact List.length_filter_le _ _

theorem kp_same {H H' : Hp} (h : Same H H') : Kp H H' := fun a o e _ => h a o e
theorem TbAt.ext {C f : Addr} {l : Nat} {H H' : Hp} {p d : Addr} {kvs : List (Int × Str)} (h : TbAt C f H p d l kvs) (x : Ext H H') : TbAt C f H' p d l kvs := by
  obtain ⟨⟨dx, a⟩, b, c⟩ := h
  exact ⟨⟨dx, x.ins a⟩, x.dK b, c⟩
theorem costP_le {l n : Nat} (hl : l ≤ 16) (hn : n ≤ 120) : costP l n ≤ 3999 := by
  unfold costP
  split
  · omega
  · have h := Nat.mul_le_mul hn (show 2 * l + 1 ≤ 33 by omega)
    omega

/-! ### rows by their keys -/
theorem getI_of : ∀ {kvs : List (Int × Str)} {e : Int × Str}, (kvs.map (·.1)).Nodup → e ∈ kvs → getI kvs e.1 = some e.2
  | [], _, _, h => nomatch h
  | x :: kvs, e, hn, h => by
    rw [List.map_cons, List.nodup_cons] at hn
    unfold getI
    rw [List.find?_cons]
    rcases List.mem_cons.mp h with rfl | h
    · rw [decide_eq_true rfl]
      rfl
    · have ne : ¬ x.1 = e.1 := fun z => hn.1 (by rw [z]; exact List.mem_map_of_mem h)
      rw [decide_eq_false ne]
      exact getI_of hn.2 h
/-- the pairs by the row of their keys -/
theorem keys_rows {kvs : List (Int × Str)} {ks : List Int} (hn : (kvs.map (·.1)).Nodup) (pm : ks.Perm (kvs.map (·.1))) : (ks.map fun x => (x, (getI kvs x).getD "")).Perm kvs := by
  have h := pm.map fun x => (x, (getI kvs x).getD "")
  refine h.trans (List.Perm.of_eq ?_)
  rw [List.map_map]
  refine (List.map_congr_left fun e he => ?_).trans (List.map_id _)
  show (e.1, (getI kvs e.1).getD "") = e
  rw [getI_of hn he]
  rfl
theorem getI_mem : ∀ {kvs : List (Int × Str)} {x : Int}, x ∈ kvs.map (·.1) → ∃ t, getI kvs x = some t ∧ (x, t) ∈ kvs := by
  intro kvs x h
  unfold getI
  cases hf : kvs.find? fun e => decide (e.1 = x) with
  | none =>
    obtain ⟨e, he, rfl⟩ := List.mem_map.mp h
    exact absurd (List.find?_eq_none.mp hf e he) (by simp)
  | some e =>
    have h1 := List.mem_of_find?_eq_some hf
    have h2 : e.1 = x := by have := List.find?_some hf; simpa using this
    subst h2
    exact ⟨e.2, rfl, h1⟩

/-! ### rows of a key and a text as data -/
theorem kv_dps {K : PySem.W.Frag} {H : Hp} : ∀ {rows : List (Int × Str)} {vs us : List V}, KvL H vs rows → KvL H us rows → ∃ ds, DpAll K H vs ds ∧ DpAll K H us ds ∧ PyData.canLayAll0 ds = true ∧ PyData.depthAll ds ≤ 1
  | [], vs, us, h, h' => by
    obtain rfl : vs = [] := List.length_eq_zero_iff.mp h.len
    obtain rfl : us = [] := List.length_eq_zero_iff.mp h'.len
    exact ⟨[], .nil, .nil, rfl, Nat.zero_le _⟩
  | e :: rows, [], us, h, h' => absurd h.len (by simp)
  | e :: rows, v :: vs, [], h, h' => absurd h'.len (by simp)
  | e :: rows, v :: vs, u :: us, h, h' => by
    obtain ⟨q, rfl, hq, hx⟩ := h.at_ 0 v e rfl rfl
    obtain ⟨q', rfl, hq', _⟩ := h'.at_ 0 u e rfl rfl
    obtain ⟨ds, a1, a2, c, d⟩ := kv_dps (K := K) (rows := rows) (vs := vs) (us := us) ⟨by have := h.len; simpa using this, fun j v' e' p1 p2 => h.at_ (j + 1) v' e' p1 p2⟩ ⟨by have := h'.len; simpa using this, fun j v' e' p1 p2 => h'.at_ (j + 1) v' e' p1 p2⟩
    refine ⟨.tuple [.int e.1, .str e.2] :: ds, .cons (.tup (SqT.of hq) (.cons (.int _) (.cons (.str _) .nil))) a1, .cons (.tup (SqT.of hq') (.cons (.int _) (.cons (.str _) .nil))) a2, ?_, ?_⟩
    · show (PyData.canLay0 (.tuple [.int e.1, .str e.2]) && PyData.canLayAll0 ds) = true
      rw [c, Bool.and_true]
      show (true && (txtOk e.2 && true)) = true
      rw [hx]
      rfl
    · show max (max 0 (max 0 0) + 1) (PyData.depthAll ds) ≤ 1
      omega
theorem kv_eqd {K : PySem.W.Frag} {H : Hp} {a b : Addr} {rows : List (Int × Str)} {vs us : List V} (ha : SqL K H a vs) (hb : SqL K H b us) (h : KvL H vs rows) (h' : KvL H us rows) :
    ∃ d, Dp K H (.ref a) d ∧ Dp K H (.ref b) d ∧ SeqAt.shaped d = true ∧ PyData.eqv d d = true := by
  obtain ⟨ds, a1, a2, c, d⟩ := kv_dps (K := K) h h'
  have c' : (PyData.list ds).canLay0 = true := c
  exact ⟨.list ds, .lst ha a1, .lst hb a2, shaped_of c' (by show PyData.depthAll ds + 1 ≤ 64; omega), eqv_self c'⟩

theorem getI_put (kvs : List (Int × Str)) (k : Int) (x : Str) : getI (putI kvs k x) k = some x := by
  have h := valV_put (convT kvs) (Sum.inl k) (Sum.inl k) (V.str x)
  rw [if_pos rfl, conv_put, conv_get] at h
  cases e : getI (putI kvs k x) k with
  | none => rw [e] at h; cases h
  | some y => rw [e] at h; cases h; rfl
theorem getI_pop (kvs : List (Int × Str)) (k : Int) : getI (popI kvs k) k = none := by
  unfold getI popI
  rw [List.find?_eq_none.mpr]
  · rfl
  · intro e he
    have := (List.mem_filter.mp he).2
    simpa using this

/-! ### pairs by rising keys -/
def srtI (kv : List (Int × Str)) : List (Int × Str) := kv.mergeSort fun a b => decide (a.1 ≤ b.1)
theorem srt_perm (kv : List (Int × Str)) : (srtI kv).Perm kv := List.mergeSort_perm _ _
theorem srt_pw (kv : List (Int × Str)) : (srtI kv).Pairwise fun a b => a.1 ≤ b.1 := by
  have h := List.pairwise_mergeSort (le := fun a b : Int × Str => decide (a.1 ≤ b.1)) (fun a b c h1 h2 => by
    have h1 := of_decide_eq_true h1
    have h2 := of_decide_eq_true h2
    exact decide_eq_true (by omega)) (fun a b => by
    rcases Int.le_total a.1 b.1 with h | h
    · rw [decide_eq_true h]; rfl
    · rw [decide_eq_true h, Bool.or_true]) kv
  exact h.imp fun h => of_decide_eq_true h
theorem srt_eq {l : Nat} {kv kv' rows : List (Int × Str)} (h : TbOk l kv) (q : kv'.Perm kv) (p : rows.Perm kv') (pw : rows.Pairwise fun a b => a.1 ≤ b.1) : rows = srtI kv :=
  kv_same h.nd (p.trans q) (srt_perm kv) pw (srt_pw kv)
def headT (l : Nat) (kv : List (Int × Str)) : Tm := .sl "table" (.int (l : Int)) (partT l (srtI kv))

section
variable {P : Program} {w : World} {K : PySem.W.Frag} {mg : Str → Option Value} {base : Heap} {Fam : Sys → Prop}
def spLTable (Fam : Sys → Prop) : Sp := fun vs H Q _ => ∃ (S0 : Sys) (dl : Addr) (l : Nat) (kvs : List (Int × Str)) (r : Nat), Fam S0 ∧ vs = [.ref S0.f, .ref dl, .int (l : Int)] ∧ H dl = some (.dK (convT kvs)) ∧ TbOk l kvs ∧ l ≤ 16 ∧ kvs.length ≤ 119 ∧ S0.ok H (r + 4000) ∧
  ∀ v H', Ext H H' → S0.ok H' r → S0.den H' v (headT l kvs) → Q v H'
theorem ok_ltable {cc : Addr} (T : Txt K mg cc) (A : SlA P w K mg base Fam) : Cal P w K mg base 25 "_law_table" (spLTable Fam) [] := by
  have Z := T.Z
  have C__law_part := ok_lawpart (P := P) (w := w) (base := base) T A 21
  refine cal_of T.d__law_table sc__law_table (fun vs H Q E h => ?_) (fun f cdv A' outer s H vs Q E hr h => ?_)
  · obtain ⟨S0, dl, l, kvs, r, _, rfl, _⟩ := h
    rfl
  obtain ⟨S0, dl, l, kvs, r, hF, rfl, hdl, hk, hl, h62, hok, q⟩ := h
  have hu := hu_of hr
  have G := A.good hF
  have e16 : sizeLine = 16777216 := sizeLine_eq
  refine ⟨_, (pss_one (ps_ret (pe_sl (i := 0) A.held hr (by omega) rfl (by first | exact Or.inl rfl | exact Or.inr (Or.inl rfl) | exact Or.inr (Or.inr rfl)) (pa_cons pe_str (pa_cons (pv 2) (pa_cons (pe_c C__law_part hr (by omega) rfl (pa_cons (pv 0) (pa_cons (pe_lc (own := [("_law_key", 3)]) (g := gName 3) (tt := tYes) rfl sc__law_table.nd (pi_list (pe_callB (call_sortedDIN rfl) rfl Z.sorted (by decide +kernel) (pa_cons (pv 1) pa_nil))) (blkOk_by (N := N__law_table) (sc := defScope s__law_table) (by decide +kernel)) (fun _ _ _ _ _ => (pg_name (i := 3) sc__law_table.nd rfl (Or.inl rfl))) (fun _ _ _ _ _ => pts_nil) (fun _ _ _ _ _ => (pe_tup (pa_cons (pv 3) (pa_cons (pe_dget hu (pv 1) (pv 3) (fun _ _ => rfl)) pa_nil))))) (pa_cons (pv 2) pa_nil)))) pa_nil)))))), ?_⟩
  have ek : (convT kvs).map (·.1) = (kvs.map (·.1)).map Sum.inl := by unfold convT; rw [List.map_map, List.map_map]; rfl
  refine ⟨S0, _, hF, rfl, hok, _, rfl, _, rfl, _, rfl, dl, convT kvs, kvs.map (·.1), rfl, .inl hdl, ek, by rw [List.length_map]; omega, fun ks a pm pw na => ?_⟩
  have x1 := Ext.new (o := .lst (ks.map V.int)) na
  have k1 := Kp.new (o := .lst (ks.map V.int)) na
  have ha : upd H a (.lst (ks.map V.int)) a = some (.lst (ks.map V.int)) := upd_same
  have hdl1 := x1.dK hdl
  generalize upd H a (.lst (ks.map V.int)) = H1 at x1 k1 ha hdl1 ⊢
  refine ⟨a, rfl, ⟨_, SqL.of ha⟩, fun D nD => ?_⟩
  have hrow : ∀ x ∈ ks, ∃ t, getI kvs x = some t ∧ (x, t) ∈ kvs := fun x hx => getI_mem (pm.mem_iff.mp hx)
  refine lc_list (K := K) (a := a) (xs := ks.map V.int) (fun i H' => ∃ ys, Ext H1 H' ∧ Kp H1 H' ∧ H' D = some (.lst ys) ∧ KvL H' ys ((ks.take i).map fun x => (x, (getI kvs x).getD ""))) ⟨[], Ext.new nD, Kp.new nD, upd_same, KvL.nil⟩ (fun i H' _ ⟨_, x, _⟩ => SqL.of (x.lst ha)) ?_ ?_
  · rintro i y H' hi ⟨ys, x, k, hD, hy⟩
    rw [List.getElem?_map] at hi
    obtain ⟨z, hz, rfl⟩ := Option.map_eq_some_iff.mp hi
    obtain ⟨t, ht1, ht2⟩ := hrow z (List.mem_of_getElem? hz)
    have hg : DGet H' dl (V.int z) (some (V.str t)) := by
      have g := DGet.k (k := .inl z) (x.dK hdl1)
      rw [conv_get, ht1] at g
      exact g
    refine ⟨rfl, _, rfl, _, rfl, _, rfl, dl, .str t, rfl, hg, by show 2 ≤ sizeLine; decide, fun q2 nq2 => ?_⟩
    have u1 := Ext.new (o := .tup [.int z, .str t]) nq2
    have j1 := Kp.new (o := .tup [.int z, .str t]) nq2
    have hD2 := u1.lst hD
    have nD2 : q2 ≠ D := fun e => by rw [e, hD] at nq2; cases nq2
    refine ⟨ys, hD2, ?_, ys ++ [.ref q2], (x.trans u1).mut nD, (k.trans j1).trans (Kp.lst hD2), upd_same, ?_⟩
    · have e1 := hy.len
      rw [List.length_map, List.length_take] at e1
      have e2 := pm.length_eq
      rw [List.length_map] at e2
      omega
    · rw [List.take_succ, hz, List.map_append]
      have ex : (getI kvs z).getD "" = t := by rw [ht1]; rfl
      show KvL _ _ (_ ++ [(z, (getI kvs z).getD "")])
      rw [ex]
      exact (hy.gr (j1.trans (Kp.lst hD2)).gr).snoc (by rw [upd_ne nD2]; exact upd_same) (hk.tx _ ht2)
  rintro H2 ⟨ys, x2, k2, hD, hy⟩
  rw [List.length_map, List.take_length] at hy
  have pr := keys_rows hk.nd pm
  have sr : (ks.map fun x => (x, (getI kvs x).getD "")).Pairwise fun a b => a.1 ≤ b.1 := List.pairwise_map.mpr pw
  rw [srt_eq hk (List.Perm.refl _) pr sr] at hy
  have pr := srt_perm kvs
  have rl := pr.length_eq
  have cp := costP_le hl (show kvs.length ≤ 120 by omega)
  refine ⟨_, rfl, S0, D, ys, srtI kvs, l, r + 1, hF, rfl, SqL.of hD, hy, rows_ok hk pr, by omega, by omega, by rw [rl]; exact G.less (G.keep (k1.trans k2) hok) (by omega), fun v H3 x3 ok3 d3 => ?_⟩
  exact ⟨r, "table", .int (l : Int), partT l (srtI kvs), _, _, rfl, by decide +kernel, ok3, G.int _ ok3, d3, fun u H4 x4 ok4 d4 => q u H4 (((x1.trans x2).trans x3).trans x4) ok4 d4⟩
end

def spRight10 (C : Addr) (Fam : Sys → Prop) : Sp := fun vs H Q _ => ∃ (S : Sys) (p d dl : Addr) (l : Nat) (kv kvs : List (Int × Str)) (r : Nat), Fam S ∧ vs = [.ref S.f, .ref p, .ref dl, .int (l : Int)] ∧ TbAt C S.f H p d l kv ∧ TbOk l kv ∧ kv.Perm kvs ∧ H dl = some (.dK (convT kvs)) ∧ TbOk l kvs ∧ l ≤ 16 ∧ kvs.length ≤ 119 ∧ S.ok H (r + 8010) ∧
  ∀ H', Ext H H' → S.ok H' r → Q (.bl true) H'
section
variable {P : Program} {w : World} {K : PySem.W.Frag} {mg : Str → Option Value} {base : Heap} {Fam : Sys → Prop} {C : Addr}
theorem ok_right10 {cc : Addr} (T : Txt K mg cc) (A : SlA P w K mg base Fam) (KT : K_Table K mg C) : Cal P w K mg base 26 "_law_right" (spRight10 C Fam) [] := by
  have Z := T.Z
  have M_rows := ok_rows (P := P) (w := w) (base := base) T KT
  have M_head := ok_thead (P := P) (w := w) (base := base) T A KT
  have C__law_table := ok_ltable (P := P) (w := w) (base := base) T A
  refine cal_of T.d__law_right sc__law_right (fun vs H Q E h => ?_) (fun f cdv A' outer s H vs Q E hr h => ?_)
  · obtain ⟨S, p, d, dl, l, kv, kvs, r, _, rfl, _⟩ := h
    rfl
  obtain ⟨S, p, d, dl, l, kv, kvs, r, hF, rfl, ht, hkv, hper, hdl, hk, hl, h119, hok, q⟩ := h
  have hu := hu_of hr
  have G := A.good hF
  have e16 : sizeLine = 16777216 := sizeLine_eq
  refine ⟨_, (pss_one (ps_ret (pe_and (pe_cmpR (op_eqD hr.units) (pe_mt0 M_rows hr (by omega) (pv 1)) (pe_lc (own := [("_law_key", 4)]) (g := gName 4) (tt := tYes) rfl sc__law_right.nd (pi_list (pe_callB (call_sortedDIN rfl) rfl Z.sorted (by decide +kernel) (pa_cons (pv 2) pa_nil))) (blkOk_by (N := N__law_right) (sc := defScope s__law_right) (by decide +kernel)) (fun _ _ _ _ _ => (pg_name (i := 4) sc__law_right.nd rfl (Or.inl rfl))) (fun _ _ _ _ _ => pts_nil) (fun _ _ _ _ _ => (pe_tup (pa_cons (pv 4) (pa_cons (pe_dget hu (pv 2) (pv 4) (fun _ _ => rfl)) pa_nil))))) (nomark _)) (pe_one (pe_cmpR (op_eqD hr.units) (pe_mt0 M_head hr (by omega) (pv 1)) (pe_c C__law_table hr (by omega) rfl (pa_cons (pv 0) (pa_cons (pv 2) (pa_cons (pv 3) pa_nil)))) (nomark _)))))), ?_⟩
  have ek : (convT kvs).map (·.1) = (kvs.map (·.1)).map Sum.inl := by unfold convT; rw [List.map_map, List.map_map]; rfl
  obtain ⟨⟨dx, hp⟩, hd, hz, hl'⟩ := id ht
  refine ⟨_, rfl, p, dx, _, rfl, hp, (tbF_no _ _ _).2.2.2.2.1, S.f, p, d, l, kv, rfl, ht, hkv.nd, hkv.tx, fun q3 zs rows3 H3 x3 k3 n3 h3 hz3 pm3 pw3 => ?_⟩
  have hdl3 := x3.dK hdl
  refine ⟨_, rfl, dl, convT kvs, kvs.map (·.1), rfl, .inl hdl3, ek, by rw [List.length_map]; omega, fun ks a pm pw na => ?_⟩
  have x1 := Ext.new (o := .lst (ks.map V.int)) na
  have k1 := Kp.new (o := .lst (ks.map V.int)) na
  have ha : upd H3 a (.lst (ks.map V.int)) a = some (.lst (ks.map V.int)) := upd_same
  have hdl1 := x1.dK hdl3
  have h31 := x1.lst h3
  have hz1 := hz3.gr x1.gr
  generalize upd H3 a (.lst (ks.map V.int)) = H1 at x1 k1 ha hdl1 h31 hz1 ⊢
  refine ⟨a, rfl, ⟨_, SqL.of ha⟩, fun D nD => ?_⟩
  have hrow : ∀ x ∈ ks, ∃ t, getI kvs x = some t ∧ (x, t) ∈ kvs := fun x hx => getI_mem (pm.mem_iff.mp hx)
  refine lc_list (K := K) (a := a) (xs := ks.map V.int) (fun i H' => ∃ ys, Ext H1 H' ∧ Kp H1 H' ∧ H' D = some (.lst ys) ∧ KvL H' ys ((ks.take i).map fun x => (x, (getI kvs x).getD ""))) ⟨[], Ext.new nD, Kp.new nD, upd_same, KvL.nil⟩ (fun i H' _ ⟨_, x, _⟩ => SqL.of (x.lst ha)) ?_ ?_
  · rintro i y H' hi ⟨ys, x, k, hD, hy⟩
    rw [List.getElem?_map] at hi
    obtain ⟨z, hz', rfl⟩ := Option.map_eq_some_iff.mp hi
    obtain ⟨t, ht1, ht2⟩ := hrow z (List.mem_of_getElem? hz')
    have e1 := x.dK hdl1
    refine ⟨rfl, _, rfl, ?_⟩
    have hg : DGet H' dl (V.int z) (some (V.str t)) := by
      have g := DGet.k (k := .inl z) e1
      rw [conv_get, ht1] at g
      exact g
    refine ⟨_, rfl, _, rfl, dl, .str t, rfl, hg, by show 2 ≤ sizeLine; decide, fun q2 nq2 => ?_⟩
    have u1 := Ext.new (o := .tup [.int z, .str t]) nq2
    have j1 := Kp.new (o := .tup [.int z, .str t]) nq2
    have nD2 : q2 ≠ D := fun e => by rw [e, hD] at nq2; cases nq2
    have hD2 : upd H' q2 (.tup [.int z, .str t]) D = some (.lst ys) := by rw [upd_ne nD2.symm]; exact hD
    refine ⟨ys, hD2, ?_, ys ++ [.ref q2], (x.trans u1).mut nD, (k.trans j1).trans (Kp.lst hD2), upd_same, ?_⟩
    · have e1 := hy.len
      rw [List.length_map, List.length_take] at e1
      have e2 := pm.length_eq
      rw [List.length_map] at e2
      omega
    · rw [List.take_succ, hz', List.map_append]
      have ex : (getI kvs z).getD "" = t := by rw [ht1]; rfl
      show KvL _ _ (_ ++ [(z, (getI kvs z).getD "")])
      rw [ex]
      exact (hy.gr (j1.trans (Kp.lst hD2)).gr).snoc (by rw [upd_ne nD2]; exact upd_same) (hk.tx _ ht2)
  rintro H2 ⟨ys, x2, k2, hD, hy⟩
  rw [List.length_map, List.take_length] at hy
  have pr := keys_rows hk.nd pm
  have sr : (ks.map fun x => (x, (getI kvs x).getD "")).Pairwise fun a b => a.1 ≤ b.1 := List.pairwise_map.mpr pw
  generalize (ks.map fun x => (x, (getI kvs x).getD "")) = rows at hy pr sr
  have er : rows3 = rows := (srt_eq hk hper pm3 pw3).trans (srt_eq hk (List.Perm.refl _) pr sr).symm
  subst er
  have x13 := x3.trans (x1.trans x2)
  obtain ⟨dd, dp1, dp2, sh, eq⟩ := kv_eqd (K := K) (SqL.of (x2.lst h31)) (SqL.of hD) (hz1.gr x2.gr) hy
  refine ⟨dd, dd, dp1, dp2, sh, sh, ?_⟩
  rw [eq]
  refine ⟨_, rfl, iteT ?_⟩
  have ok2 := G.keep ((k3.trans k1).trans k2) hok
  have ht2 := ht.ext x13
  obtain ⟨⟨dx', hp'⟩, _⟩ := id ht2
  have hc := costP_le (l := l) (n := kv.length) hl (by rw [hper.length_eq]; omega)
  refine ⟨_, rfl, p, dx', _, rfl, hp', (tbF_no _ _ _).2.2.2.2.2.1, S, p, d, l, kv, r + 4004, hF, rfl, ht2, hkv, by omega, G.less ok2 (by omega), fun v rows4 H6 x6 ok6 pm4 pw4 dv => ?_⟩
  refine ⟨_, rfl, _, rfl, _, rfl, S, dl, l, kvs, r, hF, rfl, x6.dK (x2.dK hdl1), hk, hl, h119, G.less ok6 (by omega), fun v2 H7 x7 ok7 d7 => ?_⟩
  have er : rows4 = srtI kvs := srt_eq hk hper pm4 pw4
  subst er
  have hdep : (headT l kvs).dep ≤ 60 := by
    have := partT_dep l (srtI kvs)
    unfold headT
    simp only [Tm.dep]
    omega
  obtain ⟨dd2, a1, a2, sh2, eq2⟩ := eq_tm G (G.mono x7.gr dv) d7 hdep
  refine ⟨dd2, dd2, a1, a2, sh2, sh2, ?_⟩
  rw [eq2]
  exact q H7 ((x13.trans x6).trans x7) ok7
end

section
variable {P : Program} {w : World} {K : PySem.W.Frag} {mg : Str → Option Value} {base : Heap} {Fam : Sys → Prop} {C : Addr}
theorem okK_none_seal {cc : Addr} (T : Txt K mg cc) (A : SlA P w K mg base Fam) (AK : ∀ S, Fam S → HeldSlK P w K mg base 1 S) : CalK P w K mg base 2 "none_seal" (spNone Fam) := by
  refine calK_of T.d_none_seal sc_none_seal (fun vs H Q E h => ?_) (fun f cdv A' outer s H vs Q E p1 p2 h2 hr h => ?_)
  · obtain ⟨S, r, _, rfl, _⟩ := h
    rfl
  obtain ⟨S, r, hF, rfl, hok, q⟩ := h
  have G := A.good hF
  refine ⟨_, (pss_one (ps_ret (pe_slK (i := 0) AK (hotK_cx h2) hr (by omega) rfl (by first | exact Or.inl rfl | exact Or.inr (Or.inl rfl) | exact Or.inr (Or.inr rfl)) (pa_cons pe_str (pa_cons pe_int (pa_cons pe_int pa_nil)))))), ?_⟩
  exact ⟨S, _, hF, rfl, hok, r, "none", .int 0, .int 0, _, _, rfl, by decide +kernel, hok, G.int 0 hok, G.int 0 hok, fun v H' e ok d => q v H' e ok d⟩
theorem okK_parted {cc : Addr} (T : Txt K mg cc) : CalK P w K mg base 1 "parted" (spParted K) := by
  have Z := T.Z
  refine calK_of T.d_parted sc_parted (fun vs H Q E h => ?_) (fun f cdv A' outer s H vs Q E p1 p2 h2 hr h => ?_)
  · obtain ⟨a, xs, rows, l, rfl, _⟩ := h
    rfl
  obtain ⟨a, xs, rows, l, rfl, hS, hk, h0, hl, q⟩ := h
  have hxl := hk.len
  have e16 : sizeLine = 16777216 := sizeLine_eq
  refine ⟨_, (pss_cons (ps_setLcK (i := 2) (own := [("row", 4)]) (g := gName 4) (tt := _) (hotK_cx h2) sc_parted.nd rfl rfl (sw_true rfl rfl rfl (by decide +kernel)) (piK_list (pv 0)) (blkOk_by (N := N_parted) (sc := defScope s_parted) (by decide +kernel)) (fun _ _ _ _ _ p1 p2 h2 => (pg_name (i := 4) sc_parted.nd rfl (Or.inl rfl))) (fun _ _ _ _ _ p1 p2 h2 => (pts_one (pt_cmpR op_eq (pe_op op_odd (pe_op op_shrN (pe_ix (r := rIxT K) ix_tup (pv 4) pe_int (fun _ _ => rfl)) (pv 1)) pe_int) pe_int (nomark _)))) (fun _ _ _ _ _ p1 p2 h2 => (pv 4)))
  (pss_cons (ps_setLcK (i := 3) (own := [("row", 4)]) (g := gName 4) (tt := _) (hotK_cx h2) sc_parted.nd rfl rfl (sw_true rfl rfl rfl (by decide +kernel)) (piK_list (pv 0)) (blkOk_by (N := N_parted) (sc := defScope s_parted) (by decide +kernel)) (fun _ _ _ _ _ p1 p2 h2 => (pg_name (i := 4) sc_parted.nd rfl (Or.inl rfl))) (fun _ _ _ _ _ p1 p2 h2 => (pts_one (pt_cmpR op_eq (pe_op op_odd (pe_op op_shrN (pe_ix (r := rIxT K) ix_tup (pv 4) pe_int (fun _ _ => rfl)) (pv 1)) pe_int) pe_int (nomark _)))) (fun _ _ _ _ _ p1 p2 h2 => (pv 4)))
  (pss_one (ps_ret (pe_tup (pa_cons (pv 2) (pa_cons (pv 3) pa_nil))))))), ?_⟩
  refine ⟨_, rfl, a, rfl, ⟨_, hS⟩, fun D nD => ?_⟩
  refine lc_list (K := K) (a := a) (xs := xs) (fun i H' => ∃ ys, Ext H H' ∧ Kp H H' ∧ H' D = some (.lst ys) ∧ KvL H' ys ((rows.take i).filter (bitK l 0))) ⟨[], Ext.new nD, Kp.new nD, upd_same, KvL.nil⟩ (fun i H' _ ⟨_, x, _⟩ => x.seq hS) ?_ ?_
  · rintro i y H' hi ⟨ys, x, k, hD, hy⟩
    have hlt := (List.getElem?_eq_some_iff.mp hi).1
    have hri : rows[i]? = some (rows[i]'(by omega)) := List.getElem?_eq_getElem _
    obtain ⟨qe, rfl, hqe, hqx⟩ := (hk.gr x.gr).at_ i y _ hi hri
    have h0e := h0 _ (List.getElem_mem (show i < rows.length by omega))
    generalize rows[i]'(by omega) = e at hri hqe hqx h0e
    obtain ⟨m, hm⟩ := Int.eq_ofNat_of_zero_le (Int.ediv_nonneg h0e (Int.le_of_lt (show (0 : Int) < 2 ^ l from Int.pow_pos (by decide))))
    refine ⟨rfl, _, rfl, qe, _, 0, _, rfl, rfl, SqT.of hqe, rfl, _, rfl, _, l, rfl, rfl, m, by rw [hm], rfl, rfl, _, rfl, ite2 (fun c => ?_) (fun c => ?_)⟩
    · have c' : ((m % 2 : Nat) : Int) = 0 := V.int.inj (of_decide_eq_true c)
      have hb : bitK l 0 e = true := decide_eq_true (by rw [hm]; omega)
      refine ⟨_, rfl, ys, hD, ?_, ys ++ [.ref qe], x.mut nD, k.trans (Kp.lst hD), upd_same, ?_⟩
      · have := hy.len
        have := List.length_filter_le (bitK l 0) (rows.take i)
        rw [List.length_take] at this
        omega
      · rw [take_filter _ _ hri, hb]
        exact (hy.gr (Kp.lst hD).gr).snoc ((Kp.lst hD) _ _ hqe True.intro) hqx
    · have c' : ¬ ((m % 2 : Nat) : Int) = 0 := fun z => c (decide_eq_true (by rw [z]))
      have hb : bitK l 0 e = false := decide_eq_false (by rw [hm]; omega)
      refine ⟨ys, x, k, hD, ?_⟩
      rw [take_filter _ _ hri, hb]
      simpa using hy
  rintro H1 ⟨ys, x1, k1, hD1, hy1⟩
  rw [hxl, List.take_length] at hy1
  refine ⟨_, rfl, a, rfl, ⟨_, x1.seq hS⟩, fun D2 nD2 => ?_⟩
  refine lc_list (K := K) (a := a) (xs := xs) (fun i H' => ∃ zs, Ext H1 H' ∧ Kp H1 H' ∧ H' D2 = some (.lst zs) ∧ KvL H' zs ((rows.take i).filter (bitK l 1))) ⟨[], Ext.new nD2, Kp.new nD2, upd_same, KvL.nil⟩ (fun i H' _ ⟨_, x, _⟩ => (x1.trans x).seq hS) ?_ ?_
  · rintro i y H' hi ⟨zs, x, k, hD, hy⟩
    have hlt := (List.getElem?_eq_some_iff.mp hi).1
    have hri : rows[i]? = some (rows[i]'(by omega)) := List.getElem?_eq_getElem _
    obtain ⟨qe, rfl, hqe, hqx⟩ := (hk.gr (x1.trans x).gr).at_ i y _ hi hri
    have h0e := h0 _ (List.getElem_mem (show i < rows.length by omega))
    generalize rows[i]'(by omega) = e at hri hqe hqx h0e
    obtain ⟨m, hm⟩ := Int.eq_ofNat_of_zero_le (Int.ediv_nonneg h0e (Int.le_of_lt (show (0 : Int) < 2 ^ l from Int.pow_pos (by decide))))
    refine ⟨rfl, _, rfl, qe, _, 0, _, rfl, rfl, SqT.of hqe, rfl, _, rfl, _, l, rfl, rfl, m, by rw [hm], rfl, rfl, _, rfl, ite2 (fun c => ?_) (fun c => ?_)⟩
    · have c' : ((m % 2 : Nat) : Int) = 1 := V.int.inj (of_decide_eq_true c)
      have hb : bitK l 1 e = true := decide_eq_true (by rw [hm]; omega)
      refine ⟨_, rfl, zs, hD, ?_, zs ++ [.ref qe], x.mut nD2, k.trans (Kp.lst hD), upd_same, ?_⟩
      · have := hy.len
        have := List.length_filter_le (bitK l 1) (rows.take i)
        rw [List.length_take] at this
        omega
      · rw [take_filter _ _ hri, hb]
        exact (hy.gr (Kp.lst hD).gr).snoc ((Kp.lst hD) _ _ hqe True.intro) hqx
    · have c' : ¬ ((m % 2 : Nat) : Int) = 1 := fun z => c (decide_eq_true (by rw [z]))
      have hb : bitK l 1 e = false := decide_eq_false (by rw [hm]; omega)
      refine ⟨zs, x, k, hD, ?_⟩
      rw [take_filter _ _ hri, hb]
      simpa using hy
  rintro H2 ⟨zs, x2, k2, hD2, hy2⟩
  rw [hxl, List.take_length] at hy2
  refine ⟨_, rfl, _, rfl, by show 2 ≤ sizeLine; decide, fun p np => ?_⟩
  have u := Ext.new (o := .tup [.ref D, .ref D2]) np
  have ku := Kp.new (o := .tup [.ref D, .ref D2]) np
  exact q p D D2 ys zs _ ((x1.trans x2).trans u) ((k1.trans k2).trans ku) nD (x1.free nD2) upd_same ((x2.trans u).lst hD1) (u.lst hD2) (hy1.gr (x2.trans u).gr) (hy2.gr u.gr)
theorem okK_part1 {cc : Addr} {k : Nat} (T : Txt K mg cc) (A : SlA P w K mg base Fam) (AK : ∀ S, Fam S → HeldSlK P w K mg base 1 S) (C_none_seal : CalK P w K mg base 2 "none_seal" (spNone Fam)) (C_parted : CalK P w K mg base 1 "parted" (spParted K)) (C_part_top : CalK P w K mg base (k + 3) "part_top" (spPart K Fam k)) : CalK P w K mg base (k + 4) "part_top" (spPart K Fam (k + 1)) := by
  have Z := T.Z
  refine calK_of T.d_part_top sc_part_top (fun vs H Q E h => ?_) (fun f cdv A' outer s H vs Q E p1 p2 h2 hr h => ?_)
  · obtain ⟨S, a, xs, rows, l, r, _, rfl, _⟩ := h
    rfl
  obtain ⟨S, a, xs, rows, l, r, hF, rfl, hS, hk, hro, hl, hlk, hok, q⟩ := h
  have G := A.good hF
  have hxl := hk.len
  refine ⟨_, (pss_cons (ps_if (pt_cmpR op_eq (pe_callB call_len_seq rfl Z.len PySem.boot_len (pa_cons (pv 1) pa_nil)) pe_int (nomark _)) (pss_one (ps_ret (pe_cK C_none_seal (hotK_cx h2) hr (by omega) rfl (pa_cons (pv 0) pa_nil)))) pss_nil)
  (pss_cons (ps_if (pt_cmpR op_eq (pe_callB call_len_seq rfl Z.len PySem.boot_len (pa_cons (pv 1) pa_nil)) pe_int (nomark _)) (pss_one (ps_ret (pe_slK (i := 0) AK (hotK_cx h2) hr (by omega) rfl (by first | exact Or.inl rfl | exact Or.inr (Or.inl rfl) | exact Or.inr (Or.inr rfl)) (pa_cons pe_str (pa_cons (pe_ix ix_tup (pe_ix ix_list (pv 1) pe_int (fun _ _ => rfl)) pe_int (fun _ _ => rfl)) (pa_cons (pe_ix ix_tup (pe_ix ix_list (pv 1) pe_int (fun _ _ => rfl)) pe_int (fun _ _ => rfl)) pa_nil)))))) pss_nil)
  (pss_cons (ps_set (i := 3) sc_part_top.nd rfl (Or.inl rfl) (pe_cK C_parted (hotK_cx h2) hr (by omega) rfl (pa_cons (pv 1) (pa_cons (pe_op op_sub (pv 2) pe_int) pa_nil))))
  (pss_one (ps_ret (pe_slK (i := 0) AK (hotK_cx h2) hr (by omega) rfl (by first | exact Or.inl rfl | exact Or.inr (Or.inl rfl) | exact Or.inr (Or.inr rfl)) (pa_cons pe_str (pa_cons (pe_cK C_part_top (hotK_cx h2) hr (by omega) rfl (pa_cons (pv 0) (pa_cons (pe_ix ix_tup (pv 3) pe_int (fun _ _ => rfl)) (pa_cons (pe_op op_sub (pv 2) pe_int) pa_nil)))) (pa_cons (pe_cK C_part_top (hotK_cx h2) hr (by omega) rfl (pa_cons (pv 0) (pa_cons (pe_ix ix_tup (pv 3) pe_int (fun _ _ => rfl)) (pa_cons (pe_op op_sub (pv 2) pe_int) pa_nil)))) pa_nil))))))))), ?_⟩
  refine ⟨_, rfl, a, xs, rfl, .inl hS, rfl, _, rfl, ite2 (fun c => ?_) (fun c => ?_)⟩
  · have c' : (xs.length : Int) = 0 := V.int.inj (of_decide_eq_true c)
    have e : rows = [] := List.eq_nil_of_length_eq_zero (by omega)
    subst e
    refine ⟨_, rfl, S, r, hF, rfl, hok, fun v H' x ok d => q v H' x ok ?_⟩
    rw [partT_nil]
    exact d
  have n0 : xs.length ≠ 0 := fun z => c (decide_eq_true (by rw [z] <;> rfl))
  have cpos : costP l rows.length = rows.length * (2 * l + 1) := if_neg (by omega)
  refine ⟨_, rfl, a, xs, rfl, .inl hS, rfl, _, rfl, ite2 (fun c => ?_) (fun c => ?_)⟩
  · have c' : (xs.length : Int) = 1 := V.int.inj (of_decide_eq_true c)
    match rows, hk, hxl, q, cpos, hok with
    | [e], hk, hxl, q, cpos, hok =>
      obtain ⟨v0, hv0⟩ : ∃ v0, xs[0]? = some v0 := ⟨xs[0]'(by omega), List.getElem?_eq_getElem _⟩
      obtain ⟨qe, rfl, hqe, hqx⟩ := hk.at_ 0 v0 e hv0 rfl
      have h1 : 1 ≤ costP l ([e] : List (Int × Str)).length := by rw [cpos]; show 1 ≤ 1 * _; omega
      refine ⟨S, _, hF, rfl, hok, _, rfl, a, xs, 0, _, rfl, rfl, hS, atI_nat hv0, qe, _, 0, _, rfl, rfl, SqT.of hqe, rfl, _, rfl, a, xs, 0, _, rfl, rfl, hS, atI_nat hv0, qe, _, 1, _, rfl, rfl, SqT.of hqe, rfl, r, "row", .int e.1, .str e.2, _, _, rfl, by decide +kernel, G.less hok (by omega), G.int _ hok, G.str _ hok hqx, fun v H' x ok d => q v H' x ok ?_⟩
      rw [partT_one]
      exact d
    | [], _, hxl, _, _, _ => exact absurd hxl n0
    | _ :: _ :: _, _, hxl, _, _, _ => simp at hxl; omega
  have n1 : xs.length ≠ 1 := fun z => c (decide_eq_true (by rw [z] <;> rfl))
  have h2 : 2 ≤ rows.length := by omega
  obtain ⟨l', rfl⟩ : ∃ l', l = l' + 1 := by
    cases l with
    | zero => have := hro.zero; omega
    | succ l' => exact ⟨l', rfl⟩
  have el : ((l' + 1 : Nat) : Int) - 1 = (l' : Int) := by omega
  have hsp := filter_split (rows := rows) l'
  have hcs := costP_split (l := l') hsp h2
  refine ⟨_, rfl, _, rfl, _, 1, rfl, rfl, a, xs, rows, l', by rw [← el]; rfl, hS, hk, hro.1, hl, fun qb p1 p2 ys zs H1 x1 k1 _ _ hqb hp1 hp2 hy hz => ?_⟩
  have ok1 := G.keep k1 hok
  have lf1 := List.length_filter_le (bitK l' 0) rows
  have lf2 := List.length_filter_le (bitK l' 1) rows
  refine ⟨S, _, hF, rfl, ok1, _, rfl, _, rfl, qb, _, 0, .ref p1, rfl, rfl, SqT.of hqb, rfl, _, rfl, _, 1, rfl, rfl, S, p1, ys, rows.filter (bitK l' 0), l', r + 1 + costP l' (rows.filter (bitK l' 1)).length, hF, by rw [← el]; rfl, SqL.of hp1, hy, hro.part, by omega, by omega, G.less ok1 (by omega), fun v1 H2 x2 ok2 d1 => ?_⟩
  refine ⟨_, rfl, _, rfl, qb, _, 1, .ref p2, rfl, rfl, SqT.of (x2.tup hqb), rfl, _, rfl, _, 1, rfl, rfl, S, p2, zs, rows.filter (bitK l' 1), l', r + 1, hF, by rw [← el]; rfl, SqL.of (x2.lst hp2), hz.gr x2.gr, hro.part, by omega, by omega, G.less ok2 (by omega), fun v2 H3 x3 ok3 d2 => ?_⟩
  refine ⟨r, "fork", _, _, v1, v2, rfl, by decide +kernel, ok3, G.mono x3.gr d1, d2, fun v H4 x4 ok4 d4 => q v H4 (((x1.trans x2).trans x3).trans x4) ok4 ?_⟩
  rw [partT_more h2]
  exact d4
theorem okK_part {cc : Addr} (T : Txt K mg cc) (A : SlA P w K mg base Fam) (AK : ∀ S, Fam S → HeldSlK P w K mg base 1 S) (C_none_seal : CalK P w K mg base 2 "none_seal" (spNone Fam)) (C_parted : CalK P w K mg base 1 "parted" (spParted K)) : ∀ k : Nat, CalK P w K mg base (k + 3) "part_top" (spPart K Fam k)
  | 0 => by
    exact (calK_no (P := P) (w := w) (base := base) T.d_part_top 3).imp fun vs H Q E h => by obtain ⟨_, _, _, _, _, _, _, _, _, _, _, _, z, _⟩ := h; exact absurd z.1 (Nat.not_lt_zero _)
  | k + 1 => okK_part1 T A AK C_none_seal C_parted (okK_part T A AK C_none_seal C_parted k)
theorem okK_rows {cc : Addr} (T : Txt K mg cc) (KT : K_Table K mg C) : MetK P w K mg base 1 C "rows" (spRows C) := by
  have Z := T.Z
  refine metK_of KT.cl KT.m_rows sc_Table_rows (fun vs H Q E h => ?_) (fun f cdv A' outer s H vs Q E p1 p2 h2 hr h => ?_)
  · obtain ⟨f, p, d, l, kvs, rfl, _⟩ := h
    rfl
  obtain ⟨f', p, d, l, kvs, rfl, ⟨⟨dx, hp⟩, hd, hz, hl⟩, hnd, htx, q⟩ := h
  have e16 : sizeLine = 16777216 := sizeLine_eq
  refine ⟨_, (pss_one (ps_ret (pe_callB cr_sortedKv rfl Z.sorted (by decide +kernel) (pa_cons (pe_lock (pe_lcK (own := [("key", 1), ("text", 2)]) (g := gTup K 2 (gCons (gName 1) (gCons (gName 2) gNil))) (tt := tYes) (hotK_cx h2) sc_Table_rows.nd (piK_items (pe_fld (pv 0) rfl)) (blkOk_by (N := N_Table_rows) (sc := defScope s_Table_rows) (by decide +kernel)) (fun _ _ _ _ _ p1 p2 h2 => (pg_tupK (hotK_blk h2) (pgs_cons (pg_name (i := 1) sc_Table_rows.nd rfl (Or.inl rfl)) (pgs_cons (pg_name (i := 2) sc_Table_rows.nd rfl (Or.inl rfl)) pgs_nil)))) (fun _ _ _ _ _ p1 p2 h2 => pts_nil) (fun _ _ _ _ _ p1 p2 h2 => (pe_tup (pa_cons (pv 1) (pa_cons (pv 2) pa_nil)))))) pa_nil)))), ?_⟩
  refine ⟨d, _, hd, True.intro, fun od => ?_⟩
  have ndp : p ≠ d := fun z => by rw [z, hd] at hp; cases hp
  refine ⟨_, rfl, p, C, dx, _, _, rfl, by rw [upd_ne ndp]; exact hp, KT.cl, KT.n_held, tbF_held _ _ _, d, od, convT kvs, rfl, upd_same, fun D nD => ?_⟩
  have lc : (convT kvs).length = kvs.length := by unfold convT; rw [List.length_map]
  have x0 := ExtO.dict (o := .frz od (.dK (convT kvs))) hd
  have k0 := Kp.dK (o := .frz od (.dK (convT kvs))) hd
  have hd0 : upd H d (.frz od (.dK (convT kvs))) d = some (.frz od (.dK (convT kvs))) := upd_same
  generalize upd H d (.frz od (.dK (convT kvs))) = H0 at x0 k0 hd0 nD ⊢
  have nDd : D ≠ d := fun z => by rw [z, hd0] at nD; cases nD
  have nDH : H D = none := by
    cases e : H D with
    | none => rfl
    | some o =>
      by_cases n : ∃ ks, o = .dT ks
      · obtain ⟨ks, rfl⟩ := n
        obtain ⟨m, e1⟩ := x0.grow D ks e
        rw [e1] at nD
        cases nD
      · rw [x0.keep D o nDd e fun ks z => n ⟨ks, z⟩] at nD
        cases nD
  refine lc_it walk_items (fun i H' => ∃ acc, H' d = some (.frz od (.dK (convT kvs))) ∧ Ext H0 H' ∧ Kp H0 H' ∧ H' D = some (.lst acc) ∧ KvL H' acc (kvs.take i)) ⟨[], by rw [upd_ne nDd.symm]; exact hd0, Ext.new nD, Kp.new nD, upd_same, KvL.nil⟩ (fun i H' _ ⟨_, h, _⟩ => h) ?_ ?_
  · rintro i x H1 H2 hi ⟨acc, h1, x1, k1, hD, hk⟩ ⟨t, kx, vx, rfl, nt, rfl, e1, e2⟩
    rw [lc] at hi
    obtain ⟨e, he⟩ : ∃ e, kvs[i]? = some e := ⟨kvs[i], List.getElem?_eq_getElem hi⟩
    have hc : (convT kvs)[i]? = some ((Sum.inl e.1 : Key), V.str e.2) := by unfold convT; rw [List.getElem?_map, he]; rfl
    have e1' : (convT kvs)[i]?.map (fun kv => kV kv.1) = some kx := e1
    have e2' : (convT kvs)[i]?.map Prod.snd = some vx := e2
    rw [hc] at e1' e2'
    have ek : V.int e.1 = kx := Option.some.inj e1'
    have ev : V.str e.2 = vx := Option.some.inj e2'
    subst ek ev
    have hex : txtOk e.2 = true := htx e (List.mem_of_getElem? he)
    have u1 := Ext.new (o := .tup [.int e.1, .str e.2]) nt
    have j1 := Kp.new (o := .tup [.int e.1, .str e.2]) nt
    refine ⟨t, _, rfl, SqT.of upd_same, rfl, _, _, rfl, _, _, rfl, rfl, rfl, _, rfl, _, rfl, by show 2 ≤ sizeLine; decide, fun q2 nq2 => ?_⟩
    have u2 := u1.trans (Ext.new (o := .tup [.int e.1, .str e.2]) nq2)
    have j2 := j1.trans (Kp.new (o := .tup [.int e.1, .str e.2]) nq2)
    have hD2 := u2.lst hD
    have hd2 := u2.frz h1
    have hal := hk.len
    rw [List.length_take] at hal
    have j3 := j2.trans (Kp.lst (o := .lst (acc ++ [.ref q2])) hD2)
    refine ⟨acc, hD2, by omega, acc ++ [.ref q2], by rw [upd_ne nDd.symm]; exact hd2, (x1.trans u2).mut nD, k1.trans j3, upd_same, ?_⟩
    have et : kvs.take (i + 1) = kvs.take i ++ [e] := by rw [List.take_succ, he]; rfl
    rw [et]
    exact (hk.gr j3.gr).snoc ((Kp.lst hD2) _ _ (by exact upd_same) True.intro) hex
  rintro H1 ⟨acc, h1, x1, k1, hD, hk⟩
  rw [lc, List.take_length] at hk
  refine ⟨h1, ?_⟩
  have hD3 : upd H1 d (.dK (convT kvs)) D = some (.lst acc) := by rw [upd_ne nDd]; exact hD
  have x3 : Ext H (upd H1 d (.dK (convT kvs))) := by
    refine ⟨fun a o ha n => ?_, fun a ks ha => ?_⟩
    · by_cases e : a = d
      · subst e
        rw [hd] at ha
        cases ha
        exact upd_same
      · rw [upd_ne e]
        exact x1.keep a o (x0.keep a o e ha n) n
    · have e : a ≠ d := fun z => by rw [z, hd] at ha; cases ha
      obtain ⟨m1, e1⟩ := x0.grow a ks ha
      obtain ⟨m2, e2⟩ := x1.grow a _ e1
      exact ⟨m1 ++ m2, by rw [upd_ne e, e2, List.append_assoc]⟩
  have k3 : Kp H (upd H1 d (.dK (convT kvs))) := fun a o ha st => by
    by_cases e : a = d
    · subst e
      rw [hd] at ha
      cases ha
      exact st.elim
    · rw [upd_ne e]
      exact k1 a o (k0 a o ha st) st
  have hk3 : KvL (upd H1 d (.dK (convT kvs))) acc kvs := by
    refine ⟨hk.len, fun j v e a b => ?_⟩
    obtain ⟨q', g1, g2, g3⟩ := hk.at_ j v e a b
    refine ⟨q', g1, ?_, g3⟩
    rw [upd_ne]
    · exact g2
    · rintro rfl
      rw [h1] at g2
      cases g2
  have nD3 := nDH
  generalize upd H1 d (.dK (convT kvs)) = H3 at hD3 x3 k3 hk3 ⊢
  have hal := hk3.len
  have mem : ∀ x ∈ acc, ∃ t e, x = .ref t ∧ H3 t = some (.tup [.int e.1, .str e.2]) ∧ e ∈ kvs ∧ kOf H3 x = e.1 ∧ fOf H3 x = e.2 := fun x hx => by
    obtain ⟨j, hj⟩ := List.getElem?_of_mem hx
    have hjl := (List.getElem?_eq_some_iff.mp hj).1
    have he : kvs[j]? = some (kvs[j]'(by omega)) := List.getElem?_eq_getElem _
    obtain ⟨t, rfl, ht, _⟩ := hk3.at_ j x _ hj he
    exact ⟨t, _, rfl, ht, List.mem_of_getElem? he, (kOf_at ht).1, (kOf_at ht).2⟩
  have mapk : acc.map (fun x => (kOf H3 x, fOf H3 x)) = kvs := by
    apply List.ext_getElem?
    intro j
    rw [List.getElem?_map]
    cases hj : acc[j]? with
    | none =>
      have := List.getElem?_eq_none_iff.mp hj
      rw [List.getElem?_eq_none (by omega)]
      rfl
    | some x =>
      have hjl := (List.getElem?_eq_some_iff.mp hj).1
      have he : kvs[j]? = some (kvs[j]'(by omega)) := List.getElem?_eq_getElem _
      obtain ⟨t, rfl, ht, _⟩ := hk3.at_ j x _ hj he
      rw [he]
      show some (kOf H3 (.ref t), fOf H3 (.ref t)) = _
      rw [(kOf_at ht).1, (kOf_at ht).2]
  refine ⟨D, acc, kOf H3, fOf H3, rfl, SqL.of hD3, fun x hx => ?_, fun x hx y hy e => ?_, fun ys p2 perm pw np => ?_⟩
  · obtain ⟨t, e, h1, h2, _, h4, h5⟩ := mem x hx
    exact ⟨t, h1, by rw [h4, h5]; exact h2⟩
  · obtain ⟨t, e1, _, _, h3, h4, h5⟩ := mem x hx
    obtain ⟨t', e2, _, _, g3, g4, g5⟩ := mem y hy
    rw [h4, g4] at e
    have := nodup_key hnd h3 g3 e
    rw [h5, g5, this]
  · have u := Ext.new (o := .lst ys) np
    refine q p2 ys (ys.map fun x => (kOf H3 x, fOf H3 x)) _ (x3.trans u) (k3.trans (Kp.new np)) (x3.free np) upd_same ⟨by rw [List.length_map], fun j v e a b => ?_⟩ ?_ ?_
    · rw [List.getElem?_map, a] at b
      obtain ⟨t, e', h1, h2, h3, h4, h5⟩ := mem v (perm.mem_iff.mp (List.mem_of_getElem? a))
      have eb := Option.some.inj b
      subst eb
      refine ⟨t, h1, u.tup ?_, ?_⟩
      · show H3 t = some (.tup [.int (kOf H3 v), .str (fOf H3 v)])
        rw [h4, h5]
        exact h2
      · show txtOk (fOf H3 v) = true
        rw [h5]
        exact htx _ h3
    · have := perm.map fun x => (kOf H3 x, fOf H3 x)
      rwa [mapk] at this
    · exact List.pairwise_map.mpr pw
theorem okK_table_seal {cc : Addr} (T : Txt K mg cc) (A : SlA P w K mg base Fam) (AK : ∀ S, Fam S → HeldSlK P w K mg base 1 S) : CalK P w K mg base 2 "table_seal" (spMark "table" Fam) := by
  refine calK_of T.d_table_seal sc_table_seal (fun vs H Q E h => ?_) (fun f cdv A' outer s H vs Q E p1 p2 h2 hr h => ?_)
  · obtain ⟨S, va, vb, a, b, r, _, rfl, _⟩ := h
    rfl
  obtain ⟨S, va, vb, a, b, r, hF, rfl, hok, ha, hb, q⟩ := h
  refine ⟨_, (pss_one (ps_ret (pe_slK (i := 0) AK (hotK_cx h2) hr (by omega) rfl (by first | exact Or.inl rfl | exact Or.inr (Or.inl rfl) | exact Or.inr (Or.inr rfl)) (pa_cons pe_str (pa_cons (pv 1) (pa_cons (pv 2) pa_nil)))))), ?_⟩
  exact ⟨S, _, hF, rfl, hok, _, rfl, _, rfl, r, "table", a, b, _, _, rfl, by decide +kernel, hok, ha, hb, fun v H' e ok d => q v H' e ok d⟩
theorem okK_thead {cc : Addr} (T : Txt K mg cc) (A : SlA P w K mg base Fam) (AK : ∀ S, Fam S → HeldSlK P w K mg base 1 S) (KT : K_Table K mg C) : MetK P w K mg base 25 C "head" (spTHead C Fam) := by
  have C_table_seal := okK_table_seal T A AK
  have C_part_top := okK_part T A AK (okK_none_seal T A AK) (okK_parted T) 21
  have M_rows := okK_rows (P := P) (w := w) (base := base) T KT
  refine metK_of KT.cl KT.m_head sc_Table_head (fun vs H Q E h => ?_) (fun f cdv A' outer s H vs Q E p1 p2 h2 hr h => ?_)
  · obtain ⟨S, p, d, l, kvs, r, _, rfl, _⟩ := h
    rfl
  obtain ⟨S, p, d, l, kvs, r, hF, rfl, ⟨⟨dx, hp⟩, hd, hz, hl'⟩, hk, hl, hok, q⟩ := h
  have G := A.good hF
  refine ⟨_, (pss_one (ps_ret (pe_cK C_table_seal (hotK_cx h2) hr (by omega) rfl (pa_cons (pe_fld (pv 0) rfl) (pa_cons (pe_fld (pv 0) rfl) (pa_cons (pe_cK C_part_top (hotK_cx h2) hr (by omega) rfl (pa_cons (pe_fld (pv 0) rfl) (pa_cons (pe_mtK0 M_rows (hotK_cx h2) hr (by omega) (pv 0)) (pa_cons (pe_fld (pv 0) rfl) pa_nil)))) pa_nil)))))), ?_⟩
  refine ⟨_, rfl, p, C, dx, _, _, rfl, hp, KT.cl, KT.n_seal, tbF_seal _ _ _, _, rfl, p, C, dx, _, _, rfl, hp, KT.cl, KT.n_depth, tbF_depth _ _ _, _, rfl, p, C, dx, _, _, rfl, hp, KT.cl, KT.n_seal, tbF_seal _ _ _, ?_⟩
  refine ⟨_, rfl, p, dx, _, rfl, hp, (tbF_no _ _ _).2.2.2.2.1, S.f, p, d, l, kvs, rfl, ⟨⟨dx, hp⟩, hd, hz, hl'⟩, hk.nd, hk.tx, fun qr ys rows H1 x1 k1 nq hqr hrows perm pw => ?_⟩
  refine ⟨_, rfl, p, C, dx, _, _, rfl, x1.ins hp, KT.cl, KT.n_depth, tbF_depth _ _ _, S, qr, ys, rows, l, r + 1, hF, rfl, SqL.of hqr, hrows, rows_ok hk perm, by rw [perm.length_eq]; omega, by omega, by rw [perm.length_eq]; exact G.keep k1 hok, fun v H2 x2 ok2 d2 => ?_⟩
  exact ⟨S, .int (l : Int), v, .int (l : Int), partT l rows, r, hF, rfl, ok2, G.int _ ok2, d2, fun u H3 x3 ok3 d3 => q u rows H3 ((x1.trans x2).trans x3) ok3 perm pw d3⟩
theorem okK_lawpart1 {cc : Addr} {k : Nat} (T : Txt K mg cc) (A : SlA P w K mg base Fam) (AK : ∀ S, Fam S → HeldSlK P w K mg base 1 S) (C__law_part : CalK P w K mg base (k + 2) "_law_part" (spPart K Fam k)) : CalK P w K mg base (k + 3) "_law_part" (spPart K Fam (k + 1)) := by
  have Z := T.Z
  refine calK_of T.d__law_part sc__law_part (fun vs H Q E h => ?_) (fun f cdv A' outer s H vs Q E p1 p2 h2 hr h => ?_)
  · obtain ⟨S, a, xs, rows, l, r, _, rfl, _⟩ := h
    rfl
  obtain ⟨S, a, xs, rows, l, r, hF, rfl, hS, hk, hro, hl, hlk, hok, q⟩ := h
  have G := A.good hF
  have hxl := hk.len
  have e16 : sizeLine = 16777216 := sizeLine_eq
  have hkk : k ≤ 1000 := by
    have := hr.dp
    have e0 : recursionLimit = 1000 := rfl
    omega
  refine ⟨_, (pss_cons (ps_if (pt_cmpR op_eq (pe_callB call_len_seq rfl Z.len PySem.boot_len (pa_cons (pv 1) pa_nil)) pe_int (nomark _)) (pss_one (ps_ret (pe_slK (i := 0) AK (hotK_cx h2) hr (by omega) rfl (by first | exact Or.inl rfl | exact Or.inr (Or.inl rfl) | exact Or.inr (Or.inr rfl)) (pa_cons pe_str (pa_cons pe_int (pa_cons pe_int pa_nil)))))) pss_nil)
  (pss_cons (ps_if (pt_cmpR op_eq (pe_callB call_len_seq rfl Z.len PySem.boot_len (pa_cons (pv 1) pa_nil)) pe_int (nomark _)) (pss_one (ps_ret (pe_slK (i := 0) AK (hotK_cx h2) hr (by omega) rfl (by first | exact Or.inl rfl | exact Or.inr (Or.inl rfl) | exact Or.inr (Or.inr rfl)) (pa_cons pe_str (pa_cons (pe_ix ix_tup (pe_ix ix_list (pv 1) pe_int (fun _ _ => rfl)) pe_int (fun _ _ => rfl)) (pa_cons (pe_ix ix_tup (pe_ix ix_list (pv 1) pe_int (fun _ _ => rfl)) pe_int (fun _ _ => rfl)) pa_nil)))))) pss_nil)
  (pss_cons (ps_set (i := 3) sc__law_part.nd rfl (Or.inr rfl) (pe_op op_oneShl pe_int (pe_op op_sub (pv 2) pe_int)))
  (pss_cons (ps_setLcK (i := 4) (own := [("_law_row", 6)]) (g := gName 6) (tt := _) (hotK_cx h2) sc__law_part.nd rfl rfl (sw_true rfl rfl rfl (by decide +kernel)) (piK_list (pv 1)) (blkOk_by (N := N__law_part) (sc := defScope s__law_part) (by decide +kernel)) (fun _ _ _ _ _ p1 p2 h2 => (pg_name (i := 6) sc__law_part.nd rfl (Or.inl rfl))) (fun _ _ _ _ _ p1 p2 h2 => (pts_one (pt_cmpR op_eq (pe_op op_mod (pe_op op_fdiv (pe_ix (r := rIxT K) ix_tup (pv 6) pe_int (fun _ _ => rfl)) (pv 3)) pe_int) pe_int (nomark _)))) (fun _ _ _ _ _ p1 p2 h2 => (pv 6)))
  (pss_cons (ps_setLcK (i := 5) (own := [("_law_row", 6)]) (g := gName 6) (tt := _) (hotK_cx h2) sc__law_part.nd rfl rfl (sw_true rfl rfl rfl (by decide +kernel)) (piK_list (pv 1)) (blkOk_by (N := N__law_part) (sc := defScope s__law_part) (by decide +kernel)) (fun _ _ _ _ _ p1 p2 h2 => (pg_name (i := 6) sc__law_part.nd rfl (Or.inl rfl))) (fun _ _ _ _ _ p1 p2 h2 => (pts_one (pt_cmpR op_eq (pe_op op_mod (pe_op op_fdiv (pe_ix (r := rIxT K) ix_tup (pv 6) pe_int (fun _ _ => rfl)) (pv 3)) pe_int) pe_int (nomark _)))) (fun _ _ _ _ _ p1 p2 h2 => (pv 6)))
  (pss_one (ps_ret (pe_slK (i := 0) AK (hotK_cx h2) hr (by omega) rfl (by first | exact Or.inl rfl | exact Or.inr (Or.inl rfl) | exact Or.inr (Or.inr rfl)) (pa_cons pe_str (pa_cons (pe_cK C__law_part (hotK_cx h2) hr (by omega) rfl (pa_cons (pv 0) (pa_cons (pv 4) (pa_cons (pe_op op_sub (pv 2) pe_int) pa_nil)))) (pa_cons (pe_cK C__law_part (hotK_cx h2) hr (by omega) rfl (pa_cons (pv 0) (pa_cons (pv 5) (pa_cons (pe_op op_sub (pv 2) pe_int) pa_nil)))) pa_nil))))))))))), ?_⟩
  refine ⟨_, rfl, a, xs, rfl, .inl hS, rfl, _, rfl, ite2 (fun c => ?_) (fun c => ?_)⟩
  · have c' : (xs.length : Int) = 0 := V.int.inj (of_decide_eq_true c)
    have e : rows = [] := List.eq_nil_of_length_eq_zero (by omega)
    subst e
    refine ⟨S, _, hF, rfl, hok, r, "none", .int 0, .int 0, _, _, rfl, by decide +kernel, hok, G.int 0 hok, G.int 0 hok, fun v H' x ok d => q v H' x ok ?_⟩
    rw [partT_nil]
    exact d
  have n0 : xs.length ≠ 0 := fun z => c (decide_eq_true (by rw [z] <;> rfl))
  have cpos : costP l rows.length = rows.length * (2 * l + 1) := if_neg (by omega)
  refine ⟨_, rfl, a, xs, rfl, .inl hS, rfl, _, rfl, ite2 (fun c => ?_) (fun c => ?_)⟩
  · have c' : (xs.length : Int) = 1 := V.int.inj (of_decide_eq_true c)
    match rows, hk, hxl, q, cpos, hok with
    | [e], hk, hxl, q, cpos, hok =>
      obtain ⟨v0, hv0⟩ : ∃ v0, xs[0]? = some v0 := ⟨xs[0]'(by omega), List.getElem?_eq_getElem _⟩
      obtain ⟨qe, rfl, hqe, hqx⟩ := hk.at_ 0 v0 e hv0 rfl
      have h1 : 1 ≤ costP l ([e] : List (Int × Str)).length := by rw [cpos]; show 1 ≤ 1 * _; omega
      refine ⟨S, _, hF, rfl, hok, _, rfl, a, xs, 0, _, rfl, rfl, hS, atI_nat hv0, qe, _, 0, _, rfl, rfl, SqT.of hqe, rfl, _, rfl, a, xs, 0, _, rfl, rfl, hS, atI_nat hv0, qe, _, 1, _, rfl, rfl, SqT.of hqe, rfl, r, "row", .int e.1, .str e.2, _, _, rfl, by decide +kernel, G.less hok (by omega), G.int _ hok, G.str _ hok hqx, fun v H' x ok d => q v H' x ok ?_⟩
      rw [partT_one]
      exact d
    | [], _, hxl, _, _, _ => exact absurd hxl n0
    | _ :: _ :: _, _, hxl, _, _, _ => simp at hxl; omega
  have n1 : xs.length ≠ 1 := fun z => c (decide_eq_true (by rw [z] <;> rfl))
  have h2 : 2 ≤ rows.length := by omega
  obtain ⟨l', rfl⟩ : ∃ l', l = l' + 1 := by
    cases l with
    | zero => have := hro.zero; omega
    | succ l' => exact ⟨l', rfl⟩
  have el : ((l' + 1 : Nat) : Int) - 1 = (l' : Int) := by omega
  have hsp := filter_split (rows := rows) l'
  have hcs := costP_split (l := l') hsp h2
  have hM : (0 : Int) < 2 ^ l' := Int.pow_pos (by decide)
  have hM2 : (2 : Int) ^ l' < 1073741824 := by
    have h1 : 2 ^ l' ≤ 2 ^ 20 := Nat.pow_le_pow_right (by decide) (by omega)
    have h2 : ((2 ^ l' : Nat) : Int) = 2 ^ l' := by rw [Int.natCast_pow]; rfl
    have h3 : (2 : Nat) ^ 20 = 1048576 := rfl
    omega
  refine ⟨_, rfl, _, 1, rfl, rfl, l', rfl, by rw [← el], by omega, ?_⟩
  -- the two parts
  refine ⟨_, rfl, a, rfl, ⟨_, hS⟩, fun D nD => ?_⟩
  refine lc_list (K := K) (a := a) (xs := xs) (fun i H' => ∃ ys, Ext H H' ∧ Kp H H' ∧ H' D = some (.lst ys) ∧ KvL H' ys ((rows.take i).filter (bitK l' 0))) ⟨[], Ext.new nD, Kp.new nD, upd_same, KvL.nil⟩ (fun i H' _ ⟨_, x, _⟩ => x.seq hS) ?_ ?_
  · rintro i y H' hi ⟨ys, x, k, hD, hy⟩
    have hlt := (List.getElem?_eq_some_iff.mp hi).1
    have hri : rows[i]? = some (rows[i]'(by omega)) := List.getElem?_eq_getElem _
    obtain ⟨qe, rfl, hqe, hqx⟩ := (hk.gr x.gr).at_ i y _ hi hri
    generalize rows[i]'(by omega) = e at hri hqe hqx
    refine ⟨rfl, _, rfl, qe, _, 0, _, rfl, rfl, SqT.of hqe, rfl, _, rfl, _, _, rfl, rfl, ⟨hM, hM2⟩, _, 2, rfl, rfl, by show (0 : Int) < 2; decide, rfl, _, rfl, ite2 (fun c => ?_) (fun c => ?_)⟩
    · have c' : e.1 / 2 ^ l' % 2 = 0 := V.int.inj (of_decide_eq_true c)
      have hb : bitK l' 0 e = true := decide_eq_true c'
      refine ⟨_, rfl, ys, hD, ?_, ys ++ [.ref qe], x.mut nD, k.trans (Kp.lst hD), upd_same, ?_⟩
      · have := hy.len
        have := List.length_filter_le (bitK l' 0) (rows.take i)
        rw [List.length_take] at this
        omega
      · rw [take_filter _ _ hri, hb]
        exact (hy.gr (Kp.lst hD).gr).snoc ((Kp.lst hD) _ _ hqe True.intro) hqx
    · have c' : ¬ e.1 / 2 ^ l' % 2 = 0 := fun z => c (decide_eq_true (congrArg V.int z))
      have hb : bitK l' 0 e = false := decide_eq_false c'
      refine ⟨ys, x, k, hD, ?_⟩
      rw [take_filter _ _ hri, hb]
      simpa using hy
  rintro H1 ⟨ys, x1, k1, hD1, hy1⟩
  rw [hxl, List.take_length] at hy1
  refine ⟨_, rfl, a, rfl, ⟨_, x1.seq hS⟩, fun D2 nD2 => ?_⟩
  refine lc_list (K := K) (a := a) (xs := xs) (fun i H' => ∃ zs, Ext H1 H' ∧ Kp H1 H' ∧ H' D2 = some (.lst zs) ∧ KvL H' zs ((rows.take i).filter (bitK l' 1))) ⟨[], Ext.new nD2, Kp.new nD2, upd_same, KvL.nil⟩ (fun i H' _ ⟨_, x, _⟩ => (x1.trans x).seq hS) ?_ ?_
  · rintro i y H' hi ⟨zs, x, k, hD, hy⟩
    have hlt := (List.getElem?_eq_some_iff.mp hi).1
    have hri : rows[i]? = some (rows[i]'(by omega)) := List.getElem?_eq_getElem _
    obtain ⟨qe, rfl, hqe, hqx⟩ := (hk.gr (x1.trans x).gr).at_ i y _ hi hri
    generalize rows[i]'(by omega) = e at hri hqe hqx
    refine ⟨rfl, _, rfl, qe, _, 0, _, rfl, rfl, SqT.of hqe, rfl, _, rfl, _, _, rfl, rfl, ⟨hM, hM2⟩, _, 2, rfl, rfl, by show (0 : Int) < 2; decide, rfl, _, rfl, ite2 (fun c => ?_) (fun c => ?_)⟩
    · have c' : e.1 / 2 ^ l' % 2 = 1 := V.int.inj (of_decide_eq_true c)
      have hb : bitK l' 1 e = true := decide_eq_true c'
      refine ⟨_, rfl, zs, hD, ?_, zs ++ [.ref qe], x.mut nD2, k.trans (Kp.lst hD), upd_same, ?_⟩
      · have := hy.len
        have := List.length_filter_le (bitK l' 1) (rows.take i)
        rw [List.length_take] at this
        omega
      · rw [take_filter _ _ hri, hb]
        exact (hy.gr (Kp.lst hD).gr).snoc ((Kp.lst hD) _ _ hqe True.intro) hqx
    · have c' : ¬ e.1 / 2 ^ l' % 2 = 1 := fun z => c (decide_eq_true (congrArg V.int z))
      have hb : bitK l' 1 e = false := decide_eq_false c'
      refine ⟨zs, x, k, hD, ?_⟩
      rw [take_filter _ _ hri, hb]
      simpa using hy
  rintro H2 ⟨zs, x2, k2, hD2, hy2⟩
  rw [hxl, List.take_length] at hy2
  have ok2 := G.keep (k1.trans k2) hok
  have lf1 := List.length_filter_le (bitK l' 0) rows
  have lf2 := List.length_filter_le (bitK l' 1) rows
  refine ⟨S, _, hF, rfl, ok2, _, rfl, _, rfl, _, rfl, _, 1, rfl, rfl, S, D, ys, rows.filter (bitK l' 0), l', r + 1 + costP l' (rows.filter (bitK l' 1)).length, hF, by rw [← el]; rfl, SqL.of (x2.lst hD1), hy1.gr x2.gr, hro.part, by omega, by omega, G.less ok2 (by omega), fun v1 H3 x3 ok3 d1 => ?_⟩
  refine ⟨_, rfl, _, rfl, _, rfl, _, 1, rfl, rfl, S, D2, zs, rows.filter (bitK l' 1), l', r + 1, hF, by rw [← el]; rfl, SqL.of (x3.lst hD2), hy2.gr x3.gr, hro.part, by omega, by omega, G.less ok3 (by omega), fun v2 H4 x4 ok4 d2 => ?_⟩
  refine ⟨r, "fork", _, _, v1, v2, rfl, by decide +kernel, ok4, G.mono x4.gr d1, d2, fun v H5 x5 ok5 d5 => q v H5 ((((x1.trans x2).trans x3).trans x4).trans x5) ok5 ?_⟩
  rw [partT_more h2]
  exact d5
theorem okK_lawpart {cc : Addr} (T : Txt K mg cc) (A : SlA P w K mg base Fam) (AK : ∀ S, Fam S → HeldSlK P w K mg base 1 S) : ∀ k : Nat, CalK P w K mg base (k + 2) "_law_part" (spPart K Fam k)
  | 0 => by
    exact (calK_no (P := P) (w := w) (base := base) T.d__law_part 2).imp fun vs H Q E h => by obtain ⟨_, _, _, _, _, _, _, _, _, _, _, _, z, _⟩ := h; exact absurd z.1 (Nat.not_lt_zero _)
  | k + 1 => okK_lawpart1 T A AK (okK_lawpart T A AK k)
theorem okK_ltable {cc : Addr} (T : Txt K mg cc) (A : SlA P w K mg base Fam) (AK : ∀ S, Fam S → HeldSlK P w K mg base 1 S) : CalK P w K mg base 25 "_law_table" (spLTable Fam) := by
  have Z := T.Z
  have C__law_part := okK_lawpart (P := P) (w := w) (base := base) T A AK 21
  refine calK_of T.d__law_table sc__law_table (fun vs H Q E h => ?_) (fun f cdv A' outer s H vs Q E p1 p2 h2 hr h => ?_)
  · obtain ⟨S0, dl, l, kvs, r, _, rfl, _⟩ := h
    rfl
  obtain ⟨S0, dl, l, kvs, r, hF, rfl, hdl, hk, hl, h62, hok, q⟩ := h
  have hu := huK_of hr
  have G := A.good hF
  have e16 : sizeLine = 16777216 := sizeLine_eq
  refine ⟨_, (pss_one (ps_ret (pe_slK (i := 0) AK (hotK_cx h2) hr (by omega) rfl (by first | exact Or.inl rfl | exact Or.inr (Or.inl rfl) | exact Or.inr (Or.inr rfl)) (pa_cons pe_str (pa_cons (pv 2) (pa_cons (pe_cK C__law_part (hotK_cx h2) hr (by omega) rfl (pa_cons (pv 0) (pa_cons (pe_lcK (own := [("_law_key", 3)]) (g := gName 3) (tt := tYes) (hotK_cx h2) sc__law_table.nd (piK_list (pe_callB (call_sortedDIK (hotK_cx h2)) rfl Z.sorted (by decide +kernel) (pa_cons (pv 1) pa_nil))) (blkOk_by (N := N__law_table) (sc := defScope s__law_table) (by decide +kernel)) (fun _ _ _ _ _ p1 p2 h2 => (pg_name (i := 3) sc__law_table.nd rfl (Or.inl rfl))) (fun _ _ _ _ _ p1 p2 h2 => pts_nil) (fun _ _ _ _ _ p1 p2 h2 => (pe_tup (pa_cons (pv 3) (pa_cons (pe_dget hu (pv 1) (pv 3) (fun _ _ => rfl)) pa_nil))))) (pa_cons (pv 2) pa_nil)))) pa_nil)))))), ?_⟩
  have ek : (convT kvs).map (·.1) = (kvs.map (·.1)).map Sum.inl := by unfold convT; rw [List.map_map, List.map_map]; rfl
  refine ⟨S0, _, hF, rfl, hok, _, rfl, _, rfl, _, rfl, dl, convT kvs, kvs.map (·.1), rfl, .inl hdl, ek, by rw [List.length_map]; omega, fun ks a pm pw na => ?_⟩
  have x1 := Ext.new (o := .lst (ks.map V.int)) na
  have k1 := Kp.new (o := .lst (ks.map V.int)) na
  have ha : upd H a (.lst (ks.map V.int)) a = some (.lst (ks.map V.int)) := upd_same
  have hdl1 := x1.dK hdl
  generalize upd H a (.lst (ks.map V.int)) = H1 at x1 k1 ha hdl1 ⊢
  refine ⟨a, rfl, ⟨_, SqL.of ha⟩, fun D nD => ?_⟩
  have hrow : ∀ x ∈ ks, ∃ t, getI kvs x = some t ∧ (x, t) ∈ kvs := fun x hx => getI_mem (pm.mem_iff.mp hx)
  refine lc_list (K := K) (a := a) (xs := ks.map V.int) (fun i H' => ∃ ys, Ext H1 H' ∧ Kp H1 H' ∧ H' D = some (.lst ys) ∧ KvL H' ys ((ks.take i).map fun x => (x, (getI kvs x).getD ""))) ⟨[], Ext.new nD, Kp.new nD, upd_same, KvL.nil⟩ (fun i H' _ ⟨_, x, _⟩ => SqL.of (x.lst ha)) ?_ ?_
  · rintro i y H' hi ⟨ys, x, k, hD, hy⟩
    rw [List.getElem?_map] at hi
    obtain ⟨z, hz, rfl⟩ := Option.map_eq_some_iff.mp hi
    obtain ⟨t, ht1, ht2⟩ := hrow z (List.mem_of_getElem? hz)
    have hg : DGet H' dl (V.int z) (some (V.str t)) := by
      have g := DGet.k (k := .inl z) (x.dK hdl1)
      rw [conv_get, ht1] at g
      exact g
    refine ⟨rfl, _, rfl, _, rfl, _, rfl, dl, .str t, rfl, hg, by show 2 ≤ sizeLine; decide, fun q2 nq2 => ?_⟩
    have u1 := Ext.new (o := .tup [.int z, .str t]) nq2
    have j1 := Kp.new (o := .tup [.int z, .str t]) nq2
    have hD2 := u1.lst hD
    have nD2 : q2 ≠ D := fun e => by rw [e, hD] at nq2; cases nq2
    refine ⟨ys, hD2, ?_, ys ++ [.ref q2], (x.trans u1).mut nD, (k.trans j1).trans (Kp.lst hD2), upd_same, ?_⟩
    · have e1 := hy.len
      rw [List.length_map, List.length_take] at e1
      have e2 := pm.length_eq
      rw [List.length_map] at e2
      omega
    · rw [List.take_succ, hz, List.map_append]
      have ex : (getI kvs z).getD "" = t := by rw [ht1]; rfl
      show KvL _ _ (_ ++ [(z, (getI kvs z).getD "")])
      rw [ex]
      exact (hy.gr (j1.trans (Kp.lst hD2)).gr).snoc (by rw [upd_ne nD2]; exact upd_same) (hk.tx _ ht2)
  rintro H2 ⟨ys, x2, k2, hD, hy⟩
  rw [List.length_map, List.take_length] at hy
  have pr := keys_rows hk.nd pm
  have sr : (ks.map fun x => (x, (getI kvs x).getD "")).Pairwise fun a b => a.1 ≤ b.1 := List.pairwise_map.mpr pw
  rw [srt_eq hk (List.Perm.refl _) pr sr] at hy
  have pr := srt_perm kvs
  have rl := pr.length_eq
  have cp := costP_le hl (show kvs.length ≤ 120 by omega)
  refine ⟨_, rfl, S0, D, ys, srtI kvs, l, r + 1, hF, rfl, SqL.of hD, hy, rows_ok hk pr, by omega, by omega, by rw [rl]; exact G.less (G.keep (k1.trans k2) hok) (by omega), fun v H3 x3 ok3 d3 => ?_⟩
  exact ⟨r, "table", .int (l : Int), partT l (srtI kvs), _, _, rfl, by decide +kernel, ok3, G.int _ ok3, d3, fun u H4 x4 ok4 d4 => q u H4 (((x1.trans x2).trans x3).trans x4) ok4 d4⟩
theorem okK_right10 {cc : Addr} (T : Txt K mg cc) (A : SlA P w K mg base Fam) (AK : ∀ S, Fam S → HeldSlK P w K mg base 1 S) (KT : K_Table K mg C) : CalK P w K mg base 26 "_law_right" (spRight10 C Fam) := by
  have Z := T.Z
  have M_rows := okK_rows (P := P) (w := w) (base := base) T KT
  have M_head := okK_thead (P := P) (w := w) (base := base) T A AK KT
  have C__law_table := okK_ltable (P := P) (w := w) (base := base) T A AK
  refine calK_of T.d__law_right sc__law_right (fun vs H Q E h => ?_) (fun f cdv A' outer s H vs Q E p1 p2 h2 hr h => ?_)
  · obtain ⟨S, p, d, dl, l, kv, kvs, r, _, rfl, _⟩ := h
    rfl
  obtain ⟨S, p, d, dl, l, kv, kvs, r, hF, rfl, ht, hkv, hper, hdl, hk, hl, h119, hok, q⟩ := h
  have hu := huK_of hr
  have G := A.good hF
  have e16 : sizeLine = 16777216 := sizeLine_eq
  refine ⟨_, (pss_one (ps_ret (pe_and (pe_cmpR (op_eqD (unitsK hr)) (pe_mtK0 M_rows (hotK_cx h2) hr (by omega) (pv 1)) (pe_lcK (own := [("_law_key", 4)]) (g := gName 4) (tt := tYes) (hotK_cx h2) sc__law_right.nd (piK_list (pe_callB (call_sortedDIK (hotK_cx h2)) rfl Z.sorted (by decide +kernel) (pa_cons (pv 2) pa_nil))) (blkOk_by (N := N__law_right) (sc := defScope s__law_right) (by decide +kernel)) (fun _ _ _ _ _ p1 p2 h2 => (pg_name (i := 4) sc__law_right.nd rfl (Or.inl rfl))) (fun _ _ _ _ _ p1 p2 h2 => pts_nil) (fun _ _ _ _ _ p1 p2 h2 => (pe_tup (pa_cons (pv 4) (pa_cons (pe_dget hu (pv 2) (pv 4) (fun _ _ => rfl)) pa_nil))))) (nomark _)) (pe_one (pe_cmpR (op_eqD (unitsK hr)) (pe_mtK0 M_head (hotK_cx h2) hr (by omega) (pv 1)) (pe_cK C__law_table (hotK_cx h2) hr (by omega) rfl (pa_cons (pv 0) (pa_cons (pv 2) (pa_cons (pv 3) pa_nil)))) (nomark _)))))), ?_⟩
  have ek : (convT kvs).map (·.1) = (kvs.map (·.1)).map Sum.inl := by unfold convT; rw [List.map_map, List.map_map]; rfl
  obtain ⟨⟨dx, hp⟩, hd, hz, hl'⟩ := id ht
  refine ⟨_, rfl, p, dx, _, rfl, hp, (tbF_no _ _ _).2.2.2.2.1, S.f, p, d, l, kv, rfl, ht, hkv.nd, hkv.tx, fun q3 zs rows3 H3 x3 k3 n3 h3 hz3 pm3 pw3 => ?_⟩
  have hdl3 := x3.dK hdl
  refine ⟨_, rfl, dl, convT kvs, kvs.map (·.1), rfl, .inl hdl3, ek, by rw [List.length_map]; omega, fun ks a pm pw na => ?_⟩
  have x1 := Ext.new (o := .lst (ks.map V.int)) na
  have k1 := Kp.new (o := .lst (ks.map V.int)) na
  have ha : upd H3 a (.lst (ks.map V.int)) a = some (.lst (ks.map V.int)) := upd_same
  have hdl1 := x1.dK hdl3
  have h31 := x1.lst h3
  have hz1 := hz3.gr x1.gr
  generalize upd H3 a (.lst (ks.map V.int)) = H1 at x1 k1 ha hdl1 h31 hz1 ⊢
  refine ⟨a, rfl, ⟨_, SqL.of ha⟩, fun D nD => ?_⟩
  have hrow : ∀ x ∈ ks, ∃ t, getI kvs x = some t ∧ (x, t) ∈ kvs := fun x hx => getI_mem (pm.mem_iff.mp hx)
  refine lc_list (K := K) (a := a) (xs := ks.map V.int) (fun i H' => ∃ ys, Ext H1 H' ∧ Kp H1 H' ∧ H' D = some (.lst ys) ∧ KvL H' ys ((ks.take i).map fun x => (x, (getI kvs x).getD ""))) ⟨[], Ext.new nD, Kp.new nD, upd_same, KvL.nil⟩ (fun i H' _ ⟨_, x, _⟩ => SqL.of (x.lst ha)) ?_ ?_
  · rintro i y H' hi ⟨ys, x, k, hD, hy⟩
    rw [List.getElem?_map] at hi
    obtain ⟨z, hz', rfl⟩ := Option.map_eq_some_iff.mp hi
    obtain ⟨t, ht1, ht2⟩ := hrow z (List.mem_of_getElem? hz')
    have e1 := x.dK hdl1
    refine ⟨rfl, _, rfl, ?_⟩
    have hg : DGet H' dl (V.int z) (some (V.str t)) := by
      have g := DGet.k (k := .inl z) e1
      rw [conv_get, ht1] at g
      exact g
    refine ⟨_, rfl, _, rfl, dl, .str t, rfl, hg, by show 2 ≤ sizeLine; decide, fun q2 nq2 => ?_⟩
    have u1 := Ext.new (o := .tup [.int z, .str t]) nq2
    have j1 := Kp.new (o := .tup [.int z, .str t]) nq2
    have nD2 : q2 ≠ D := fun e => by rw [e, hD] at nq2; cases nq2
    have hD2 : upd H' q2 (.tup [.int z, .str t]) D = some (.lst ys) := by rw [upd_ne nD2.symm]; exact hD
    refine ⟨ys, hD2, ?_, ys ++ [.ref q2], (x.trans u1).mut nD, (k.trans j1).trans (Kp.lst hD2), upd_same, ?_⟩
    · have e1 := hy.len
      rw [List.length_map, List.length_take] at e1
      have e2 := pm.length_eq
      rw [List.length_map] at e2
      omega
    · rw [List.take_succ, hz', List.map_append]
      have ex : (getI kvs z).getD "" = t := by rw [ht1]; rfl
      show KvL _ _ (_ ++ [(z, (getI kvs z).getD "")])
      rw [ex]
      exact (hy.gr (j1.trans (Kp.lst hD2)).gr).snoc (by rw [upd_ne nD2]; exact upd_same) (hk.tx _ ht2)
  rintro H2 ⟨ys, x2, k2, hD, hy⟩
  rw [List.length_map, List.take_length] at hy
  have pr := keys_rows hk.nd pm
  have sr : (ks.map fun x => (x, (getI kvs x).getD "")).Pairwise fun a b => a.1 ≤ b.1 := List.pairwise_map.mpr pw
  generalize (ks.map fun x => (x, (getI kvs x).getD "")) = rows at hy pr sr
  have er : rows3 = rows := (srt_eq hk hper pm3 pw3).trans (srt_eq hk (List.Perm.refl _) pr sr).symm
  subst er
  have x13 := x3.trans (x1.trans x2)
  obtain ⟨dd, dp1, dp2, sh, eq⟩ := kv_eqd (K := K) (SqL.of (x2.lst h31)) (SqL.of hD) (hz1.gr x2.gr) hy
  refine ⟨dd, dd, dp1, dp2, sh, sh, ?_⟩
  rw [eq]
  refine ⟨_, rfl, iteT ?_⟩
  have ok2 := G.keep ((k3.trans k1).trans k2) hok
  have ht2 := ht.ext x13
  obtain ⟨⟨dx', hp'⟩, _⟩ := id ht2
  have hc := costP_le (l := l) (n := kv.length) hl (by rw [hper.length_eq]; omega)
  refine ⟨_, rfl, p, dx', _, rfl, hp', (tbF_no _ _ _).2.2.2.2.2.1, S, p, d, l, kv, r + 4004, hF, rfl, ht2, hkv, by omega, G.less ok2 (by omega), fun v rows4 H6 x6 ok6 pm4 pw4 dv => ?_⟩
  refine ⟨_, rfl, _, rfl, _, rfl, S, dl, l, kvs, r, hF, rfl, x6.dK (x2.dK hdl1), hk, hl, h119, G.less ok6 (by omega), fun v2 H7 x7 ok7 d7 => ?_⟩
  have er : rows4 = srtI kvs := srt_eq hk hper pm4 pw4
  subst er
  have hdep : (headT l kvs).dep ≤ 60 := by
    have := partT_dep l (srtI kvs)
    unfold headT
    simp only [Tm.dep]
    omega
  obtain ⟨dd2, a1, a2, sh2, eq2⟩ := eq_tm G (G.mono x7.gr dv) d7 hdep
  refine ⟨dd2, dd2, a1, a2, sh2, sh2, ?_⟩
  rw [eq2]
  exact q H7 ((x13.trans x6).trans x7) ok7
end

/-! ### exceptions whose context is told: none, or one that has none -/
def Zk (x : Value) (cls : Value) (d : Option Addr) : Obj → Prop := fun o => o.cls = cls ∧ o.dict = d ∧ ∀ vs : Array Value, o.data = .fields vs → vs[2]? = some x
theorem Zk.steady {x cls : Value} {d : Option Addr} : PySem.PXN.Steady1 (Zk x cls d) := fun o v h => ⟨PySem.PXN.steady_cls o v h.1, PySem.PXN.steady_dict o v h.2.1, by
  obtain ⟨c, dd, dt, sl⟩ := o
  intro vs e
  cases dt with
  | fields vs0 =>
    have e2 : vs0.setIfInBounds 1 v = vs := Data.fields.inj e
    have e3 : (vs0.setIfInBounds 1 v)[2]? = vs0[2]? := by
      first
      | exact Array.getElem?_setIfInBounds_ne (by decide)
      | simp [Array.getElem?_setIfInBounds]
    rw [← e2, e3]
    exact h.2.2 vs0 rfl
  | _ => first | exact Data.noConfusion e | cases e⟩
theorem Zk.zc {x cls : Value} {d : Option Addr} {o : Obj} (h : Zk x cls d o) : Zc cls d o := ⟨h.1, h.2.1⟩
/-- x is None, or an untracked exception on the ground that has no context -/
def CtxB (B : Heap) (H : Hp) (x : Value) : Prop := x = .none ∨ ∃ (y : Addr) (oy : Obj) (vs : Array Value), x = .ref y ∧ B.get? y = some oy ∧ oy.data = .fields vs ∧ vs[2]? = some .none ∧ H y = none
def XEK (X : Cx) (W : WX) (u : Value) (s' : Shared) : Prop :=
  ∃ (a : Addr) (B : Heap) (sI : Shared) (pins : List (Addr × Obj)) (σ : L2.St) (H : Hp) (cls : Value) (d : Option Addr),
    u = .ref a ∧ Inv X pins σ H sI ∧ (∀ b o, sI.heap.get? b = some o → b ∉ frs X.stack → B.get? b = some o) ∧ sI.heap.UpToSlots s'.heap ∧
      (∃ x, CtxB B H x ∧ Sky B X.stack a (Zk x cls d) X.env.locals s'.heap) ∧ H a = none ∧ s'.os = sI.os ∧ AllBare s'.gens ∧ W cls d σ H
def TakesK (X : Cx) (W : WX) : Prop := ∀ u s', XEK X W u s' → X.xe u s'
theorem takesK_n {X : Cx} {W : WX} (t : TakesK X W) : L2N.Takes X W := fun u s' ⟨a, B, sI, pins, σ, H, cls, d, e, I, nb, up, sky, more⟩ => t u s' ⟨a, B, sI, pins, σ, H, cls, d, e, I, nb, up, ⟨.none, .inl rfl, sky⟩, more⟩
theorem takesK0 {X : Cx} : TakesK X (fun _ _ _ _ => False) := fun _ _ ⟨_, _, _, _, _, _, _, _, _, _, _, _, _, _, _, _, z⟩ => z.elim
def CXK (P : Program) (w : World) (outer : List Env) (H : Hp) (s : Shared) (E : XK) (u : Value) (s' : Shared) : Prop :=
  ∃ (a : Addr) (B : Heap) (H' : Hp) (cls : Value) (d : Option Addr), u = .ref a ∧ (∃ x, CtxB B H' x ∧ HandSPX.FlyingZ B outer a (Zk x cls d) s'.heap) ∧ HOk P w H' B ∧ UB (frs outer) H H' s.heap B s'.heap ∧ H' a = none ∧ s'.os = s.os ∧ AllBare s'.gens ∧ E cls d H'
section
variable {X : Cx} {pins : List (Addr × Obj)} {σ : L2.St} {H : Hp} {sI s s' : Shared} {B : Heap} {W : WX} {E : XK}
theorem XEK.of_call (I : Inv X pins σ H s) (hW : ∀ cls d H', E cls d H' → W cls d σ H') {u : Value} (c : CXK X.prog X.w X.stack H s E u s') : XEK X W u s' := by
  obtain ⟨a, B, H', cls, d, rfl, ⟨x, cb, fl⟩, hok, ub, na, os, ag, hE⟩ := c
  -- the state without the exception: the ground and the frames
  obtain ⟨G, in1, out1⟩ := restrict s'.heap fun b => (B.get? b).isSome || decide (b ∈ frs X.stack)
  have ground : ∀ b o, B.get? b = some o → G.get? b = some o := fun b o e => (in1 b (by simp [e])).trans (fl.1 b o e)
  have frame : ∀ b, b ∈ frs X.stack → G.get? b = s'.heap.get? b := fun b hb => in1 b (by simp [hb])
  have back : ∀ b o, G.get? b = some o → s'.heap.get? b = some o ∧ ((B.get? b).isSome = true ∨ b ∈ frs X.stack) := fun b o e => by
    cases q : ((B.get? b).isSome || decide (b ∈ frs X.stack)) with
    | true => exact ⟨(in1 b q).symm.trans e, by simpa [Bool.or_eq_true] using q⟩
    | false =>
      rw [out1 b q] at e
      cases e
  have un : Un (frs X.stack) [] H H' s.heap G := by
    refine ⟨fun b o e n hb _ => ground b o (ub.keep b o e n hb), fun b o e _ hb _ => ?_, fun b o e n _ => ub.free b o e n, fun b o e _ => ?_, ub.tups, ub.frzs, ub.tbls⟩
    · obtain ⟨sl, z⟩ := ub.slot b o e hb
      exact ⟨sl, (frame b hb).trans z⟩
    · by_cases hb : b ∈ frs X.stack
      · obtain ⟨sl, z⟩ := ub.slot b o e hb
        exact ⟨_, (frame b hb).trans z⟩
      · exact (ub.there b o e hb).elim fun o' z => ⟨o', ground b o' z⟩
  have I2 : Inv X pins σ H' { s with heap := G, gens := s'.gens, drawn := s'.drawn, toks := s'.toks } := I.call (ch := []) un (hok.kept ground) ag (fun _ z => nomatch z)
  refine ⟨a, B, _, pins, σ, H', cls, d, rfl, I2, fun b o e hb => ?_, Heap.UpToSlots.of_keeps fun b o e => (back b o e).1, ⟨x, cb, .inr (.inl fl)⟩, na, os, ag, hW _ _ _ hE⟩
  obtain ⟨e', z⟩ := back b o e
  rcases z with z | z
  · obtain ⟨o', z'⟩ := Option.isSome_iff_exists.mp z
    have same := fl.1 b o' z'
    rw [e'] at same
    cases same
    exact z'
  · exact absurd z hb
theorem passAtK (tk : TakesK X W) (σ : L2.St) : PassesAt (CXK X.prog X.w) X σ (WE W σ) := fun _ _ _ e s' I c => tk e s' (XEK.of_call I (fun _ _ _ h => h) c)
/-- it leaves the def -/
theorem XEK.leave (hs : X.stack = X.env :: X.outer) (hf : X.env.frame = some X.env.locals) (hex : X.ex = []) {E1 : Value → Shared → Prop} (hW : ∀ cls d σ H, W cls d σ H → E cls d H) {u : Value} (x : XEK X W u s') :
    wpAny (model X.prog X.w) X.A (leaving X.env u) (fun _ s'' => CXK X.prog X.w X.outer X.H_0 X.s_0 E u s'') E1 s' := by
  obtain ⟨a, B, sI, pins, σ, H, cls, d, rfl, I, nb, up, ⟨x, cb, sky⟩, na, os, ag, w⟩ := x
  have frE : X.A.frames = some (X.env :: X.outer) := by rw [I.ok.frames, hs]
  have apart : ∀ b o, X.s_0.heap.get? b = some o → b ∉ X.fs → b ∉ frs X.stack := fun b o e hb hm => by
    rcases List.mem_cons.mp (I.stkSub b hm) with z | z
    · exact absurd (Nat.lt_of_lt_of_le (z ▸ Heap.lt_size e) I.ok.above) (Nat.lt_irrefl _)
    · exact hb z
  have noex : ∀ b, b ∉ X.ex := fun b hb => by
    rw [hex] at hb
    cases hb
  have gone : ∀ h', HandSPX.FlyingZ B X.outer a (Zk x cls d) h' → s'.heap.UpToSlots h' → CXK X.prog X.w X.outer X.H_0 X.s_0 E (.ref a) { s' with heap := h' } := fun h' fl up' => by
    refine ⟨a, B, H, cls, d, rfl, ⟨x, cb, fl⟩, I.inGround nb, ⟨fun b o e n hb => nb b o (I.base.keep b o e n hb (noex b)) (apart b o e hb), fun b o e hb => ?_, fun b o e n => I.base.free b o e n (noex b), fun b o e hb => ?_, I.base.tups, I.base.frzs, I.base.tbls⟩,
      na, os.trans I.os, ag, hW _ _ _ _ w⟩
    · obtain ⟨_, o1, e1, nf⟩ := I.ok.funs.mem hb
      cases e.symm.trans e1
      obtain ⟨sl, z1⟩ := I.base.slot b o e (I.ok.frf b hb) hb (noex b)
      obtain ⟨sl2, z2⟩ := up b _ z1 nf
      obtain ⟨sl3, z3⟩ := up' b _ z2 nf
      exact ⟨sl3, z3⟩
    · exact (I.base.there b o e (noex b)).elim fun o' z => ⟨o', nb b o' z (apart b o e hb)⟩
  rw [hs] at sky
  rcases sky with ⟨hB, hn, hl, oe, vs, he, hz, hd, h1⟩ | fl | held
  · exact PySem.PXN.leaving_firstZ Zk.steady frE hl hf he hB hn hd h1 hz gone
  · exact PySem.PXN.leaves_onZ Zk.steady frE hf fl gone
  · exact HandSPX.leaves_heldZ hf held gone
theorem takesK_of (hs : X.stack = X.env :: X.outer) (hf : X.env.frame = some X.env.locals) (hex : X.ex = []) {E1 : Value → Shared → Prop}
    (hx : X.xe = fun e s' => wpAny (model X.prog X.w) X.A (leaving X.env e) (fun _ s'' => CXK X.prog X.w X.outer X.H_0 X.s_0 E e s'') E1 s') : TakesK X (fun cls d _ H => E cls d H) := fun u s' x => by
  rw [hx]
  exact XEK.leave (W := fun cls d _ H => E cls d H) (E := E) hs hf hex (fun _ _ _ _ h => h) x
end
/-- raised while an exception without a context is handled -/
theorem ps_raiseHK {X : Cx} {W : WX} {e : Expr} {t : L2.St → Hp → XK → Prop} {pos : Pos} (hot : L2H.HotC X) (tk : TakesK X W) (he : L2N.PMk X e t) : PS X (.Raise (some e) none pos) (fun _ σ H => t σ H fun cls d H' => W cls d σ H') := by
  refine ⟨fun pins s σ H D I want => ?_⟩
  obtain ⟨p, ⟨hh, v1, e1, c1⟩, hp⟩ := hot
  show wpAny _ _ (do standAt pos; raiseStmt X.env (some (do let v ← eval e X.env; standAt pos; pure v)) none) _ _ _
  refine wpAny_bind (wpAny_standAt (HotX.raise_made_hot (x1 := p.1) (wpAny_bind (wpAny_mono (he pins s σ H _ I want) (fun u s1 made => wpAny_bind (wpAny_standAt (wpAny_pure ?_))) fun _ _ z => z))))
  obtain ⟨a, oe, vs, sI, H', cls, d, rfl, J, up, fresh, ha, hz, hd, h1, na, os, ag, rs, q⟩ := made
  obtain ⟨r1, r2⟩ := rs (model X.prog X.w) s1.heap (J.kIn.keeps up)
  have P1 := pin_ok J hp
  have apart : p.1 ≠ a := fun z => by
    have g := P1.get
    rw [z, fresh] at g
    cases g
  have room : 2 < vs.size := (Array.getElem?_eq_some_iff.mp (hz.2.2 vs hd)).1
  have one : (vs.setIfInBounds 2 (Value.ref p.1))[1]? = some Value.none := by
    have e3 : (vs.setIfInBounds 2 (Value.ref p.1))[1]? = vs[1]? := by
      first
      | exact Array.getElem?_setIfInBounds_ne (by decide)
      | simp [Array.getElem?_setIfInBounds]
    exact e3.trans h1
  have nd := Obj.data_mapFields hd (·.setIfInBounds 2 (Value.ref p.1))
  have up2 : ∀ b o, sI.heap.get? b = some o → (s1.heap.update a (Obj.mapFields (·.setIfInBounds 2 (.ref p.1)))).get? b = some o := fun b o z => by
    have ab : a ≠ b := fun y => by
      rw [← y, fresh] at z
      cases z
    rw [Heap.get?_update_other _ _ ab]
    exact up b o z
  have here := Heap.get?_update_self (Obj.mapFields (·.setIfInBounds 2 (Value.ref p.1))) ha (Obj.isFreed_of_fields nd)
  refine ⟨a, oe, vs, cls, rfl, ha, hz.1, hd, h1, room, apart, ⟨hh, p.2, v1, up _ _ P1.get, e1, c1⟩, r1, r2, tk _ _ ⟨a, PySem.W.hideAll sI.heap (frs X.stack), sI, pins, σ, H', cls, d, rfl, J, fun b o z hb => PySem.W.hideAll_get _ z hb, Heap.UpToSlots.of_keeps up2,
    ⟨.ref p.1, .inr ⟨p.1, p.2, v1, rfl, PySem.W.hideAll_get _ P1.get P1.nofs, e1, c1, P1.free⟩, .inl ⟨fun b o z => up2 b o (PySem.W.of_hideAll _ z), ?_, Heap.FunFrames.of_keeps (fun b o z _ => ⟨o, up2 b o z, rfl⟩) (funFrames_none J.stack fun b hb => PySem.W.hideAll_none _ hb), _, _, here,
      ⟨(Obj.cls_mapFields ..).trans hz.1, (HandSPX.dict_mapFields ..).trans hz.2.1, fun ws hw => ?_⟩, nd, one⟩⟩, na, os, ag, q⟩⟩
  · cases z : (PySem.W.hideAll sI.heap (frs X.stack)).get? a with
    | none => rfl
    | some o =>
      have y := PySem.W.of_hideAll _ z
      rw [fresh] at y
      cases y
  · rw [nd] at hw
    cases hw
    first
    | exact Array.getElem?_setIfInBounds_self_of_lt room
    | (simp [Array.getElem?_setIfInBounds, room])
section
variable {X : Cx} {x bx fld qual : Str} {st : Stmt} {ps : List Str} {C B : Addr} {e : Expr} {te : TE} {p p2 pos pos' : Pos} {W : WX}
theorem ps_raiseIHK {j : Nat} (EI : ExcI X.K X.mg x bx fld qual st ps C B) (F : ∀ fI fd, L2.Fun X.K "__init__" qual st fI fd → L2H.FnH X.prog X.w X.K X.mg X.base L2.CX0 1 fI fd ps (spExI C fld)) (hr : L2H.RoomH j X.A) (hj : 2 ≤ j) (hot : L2H.HotC X) (tk : TakesK X W) (hg : Gl X x) (he : PE X e te)
    (hte : ∀ σ H (Q Q' : VK), (∀ v H', Q v H' → Q' v H') → te σ H Q → te σ H Q') (hdb : (x == ("__debug__" : Str)) = false := by decide) (hst : starEach [e] X.env = (false, eval e X.env) :: starEach [] X.env := by rfl) (hpl : (backTo pos (starEach [] X.env)).any (·.1) = false := by rfl) :
    PS X (.Raise (some (.Call (.Name x p) [e] [] pos)) none pos') (tRzI W C fld te) := by
  obtain ⟨fI, fd, Fu, iC, tI, b⟩ := EI.ini
  exact ps_imp (ps_raiseHK hot tk (L2H.pmk5_oexH EI.T iC tI (F fI fd Fu) (hr.mono hj) hot (.all b) (fun _ _ _ _ _ _ _ z => z.elim) hg EI.gC (pa_cons he pa_nil hst) hdb hst hpl).pmk) fun D σ H q => rz_of hte q
end
/-- a def that may raise so -/
structure CalY (P : Program) (w : World) (K : PySem.W.Frag) (mg : Str → Option Value) (base : Heap) (k : Nat) (x : Str) (sp : Sp) : Prop where
  ex : ∃ (f : Addr) (fd : FuncData) (ps : List Str), FnOk P w K mg base (CXK P w) k f fd ps sp ∧ mg x = some (.ref f) ∧ PySem.W.keepIn K (.ref f) = true ∧ Binds K fd ps []
theorem calY_of {P : Program} {w : World} {K : PySem.W.Frag} {mg : Str → Option Value} {base : Heap} {x : Str} {st : Stmt} {N ps : List Str} {k : Nat} {sp : Sp} (D : DefX K mg x st ps) (S : FnScope N ps (defScope st)) (len : ∀ vs H Q E, sp vs H Q E → vs.length = ps.length)
    (hbody : ∀ (f : Addr) (cdv : Value) (A : Around) (outer : List Env) (s : Shared) (H : Hp) (vs : List V) (Q : VK) (E : XK), Room k (A.deeper (envOfC x (defScope st) s.heap.objs.size f cdv)) → sp vs H Q E →
      ∃ t, PSs (cxOf (CXK P w) P w K mg base N x (defScope st) f cdv A outer s H E) (defBody st) t ∧ t { nx := fun _ H' => Q .non H', rt := Q } (start N vs) H) : CalY P w K mg base (k + 1) x sp := by
  obtain ⟨f, fd, F, m, b⟩ := D.ex
  have kp := F.kp
  obtain ⟨oc, od, kV, doc, pm, an, cdv, ct, osl, rfl, lk, hcd⟩ := F.ex
  exact ⟨f, _, ps, fn_of lk hcd S len (hbody f cdv), m, kp, .all b⟩
theorem pe_cy {X : Cx} {k j : Nat} {x : Str} {sp : Sp} {W : WX} {t : TA} {e : Expr} {es : List Expr} {p pos : Pos} (c : CalY X.prog X.w X.K X.mg X.base k x sp) (tk : TakesK X W) (hr : Room j X.A) (hk : k ≤ j) (hg : Gl X x) (ha : PA X (e :: es) t)
    (hdb : (x == ("__debug__" : Str)) = false := by decide) (he : starEach (e :: es) X.env = (false, eval e X.env) :: starEach es X.env := by rfl) (hpl : (backTo pos (starEach es X.env)).any (·.1) = false := by rfl) :
    PE X (.Call (.Name x p) (e :: es) [] pos) (tCallS sp (WE W) t) := by
  obtain ⟨f, fd, ps, F, m, kp, b⟩ := c.ex
  exact pe_callS F (hr.mono hk) hg m kp b (fun σ => passAtK tk σ) ha hdb he hpl

/-! ### try .. except X: (a suite that may raise) .. else -/
section
variable {X : Cx} {x : Str} {c : Value} {body more orelse : List Stmt} {st0 : Stmt} {np q0 q1 : Pos} {tb : WX → TS} {ts : Addr → Value → Option Addr → TS} {Wo : WX} {u : TS}
theorem ps_try_onlyXEK (ho : PSs X orelse u) (hs : X.stack = X.env :: X.outer) (hf : X.env.frame = some X.env.locals) (hc : Names X x c) (hpa : ∀ hd : Option Value, PassesOwnAt (model X.prog X.w) (X.A.mark hd) X.A X.env X.xe) (tk : TakesK X Wo)
    (hb : ∀ (W : WX) (pn : List (Addr × Obj)) (xe : Value → Shared → Prop), L2N.Takes (X.tr pn xe) W → PassesOwn (model X.prog X.w) X.A X.env xe → PSs (X.tr pn xe) body (tb W))
    (hsu : ∀ (a : Addr) (oe : Obj) (cls : Value) (d : Option Addr) (pn : List (Addr × Obj)), L2N.Zn cls d oe → (∃ vs, oe.data = .fields vs) → TakesK (L2H.suiteX X a ((a, oe) :: pn)) Wo → L2H.HotC (L2H.suiteX X a ((a, oe) :: pn)) →
      PSs (L2H.suiteX X a ((a, oe) :: pn)) (st0 :: more) (ts a cls d)) :
    PS X (.Try body [.ExceptHandler (some (.Name x np)) none (st0 :: more) q1] orelse [] q0) (fun D σ H => tb (wOnly X.K c ts Wo D) { D with nx := u D } σ H) := by
  refine ⟨fun pins s0 σ H D I0 h0 => wpAny_Try_except ?_⟩
  have ok := I0.ok
  have frE : X.A.frames = some (X.env :: X.outer) := ok.frames.trans (congrArg some hs)
  let look : Value → Shared → Prop := fun e s₁ => wpAny (model X.prog X.w) X.A (noteFrame e X.env) (fun _ s₂ =>
    wpAny (model X.prog X.w) X.A (setFlight e none) (fun _ s₃ => wpAny (model X.prog X.w) X.A (handleBy e X.env
      [.ExceptHandler (some (.Name x np)) none (st0 :: more) q1]) (SP X pins D) X.xe s₃) X.xe s₂) X.xe s₁
  have hook : L2N.Takes (X.tr (X.pn ++ pins) look) (wOnly X.K c ts Wo D) := by
    rintro u1 sE ⟨a, B, sI, pins', σ1, H1, cls, d, rfl, J', nb, up, sky, na, os, ag, b, hbb, yes, no⟩
    have J : Inv X pins σ1 H1 sI := J'.ofTry ok
    have sky1 : Sky B (X.env :: X.outer) a (L2N.Zn cls d) X.env.locals sE.heap := hs ▸ sky
    refine L2N.Sky.land L2N.Zn.steady frE hf sky1 fun hA flA upA => ?_
    have JA : Inv X pins σ1 H1 { sE with heap := hA } := J.landed nb flA.1 (up.trans upA) os ag
    obtain ⟨oA, vA, gA, zA, dA⟩ := flA.there
    have offFrames : a ∉ frs (X.env :: X.outer) := fun hm => by
      obtain ⟨_, o', e', hnf⟩ := flA.2.2.1.mem hm
      cases gA.symm.trans e'
      exact hnf _ dA
    have offLoc : a ≠ X.env.locals := fun z => offFrames (List.mem_filterMap.mpr ⟨X.env, List.mem_cons_self, z ▸ hf⟩)
    have offFs : a ∉ X.fs := fun hm => (List.mem_filterMap.mp hm).elim fun e1 ⟨p1, p2⟩ => offFrames (List.mem_filterMap.mpr ⟨e1, List.mem_cons_of_mem _ p1, p2⟩)
    have SA := JA.suite gA dA na offLoc offFs
    have lookT : PySem.W.Looks (model X.prog X.w) hA (typeOf (.ref a)) cls := fun _ _ _ _ kk qq => wpAny_typeOf_ref (kk _ _ gA) (zA.1.symm ▸ qq)
    have exM := PySem.W.exm_one (M := model X.prog X.w) JA.kIn lookT hbb
    have named : ∀ {Q : Value → Shared → Prop} {E : Value → Shared → Prop}, Q c { sE with heap := hA } →
        wpAny (model X.prog X.w) (X.A.mark (some (.ref a))) (eval (.Name x np) X.env) Q E { sE with heap := hA } := fun qq => by
      rcases hc with ⟨g1, g2, g3 | ⟨g3, g4, g5⟩⟩
      · exact ld_glob (X := X.suite a ((a, oA) :: (X.pn ++ pins))) SA g1 g3 qq g2
      · exact ld_blt (X := X.suite a ((a, oA) :: (X.pn ++ pins))) SA g1 g3 g4 qq g5 g2
    refine wpAny_handleBy_cons (codeAny_handlers_test (named (exM.here ?_))) (fun z => nomatch z)
    cases b with
    | true =>
      refine codeAny_handlers_suite (HandSPX.lands_againZ flA fun hB flB upB => ?_)
      have JB : Inv X pins σ1 H1 { sE with heap := hB } := J.landed nb flB.1 ((up.trans upA).trans upB) os ag
      obtain ⟨oB, vB, gB, zB, dB⟩ := flB.there
      have tkS : TakesK (L2H.suiteX X a ((a, oB) :: (X.pn ++ pins))) Wo := fun u2 s2 ⟨a2, B2, sI2, _, σ2, H2, cls2, d2, e2, I2, more2⟩ => tk u2 s2 ⟨a2, B2, sI2, pins, σ2, H2, cls2, d2, e2, L2H.unsuiteX I2 ok, more2⟩
      have hot : L2H.HotC (L2H.suiteX X a ((a, oB) :: (X.pn ++ pins))) := ⟨(a, oB), ⟨rfl, vB, dB, zB.2.2 vB dB⟩, List.mem_cons_self⟩
      refine wpAny_mono ((hsu a oB cls d (X.pn ++ pins) zB ⟨_, dB⟩ tkS hot).run [] _ _ H1 _ (L2H.suiteX_of (JB.suite gB dB na offLoc offFs)) (yes rfl a na)) (fun fl sF hh => ?_) (fun e6 s6 z => hpa (some (.ref a)) e6 s6 z)
      cases fl with
      | next => exact hh.elim fun _ ⟨_, T, qq⟩ => ⟨_, _, L2H.unsuiteX T ok, qq⟩
      | brk => exact hh.elim fun _ ⟨_, T, qq⟩ => ⟨_, _, L2H.unsuiteX T ok, qq⟩
      | cont => exact hh.elim fun _ ⟨_, T, qq⟩ => ⟨_, _, L2H.unsuiteX T ok, qq⟩
      | ret u => exact hh.elim fun _ ⟨_, _, T, rr, qq⟩ => ⟨_, _, _, L2H.unsuiteX T ok, rr, qq⟩
    | false =>
      obtain ⟨_, _, _, oe, vs, tbk, _, _, he, _, hd, h1, _⟩ := id flA
      show wpAny _ X.A (handleBy (.ref a) X.env []) _ _ _
      refine wpAny_handleBy_nil ?_
      have away : wpAny (model X.prog X.w) X.A (setFlight (.ref a) X.env.frame) (fun _ sG => wpAny (model X.prog X.w) X.A (throw (.ref a) : Sem Flow) (SP X pins D) X.xe sG) X.xe { sE with heap := hA } := by
        rw [hf]
        exact HandSPX.setFlight_upZ flA fun hB heldB upB => wpAny_throw (tk _ _ ⟨a, B, sI, pins, σ1, H1, cls, d, rfl, J, nb, (up.trans upA).trans upB, ⟨.none, .inl rfl, .inr (.inr (hs.symm ▸ heldB))⟩, na, os, ag, no rfl⟩)
      unfold PySem.passOn
      refine wpAny_bind (wpAny_field he hd h1 ?_)
      rw [if_neg (show ¬ ((Value.ref tbk == Value.none) = true) by simp)]
      first
        | exact wpAny_bind (wpAny_pure (wpAny_bind away))
        | exact wpAny_bind away
  refine wpAny_mono ((hb _ _ look hook PassesOwn.looking).run [] s0 σ H { D with nx := u D } (I0.toTry _) h0) (fun fl sE hh => ?_) (fun e sE he => he)
  cases fl with
  | next => exact hh.elim fun _ ⟨_, T, qq⟩ => ho.run pins sE _ _ D (T.ofTry ok) qq
  | brk => exact hh.elim fun _ ⟨_, T, qq⟩ => ⟨_, _, T.ofTry ok, qq⟩
  | cont => exact hh.elim fun _ ⟨_, T, qq⟩ => ⟨_, _, T.ofTry ok, qq⟩
  | ret u => exact hh.elim fun _ ⟨_, _, T, rr, qq⟩ => ⟨_, _, _, T.ofTry ok, rr, qq⟩
end
section
variable {X : Cx} {σ : L2.St} {H : Hp} {s : Shared} {a : Addr} {p q : Addr × Obj} {l : List (Addr × Obj)}
theorem suite_pin (I : Inv (X.suite a (p :: l)) [] σ H s) (h : s.heap.get? q.1 = some q.2 ∧ H q.1 = none ∧ q.1 ≠ X.env.locals ∧ q.1 ∉ X.fs ∧ ∀ v, q.2.data ≠ .cell v) : Inv (X.suite a (p :: q :: l)) [] σ H s :=
  ⟨⟨I.ok.mod, I.ok.kind, I.ok.glob, I.ok.blt, I.ok.above, I.ok.inj, I.ok.has, I.ok.cab, I.ok.hd, I.ok.frames, I.ok.stk, I.ok.exf, I.ok.bs, I.ok.bsz, I.ok.noex, I.ok.exfs, I.ok.funs, I.ok.frf⟩,
    I.os, I.bare, I.base, I.loc, I.cell, I.free, I.freeC, fun r hr => by
      have hr : r ∈ p :: q :: l := by rw [List.append_nil] at hr; exact hr
      by_cases e : r = q
      · rw [e]
        exact h
      · refine I.pin r ?_
        rw [List.append_nil]
        exact (List.mem_cons.mp hr).elim (fun z => by rw [z]; exact List.mem_cons_self) fun z => (List.mem_cons.mp z).elim (fun z => absurd z e) fun z => List.mem_cons_of_mem _ z, I.hok, I.len⟩
theorem suite_unpin (I : Inv (X.suite a (p :: q :: l)) [] σ H s) : Inv (X.suite a (p :: l)) [] σ H s :=
  ⟨⟨I.ok.mod, I.ok.kind, I.ok.glob, I.ok.blt, I.ok.above, I.ok.inj, I.ok.has, I.ok.cab, I.ok.hd, I.ok.frames, I.ok.stk, I.ok.exf, I.ok.bs, I.ok.bsz, I.ok.noex, I.ok.exfs, I.ok.funs, I.ok.frf⟩,
    I.os, I.bare, I.base, I.loc, I.cell, I.free, I.freeC, fun r hr => by
      have hr : r ∈ p :: l := by rw [List.append_nil] at hr; exact hr
      refine I.pin r ?_
      rw [List.append_nil]
      exact (List.mem_cons.mp hr).elim (fun z => by rw [z]; exact List.mem_cons_self) fun z => List.mem_cons_of_mem _ (List.mem_cons_of_mem _ z), I.hok, I.len⟩
end
section
variable {X : Cx} {x n : Str} {c : Value} {i : Nat} {body more orelse : List Stmt} {st0 : Stmt} {np q0 q1 : Pos} {tb : WX → TS} {ts : Addr → Value → Option Addr → TS} {Wo : WX} {u : TS}
theorem ps_try_asEK (ho : PSs X orelse u) (hs : X.stack = X.env :: X.outer) (hf : X.env.frame = some X.env.locals) (hN : X.N.Nodup) (hi : X.N[i]? = some n) (hln : X.env.kindOf n = some .local) (hc : Names X x c) (tk : TakesK X Wo)
    (hb : ∀ (W : WX) (pn : List (Addr × Obj)) (xe : Value → Shared → Prop), TakesK (X.tr pn xe) W → PassesOwn (model X.prog X.w) X.A X.env xe → PSs (X.tr pn xe) body (tb W))
    (hsu : ∀ (a : Addr) (oe : Obj) (cls : Value) (d : Option Addr) (pn : List (Addr × Obj)), Zc cls d oe → (∃ vs, oe.data = .fields vs) → HotK (X.suite a ((a, oe) :: pn)) → PSs (X.suite a ((a, oe) :: pn)) (st0 :: more) (ts a cls d)) :
    PS X (.Try body [.ExceptHandler (some (.Name x np)) (some n) (st0 :: more) q1] orelse [] q0) (fun D σ H => tb (wAs X.K c i ts Wo D) { D with nx := u D } σ H) := by
  refine ⟨fun pins s0 σ H D I0 h0 => wpAny_Try_except ?_⟩
  have ok := I0.ok
  have frE : X.A.frames = some (X.env :: X.outer) := ok.frames.trans (congrArg some hs)
  let look : Value → Shared → Prop := fun e s₁ => wpAny (model X.prog X.w) X.A (noteFrame e X.env) (fun _ s₂ =>
    wpAny (model X.prog X.w) X.A (setFlight e none) (fun _ s₃ => wpAny (model X.prog X.w) X.A (handleBy e X.env
      [.ExceptHandler (some (.Name x np)) (some n) (st0 :: more) q1]) (SP X pins D) X.xe s₃) X.xe s₂) X.xe s₁
  have hook : TakesK (X.tr (X.pn ++ pins) look) (wAs X.K c i ts Wo D) := by
    rintro u1 sE ⟨a, B, sI, pins', σ1, H1, cls, d, rfl, J', nb, up, ⟨x2, cb, sky⟩, na, os, ag, b, hbb, yes, no⟩
    have J : Inv X pins σ1 H1 sI := J'.ofTry ok
    have sky1 : Sky B (X.env :: X.outer) a (Zk x2 cls d) X.env.locals sE.heap := hs ▸ sky
    refine L2N.Sky.land Zk.steady frE hf sky1 fun hA flA upA => ?_
    have JA : Inv X pins σ1 H1 { sE with heap := hA } := J.landed nb flA.1 (up.trans upA) os ag
    obtain ⟨oA, vA, gA, zA, dA⟩ := flA.there
    have offFrames : a ∉ frs (X.env :: X.outer) := fun hm => by
      obtain ⟨_, o', e', hnf⟩ := flA.2.2.1.mem hm
      cases gA.symm.trans e'
      exact hnf _ dA
    have offLoc : a ≠ X.env.locals := fun z => offFrames (List.mem_filterMap.mpr ⟨X.env, List.mem_cons_self, z ▸ hf⟩)
    have offFs : a ∉ X.fs := fun hm => (List.mem_filterMap.mp hm).elim fun e1 ⟨p1, p2⟩ => offFrames (List.mem_filterMap.mpr ⟨e1, List.mem_cons_of_mem _ p1, p2⟩)
    have SA := JA.suite gA dA na offLoc offFs
    have lookT : PySem.W.Looks (model X.prog X.w) hA (typeOf (.ref a)) cls := fun _ _ _ _ kk qq => wpAny_typeOf_ref (kk _ _ gA) (zA.1.symm ▸ qq)
    have exM := PySem.W.exm_one (M := model X.prog X.w) JA.kIn lookT hbb
    have named : ∀ {Q : Value → Shared → Prop} {E : Value → Shared → Prop}, Q c { sE with heap := hA } →
        wpAny (model X.prog X.w) (X.A.mark (some (.ref a))) (eval (.Name x np) X.env) Q E { sE with heap := hA } := fun qq => by
      rcases hc with ⟨g1, g2, g3 | ⟨g3, g4, g5⟩⟩
      · exact ld_glob (X := X.suite a ((a, oA) :: (X.pn ++ pins))) SA g1 g3 qq g2
      · exact ld_blt (X := X.suite a ((a, oA) :: (X.pn ++ pins))) SA g1 g3 g4 qq g5 g2
    refine wpAny_handleBy_cons (codeAny_handlers_test (named (exM.here ?_))) (fun z => nomatch z)
    cases b with
    | true =>
      refine codeAny_handlers_suite_as (HandSPX.lands_againZ flA fun hB flB upB => ?_)
      have JB : Inv X pins σ1 H1 { sE with heap := hB } := J.landed nb flB.1 ((up.trans upA).trans upB) os ag
      obtain ⟨oB, vB, gB, zB, dB⟩ := flB.there
      have S0 := JB.suite gB dB na offLoc offFs
      obtain ⟨q, hot, qok⟩ : ∃ q : Addr × Obj, Hot2 (X.suite a ((a, oB) :: q :: (X.pn ++ pins))).A (a, oB) q ∧ (hB.get? q.1 = some q.2 ∧ H1 q.1 = none ∧ q.1 ≠ X.env.locals ∧ q.1 ∉ X.fs ∧ ∀ v, q.2.data ≠ .cell v) := by
        rcases cb with rfl | ⟨y, oy, ws, rfl, gy, dy, cy, ny⟩
        · exact ⟨(a, oB), ⟨rfl, vB, dB, .inl (zB.2.2 vB dB)⟩, gB, na, offLoc, offFs, fun v z => by
            have z : oB.data = .cell v := z
            rw [dB] at z
            cases z⟩
        · have offY : y ∉ frs (X.env :: X.outer) := fun hm => by
            have z := (flB.2.2.1.mem hm).1
            rw [gy] at z
            cases z
          exact ⟨(y, oy), ⟨rfl, vB, dB, .inr ⟨zB.2.2 vB dB, ws, dy, cy⟩⟩, flB.1 y oy gy, ny, fun z => offY (List.mem_filterMap.mpr ⟨X.env, List.mem_cons_self, hf.trans (congrArg some (show y = X.env.locals from z).symm)⟩), fun hm => (List.mem_filterMap.mp hm).elim fun e1 ⟨p1, p2⟩ => offY (List.mem_filterMap.mpr ⟨e1, List.mem_cons_of_mem _ p1, p2⟩), fun v z => by
            have z : oy.data = .cell v := z
            rw [dy] at z
            cases z⟩
      refine store_ok (X := X.suite a ((a, oB) :: q :: (X.pn ++ pins))) (v := .ref a) (suite_pin S0 qok) hN hi (.inl hln) rfl (fun sC SC => ?_) (.inr hln)
      refine wpAny_mono ((hsu a oB cls d (q :: (X.pn ++ pins)) zB.zc ⟨_, dB⟩ ⟨_, List.mem_cons_self, _, List.mem_cons_of_mem _ List.mem_cons_self, hot⟩).run [] sC _ H1 _ SC (yes rfl a na)) (fun fl sF hh => ?_) (fun _ _ z => z.elim)
      have off : ∀ {σ2 : L2.St} {H2 : Hp} {Q : Shared → Prop}, Inv (X.suite a ((a, oB) :: q :: (X.pn ++ pins))) [] σ2 H2 sF → (∀ sG, Inv X pins (σ2.set i none) H2 sG → Q sG) →
          wpAny (model X.prog X.w) X.A (do bindName X.env n .none; unbindBehindTheSuite X.env n q1) (fun _ sG => Q sG) X.xe sF := fun T qq => gone_ok ((suite_unpin T).unsuite ok) hN hi hln qq
      cases fl with
      | next => exact hh.elim fun _ ⟨_, T, qq⟩ => off T fun _ G => ⟨_, _, G, qq⟩
      | brk => exact hh.elim fun _ ⟨_, T, qq⟩ => off T fun _ G => ⟨_, _, G, qq⟩
      | cont => exact hh.elim fun _ ⟨_, T, qq⟩ => off T fun _ G => ⟨_, _, G, qq⟩
      | ret u => exact hh.elim fun _ ⟨_, _, T, rr, qq⟩ => off T fun _ G => ⟨_, _, _, G, rr, qq⟩
    | false =>
      obtain ⟨_, _, _, oe, vs, tbk, _, _, he, _, hd, h1, _⟩ := id flA
      show wpAny _ X.A (handleBy (.ref a) X.env []) _ _ _
      refine wpAny_handleBy_nil ?_
      have away : wpAny (model X.prog X.w) X.A (setFlight (.ref a) X.env.frame) (fun _ sG => wpAny (model X.prog X.w) X.A (throw (.ref a) : Sem Flow) (SP X pins D) X.xe sG) X.xe { sE with heap := hA } := by
        rw [hf]
        exact HandSPX.setFlight_upZ flA fun hB heldB upB => wpAny_throw (tk _ _ ⟨a, B, sI, pins, σ1, H1, cls, d, rfl, J, nb, (up.trans upA).trans upB, ⟨x2, cb, .inr (.inr (hs.symm ▸ heldB))⟩, na, os, ag, no rfl⟩)
      unfold PySem.passOn
      refine wpAny_bind (wpAny_field he hd h1 ?_)
      rw [if_neg (show ¬ ((Value.ref tbk == Value.none) = true) by simp)]
      first
        | exact wpAny_bind (wpAny_pure (wpAny_bind away))
        | exact wpAny_bind away
  refine wpAny_mono ((hb _ _ look hook PassesOwn.looking).run [] s0 σ H { D with nx := u D } (I0.toTry _) h0) (fun fl sE hh => ?_) (fun e sE he => he)
  cases fl with
  | next => exact hh.elim fun _ ⟨_, T, qq⟩ => ho.run pins sE _ _ D (T.ofTry ok) qq
  | brk => exact hh.elim fun _ ⟨_, T, qq⟩ => ⟨_, _, T.ofTry ok, qq⟩
  | cont => exact hh.elim fun _ ⟨_, T, qq⟩ => ⟨_, _, T.ofTry ok, qq⟩
  | ret u => exact hh.elim fun _ ⟨_, _, T, rr, qq⟩ => ⟨_, _, _, T.ofTry ok, rr, qq⟩
end

section
variable {P : Program} {w : World} {K : PySem.W.Frag} {mg : Str → Option Value} {base : Heap} {C B : Addr}
theorem row_len {i : Int} (h0 : 0 ≤ i) (h1 : i < 1000000) : (Str.ofString (toString i)).length ≤ 6 := by
  obtain ⟨n, rfl⟩ := Int.eq_ofNat_of_zero_le h0
  rw [TL.len_tl, TL.tl_num]
  exact TL.numL_len (by decide) (by omega)
theorem ok_brinit {cc : Addr} (T : Txt K mg cc) (EI : ExcI K mg "BadRow" "BookError" "row" "BadRow.__init__" s_BadRow___init__ ["self", "row"] C B) (fI : Addr) (fd : FuncData) (F : L2.Fun K "__init__" "BadRow.__init__" s_BadRow___init__ fI fd) :
    FnOk P w K mg base L2.CX0 1 fI fd ["self", "row"] (spExI C "row") := by
  have Z := T.Z
  refine F.ok sc_BadRow___init__ (fun vs H Q E h => ?_) (fun cdv A' outer s H vs Q E hr h => ?_)
  · obtain ⟨a, i, rfl, _⟩ := h
    rfl
  obtain ⟨a, i, rfl, h0, h1, ha, q⟩ := h
  have ll := row_len h0 h1
  refine ⟨_, (pss_cons (ps_expr (pe_beinit rfl EI.gB EI.b1 EI.b2 EI.b3 (pa_cons (pv 0) (pa_cons (pe_op op_add_str (pe_op op_add_str pe_str (pe_callTy call_str_int rfl Z.str (by decide +kernel) (pa_cons (pv 1) pa_nil))) pe_str) pa_nil))))
  (pss_one (ps_ost (pv 0) (pv 1)))), ?_⟩
  have e4 : (Str.ofString "row ").length = 4 := by decide +kernel
  have e16 : (Str.ofString " cannot be read").length = 15 := by decide +kernel
  have l1 : (Str.ofString "row " ++ Str.ofString (toString i)).length ≤ 10 := by
    rw [TL.len_tl, TL.tl_append, List.length_append, ← TL.len_tl, ← TL.len_tl]
    omega
  refine ⟨_, rfl, _, rfl, _, rfl, log_small h0 (by omega), _, _, rfl, rfl, small (by omega), _, _, rfl, rfl, small (by omega), a, C, _, rfl, (by show 1 ≤ 1000; decide), EI.T, ha, ?_⟩
  exact ⟨_, rfl, _, rfl, a, C, rfl, EI.T, EI.no, .inl ⟨ha, fun dx n ne => q dx n ne⟩⟩
theorem ok_brinitH {cc : Addr} (T : Txt K mg cc) (EI : ExcI K mg "BadRow" "BookError" "row" "BadRow.__init__" s_BadRow___init__ ["self", "row"] C B) (fI : Addr) (fd : FuncData) (F : L2.Fun K "__init__" "BadRow.__init__" s_BadRow___init__ fI fd) :
    L2H.FnH P w K mg base L2.CX0 1 fI fd ["self", "row"] (spExI C "row") := by
  have Z := T.Z
  obtain ⟨oc, od, kV, doc, pm, an, cdv, ct, osl, rfl, lk, hcd⟩ := F.ex
  refine L2H.fn_ofH lk hcd sc_BadRow___init__ (fun vs H Q E h => ?_) (fun A' outer s H vs Q E pr hot hr h => ?_)
  · obtain ⟨a, i, rfl, _⟩ := h
    rfl
  obtain ⟨a, i, rfl, h0, h1, ha, q⟩ := h
  have ll := row_len h0 h1
  refine ⟨_, PSs.nox (pss_cons (ps_expr (pe_beinit rfl EI.gB EI.b1 EI.b2 EI.b3 (pa_cons (pv 0) (pa_cons (pe_op op_add_str (pe_op op_add_str pe_str (pe_callTy call_str_int rfl Z.str (by decide +kernel) (pa_cons (pv 1) pa_nil))) pe_str) pa_nil))))
  (pss_one (ps_ost (pv 0) (pv 1)))), ?_⟩
  have e4 : (Str.ofString "row ").length = 4 := by decide +kernel
  have e16 : (Str.ofString " cannot be read").length = 15 := by decide +kernel
  have l1 : (Str.ofString "row " ++ Str.ofString (toString i)).length ≤ 10 := by
    rw [TL.len_tl, TL.tl_append, List.length_append, ← TL.len_tl, ← TL.len_tl]
    omega
  refine ⟨_, rfl, _, rfl, _, rfl, log_small h0 (by omega), _, _, rfl, rfl, small (by omega), _, _, rfl, rfl, small (by omega), a, C, _, rfl, (by show 1 ≤ 1000; decide), EI.T, ha, ?_⟩
  exact ⟨_, rfl, _, rfl, a, C, rfl, EI.T, EI.no, .inl ⟨ha, fun dx n ne => q dx n ne⟩⟩
end

/-! ### what a row says -/
open SX (S S_len S_inj S_cat)
def lsp (l : List Nat) : List Nat := l.dropWhile (· == 32)
def rsp (l : List Nat) : List Nat := (l.reverse.dropWhile (· == 32)).reverse
def wrd (l : List Nat) : List Nat := l.takeWhile (· != 32)
def rst (l : List Nat) : List Nat := (l.dropWhile (· != 32)).drop 1
def digs (l : List Nat) : Bool := !l.isEmpty && l.all fun c => decide (48 ≤ c) && decide (c ≤ 57)
def keyL (l : List Nat) (d : Nat) : Int := if digs l = true ∧ l.length ≤ 9 ∧ NumText.digitsVal l < 2 ^ d then (NumText.digitsVal l : Int) else -1
inductive Act where
  | put (k : Int) (t : List Nat)
  | cut (k : Int)
def putW : List Nat := [112, 117, 116]
def cutW : List Nat := [99, 117, 116]
def readL (l : List Nat) (d : Nat) : Option (Option Act) :=
  if lsp l = [] ∨ (lsp l).head? = some 35 then some none
  else if wrd (lsp l) = putW then
    if 0 ≤ keyL (wrd (rst (lsp l))) d ∧ 32 ∈ rst (lsp l) then some (some (.put (keyL (wrd (rst (lsp l))) d) (rst (rst (lsp l))))) else none
  else if wrd (lsp l) = cutW then
    if 0 ≤ keyL (rsp (rst (lsp l))) d then some (some (.cut (keyL (rsp (rst (lsp l))) d))) else none
  else none
def AscL (l : List Nat) : Prop := ∀ c ∈ l, c < 128
theorem AscL.sub {l m : List Nat} (h : AscL l) (hs : ∀ c ∈ m, c ∈ l) : AscL m := fun c hc => h c (hs c hc)
theorem dw_mem {p : Nat → Bool} : ∀ {l : List Nat} {c : Nat}, c ∈ l.dropWhile p → c ∈ l
  | a :: l, c, h => by
    rw [List.dropWhile_cons] at h
    split at h
    · exact List.mem_cons_of_mem _ (dw_mem h)
    · exact h
theorem tw_mem {p : Nat → Bool} : ∀ {l : List Nat} {c : Nat}, c ∈ l.takeWhile p → c ∈ l
  | a :: l, c, h => by
    rw [List.takeWhile_cons] at h
    split at h
    · rcases List.mem_cons.mp h with rfl | h
      · exact List.mem_cons_self
      · exact List.mem_cons_of_mem _ (tw_mem h)
    · cases h
theorem lsp_mem {l : List Nat} {c : Nat} (h : c ∈ lsp l) : c ∈ l := dw_mem h
theorem rsp_mem {l : List Nat} {c : Nat} (h : c ∈ rsp l) : c ∈ l := by
  have := dw_mem (List.mem_reverse.mp h)
  exact List.mem_reverse.mp this
theorem wrd_mem {l : List Nat} {c : Nat} (h : c ∈ wrd l) : c ∈ l := tw_mem h
theorem rst_mem {l : List Nat} {c : Nat} (h : c ∈ rst l) : c ∈ l := dw_mem (List.mem_of_mem_drop h)
theorem dw_len {p : Nat → Bool} : ∀ (l : List Nat), (l.dropWhile p).length ≤ l.length
  | [] => Nat.le_refl _
  | a :: l => by
    rw [List.dropWhile_cons]
    split
    · exact Nat.le_succ_of_le (dw_len l)
    · exact Nat.le_refl _
theorem tw_len {p : Nat → Bool} : ∀ (l : List Nat), (l.takeWhile p).length ≤ l.length
  | [] => Nat.le_refl _
  | a :: l => by
    rw [List.takeWhile_cons]
    split
    · exact Nat.succ_le_succ (tw_len l)
    · exact Nat.zero_le _
theorem lsp_len (l : List Nat) : (lsp l).length ≤ l.length := dw_len l
theorem wrd_len (l : List Nat) : (wrd l).length ≤ l.length := tw_len l
theorem rst_len (l : List Nat) : (rst l).length ≤ l.length := by
  unfold rst
  rw [List.length_drop]
  have := dw_len (p := (· != 32)) l
  omega
theorem rsp_len (l : List Nat) : (rsp l).length ≤ l.length := by
  unfold rsp
  rw [List.length_reverse]
  have := dw_len (p := (· == 32)) l.reverse
  rw [List.length_reverse] at this
  exact this
theorem drop_tw {p : Nat → Bool} : ∀ l : List Nat, l.drop (l.takeWhile p).length = l.dropWhile p
  | [] => rfl
  | a :: l => by
    rw [List.takeWhile_cons, List.dropWhile_cons]
    by_cases h : p a = true
    · rw [if_pos h, if_pos h]
      exact drop_tw l
    · rw [if_neg h, if_neg h]
      rfl
theorem only32 : (S [32]).cps.contains = fun c => c == 32 := by
  funext c
  by_cases h : c = 32
  · subst h; decide +kernel
  · have e : (c == 32) = false := beq_eq_false_iff_ne.mpr h
    rw [e]
    simp [S, h]
theorem lstrip_S (l : List Nat) : Txt.lstripChars (S l) (S [32]) = S (lsp l) := by
  unfold Txt.lstripChars
  rw [stripBy_eq, only32]
  refine TL.ext_tl ?_
  rw [TL.tl_strSub]
  show (l.drop _).take _ = lsp l
  unfold stripLo stripHi
  rw [if_pos rfl, if_neg (by decide)]
  show (l.drop (l.takeWhile (· == 32)).length).take ((S l).length - (l.takeWhile (· == 32)).length) = lsp l
  rw [drop_tw, S_len, List.take_of_length_le]
  · rfl
  · have := congrArg List.length (drop_tw (p := (· == 32)) l)
    rw [List.length_drop] at this
    omega
theorem rstrip_S (l : List Nat) : Txt.rstripChars (S l) (S [32]) = S (rsp l) := by
  unfold Txt.rstripChars
  rw [stripBy_eq, only32]
  refine TL.ext_tl ?_
  rw [TL.tl_strSub]
  rw [show stripLo (fun c => c == 32) false (S l) = 0 from rfl, show stripHi (fun c => c == 32) true (S l) 0 = (S l).length - ((l.drop 0).reverse.takeWhile (· == 32)).length from rfl]
  show (l.drop 0).take ((S l).length - (((l.drop 0).reverse.takeWhile (· == 32)).length) - 0) = rsp l
  rw [List.drop_zero, Nat.sub_zero, S_len]
  have e : l = (l.reverse.dropWhile (· == 32)).reverse ++ (l.reverse.takeWhile (· == 32)).reverse := by
    rw [← List.reverse_append, List.takeWhile_append_dropWhile, List.reverse_reverse]
  have el := congrArg List.length e
  rw [List.length_append, List.length_reverse, List.length_reverse] at el
  have ek : l.length - (l.reverse.takeWhile (· == 32)).length = (rsp l).length := by
    unfold rsp
    rw [List.length_reverse]
    omega
  rw [ek]
  exact (congrArg (List.take (rsp l).length) e).trans (List.take_left' rfl)
theorem split32 {l : List Nat} (h : 32 ∈ l) : l = wrd l ++ (32 :: rst l) := by
  induction l with
  | nil => cases h
  | cons a l ih =>
    unfold wrd rst
    by_cases c : a = 32
    · subst c
      rfl
    · have e : (a != 32) = true := bne_iff_ne.mpr c
      rw [List.takeWhile_cons, List.dropWhile_cons, if_pos e, if_pos e]
      rcases List.mem_cons.mp h with h | h
      · exact absurd h.symm c
      · show a :: l = a :: (wrd l ++ (32 :: rst l))
        rw [← ih h]
theorem wrd_no (l : List Nat) : 32 ∉ wrd l := by
  induction l with
  | nil => exact fun h => nomatch h
  | cons a l ih =>
    unfold wrd
    rw [List.takeWhile_cons]
    by_cases c : a = 32
    · subst c
      exact fun h => nomatch h
    · have e : (a != 32) = true := bne_iff_ne.mpr c
      rw [if_pos e]
      intro h
      rcases List.mem_cons.mp h with h | h
      · exact c h.symm
      · exact ih h
theorem wrd_all {l : List Nat} (h : 32 ∉ l) : wrd l = l ∧ rst l = [] := by
  induction l with
  | nil => exact ⟨rfl, rfl⟩
  | cons a l ih =>
    have c : a ≠ 32 := fun z => h (by rw [z]; exact List.mem_cons_self)
    have e : (a != 32) = true := bne_iff_ne.mpr c
    obtain ⟨h1, h2⟩ := ih fun z => h (List.mem_cons_of_mem _ z)
    unfold wrd rst
    rw [List.takeWhile_cons, List.dropWhile_cons, if_pos e, if_pos e]
    exact ⟨congrArg (a :: ·) h1, h2⟩
theorem part_S (l : List Nat) : Txt.partition (S l) (S [32]) = (S (wrd l), (if 32 ∈ l then S [32] else S []), S (rst l)) := by
  by_cases h : 32 ∈ l
  · rw [if_pos h]
    refine SX.partition_some (by simp) ?_
    conv => lhs; rw [split32 h]
    exact SX.par_head (sep := []) (rst l) (wrd_no l)
  · rw [if_neg h]
    obtain ⟨h1, h2⟩ := wrd_all h
    rw [h1, h2]
    exact SX.partition_none (by simp) (SX.par_head_none (sep := []) h)
theorem hash_S (l : List Nat) : Txt.startswith (S l) (S [35]) = decide (l.head? = some 35) := by
  cases l with
  | nil => rfl
  | cons a l =>
    unfold Txt.startswith Builtin.Str.subAt
    by_cases h : a = 35
    · subst h
      simp [S, Str.length]
    · simp [S, Str.length, h]
theorem dig128 : ∀ c, c < 128 → Unicode.isDigit c = (decide (48 ≤ c) && decide (c ≤ 57)) := by decide +kernel
theorem digit_S {l : List Nat} (h : AscL l) : Txt.isdigit (S l) = digs l := by
  unfold Txt.isdigit digs
  have e : (S l).cps.all Unicode.isDigit = l.all fun c => decide (48 ≤ c) && decide (c ≤ 57) := by
    show (List.toArray l).all Unicode.isDigit = _
    rw [List.all_toArray]
    induction l with
    | nil => rfl
    | cons a l ih =>
      rw [List.all_cons, List.all_cons, ih (h.sub fun c hc => List.mem_cons_of_mem _ hc)]
      congr 1
      exact dig128 a (h a List.mem_cons_self)
  rw [e]
  cases l <;> simp [S_len]
theorem int_of {l : List Nat} (h : digs l = true) (hl : l.length ≤ 4300) : intText? (S l) = some ((NumText.digitsVal l : Nat) : Int) := by
  unfold digs at h
  rw [Bool.and_eq_true] at h
  exact SX.int_S h.2 (fun z => by rw [z] at h; exact absurd h.1 (by decide)) hl

section
variable {P : Program} {w : World} {K : PySem.W.Frag} {mg : Str → Option Value} {base : Heap} {C B : Addr}
theorem te_int {i : Int} : ∀ (σ : L2.St) (H : Hp) (Q Q' : VK), (∀ v H', Q v H' → Q' v H') → tC (.int i) σ H Q → tC (.int i) σ H Q' := fun _ _ _ _ h q => h _ _ q
theorem te_var {i : Nat} : ∀ (σ : L2.St) (H : Hp) (Q Q' : VK), (∀ v H', Q v H' → Q' v H') → tVar i σ H Q → tVar i σ H Q' := fun _ _ _ _ h ⟨v, e, q⟩ => ⟨v, e, h _ _ q⟩
def spKeyOf : Sp := fun vs H Q _ => ∃ (l : List Nat) (d : Nat), vs = [.str (S l), .int (d : Int)] ∧ AscL l ∧ l.length ≤ 100000 ∧ d ≤ 1000 ∧ Q (.int (keyL l d)) H
theorem ok_key_of {cc : Addr} (T : Txt K mg cc) : Cal P w K mg base 1 "key_of" spKeyOf [] := by
  have Z := T.Z
  refine cal_of T.d_key_of sc_key_of (fun vs H Q E h => ?_) (fun f cdv A' outer s H vs Q E hr h => ?_)
  · obtain ⟨l, d, rfl, _⟩ := h
    rfl
  obtain ⟨l, d, rfl, ha, hl, hd, q⟩ := h
  have e16 : sizeLine = 16777216 := sizeLine_eq
  refine ⟨_, (pss_cons (ps_if (PW.pt (pw_or (pt_not (pt_val (pe_m0 PySem.F.slot_str_isdigit PySem.F.type_str_isdigit mt_isdigit (pv 0)))) (pw_or1 (pt_cmpR op_gt (pe_callB call_len_str rfl Z.len PySem.boot_len (pa_cons (pv 0) pa_nil)) pe_int (nomark _))))) (pss_one (ps_ret (pe_un un_neg pe_int))) pss_nil)
  (pss_cons (ps_set (i := 2) sc_key_of.nd rfl (Or.inl rfl) (pe_callTy call_int_str rfl Z.int (by decide +kernel) (pa_cons (pv 0) pa_nil)))
  (pss_cons (ps_if (pt_cmpR op_ge (pv 2) (pe_op op_oneShl pe_int (pv 1)) (nomark _)) (pss_one (ps_ret (pe_un un_neg pe_int))) pss_nil)
  (pss_one (ps_ret (pv 2)))))), ?_⟩
  refine ⟨_, rfl, ⟨_, rfl⟩, _, rfl, rfl, True.intro, _, rfl, ?_⟩
  rw [digit_S ha]
  cases hdg : digs l with
  | false =>
    rw [show keyL l d = -1 from if_neg (fun h => by rw [hdg] at h; cases h.1)] at q
    exact iteT (iteT ⟨_, rfl, q⟩)
  | true =>
    refine iteF ⟨_, rfl, _, rfl, by rw [S_len]; omega, _, _, rfl, rfl, _, rfl, ?_⟩
    rw [S_len]
    by_cases h9 : l.length ≤ 9
    · rw [decide_eq_false (show ¬ (9 : Int) < (l.length : Int) by omega)]
      refine iteF ⟨_, rfl, _, _, rfl, int_of hdg (by omega), by rw [S_len]; omega, ?_⟩
      refine ⟨_, rfl, _, rfl, d, rfl, rfl, by omega, _, _, rfl, rfl, _, rfl, ?_⟩
      have e2 : ((2 ^ d : Nat) : Int) = 2 ^ d := by rw [Int.natCast_pow]; rfl
      by_cases hk : NumText.digitsVal l < 2 ^ d
      · rw [show keyL l d = (NumText.digitsVal l : Int) from if_pos ⟨hdg, h9, hk⟩] at q
        rw [decide_eq_false (show ¬ (2 : Int) ^ d ≤ ((NumText.digitsVal l : Nat) : Int) by omega)]
        exact iteF ⟨_, rfl, q⟩
      · rw [show keyL l d = -1 from if_neg (fun h => hk h.2.2)] at q
        rw [decide_eq_true (show (2 : Int) ^ d ≤ ((NumText.digitsVal l : Nat) : Int) by omega)]
        exact iteT ⟨_, rfl, q⟩
    · rw [show keyL l d = -1 from if_neg (fun h => h9 h.2.1)] at q
      rw [decide_eq_true (show (9 : Int) < (l.length : Int) by omega)]
      exact iteT ⟨_, rfl, q⟩
/-- what a row says, as a value -/
def actV : Act → List V
  | .put k t => [.str "put", .int k, .str (S t)]
  | .cut k => [.str "cut", .int k]
def spReadRow (mg : Str → Option Value) : Sp := fun vs H Q E => ∃ (l : List Nat) (d : Nat), vs = [.str (S l), .int (d : Int)] ∧ AscL l ∧ l.length ≤ 100000 ∧ d ≤ 1000 ∧
  (readL l d = some none → ∀ H', Same H H' → Q .non H') ∧ (∀ a, readL l d = some (some a) → ∀ q H', Same H H' → H q = none → H' q = some (.tup (actV a)) → Q (.ref q) H') ∧
  (readL l d = none → ∀ D, mg "BadRow" = some (.ref D) → ∀ dx H', Same H H' → H dx = none → H' dx = some (.xd [("row", .int 0)]) → E (.ref D) (some dx) H')
theorem ok_read_rowN {cc : Addr} (T : Txt K mg cc) (EI : ExcI K mg "BadRow" "BookError" "row" "BadRow.__init__" s_BadRow___init__ ["self", "row"] C B) : CalN P w K mg base 3 "read_row" (spReadRow mg) := by
  have Z := T.Z
  have C_key_of := ok_key_of (P := P) (w := w) (base := base) T
  have F_BadRow := ok_brinit (P := P) (w := w) (base := base) T EI
  refine calN_of T.d_read_row sc_read_row (fun vs H Q E h => ?_) (fun f cdv A' outer s H vs Q E hr h => ?_)
  · obtain ⟨l, d, rfl, _⟩ := h
    rfl
  obtain ⟨l, d, rfl, ha, hl, hd, q1, q2, q3⟩ := h
  have e16 : sizeLine = 16777216 := sizeLine_eq
  refine ⟨_, (pss_cons (ps_set (i := 2) sc_read_row.nd rfl (Or.inl rfl) (pe_bm PySem.F.plainAttrs_str PySem.F.slot_str_lstrip PySem.F.type_str_lstrip mt_lstripChars (pv 0) (pa_cons pe_str pa_nil)))
  (pss_cons (ps_if (PW.pt (pw_or (pt_cmpR op_eq (pv 2) pe_str (nomark _)) (pw_or1 (pt_val (pe_m1 PySem.F.slot_str_startswith PySem.F.type_str_startswith mt_startswith (pv 2) pe_str))))) (pss_one (ps_ret pe_non)) pss_nil)
  (pss_cons (ps_asg (pe_partition (pv 2) pe_str) (pg_tup rfl (pgs_cons (pg_name (i := 3) sc_read_row.nd rfl (Or.inl rfl)) (pgs_cons (pg_name (i := 4) sc_read_row.nd rfl (Or.inl rfl)) (pgs_cons (pg_name (i := 5) sc_read_row.nd rfl (Or.inl rfl)) pgs_nil)))))
  (pss_cons (ps_if (pt_cmpR op_eq (pv 3) pe_str (nomark _)) (pss_cons (ps_asg (pe_partition (pv 5) pe_str) (pg_tup rfl (pgs_cons (pg_name (i := 6) sc_read_row.nd rfl (Or.inl rfl)) (pgs_cons (pg_name (i := 7) sc_read_row.nd rfl (Or.inl rfl)) (pgs_cons (pg_name (i := 8) sc_read_row.nd rfl (Or.inl rfl)) pgs_nil)))))
  (pss_cons (ps_set (i := 9) sc_read_row.nd rfl (Or.inl rfl) (pe_c C_key_of hr (by omega) rfl (pa_cons (pv 6) (pa_cons (pv 1) pa_nil))))
  (pss_one (ps_if (PW.pt (pw_and (pt_cmpR op_ge (pv 9) pe_int (nomark _)) (pw_and1 (pt_cmpR op_eq (pv 7) pe_str (nomark _))))) (pss_one (ps_ret (pe_tup (pa_cons pe_str (pa_cons (pv 9) (pa_cons (pv 8) pa_nil)))))) pss_nil)))) pss_nil)
  (pss_cons (ps_if (pt_cmpR op_eq (pv 3) pe_str (nomark _)) (pss_cons (ps_set (i := 9) sc_read_row.nd rfl (Or.inl rfl) (pe_c C_key_of hr (by omega) rfl (pa_cons (pe_bm PySem.F.plainAttrs_str PySem.F.slot_str_rstrip PySem.F.type_str_rstrip mt_rstripChars (pv 5) (pa_cons pe_str pa_nil)) (pa_cons (pv 1) pa_nil))))
  (pss_one (ps_if (pt_cmpR op_ge (pv 9) pe_int (nomark _)) (pss_one (ps_ret (pe_tup (pa_cons pe_str (pa_cons (pv 9) pa_nil))))) pss_nil))) pss_nil)
  (pss_one (ps_raiseIN EI F_BadRow hr (by omega) rfl (L2N.takes_of rfl rfl rfl rfl) rfl pe_int te_int))))))), ?_⟩
  have eSp : Str.ofString " " = S [32] := TL.ext_tl (by decide +kernel)
  have eHs : Str.ofString "#" = S [35] := TL.ext_tl (by decide +kernel)
  have eNo : Str.ofString "" = S [] := TL.ext_tl (by decide +kernel)
  have ePut : Str.ofString "put" = S putW := TL.ext_tl (by decide +kernel)
  have eCut : Str.ofString "cut" = S cutW := TL.ext_tl (by decide +kernel)
  have sEq : ∀ {a b : List Nat}, decide (V.str (S a) = V.str (S b)) = decide (a = b) := fun {a b} => decide_eq_decide.mpr ⟨fun z => S_inj (V.str.inj z), fun z => by rw [z]⟩
  have hAb : AscL (lsp l) := ha.sub fun c hc => lsp_mem hc
  have hAr : AscL (rst (lsp l)) := hAb.sub fun c hc => rst_mem hc
  have l1 := lsp_len l
  have l2 := rst_len (lsp l)
  have l3 := wrd_len (rst (lsp l))
  have l4 := rsp_len (rst (lsp l))
  refine ⟨_, rfl, rfl, _, _, rfl, rfl, by rw [S_len]; omega, ?_⟩
  rw [eSp, eHs, eNo, ePut, eCut, lstrip_S]
  refine ⟨_, rfl, rfl, _, rfl, ?_⟩
  rw [sEq]
  by_cases hb : lsp l = []
  · rw [decide_eq_true hb]
    exact iteT (iteT (q1 (if_pos (.inl hb)) H (Same.refl H)))
  rw [decide_eq_false hb]
  refine iteF ⟨_, rfl, ⟨_, rfl⟩, _, _, rfl, rfl, _, rfl, ?_⟩
  rw [hash_S]
  by_cases hh : (lsp l).head? = some 35
  · rw [decide_eq_true hh]
    exact iteT (q1 (if_pos (.inr hh)) H (Same.refl H))
  rw [decide_eq_false hh]
  have e0 : readL l d = _ := if_neg (fun z => z.elim hb hh)
  refine iteF ⟨_, rfl, ⟨_, rfl⟩, _, _, rfl, rfl, by decide +kernel, by rw [S_len]; omega, fun p1 np1 => ?_⟩
  rw [part_S]
  have s1 : Same H (upd H p1 (.tup [.str (S (wrd (lsp l))), .str (if 32 ∈ lsp l then S [32] else S []), .str (S (rst (lsp l)))])) := same_upd np1
  have hp1 : upd H p1 (.tup [.str (S (wrd (lsp l))), .str (if 32 ∈ lsp l then S [32] else S []), .str (S (rst (lsp l)))]) p1 = some (.tup [.str (S (wrd (lsp l))), .str (if 32 ∈ lsp l then S [32] else S []), .str (S (rst (lsp l)))]) := upd_same
  generalize upd H p1 (.tup [.str (S (wrd (lsp l))), .str (if 32 ∈ lsp l then S [32] else S []), .str (S (rst (lsp l)))]) = H1 at s1 hp1 ⊢
  refine ⟨p1, _, rfl, SqT.of hp1, rfl, _, _, rfl, _, _, rfl, _, _, rfl, rfl, ?_⟩
  refine ⟨_, rfl, rfl, _, rfl, ?_⟩
  rw [sEq]
  by_cases hp : wrd (lsp l) = putW
  · rw [decide_eq_true hp]
    rw [if_pos hp] at e0
    refine iteT ⟨_, rfl, ⟨_, rfl⟩, _, _, rfl, rfl, by decide +kernel, by rw [S_len]; omega, fun p2 np2 => ?_⟩
    rw [part_S]
    have s2 := s1.trans (same_upd (o := .tup [.str (S (wrd (rst (lsp l)))), .str (if 32 ∈ rst (lsp l) then S [32] else S []), .str (S (rst (rst (lsp l))))]) np2)
    have hp2 : upd H1 p2 (.tup [.str (S (wrd (rst (lsp l)))), .str (if 32 ∈ rst (lsp l) then S [32] else S []), .str (S (rst (rst (lsp l))))]) p2 = some (.tup [.str (S (wrd (rst (lsp l)))), .str (if 32 ∈ rst (lsp l) then S [32] else S []), .str (S (rst (rst (lsp l))))]) := upd_same
    generalize upd H1 p2 (.tup [.str (S (wrd (rst (lsp l)))), .str (if 32 ∈ rst (lsp l) then S [32] else S []), .str (S (rst (rst (lsp l))))]) = H2 at s2 hp2 ⊢
    refine ⟨p2, _, rfl, SqT.of hp2, rfl, _, _, rfl, _, _, rfl, _, _, rfl, rfl, ?_⟩
    refine ⟨_, rfl, _, rfl, wrd (rst (lsp l)), d, rfl, hAr.sub (fun c hc => wrd_mem hc), by omega, hd, ?_⟩
    refine ⟨_, rfl, _, _, rfl, rfl, _, rfl, ?_⟩
    by_cases hk : 0 ≤ keyL (wrd (rst (lsp l))) d
    · rw [decide_eq_true hk]
      refine iteT ⟨_, rfl, rfl, _, rfl, ?_⟩
      by_cases h32 : 32 ∈ rst (lsp l)
      · rw [if_pos h32, sEq, decide_eq_true rfl]
        rw [if_pos ⟨hk, h32⟩] at e0
        exact iteT ⟨_, rfl, _, rfl, by show 3 ≤ sizeLine; decide, fun q nq => q2 _ e0 q _ (s2.trans (same_upd nq)) (s2.free nq) (by rw [upd_same, ← ePut]; rfl)⟩
      · rw [if_neg h32, sEq, decide_eq_false (fun z => by cases z)]
        rw [if_neg (fun z => h32 z.2)] at e0
        exact iteF ⟨_, rfl, rfl, _, rfl, by
        rw [sEq, decide_eq_false (show ¬ wrd (lsp l) = cutW from fun z => by rw [hp] at z; cases z)]
        exact iteF ⟨0, rfl, by decide, by decide, fun dx ndx => q3 e0 _ EI.gC dx _ (s2.trans (same_upd ndx)) (s2.free ndx) upd_same⟩⟩
    · rw [decide_eq_false hk]
      rw [if_neg (fun z => hk z.1)] at e0
      exact iteF (iteF ⟨_, rfl, rfl, _, rfl, by
        rw [sEq, decide_eq_false (show ¬ wrd (lsp l) = cutW from fun z => by rw [hp] at z; cases z)]
        exact iteF ⟨0, rfl, by decide, by decide, fun dx ndx => q3 e0 _ EI.gC dx _ (s2.trans (same_upd ndx)) (s2.free ndx) upd_same⟩⟩)
  · rw [decide_eq_false hp]
    rw [if_neg hp] at e0
    refine iteF ⟨_, rfl, rfl, _, rfl, ?_⟩
    rw [sEq]
    by_cases hc : wrd (lsp l) = cutW
    · rw [decide_eq_true hc]
      rw [if_pos hc] at e0
      refine iteT ⟨_, rfl, rfl, _, _, rfl, rfl, by rw [S_len]; omega, ?_⟩
      rw [rstrip_S]
      refine ⟨_, rfl, rsp (rst (lsp l)), d, rfl, hAr.sub (fun c hc => rsp_mem hc), by omega, hd, ?_⟩
      refine ⟨_, rfl, _, _, rfl, rfl, _, rfl, ?_⟩
      by_cases hk : 0 ≤ keyL (rsp (rst (lsp l))) d
      · rw [decide_eq_true hk]
        rw [if_pos hk] at e0
        exact iteT ⟨_, rfl, by show 2 ≤ sizeLine; decide, fun q nq => q2 _ e0 q _ (s1.trans (same_upd nq)) (s1.free nq) (by rw [upd_same, ← eCut]; rfl)⟩
      · rw [decide_eq_false hk]
        rw [if_neg hk] at e0
        exact iteF ⟨0, rfl, by decide, by decide, fun dx ndx => q3 e0 _ EI.gC dx _ (s1.trans (same_upd ndx)) (s1.free ndx) upd_same⟩
    · rw [decide_eq_false hc]
      rw [if_neg hc] at e0
      exact iteF ⟨0, rfl, by decide, by decide, fun dx ndx => q3 e0 _ EI.gC dx _ (s1.trans (same_upd ndx)) (s1.free ndx) upd_same⟩
end

/-! ### isinstance of a caught error that has a dict -/
section
variable {prog : Program} {w : World} {A : Around} {E : Value → Shared → Prop} {s : Shared} {K : PySem.W.Frag} {x D : Addr} {ox : Obj} {od : Option Obj}
open PySem.W PySem.Calls in
theorem cls_of_exc {Q : Option Value → Shared → Prop} (C : ExcC K D) (inK : K.In s.heap) (at_ : InstAt s.heap x ox D od) (fin : Q (some (.ref D)) { s with toks := s.toks + 1 }) :
    wpAny (model prog w) A (getAttr? (.ref x) "__class__") Q E s := by
  obtain ⟨cd, clsD, _⟩ := any_some C.hd
  have there : findObj K D od "__class__" = some (.bind (.builtin "getset_descriptor.__get__") (.builtin "object.__class__")) := by
    unfold findObj
    rw [clsD, Option.bind_some, C.ha, Option.bind_some]
    simp [C.hn, C.ht]
  obtain ⟨hp, g, d, t, os⟩ := s
  have tyL := at_.type (M := model prog w)
  have gaL := looks_findIn (M := model prog w) inK C.hg
  have gtL := looks_findIn (M := model prog w) inK C.hk
  have clL := looks_find (M := model prog w) inK at_ there
  have exL : Looks (model prog w) hp (isInstance (.ref x) (.type "BaseException")) true := tyL.andThen (looks_subIn inK C.hs)
  have own : (Value.builtin "BaseException.__getattribute__" == Value.builtin "object.__getattribute__") = false := by decide +kernel
  unfold getAttr? getAttrBy? getAttrBy
  refine wpAny_bind (wpAny_mkText (wpAny_bind (wpAny_attempt (wpAny_holding (wpAny_bind (tyL.at (wpAny_bind (gaL.at ?_))))))))
  show wpAny _ _ (if (onTheHeap (Value.ref D) && Value.builtin "BaseException.__getattribute__" == Value.builtin "object.__getattribute__") = true then _ else _) _ _ _
  rw [own, Bool.and_false, if_neg Bool.false_ne_true]
  unfold getAttrByItsOwn hookBefore
  refine wpAny_bind ?_
  rw [if_pos (show onTheHeap (Value.ref D) = true from rfl)]
  refine gtL.at (wpAny_bind (wpAny_attempt (wpAny_holding ?_)))
  unfold callGetattribute
  rw [show (false && onTheHeap (Value.builtin "BaseException.__getattribute__")) = false from rfl, if_neg Bool.false_ne_true]
  unfold boundAndCalled
  rw [PySem.F.excAttr_ValueError.ga.bind (.ref x)]
  refine wpAny_bind (wpAny_pure ?_)
  show wpAny _ _ (call (.builtin "BaseException.__getattribute__") [.ref x, .str "__class__" t]) _ _ _
  refine wpAny_call (codeAny_call_builtin PySem.F.excAttr_ValueError.ga.plain PySem.F.entry_bexc_ga
    (@check_slot (model prog w) _ _ ⟨hp, g, d, t + 1, os⟩ "BaseException.__getattribute__" "BaseException" "__getattribute__" (.ref x) [.str "__class__" t] [] _
      (by decide +kernel) (by decide +kernel) exL (PySem.F.args_bexc_ga (.ref x) (.str "__class__" t)) ?_))
  unfold Builtin.«object.__getattribute__»
  refine wpAny_bind (wpAny_of_eq (a := ((Value.ref x : Value), [Value.str "__class__" t])) (by first | rfl | (simp only [slotArgs]; rfl)) (wpAny_bind (wpAny_pure (wpAny_bind (tyL.at (wpAny_bind (clL.at ?_)))))))
  show wpAny _ _ (holding [Value.builtin "object.__class__"] (call (.builtin "getset_descriptor.__get__") [.builtin "object.__class__", .ref x, .ref D]) >>= ret) _ _ _
  refine wpAny_bind (wpAny_holding (wpAny_call (class_get (s := ⟨hp, g, d, t + 1, os⟩) (ox := ox) (od := od) inK at_ C.hm (wpAny_pure ?_))))
  show wpAny _ _ (handedOut (.ref D)) _ _ _
  rw [handedOut_of (v := .ref D) rfl]
  first
    | exact wpAny_pure (wpAny_pure fin)
    | exact wpAny_pure fin
    | exact wpAny_pure (wpAny_bind (wpAny_pure (wpAny_pure fin)))
open PySem.W PySem.Calls in
theorem kit_exc (C : ExcC K D) : KitX K (.ref x) (.ref D) (fun h => InstAt h x ox D od) where
  ty := fun _ _ _ I => I.type
  it := fun _ _ inK _ => by
    obtain ⟨cd, clsD, _⟩ := any_some C.hd
    unfold clsIn at clsD
    split at clsD
    · rename_i ho
      exact fun _ _ _ _ keep q => by
        unfold isType loadHead
        exact wpAny_bind (wpAny_loadPart (keep _ _ (inK _ _ ho)) (wpAny_pure q))
    · cases clsD
  ne := fun h tp dd its n sl inK htp => by
    obtain ⟨cd, clsD, _⟩ := any_some C.hd
    refine Bool.eq_false_iff.mpr fun q => ?_
    obtain rfl : D = tp := Value.ref.inj (beq_iff_eq.mp q)
    unfold clsIn at clsD
    split at clsD
    · rename_i ho
      cases (inK _ _ ho).symm.trans htp
    · cases clsD
  ca := fun inK I k => cls_of_exc C inK I k
end
theorem call_isD {X : Cx} {a D : Addr} {oe : Obj} {d : Option Addr} {pn : List (Addr × Obj)} (C : ExcC X.K D) (hz : Zc (.ref D) d oe) (hf : ∃ vs, oe.data = .fields vs) :
    CallR (X.suite a ((a, oe) :: pn)) (.builtin "isinstance") (fun xs H Q => ∃ (c : V) (cv : Value) (b : Bool) (dd : Addr) (fs : List (Str × V)), d = some dd ∧ H dd = some (.xd fs) ∧ xs = [.ref a, c] ∧ (∀ u, RelV c u → u = cv) ∧ PySem.W.kitOne X.K (.ref D) cv = some b ∧ Q (.bl b) H) := by
  intro pins s σ H xs us Q I r h
  obtain ⟨c, cv, b, dd, fs, rfl, hdd, rfl, hcv, e, q⟩ := h
  rcases r with _ | ⟨rx, r⟩
  rcases r with _ | ⟨rt, r⟩
  rcases r with _ | _
  cases rx
  obtain rfl := hcv _ rt
  obtain ⟨hget, _⟩ := I.pin (a, oe) (List.mem_append.mpr (.inl List.mem_cons_self))
  obtain ⟨vs, hv⟩ := hf
  obtain ⟨mA, hns, _⟩ : ObjOk X.prog X.w H s.heap dd (.xd fs) := I.hok dd _ hdd
  obtain ⟨odv, ho, _⟩ := lookIn_ns hns
  have J : PySem.W.InstAt s.heap a oe D (some odv) := ⟨hget, hz.1, by unfold PySem.W.notCls; rw [hv] <;> rfl, by rw [hz.2]; exact ho⟩
  exact PySem.W.kia_one (kit_exc C) I.kIn J e (fun z => nomatch z) fun tk => ⟨.bl b, H, I.kept (t' := tk) fun _ _ z => z, rfl, q⟩
theorem zcd_of {cls : Value} {C : Addr} {d : Option Addr} {oe : Obj} (hz : Zc cls d oe) (h : cls = .ref C) : Zc (.ref C) d oe := h ▸ hz

section
variable {P : Program} {w : World} {K : PySem.W.Frag} {mg : Str → Option Value} {base : Heap} {C B : Addr}
def spPlaced (mg : Str → Option Value) : Sp := fun vs H Q E => ∃ (l : List Nat) (d : Nat) (pl : Int), vs = [.str (S l), .int pl, .int (d : Int)] ∧ AscL l ∧ l.length ≤ 100000 ∧ d ≤ 1000 ∧ 0 ≤ pl ∧ pl < 1000000 ∧
  (readL l d = some none → ∀ H', Same H H' → Q .non H') ∧ (∀ a, readL l d = some (some a) → ∀ q H', Same H H' → H q = none → H' q = some (.tup (actV a)) → Q (.ref q) H') ∧
  (readL l d = none → ∀ D, mg "BadRow" = some (.ref D) → ∀ dx H', Same H H' → H dx = none → H' dx = some (.xd [("row", .int pl)]) → E (.ref D) (some dx) H')
theorem ok_placed {cc : Addr} (T : Txt K mg cc) (EI : ExcI K mg "BadRow" "BookError" "row" "BadRow.__init__" s_BadRow___init__ ["self", "row"] C B) : CalY P w K mg base 4 "placed" (spPlaced mg) := by
  have Z := T.Z
  have C_read_row := ok_read_rowN (P := P) (w := w) (base := base) T EI
  have F_BadRowH := ok_brinitH (P := P) (w := w) (base := base) T EI
  refine calY_of T.d_placed sc_placed (fun vs H Q E h => ?_) (fun f cdv A' outer s H vs Q E hr h => ?_)
  · obtain ⟨l, d, pl, rfl, _⟩ := h
    rfl
  obtain ⟨l, d, pl, rfl, ha, hl, hd, hp0, hp1, q1, q2, q3⟩ := h
  refine ⟨_, (pss_one (ps_try_onlyXEK (pss_one (ps_ret (pv 3))) rfl rfl ⟨rfl, by decide, .inl EI.gC⟩ (fun hd => L2H.passesAt_of rfl hd) (takesK_of rfl rfl rfl rfl) (fun W pn xe tk po => (pss_one (ps_set (i := 3) sc_placed.nd rfl (Or.inl rfl) (pe_cn C_read_row tk hr (by omega) rfl (pa_cons (pv 0) (pa_cons (pv 2) pa_nil)))))) (fun a oe cls d pn hz hf tk hot => (pss_one (ps_raiseIHK EI F_BadRowH (L2H.roomH_mark hr (some (.ref a))) (by omega) hot tk rfl (pv 1) te_var))))), ?_⟩
  refine ⟨_, rfl, _, rfl, l, d, rfl, ha, hl, hd, fun e H' s' => ⟨_, rfl, q1 e H' s'⟩, fun a e q H' s' nq hq => ⟨_, rfl, q2 a e q H' s' nq hq⟩, fun e D hD dx H' s' ndx hdx => ?_⟩
  rw [EI.gC] at hD
  cases hD
  exact ⟨true, EI.eP, fun _ a na => ⟨_, rfl, pl, rfl, hp0, hp1, fun dx2 n2 => q3 e _ EI.gC dx2 _ (s'.trans (same_upd n2)) (s'.free n2) upd_same⟩, fun z => nomatch z⟩
end

theorem spl_many : ∀ (l acc : List Nat), (TL.spl [10] 0 acc l).length ≤ l.length + 1
  | [], acc => by rw [TL.spl_nil]; exact Nat.le_refl _
  | c :: r, acc => by
    cases h : TL.pre [10] (c :: r) with
    | true =>
      rw [TL.spl_hit h]
      have := spl_many r []
      exact Nat.succ_le_succ this
    | false =>
      rw [TL.spl_miss h]
      have := spl_many r (acc ++ [c])
      show _ ≤ r.length + 1 + 1
      omega
theorem spl_rows : ∀ (l acc : List Nat), ∀ x ∈ TL.spl [10] 0 acc l, (∀ c ∈ x, c ∈ acc ∨ c ∈ l) ∧ x.length ≤ acc.length + l.length
  | [], acc => fun x hx => by
    rw [TL.spl_nil] at hx
    rw [List.mem_singleton.mp hx]
    exact ⟨fun c hc => .inl hc, Nat.le_refl _⟩
  | c :: r, acc => fun x hx => by
    cases h : TL.pre [10] (c :: r) with
    | true =>
      rw [TL.spl_hit h] at hx
      rcases List.mem_cons.mp hx with rfl | hx
      · exact ⟨fun c hc => .inl hc, Nat.le_add_right _ _⟩
      · obtain ⟨h1, h2⟩ := spl_rows r [] x hx
        refine ⟨fun b hb => .inr (List.mem_cons_of_mem _ ((h1 b hb).resolve_left (fun z => nomatch z))), ?_⟩
        show _ ≤ acc.length + (r.length + 1)
        have h2 : x.length ≤ 0 + r.length := h2
        omega
    | false =>
      rw [TL.spl_miss h] at hx
      obtain ⟨h1, h2⟩ := spl_rows r (acc ++ [c]) x hx
      refine ⟨fun b hb => ?_, ?_⟩
      · rcases h1 b hb with h | h
        · rcases List.mem_append.mp h with h | h
          · exact .inl h
          · rw [List.mem_singleton.mp h]
            exact .inr List.mem_cons_self
        · exact .inr (List.mem_cons_of_mem _ h)
      · rw [List.length_append] at h2
        show _ ≤ acc.length + (r.length + 1)
        have h2 : x.length ≤ acc.length + 1 + r.length := h2
        omega

open SX (S S_len S_inj S_cat)
/-! ### the rows of a text, done on pairs -/
def runL (d : Nat) : Nat → List (List Nat) → List (Int × Str) → Except Nat (List (Int × Str))
  | _, [], kv => .ok kv
  | i, r :: rs, kv => match readL r d with
    | none => .error i
    | some none => runL d (i + 1) rs kv
    | some (some (.put k t)) => runL d (i + 1) rs (putI kv k (S t))
    | some (some (.cut k)) => match getI kv k with
      | none => .error i
      | some _ => runL d (i + 1) rs (popI kv k)
def ActIn (l : Nat) (row : List Nat) : Act → Prop
  | .put k t => 0 ≤ k ∧ k < 2 ^ l ∧ ∀ c ∈ t, c ∈ row
  | .cut k => 0 ≤ k ∧ k < 2 ^ l
theorem keyL_lt {l : List Nat} {d : Nat} (h : 0 ≤ keyL l d) : keyL l d < 2 ^ d := by
  unfold keyL at h ⊢
  by_cases c : digs l = true ∧ l.length ≤ 9 ∧ NumText.digitsVal l < 2 ^ d
  · rw [if_pos c]
    have e : ((2 ^ d : Nat) : Int) = 2 ^ d := by rw [Int.natCast_pow]; rfl
    rw [← e]
    exact Int.ofNat_lt.mpr c.2.2
  · rw [if_neg c] at h
    exact absurd h (by decide)
theorem readL_in {row : List Nat} {d : Nat} {a : Act} (h : readL row d = some (some a)) : ActIn d row a := by
  unfold readL at h
  split at h
  · cases h
  · split at h
    · split at h
      · rename_i c
        cases h
        exact ⟨c.1, keyL_lt c.1, fun x hx => lsp_mem (rst_mem (rst_mem hx))⟩
      · cases h
    · split at h
      · split at h
        · rename_i c
          cases h
          exact ⟨c, keyL_lt c⟩
        · cases h
      · cases h
theorem putI_new {kvs : List (Int × Str)} {k : Int} (x : Str) (h : ∀ e ∈ kvs, e.1 ≠ k) : putI kvs k x = kvs ++ [(k, x)] := by
  unfold putI
  rw [if_neg]
  intro c
  obtain ⟨e, he, q⟩ := List.any_eq_true.mp c
  exact h e he (of_decide_eq_true q)
theorem put_take {rows : List (Int × Str)} {i : Nat} {e : Int × Str} (hn : (rows.map (·.1)).Nodup) (he : rows[i]? = some e) : putI (rows.take i) e.1 e.2 = rows.take (i + 1) := by
  have e1 : rows.take (i + 1) = rows.take i ++ [e] := by rw [List.take_succ, he]; rfl
  rw [e1, putI_new]
  intro y hy z
  have hi := (List.getElem?_eq_some_iff.mp he).1
  have h1 : ((rows.take (i + 1)).map (·.1)).Nodup := hn.sublist (List.Sublist.map _ (List.take_sublist _ _))
  rw [e1, List.map_append, List.nodup_append] at h1
  exact h1.2.2 y.1 (List.mem_map_of_mem hy) e.1 (by simp) z
theorem TbOk.perm {l : Nat} {a b : List (Int × Str)} (h : TbOk l a) (p : b.Perm a) : TbOk l b :=
  ⟨(p.map (·.1)).nodup_iff.mpr h.nd, fun e he => h.rg e (p.mem_iff.mp he), fun e he => h.tx e (p.mem_iff.mp he)⟩
theorem TbAt.upd {C f : Addr} {H : Hp} {p d : Addr} {l : Nat} {kvs kvs' : List (Int × Str)} (h : TbAt C f H p d l kvs) (hl : kvs'.length ≤ 1000) : TbAt C f (L2.upd H d (.dK (convT kvs'))) p d l kvs' := by
  obtain ⟨⟨dx, a⟩, b, c⟩ := h
  exact ⟨⟨dx, by rw [upd_ne (fun z => by rw [z, b] at a; cases a)]; exact a⟩, upd_same, hl, c.2⟩
theorem ne_dK {H : Hp} {d a : Addr} {kv : List (Key × V)} {xs : List V} (hd : H d = some (.dK kv)) (ha : H a = some (.lst xs)) : a ≠ d := fun z => by
  rw [z, hd] at ha
  cases ha
/-! ### pairs in another row -/
theorem any_key {a : List (Int × Str)} {k : Int} : ((a.any fun e => decide (e.1 = k)) = true) ↔ k ∈ a.map (·.1) := by
  rw [List.any_eq_true, List.mem_map]
  exact ⟨fun ⟨e, h, q⟩ => ⟨e, h, of_decide_eq_true q⟩, fun ⟨e, h, q⟩ => ⟨e, h, decide_eq_true q⟩⟩
theorem putI_perm {a b : List (Int × Str)} (p : a.Perm b) (k : Int) (x : Str) : (putI a k x).Perm (putI b k x) := by
  have h := (p.map (·.1)).mem_iff (a := k)
  unfold putI
  by_cases c : (a.any fun e => decide (e.1 = k)) = true
  · rw [if_pos c, if_pos (any_key.mpr (h.mp (any_key.mp c)))]
    exact p.map _
  · rw [if_neg c, if_neg (fun z => c (any_key.mpr (h.mpr (any_key.mp z))))]
    exact p.append_right _
theorem popI_perm {a b : List (Int × Str)} (p : a.Perm b) (k : Int) : (popI a k).Perm (popI b k) := p.filter _
theorem getI_none {a : List (Int × Str)} {k : Int} (h : k ∉ a.map (·.1)) : getI a k = none := by
  unfold getI
  rw [List.find?_eq_none.mpr]
  · rfl
  · intro e he z
    exact h (List.mem_map.mpr ⟨e, he, of_decide_eq_true z⟩)
theorem getI_perm {a b : List (Int × Str)} (hn : (a.map (·.1)).Nodup) (p : a.Perm b) (k : Int) : getI a k = getI b k := by
  by_cases c : k ∈ a.map (·.1)
  · obtain ⟨t, h1, h2⟩ := getI_mem c
    rw [h1]
    exact (getI_of (e := (k, t)) ((p.map (·.1)).nodup_iff.mp hn) (p.mem_iff.mp h2)).symm
  · rw [getI_none c, getI_none fun z => c ((p.map (·.1)).mem_iff.mpr z)]
theorem putI_nd {a : List (Int × Str)} (h : (a.map (·.1)).Nodup) (k : Int) (x : Str) : ((putI a k x).map (·.1)).Nodup := by
  unfold putI
  by_cases c : (a.any fun e => decide (e.1 = k)) = true
  · rw [if_pos c]
    have em : (a.map fun e => if e.1 = k then (e.1, x) else e).map (·.1) = a.map (·.1) := by
      rw [List.map_map]
      refine List.map_congr_left fun e _ => ?_
      show (if e.1 = k then (e.1, x) else e).1 = e.1
      by_cases q : e.1 = k
      · rw [if_pos q]
      · rw [if_neg q]
    rw [em]
    exact h
  · rw [if_neg c, List.map_append, List.nodup_append]
    refine ⟨h, List.pairwise_singleton _ _, fun y hy z hz => ?_⟩
    have hz' : z = k := List.mem_singleton.mp hz
    subst hz'
    exact fun q => c (any_key.mpr (q ▸ hy))
theorem popI_nd {a : List (Int × Str)} (h : (a.map (·.1)).Nodup) (k : Int) : ((popI a k).map (·.1)).Nodup := h.sublist (List.Sublist.map _ List.filter_sublist)
def SameR : Except Nat (List (Int × Str)) → Except Nat (List (Int × Str)) → Prop
  | .ok x, .ok y => x.Perm y
  | .error i, .error j => i = j
  | _, _ => False
theorem run_perm {d : Nat} : ∀ (rs : List (List Nat)) (i : Nat) (a b : List (Int × Str)), (a.map (·.1)).Nodup → a.Perm b → SameR (runL d i rs a) (runL d i rs b)
  | [], i, a, b, _, p => p
  | r :: rs, i, a, b, hn, p => by
    rw [runL, runL]
    cases readL r d with
    | none => exact (rfl : i = i)
    | some o =>
      cases o with
      | none => exact run_perm rs (i + 1) a b hn p
      | some act =>
        cases act with
        | put k t => exact run_perm rs (i + 1) _ _ (putI_nd hn k _) (putI_perm p k _)
        | cut k =>
          show SameR (match getI a k with | none => .error i | some _ => runL d (i + 1) rs (popI a k)) (match getI b k with | none => .error i | some _ => runL d (i + 1) rs (popI b k))
          rw [← getI_perm hn p k]
          cases getI a k with
          | none => exact (rfl : i = i)
          | some v => exact run_perm rs (i + 1) _ _ (popI_nd hn k) (popI_perm p k)
theorem SameR.ok {x : List (Int × Str)} {r : Except Nat (List (Int × Str))} (h : SameR (.ok x) r) : ∃ y, r = .ok y ∧ x.Perm y := by
  cases r with
  | ok y => exact ⟨y, rfl, h⟩
  | error j => exact h.elim
theorem SameR.error {i : Nat} {r : Except Nat (List (Int × Str))} (h : SameR (.error i) r) : r = .error i := by
  cases r with
  | ok y => exact h.elim
  | error j => exact congrArg Except.error (Eq.symm h)
theorem run_ok {d : Nat} : ∀ (rs : List (List Nat)) (i : Nat) (a b : List (Int × Str)), TbOk d a → (∀ r ∈ rs, AscL r) → runL d i rs a = .ok b → TbOk d b ∧ b.length ≤ a.length + rs.length
  | [], i, a, b, h, _, e => by
    cases e
    exact ⟨h, Nat.le_refl _⟩
  | r :: rs, i, a, b, h, hr, e => by
    have hr' := fun x hx => hr x (List.mem_cons_of_mem _ hx)
    rw [runL] at e
    cases q : readL r d with
    | none => rw [q] at e; cases e
    | some o =>
      rw [q] at e
      cases o with
      | none =>
        obtain ⟨h1, h2⟩ := run_ok rs (i + 1) a b h hr' e
        exact ⟨h1, by rw [List.length_cons]; omega⟩
      | some act =>
        have hin := readL_in q
        cases act with
        | put k t =>
          have tx : txtOk (S t) = true := txt_of_tl fun c hc => by
            have := hr r List.mem_cons_self c (hin.2.2 c hc)
            omega
          obtain ⟨h1, h2⟩ := run_ok rs (i + 1) _ b (tbok_put h hin.1 hin.2.1 tx) hr' e
          have := put_length a k (S t)
          exact ⟨h1, by rw [List.length_cons]; omega⟩
        | cut k =>
          have e : (match getI a k with | none => Except.error i | some _ => runL d (i + 1) rs (popI a k)) = .ok b := e
          cases g : getI a k with
          | none => rw [g] at e; cases e
          | some v =>
            rw [g] at e
            obtain ⟨h1, h2⟩ := run_ok rs (i + 1) _ b (tbok_pop h) hr' e
            have := pop_length a k
            exact ⟨h1, by rw [List.length_cons]; omega⟩

section
variable {P : Program} {w : World} {K : PySem.W.Frag} {mg : Str → Option Value} {base : Heap} {Fam : Sys → Prop} {C B CT : Addr}
def spChanged (mg : Str → Option Value) (CT : Addr) (Fam : Sys → Prop) : Sp := fun vs H Q E => ∃ (S0 : Sys) (p d : Addr) (l : Nat) (kvs : List (Int × Str)) (tx : List Nat) (r : Nat), Fam S0 ∧ vs = [.ref p, .str (S tx), .int (l : Int)] ∧ TbAt CT S0.f H p d l kvs ∧ TbOk l kvs ∧ AscL tx ∧ kvs.length + tx.length ≤ 900 ∧ S0.ok H r ∧
  (∀ rows kv o d' H', rows.Perm kvs → runL l 0 (TL.spl [10] 0 [] tx) rows = .ok kv → Ext H H' → H o = none → H d' = none → S0.ok H' r → TbAt CT S0.f H' o d' l kv → TbOk l kv → Q (.ref o) H') ∧
  (∀ rows i, rows.Perm kvs → runL l 0 (TL.spl [10] 0 [] tx) rows = .error i → ∀ D, mg "BadRow" = some (.ref D) → ∀ dx H', Ext H H' → S0.ok H' r → H dx = none → H' dx = some (.xd [("row", .int (i : Int))]) → E (.ref D) (some dx) H')
theorem ok_changed {cc : Addr} (T : Txt K mg cc) (A : SlA P w K mg base Fam) (KT : K_Table K mg CT) (EI : ExcI K mg "BadRow" "BookError" "row" "BadRow.__init__" s_BadRow___init__ ["self", "row"] C B) : CalY P w K mg base 8 "changed" (spChanged mg CT Fam) := by
  have Z := T.Z
  have C_placed := ok_placed (P := P) (w := w) (base := base) T EI
  have F_BadRow := ok_brinit (P := P) (w := w) (base := base) T EI
  have C_Table := ok_tinit A KT
  have M_rows := ok_rows (P := P) (w := w) (base := base) T KT
  have M_put := ok_put (P := P) (w := w) (base := base) T KT
  have M_value := ok_value (P := P) (w := w) (base := base) T KT
  have M_cut := ok_cut (P := P) (w := w) (base := base) T KT
  refine calY_of T.d_changed sc_changed (fun vs H Q E h => ?_) (fun f cdv A' outer s H vs Q E hr h => ?_)
  · obtain ⟨S0, p, d, l, kvs, tx, r, _, rfl, _⟩ := h
    rfl
  obtain ⟨S0, p, d, l, kvs, tx, r, hF, rfl, tb, hk, ha, hsz, hok, q1, q2⟩ := h
  have G := A.good hF
  have e16 : sizeLine = 16777216 := sizeLine_eq
  obtain ⟨⟨dx, hp⟩, hd, hz, hl'⟩ := id tb
  refine ⟨_, (pss_cons (ps_set (i := 3) sc_changed.nd rfl (Or.inl rfl) (pe_mk C_Table hr (by omega) rfl (pa_cons (pe_fld (pv 0) rfl) (pa_cons (pv 2) pa_nil))))
  (pss_cons (ps_for (passes_of rfl) rfl (pi_list (pe_mt0 M_rows hr (by omega) (pv 0))) (pg_tup rfl (pgs_cons (pg_name (i := 4) sc_changed.nd rfl (Or.inl rfl)) (pgs_cons (pg_name (i := 5) sc_changed.nd rfl (Or.inl rfl)) pgs_nil))) (pss_one (ps_expr (pe_mtx M_put takes0 hr (by omega) (pv 3) (pa_cons (pv 4) (pa_cons (pv 5) pa_nil))))))
  (pss_cons (ps_for (passes_of rfl) rfl (pi_enum (by rfl) Z.enumerate (pa_cons (pe_split (pv 1) pe_str) pa_nil)) (pg_tup rfl (pgs_cons (pg_name (i := 6) sc_changed.nd rfl (Or.inl rfl)) (pgs_cons (pg_name (i := 7) sc_changed.nd rfl (Or.inl rfl)) pgs_nil))) (pss_cons (ps_set (i := 8) sc_changed.nd rfl (Or.inl rfl) (pe_cy C_placed (takesK_of rfl rfl rfl rfl) hr (by omega) rfl (pa_cons (pv 7) (pa_cons (pv 6) (pa_cons (pv 2) pa_nil)))))
  (pss_one (ps_if (PW.pt (pw_and (pt_cmpR op_notN (pv 8) pe_non (nomark _)) (pw_and1 (pt_cmpR op_eq (pe_ix ix_tup (pv 8) pe_int (fun _ _ => rfl)) pe_str (nomark _))))) (pss_one (ps_expr (pe_mtx M_put takes0 hr (by omega) (pv 3) (pa_cons (pe_ix ix_tup (pv 8) pe_int (fun _ _ => rfl)) (pa_cons (pe_ix ix_tup (pv 8) pe_int (fun _ _ => rfl)) pa_nil))))) (pss_one (ps_if (pt_cmpR op_notN (pv 8) pe_non (nomark _)) (pss_cons (ps_if (pt_cmpR op_isN (pe_mtx M_value takes0 hr (by omega) (pv 3) (pa_cons (pe_ix ix_tup (pv 8) pe_int (fun _ _ => rfl)) pa_nil)) pe_non (nomark _)) (pss_one (ps_raiseIN EI F_BadRow hr (by omega) rfl (takesK_n (takesK_of rfl rfl rfl rfl)) rfl (pv 6) te_var)) pss_nil)
  (pss_one (ps_expr (pe_mtx M_cut takes0 hr (by omega) (pv 3) (pa_cons (pe_ix ix_tup (pv 8) pe_int (fun _ _ => rfl)) pa_nil))))) pss_nil))))))
  (pss_one (ps_ret (pv 3)))))), ?_⟩
  have eNl : Str.ofString "\n" = S [10] := TL.ext_tl (by decide +kernel)
  refine ⟨_, rfl, p, CT, dx, _, _, rfl, hp, KT.cl, KT.n_seal, tbF_seal _ _ _, _, rfl, fun o ox no nox nex => ?_⟩
  have y1 : Ext H (upd (upd H ox (.own o)) o (.ins CT ox [])) := (Ext.new nox).trans (Ext.new (by rw [upd_ne nex.symm]; exact no))
  have ky1 : Kp H (upd (upd H ox (.own o)) o (.ins CT ox [])) := (Kp.new nox).trans (Kp.new (by rw [upd_ne nex.symm]; exact no))
  refine ⟨S0, o, ox, l, r, hF, rfl, upd_same, hl', G.keep ky1 hok, fun H1 d1 xo1 kp1 nd1 ok1 tb1 => ⟨rfl, ?_⟩⟩
  have x1 : Ext H H1 := xo1.ext y1 no
  have nd1' := y1.free nd1
  -- the rows
  have tbp := tb.ext x1
  obtain ⟨⟨dx', hp'⟩, _, _⟩ := id tbp
  refine ⟨_, rfl, p, dx', _, rfl, hp', (tbF_no _ _ _).2.2.2.2.1, S0.f, p, d, l, kvs, rfl, tbp, hk.nd, hk.tx, fun qr ys rows H2 x2 k2 nqr hqr hrows perm pw => ?_⟩
  have hk2 := hk.perm perm
  have tb2 := tb1.ext x2
  have hyl := hrows.len
  have rl := perm.length_eq
  refine ⟨qr, rfl, ⟨_, SqL.of hqr⟩, for_list (K := K) (a := qr) (xs := ys) (fun i σ H' => ∃ (y4 y5 : Option V), σ = [some (.ref p), some (.str (S tx)), some (.int (l : Int)), some (.ref o), y4, y5, none, none, none] ∧ Ext H H' ∧ S0.ok H' r ∧ TbAt CT S0.f H' o d1 l (rows.take i) ∧ H' qr = some (.lst ys) ∧ KvL H' ys rows)
    ⟨none, none, rfl, x1.trans x2, G.keep k2 ok1, tb2, hqr, hrows⟩ (fun i σ H' _ ⟨_, _, _, _, _, _, h, _⟩ => SqL.of h) ?_ ?_⟩
  · rintro i x σ H' hi ⟨y4, y5, rfl, xi, oki, tbi, hqi, hri⟩
    have hil := (List.getElem?_eq_some_iff.mp hi).1
    have he : rows[i]? = some (rows[i]'(by omega)) := List.getElem?_eq_getElem _
    obtain ⟨qe, rfl, hqe, hqx⟩ := hri.at_ i x _ hi he
    have hrg := hk2.rg _ (List.getElem_mem (show i < rows.length by omega))
    generalize rows[i]'(by omega) = e at he hqe hqx hrg
    obtain ⟨⟨dxo, hpo⟩, hdo, _⟩ := id tbi
    refine ⟨qe, _, rfl, SqT.of hqe, rfl, _, _, rfl, _, _, rfl, rfl, _, rfl, o, dxo, _, rfl, hpo, (tbF_no _ _ _).2.1, _, rfl, _, rfl, S0.f, o, d1, l, _, e.1, e.2, rfl, tbi, fun _ => ?_, fun h => absurd hrg h⟩
    rw [put_take hk2.nd he]
    refine ⟨_, _, rfl, xi.mut nd1', G.keep (Kp.dK hdo) oki, tbi.upd (by rw [List.length_take]; omega), by rw [upd_ne (ne_dK hdo hqi)]; exact hqi, hri.gr (Kp.dK hdo).gr⟩
  rintro σ H3 ⟨y4, y5, rfl, x3, ok3, tb3, _, _⟩
  rw [hyl, List.take_length] at tb3
  -- the text's rows
  refine ⟨_, rfl, ⟨_, rfl⟩, _, _, rfl, rfl, by decide +kernel, by rw [S_len]; omega, fun sp nsp => ?_⟩
  rw [eNl, SX.split_S (by simp) (by decide)]
  have rlm := spl_many tx []
  have rm := spl_rows tx []
  generalize TL.spl [10] 0 [] tx = trs at rlm rm q1 q2 ⊢
  have u4 := Ext.new (o := .lst ((trs.map S).map V.str)) nsp
  have hsp : upd H3 sp (.lst ((trs.map S).map V.str)) sp = some (.lst ((trs.map S).map V.str)) := upd_same
  have x4 := x3.trans u4
  have ok4 := G.keep (Kp.new (o := .lst ((trs.map S).map V.str)) nsp) ok3
  have tb4 := tb3.ext u4
  generalize upd H3 sp (.lst ((trs.map S).map V.str)) = H4 at hsp x4 ok4 tb4 ⊢
  refine ⟨sp, _, rfl, SqL.of hsp, for_it (walk_enum (K := K) (a := sp) (xs := (trs.map S).map V.str)) (fun i σ H' => ∃ (y4 y5 y6 y7 y8 : Option V) (kv : List (Int × Str)), σ = [some (.ref p), some (.str (S tx)), some (.int (l : Int)), some (.ref o), y4, y5, y6, y7, y8] ∧ Ext H H' ∧ S0.ok H' r ∧ TbAt CT S0.f H' o d1 l kv ∧ TbOk l kv ∧ kv.length ≤ rows.length + i ∧ H' sp = some (.lst ((trs.map S).map V.str)) ∧ runL l 0 trs rows = runL l i (trs.drop i) kv)
    ⟨_, _, none, none, none, rows, rfl, x4, ok4, tb4, hk2, by omega, hsp, by rw [List.drop_zero]⟩ (fun i σ H' _ ⟨_, _, _, _, _, _, _, _, _, _, _, _, h, _⟩ => SqL.of h) ?_ ?_⟩
  · rintro i x σ H5 H6 hi ⟨y4, y5, y6, y7, y8, kv, rfl, xi, oki, tbi, hki, hlen, hspi, hrun⟩ ⟨t, kx, vx, rfl, nt, rfl, e1, e2⟩
    rw [List.length_map, List.length_map] at hi
    have hr' : trs[i]? = some trs[i] := List.getElem?_eq_getElem hi
    have hmem := List.getElem_mem hi
    have hdr : trs.drop i = trs[i] :: trs.drop (i + 1) := List.drop_eq_getElem_cons hi
    rw [hdr] at hrun
    generalize trs[i] = row at hr' hmem hdr hrun
    have e1' : V.int (i : Int) = kx := Option.some.inj e1
    have e2' : V.str (S row) = vx := by
      have e2 : ((trs.map S).map V.str)[i]? = some vx := e2
      rw [List.getElem?_map, List.getElem?_map, hr'] at e2
      exact Option.some.inj e2
    subst e1' e2'
    have ut := Ext.new (o := .tup [.int (i : Int), .str (S row)]) nt
    refine ⟨t, _, rfl, SqT.of upd_same, rfl, _, _, rfl, _, _, rfl, rfl, ?_⟩
    have x6 := xi.trans ut
    have ok6 := G.keep (Kp.new (o := .tup [.int (i : Int), .str (S row)]) nt) oki
    have tb6 := tbi.ext ut
    have hsp6 := ut.lst hspi
    generalize upd H5 t (.tup [.int (i : Int), .str (S row)]) = H6 at x6 ok6 tb6 hsp6 ⊢
    obtain ⟨rc, rle⟩ := rm row hmem
    have rle : row.length ≤ 0 + tx.length := rle
    refine ⟨_, rfl, _, rfl, _, rfl, row, l, (i : Int), rfl, ha.sub (fun c hc => (rc c hc).resolve_left (fun z => nomatch z)), by omega, hl', by omega, by omega, fun e H7 s7 => ?_, fun a e q4 H7 s7 nq4 hq4 => ?_, fun e D hD dx7 H7 s7 ndx hdx => ?_⟩
    · refine ⟨_, rfl, rfl, _, rfl, iteF ?_⟩
      refine iteF ?_
      refine ⟨_, rfl, rfl, _, rfl, iteF ?_⟩
      refine ⟨_, _, _, _, _, kv, rfl, x6.trans (Ext.of_same s7), G.keep (kp_same s7) ok6, tb6.ext (Ext.of_same s7), hki, by omega, (Ext.of_same s7).lst hsp6, ?_⟩
      rw [hrun, runL, e]
    · have x7 := x6.trans (Ext.of_same s7)
      have tb7 := tb6.ext (Ext.of_same s7)
      have ok7 := G.keep (kp_same s7) ok6
      have hsp7 := (Ext.of_same s7).lst hsp6
      have hin := readL_in e
      obtain ⟨⟨dxo, hpo⟩, hdo, _⟩ := id tb7
      refine ⟨_, rfl, rfl, _, rfl, iteT ?_⟩
      cases a with
      | put k tt =>
        refine ⟨_, rfl, q4, _, 0, _, rfl, rfl, SqT.of hq4, rfl, rfl, _, rfl, ?_⟩
        refine iteT ?_
        refine ⟨_, rfl, o, dxo, _, rfl, hpo, (tbF_no _ _ _).2.1, _, rfl, q4, _, 1, _, rfl, rfl, SqT.of hq4, rfl, _, rfl, q4, _, 2, _, rfl, rfl, SqT.of hq4, rfl, S0.f, o, d1, l, _, k, S tt, rfl, tb7, fun _ => ?_, fun h => absurd ⟨hin.1, hin.2.1⟩ h⟩
        have pl := put_length kv k (S tt)
        have htt : txtOk (S tt) = true := txt_of_tl fun c hc => by
          have := ha c ((rc c (hin.2.2 c hc)).resolve_left (fun z => nomatch z))
          omega
        refine ⟨_, _, _, _, _, putI kv k (S tt), rfl, x7.mut nd1', G.keep (Kp.dK hdo) ok7, tb7.upd (by omega), tbok_put hki hin.1 hin.2.1 htt, by omega, by rw [upd_ne (ne_dK hdo hsp7)]; exact hsp7, ?_⟩
        rw [hrun, runL, e]
      | cut k =>
        refine ⟨_, rfl, q4, _, 0, _, rfl, rfl, SqT.of hq4, rfl, rfl, _, rfl, ?_⟩
        refine iteF ?_
        refine ⟨_, rfl, rfl, _, rfl, iteT ?_⟩
        refine ⟨_, rfl, o, dxo, _, rfl, hpo, (tbF_no _ _ _).2.2.2.1, _, rfl, q4, _, 1, _, rfl, rfl, SqT.of hq4, rfl, S0.f, o, d1, l, _, k, rfl, tb7, fun _ => ?_, fun h => absurd ⟨hin.1, hin.2⟩ h⟩
        cases hg : getI kv k with
        | none =>
          refine ⟨rfl, _, rfl, iteT ?_⟩
          refine ⟨_, rfl, _, rfl, by omega, by omega, fun dx8 n8 => ?_⟩
          refine q2 rows i perm ?_ _ EI.gC dx8 _ (x7.mut (x7.free n8)) (G.keep (Kp.new n8) ok7) (x7.free n8) upd_same
          rw [hrun, runL, e]
          show (match getI kv k with | none => Except.error i | some _ => _) = _
          rw [hg]
        | some v =>
          refine ⟨rfl, _, rfl, iteF ?_⟩
          refine ⟨_, rfl, o, dxo, _, rfl, hpo, (tbF_no _ _ _).2.2.1, _, rfl, q4, _, 1, _, rfl, rfl, SqT.of hq4, rfl, S0.f, o, d1, l, _, k, rfl, tb7, fun _ => ?_, fun h => absurd ⟨hin.1, hin.2, by rw [hg]; rfl⟩ h⟩
          have pl := pop_length kv k
          refine ⟨_, _, _, _, _, popI kv k, rfl, x7.mut nd1', G.keep (Kp.dK hdo) ok7, tb7.upd (by omega), tbok_pop hki, by omega, by rw [upd_ne (ne_dK hdo hsp7)]; exact hsp7, ?_⟩
          rw [hrun, runL, e]
          show (match getI kv k with | none => Except.error i | some _ => _) = _
          rw [hg]
    · rw [EI.gC] at hD
      cases hD
      refine q2 rows i perm ?_ _ EI.gC dx7 H7 (x6.trans (Ext.of_same s7)) (G.keep (kp_same s7) ok6) (x6.free ndx) hdx
      rw [hrun, runL, e]
  · rintro σ H5 ⟨y4, y5, y6, y7, y8, kv, rfl, x5, ok5, tb5, hk5, hlen, hsp5, hrun⟩
    rw [List.length_map, List.length_map, List.drop_length] at hrun
    exact ⟨_, rfl, q1 rows kv o d1 H5 perm hrun x5 no nd1' ok5 tb5 hk5⟩
end

section
variable {P : Program} {w : World} {K : PySem.W.Frag} {mg : Str → Option Value} {base : Heap}
def someL : List Nat := TL.tl (Str.ofString " !\"#$&'()*+,-./0123456789:;<=>?@ABCDEFGHIJKLMNOPQRSTUVWXYZ[\\]^_`abcdefghijklmnopqrstuvwxyz{|}~")
theorem someL_at : someL.length = 94 ∧ (someL.all fun c => decide (32 ≤ c) && decide (c ≤ 126)) = true := by decide +kernel
theorem someL_S : Str.ofString " !\"#$&'()*+,-./0123456789:;<=>?@ABCDEFGHIJKLMNOPQRSTUVWXYZ[\\]^_`abcdefghijklmnopqrstuvwxyz{|}~" = S someL := (SX.S_tl _).symm
/-- signs from the blank to ~ -/
def PrL (t : List Nat) : Prop := ∀ c ∈ t, 32 ≤ c ∧ c ≤ 126
theorem PrL.asc {t : List Nat} (h : PrL t) : AscL t := fun c hc => by have := (h c hc).2; omega
theorem some_get {z : Int} (h0 : 0 ≤ z) (h1 : z < 94) : ∃ c, atI someL z = some c ∧ 32 ≤ c ∧ c ≤ 126 := by
  obtain ⟨n, rfl⟩ := Int.eq_ofNat_of_zero_le h0
  have hl := someL_at.1
  have hn : n < someL.length := by omega
  have := List.all_eq_true.mp someL_at.2 _ (List.getElem_mem hn)
  rw [Bool.and_eq_true] at this
  exact ⟨_, atI_nat (List.getElem?_eq_getElem hn), of_decide_eq_true this.1, of_decide_eq_true this.2⟩
theorem joinL_ones : ∀ l : List Nat, TL.joinL [] (l.map fun c => [c]) = l
  | [] => rfl
  | [a] => rfl
  | a :: b :: l => by
    have := joinL_ones (b :: l)
    show [a] ++ [] ++ TL.joinL [] ((b :: l).map fun c => [c]) = _
    rw [this]
    rfl
theorem join_ones (l : List Nat) : Txt.join (S []) (l.map fun c => S [c]) = S l := by
  have h := SX.join_S [] (l.map fun c => [c])
  rw [List.map_map] at h
  rw [joinL_ones] at h
  exact h
end

/-! ### rows that are made -/
def readB (b : List Nat) (d : Nat) : Option (Option Act) :=
  if b = [] ∨ b.head? = some 35 then some none
  else if wrd b = putW then
    if 0 ≤ keyL (wrd (rst b)) d ∧ 32 ∈ rst b then some (some (.put (keyL (wrd (rst b)) d) (rst (rst b)))) else none
  else if wrd b = cutW then
    if 0 ≤ keyL (rsp (rst b)) d then some (some (.cut (keyL (rsp (rst b)) d))) else none
  else none
theorem lsp_sp (n : Nat) {l : List Nat} (h : l.head? ≠ some 32) : lsp (List.replicate n 32 ++ l) = l := by
  induction n with
  | zero =>
    cases l with
    | nil => rfl
    | cons a l =>
      have e : (a == 32) = false := beq_eq_false_iff_ne.mpr fun z => h (by rw [z]; rfl)
      show (a :: l).dropWhile (· == 32) = a :: l
      rw [List.dropWhile_cons, if_neg (by rw [e]; decide)]
  | succ n ih =>
    rw [List.replicate_succ]
    exact ih
theorem readL_sp (n d : Nat) {b : List Nat} (h : b.head? ≠ some 32) : readL (List.replicate n 32 ++ b) d = readB b d := by
  show readB (lsp (List.replicate n 32 ++ b)) d = _
  rw [lsp_sp n h]
theorem wrd_app {p : List Nat} (r : List Nat) (h : 32 ∉ p) : wrd (p ++ 32 :: r) = p ∧ rst (p ++ 32 :: r) = r := by
  induction p with
  | nil => exact ⟨rfl, rfl⟩
  | cons a p ih =>
    obtain ⟨h1, h2⟩ := ih fun z => h (List.mem_cons_of_mem _ z)
    have e : (a != 32) = true := bne_iff_ne.mpr fun z => h (by rw [z]; exact List.mem_cons_self)
    unfold wrd rst
    rw [List.cons_append, List.takeWhile_cons, List.dropWhile_cons, if_pos e, if_pos e]
    exact ⟨congrArg (a :: ·) h1, h2⟩
theorem readB_put (r : List Nat) (d : Nat) : readB (putW ++ 32 :: r) d = if 0 ≤ keyL (wrd r) d ∧ 32 ∈ r then some (some (.put (keyL (wrd r) d) (rst r))) else none := by
  obtain ⟨h1, h2⟩ := wrd_app (p := putW) r (by decide)
  unfold readB
  rw [if_neg (by intro z; rcases z with z | z <;> cases z), if_pos h1, h2]
theorem readB_cut (r : List Nat) (d : Nat) : readB (cutW ++ 32 :: r) d = if 0 ≤ keyL (rsp r) d then some (some (.cut (keyL (rsp r) d))) else none := by
  obtain ⟨h1, h2⟩ := wrd_app (p := cutW) r (by decide)
  unfold readB
  rw [if_neg (by intro z; rcases z with z | z <;> cases z), if_neg (by rw [h1]; decide), if_pos h1, h2]
theorem readB_none {b : List Nat} (d : Nat) (h0 : b ≠ []) (h1 : b.head? ≠ some 35) (h2 : wrd b ≠ putW) (h3 : wrd b ≠ cutW) : readB b d = none := by
  unfold readB
  rw [if_neg (by intro z; exact z.elim h0 h1), if_neg h2, if_neg h3]
theorem keyL_bad {l : List Nat} (d : Nat) (h : digs l = false ∨ 9 < l.length) : ¬ 0 ≤ keyL l d := by
  unfold keyL
  rw [if_neg]
  · decide
  · rintro ⟨h1, h2, _⟩
    rcases h with h | h
    · rw [h] at h1; cases h1
    · omega
theorem digs_no {l : List Nat} {c : Nat} (hc : c ∈ l) (h : c < 48 ∨ 57 < c) : digs l = false := by
  cases hd : digs l with
  | false => rfl
  | true =>
    unfold digs at hd
    rw [Bool.and_eq_true] at hd
    have := List.all_eq_true.mp hd.2 c hc
    rw [Bool.and_eq_true] at this
    have h1 := of_decide_eq_true this.1
    have h2 := of_decide_eq_true this.2
    omega
theorem rsp_tail (x : List Nat) {t : List Nat} (ht : t ≠ []) (hn : 32 ∉ t) : rsp (x ++ t) = x ++ t := by
  unfold rsp
  rw [List.reverse_append]
  cases hr : t.reverse with
  | nil => exact absurd (List.reverse_eq_nil_iff.mp hr) ht
  | cons a r =>
    have ha : a ∈ t := List.mem_reverse.mp (by rw [hr]; exact List.mem_cons_self)
    have e : (a == 32) = false := beq_eq_false_iff_ne.mpr fun z => hn (by rw [← z]; exact ha)
    rw [List.cons_append, List.dropWhile_cons, if_neg (by rw [e]; decide), ← List.cons_append, ← hr, ← List.reverse_append, List.reverse_reverse]
theorem rsp_sp {t : List Nat} (n : Nat) (ht : t ≠ []) (hn : 32 ∉ t) : rsp (t ++ List.replicate n 32) = t := by
  unfold rsp
  rw [List.reverse_append, List.reverse_replicate]
  have h : (List.replicate n 32 ++ t.reverse).dropWhile (· == 32) = t.reverse := by
    refine lsp_sp n ?_
    cases hr : t.reverse with
    | nil => exact absurd (List.reverse_eq_nil_iff.mp hr) ht
    | cons a r =>
      intro z
      have ha : a ∈ t := List.mem_reverse.mp (by rw [hr]; exact List.mem_cons_self)
      have z : a = 32 := Option.some.inj z
      exact hn (by rw [← z]; exact ha)
  rw [h, List.reverse_reverse]
/-- a key's figures -/
structure Fig (kd : List Nat) (n : Nat) : Prop where
  ne : kd ≠ []
  dg : ∀ c ∈ kd, 48 ≤ c ∧ c ≤ 57
  l9 : kd.length ≤ 9
  vl : NumText.digitsVal kd = n
theorem Fig.digs {kd : List Nat} {n : Nat} (h : Fig kd n) : digs kd = true := by
  unfold My.digs
  rw [Bool.and_eq_true]
  refine ⟨?_, List.all_eq_true.mpr fun c hc => ?_⟩
  · cases kd with
    | nil => exact absurd rfl h.ne
    | cons a l => rfl
  · rw [Bool.and_eq_true]
    exact ⟨decide_eq_true (h.dg c hc).1, decide_eq_true (h.dg c hc).2⟩
theorem Fig.no32 {kd : List Nat} {n : Nat} (h : Fig kd n) : 32 ∉ kd := fun z => by have := (h.dg 32 z).1; omega
theorem Fig.key {kd : List Nat} {n d : Nat} (h : Fig kd n) : keyL kd d = if n < 2 ^ d then (n : Int) else -1 := by
  unfold keyL
  by_cases c : n < 2 ^ d
  · rw [if_pos ⟨h.digs, h.l9, by rw [h.vl]; exact c⟩, if_pos c, h.vl]
  · rw [if_neg (fun z => c (by rw [← h.vl]; exact z.2.2)), if_neg c]
theorem Fig.pr {kd : List Nat} {n : Nat} (h : Fig kd n) : PrL kd := fun c hc => by have := h.dg c hc; omega
theorem val_zero (z : Nat) (l : List Nat) : NumText.digitsVal (List.replicate z 48 ++ l) = NumText.digitsVal l := by
  unfold NumText.digitsVal
  rw [List.foldl_append]
  congr 1
  induction z with
  | zero => rfl
  | succ z ih => rw [List.replicate_succ, List.foldl_cons]; exact ih
theorem fig_num {n z : Nat} (h : n < 100000) (hz : z + (TL.numL n).length ≤ 9) : Fig (List.replicate z 48 ++ TL.numL n) n := by
  refine ⟨?_, fun c hc => ?_, ?_, ?_⟩
  · intro e
    exact TL.numL_ne n (List.append_eq_nil_iff.mp e).2
  · rcases List.mem_append.mp hc with hc | hc
    · rw [(List.mem_replicate.mp hc).2]
      decide
    · exact TL.numL_digits n c hc
  · rw [List.length_append, List.length_replicate]
    exact hz
  · rw [val_zero, TL.numL_val]
inductive Due where
  | non
  | bad
  | act (a : Act)
def dueR : Due → Option (Option Act)
  | .non => some none
  | .bad => none
  | .act a => some (some a)
theorem row_put {kd t : List Nat} {n m d : Nat} (h : Fig kd n) : readL (List.replicate m 32 ++ (putW ++ 32 :: (kd ++ 32 :: t))) d = dueR (if n < 2 ^ d then .act (.put n t) else .bad) := by
  rw [readL_sp m d (by show some 112 ≠ some 32; decide), readB_put]
  obtain ⟨h1, h2⟩ := wrd_app (p := kd) t h.no32
  rw [h1, h2, h.key]
  by_cases c : n < 2 ^ d
  · rw [if_pos c, if_pos c, if_pos ⟨Int.natCast_nonneg _, List.mem_append.mpr (.inr List.mem_cons_self)⟩]
    rfl
  · rw [if_neg c, if_neg c, if_neg (fun z => by have := z.1; omega)]
    rfl
theorem row_cut {kd : List Nat} {n m j d : Nat} (h : Fig kd n) : readL (List.replicate m 32 ++ (cutW ++ 32 :: (kd ++ List.replicate j 32))) d = dueR (if n < 2 ^ d then .act (.cut n) else .bad) := by
  rw [readL_sp m d (by show some 99 ≠ some 32; decide), readB_cut, rsp_sp j h.ne h.no32, h.key]
  by_cases c : n < 2 ^ d
  · rw [if_pos c, if_pos c, if_pos (Int.natCast_nonneg _)]
    rfl
  · rw [if_neg c, if_neg c, if_neg (by decide)]
    rfl
theorem row_none (m d : Nat) : readL (List.replicate m 32) d = dueR .non := by
  have h := readL_sp m d (b := []) (by decide)
  rw [List.append_nil] at h
  rw [h]
  rfl
theorem row_hash (m d : Nat) (t : List Nat) : readL (List.replicate m 32 ++ 35 :: t) d = dueR .non := by
  rw [readL_sp m d (by show some 35 ≠ some 32; decide)]
  rfl
/-- a text that cannot be read -/
structure BadB (b : List Nat) : Prop where
  hd : b.head? ≠ some 32
  pr : PrL b
  ln : b.length ≤ 40
  rd : ∀ d, readB b d = none
theorem pr_app {a b : List Nat} (h : PrL a) (h' : PrL b) : PrL (a ++ b) := fun c hc => (List.mem_append.mp hc).elim (h c) (h' c)
theorem pr_cons {a : Nat} {b : List Nat} (h : 32 ≤ a ∧ a ≤ 126) (h' : PrL b) : PrL (a :: b) := fun c hc => (List.mem_cons.mp hc).elim (fun e => by rw [e]; exact h) (h' c)
theorem pr_nil : PrL [] := fun c hc => nomatch hc
theorem pr_rep {c : Nat} (n : Nat) (h : 32 ≤ c ∧ c ≤ 126) : PrL (List.replicate n c) := fun x hx => by rw [(List.mem_replicate.mp hx).2]; exact h
theorem bad_put {r : List Nat} (hp : PrL r) (hl : r.length ≤ 36) (h : digs (wrd r) = false ∨ 9 < (wrd r).length ∨ 32 ∉ r) : BadB (putW ++ 32 :: r) := by
  refine ⟨by show some 112 ≠ some 32; decide, pr_app (fun c hc => by simp [putW] at hc; omega) (pr_cons (by decide) hp), by simp [putW]; omega, fun d => ?_⟩
  rw [readB_put, if_neg]
  rintro ⟨h1, h2⟩
  rcases h with h | h | h
  · exact keyL_bad d (.inl h) h1
  · exact keyL_bad d (.inr h) h1
  · exact h h2
theorem bad_cut {r : List Nat} (hp : PrL r) (hl : r.length ≤ 36) (h : digs (rsp r) = false ∨ 9 < (rsp r).length) : BadB (cutW ++ 32 :: r) := by
  refine ⟨by show some 99 ≠ some 32; decide, pr_app (fun c hc => by simp [cutW] at hc; omega) (pr_cons (by decide) hp), by simp [cutW]; omega, fun d => ?_⟩
  rw [readB_cut, if_neg (keyL_bad d h)]
theorem bad_word {w r : List Nat} (hp : PrL (w ++ 32 :: r)) (hl : (w ++ 32 :: r).length ≤ 40) (h0 : (w ++ 32 :: r).head? ≠ some 32 ∧ (w ++ 32 :: r).head? ≠ some 35) (h1 : 32 ∉ w) (h2 : w ≠ putW) (h3 : w ≠ cutW) : BadB (w ++ 32 :: r) := by
  have hw := (wrd_app (p := w) r h1).1
  exact ⟨h0.1, hp, hl, fun d => readB_none d (by simp) h0.2 (by rw [hw]; exact h2) (by rw [hw]; exact h3)⟩
theorem bad_row {b : List Nat} (h : BadB b) (m d : Nat) : readL (List.replicate m 32 ++ b) d = dueR .bad := by
  rw [readL_sp m d h.hd, h.rd]
  rfl

section
variable {P : Program} {w : World} {K : PySem.W.Frag} {mg : Str → Option Value} {base : Heap}
def onesL (t : List Nat) : List V := (t.map fun c => S [c]).map V.str
theorem onesL_len (t : List Nat) : (onesL t).length = t.length := by unfold onesL; rw [List.length_map, List.length_map]
theorem txt_S {t : List Nat} (h : PrL t) : txtOk (S t) = true := txt_of_tl fun c hc => by
  have := (h c hc).2
  omega
theorem dp_ones {K : PySem.W.Frag} {H : Hp} : ∀ t : List Nat, PrL t → ∃ ds, DpAll K H (onesL t) ds ∧ PyData.canLayAll0 ds = true ∧ PyData.depthAll ds = 0 ∧ PyData.eqv (.list ds) (.list []) = decide (t = [])
  | [], _ => ⟨[], .nil, rfl, rfl, rfl⟩
  | y :: ys, h => by
    obtain ⟨ds, a, b, c, _⟩ := dp_ones ys fun z hz => h z (List.mem_cons_of_mem _ hz)
    refine ⟨.str (S [y]) :: ds, .cons (.str _) a, ?_, ?_, rfl⟩
    · rw [PyData.canLayAll0, b, show (PyData.str (S [y])).canLay0 = true from txt_S fun c hc => by rw [List.mem_singleton.mp hc]; exact h y List.mem_cons_self]
      rfl
    · show max 0 (PyData.depthAll ds) = 0
      omega
theorem onesL_app (t u : List Nat) : onesL (t ++ u) = onesL t ++ onesL u := by unfold onesL; rw [List.map_append, List.map_append]
theorem onesL_sum (t : List Nat) : ((t.map fun c => S [c]).map fun x : Str => x.length).sum = t.length := by
  induction t with
  | nil => rfl
  | cons a t ih =>
    rw [List.map_cons, List.map_cons, List.sum_cons, ih, S_len]
    simp
    omega
theorem same_mut {H H' : Hp} {p : Addr} {o : HO} (e : Same H H') (h : H p = none) : Same H (upd H' p o) := fun a u ha => by
  rw [upd_ne (ne_of_none ha h)]
  exact e a u ha
def spWordS : Sp := fun vs H Q _ => ∃ (c : Int), vs = [.int c] ∧ ∀ (t : List Nat) (H' : Hp), PrL t → t.length ≤ 6 → Same H H' → Q (.str (S t)) H'
theorem ok_wordS {cc : Addr} (T : Txt K mg cc) : Cal P w K mg base 2 "_law_word" spWordS [] := by
  have Z := T.Z
  have C__law_draw := ok_draw (P := P) (w := w) (base := base) T
  refine cal_of T.d__law_word sc__law_word (fun vs H Q E h => ?_) (fun f cdv A' outer s H vs Q E hr h => ?_)
  · obtain ⟨c, rfl, _⟩ := h
    rfl
  obtain ⟨c, rfl, q⟩ := h
  have e16 : sizeLine = 16777216 := sizeLine_eq
  refine ⟨_, (pss_cons (ps_set (i := 1) sc__law_word.nd rfl (Or.inr rfl) pe_str)
  (pss_cons (ps_set (i := 2) sc__law_word.nd rfl (Or.inr rfl) (pe_callB call_len_str rfl Z.len PySem.boot_len (pa_cons (pv 1) pa_nil)))
  (pss_cons (ps_setLc (i := 3) (own := [("_law_k", 4)]) (g := gName 4) (tt := tYes) rfl sc__law_word.nd rfl rfl (sw_true rfl rfl rfl (by decide +kernel)) (pi_range1 rfl Z.range (pa_cons (pe_c C__law_draw hr (by omega) rfl (pa_cons (pv 0) (pa_cons pe_int (pa_cons pe_int pa_nil)))) pa_nil)) (blkOk_by (N := N__law_word) (sc := defScope s__law_word) (by decide +kernel)) (fun _ _ _ _ _ => (pg_name (i := 4) sc__law_word.nd rfl (Or.inl rfl))) (fun _ _ _ _ _ => pts_nil) (fun _ _ _ _ _ => (pe_ix ix_str (pv 1) (pe_c C__law_draw hr (by omega) rfl (pa_cons (pv 0) (pa_cons (pe_op op_add pe_int (pe_op op_mod (pv 4) pe_int)) (pa_cons (pv 2) pa_nil)))) (fun _ _ => rfl))))
  (Evl.pss_cut (ps_if (PW.pt (pw_and (pt_cmpR (op_neD hr.units) (pv 3) (pe_lst pa_nil) (nomark _)) (pw_and1 (pt_cmpR op_eq (pe_c C__law_draw hr (by omega) rfl (pa_cons (pv 0) (pa_cons pe_int (pa_cons pe_int pa_nil)))) pe_int (nomark _))))) (pss_cons (ps_setLc (i := 3) (own := [("_law_sign", 5)]) (g := gName 5) (tt := tYes) rfl sc__law_word.nd rfl rfl (sw_true rfl rfl rfl (by decide +kernel)) (pi_list (pv 3)) (blkOk_by (N := N__law_word) (sc := defScope s__law_word) (by decide +kernel)) (fun _ _ _ _ _ => (pg_name (i := 5) sc__law_word.nd rfl (Or.inl rfl))) (fun _ _ _ _ _ => pts_nil) (fun _ _ _ _ _ => pe_str))
  (pss_one (ps_asg (pe_ix ix_str (pv 1) (pe_c C__law_draw hr (by omega) rfl (pa_cons (pv 0) (pa_cons pe_int (pa_cons (pv 2) pa_nil)))) (fun _ _ => rfl)) (pg_sub (pv 3) (pe_c C__law_draw hr (by omega) rfl (pa_cons (pv 0) (pa_cons pe_int (pa_cons (pe_callB call_len_seq rfl Z.len PySem.boot_len (pa_cons (pv 3) pa_nil)) pa_nil)))) set_list)))) pss_nil)
  (pss_one (ps_ret (pe_join pe_str (pv 3)))))))), ?_⟩
  show tSeq _ _ _ _ _
  rw [someL_S]
  have eNo : Str.ofString "" = S [] := TL.ext_tl (by decide +kernel)
  have eA : Str.ofString "a" = S [97] := TL.ext_tl (by decide +kernel)
  have sl : (S someL).length = 94 := by rw [S_len]; exact someL_at.1
  refine ⟨_, rfl, _, rfl, by omega, ?_⟩
  refine ⟨_, rfl, c, 13, 6, rfl, by decide, by decide, by decide, fun z H1 z0 z1 s1 => ?_⟩
  refine ⟨z, rfl, by omega, by omega, fun D nD => ?_⟩
  refine lc_range (fun i H' => ∃ t : List Nat, t.length = i ∧ Same H1 H' ∧ H' D = some (.lst (onesL t)) ∧ PrL t) ⟨[], rfl, same_upd nD, upd_same, fun _ h => by cases h⟩ ?_ ?_
  · rintro i H' hi ⟨t, rfl, s2, hD, hy⟩
    refine ⟨rfl, _, rfl, _, rfl, _, rfl, _, 4, rfl, rfl, (by show (0 : Int) < 4; decide), _, _, rfl, rfl, _, rfl, c, _, _, rfl, ?_, ?_, by rw [sl]; decide, fun z' H2 z0' z1' s3 => ?_⟩
    · have := Int.emod_nonneg (0 + (t.length : Int)) (show (4 : Int) ≠ 0 by decide)
      omega
    · have := Int.emod_lt_of_pos (0 + (t.length : Int)) (show (0 : Int) < 4 by decide)
      omega
    rw [sl] at z1'
    obtain ⟨ch, hch, o1, o2⟩ := some_get z0' z1'
    refine ⟨S someL, z', ch, rfl, rfl, by omega, hch, onesL t, s3 _ _ hD, by rw [onesL_len]; omega, t ++ [ch], by simp, same_mut (s2.trans s3) nD, by rw [upd_same, onesL_app]; rfl, fun y hy' => ?_⟩
    rcases List.mem_append.mp hy' with h | h
    · exact hy y h
    · rw [List.mem_singleton.mp h]
      exact ⟨o1, o2⟩
  · rintro H2 ⟨t, htl, s2, hD, ht⟩
    have hy6 : t.length ≤ 6 := by omega
    refine ⟨fun σ H' => ∃ (D : Addr) (t : List Nat) (y4 y5 : Option V), σ = [some (.int c), some (.str (S someL)), some (.int ((S someL).length : Int)), some (.ref D), y4, y5] ∧ Same H H' ∧ H' D = some (.lst (onesL t)) ∧ t.length ≤ 6 ∧ PrL t, ?_, ?_⟩
    · refine ⟨_, rfl, by show 0 ≤ sizeLine; decide, fun p hp => ?_⟩
      have hD3 : upd H2 p (.lst []) D = some (.lst (onesL t)) := by rw [upd_ne (ne_of_none hD hp)]; exact hD
      have s3 := (s1.trans s2).trans (same_upd (o := .lst []) hp)
      obtain ⟨ds, d1, d2, d3, d4⟩ := dp_ones (K := K) (H := upd H2 p (.lst [])) t ht
      refine ⟨.list ds, .list [], .lst (SqL.of hD3) d1, .lst (SqL.of upd_same) .nil, shaped_of d2 (by show PyData.depthAll ds + 1 ≤ 64; omega), by decide +kernel, _, rfl, ?_⟩
      rw [d4]
      generalize upd H2 p (.lst []) = H3 at hD3 s3 ⊢
      by_cases e : t = []
      · rw [decide_eq_true e]
        exact ⟨D, t, _, _, rfl, s3, hD3, hy6, ht⟩
      · rw [decide_eq_false e]
        refine iteT ?_
        refine ⟨_, rfl, c, 14, 3, rfl, by decide, by decide, by decide, fun z3 H4 _ _ s4 => ?_⟩
        have hD4 := s4 _ _ hD3
        refine ⟨rfl, _, rfl, ite2 (fun _ => ?_) (fun _ => ⟨D, t, _, _, rfl, s3.trans s4, hD4, hy6, ht⟩)⟩
        refine ⟨_, rfl, D, rfl, ⟨_, SqL.of hD4⟩, fun D2 nD2 => ?_⟩
        rw [eA]
        refine lc_list (K := K) (a := D) (xs := onesL t) (fun i H' => Same H4 H' ∧ H' D2 = some (.lst (onesL (List.replicate i 97)))) ⟨same_upd nD2, upd_same⟩ (fun i H' _ ⟨s, _⟩ => SqL.of (s _ _ hD4)) ?_ ?_
        · rintro i y H' hi ⟨s5, hD5⟩
          have hlt := (List.getElem?_eq_some_iff.mp hi).1
          rw [onesL_len] at hlt
          refine ⟨rfl, _, hD5, by rw [onesL_len, List.length_replicate]; omega, same_mut s5 nD2, ?_⟩
          rw [upd_same, List.replicate_succ', onesL_app]
          rfl
        · rintro H5 ⟨s5, hD5⟩
          rw [onesL_len] at hD5
          refine ⟨_, rfl, _, rfl, _, rfl, c, 12, _, rfl, by decide, by decide, by rw [sl]; decide, fun z5 H6 z50 z51 s6 => ?_⟩
          rw [sl] at z51
          obtain ⟨ch, hch, o1, o2⟩ := some_get z50 z51
          refine ⟨S someL, z5, ch, rfl, rfl, by omega, hch, ?_⟩
          have hD6 := s6 _ _ hD5
          have ep : 0 < t.length := List.length_pos_iff.mpr e
          refine ⟨_, rfl, _, rfl, _, rfl, D2, _, rfl, .inl (SqL.of hD6), c, 15, _, rfl, by decide, by decide, ?_, fun z6 H7 z60 z61 s7 => ?_⟩
          · rw [onesL_len, List.length_replicate]
            omega
          rw [onesL_len, List.length_replicate] at z61
          have hD7 := s7 _ _ hD6
          obtain ⟨j, rfl⟩ := Int.eq_ofNat_of_zero_le z60
          refine ⟨D2, _, _, j, rfl, rfl, hD7, ?_, ?_⟩
          · exact Evl.ixN_nat (by rw [onesL_len, List.length_replicate]; omega)
          refine ⟨D2, (List.replicate t.length 97).set j ch, _, _, rfl, ?_, ?_, ?_, ?_⟩
          · exact same_mut (((s3.trans s4).trans (s5.trans s6)).trans s7) (Same.free (s3.trans s4) nD2)
          · rw [upd_same]
            unfold onesL
            rw [List.map_set, List.map_set]
          · rw [List.length_set, List.length_replicate]
            omega
          · intro y hy'
            rcases List.mem_or_eq_of_mem_set hy' with h | h
            · rw [List.eq_of_mem_replicate h]
              decide
            · rw [h]
              exact ⟨o1, o2⟩
    rintro σ H3 ⟨D, t, y4, y5, rfl, s3, hD3, hyl3, hy3⟩
    refine ⟨⟨_, rfl⟩, _, rfl, _, D, t.map fun c => S [c], rfl, rfl, .inl (SqL.of hD3), ?_, ?_⟩
    · rw [onesL_sum, List.length_map, eNo, S_len]
      simp
      omega
    · rw [eNo, join_ones]
      exact q t H3 hy3 hyl3 s3
end

/-! ### a text some times -/
def repS (x : Str) (n : Int) : Str := if n < 1 then Str.empty else if (n == 1 || x.length == 0) = true then x else ⟨(List.replicate n.toNat x.cps).foldl (· ++ ·) #[]⟩
def rRepS : R2 := fun x y H Q => ∃ i k, x = .str i ∧ y = .int k ∧ 0 ≤ k ∧ k ≤ 100000 ∧ i.length ≤ 100 ∧ (repS i k).length ≤ sizeLine ∧ Q (.str (repS i k)) H
theorem op_mulS {X : Cx} : OpR X (binaryOp .Mult) rRepS := by
  intro pins s σ H x y v u Q I rx ry h
  obtain ⟨i, k, rfl, rfl, h0, h1, h2, h3, q⟩ := h
  obtain ⟨t, rfl⟩ := rx
  obtain ⟨t', rfl⟩ := ry
  refine PySem.P.mul_str ?_ (fun _ _ => ?_) (fun _ _ => ?_) ?_
  · have a1 : ¬ k < -(2 ^ 63 : Int) := by omega
    have a2 : ¬ k ≥ 2 ^ 63 := by omega
    rw [decide_eq_false a1, decide_eq_false a2]
    rfl
  · rename_i hk _
    have : (100 : Int) ≤ (2 ^ 63 - 1) / k := by
      refine (Int.le_ediv_iff_mul_le (by omega)).mpr ?_
      omega
    omega
  · have : i.length * k.toNat ≤ 100 * 100000 := Nat.mul_le_mul h2 (by omega)
    refine decide_eq_false ?_
    show ¬ i.length * k.toNat > sizeLine
    rw [sizeLine_eq]
    omega
  · unfold repS at q h3
    by_cases c1 : k < 1
    · rw [if_pos c1] at q h3 ⊢
      exact ⟨by decide, .str _, H, I.tok _, ⟨_, rfl⟩, q⟩
    · rw [if_neg c1] at q h3 ⊢
      by_cases c2 : (k == 1 || i.length == 0) = true
      · rw [if_pos c2] at q h3 ⊢
        exact ⟨.str _, H, I, ⟨_, rfl⟩, q⟩
      · rw [if_neg c2] at q h3 ⊢
        exact ⟨h3, .str _, H, I.tok _, ⟨_, rfl⟩, q⟩

/-! ### the rows as one text -/
theorem join_len : ∀ (ls : List (List Nat)), (∀ l ∈ ls, l.length ≤ 60) → (TL.joinL [10] ls).length ≤ ls.length * 61
  | [], _ => Nat.zero_le _
  | [l], h => by
    have := h l List.mem_cons_self
    show l.length ≤ 1 * 61
    omega
  | l :: m :: ls, h => by
    have h1 := h l List.mem_cons_self
    have h2 := join_len (m :: ls) fun x hx => h x (List.mem_cons_of_mem _ hx)
    show (l ++ ([10] ++ TL.joinL [10] (m :: ls))).length ≤ (ls.length + 1 + 1) * 61
    rw [List.length_append, List.length_append]
    have h2 : (TL.joinL [10] (m :: ls)).length ≤ (ls.length + 1) * 61 := h2
    show l.length + (1 + _) ≤ _
    omega
theorem join_asc : ∀ (ls : List (List Nat)), (∀ l ∈ ls, PrL l) → AscL (TL.joinL [10] ls)
  | [], _ => fun c hc => nomatch hc
  | [l], h => (h l List.mem_cons_self).asc
  | l :: m :: ls, h => by
    have h1 := (h l List.mem_cons_self).asc
    have h2 := join_asc (m :: ls) fun x hx => h x (List.mem_cons_of_mem _ hx)
    intro c hc
    have hc : c ∈ l ++ ([10] ++ TL.joinL [10] (m :: ls)) := hc
    rcases List.mem_append.mp hc with hc | hc
    · exact h1 c hc
    · rcases List.mem_append.mp hc with hc | hc
      · rw [List.mem_singleton.mp hc]; decide
      · exact h2 c hc
theorem sum60 : ∀ (ms : List (List Nat × Due)), (∀ m ∈ ms, m.1.length ≤ 60) → (ms.map fun m => m.1.length).sum ≤ ms.length * 60
  | [], _ => Nat.zero_le _
  | m :: ms, h => by
    have h1 := h m List.mem_cons_self
    have h2 := sum60 ms fun x hx => h x (List.mem_cons_of_mem _ hx)
    rw [List.map_cons, List.sum_cons, List.length_cons]
    omega

/-! ### rows made, and what is done by them -/
abbrev Rw := List Nat × Due
abbrev Dn := Nat × Int × Option (List Nat)
structure RwOk (d : Nat) (m : Rw) : Prop where
  pr : PrL m.1
  ln : m.1.length ≤ 60
  rd : readL m.1 d = dueR m.2
  ok : match m.2 with | .bad => False | .act (.put k t) => 0 ≤ k ∧ k < 2 ^ d ∧ PrL t ∧ t.length ≤ 6 | .act (.cut k) => 0 ≤ k ∧ k < 2 ^ d | .non => True
def dones : Nat → List Rw → List Dn
  | _, [] => []
  | i, m :: ms => match m.2 with
    | .act (.put k t) => (i, k, some t) :: dones (i + 1) ms
    | .act (.cut k) => (i, k, none) :: dones (i + 1) ms
    | _ => dones (i + 1) ms
def doneOf (i : Nat) (m : Rw) : List Dn := match m.2 with
  | .act (.put k t) => [(i, k, some t)]
  | .act (.cut k) => [(i, k, none)]
  | _ => []
theorem dones_cons (i : Nat) (m : Rw) (ms : List Rw) : dones i (m :: ms) = doneOf i m ++ dones (i + 1) ms := by
  rw [dones]
  unfold doneOf
  cases m.2 with
  | non => rfl
  | bad => rfl
  | act a => cases a <;> rfl
theorem dones_snoc : ∀ (ms : List Rw) (i : Nat) (m : Rw), dones i (ms ++ [m]) = dones i ms ++ doneOf (i + ms.length) m
  | [], i, m => by
    show dones i [m] = [] ++ _
    rw [dones_cons]
    show doneOf i m ++ [] = doneOf i m
    rw [List.append_nil]
  | x :: ms, i, m => by
    rw [List.cons_append, dones_cons, dones_cons, dones_snoc ms (i + 1) m, List.append_assoc, List.length_cons, show i + 1 + ms.length = i + (ms.length + 1) by omega]
theorem dones_len : ∀ (ms : List Rw) (i : Nat), (dones i ms).length ≤ ms.length
  | [], i => Nat.le_refl _
  | m :: ms, i => by
    have := dones_len ms (i + 1)
    rw [dones_cons, List.length_append, List.length_cons]
    have h : (doneOf i m).length ≤ 1 := by
      unfold doneOf
      cases m.2 with
      | non => exact Nat.zero_le _
      | bad => exact Nat.zero_le _
      | act a => cases a <;> exact Nat.le_refl _
    omega
def behD : List Dn → List (Int × Str) → Except Nat (List (Int × Str))
  | [], kv => .ok kv
  | (_, k, some t) :: r, kv => behD r (putI kv k (S t))
  | (i, k, none) :: r, kv => match getI kv k with
    | none => .error i
    | some _ => behD r (popI kv k)
theorem run_made {d : Nat} : ∀ (ms : List Rw) (i : Nat) (kv : List (Int × Str)), (∀ m ∈ ms, RwOk d m) → runL d i (ms.map (·.1)) kv = behD (dones i ms) kv
  | [], i, kv, _ => rfl
  | m :: ms, i, kv, h => by
    have h1 := h m List.mem_cons_self
    have ih := fun kv => run_made ms (i + 1) kv fun x hx => h x (List.mem_cons_of_mem _ hx)
    rw [List.map_cons, runL, h1.rd, dones]
    have ho := h1.ok
    cases e : m.2 with
    | non => exact ih kv
    | bad => rw [e] at ho; exact ho.elim
    | act a =>
      cases a with
      | put k t => exact ih _
      | cut k =>
        show (match getI kv k with | none => Except.error i | some _ => runL d (i + 1) (ms.map fun m : Rw => m.1) (popI kv k)) = (match getI kv k with | none => .error i | some _ => behD (dones (i + 1) ms) (popI kv k))
        cases getI kv k with
        | none => rfl
        | some v => exact ih _
theorem beh_ge : ∀ (ms : List Rw) (i : Nat) (kv : List (Int × Str)) (j : Nat), behD (dones i ms) kv = .error j → i ≤ j ∧ j < i + ms.length
  | [], i, kv, j, h => by cases h
  | m :: ms, i, kv, j, h => by
    rw [dones] at h
    have up : ∀ kv, behD (dones (i + 1) ms) kv = .error j → i ≤ j ∧ j < i + (m :: ms).length := fun kv h => by
      have := beh_ge ms (i + 1) kv j h
      rw [List.length_cons]
      omega
    cases e : m.2 with
    | non => rw [e] at h; exact up _ h
    | bad => rw [e] at h; exact up _ h
    | act a =>
      rw [e] at h
      cases a with
      | put k t => exact up _ h
      | cut k =>
        have h : (match getI kv k with | none => Except.error i | some _ => behD (dones (i + 1) ms) (popI kv k)) = .error j := h
        cases g : getI kv k with
        | none =>
          rw [g] at h
          cases h
          rw [List.length_cons]
          omega
        | some v => rw [g] at h; exact up _ h
/-- a row that cannot be read, set among them -/
def spoilR (a : Nat) : Except Nat (List (Int × Str)) → Nat
  | .ok _ => a
  | .error j => if a ≤ j then a else j
theorem run_spoilt {d : Nat} {bad : List Nat} (hb : readL bad d = none) : ∀ (ms : List Rw) (i a : Nat) (kv : List (Int × Str)), (∀ m ∈ ms, RwOk d m) → a ≤ ms.length → runL d i ((ms.map (·.1)).take a ++ bad :: (ms.map (·.1)).drop a) kv = .error (spoilR (i + a) (behD (dones i ms) kv))
  | ms, i, 0, kv, h, _ => by
    show runL d i (bad :: ms.map (·.1)) kv = _
    rw [runL, hb]
    show Except.error i = _
    congr 1
    cases e : behD (dones i ms) kv with
    | ok x => rfl
    | error j =>
      have := (beh_ge ms i kv j e).1
      show i = if i + 0 ≤ j then i + 0 else j
      rw [if_pos (by omega)]
      rfl
  | [], i, a + 1, kv, _, ha => absurd ha (by simp)
  | m :: ms, i, a + 1, kv, h, ha => by
    have h1 := h m List.mem_cons_self
    have ih := fun kv => run_spoilt hb ms (i + 1) a kv (fun x hx => h x (List.mem_cons_of_mem _ hx)) (by rw [List.length_cons] at ha; omega)
    rw [show i + 1 + a = i + (a + 1) by omega] at ih
    rw [List.map_cons, List.take_succ_cons, List.drop_succ_cons, List.cons_append, runL, h1.rd, dones]
    have ho := h1.ok
    cases e : m.2 with
    | non => exact ih kv
    | bad => rw [e] at ho; exact ho.elim
    | act x =>
      cases x with
      | put k t => exact ih _
      | cut k =>
        show (match getI kv k with | none => Except.error i | some _ => runL d (i + 1) _ (popI kv k)) = Except.error (spoilR (i + (a + 1)) (match getI kv k with | none => .error i | some _ => behD (dones (i + 1) ms) (popI kv k)))
        cases getI kv k with
        | none =>
          show Except.error i = Except.error (if i + (a + 1) ≤ i then i + (a + 1) else i)
          rw [if_neg (by omega)]
        | some v => exact ih _
/-- the rows of a text that was made (one, where none was) -/
def rowsM (ms : List Rw) : List Rw := if ms = [] then [([], .non)] else ms
theorem rowsM_ok {d : Nat} {ms : List Rw} (h : ∀ m ∈ ms, RwOk d m) : ∀ m ∈ rowsM ms, RwOk d m := by
  unfold rowsM
  by_cases c : ms = []
  · rw [if_pos c]
    intro m hm
    rw [List.mem_singleton.mp hm]
    exact ⟨pr_nil, by decide, by have := row_none 0 d; exact this, True.intro⟩
  · rw [if_neg c]
    exact h
theorem rowsM_dones (ms : List Rw) : dones 0 (rowsM ms) = dones 0 ms := by
  unfold rowsM
  by_cases c : ms = []
  · rw [if_pos c, c]
    rfl
  · rw [if_neg c]
theorem rowsM_pos (ms : List Rw) : 0 < (rowsM ms).length := by
  unfold rowsM
  by_cases c : ms = []
  · rw [if_pos c]
    decide
  · rw [if_neg c]
    exact List.length_pos_iff.mpr c
theorem rowsM_len {ms : List Rw} (h : ms.length ≤ 3) : (rowsM ms).length ≤ 3 := by
  unfold rowsM
  by_cases c : ms = []
  · rw [if_pos c]
    decide
  · rw [if_neg c]
    exact h
theorem rowsM_join (ms : List Rw) : TL.joinL [10] ((rowsM ms).map (·.1)) = TL.joinL [10] (ms.map (·.1)) := by
  unfold rowsM
  by_cases c : ms = []
  · rw [if_pos c, c]
    rfl
  · rw [if_neg c]
theorem spl_rowsL {ls : List (List Nat)} (h0 : ls ≠ []) (h : ∀ l ∈ ls, PrL l) : TL.spl [10] 0 [] (TL.joinL [10] ls) = ls :=
  SX.spl_join (c := 10) (sep := []) h0 fun p hp hc => by
    have := (h p hp 10 hc).1
    omega
theorem spl_rowsM {d : Nat} {ms : List Rw} (h : ∀ m ∈ ms, RwOk d m) : TL.spl [10] 0 [] (TL.joinL [10] (ms.map (·.1))) = (rowsM ms).map (·.1) := by
  rw [← rowsM_join]
  refine spl_rowsL ?_ fun l hl => ?_
  · have h1 := rowsM_pos ms
    intro z
    have h2 := congrArg List.length z
    rw [List.length_map, List.length_nil] at h2
    omega
  · obtain ⟨m, hm, rfl⟩ := List.mem_map.mp hl
    exact (rowsM_ok h m hm).pr
theorem run_rowsM {d : Nat} {ms : List Rw} (h : ∀ m ∈ ms, RwOk d m) (kv : List (Int × Str)) : runL d 0 (TL.spl [10] 0 [] (TL.joinL [10] (ms.map (·.1)))) kv = behD (dones 0 ms) kv := by
  rw [spl_rowsM h, run_made _ 0 kv (rowsM_ok h), rowsM_dones]
/-! ### what is done, as values -/
def doneV (e : Dn) : List V := [.int (e.1 : Int), .int e.2.1, match e.2.2 with | some t => .str (S t) | none => .non]
structure DoneL (H : Hp) (ys : List V) (ds : List Dn) : Prop where
  len : ys.length = ds.length
  at_ : ∀ (j : Nat) (v : V) (e : Dn), ys[j]? = some v → ds[j]? = some e → ∃ q, v = .ref q ∧ H q = some (.tup (doneV e))
theorem DoneL.gr {H H' : Hp} {ys : List V} {ds : List Dn} (h : DoneL H ys ds) (x : Gr H H') : DoneL H' ys ds := by
  refine ⟨h.len, fun j v e a b => ?_⟩
  obtain ⟨q, h1, h2⟩ := h.at_ j v e a b
  exact ⟨q, h1, x.keep _ _ h2 True.intro (fun _ z => nomatch z)⟩
theorem DoneL.nil {H : Hp} : DoneL H [] [] := ⟨rfl, fun j v e a _ => by simp at a⟩
theorem DoneL.snoc {H : Hp} {ys : List V} {ds : List Dn} {q : Addr} {e : Dn} (h : DoneL H ys ds) (hq : H q = some (.tup (doneV e))) : DoneL H (ys ++ [.ref q]) (ds ++ [e]) := by
  have hl := h.len
  refine ⟨by rw [List.length_append, List.length_append, hl]; rfl, fun i v t a b => ?_⟩
  by_cases c : i < ys.length
  · rw [List.getElem?_append_left c] at a
    rw [List.getElem?_append_left (by omega)] at b
    exact h.at_ i v t a b
  · rw [List.getElem?_append_right (by omega)] at a b
    rw [← hl] at b
    cases hj : i - ys.length with
    | zero =>
      rw [hj] at a b
      cases a
      cases b
      exact ⟨q, rfl, hq⟩
    | succ j =>
      rw [hj] at a
      simp at a

def InL (l : Nat) (ks : List Int) : Prop := ∀ k ∈ ks, 0 ≤ k ∧ k < 2 ^ l
theorem xor1_in {l : Nat} {k : Int} (h1 : 1 ≤ l) (h : 0 ≤ k ∧ k < 2 ^ l) : 0 ≤ Builtin.bitXor k 1 ∧ Builtin.bitXor k 1 < 2 ^ l := by
  obtain ⟨n, rfl⟩ := Int.eq_ofNat_of_zero_le h.1
  rw [Bits.bitXor_pp h.1 (by decide)]
  refine ⟨Int.natCast_nonneg _, ?_⟩
  have e : ((2 ^ l : Nat) : Int) = 2 ^ l := by rw [Int.natCast_pow]; rfl
  have h2 : n < 2 ^ l := by have := h.2; omega
  have h3 : (1 : Nat) < 2 ^ l := Nat.one_lt_two_pow (by omega)
  have := Nat.xor_lt_two_pow h2 h3
  rw [← e]
  show (((n : Int).toNat ^^^ (1 : Int).toNat : Nat) : Int) < _
  rw [Int.toNat_natCast]
  exact Int.ofNat_lt.mpr this

section
variable {P : Program} {w : World} {K : PySem.W.Frag} {mg : Str → Option Value} {base : Heap}
theorem slen_app (x y : Str) : (x ++ y).length = x.length + y.length := by
  show (x.cps ++ y.cps).size = x.cps.size + y.cps.size
  rw [Array.size_append]
theorem rep48 : ∀ n : Nat, n < 4 → repS (S [48]) (n : Int) = S (List.replicate n 48)
  | 0, _ => TL.ext_tl (by decide +kernel)
  | 1, _ => TL.ext_tl (by decide +kernel)
  | 2, _ => TL.ext_tl (by decide +kernel)
  | 3, _ => TL.ext_tl (by decide +kernel)
  | n + 4, h => absurd h (by omega)
theorem xor0 {k : Int} (h : 0 ≤ k) : Builtin.bitXor k 0 = k := by
  obtain ⟨n, rfl⟩ := Int.eq_ofNat_of_zero_le h
  rw [Bits.bitXor_pp h (by decide)]
  show (((n : Int).toNat ^^^ (0 : Int).toNat : Nat) : Int) = _
  rw [Int.toNat_natCast]
  show ((n ^^^ 0 : Nat) : Int) = _
  rw [Nat.xor_zero]
theorem xor01_in {l : Nat} {k z : Int} (h1 : 1 ≤ l) (h : 0 ≤ k ∧ k < 2 ^ l) (z0 : 0 ≤ z) (z1 : z < 2) : 0 ≤ Builtin.bitXor k z ∧ Builtin.bitXor k z < 2 ^ l := by
  have : z = 0 ∨ z = 1 := by omega
  rcases this with rfl | rfl
  · rw [xor0 h.1]
    exact h
  · exact xor1_in h1 h
def spLText : Sp := fun vs H Q _ => ∃ (c : Int) (d : Nat) (near : Addr) (ks : List Int), vs = [.int c, .int (d : Int), .ref near] ∧ H near = some (.lst (ks.map V.int)) ∧ 0 < ks.length ∧ ks.length ≤ 1000 ∧ InL d ks ∧ 1 ≤ d ∧ d ≤ 16 ∧
  ∀ (ms : List Rw) (q D : Addr) (ys : List V) (H' : Hp), ms.length ≤ 3 → (∀ m ∈ ms, RwOk d m) → Same H H' → H D = none → H' q = some (.tup [.str (S (TL.joinL [10] (ms.map (·.1)))), .ref D]) → H' D = some (.lst ys) → DoneL H' ys (dones 0 ms) → Q (.ref q) H'
theorem ok_ltext {cc : Addr} (T : Txt K mg cc) : Cal P w K mg base 3 "_law_text" spLText [] := by
  have Z := T.Z
  have C__law_draw := ok_draw (P := P) (w := w) (base := base) T
  have C__law_word := ok_wordS (P := P) (w := w) (base := base) T
  refine cal_of T.d__law_text sc__law_text (fun vs H Q E h => ?_) (fun f cdv A' outer s H vs Q E hr h => ?_)
  · obtain ⟨c, d, near, ks, rfl, _⟩ := h
    rfl
  obtain ⟨c, d, near, ks, rfl, hn, kp, kl, hin, d1, d16, q⟩ := h
  have e16 : sizeLine = 16777216 := sizeLine_eq
  refine ⟨_, (pss_cons (ps_set (i := 3) sc__law_text.nd rfl (Or.inl rfl) (pe_lst pa_nil))
  (pss_cons (ps_set (i := 4) sc__law_text.nd rfl (Or.inl rfl) (pe_lst pa_nil))
  (pss_cons (ps_for PassesOwn.never rfl (pi_range1 rfl Z.range (pa_cons (pe_c C__law_draw hr (by omega) rfl (pa_cons (pv 0) (pa_cons pe_int (pa_cons pe_int pa_nil)))) pa_nil)) (pg_name (i := 5) sc__law_text.nd rfl (Or.inl rfl)) (pss_cons (ps_set (i := 6) sc__law_text.nd rfl (Or.inl rfl) (pe_op op_add (pe_op op_mul (pv 0) (pe_op op_add (pe_op op_mul pe_int (pv 5)) pe_int)) (pe_op op_mul pe_int (pv 5))))
  (pss_cons (ps_set (i := 7) sc__law_text.nd rfl (Or.inl rfl) (pe_op op_xor (pe_ix ix_list (pv 2) (pe_c C__law_draw hr (by omega) rfl (pa_cons (pv 6) (pa_cons pe_int (pa_cons (pe_callB call_len_seq rfl Z.len PySem.boot_len (pa_cons (pv 2) pa_nil)) pa_nil)))) (fun _ _ => rfl)) (pe_c C__law_draw hr (by omega) rfl (pa_cons (pv 6) (pa_cons pe_int (pa_cons pe_int pa_nil))))))
  (pss_cons (ps_set (i := 8) sc__law_text.nd rfl (Or.inl rfl) (pe_c C__law_draw hr (by omega) rfl (pa_cons (pv 6) (pa_cons pe_int (pa_cons pe_int pa_nil)))))
  (pss_cons (ps_set (i := 9) sc__law_text.nd rfl (Or.inl rfl) (pe_c C__law_word hr (by omega) rfl (pa_cons (pv 6) pa_nil)))
  (pss_one (ps_if (pt_cmpR op_lt (pv 8) pe_int (nomark _)) (pss_cons (ps_expr (pe_bm PySem.F.plainAttrs_list PySem.F.slot_list_append PySem.F.type_list_append mt_append (pv 3) (pa_cons (pe_op op_add_str (pe_op op_add_str (pe_op op_add_str (pe_op op_add_str pe_str (pe_op op_mulS pe_str (pe_c C__law_draw hr (by omega) rfl (pa_cons (pv 6) (pa_cons pe_int (pa_cons pe_int pa_nil)))))) (pe_callTy call_str_int rfl Z.str (by decide +kernel) (pa_cons (pv 7) pa_nil))) pe_str) (pv 9)) pa_nil)))
  (pss_one (ps_expr (pe_bm PySem.F.plainAttrs_list PySem.F.slot_list_append PySem.F.type_list_append mt_append (pv 4) (pa_cons (pe_tup (pa_cons (pv 5) (pa_cons (pv 7) (pa_cons (pv 9) pa_nil)))) pa_nil))))) (pss_one (ps_if (pt_cmpR op_lt (pv 8) pe_int (nomark _)) (pss_cons (ps_expr (pe_bm PySem.F.plainAttrs_list PySem.F.slot_list_append PySem.F.type_list_append mt_append (pv 3) (pa_cons (pe_op op_add_str pe_str (pe_callTy call_str_int rfl Z.str (by decide +kernel) (pa_cons (pv 7) pa_nil))) pa_nil)))
  (pss_one (ps_expr (pe_bm PySem.F.plainAttrs_list PySem.F.slot_list_append PySem.F.type_list_append mt_append (pv 4) (pa_cons (pe_tup (pa_cons (pv 5) (pa_cons (pv 7) (pa_cons pe_non pa_nil)))) pa_nil))))) (pss_one (ps_expr (pe_bm PySem.F.plainAttrs_list PySem.F.slot_list_append PySem.F.type_list_append mt_append (pv 3) (pa_cons (pe_op op_add_str pe_str (pv 9)) pa_nil)))))))))))))
  (pss_one (ps_ret (pe_tup (pa_cons (pe_join pe_str (pv 3)) (pa_cons (pv 4) pa_nil)))))))), ?_⟩
  have lit0 : Str.ofString "\n" = S [10] := TL.ext_tl (by decide +kernel)
  have lit1 : Str.ofString " " = S [32] := TL.ext_tl (by decide +kernel)
  have lit2 : Str.ofString " cut " = S [32, 99, 117, 116, 32] := TL.ext_tl (by decide +kernel)
  have lit3 : Str.ofString "#" = S [35] := TL.ext_tl (by decide +kernel)
  have lit4 : Str.ofString "put " = S [112, 117, 116, 32] := TL.ext_tl (by decide +kernel)
  have lit5 : Str.ofString "0" = S [48] := TL.ext_tl (by decide +kernel)
  rw [lit0, lit1, lit2, lit3, lit4, lit5]
  have h2d : (0 : Int) < 2 ^ d := Int.pow_pos (by decide)
  have h2m : (2 : Nat) ^ d ≤ 65536 := Nat.pow_le_pow_right (by decide) d16
  have h2c : ((2 ^ d : Nat) : Int) = 2 ^ d := by rw [Int.natCast_pow]; rfl
  refine ⟨by show 0 ≤ sizeLine; decide, fun R nR => ?_⟩
  refine ⟨by show 0 ≤ sizeLine; decide, fun D nD => ?_⟩
  have nRH : H R = none := nR
  have s0 := (same_upd (o := .lst []) nR).trans (same_upd (o := .lst []) nD)
  have nDH := (same_upd (o := .lst []) nR).free nD
  have hD0 : upd (upd H R (.lst [])) D (.lst []) D = some (.lst []) := upd_same
  have nRD : R ≠ D := fun z => by rw [← z, upd_same] at nD; cases nD
  have hR0 : upd (upd H R (.lst [])) D (.lst []) R = some (.lst []) := by rw [upd_ne nRD]; exact upd_same
  generalize upd (upd H R (.lst [])) D (.lst []) = H0 at s0 hD0 hR0 ⊢
  refine ⟨_, rfl, _, _, _, rfl, by decide, by decide, by decide, fun z H1 z0 z1 s1 => ⟨z, rfl, by omega, by omega, ?_⟩⟩
  obtain ⟨N, rfl⟩ := Int.eq_ofNat_of_zero_le z0
  rw [Int.toNat_natCast]
  refine for_range (fun i σ H' => ∃ (y5 y6 y7 y8 y9 : Option V) (ms : List Rw) (ys : List V), σ = [some (.int c), some (.int (d : Int)), some (.ref near), some (.ref R), some (.ref D), y5, y6, y7, y8, y9] ∧ ms.length = i ∧ Same H H' ∧ H' R = some (.lst (((ms.map (·.1)).map S).map V.str)) ∧ H' D = some (.lst ys) ∧ DoneL H' ys (dones 0 ms) ∧ ∀ m ∈ ms, RwOk d m)
    ⟨none, none, none, none, none, [], [], rfl, rfl, s0.trans s1, s1 _ _ hR0, s1 _ _ hD0, .nil, fun m hm => nomatch hm⟩ ?_ ?_
  · rintro i σ H' hi ⟨y5, y6, y7, y8, y9, ms, ys, rfl, rfl, sH, hR, hD, hdn, hok⟩
    rw [Int.zero_add]
    have hn' := sH _ _ hn
    refine ⟨_, rfl, _, rfl, _, _, rfl, rfl, .inl ⟨by decide, by decide⟩, _, _, rfl, rfl, _, _, rfl, rfl, .inr ⟨by omega, by omega⟩, _, rfl, _, _, rfl, rfl, .inl ⟨by decide, by decide⟩, _, _, rfl, rfl, ?_⟩
    refine ⟨_, rfl, _, rfl, _, rfl, near, _, rfl, .inl (SqL.of hn'), _, _, _, rfl, by decide, by decide, by rw [List.length_map]; omega, fun z1 H2 z10 z11 s2 => ?_⟩
    rw [List.length_map] at z11
    obtain ⟨j, rfl⟩ := Int.eq_ofNat_of_zero_le z10
    have hj : j < ks.length := by omega
    have hkj : (ks.map V.int)[j]? = some (.int ks[j]) := by rw [List.getElem?_map, List.getElem?_eq_getElem hj]; rfl
    refine ⟨near, _, _, _, rfl, rfl, SqL.of (s2 _ _ hn'), atI_nat hkj, _, rfl, _, _, _, rfl, by decide, by decide, by decide, fun z2 H3 z20 z21 s3 => ⟨_, _, rfl, rfl, ?_⟩⟩
    obtain ⟨b1, b2⟩ := xor01_in d1 (hin _ (List.getElem_mem hj)) z20 z21
    obtain ⟨n, hxn⟩ := Int.eq_ofNat_of_zero_le b1
    show gName 7 (V.int (Builtin.bitXor ks[j] z2)) _ _ _
    rw [hxn]
    rw [hxn] at b2
    have hn2 : n < 2 ^ d := by omega
    have hn1 : n < 100000 := by omega
    refine ⟨_, rfl, _, _, _, rfl, by decide, by decide, by decide, fun z3 H4 _ _ s4 => ?_⟩
    refine ⟨_, rfl, _, rfl, fun t H5 pt lt s5 => ?_⟩
    have s5' := ((s2.trans s3).trans s4).trans s5
    have hnl : (TL.numL n).length ≤ 5 := TL.numL_len (by decide) (by omega)
    refine ⟨_, rfl, _, _, rfl, rfl, _, rfl, ite2 (fun _ => ?_) (fun _ => ?_)⟩
    · refine ⟨_, rfl, .inl ⟨rfl, _, SqL.of (s5' _ _ hR)⟩, _, rfl, _, _, _, rfl, by decide, by decide, by decide, fun z4 H6 z40 z41 s6 => ?_⟩
      obtain ⟨j4, rfl⟩ := Int.eq_ofNat_of_zero_le z40
      have hr4 := rep48 j4 (by omega)
      refine ⟨_, _, rfl, rfl, z40, by omega, by rw [S_len]; decide, by rw [hr4, S_len, List.length_replicate]; omega, ?_⟩
      rw [hr4]
      refine ⟨_, _, rfl, rfl, by simp only [slen_app, S_len, List.length_append, List.length_replicate, List.length_cons, List.length_nil]; omega, _, rfl, _, rfl, log_small (Int.natCast_nonneg _) (by omega), ?_⟩
      rw [SX.num_S]
      have hR6 := s6 _ _ (s5' _ _ hR)
      refine ⟨_, _, rfl, rfl, by simp only [slen_app, S_len, List.length_append, List.length_replicate, List.length_cons, List.length_nil]; omega, _, _, rfl, rfl, by simp only [slen_app, S_len, List.length_append, List.length_replicate, List.length_cons, List.length_nil]; omega, _, rfl, _, _, rfl, rfl, by simp only [slen_app, S_len, List.length_append, List.length_replicate, List.length_cons, List.length_nil]; omega, R, _, _, rfl, rfl, hR6, by rw [List.length_map, List.length_map, List.length_map]; omega, ?_⟩
      have eS : S [112, 117, 116, 32] ++ S (List.replicate j4 48) ++ S (TL.numL n) ++ S [32] ++ S t = S (List.replicate 0 32 ++ (putW ++ 32 :: ((List.replicate j4 48 ++ TL.numL n) ++ 32 :: t))) := by
        simp [S_cat, putW]
      rw [eS]
      have fk : Fig (List.replicate j4 48 ++ TL.numL n) n := fig_num hn1 (by omega)
      have hrow : RwOk d (List.replicate 0 32 ++ (putW ++ 32 :: ((List.replicate j4 48 ++ TL.numL n) ++ 32 :: t)), .act (.put n t)) := by
        refine ⟨?_, ?_, ?_, ⟨Int.natCast_nonneg _, b2, pt, lt⟩⟩
        · exact pr_app (pr_rep 0 (by decide)) (pr_app (fun c hc => by simp [putW] at hc; omega) (pr_cons (by decide) (pr_app fk.pr (pr_cons (by decide) pt))))
        · simp [putW]
          omega
        · have := row_put (m := 0) (d := d) (t := t) fk
          rw [if_pos hn2] at this
          exact this
      generalize List.replicate 0 32 ++ (putW ++ 32 :: ((List.replicate j4 48 ++ TL.numL n) ++ 32 :: t)) = row at hrow ⊢
      have hD6 := s6 _ _ (s5' _ _ hD)
      have s7 := same_mut (o := .lst ((((ms.map (·.1)).map S).map V.str) ++ [.str (S row)])) (sH.trans (s5'.trans s6)) nRH
      have hD7 : upd H6 R (.lst ((((ms.map (·.1)).map S).map V.str) ++ [.str (S row)])) D = some (.lst ys) := by rw [upd_ne nRD.symm]; exact hD6
      have hR7 : upd H6 R (.lst ((((ms.map (·.1)).map S).map V.str) ++ [.str (S row)])) R = some (.lst ((((ms.map (·.1)).map S).map V.str) ++ [.str (S row)])) := upd_same
      have hdn7 := (hdn.gr (kp_same (s5'.trans s6)).gr).gr (Kp.lst (o := .lst ((((ms.map (·.1)).map S).map V.str) ++ [.str (S row)])) hR6).gr
      generalize upd H6 R (.lst ((((ms.map (·.1)).map S).map V.str) ++ [.str (S row)])) = H7 at s7 hD7 hR7 hdn7 ⊢
      have hyl := hdn7.len
      have hdl := dones_len ms 0
      refine ⟨_, rfl, .inl ⟨rfl, _, SqL.of hD7⟩, _, rfl, _, rfl, _, rfl, by show 3 ≤ sizeLine; decide, fun tt ntt => ⟨D, ys, .ref tt, rfl, rfl, (same_upd ntt) _ _ hD7, by omega, ?_⟩⟩
      have hD8 := (same_upd (o := .tup [.int (ms.length : Int), .int (n : Int), .str (S t)]) ntt) _ _ hD7
      refine ⟨_, _, _, _, _, ms ++ [(row, .act (.put n t))], ys ++ [.ref tt], rfl, by rw [List.length_append]; rfl, same_mut (s7.trans (same_upd ntt)) nDH, ?_, upd_same, ?_, fun m hm => ?_⟩
      · rw [upd_ne nRD, (same_upd ntt) _ _ hR7, List.map_append, List.map_append, List.map_append]
        rfl
      · rw [dones_snoc, Nat.zero_add]
        exact ((hdn7.gr (Kp.new ntt).gr).gr (Kp.lst hD8).gr).snoc (e := (ms.length, (n : Int), some t)) ((Kp.lst hD8) _ _ upd_same True.intro)
      · rcases List.mem_append.mp hm with h | h
        · exact hok m h
        · rw [List.mem_singleton.mp h]
          exact hrow
    refine ⟨_, rfl, _, _, rfl, rfl, _, rfl, ite2 (fun _ => ?_) (fun _ => ?_)⟩
    · refine ⟨_, rfl, .inl ⟨rfl, _, SqL.of (s5' _ _ hR)⟩, _, rfl, _, rfl, log_small (Int.natCast_nonneg _) (by omega), ?_⟩
      rw [SX.num_S]
      have hR6 := s5' _ _ hR
      refine ⟨_, _, rfl, rfl, by simp only [slen_app, S_len, List.length_append, List.length_replicate, List.length_cons, List.length_nil]; omega, R, _, _, rfl, rfl, hR6, by rw [List.length_map, List.length_map, List.length_map]; omega, ?_⟩
      have eS : S [32, 99, 117, 116, 32] ++ S (TL.numL n) = S (List.replicate 1 32 ++ (cutW ++ 32 :: (TL.numL n ++ List.replicate 0 32))) := by
        simp [S_cat, cutW]
      rw [eS]
      have fk : Fig (TL.numL n) n := fig_num (z := 0) hn1 (by omega)
      have hrow : RwOk d (List.replicate 1 32 ++ (cutW ++ 32 :: (TL.numL n ++ List.replicate 0 32)), .act (.cut n)) := by
        refine ⟨?_, ?_, ?_, ⟨Int.natCast_nonneg _, b2⟩⟩
        · exact pr_app (pr_rep 1 (by decide)) (pr_app (fun c hc => by simp [cutW] at hc; omega) (pr_cons (by decide) (pr_app fk.pr (pr_rep 0 (by decide)))))
        · simp [cutW]
          omega
        · have := row_cut (m := 1) (j := 0) (d := d) fk
          rw [if_pos hn2] at this
          exact this
      generalize List.replicate 1 32 ++ (cutW ++ 32 :: (TL.numL n ++ List.replicate 0 32)) = row at hrow ⊢
      have hD6 := s5' _ _ hD
      have s7 := same_mut (o := .lst ((((ms.map (·.1)).map S).map V.str) ++ [.str (S row)])) (sH.trans s5') nRH
      have hD7 : upd H5 R (.lst ((((ms.map (·.1)).map S).map V.str) ++ [.str (S row)])) D = some (.lst ys) := by rw [upd_ne nRD.symm]; exact hD6
      have hR7 : upd H5 R (.lst ((((ms.map (·.1)).map S).map V.str) ++ [.str (S row)])) R = some (.lst ((((ms.map (·.1)).map S).map V.str) ++ [.str (S row)])) := upd_same
      have hdn7 := (hdn.gr (kp_same s5').gr).gr (Kp.lst (o := .lst ((((ms.map (·.1)).map S).map V.str) ++ [.str (S row)])) hR6).gr
      generalize upd H5 R (.lst ((((ms.map (·.1)).map S).map V.str) ++ [.str (S row)])) = H7 at s7 hD7 hR7 hdn7 ⊢
      have hyl := hdn7.len
      have hdl := dones_len ms 0
      refine ⟨_, rfl, .inl ⟨rfl, _, SqL.of hD7⟩, _, rfl, _, rfl, by show 3 ≤ sizeLine; decide, fun tt ntt => ⟨D, ys, .ref tt, rfl, rfl, (same_upd ntt) _ _ hD7, by omega, ?_⟩⟩
      have hD8 := (same_upd (o := .tup [.int (ms.length : Int), .int (n : Int), .non]) ntt) _ _ hD7
      refine ⟨_, _, _, _, _, ms ++ [(row, .act (.cut n))], ys ++ [.ref tt], rfl, by rw [List.length_append]; rfl, same_mut (s7.trans (same_upd ntt)) nDH, ?_, upd_same, ?_, fun m hm => ?_⟩
      · rw [upd_ne nRD, (same_upd ntt) _ _ hR7, List.map_append, List.map_append, List.map_append]
        rfl
      · rw [dones_snoc, Nat.zero_add]
        exact ((hdn7.gr (Kp.new ntt).gr).gr (Kp.lst hD8).gr).snoc (e := (ms.length, (n : Int), none)) ((Kp.lst hD8) _ _ upd_same True.intro)
      · rcases List.mem_append.mp hm with h | h
        · exact hok m h
        · rw [List.mem_singleton.mp h]
          exact hrow
    · have hR6 := s5' _ _ hR
      refine ⟨_, rfl, .inl ⟨rfl, _, SqL.of hR6⟩, _, rfl, _, _, rfl, rfl, by simp only [slen_app, S_len, List.length_append, List.length_replicate, List.length_cons, List.length_nil]; omega, R, _, _, rfl, rfl, hR6, by rw [List.length_map, List.length_map, List.length_map]; omega, ?_⟩
      have eS : S [35] ++ S t = S (List.replicate 0 32 ++ 35 :: t) := by
        simp [S_cat]
      rw [eS]
      have hrow : RwOk d (List.replicate 0 32 ++ 35 :: t, .non) := ⟨pr_app (pr_rep 0 (by decide)) (pr_cons (by decide) pt), by simp; omega, row_hash 0 d t, True.intro⟩
      generalize List.replicate 0 32 ++ 35 :: t = row at hrow ⊢
      have hD6 := s5' _ _ hD
      refine ⟨_, _, _, _, _, ms ++ [(row, .non)], ys, rfl, by rw [List.length_append]; rfl, same_mut (sH.trans s5') nRH, ?_, by rw [upd_ne nRD.symm]; exact hD6, ?_, fun m hm => ?_⟩
      · rw [upd_same, List.map_append, List.map_append, List.map_append]
        rfl
      · rw [dones_snoc]
        show DoneL _ ys (dones 0 ms ++ [])
        rw [List.append_nil]
        exact (hdn.gr (kp_same s5').gr).gr (Kp.lst hR6).gr
      · rcases List.mem_append.mp hm with h | h
        · exact hok m h
        · rw [List.mem_singleton.mp h]
          exact hrow
  · rintro σ H2 ⟨y5, y6, y7, y8, y9, ms, ys, rfl, hml, sH, hR, hD, hdn, hok⟩
    have hm3 : ms.length ≤ 3 := by omega
    refine ⟨⟨_, rfl⟩, _, rfl, _, R, (ms.map (·.1)).map S, rfl, rfl, .inl (SqL.of hR), ?_, ?_⟩
    · rw [SX.lens, S_len, List.length_map, List.length_map, List.map_map]
      refine Nat.le_trans (Nat.add_le_add_right (sum60 ms fun m hm => (hok m hm).ln) _) ?_
      show ms.length * 60 + ms.length * 1 ≤ _
      omega
    rw [SX.join_S]
    refine ⟨_, rfl, by show 2 ≤ sizeLine; decide, fun tt ntt => ?_⟩
    have s3 := same_upd (o := .tup [.str (S (TL.joinL [10] (ms.map (·.1)))), .ref D]) ntt
    exact q ms tt D ys _ hm3 hok (sH.trans s3) nDH upd_same (s3 _ _ hD) (hdn.gr (kp_same s3).gr)
end

section
variable {P : Program} {w : World} {K : PySem.W.Frag} {mg : Str → Option Value} {base : Heap} {Fam : Sys → Prop}
def spBehind : Sp := fun vs H Q _ => ∃ (h D : Addr) (kv : List (Int × Str)) (ys : List V) (ds : List Dn), vs = [.ref h, .ref D] ∧ H h = some (.dK (convT kv)) ∧ kv.length ≤ 900 ∧ H D = some (.lst ys) ∧ DoneL H ys ds ∧ ds.length ≤ 50 ∧
  (∀ kv', behD ds kv = .ok kv' → ∀ e H', Ext H H' → Kp H H' → H e = none → H' e = some (.dK (convT kv')) → Q (.ref e) H') ∧
  (∀ i, behD ds kv = .error i → ∀ H', Ext H H' → Kp H H' → Q (.int (i : Int)) H')
theorem ok_behind {cc : Addr} (T : Txt K mg cc) : Cal P w K mg base 1 "_law_behind" spBehind [] := by
  have Z := T.Z
  refine cal_of T.d__law_behind sc__law_behind (fun vs H Q E h => ?_) (fun f cdv A' outer s H vs Q E hr h => ?_)
  · obtain ⟨h', D, kv, ys, ds, rfl, _⟩ := h
    rfl
  obtain ⟨h', D, kv, ys, ds, rfl, hh, hkl, hD, hds, hdl, q1, q2⟩ := h
  have hu := hu_of hr
  have e16 : sizeLine = 16777216 := sizeLine_eq
  refine ⟨_, (pss_cons (ps_set (i := 2) sc__law_behind.nd rfl (Or.inl rfl) (pe_callTy call_dictD rfl Z.dict (by decide +kernel) (pa_cons (pv 0) pa_nil)))
  (pss_cons (ps_for PassesOwn.never rfl (pi_list (pv 1)) (pg_name (i := 3) sc__law_behind.nd rfl (Or.inl rfl)) (pss_one (ps_if (pt_cmpR op_notN (pe_ix ix_tup (pv 3) pe_int (fun _ _ => rfl)) pe_non (nomark _)) (pss_one (ps_dput hu (pv 2) (pe_ix ix_tup (pv 3) pe_int (fun _ _ => rfl)) (pe_ix ix_tup (pv 3) pe_int (fun _ _ => rfl)) rfl)) (pss_one (ps_if (pt_cmp (pc_din hu (pe_ix ix_tup (pv 3) pe_int (fun _ _ => rfl)) (pv 2))) (pss_one (ps_expr (pe_dpop1 (pv 2) (pe_ix ix_tup (pv 3) pe_int (fun _ _ => rfl)) ⟨rfl, rfl, rfl, rfl⟩))) (pss_one (ps_ret (pe_ix ix_tup (pv 3) pe_int (fun _ _ => rfl)))))))))
  (pss_one (ps_ret (pv 2))))), ?_⟩
  refine ⟨_, rfl, h', _, rfl, .inl hh, fun e ne => ?_⟩
  have x0 := Ext.new (o := .dK (convT kv)) ne
  have k0 := Kp.new (o := .dK (convT kv)) ne
  have he0 : upd H e (.dK (convT kv)) e = some (.dK (convT kv)) := upd_same
  generalize upd H e (.dK (convT kv)) = H0 at x0 k0 he0 ⊢
  have hyl := hds.len
  refine ⟨_, rfl, D, rfl, ⟨_, SqL.of (x0.lst hD)⟩, for_list (K := K) (a := D) (xs := ys) (fun i σ H' => ∃ (y3 : Option V) (kv' : List (Int × Str)), σ = [some (.ref h'), some (.ref D), some (.ref e), y3] ∧ Ext H H' ∧ Kp H H' ∧ H' e = some (.dK (convT kv')) ∧ kv'.length ≤ kv.length + i ∧ behD ds kv = behD (ds.drop i) kv') ⟨none, kv, rfl, x0, k0, he0, Nat.le_refl _, by rw [List.drop_zero]⟩ (fun i σ H' _ ⟨_, _, _, x, _⟩ => SqL.of (x.lst hD)) ?_ ?_⟩
  · rintro i x σ H' hi ⟨y3, kv', rfl, xi, ki, he, hl, hb⟩
    have hil := (List.getElem?_eq_some_iff.mp hi).1
    have hdi : ds[i]? = some (ds[i]'(by omega)) := List.getElem?_eq_getElem _
    have hdr : ds.drop i = ds[i]'(by omega) :: ds.drop (i + 1) := List.drop_eq_getElem_cons (by omega)
    rw [hdr] at hb
    obtain ⟨t, rfl, ht⟩ := (hds.gr xi.gr).at_ i x _ hi hdi
    generalize ds[i]'(by omega) = dn at hb ht
    obtain ⟨n, k, o⟩ := dn
    cases o with
    | some tx =>
      refine ⟨_, rfl, t, _, 2, _, rfl, rfl, SqT.of ht, rfl, rfl, _, rfl, iteT ?_⟩
      refine ⟨_, rfl, t, _, 2, _, rfl, rfl, SqT.of ht, rfl, _, rfl, _, rfl, t, _, 1, _, rfl, rfl, SqT.of ht, rfl, e, _, rfl, DPut.k (k := .inl k) he (by unfold convT; rw [List.length_map, sizeLine_eq]; omega), ?_⟩
      rw [conv_put]
      have pl := put_length kv' k (S tx)
      exact ⟨_, putI kv' k (S tx), rfl, xi.mut ne, ki.trans (Kp.dK he), upd_same, by omega, hb⟩
    | none =>
      refine ⟨_, rfl, t, _, 2, _, rfl, rfl, SqT.of ht, rfl, rfl, _, rfl, iteF ?_⟩
      have hg := conv_get kv' k
      have hb : behD ds kv = match getI kv' k with | none => .error n | some _ => behD (ds.drop (i + 1)) (popI kv' k) := hb
      refine ⟨_, rfl, t, _, 1, _, rfl, rfl, SqT.of ht, rfl, _, rfl, e, _, rfl, DGet.k (k := .inl k) he, _, rfl, ?_⟩
      cases hgi : getI kv' k with
      | none =>
        rw [hgi] at hg hb
        rw [hg]
        refine iteF ?_
        exact ⟨_, rfl, t, _, 0, _, rfl, rfl, SqT.of ht, rfl, q2 n hb H' xi ki⟩
      | some x =>
        rw [hgi] at hg hb
        rw [hg]
        refine iteT ?_
        refine ⟨_, rfl, e, rfl, .inl ⟨_, .inl he⟩, _, rfl, t, _, 1, _, rfl, rfl, SqT.of ht, rfl, _, .inl k, .str x, he, rfl, hg, ?_⟩
        rw [conv_pop]
        have pl := pop_length kv' k
        exact ⟨_, popI kv' k, rfl, xi.mut ne, ki.trans (Kp.dK he), upd_same, by omega, hb⟩
  · rintro σ H' ⟨y3, kv', rfl, xi, ki, he, hl, hb⟩
    rw [hyl, List.drop_length] at hb
    exact ⟨_, rfl, q1 kv' hb e H' xi ki ne he⟩
end

section
variable {P : Program} {w : World} {K : PySem.W.Frag} {mg : Str → Option Value} {base : Heap} {Fam : Sys → Prop} {CK CT C B : Addr}
/-- what is due behind a text: a dict, or a place -/
def DueB (H : Hp) (dv : V) : Except Nat (List (Int × Str)) → Prop
  | .ok kv => ∃ e, dv = .ref e ∧ H e = some (.dK (convT kv))
  | .error i => dv = .int (i : Int)
theorem bad_three : ∀ z : Nat, z < 3 → ∃ bl : List Nat, ([.str (S [112, 117, 116, 32, 105, 116]), .str (S [99, 117, 116]), .str (S [110, 111, 110, 101, 32, 49])] : List V)[z]? = some (.str (S bl)) ∧ PrL bl ∧ bl.length ≤ 60 ∧ ∀ d, readL bl d = none := by
  have up : ∀ {b : List Nat}, BadB b → PrL b ∧ b.length ≤ 60 ∧ ∀ d, readL b d = none := fun {b} h => ⟨h.pr, by have := h.ln; omega, fun d => by have := bad_row h 0 d; exact this⟩
  intro z hz
  rcases (by omega : z = 0 ∨ z = 1 ∨ z = 2) with rfl | rfl | rfl
  · exact ⟨_, rfl, up (bad_put (r := [105, 116]) (fun c hc => by simp at hc; omega) (by decide) (.inr (.inr (by decide))))⟩
  · refine ⟨_, rfl, up ⟨by decide, fun c hc => by simp at hc; omega, by decide, fun d => ?_⟩⟩
    unfold readB
    rw [if_neg (by decide), if_neg (by decide), if_pos (by decide), if_neg (keyL_bad d (.inl rfl))]
  · exact ⟨_, rfl, up (bad_word (w := [110, 111, 110, 101]) (r := [49]) (fun c hc => by simp at hc; omega) (by decide) ⟨by decide, by decide⟩ (by decide) (by decide) (by decide))⟩
def spSpoilt : Sp := fun vs H Q _ => ∃ (ms : List Rw) (d : Nat) (kv : List (Int × Str)) (dv : V) (c : Int), vs = [.str (S (TL.joinL [10] (ms.map (·.1)))), dv, .int c] ∧ ms.length ≤ 3 ∧ (∀ m ∈ ms, RwOk d m) ∧ DueB H dv (behD (dones 0 ms) kv) ∧
  ∀ (q : Addr) (tx : List Nat) (j : Nat) (H' : Hp), Same H H' → H' q = some (.tup [.str (S tx), .int (j : Int)]) → AscL tx → tx.length ≤ 300 → runL d 0 (TL.spl [10] 0 [] tx) kv = .error j → Q (.ref q) H'
theorem ok_spoilt {cc : Addr} (T : Txt K mg cc) : Cal P w K mg base 2 "_law_spoilt" spSpoilt [] := by
  have Z := T.Z
  have C__law_draw := ok_draw (P := P) (w := w) (base := base) T
  refine cal_of T.d__law_spoilt sc__law_spoilt (fun vs H Q E h => ?_) (fun f cdv A' outer s H vs Q E hr h => ?_)
  · obtain ⟨ms, d, kv, dv, c, rfl, _⟩ := h
    rfl
  obtain ⟨ms, d, kv, dv, c, rfl, hms, hok, hdue, q⟩ := h
  have e16 : sizeLine = 16777216 := sizeLine_eq
  refine ⟨_, (pss_cons (ps_set (i := 3) sc__law_spoilt.nd rfl (Or.inl rfl) (pe_split (pv 0) pe_str))
  (pss_cons (ps_set (i := 4) sc__law_spoilt.nd rfl (Or.inl rfl) (pe_c C__law_draw hr (by omega) rfl (pa_cons (pv 2) (pa_cons pe_int (pa_cons (pe_op op_add (pe_callB call_len_seq rfl Z.len PySem.boot_len (pa_cons (pv 3) pa_nil)) pe_int) pa_nil)))))
  (pss_cons (ps_expr (pe_bm PySem.F.plainAttrs_list PySem.F.slot_list_insert PySem.F.type_list_insert mt_insert (pv 3) (pa_cons (pv 4) (pa_cons (pe_ix ix_tup (pe_tup (pa_cons pe_str (pa_cons pe_str (pa_cons pe_str pa_nil)))) (pe_c C__law_draw hr (by omega) rfl (pa_cons (pv 2) (pa_cons pe_int (pa_cons pe_int pa_nil)))) (fun _ _ => rfl)) pa_nil))))
  (Evl.pss_cut (ps_if (PW.pt (pw_or (pt_val (pe_callB call_isi rfl Z.isinstance (by decide +kernel) (pa_cons (pv 1) (pa_cons (pe_bltn (v := .ty "dict") rfl Z.dict (by decide +kernel) rfl) pa_nil)))) (pw_or1 (pt_cmpR op_ge (pv 1) (pv 4) (nomark _))))) (pss_one (ps_set (i := 1) sc__law_spoilt.nd rfl (Or.inl rfl) (pv 4))) pss_nil)
  (pss_one (ps_ret (pe_tup (pa_cons (pe_join pe_str (pv 3)) (pa_cons (pv 1) pa_nil))))))))), ?_⟩
  have lit0 : Str.ofString "\n" = S [10] := TL.ext_tl (by decide +kernel)
  have lit1 : Str.ofString "put it" = S [112, 117, 116, 32, 105, 116] := TL.ext_tl (by decide +kernel)
  have lit2 : Str.ofString "cut" = S [99, 117, 116] := TL.ext_tl (by decide +kernel)
  have lit3 : Str.ofString "none 1" = S [110, 111, 110, 101, 32, 49] := TL.ext_tl (by decide +kernel)
  rw [lit0, lit1, lit2, lit3]
  have jl : (TL.joinL [10] (ms.map (·.1))).length ≤ 200 := by
    have := join_len (ms.map (·.1)) fun l hl => by obtain ⟨m, hm, rfl⟩ := List.mem_map.mp hl; exact (hok m hm).ln
    rw [List.length_map] at this
    omega
  have hrk := rowsM_ok hok
  have hrl := rowsM_len hms
  have hrp := rowsM_pos ms
  refine ⟨_, rfl, ⟨_, rfl⟩, _, _, rfl, rfl, by decide +kernel, by rw [S_len]; omega, fun p np => ?_⟩
  rw [SX.split_S (by simp) (by decide), spl_rowsM hok]
  have hdn := rowsM_dones ms
  generalize rowsM ms = rs at hrk hrl hrp hdn ⊢
  have s1 := same_upd (o := .lst (((rs.map (·.1)).map S).map V.str)) np
  have hp1 : upd H p (.lst (((rs.map (·.1)).map S).map V.str)) p = some (.lst (((rs.map (·.1)).map S).map V.str)) := upd_same
  generalize upd H p (.lst (((rs.map (·.1)).map S).map V.str)) = H1 at s1 hp1 ⊢
  have lrs : (((rs.map (·.1)).map S).map V.str).length = rs.length := by rw [List.length_map, List.length_map, List.length_map]
  refine ⟨_, rfl, _, rfl, p, _, rfl, .inl (SqL.of hp1), _, _, rfl, rfl, _, _, _, rfl, by decide, by decide, by omega, fun z1 H2 z10 z11 s2 => ?_⟩
  rw [lrs] at z11
  obtain ⟨at_, rfl⟩ := Int.eq_ofNat_of_zero_le z10
  have hat : at_ ≤ rs.length := by omega
  refine ⟨_, rfl, .inl ⟨rfl, _, SqL.of (s2 _ _ hp1)⟩, _, rfl, by show 3 ≤ sizeLine; decide, fun t3 nt3 => ?_⟩
  refine ⟨_, rfl, _, _, _, rfl, by decide, by decide, by decide, fun z2 H4 z20 z21 s4 => ?_⟩
  obtain ⟨zn, rfl⟩ := Int.eq_ofNat_of_zero_le z20
  obtain ⟨bl, hbl, bpr, bln, brd⟩ := bad_three zn (by omega)
  have s3 := same_upd (o := .tup [.str (S [112, 117, 116, 32, 105, 116]), .str (S [99, 117, 116]), .str (S [110, 111, 110, 101, 32, 49])]) nt3
  have hp4 := s4 _ _ (s3 _ _ (s2 _ _ hp1))
  refine ⟨t3, _, _, _, rfl, rfl, SqT.of (s4 _ _ upd_same), atI_nat hbl, p, _, _, _, rfl, rfl, hp4, by rw [lrs]; omega, by omega, by omega, ?_⟩
  have el : (((rs.map (·.1)).map S).map V.str).take ((at_ : Int)).toNat ++ [V.str (S bl)] ++ (((rs.map (·.1)).map S).map V.str).drop ((at_ : Int)).toNat = ((((rs.map (·.1)).take at_ ++ bl :: (rs.map (·.1)).drop at_).map S).map V.str) := by
    rw [Int.toNat_natCast, List.map_append, List.map_append, List.map_cons, List.map_cons, List.map_take, List.map_take, List.map_drop, List.map_drop, List.append_assoc]
    rfl
  rw [el]
  have hls : ∀ l ∈ (rs.map (·.1)).take at_ ++ bl :: (rs.map (·.1)).drop at_, PrL l ∧ l.length ≤ 60 := fun l hl => by
    rcases List.mem_append.mp hl with h | h
    · obtain ⟨m, hm, rfl⟩ := List.mem_map.mp (List.mem_of_mem_take h)
      exact ⟨(hrk m hm).pr, (hrk m hm).ln⟩
    · rcases List.mem_cons.mp h with rfl | h
      · exact ⟨bpr, bln⟩
      · obtain ⟨m, hm, rfl⟩ := List.mem_map.mp (List.mem_of_mem_drop h)
        exact ⟨(hrk m hm).pr, (hrk m hm).ln⟩
  have hll : ((rs.map (·.1)).take at_ ++ bl :: (rs.map (·.1)).drop at_).length ≤ 4 := by
    rw [List.length_append, List.length_cons, List.length_take, List.length_drop, List.length_map]
    omega
  have hrun := run_spoilt (d := d) (brd d) rs 0 at_ kv hrk hat
  rw [hdn, Nat.zero_add] at hrun
  have hne : (rs.map (·.1)).take at_ ++ bl :: (rs.map (·.1)).drop at_ ≠ [] := by simp
  generalize (rs.map (·.1)).take at_ ++ bl :: (rs.map (·.1)).drop at_ = ls at hls hll hrun hne ⊢
  have hp5 : upd H4 p (.lst ((ls.map S).map V.str)) p = some (.lst ((ls.map S).map V.str)) := upd_same
  have s5 : Same H (upd H4 p (.lst ((ls.map S).map V.str))) := same_mut (s1.trans (s2.trans (s3.trans s4))) np
  generalize upd H4 p (.lst ((ls.map S).map V.str)) = H5 at hp5 s5 ⊢
  refine ⟨fun σ H' => ∃ j : Nat, σ = [some (.str (S (TL.joinL [10] (ms.map (·.1))))), some (.int (j : Int)), some (.int c), some (.ref p), some (.int (at_ : Int))] ∧ H5 = H' ∧ j = spoilR at_ (behD (dones 0 ms) kv), ?_, ?_⟩
  · cases hb : behD (dones 0 ms) kv with
    | ok kv' =>
      rw [hb] at hdue
      obtain ⟨e, rfl, he⟩ := hdue
      refine ⟨_, rfl, .ref e, .ty "dict", _, _, true, rfl, .ty "dict", .base (.dK (s5 _ _ he)), kit_ty (by decide +kernel), true, rfl, ?_⟩
      refine iteT ?_
      exact ⟨_, rfl, _, rfl, rfl, rfl⟩
    | error i =>
      rw [hb] at hdue
      obtain rfl : dv = .int (i : Int) := hdue
      refine ⟨_, rfl, .int _, .ty "dict", _, _, false, rfl, .ty "dict", .base (.int _), kit_ty (by decide +kernel), false, rfl, ?_⟩
      refine iteF ?_
      refine ⟨_, rfl, _, rfl, _, _, rfl, rfl, _, rfl, ?_⟩
      by_cases c1 : at_ ≤ i
      · rw [decide_eq_true (show (at_ : Int) ≤ (i : Int) by omega)]
        refine iteT ?_
        exact ⟨_, rfl, at_, rfl, rfl, by show at_ = if at_ ≤ i then at_ else i; rw [if_pos c1]⟩
      · rw [decide_eq_false (show ¬ (at_ : Int) ≤ (i : Int) by omega)]
        refine iteF ?_
        exact ⟨i, rfl, rfl, by show i = if at_ ≤ i then at_ else i; rw [if_neg c1]⟩
  rintro σ H' ⟨j, rfl, rfl, hj⟩
  have jl2 := join_len ls fun l hl => (hls l hl).2
  refine ⟨⟨_, rfl⟩, _, rfl, _, p, ls.map S, rfl, rfl, .inl (SqL.of hp5), ?_, ?_⟩
  · have h1 : ((ls.map S).map fun x : Str => x.length).sum ≤ ls.length * 60 := by
      have : ∀ ls : List (List Nat), (∀ l ∈ ls, l.length ≤ 60) → ((ls.map S).map fun x : Str => x.length).sum ≤ ls.length * 60 := fun ls h => by
        induction ls with
        | nil => exact Nat.zero_le _
        | cons l ls ih =>
          have h1 := h l List.mem_cons_self
          have h2 := ih fun x hx => h x (List.mem_cons_of_mem _ hx)
          rw [List.map_cons, List.map_cons, List.sum_cons, List.length_cons, S_len]
          omega
      exact this ls fun l hl => (hls l hl).2
    refine Nat.le_trans (Nat.add_le_add_right h1 _) ?_
    rw [S_len, List.length_map]
    show ls.length * 60 + ls.length * 1 ≤ _
    omega
  rw [SX.join_S]
  refine ⟨_, rfl, by show 2 ≤ sizeLine; decide, fun tq ntq => ?_⟩
  refine q tq (TL.joinL [10] ls) j _ (s5.trans (same_upd ntq)) upd_same (join_asc ls fun l hl => (hls l hl).1) (by omega) ?_
  rw [spl_rowsL hne fun l hl => (hls l hl).1, hrun, hj]
end

theorem run_len {d : Nat} : ∀ (ms : List Rw) (i : Nat) (a b : List (Int × Str)), behD (dones i ms) a = .ok b → b.length ≤ a.length + ms.length
  | [], i, a, b, h => by cases h; exact Nat.le_refl _
  | m :: ms, i, a, b, h => by
    rw [dones] at h
    have up : ∀ a', a'.length ≤ a.length + 1 → behD (dones (i + 1) ms) a' = .ok b → b.length ≤ a.length + (m :: ms).length := fun a' h1 h2 => by
      have := run_len (d := d) ms (i + 1) a' b h2
      rw [List.length_cons]
      omega
    cases e : m.2 with
    | non => rw [e] at h; exact up a (by omega) h
    | bad => rw [e] at h; exact up a (by omega) h
    | act x =>
      rw [e] at h
      cases x with
      | put k t => exact up _ (put_length a k _) h
      | cut k =>
        have h : (match getI a k with | none => Except.error i | some _ => behD (dones (i + 1) ms) (popI a k)) = .ok b := h
        cases g : getI a k with
        | none => rw [g] at h; cases h
        | some x => rw [g] at h; exact up _ (by have := pop_length a k; omega) h

/-! ### the law -/
theorem tFor_rngA {ta : TA} {g : TG} {tb : TS} {D : Ends} {σ : L2.St} {H : Hp} {n : Nat} (hta : ∀ R : List V → Hp → Prop, R [.int (n : Int)] H → ta σ H R) (hn : n ≤ 1000000) (Pv : Nat → L2.St → Hp → Prop) (h0 : Pv 0 σ H)
    (hs : ∀ i σ H, i < n → Pv i σ H → g (.int (i : Int)) σ H fun σ2 H2 => tb { D with nx := Pv (i + 1), ct := Pv (i + 1), bk := D.nx } σ2 H2) (hd : ∀ σ H, Pv n σ H → D.nx σ H) :
    tFor (iRng1 ta) g tb D σ H := by
  refine hta _ ⟨n, rfl, by omega, by omega, ?_⟩
  rw [Int.toNat_natCast]
  exact for_range (lo := 0) (g := g) (tb := tb) (D := D) Pv h0 (fun i σ H hi p => by rw [Int.zero_add]; exact hs i σ H hi p) hd
theorem gn_of {i : Nat} {v : V} {σ : L2.St} {H : Hp} {Q : L2.St → Hp → Prop} (h : Q (σ.set i (some v)) H) : gName i v σ H Q := h
theorem sq_of {t u : TS} {D : Ends} {σ : L2.St} {H : Hp} (h : t { D with nx := u D } σ H) : tSeq t u D σ H := h
section
variable {P : Program} {w : World} {K : PySem.W.Frag} {mg : Str → Option Value}
theorem ok_law {fa cc PT : Addr} (T : Txt K mg cc) (hfa : mg "law" = some (.ref fa)) : ∃ fd : FuncData, (∀ (s : Shared) (v : Value), BindsTo s fd ⟨[v], []⟩ [("_law_script", v)]) ∧ ∀ base : Heap, K.In base → base.Ns mainGlobals mg → LamX.TabB base mg cc PT → FnOk P w K mg base L2.CX0 29 fa fd ["_law_script"] (spLaw K PT) := by
  have Z := T.Z
  obtain ⟨CT, KT⟩ := T.k_Table
  obtain ⟨C, B, EI⟩ := T.y_BadRow
  refine law_fnT T.d_law hfa sc_law (fun vs H Q E h => ?_) (fun base TB f cdv A' outer s H vs Q E hr h => ?_)
  · obtain ⟨a, ns, rfl, _⟩ := h
    rfl
  obtain ⟨a, ns, rfl, hS, hlen, hPT, q⟩ := h
  have A := sla3 (P := P) (w := w) (base := base) T
  have AK := slaK3 (P := P) (w := w) (base := base) T
  have C__law_seal_by := ok_seal_by (P := P) (w := w) T TB
  have C__law_cell_at := ok_cell_at (P := P) (w := w) (base := base) T
  have C__law_draw := ok_draw (P := P) (w := w) (base := base) T
  have C__law_text := ok_ltext (P := P) (w := w) (base := base) T
  have C__law_behind := ok_behind (P := P) (w := w) (base := base) T
  have C__law_spoilt := ok_spoilt (P := P) (w := w) (base := base) T
  have C_changed := ok_changed (P := P) (w := w) (base := base) T A KT EI
  have C__law_right := ok_right10 (P := P) (w := w) (base := base) T A KT
  have CK__law_right := okK_right10 (P := P) (w := w) (base := base) T A AK KT
  have M_put := ok_put (P := P) (w := w) (base := base) T KT
  have C_Table := ok_tinit A KT
  have e16 : sizeLine = 16777216 := sizeLine_eq
  refine ⟨_, (pss_cons (ps_set (i := 0) sc_law.nd rfl (Or.inr rfl) (pe_slice sl_list (pv 0) po_none (po_some pe_int)))
  (pss_cons (ps_set (i := 1) sc_law.nd rfl (Or.inl rfl) (pe_c C__law_seal_by hr (by omega) rfl (pa_cons (pv 0) pa_nil)))
  (pss_cons (ps_set (i := 2) sc_law.nd rfl (Or.inr rfl) (pe_op op_add pe_int (pe_op op_mod (pe_c C__law_cell_at hr (by omega) rfl (pa_cons (pv 0) (pa_cons pe_int pa_nil))) pe_int)))
  (pss_cons (ps_setLc (i := 3) (own := [("_law_k", 15)]) (g := gName 15) (tt := tYes) rfl sc_law.nd rfl rfl (sw_true rfl rfl rfl (by decide +kernel)) (pi_range1 rfl Z.range (pa_cons pe_int pa_nil)) (blkOk_by (N := N_law) (sc := defScope s_law) (by decide +kernel)) (fun _ _ _ _ _ => (pg_name (i := 15) sc_law.nd rfl (Or.inl rfl))) (fun _ _ _ _ _ => pts_nil) (fun _ _ _ _ _ => (pe_c C__law_draw hr (by omega) rfl (pa_cons (pe_op op_add (pe_c C__law_cell_at hr (by omega) rfl (pa_cons (pv 0) (pa_cons pe_int pa_nil))) (pv 15)) (pa_cons pe_int (pa_cons (pe_op op_oneShl pe_int (pv 2)) pa_nil))))))
  (pss_cons (ps_set (i := 4) sc_law.nd rfl (Or.inl rfl) (pe_mk C_Table hr (by omega) rfl (pa_cons (pv 1) (pa_cons (pv 2) pa_nil))))
  (pss_cons (ps_set (i := 5) sc_law.nd rfl (Or.inl rfl) pe_dnewK)
  (pss_cons (ps_for PassesOwn.never rfl (pi_range1 rfl Z.range (pa_cons (pe_callB (call_min2 rfl) rfl Z.min (by decide +kernel) (pa_cons (pe_callB call_len_seq rfl Z.len PySem.boot_len (pa_cons (pv 0) pa_nil)) (pa_cons pe_int pa_nil))) pa_nil)) (pg_name (i := 6) sc_law.nd rfl (Or.inl rfl)) (pss_cons (ps_set (i := 7) sc_law.nd rfl (Or.inl rfl) (pe_op op_add (pe_ix ix_list (pv 0) (pv 6) (fun _ _ => rfl)) (pe_op op_mul pe_int (pv 6))))
  (pss_cons (ps_set (i := 8) sc_law.nd rfl (Or.inl rfl) (pe_c C__law_text hr (by omega) rfl (pa_cons (pv 7) (pa_cons (pv 2) (pa_cons (pv 3) pa_nil)))))
  (pss_cons (ps_set (i := 9) sc_law.nd rfl (Or.inl rfl) (pe_ix ix_tup (pv 8) pe_int (fun _ _ => rfl)))
  (Evl.pss_cut (ps_set (i := 10) sc_law.nd rfl (Or.inl rfl) (pe_c C__law_behind hr (by omega) rfl (pa_cons (pv 5) (pa_cons (pe_ix ix_tup (pv 8) pe_int (fun _ _ => rfl)) pa_nil))))
  (Evl.pss_cut (ps_if (pt_cmpR op_eq (pe_c C__law_draw hr (by omega) rfl (pa_cons (pv 7) (pa_cons pe_int (pa_cons pe_int pa_nil)))) pe_int (nomark _)) (pss_cons (ps_set (i := 11) sc_law.nd rfl (Or.inl rfl) (pe_c C__law_spoilt hr (by omega) rfl (pa_cons (pv 9) (pa_cons (pv 10) (pa_cons (pv 7) pa_nil)))))
  (pss_cons (ps_set (i := 9) sc_law.nd rfl (Or.inl rfl) (pe_ix ix_tup (pv 11) pe_int (fun _ _ => rfl)))
  (pss_one (ps_set (i := 10) sc_law.nd rfl (Or.inl rfl) (pe_ix ix_tup (pv 11) pe_int (fun _ _ => rfl)))))) pss_nil)
  (pss_one (ps_try_asEK (i := 14) (pss_cons (ps_if (PW.pt (pw_or (pt_not (pt_val (pe_callB call_isi rfl Z.isinstance (by decide +kernel) (pa_cons (pv 10) (pa_cons (pe_bltn (v := .ty "dict") rfl Z.dict (by decide +kernel) rfl) pa_nil))))) (pw_or1 (pt_not (pt_val (pe_c C__law_right hr (by omega) rfl (pa_cons (pv 1) (pa_cons (pv 12) (pa_cons (pv 10) (pa_cons (pv 2) pa_nil)))))))))) (pss_one (ps_ret pe_bl)) pss_nil)
  (pss_cons (ps_if (pt_not (pt_val (pe_c C__law_right hr (by omega) rfl (pa_cons (pv 1) (pa_cons (pv 4) (pa_cons (pv 5) (pa_cons (pv 2) pa_nil))))))) (pss_one (ps_ret pe_bl)) pss_nil)
  (pss_cons (ps_set (i := 13) sc_law.nd rfl (Or.inl rfl) (pe_cy C_changed takesK0 hr (by omega) rfl (pa_cons (pv 4) (pa_cons (pv 9) (pa_cons (pv 2) pa_nil)))))
  (pss_cons (ps_expr (pe_mtx M_put takes0 hr (by omega) (pv 13) (pa_cons (pe_ix ix_list (pv 3) pe_int (fun _ _ => rfl)) (pa_cons pe_str pa_nil))))
  (pss_cons (ps_if (PW.pt (pw_or (pt_not (pt_val (pe_c C__law_right hr (by omega) rfl (pa_cons (pv 1) (pa_cons (pv 4) (pa_cons (pv 5) (pa_cons (pv 2) pa_nil))))))) (pw_or1 (pt_not (pt_val (pe_c C__law_right hr (by omega) rfl (pa_cons (pv 1) (pa_cons (pv 12) (pa_cons (pv 10) (pa_cons (pv 2) pa_nil)))))))))) (pss_one (ps_ret pe_bl)) pss_nil)
  (pss_cons (ps_set (i := 4) sc_law.nd rfl (Or.inl rfl) (pv 12))
  (pss_one (ps_set (i := 5) sc_law.nd rfl (Or.inl rfl) (pv 10))))))))) rfl rfl sc_law.nd rfl rfl ⟨rfl, by decide, .inl EI.gC⟩ takesK0 (fun W pn xe tk po => (pss_one (ps_set (i := 12) sc_law.nd rfl (Or.inl rfl) (pe_cy C_changed tk hr (by omega) rfl (pa_cons (pv 4) (pa_cons (pv 9) (pa_cons (pv 2) pa_nil))))))) (fun a oe cls d pn hz hf hot => (pss_when (P := cls = .ref C) fun hsu => (pss_one (ps_if (PW.pt (pw_or (pt_val (pe_callB (r := rIsi K) call_isi rfl Z.isinstance (by decide +kernel) (pa_cons (pv 10) (pa_cons (pe_bltn (v := .ty "dict") rfl Z.dict (by decide +kernel) rfl) pa_nil)))) (pw_or (pt_cmpR op_ne (pe_xf EI.xf EI.no hz hf (pv 14)) (pv 10) (nomark _)) (pw_or1 (pt_not (pt_val (pe_cK CK__law_right hot (roomH_suite hr) (by omega) rfl (pa_cons (pv 1) (pa_cons (pv 4) (pa_cons (pv 5) (pa_cons (pv 2) pa_nil))))))))))) (pss_one (ps_ret pe_bl)) pss_nil))))))))))))
  (pss_one (ps_ret pe_bl))))))))), ?_⟩
  refine ⟨.ref a, rfl, 63, rfl, a, _, rfl, hS, fun c nc => ?_⟩
  rw [take63 hlen]
  refine ⟨_, rfl, c, ns, rfl, SqL.of upd_same, by rw [upd_ne (ne_of_none hPT nc)]; exact hPT, fun S0 H1 hF x1 ok1 => ?_⟩
  have G := A.good hF
  have hc1 : H1 c = some (.lst (ns.map V.int)) := x1 _ _ upd_same fun _ z => nomatch z
  have ok1' := G.less ok1 (show 16000000 ≤ sizeLine by omega)
  refine ⟨_, rfl, c, ns, 0, rfl, SqL.of hc1, by decide, _, 16, rfl, rfl, by show (0 : Int) < 16; decide, _, _, rfl, rfl, ?_⟩
  obtain ⟨l0, hl0⟩ := Int.eq_ofNat_of_zero_le (Int.emod_nonneg (cell ns 0) (show (16 : Int) ≠ 0 by decide))
  have hl16 := Int.emod_lt_of_pos (cell ns 0) (show (0 : Int) < 16 by decide)
  obtain ⟨l, hl, l1, l2⟩ : ∃ l : Nat, 1 + cell ns 0 % 16 = (l : Int) ∧ 1 ≤ l ∧ l ≤ 16 := ⟨l0 + 1, by omega, by omega, by omega⟩
  show gName 2 (V.int (1 + cell ns 0 % 16)) _ _ _
  rw [hl]
  have h2l : (0 : Int) < 2 ^ l := Int.pow_pos (by decide)
  -- near keys
  refine ⟨4, rfl, by omega, by omega, fun nr nnr => ?_⟩
  refine lc_range (fun i H' => ∃ ks : List Int, ks.length = i ∧ Ext H1 H' ∧ Kp H1 H' ∧ H' nr = some (.lst (ks.map V.int)) ∧ InL l ks) ⟨[], rfl, Ext.new nnr, Kp.new nnr, upd_same, fun k h => nomatch h⟩ ?_ ?_
  · rintro i H' hi ⟨ks, rfl, x, k, hnr, hin⟩
    refine ⟨rfl, ?_⟩
    refine ⟨_, rfl, c, ns, 1, rfl, SqL.of (x.lst hc1), by decide, _, rfl, _, _, rfl, rfl, _, rfl, l, rfl, rfl, by omega, _, _, _, rfl, by decide, by decide, h2l, fun z H2 z0 z1 s2 => ?_⟩
    have hnr2 := s2 _ _ hnr
    have hi4 : ks.length < 4 := hi
    refine ⟨ks.map V.int, hnr2, by rw [List.length_map]; omega, ks ++ [z], by simp, (x.trans (Ext.of_same s2)).mut nnr, (k.trans (kp_same s2)).trans (Kp.lst hnr2), by rw [upd_same, List.map_append]; rfl, fun k' hk' => ?_⟩
    rcases List.mem_append.mp hk' with h | h
    · exact hin k' h
    · rw [List.mem_singleton.mp h]
      exact ⟨z0, z1⟩
  rintro H2 ⟨ks, hks, x2, k2, hnr, hin⟩
  have hks : ks.length = 4 := hks
  have hc2 := x2.lst hc1
  have ok2 := G.keep k2 ok1'
  -- the table, the dict
  refine ⟨_, rfl, _, rfl, fun q1 qx nq nqx nex => ?_⟩
  have y1 : Ext H2 (upd (upd H2 qx (.own q1)) q1 (.ins CT qx [])) := (Ext.new nqx).trans (Ext.new (by rw [upd_ne nex.symm]; exact nq))
  have ky1 : Kp H2 (upd (upd H2 qx (.own q1)) q1 (.ins CT qx [])) := (Kp.new nqx).trans (Kp.new (by rw [upd_ne nex.symm]; exact nq))
  refine ⟨S0, q1, qx, l, 16000000, hF, rfl, upd_same, by omega, G.keep ky1 ok2, fun H3 d1 xo3 kp3 nd1 ok3 tb1 => ⟨rfl, ?_⟩⟩
  have x3 : Ext H2 H3 := xo3.ext y1 nq
  have hc3 := x3.lst hc2
  have hnr3 := x3.lst hnr
  refine fun h0 nh0 => ?_
  have x4 := Ext.new (o := .dK []) nh0
  have k4 := Kp.new (o := .dK []) nh0
  have hh0 : upd H3 h0 (.dK []) h0 = some (.dK (convT [])) := upd_same
  have hc4 := x4.lst hc3
  have hnr4 := x4.lst hnr3
  have ok4 := G.keep k4 ok3
  have tb4 := tb1.ext x4
  generalize upd H3 h0 (.dK []) = H4 at hh0 hc4 hnr4 ok4 tb4 ⊢
  have nsl : ns.length ≤ 63 := hlen
  obtain ⟨N, hN, hN30, hNl⟩ : ∃ N : Nat, (if (30 : Int) < (ns.length : Int) then (30 : Int) else (ns.length : Int)) = (N : Int) ∧ N ≤ 30 ∧ N ≤ ns.length := by
    by_cases c : ns.length > 30
    · exact ⟨30, by rw [if_pos (by omega)]; rfl, Nat.le_refl _, by omega⟩
    · exact ⟨ns.length, by rw [if_neg (by omega)], by omega, Nat.le_refl _⟩
  refine gn_of ?_
  dsimp only
  refine sq_of ?_
  refine tFor_rngA (n := N) ?_ (by omega)
    (fun i σ H' => ∃ (q d dl : Addr) (kv kvs : List (Int × Str)) (y6 y7 y8 y9 y10 y11 y12 y13 : Option V), σ = [some (.ref c), some (.ref S0.f), some (.int (l : Int)), some (.ref nr), some (.ref q), some (.ref dl), y6, y7, y8, y9, y10, y11, y12, y13, none, none] ∧
      H' c = some (.lst (ns.map V.int)) ∧ H' nr = some (.lst (ks.map V.int)) ∧ TbAt CT S0.f H' q d l kv ∧ TbOk l kv ∧ kv.Perm kvs ∧ H' dl = some (.dK (convT kvs)) ∧ TbOk l kvs ∧ kvs.length ≤ 3 * i ∧ S0.ok H' (16000000 - 50000 * i))
    ⟨q1, d1, h0, [], [], none, none, none, none, none, none, none, none, rfl, hc4, hnr4, tb4, ⟨.nil, (fun e h => nomatch h), (fun e h => nomatch h)⟩, .refl _, hh0, ⟨.nil, (fun e h => nomatch h), (fun e h => nomatch h)⟩, by simp, ok4⟩ ?_ ?_
  · intro R hR
    refine ⟨_, rfl, c, ns.map V.int, rfl, .inl (SqL.of hc4), _, _, rfl, ?_⟩
    rw [List.length_map, hN]
    exact hR
  · rintro i σ H5 hi ⟨qt, d, dl, kv, kvs, y6, y7, y8, y9, y10, y11, y12, y13, rfl, hc5, hnr5, tb5, hk5, hper, hdl5, hks5, hlen5, ok5⟩
    have hil : i < ns.length := by omega
    refine ⟨_, rfl, _, rfl, c, _, (i : Int), .int ns[i], rfl, rfl, SqL.of hc5, atI_nat (by rw [List.getElem?_map, List.getElem?_eq_getElem hil]; rfl), _, rfl, _, _, rfl, rfl, .inl ⟨by decide, by decide⟩, _, _, rfl, rfl, ?_⟩
    obtain ⟨cv, hcv⟩ : ∃ cv : Int, ns[i] + 977 * (i : Int) = cv := ⟨_, rfl⟩
    show gName 7 (V.int (ns[i] + 977 * (i : Int))) _ _ _
    rw [hcv]
    refine ⟨_, rfl, _, rfl, _, rfl, cv, l, nr, ks, rfl, hnr5, by omega, by omega, hin, l1, l2, fun ms qm D ys H6 hms hok s6 nD hqm hD hdn => ?_⟩
    have x6 := Ext.of_same s6
    have ok6 := G.keep (kp_same s6) ok5
    have hc6 := x6.lst hc5
    have hnr6 := x6.lst hnr5
    have tb6 := tb5.ext x6
    have hdl6 := x6.dK hdl5
    refine ⟨_, rfl, qm, _, 0, _, rfl, rfl, SqT.of hqm, rfl, ?_⟩
    have dlen := dones_len ms 0
    refine ⟨fun σ H' => ∃ dv, σ = [some (.ref c), some (.ref S0.f), some (.int (l : Int)), some (.ref nr), some (.ref qt), some (.ref dl), some (.int (i : Int)), some (.int cv), some (.ref qm), some (.str (S (TL.joinL [10] (ms.map (·.1))))), some dv, y11, y12, y13, none, none] ∧ Ext H6 H' ∧ Kp H6 H' ∧ DueB H' dv (behD (dones 0 ms) kvs), ?_, ?_⟩
    · refine ⟨_, rfl, _, rfl, qm, _, 1, _, rfl, rfl, SqT.of hqm, rfl, dl, D, kvs, ys, dones 0 ms, rfl, hdl6, by omega, hD, hdn, by omega, fun kv' hb e H' x k ne he => ?_, fun j hb H' x k => ?_⟩
      · exact ⟨_, rfl, x, k, by show DueB H' _ (behD (dones 0 ms) kvs); rw [hb]; exact ⟨e, rfl, he⟩⟩
      · exact ⟨_, rfl, x, k, by show DueB H' _ (behD (dones 0 ms) kvs); rw [hb]; exact rfl⟩
    rintro σ H7 ⟨dv, rfl, x7, k7, hdue⟩
    have jl := join_len (ms.map (·.1)) fun l hl => by obtain ⟨m, hm, rfl⟩ := List.mem_map.mp hl; exact (hok m hm).ln
    rw [List.length_map] at jl
    have ja := join_asc (ms.map (·.1)) fun l hl => by obtain ⟨m, hm, rfl⟩ := List.mem_map.mp hl; exact (hok m hm).pr
    have hr0 := run_rowsM hok kvs
    refine ⟨fun σ H' => ∃ (dv : V) (tx : List Nat) (y11 : Option V), σ = [some (.ref c), some (.ref S0.f), some (.int (l : Int)), some (.ref nr), some (.ref qt), some (.ref dl), some (.int (i : Int)), some (.int cv), some (.ref qm), some (.str (S tx)), some dv, y11, y12, y13, none, none] ∧ Same H7 H' ∧ AscL tx ∧ tx.length ≤ 300 ∧ DueB H' dv (runL l 0 (TL.spl [10] 0 [] tx) kvs) ∧ (∀ kv, runL l 0 (TL.spl [10] 0 [] tx) kvs = .ok kv → kv.length ≤ kvs.length + 3), ?_, ?_⟩
    · refine ⟨_, rfl, _, _, _, rfl, by decide, by decide, by decide, fun z1 H8 _ _ s8 => ⟨rfl, _, rfl, ite2 (fun _ => ?_) (fun _ => ?_)⟩⟩
      · have hdue2 : DueB H8 dv (behD (dones 0 ms) kvs) := by
          cases hb : behD (dones 0 ms) kvs with
          | ok kv => rw [hb] at hdue; obtain ⟨e, h1, h2⟩ := hdue; exact ⟨e, h1, s8 _ _ h2⟩
          | error i => rw [hb] at hdue; exact hdue
        refine ⟨_, rfl, _, rfl, _, rfl, ms, l, kvs, dv, cv, rfl, hms, hok, hdue2, fun tq tx j H9 s9 htq atx ltx hrun => ?_⟩
        refine ⟨_, rfl, tq, _, 0, _, rfl, rfl, SqT.of htq, rfl, ?_⟩
        refine ⟨_, rfl, tq, _, 1, _, rfl, rfl, SqT.of htq, rfl, ?_⟩
        exact ⟨_, tx, _, rfl, s8.trans s9, atx, ltx, by rw [hrun]; exact rfl, fun kv h => by rw [hrun] at h; cases h⟩
      · refine ⟨dv, _, _, rfl, s8, ja, by omega, ?_, fun kv h => ?_⟩
        · rw [hr0]
          cases hb : behD (dones 0 ms) kvs with
          | ok kv => rw [hb] at hdue; obtain ⟨e, h1, h2⟩ := hdue; exact ⟨e, h1, s8 _ _ h2⟩
          | error i => rw [hb] at hdue; exact hdue
        · rw [hr0] at h
          have := run_len (d := l) ms 0 _ _ h
          omega
    rintro σ H8 ⟨dv, tx, y11', rfl, s8, atx, ltx, hdue, hlen⟩
    have x8 := (x6.trans x7).trans (Ext.of_same s8)
    have ok8 := G.keep (k7.trans (kp_same s8)) ok6
    have hc8 := x8.lst hc5
    have hnr8 := x8.lst hnr5
    have tb8 := tb5.ext x8
    have hdl8 := x8.dK hdl5
    have hkl := hper.length_eq
    refine ⟨_, rfl, _, rfl, _, rfl, S0, qt, d, l, kv, tx, _, hF, rfl, tb8, hk5, atx, by omega, ok8, fun rows kv2 o d2 H9 perm hrun x9 no nd2 ok9 tb9 hk9 => ?_, fun rows j perm hrun D' hD' dx H9 x9 ok9 ndx hdx => ?_⟩
    · have hrk : SameR (runL l 0 (TL.spl [10] 0 [] tx) rows) (runL l 0 (TL.spl [10] 0 [] tx) kvs) := run_perm _ 0 rows kvs (hk5.perm perm).nd (perm.trans hper)
      rw [hrun] at hrk
      obtain ⟨kvs2, hrun2, hper2⟩ := hrk.ok
      rw [hrun2] at hdue
      obtain ⟨e, rfl, he⟩ := hdue
      have hl2 := hlen _ hrun2
      have hks2 : TbOk l kvs2 := hk9.perm hper2.symm
      have he9 := x9.dK he
      refine ⟨_, rfl, .ref e, .ty "dict", _, _, true, rfl, .ty "dict", .base (.dK he9), kit_ty (by decide +kernel), true, rfl, ?_⟩
      refine iteF ?_
      have hkk2 : kvs2.length ≤ 119 := by omega
      have hkk1 : kvs.length ≤ 119 := by omega
      refine ⟨_, rfl, _, rfl, _, rfl, _, rfl, S0, o, d2, e, l, kv2, kvs2, 16000000 - 50000 * i - 8010, hF, rfl, tb9, hk9, hper2, he9, hks2, l2, hkk2, G.less ok9 (by omega), fun H10 x10 ok10 => ⟨true, rfl, iteF ?_⟩⟩
      have x810 := x9.trans x10
      refine ⟨_, rfl, _, rfl, _, rfl, _, rfl, S0, qt, d, dl, l, kv, kvs, 16000000 - 50000 * i - 16020, hF, rfl, tb8.ext x810, hk5, hper, x810.dK hdl8, hks5, l2, hkk1, G.less ok10 (by omega), fun H11 x11 ok11 => ⟨true, rfl, iteF ?_⟩⟩
      have x811 := x810.trans x11
      refine ⟨_, rfl, _, rfl, _, rfl, S0, qt, d, l, kv, tx, _, hF, rfl, tb8.ext x811, hk5, atx, by omega, ok11, fun rows3 kv3 o3 d3 H12 perm3 hrun3 x12 no3 nd3 ok12 tb12 hk12 => ?_, fun rows3 j perm3 hrun3 => ?_⟩
      · obtain ⟨⟨dx3, hp3⟩, hd3, _⟩ := id tb12
        have hnr12 := (x811.trans x12).lst hnr8
        have hz0 : 0 < ks.length := by omega
        have hkr := hin _ (List.getElem_mem hz0)
        refine ⟨_, rfl, o3, dx3, _, rfl, hp3, (tbF_no _ _ _).2.1, _, rfl, nr, _, 0, .int ks[0], rfl, rfl, SqL.of hnr12, atI_nat (by rw [List.getElem?_map, List.getElem?_eq_getElem hz0]; rfl), S0.f, o3, d3, l, kv3, ks[0], _, rfl, tb12, fun _ => ?_, fun h => absurd hkr h⟩
        have x13 := x12.mut nd3 (o := .dK (convT (putI kv3 ks[0] "qqq")))
        have ok13 := G.keep (Kp.dK (o := .dK (convT (putI kv3 ks[0] "qqq"))) hd3) ok12
        generalize upd H12 d3 (.dK (convT (putI kv3 ks[0] "qqq"))) = H13 at x13 ok13 ⊢
        have x813 := x811.trans x13
        refine ⟨_, rfl, _, rfl, _, rfl, _, rfl, S0, qt, d, dl, l, kv, kvs, 16000000 - 50000 * i - 24030, hF, rfl, tb8.ext x813, hk5, hper, x813.dK hdl8, hks5, l2, hkk1, G.less ok13 (by omega), fun H14 x14 ok14 => ⟨true, rfl, iteF ?_⟩⟩
        have x9_14 := ((x10.trans x11).trans x13).trans x14
        refine ⟨_, rfl, _, rfl, _, rfl, _, rfl, S0, o, d2, e, l, kv2, kvs2, 16000000 - 50000 * i - 32040, hF, rfl, tb9.ext x9_14, hk9, hper2, x9_14.dK he9, hks2, l2, hkk2, G.less ok14 (by omega), fun H15 x15 ok15 => ⟨true, rfl, iteF ?_⟩⟩
        have x9_15 := x9_14.trans x15
        have x815 := x9.trans x9_15
        exact ⟨_, rfl, _, rfl, o, d2, e, kv2, kvs2, _, _, _, _, _, _, _, _, rfl, x815.lst hc8, x815.lst hnr8, tb9.ext x9_15, hk9, hper2, x9_15.dK he9, hks2, by omega, G.less ok15 (by omega)⟩
      · have z : SameR (runL l 0 (TL.spl [10] 0 [] tx) rows3) (runL l 0 (TL.spl [10] 0 [] tx) kvs) := run_perm _ 0 rows3 kvs (hk5.perm perm3).nd (perm3.trans hper)
        rw [hrun3] at z
        have z := z.error
        rw [hrun2] at z
        cases z
    · have hrk : SameR (runL l 0 (TL.spl [10] 0 [] tx) rows) (runL l 0 (TL.spl [10] 0 [] tx) kvs) := run_perm _ 0 rows kvs (hk5.perm perm).nd (perm.trans hper)
      rw [hrun] at hrk
      have hrun2 := hrk.error
      rw [hrun2] at hdue
      obtain rfl : dv = .int (j : Int) := hdue
      rw [EI.gC] at hD'
      cases hD'
      refine ⟨true, EI.eP, fun _ ea ne => ⟨rfl, ?_⟩, fun z => nomatch z⟩
      have hkk1 : kvs.length ≤ 119 := by omega
      refine ⟨_, rfl, .int _, .ty "dict", _, _, false, rfl, .ty "dict", .base (.int _), kit_ty (by decide +kernel), false, rfl, ?_⟩
      refine iteF ?_
      refine ⟨_, rfl, rfl, rfl, dx, _, .int (j : Int), rfl, hdx, rfl, _, rfl, rfl, _, rfl, ?_⟩
      rw [decide_eq_true rfl]
      refine iteF ?_
      refine ⟨_, rfl, _, rfl, _, rfl, _, rfl, S0, qt, d, dl, l, kv, kvs, 16000000 - 50000 * i - 8010, hF, rfl, tb8.ext x9, hk5, hper, x9.dK hdl8, hks5, l2, hkk1, G.less ok9 (by omega), fun H10 x10 ok10 => ⟨true, rfl, iteF ?_⟩⟩
      have x810 := x9.trans x10
      exact ⟨qt, d, dl, kv, kvs, _, _, _, _, _, _, _, _, rfl, x810.lst hc8, x810.lst hnr8, tb8.ext x810, hk5, hper, x810.dK hdl8, hks5, by omega, G.less ok10 (by omega)⟩
  · rintro σ H5 ⟨qt, d, dl, kv, kvs, y6, y7, y8, y9, y10, y11, y12, y13, rfl, _⟩
    exact q H5
end

end My
open PySem PySem.W PyProof.Rows
set_option maxHeartbeats 0 in
theorem PySem.Challenge.cw_growbook_k10_changed_holds : PySem.Challenge.rw_growbook_k10_changed.Holds := by
  w_on; o_law; k_head; (case hw => w_witness2)
  k_fill
  refine LamX.walk_ofTs (l := PySem.Challenge.rw_growbook_k10_changed) (n := 63) (k := 29) (x := "_law_script") (CX := fun _ => L2.CX0) rfl (by decide) rfl ⟨rfl, by decide, by decide⟩ (fun w h Y => PySem.W.km_in_of Y) ?F (fun _ _ _ _ _ h => h)
  case F =>
    intro w mg fa h Y KX G hmg
    have hT := PySem.W.km_tabs_of Y
    refine My.law_end (c := ?c) KX hT (by kernel_rfl) ?hcode (My.ok_law ?T hmg)
    case T =>
      refine' My.txt_mk KX G ?a0 ?l0 ?c0 ?k0 ?a1 ?l1 ?c1 ?k1 ?a2 ?l2 ?c2 ?k2 ?a3 ?l3 ?c3 ?k3 ?a4 ?l4 ?c4 ?k4 ?a5 ?l5 ?c5 ?k5 ?a6 ?l6 ?c6 ?k6 ?a7 ?l7 ?c7 ?k7 ?a8 ?l8 ?c8 ?k8 ?a9 ?l9 ?c9 ?k9 ?a10 ?l10 ?c10 ?k10 ?a11 ?l11 ?c11 ?k11 ?a12 ?l12 ?c12 ?k12 ?a13 ?l13 ?c13 ?k13 ?a14 ?l14 ?c14 ?k14 ?a15 ?l15 ?c15 ?k15 ?a16 ?l16 ?c16 ?k16 ?a17 ?l17 ?c17 ?k17 ?a18 ?l18 ?c18 ?k18 ?a19 ?l19 ?c19 ?k19 ?a20 ?l20 ?c20 ?k20 ?a21 ?l21 ?c21 ?k21 ?a22 ?l22 ?c22 ?k22 ?z_len ?z_isinstance ?z_int ?z_dict ?z_range ?z_str ?z_sorted ?z_min ?z_enumerate ?g_BookError ?g_NoPlace ?xP_NoPlace ?kP_NoPlace ?bP_NoPlace ?tP_NoPlace ?hg_NoPlace ?hk_NoPlace ?hd_NoPlace ?ha_NoPlace ?hn_NoPlace ?ht_NoPlace ?hm_NoPlace ?ex_NoPlace ?g_BadRow ?xL_BadRow ?sa_BadRow ?ga_BadRow ?gg_BadRow ?nf_BadRow ?kC_BadRow ?eC_BadRow ?tC_BadRow ?hC_BadRow ?iac_BadRow ?xm_BadRow ?xe_BadRow ?fi_BadRow ?ti_BadRow ?bg_BadRow ?br_BadRow ?bf_BadRow ?xn_BadRow ?xt_BadRow ?li_BadRow ?ci_BadRow ?ki_BadRow ?g_Table ?pg_Table ?hd_Table ?po_Table ?sa_Table ?n_Table_seal ?n_Table_depth ?n_Table_held ?ia_Table ?in_Table ?it_Table ?im_Table ?aTable0 ?iTable0 ?lTable0 ?cTable0 ?kTable0 ?dTable0 ?mk_Table ?kc_Table ?aTable1 ?iTable1 ?lTable1 ?cTable1 ?kTable1 ?aTable2 ?iTable2 ?lTable2 ?cTable2 ?kTable2 ?aTable3 ?iTable3 ?lTable3 ?cTable3 ?kTable3 ?aTable4 ?iTable4 ?lTable4 ?cTable4 ?kTable4 ?aTable5 ?iTable5 ?lTable5 ?cTable5 ?kTable5 ?aTable6 ?iTable6 ?lTable6 ?cTable6 ?kTable6
      (case a0 => k_is)
      (case l0 => k_is)
      (case c0 => k_is)
      (case k0 => k_is)
      (case a1 => k_is)
      (case l1 => k_is)
      (case c1 => k_is)
      (case k1 => k_is)
      (case a2 => k_is)
      (case l2 => k_is)
      (case c2 => k_is)
      (case k2 => k_is)
      (case a3 => k_is)
      (case l3 => k_is)
      (case c3 => k_is)
      (case k3 => k_is)
      (case a4 => k_is)
      (case l4 => k_is)
      (case c4 => k_is)
      (case k4 => k_is)
      (case a5 => k_is)
      (case l5 => k_is)
      (case c5 => k_is)
      (case k5 => k_is)
      (case a6 => k_is)
      (case l6 => k_is)
      (case c6 => k_is)
      (case k6 => k_is)
      (case a7 => k_is)
      (case l7 => k_is)
      (case c7 => k_is)
      (case k7 => k_is)
      (case a8 => k_is)
      (case l8 => k_is)
      (case c8 => k_is)
      (case k8 => k_is)
      (case a9 => k_is)
      (case l9 => k_is)
      (case c9 => k_is)
      (case k9 => k_is)
      (case a10 => k_is)
      (case l10 => k_is)
      (case c10 => k_is)
      (case k10 => k_is)
      (case a11 => k_is)
      (case l11 => k_is)
      (case c11 => k_is)
      (case k11 => k_is)
      (case a12 => k_is)
      (case l12 => k_is)
      (case c12 => k_is)
      (case k12 => k_is)
      (case a13 => k_is)
      (case l13 => k_is)
      (case c13 => k_is)
      (case k13 => k_is)
      (case a14 => k_is)
      (case l14 => k_is)
      (case c14 => k_is)
      (case k14 => k_is)
      (case a15 => k_is)
      (case l15 => k_is)
      (case c15 => k_is)
      (case k15 => k_is)
      (case a16 => k_is)
      (case l16 => k_is)
      (case c16 => k_is)
      (case k16 => k_is)
      (case a17 => k_is)
      (case l17 => k_is)
      (case c17 => k_is)
      (case k17 => k_is)
      (case a18 => k_is)
      (case l18 => k_is)
      (case c18 => k_is)
      (case k18 => k_is)
      (case a19 => k_is)
      (case l19 => k_is)
      (case c19 => k_is)
      (case k19 => k_is)
      (case a20 => k_is)
      (case l20 => k_is)
      (case c20 => k_is)
      (case k20 => k_is)
      (case a21 => k_is)
      (case l21 => k_is)
      (case c21 => k_is)
      (case k21 => k_is)
      (case a22 => k_is)
      (case l22 => k_is)
      (case c22 => k_is)
      (case k22 => k_is)
      (case z_len => k_is)
      (case z_isinstance => k_is)
      (case z_int => k_is)
      (case z_dict => k_is)
      (case z_range => k_is)
      (case z_str => k_is)
      (case z_sorted => k_is)
      (case z_min => k_is)
      (case z_enumerate => k_is)
      (case g_BookError => k_is)
      (case g_NoPlace => k_is)
      (case xP_NoPlace => k_exc)
      (case kP_NoPlace => k_is)
      (case bP_NoPlace => k_is)
      (case tP_NoPlace => k_is)
      (case hg_NoPlace => k_is)
      (case hk_NoPlace => k_is)
      (case hd_NoPlace => k_is)
      (case ha_NoPlace => k_is)
      (case hn_NoPlace => k_is)
      (case ht_NoPlace => k_is)
      (case hm_NoPlace => k_is)
      (case ex_NoPlace => kernel_rfl)
      (case g_BadRow => k_is)
      (case xL_BadRow => k_is)
      (case sa_BadRow => k_is)
      (case ga_BadRow => k_is)
      (case gg_BadRow => k_is)
      (case nf_BadRow => k_is)
      (case kC_BadRow => k_is)
      (case eC_BadRow => k_is)
      (case tC_BadRow => k_is)
      (case hC_BadRow => k_is)
      (case iac_BadRow => k_is)
      (case xm_BadRow => k_is)
      (case xe_BadRow => kernel_rfl)
      (case fi_BadRow => k_is)
      (case ti_BadRow => k_is)
      (case bg_BadRow => k_is)
      (case br_BadRow => kernel_rfl)
      (case bf_BadRow => kernel_rfl)
      (case xn_BadRow => k_is)
      (case xt_BadRow => k_is)
      (case li_BadRow => k_is)
      (case ci_BadRow => k_is)
      (case ki_BadRow => k_is)
      (case g_Table => k_is)
      (case pg_Table => k_is)
      (case hd_Table => k_is)
      (case po_Table => k_is)
      (case sa_Table => k_is)
      (case n_Table_seal => k_is)
      (case n_Table_depth => k_is)
      (case n_Table_held => k_is)
      (case ia_Table => k_is)
      (case in_Table => k_is)
      (case it_Table => k_is)
      (case im_Table => k_is)
      (case aTable0 => k_is)
      (case iTable0 => k_is)
      (case lTable0 => k_is)
      (case cTable0 => k_is)
      (case kTable0 => k_is)
      (case dTable0 => k_is)
      (case mk_Table => k_is)
      (case kc_Table => k_is)
      (case aTable1 => k_is)
      (case iTable1 => k_is)
      (case lTable1 => k_is)
      (case cTable1 => k_is)
      (case kTable1 => k_is)
      (case aTable2 => k_is)
      (case iTable2 => k_is)
      (case lTable2 => k_is)
      (case cTable2 => k_is)
      (case kTable2 => k_is)
      (case aTable3 => k_is)
      (case iTable3 => k_is)
      (case lTable3 => k_is)
      (case cTable3 => k_is)
      (case kTable3 => k_is)
      (case aTable4 => k_is)
      (case iTable4 => k_is)
      (case lTable4 => k_is)
      (case cTable4 => k_is)
      (case kTable4 => k_is)
      (case aTable5 => k_is)
      (case iTable5 => k_is)
      (case lTable5 => k_is)
      (case cTable5 => k_is)
      (case kTable5 => k_is)
      (case aTable6 => k_is)
      (case iTable6 => k_is)
      (case lTable6 => k_is)
      (case cTable6 => k_is)
      (case kTable6 => k_is)
    case hcode => kernel_rfl
#print axioms PySem.Challenge.cw_growbook_k10_changed_holds

