import PyProof.Rows.All
import Wide.All
import OpenK.AllK
import Wide.FinOn
import HandS.ForMost
import HandS.WideBits
import HandS.IsInst
import HandS.Codes
import HandS.Evl
import HandS.Nested
import HandS.EndTab
import HandS.TupLen
import HandS.Conv
import HandS.Rev
import HandS.ForExc
import HandS.ExcIs
import HandS.TryElse
import HandS.Style
import HandS.Defaults
import HandS.SortInts
import HandS.More
import HandS.Walk
import HandS.HotCalls
import HandS.SuiteRaise
import PySem.Challenge.RW_growbook_k14_no_two

import HandS.ExcInit
import HandS.ExcInitHot
import HandS.ExcField
import HandS.StrMore
import HandS.TupAny
import HandS.CallSlots
import HandS.ClsMeth
set_option Elab.async false
set_option linter.all false
set_option maxRecDepth 100000
set_option maxHeartbeats 4000000
namespace My
open PySem PySem.Spec PyProof.Rows L2
open C8 (Cal Met Mak CalAt pe_c pe_mk pe_mt pe_mt0)

/-! ### the text by places -/
def inDef (s : Stmt) (j : Nat) : Stmt := (defBody s).getD j (.Pass ⟨0, 0, 0, 0⟩)
def topS (i : Nat) : Stmt := PySem.Challenge.pw_growbook_k14_no_two.main.body.getD i (.Pass ⟨0, 0, 0, 0⟩)
abbrev s_split : Stmt := topS 4
abbrev N_split : List Str := ["size"]
theorem sc_split : FnScope ["size"] ["size"] (defScope s_split) := ⟨rfl, rfl, rfl, by decide +kernel, rfl, by decide +kernel, by decide +kernel⟩
abbrev s_none_seal : Stmt := topS 5
abbrev N_none_seal : List Str := ["seal"]
theorem sc_none_seal : FnScope ["seal"] ["seal"] (defScope s_none_seal) := ⟨rfl, rfl, rfl, by decide +kernel, rfl, by decide +kernel, by decide +kernel⟩
abbrev s_leaf_seal : Stmt := topS 6
abbrev N_leaf_seal : List Str := ["seal", "text", "table"]
theorem sc_leaf_seal : FnScope ["seal", "text", "table"] ["seal", "text", "table"] (defScope s_leaf_seal) := ⟨rfl, rfl, rfl, by decide +kernel, rfl, by decide +kernel, by decide +kernel⟩
abbrev s_pair_seal : Stmt := topS 7
abbrev N_pair_seal : List Str := ["seal", "left", "right"]
theorem sc_pair_seal : FnScope ["seal", "left", "right"] ["seal", "left", "right"] (defScope s_pair_seal) := ⟨rfl, rfl, rfl, by decide +kernel, rfl, by decide +kernel, by decide +kernel⟩
abbrev s_book_seal : Stmt := topS 8
abbrev N_book_seal : List Str := ["seal", "size", "top"]
theorem sc_book_seal : FnScope ["seal", "size", "top"] ["seal", "size", "top"] (defScope s_book_seal) := ⟨rfl, rfl, rfl, by decide +kernel, rfl, by decide +kernel, by decide +kernel⟩
abbrev s_last_of : Stmt := topS 9
abbrev N_last_of : List Str := ["paper"]
theorem sc_last_of : FnScope ["paper"] ["paper"] (defScope s_last_of) := ⟨rfl, rfl, rfl, by decide +kernel, rfl, by decide +kernel, by decide +kernel⟩
abbrev s_risen : Stmt := topS 10
abbrev N_risen : List Str := ["seal", "leaf", "place", "size", "path", "rest", "sides", "last", "k", "found", "low"]
theorem sc_risen : FnScope ["seal", "leaf", "place", "size", "path", "rest", "sides", "last", "k", "found", "low"] ["seal", "leaf", "place", "size", "path"] (defScope s_risen) := ⟨rfl, rfl, rfl, by decide +kernel, rfl, by decide +kernel, by decide +kernel⟩
abbrev s_regrown : Stmt := topS 11
abbrev N_regrown : List Str := ["seal", "old", "size", "paper", "last", "rest", "sides", "k", "one", "other", "low"]
theorem sc_regrown : FnScope ["seal", "old", "size", "paper", "last", "rest", "sides", "k", "one", "other", "low"] ["seal", "old", "size", "paper"] (defScope s_regrown) := ⟨rfl, rfl, rfl, by decide +kernel, rfl, by decide +kernel, by decide +kernel⟩
abbrev s_table_seal : Stmt := topS 13
abbrev N_table_seal : List Str := ["seal", "depth", "top"]
theorem sc_table_seal : FnScope ["seal", "depth", "top"] ["seal", "depth", "top"] (defScope s_table_seal) := ⟨rfl, rfl, rfl, by decide +kernel, rfl, by decide +kernel, by decide +kernel⟩
abbrev s_climbed : Stmt := topS 14
abbrev N_climbed : List Str := ["seal", "key", "depth", "way", "end", "top", "level", "other"]
theorem sc_climbed : FnScope ["seal", "key", "depth", "way", "end", "top", "level", "other"] ["seal", "key", "depth", "way"] (defScope s_climbed) := ⟨rfl, rfl, rfl, by decide +kernel, rfl, by decide +kernel, by decide +kernel⟩
abbrev s_Claim_judged : Stmt := inClass (topS 16) 0
abbrev N_Claim_judged : List Str := ["self", "seal", "size", "head", "paper", "shows"]
theorem sc_Claim_judged : FnScope ["self", "seal", "size", "head", "paper", "shows"] ["self", "seal", "size", "head", "paper"] (defScope s_Claim_judged) := ⟨rfl, rfl, rfl, by decide +kernel, rfl, by decide +kernel, by decide +kernel⟩
abbrev s_Claim_shown : Stmt := inClass (topS 16) 1
abbrev N_Claim_shown : List Str := ["self", "seal", "size", "head", "paper"]
theorem sc_Claim_shown : FnScope ["self", "seal", "size", "head", "paper"] ["self", "seal", "size", "head", "paper"] (defScope s_Claim_shown) := ⟨rfl, rfl, rfl, by decide +kernel, rfl, by decide +kernel, by decide +kernel⟩
abbrev s_Stands___init__ : Stmt := inClass (topS 17) 0
abbrev N_Stands___init__ : List Str := ["self", "place", "text", "table"]
theorem sc_Stands___init__ : FnScope ["self", "place", "text", "table"] ["self", "place", "text", "table"] (defScope s_Stands___init__) := ⟨rfl, rfl, rfl, by decide +kernel, rfl, by decide +kernel, by decide +kernel⟩
abbrev s_Stands_shown : Stmt := inClass (topS 17) 1
abbrev N_Stands_shown : List Str := ["self", "seal", "size", "head", "paper", "leaf"]
theorem sc_Stands_shown : FnScope ["self", "seal", "size", "head", "paper", "leaf"] ["self", "seal", "size", "head", "paper"] (defScope s_Stands_shown) := ⟨rfl, rfl, rfl, by decide +kernel, rfl, by decide +kernel, by decide +kernel⟩
abbrev s_Grows___init__ : Stmt := inClass (topS 18) 0
abbrev N_Grows___init__ : List Str := ["self", "old", "head"]
theorem sc_Grows___init__ : FnScope ["self", "old", "head"] ["self", "old", "head"] (defScope s_Grows___init__) := ⟨rfl, rfl, rfl, by decide +kernel, rfl, by decide +kernel, by decide +kernel⟩
abbrev s_Grows_shown : Stmt := inClass (topS 18) 1
abbrev N_Grows_shown : List Str := ["self", "seal", "size", "head", "paper", "empty", "both"]
theorem sc_Grows_shown : FnScope ["self", "seal", "size", "head", "paper", "empty", "both"] ["self", "seal", "size", "head", "paper"] (defScope s_Grows_shown) := ⟨rfl, rfl, rfl, by decide +kernel, rfl, by decide +kernel, by decide +kernel⟩
abbrev s_Behind___init__ : Stmt := inClass (topS 19) 0
abbrev N_Behind___init__ : List Str := ["self", "place", "key", "depth"]
theorem sc_Behind___init__ : FnScope ["self", "place", "key", "depth"] ["self", "place", "key", "depth"] (defScope s_Behind___init__) := ⟨rfl, rfl, rfl, by decide +kernel, rfl, by decide +kernel, by decide +kernel⟩
abbrev s_Behind_ends : Stmt := inClass (topS 19) 1
abbrev N_Behind_ends : List Str := ["self", "end"]
theorem sc_Behind_ends : FnScope ["self", "end"] ["self", "end"] (defScope s_Behind_ends) := ⟨rfl, rfl, rfl, by decide +kernel, rfl, by decide +kernel, by decide +kernel⟩
abbrev s_Behind_shown : Stmt := inClass (topS 19) 2
abbrev N_Behind_shown : List Str := ["self", "seal", "size", "head", "paper", "entry", "top"]
theorem sc_Behind_shown : FnScope ["self", "seal", "size", "head", "paper", "entry", "top"] ["self", "seal", "size", "head", "paper"] (defScope s_Behind_shown) := ⟨rfl, rfl, rfl, by decide +kernel, rfl, by decide +kernel, by decide +kernel⟩
abbrev s_Holds___init__ : Stmt := inClass (topS 20) 0
abbrev N_Holds___init__ : List Str := ["self", "place", "key", "value", "depth"]
theorem sc_Holds___init__ : FnScope ["self", "place", "key", "value", "depth"] ["self", "place", "key", "value", "depth"] (defScope s_Holds___init__) := ⟨rfl, rfl, rfl, by decide +kernel, rfl, by decide +kernel, by decide +kernel⟩
abbrev s_Holds_ends : Stmt := inClass (topS 20) 1
abbrev N_Holds_ends : List Str := ["self", "end"]
theorem sc_Holds_ends : FnScope ["self", "end"] ["self", "end"] (defScope s_Holds_ends) := ⟨rfl, rfl, rfl, by decide +kernel, rfl, by decide +kernel, by decide +kernel⟩
abbrev s_Lacks_ends : Stmt := inClass (topS 21) 0
abbrev N_Lacks_ends : List Str := ["self", "end"]
theorem sc_Lacks_ends : FnScope ["self", "end"] ["self", "end"] (defScope s_Lacks_ends) := ⟨rfl, rfl, rfl, by decide +kernel, rfl, by decide +kernel, by decide +kernel⟩
abbrev s__law_seal : Stmt := topS 23
abbrev N__law_seal : List Str := ["_law_mark", "_law_one", "_law_two"]
theorem sc__law_seal : FnScope ["_law_mark", "_law_one", "_law_two"] ["_law_mark", "_law_one", "_law_two"] (defScope s__law_seal) := ⟨rfl, rfl, rfl, by decide +kernel, rfl, by decide +kernel, by decide +kernel⟩
abbrev s__law_draw : Stmt := topS 24
abbrev N__law_draw : List Str := ["_law_cell", "_law_k", "_law_many", "_law_primes"]
theorem sc__law_draw : FnScope ["_law_cell", "_law_k", "_law_many", "_law_primes"] ["_law_cell", "_law_k", "_law_many"] (defScope s__law_draw) := ⟨rfl, rfl, rfl, by decide +kernel, rfl, by decide +kernel, by decide +kernel⟩
abbrev s__law_some : Stmt := topS 25
abbrev N__law_some : List Str := ["_law_cell", "_law_k", "_law_one"]
theorem sc__law_some : FnScope ["_law_cell", "_law_k", "_law_one"] ["_law_cell", "_law_k"] (defScope s__law_some) := ⟨rfl, rfl, rfl, by decide +kernel, rfl, by decide +kernel, by decide +kernel⟩
abbrev s__law_split : Stmt := topS 26
abbrev N__law_split : List Str := ["_law_size", "_law_k"]
theorem sc__law_split : FnScope ["_law_size", "_law_k"] ["_law_size"] (defScope s__law_split) := ⟨rfl, rfl, rfl, by decide +kernel, rfl, by decide +kernel, by decide +kernel⟩
abbrev s__law_risen : Stmt := topS 27
abbrev N__law_risen : List Str := ["_law_leaf", "_law_place", "_law_size", "_law_tops", "_law_at", "_law_k", "_law_last", "_law_both"]
theorem sc__law_risen : FnScope ["_law_leaf", "_law_place", "_law_size", "_law_tops", "_law_at", "_law_k", "_law_last", "_law_both"] ["_law_leaf", "_law_place", "_law_size", "_law_tops", "_law_at"] (defScope s__law_risen) := ⟨rfl, rfl, rfl, by decide +kernel, rfl, by decide +kernel, by decide +kernel⟩
abbrev s__law_regrown : Stmt := topS 28
abbrev N__law_regrown : List Str := ["_law_old", "_law_size", "_law_tops", "_law_at", "_law_last", "_law_k", "_law_one"]
theorem sc__law_regrown : FnScope ["_law_old", "_law_size", "_law_tops", "_law_at", "_law_last", "_law_k", "_law_one"] ["_law_old", "_law_size", "_law_tops", "_law_at"] (defScope s__law_regrown) := ⟨rfl, rfl, rfl, by decide +kernel, rfl, by decide +kernel, by decide +kernel⟩
abbrev s__law_stands : Stmt := topS 29
abbrev N__law_stands : List Str := ["_law_cell", "_law_size", "_law_place", "_law_entries", "_law_tops", "_law_laid", "_law_head", "_law_shown", "_law_entry", "_law_claim", "_law_k", "_law_one"]
theorem sc__law_stands : FnScope ["_law_cell", "_law_size", "_law_place", "_law_entries", "_law_tops", "_law_laid", "_law_head", "_law_shown", "_law_entry", "_law_claim", "_law_k", "_law_one"] ["_law_cell"] (defScope s__law_stands) := ⟨rfl, rfl, rfl, by decide +kernel, rfl, by decide +kernel, by decide +kernel⟩
abbrev s__law_grows : Stmt := topS 30
abbrev N__law_grows : List Str := ["_law_cell", "_law_size", "_law_old", "_law_tops", "_law_laid", "_law_head", "_law_shown", "_law_said", "_law_k", "_law_one"]
theorem sc__law_grows : FnScope ["_law_cell", "_law_size", "_law_old", "_law_tops", "_law_laid", "_law_head", "_law_shown", "_law_said", "_law_k", "_law_one"] ["_law_cell"] (defScope s__law_grows) := ⟨rfl, rfl, rfl, by decide +kernel, rfl, by decide +kernel, by decide +kernel⟩
abbrev s__law_tree : Stmt := topS 31
abbrev N__law_tree : List Str := ["_law_cell", "_law_depth", "_law_kind"]
theorem sc__law_tree : FnScope ["_law_cell", "_law_depth", "_law_kind"] ["_law_cell", "_law_depth"] (defScope s__law_tree) := ⟨rfl, rfl, rfl, by decide +kernel, rfl, by decide +kernel, by decide +kernel⟩
abbrev s__law_down : Stmt := topS 32
abbrev N__law_down : List Str := ["_law_tree_here", "_law_key", "_law_depth", "_law_others", "_law_bit"]
theorem sc__law_down : FnScope ["_law_tree_here", "_law_key", "_law_depth", "_law_others", "_law_bit"] ["_law_tree_here", "_law_key", "_law_depth"] (defScope s__law_down) := ⟨rfl, rfl, rfl, by decide +kernel, rfl, by decide +kernel, by decide +kernel⟩
abbrev s__law_keys : Stmt := topS 33
abbrev N__law_keys : List Str := ["_law_cell", "_law_depth", "_law_tree_here", "_law_table", "_law_head", "_law_key", "_law_papers", "_law_shown", "_law_deep", "_law_k", "_law_claims", "_law_told", "_law_near", "_law_paper"]
theorem sc__law_keys : FnScope ["_law_cell", "_law_depth", "_law_tree_here", "_law_table", "_law_head", "_law_key", "_law_papers", "_law_shown", "_law_deep", "_law_k", "_law_claims", "_law_told", "_law_near", "_law_paper"] ["_law_cell"] (defScope s__law_keys) := ⟨rfl, rfl, rfl, by decide +kernel, rfl, by decide +kernel, by decide +kernel⟩
abbrev s__law_top : Stmt := topS 34
abbrev N__law_top : List Str := ["_law_leaves", "_law_k"]
theorem sc__law_top : FnScope ["_law_leaves", "_law_k"] ["_law_leaves"] (defScope s__law_top) := ⟨rfl, rfl, rfl, by decide +kernel, rfl, by decide +kernel, by decide +kernel⟩
abbrev s__law_path : Stmt := topS 35
abbrev N__law_path : List Str := ["_law_leaves", "_law_place", "_law_k"]
theorem sc__law_path : FnScope ["_law_leaves", "_law_place", "_law_k"] ["_law_leaves", "_law_place"] (defScope s__law_path) := ⟨rfl, rfl, rfl, by decide +kernel, rfl, by decide +kernel, by decide +kernel⟩
abbrev s__law_growth : Stmt := topS 36
abbrev N__law_growth : List Str := ["_law_leaves", "_law_old", "_law_k"]
theorem sc__law_growth : FnScope ["_law_leaves", "_law_old", "_law_k"] ["_law_leaves", "_law_old"] (defScope s__law_growth) := ⟨rfl, rfl, rfl, by decide +kernel, rfl, by decide +kernel, by decide +kernel⟩
abbrev s__law_is : Stmt := topS 37
abbrev N__law_is : List Str := ["_law_claim", "_law_size", "_law_head", "_law_paper", "_law_due", "_law_told"]
theorem sc__law_is : FnScope ["_law_claim", "_law_size", "_law_head", "_law_paper", "_law_due", "_law_told"] ["_law_claim", "_law_size", "_law_head", "_law_paper", "_law_due"] (defScope s__law_is) := ⟨rfl, rfl, rfl, by decide +kernel, rfl, by decide +kernel, by decide +kernel⟩
abbrev s__law_true : Stmt := topS 38
abbrev N__law_true : List Str := ["_law_cell", "_law_size", "_law_place", "_law_old", "_law_leaves", "_law_head", "_law_there", "_law_text", "_law_table", "_law_due", "_law_said", "_law_other", "_law_before", "_law_depth", "_law_key", "_law_entry", "_law_paper", "_law_claim", "_law_k"]
theorem sc__law_true : FnScope ["_law_cell", "_law_size", "_law_place", "_law_old", "_law_leaves", "_law_head", "_law_there", "_law_text", "_law_table", "_law_due", "_law_said", "_law_other", "_law_before", "_law_depth", "_law_key", "_law_entry", "_law_paper", "_law_claim", "_law_k"] ["_law_cell"] (defScope s__law_true) := ⟨rfl, rfl, rfl, by decide +kernel, rfl, by decide +kernel, by decide +kernel⟩
abbrev s__law_narrow : Stmt := topS 39
abbrev N__law_narrow : List Str := ["_law_mark", "_law_one", "_law_two", "_law_first"]
theorem sc__law_narrow : FnScope ["_law_mark", "_law_one", "_law_two", "_law_first"] ["_law_mark", "_law_one", "_law_two"] (defScope s__law_narrow) := ⟨rfl, rfl, rfl, by decide +kernel, rfl, by decide +kernel, by decide +kernel⟩
abbrev s__law_far_right : Stmt := topS 40
abbrev N__law_far_right : List Str := ["_law_cell", "_law_halvings", "_law_size", "_law_tops", "_law_told", "_law_turn", "_law_place", "_law_one"]
theorem sc__law_far_right : FnScope ["_law_cell", "_law_halvings", "_law_size", "_law_tops", "_law_told", "_law_turn", "_law_place", "_law_one"] ["_law_cell"] (defScope s__law_far_right) := ⟨rfl, rfl, rfl, by decide +kernel, rfl, by decide +kernel, by decide +kernel⟩
abbrev s_law : Stmt := topS 41
abbrev N_law : List Str := ["_law_script", "_law_at", "_law_cell"]
theorem sc_law : FnScope ["_law_script", "_law_at", "_law_cell"] ["_law_script"] (defScope s_law) := ⟨rfl, rfl, rfl, by decide +kernel, rfl, by decide +kernel, by decide +kernel⟩

/-! ### a def of the module -/
structure DefX (K : PySem.W.Frag) (mg : Str → Option Value) (x : Str) (st : Stmt) (ps : List Str) : Prop where
  ex : ∃ (f : Addr) (fd : FuncData), L2.Fun K x x st f fd ∧ mg x = some (.ref f) ∧ ∀ us : List Value, us.length = ps.length → bindArgs fd ⟨us, []⟩ = pure (ps.zip us)
/-- a def that makes defs: its code object's address is told -/
structure DefM (K : PySem.W.Frag) (mg : Str → Option Value) (x : Str) (st : Stmt) (c : Addr) : Prop where
  ex : ∃ (f : Addr) (oc : Value) (od : Option Addr) (kV doc pm : Value) (an : Option Addr) (ct : Value) (osl : Array (Option Value)), K.lookup f = some ⟨oc, od, .func (PySem.W.fnOf x x (defArgs st) (defBody st) (defScope st) .none kV doc pm an (.ref c) ct), osl⟩ ∧
    PySem.W.codeIn K (.ref c) x = true ∧ PySem.W.keepIn K (.ref f) = true ∧ mg x = some (.ref f)
/-- an own class of errors over ValueError, without an __init__ of its own -/
structure ExcF (K : PySem.W.Frag) (C : Addr) : Prop where
  xP : PySem.W.excIn K C [.type "ValueError", .type "Exception", .type "BaseException", .type "object"] "ValueError.__new__" = true
  kP : PySem.W.keepIn K (.ref C) = true
  bP : PySem.W.subIn K (.ref C) (.type "BaseException") = some true
  tP : PySem.W.typeIn K (.ref C) = some (.type "type")
  cP : ExcC K C
  eP : PySem.W.exmOne K (.ref C) (.ref C) = some true
structure ExcX (K : PySem.W.Frag) (mg : Str → Option Value) (x : Str) : Prop where
  ex : ∃ C, mg x = some (.ref C) ∧ ExcF K C
/-- a def that may raise -/
structure CalX (P : Program) (w : World) (K : PySem.W.Frag) (mg : Str → Option Value) (base : Heap) (k : Nat) (x : Str) (sp : Sp) : Prop where
  ex : ∃ (f : Addr) (fd : FuncData) (ps : List Str), FnOk P w K mg base (L2.CX P w) k f fd ps sp ∧ mg x = some (.ref f) ∧ PySem.W.keepIn K (.ref f) = true ∧ Binds K fd ps []
theorem calX_of {P : Program} {w : World} {K : PySem.W.Frag} {mg : Str → Option Value} {base : Heap} {x : Str} {st : Stmt} {N ps : List Str} {k : Nat} {sp : Sp} (D : DefX K mg x st ps) (S : FnScope N ps (defScope st)) (len : ∀ vs H Q E, sp vs H Q E → vs.length = ps.length)
    (hbody : ∀ (f : Addr) (cdv : Value) (A : Around) (outer : List Env) (s : Shared) (H : Hp) (vs : List V) (Q : VK) (E : XK), Room k (A.deeper (envOfC x (defScope st) s.heap.objs.size f cdv)) → sp vs H Q E →
      ∃ t, PSs (cxOf (L2.CX P w) P w K mg base N x (defScope st) f cdv A outer s H E) (defBody st) t ∧ t { nx := fun _ H' => Q .non H', rt := Q } (start N vs) H) : CalX P w K mg base (k + 1) x sp := by
  obtain ⟨f, fd, F, m, b⟩ := D.ex
  exact ⟨f, fd, ps, F.okX S len (hbody f), m, F.kp, .all b⟩
theorem calX_mono {P : Program} {w : World} {K : PySem.W.Frag} {mg : Str → Option Value} {base : Heap} {x : Str} {j k : Nat} {sp : Sp} (c : CalX P w K mg base j x sp) (h : j ≤ k) : CalX P w K mg base k x sp := by
  obtain ⟨f, fd, ps, F, m, kp, b⟩ := c.ex
  exact ⟨f, fd, ps, F.mono h, m, kp, b⟩
/-- x(..) that may raise, within what takes W -/
theorem pe_cx {X : Cx} {k j : Nat} {x : Str} {sp : Sp} {W : WX} {t : TA} {e : Expr} {es : List Expr} {p pos : Pos} (c : CalX X.prog X.w X.K X.mg X.base k x sp) (tk : Takes X W) (hr : Room j X.A) (hk : k ≤ j) (hg : Gl X x) (ha : PA X (e :: es) t)
    (hdb : (x == ("__debug__" : Str)) = false := by decide) (he : starEach (e :: es) X.env = (false, eval e X.env) :: starEach es X.env := by rfl) (hpl : (backTo pos (starEach es X.env)).any (·.1) = false := by rfl) :
    PE X (.Call (.Name x p) (e :: es) [] pos) (tCallS sp (WE W) t) := by
  obtain ⟨f, fd, ps, F, m, kp, b⟩ := c.ex
  exact pe_callS F (hr.mono hk) hg m kp b (fun σ => passAt tk σ) ha hdb he hpl
theorem zc_of {cls : Value} {C : Addr} {d : Option Addr} {oe : Obj} (hz : Zc cls d oe) (h : cls = .ref C ∧ d = none) : Zc (.ref C) none oe := by
  rw [← h.1, ← h.2]
  exact hz
/-- known where the reading is at hand -/
theorem pss_when {X : Cx} {st : List Stmt} {t : TS} {P : Prop} (h : P → PSs X st t) : PSs X st (fun D σ H => P ∧ t D σ H) := ⟨fun pins s σ H D I ⟨p, q⟩ => (h p).run pins s σ H D I q⟩
theorem pe_when {X : Cx} {e : Expr} {t : TE} {P : Prop} (h : P → PE X e t) : PE X e (fun σ H Q => P ∧ t σ H Q) := ⟨fun pins s σ H Q I ⟨p, q⟩ => (h p).run pins s σ H Q I q⟩
/-- raise X('..') -/
theorem ps_raiseX {X : Cx} {W : WX} {x m : Str} {C : Addr} {j : Nat} {p p2 p3 pos : Pos} (F : ExcF X.K C) (gC : X.mg x = some (.ref C)) (hc : X.calm = true) (tk : Takes X W) (hg : Gl X x) (hdb : (x == ("__debug__" : Str)) = false := by decide) :
    PS X (.Raise (some (.Call (.Name x p) [.Constant (.str m) j p2] [] p3)) none pos) (fun _ σ H => W (.ref C) none σ H) :=
  ps_raise hc tk (pmk_own PySem.F.excBase_ValueError F.xP gC F.kP (raises_own F.bP F.tP) hg hdb)
theorem cal_of {P : Program} {w : World} {K : PySem.W.Frag} {mg : Str → Option Value} {base : Heap} {x : Str} {st : Stmt} {N ps : List Str} {k : Nat} {sp : Sp} (D : DefX K mg x st ps) (S : FnScope N ps (defScope st)) (len : ∀ vs H Q E, sp vs H Q E → vs.length = ps.length)
    (hbody : ∀ (f : Addr) (cdv : Value) (A : Around) (outer : List Env) (s : Shared) (H : Hp) (vs : List V) (Q : VK) (E : XK), Room k (A.deeper (envOfC x (defScope st) s.heap.objs.size f cdv)) → sp vs H Q E →
      ∃ t, PSs (cxOf L2.CX0 P w K mg base N x (defScope st) f cdv A outer s H E).nox (defBody st) t ∧ t { nx := fun _ H' => Q .non H', rt := Q } (start N vs) H) : Cal P w K mg base (k + 1) x sp [] := by
  obtain ⟨f, fd, F, m, b⟩ := D.ex
  exact ⟨f, fd, ps, [], F.ok S len (hbody f), m, F.kp, .all b, .nil⟩
/-- the law's own def, for the end -/
theorem law_fn {P : Program} {w : World} {K : PySem.W.Frag} {mg : Str → Option Value} {x p : Str} {st : Stmt} {N : List Str} {k : Nat} {sp : Sp} {fa : Addr} (D : DefX K mg x st [p]) (hfa : mg x = some (.ref fa)) (S : FnScope N [p] (defScope st)) (len : ∀ vs H Q E, sp vs H Q E → vs.length = 1)
    (hbody : ∀ (base : Heap) (f : Addr) (cdv : Value) (A : Around) (outer : List Env) (s : Shared) (H : Hp) (vs : List V) (Q : VK) (E : XK), Room k (A.deeper (envOfC x (defScope st) s.heap.objs.size f cdv)) → sp vs H Q E →
      ∃ t, PSs (cxOf L2.CX0 P w K mg base N x (defScope st) f cdv A outer s H E).nox (defBody st) t ∧ t { nx := fun _ H' => Q .non H', rt := Q } (start N vs) H) :
    ∃ fd : FuncData, (∀ (s : Shared) (v : Value), BindsTo s fd ⟨[v], []⟩ [(p, v)]) ∧ ∀ base : Heap, K.In base → base.Ns mainGlobals mg → FnOk P w K mg base L2.CX0 (k + 1) fa fd [p] sp := by
  obtain ⟨f, fd, F, m, b⟩ := D.ex
  have e := hfa.symm.trans m
  cases e
  exact ⟨fd, fun s v => .of_eq (b [v] rfl), fun base _ _ => F.ok S len (hbody base fa)⟩
theorem cut_to (xs : List V) (n : Nat) : cutV xs none (some (n : Int)) = xs.take n := by
  unfold cutV
  rw [HT.sIx_none, HT.sIx_nat, List.drop_zero, Nat.sub_zero]
  by_cases h : n ≤ xs.length
  · rw [Nat.min_eq_left h]
  · rw [Nat.min_eq_right (by omega), List.take_length, List.take_of_length_le (by omega)]
theorem cut_from (xs : List V) (n : Nat) : cutV xs (some (n : Int)) none = xs.drop n := by
  unfold cutV
  rw [HT.sIx_none, HT.sIx_nat]
  by_cases h : n ≤ xs.length
  · rw [Nat.min_eq_left h, List.take_of_length_le (by rw [List.length_drop]; omega)]
  · rw [Nat.min_eq_right (by omega), List.drop_length, List.drop_eq_nil_of_le (by omega), List.take_nil]
theorem cut_mid {xs : List V} {n m : Nat} (h : n ≤ m) (hm : m ≤ xs.length) : cutV xs (some (n : Int)) (some (m : Int)) = (xs.drop n).take (m - n) := by
  unfold cutV
  rw [HT.sIx_nat, HT.sIx_nat, Nat.min_eq_left hm, Nat.min_eq_left (show n ≤ xs.length by omega)]
theorem take63 {ns : List Int} (h : ns.length ≤ 63) : cutV (ns.map V.int) none (some 63) = ns.map V.int := by
  rw [show (63 : Int) = ((63 : Nat) : Int) from rfl, cut_to, List.take_of_length_le (by rw [List.length_map]; exact h)]
theorem small {n : Nat} (h : n ≤ 1000) : n ≤ sizeLine := Nat.le_of_lt (small1000 h)
theorem same_upd {H : Hp} {p : Addr} {o : HO} (h : H p = none) : Same H (upd H p o) := fun b x e => by
  rw [upd_ne (ne_of_none e h)]
  exact e

/-! ### classes -/
structure MetX (K : PySem.W.Frag) (C : Addr) (m qual : Str) (st : Stmt) (ps : List Str) : Prop where
  ex : ∃ (f : Addr) (fd : FuncData), L2.Fun K m qual st f fd ∧ Meth K C m f ∧ ∀ us : List Value, us.length = ps.length → bindArgs fd ⟨us, []⟩ = pure (ps.zip us)
structure MakX (K : PySem.W.Frag) (C : Addr) (qual : Str) (st : Stmt) (ps : List Str) : Prop where
  ex : ∃ (f : Addr) (fd : FuncData), L2.Fun K "__init__" qual st f fd ∧ Mk K C f ∧ ∀ us : List Value, us.length = ps.length → bindArgs fd ⟨us, []⟩ = pure (ps.zip us)
/-- an __init__ with defaults -/
structure MakD (K : PySem.W.Frag) (C : Addr) (qual : Str) (st : Stmt) (ps : List Str) (dvs : List V) : Prop where
  ex : ∃ (f : Addr) (fd : FuncData), L2.FunD K "__init__" qual (defArgs st) (defBody st) (defScope st) dvs [] f fd ∧ Mk K C f
theorem mak_ofD {P : Program} {w : World} {K : PySem.W.Frag} {mg : Str → Option Value} {base : Heap} {C : Addr} {x qual : Str} {st : Stmt} {N ps : List Str} {dvs : List V} {k : Nat} {sp : Sp} (n j : Nat) (hm : mg x = some (.ref C)) (D : MakD K C qual st ps dvs) (hd : dvs ≠ []) (hn : n + (dvs.length - j) = ps.length)
    (hb : ∀ (T : Addr) (kV doc pm : Value) (an : Option Addr) (cdv ct : Value) (us its : List Value), us.length = n → its.length = dvs.length →
      ∃ k, bindArgs (PySem.W.fnOf "__init__" qual (defArgs st) (defBody st) (defScope st) (.ref T) kV doc pm an cdv ct) ⟨us, []⟩ = seqItems? (.ref T) >>= k ∧ k (some its.toArray) = pure (ps.zip (us ++ its.drop j)))
    (S : FnScope N ps (defScope st)) (len : ∀ vs H Q E, sp vs H Q E → vs.length = ps.length)
    (hbody : ∀ (f : Addr) (cdv : Value) (A : Around) (outer : List Env) (s : Shared) (H : Hp) (vs : List V) (Q : VK) (E : XK), Room k (A.deeper (envOfC qual (defScope st) s.heap.objs.size f cdv)) → sp vs H Q E →
      ∃ t, PSs (cxOf L2.CX0 P w K mg base N qual (defScope st) f cdv A outer s H E).nox (defBody st) t ∧ t { nx := fun _ H' => Q .non H', rt := Q } (start N vs) H) : Mak P w K mg base (k + 1) x C sp (dvs.drop j) := by
  obtain ⟨f, fd, F, M⟩ := D.ex
  obtain ⟨ds, d, b⟩ := F.binds1 n j hd hn hb
  refine ⟨f, fd, ps, ds, M, F.ok S len fun cdv A outer s H vs Q E hr h => ?_, hm, b, d⟩
  obtain ⟨t, h1, h2⟩ := hbody f cdv A outer s H vs Q E hr h
  exact ⟨t, h1.nox, h2⟩
theorem met_of {P : Program} {w : World} {K : PySem.W.Frag} {mg : Str → Option Value} {base : Heap} {C : Addr} {m qual : Str} {st : Stmt} {N ps : List Str} {k : Nat} {sp : Sp} (c : Cls K C) (D : MetX K C m qual st ps) (S : FnScope N ps (defScope st)) (len : ∀ vs H Q E, sp vs H Q E → vs.length = ps.length)
    (hbody : ∀ (f : Addr) (cdv : Value) (A : Around) (outer : List Env) (s : Shared) (H : Hp) (vs : List V) (Q : VK) (E : XK), Room k (A.deeper (envOfC qual (defScope st) s.heap.objs.size f cdv)) → sp vs H Q E →
      ∃ t, PSs (cxOf L2.CX0 P w K mg base N qual (defScope st) f cdv A outer s H E).nox (defBody st) t ∧ t { nx := fun _ H' => Q .non H', rt := Q } (start N vs) H) : Met P w K mg base (k + 1) C m sp [] := by
  obtain ⟨f, fd, F, me, b⟩ := D.ex
  exact ⟨f, fd, ps, [], c, me, F.ok S len (hbody f), .all b, .nil⟩
theorem mak_of {P : Program} {w : World} {K : PySem.W.Frag} {mg : Str → Option Value} {base : Heap} {C : Addr} {x qual : Str} {st : Stmt} {N ps : List Str} {k : Nat} {sp : Sp} (hm : mg x = some (.ref C)) (D : MakX K C qual st ps) (S : FnScope N ps (defScope st)) (len : ∀ vs H Q E, sp vs H Q E → vs.length = ps.length)
    (hbody : ∀ (f : Addr) (cdv : Value) (A : Around) (outer : List Env) (s : Shared) (H : Hp) (vs : List V) (Q : VK) (E : XK), Room k (A.deeper (envOfC qual (defScope st) s.heap.objs.size f cdv)) → sp vs H Q E →
      ∃ t, PSs (cxOf L2.CX0 P w K mg base N qual (defScope st) f cdv A outer s H E).nox (defBody st) t ∧ t { nx := fun _ H' => Q .non H', rt := Q } (start N vs) H) : Mak P w K mg base (k + 1) x C sp [] := by
  obtain ⟨f, fd, F, M, b⟩ := D.ex
  exact ⟨f, fd, ps, [], M, F.ok S len (hbody f), hm, .all b, .nil⟩

/-! ### a method with defaults, as it stands -/
structure MetD (K : PySem.W.Frag) (C : Addr) (m qual : Str) (st : Stmt) (ps : List Str) (dvs : List V) : Prop where
  ex : ∃ (f : Addr) (fd : FuncData), L2.FunD K m qual (defArgs st) (defBody st) (defScope st) dvs [] f fd ∧ Meth K C m f

/-! ### a method read off its class -/
structure ClsM (K : PySem.W.Frag) (mg : Str → Option Value) (C : Addr) (x m qual : Str) (st : Stmt) (ps : List Str) : Prop where
  gC : mg x = some (.ref C)
  ex : ∃ (f : Addr) (fd : FuncData), ClX.CRead K C (.type "type") ∧ PySem.W.findCls K (.ref C) (.type "type") m = some (.val (.ref f)) ∧ L2.Fun K m qual st f fd ∧ PySem.W.keepIn K (.ref f) = true ∧ ∀ us : List Value, us.length = ps.length → bindArgs fd ⟨us, []⟩ = pure (ps.zip us)

/-! ### heaps that grow -/
/-- all that was tracked is as it was, but dicts keyed by tuples may have got more -/
structure Ext (H H' : Hp) : Prop where
  keep : ∀ a o, H a = some o → (∀ kvs, o ≠ .dT kvs) → H' a = some o
  grow : ∀ a kvs, H a = some (.dT kvs) → ∃ more, H' a = some (.dT (kvs ++ more))
theorem Ext.of_same {H H' : Hp} (h : Same H H') : Ext H H' := ⟨fun a o e _ => h a o e, fun a kvs e => ⟨[], by rw [List.append_nil]; exact h a _ e⟩⟩
theorem Ext.refl (H : Hp) : Ext H H := .of_same (Same.refl H)
theorem Ext.trans {H H1 H2 : Hp} (a : Ext H H1) (b : Ext H1 H2) : Ext H H2 := by
  refine ⟨fun x o e n => b.keep x o (a.keep x o e n) n, fun x kvs e => ?_⟩
  obtain ⟨m1, e1⟩ := a.grow x kvs e
  obtain ⟨m2, e2⟩ := b.grow x _ e1
  exact ⟨m1 ++ m2, by rw [e2, List.append_assoc]⟩
theorem Ext.new {H : Hp} {p : Addr} {o : HO} (h : H p = none) : Ext H (upd H p o) := .of_same (same_upd h)
theorem Ext.mut {H H' : Hp} {p : Addr} {o : HO} (e : Ext H H') (h : H p = none) : Ext H (upd H' p o) := by
  refine ⟨fun a u ha n => ?_, fun a kvs ha => ?_⟩
  · rw [upd_ne (ne_of_none ha h)]
    exact e.keep a u ha n
  · rw [upd_ne (ne_of_none ha h)]
    exact e.grow a kvs ha
theorem Ext.free {H H' : Hp} {p : Addr} (e : Ext H H') (h : H' p = none) : H p = none := by
  cases q : H p with
  | none => rfl
  | some o =>
    by_cases n : ∃ kvs, o = .dT kvs
    · obtain ⟨kvs, rfl⟩ := n
      obtain ⟨m, e1⟩ := e.grow p kvs q
      rw [e1] at h
      cases h
    · rw [e.keep p o q fun kvs z => n ⟨kvs, z⟩] at h
      cases h
theorem Ext.lst {H H' : Hp} {a : Addr} {xs : List V} (e : Ext H H') (h : H a = some (.lst xs)) : H' a = some (.lst xs) := e.keep _ _ h fun _ z => nomatch z
theorem Ext.tup {H H' : Hp} {a : Addr} {xs : List V} (e : Ext H H') (h : H a = some (.tup xs)) : H' a = some (.tup xs) := e.keep _ _ h fun _ z => nomatch z
theorem Ext.ins {H H' : Hp} {a C dx : Addr} {fs : List (Str × V)} (e : Ext H H') (h : H a = some (.ins C dx fs)) : H' a = some (.ins C dx fs) := e.keep _ _ h fun _ z => nomatch z
theorem Ext.dK {H H' : Hp} {a : Addr} {kvs : List (Key × V)} (e : Ext H H') (h : H a = some (.dK kvs)) : H' a = some (.dK kvs) := e.keep _ _ h fun _ z => nomatch z
theorem Ext.frz {H H' : Hp} {a : Addr} {o : Obj} {u : HO} (e : Ext H H') (h : H a = some (.frz o u)) : H' a = some (.frz o u) := e.keep _ _ h fun _ z => nomatch z
theorem Ext.seq {K : PySem.W.Frag} {H H' : Hp} {a : Addr} {xs : List V} (e : Ext H H') (h : SqL K H a xs) : SqL K H' a xs := by
  rcases h with (h | ⟨o, h⟩) | h
  · exact .inl (.inl (e.lst h))
  · exact .inl (.inr ⟨o, e.frz h⟩)
  · exact .inr h
theorem Ext.seqT {K : PySem.W.Frag} {H H' : Hp} {a : Addr} {xs : List V} (e : Ext H H') (h : SqT K H a xs) : SqT K H' a xs := by
  rcases h with (h | ⟨o, h⟩) | h
  · exact .inl (.inl (e.tup h))
  · exact .inl (.inr ⟨o, e.frz h⟩)
  · exact .inr h
/-- what the telling of a thing leans on: it is never changed, but dicts keyed by tuples -/
def stat : HO → Prop
  | .lst _ | .dK _ | .ins _ _ _ | .set _ _ | .xd _ => False
  | _ => True
def Kp (H H' : Hp) : Prop := ∀ a o, H a = some o → stat o → H' a = some o
structure Gr (H H' : Hp) : Prop where
  keep : ∀ a o, H a = some o → stat o → (∀ kvs, o ≠ .dT kvs) → H' a = some o
  grow : ∀ a kvs, H a = some (.dT kvs) → ∃ more, H' a = some (.dT (kvs ++ more))
theorem Ext.gr {H H' : Hp} (e : Ext H H') : Gr H H' := ⟨fun a o h _ n => e.keep a o h n, e.grow⟩
theorem Kp.gr {H H' : Hp} (e : Kp H H') : Gr H H' := ⟨fun a o h s _ => e a o h s, fun a kvs h => ⟨[], by rw [List.append_nil]; exact e a _ h True.intro⟩⟩
theorem Kp.refl (H : Hp) : Kp H H := fun _ _ h _ => h
theorem Kp.trans {H H1 H2 : Hp} (a : Kp H H1) (b : Kp H1 H2) : Kp H H2 := fun c o h s => b c o (a c o h s) s
theorem Gr.refl (H : Hp) : Gr H H := (Kp.refl H).gr
theorem Gr.trans {H H1 H2 : Hp} (a : Gr H H1) (b : Gr H1 H2) : Gr H H2 := by
  refine ⟨fun x o e s n => b.keep x o (a.keep x o e s n) s n, fun x kvs e => ?_⟩
  obtain ⟨m1, e1⟩ := a.grow x kvs e
  obtain ⟨m2, e2⟩ := b.grow x _ e1
  exact ⟨m1 ++ m2, by rw [e2, List.append_assoc]⟩
theorem Kp.new {H : Hp} {p : Addr} {o : HO} (h : H p = none) : Kp H (upd H p o) := fun a u e _ => by
  rw [upd_ne (ne_of_none e h)]
  exact e
theorem Kp.lst {H : Hp} {p : Addr} {o : HO} {xs : List V} (h : H p = some (.lst xs)) : Kp H (upd H p o) := fun a u e s => by
  by_cases q : a = p
  · subst q
    rw [h] at e
    cases e
    exact s.elim
  · rw [upd_ne q]
    exact e
theorem Kp.ins {H : Hp} {p C dx : Addr} {o : HO} {fs : List (Str × V)} (h : H p = some (.ins C dx fs)) : Kp H (upd H p o) := fun a u e s => by
  by_cases q : a = p
  · subst q
    rw [h] at e
    cases e
    exact s.elim
  · rw [upd_ne q]
    exact e
theorem Kp.dK {H : Hp} {p : Addr} {o : HO} {kvs : List (Key × V)} (h : H p = some (.dK kvs)) : Kp H (upd H p o) := fun a u e s => by
  by_cases q : a = p
  · subst q
    rw [h] at e
    cases e
    exact s.elim
  · rw [upd_ne q]
    exact e
/-! ### free terms, and seals -/
inductive Tm where
  | int (i : Int)
  | str (x : Str)
  | sl (m : Str) (a b : Tm)
  deriving DecidableEq
def Tm.dep : Tm → Nat
  | .int _ | .str _ => 0
  | .sl _ a b => max a.dep b.dep + 1
abbrev txtOk (x : Str) : Bool := PySem.PyData.strOk x
/-- a seal: its function, what its values tell, its state (so many more things may be told) -/
structure Sys where
  f : Addr
  den : Hp → V → Tm → Prop
  ok : Hp → Nat → Prop
structure Sys.Good (K : PySem.W.Frag) (S : Sys) : Prop where
  mono : ∀ {H H' : Hp} {v : V} {t : Tm}, Gr H H' → S.den H v t → S.den H' v t
  keep : ∀ {H H' : Hp} {r : Nat}, Kp H H' → S.ok H r → S.ok H' r
  less : ∀ {H : Hp} {r r' : Nat}, S.ok H r → r' ≤ r → S.ok H r'
  int : ∀ {H : Hp} {r : Nat} (i : Int), S.ok H r → S.den H (.int i) (.int i)
  str : ∀ {H : Hp} {r : Nat} (x : Str), S.ok H r → txtOk x = true → S.den H (.str x) (.str x)
  same : ∀ {H : Hp} {v v' : V} {t : Tm}, S.den H v t → S.den H v' t → ∃ d, Dp K H v d ∧ Dp K H v' d ∧ d.canLay0 = true ∧ d.depth ≤ t.dep
def spSl (S : Sys) : Sp := fun vs H Q _ => ∃ (r : Nat) (m : Str) (a b : Tm) (va vb : V), vs = [.str m, va, vb] ∧ txtOk m = true ∧ S.ok H (r + 1) ∧ S.den H va a ∧ S.den H vb b ∧
  ∀ v H', Ext H H' → S.ok H' r → S.den H' v (.sl m a b) → Q v H'
structure HeldSl (P : Program) (w : World) (K : PySem.W.Frag) (mg : Str → Option Value) (base : Heap) (k : Nat) (S : Sys) : Prop where
  at_ : ∀ (H : Hp) (h : Heap) (r : Nat), K.In h → HOk P w H h → S.ok H r → PySem.W.FnAt S.f h
  run : ∀ (A : Around) (outer : List Env) (s : Shared) (H : Hp) (us : List Value) (vs : List V) (Q : VK) (E : XK), Room k A → Env0 P w K mg base A outer s H → Vals vs us → spSl S vs H Q E →
    codeAny (model P w) A (.call (.ref S.f) ⟨us, []⟩) (CR L2.CX0 outer P w H s Q E) s
/-- of a family of seals: each is good, and its calls keep the promise -/
structure SlA (P : Program) (w : World) (K : PySem.W.Frag) (mg : Str → Option Value) (base : Heap) (Fam : Sys → Prop) : Prop where
  good : ∀ {S : Sys}, Fam S → S.Good K
  held : ∀ S, Fam S → HeldSl P w K mg base 1 S
/-- x(..), x a name that holds a seal -/
def tSl (Fam : Sys → Prop) (i : Nat) (t : TA) : TE := fun σ H Q => ∃ (S : Sys) (r : Nat), Fam S ∧ σ[i]? = some (some (.ref S.f)) ∧ S.ok H r ∧ t σ H fun vs H1 => spSl S vs H1 Q L2.E0
section
variable {X : Cx} {i j k : Nat} {x : Str} {p pos : Pos} {e : Expr} {es : List Expr} {t : TA} {Fam : Sys → Prop}
theorem pe_sl (A : ∀ S, Fam S → HeldSl X.prog X.w X.K X.mg X.base k S) (hr : Room j X.A) (hk : k ≤ j) (hN : X.N[i]? = some x) (hv : Vis X.env.scope x) (ha : PA X (e :: es) t)
    (hdb : (x == ("__debug__" : Str)) = false := by decide) (hcd : (x == ("__classdict__" : Str)) = false := by decide)
    (he : starEach (e :: es) X.env = (false, eval e X.env) :: starEach es X.env := by rfl) (hpl : (backTo pos (starEach es X.env)).any (·.1) = false := by rfl) : PE X (.Call (.Name x p) (e :: es) [] pos) (tSl Fam i t) := by
  refine ⟨fun pins s σ H Q I h => ?_⟩
  obtain ⟨S, r, hS, hs, hok, ht⟩ := h
  refine wpAny_Call_Name_kw (thn ((pe_var (pos := p) hN hv hdb hcd).run pins s σ H (fun v H1 => v = .ref S.f ∧ H1 = H) I ⟨.ref S.f, hs, rfl, rfl⟩) fun u s1 ⟨v, H1, I1, r1, q1⟩ => ?_)
  obtain ⟨rfl, rfl⟩ := q1
  cases r1
  refine PySem.W.callWith_F ((A S hS).at_ _ _ _ I1.kIn I1.hok hok) (thn (ha.run pos pins s1 σ _ _ I1 ht) fun us s2 ⟨vs, H2, I2, rv, q⟩ => ?_) he hpl
  obtain ⟨r', m, a, b, va, vb, e1, e2, e3, q'⟩ := id q
  refine ⟨(A S hS).at_ _ _ _ I2.kIn I2.hok e3, ?_⟩
  refine wpAny_call (codeAny_mono ((A S hS).run X.A X.stack s2 H2 us vs Q L2.E0 (hr.mono hk) I2.env0 rv q) fun r s' hq => ?_)
  cases r with
  | error e => exact False.elim hq
  | ok fl =>
    cases fl with
    | ret u => exact I2.after hq
    | next => exact False.elim hq
    | brk => exact False.elim hq
    | cont => exact False.elim hq
end
/-! ### rows of told things -/
structure DenL (S : Sys) (H : Hp) (vs : List V) (ts : List Tm) : Prop where
  len : vs.length = ts.length
  at_ : ∀ (i : Nat) (v : V) (t : Tm), vs[i]? = some v → ts[i]? = some t → S.den H v t
section
variable {S : Sys} {K : PySem.W.Frag} {H H' : Hp} {vs us : List V} {ts rs : List Tm}
theorem DenL.mono (G : S.Good K) (e : Gr H H') (h : DenL S H vs ts) : DenL S H' vs ts := ⟨h.len, fun i v t a b => G.mono e (h.at_ i v t a b)⟩
theorem DenL.nil : DenL S H [] [] := ⟨rfl, fun i v t a _ => by simp at a⟩
theorem DenL.append (h : DenL S H vs ts) (h' : DenL S H us rs) : DenL S H (vs ++ us) (ts ++ rs) := by
  refine ⟨by rw [List.length_append, List.length_append, h.len, h'.len], fun i v t a b => ?_⟩
  have hl := h.len
  by_cases q : i < vs.length
  · rw [List.getElem?_append_left q] at a
    rw [List.getElem?_append_left (by omega)] at b
    exact h.at_ i v t a b
  · rw [List.getElem?_append_right (by omega)] at a b
    rw [← hl] at b
    exact h'.at_ _ v t a b
theorem DenL.one {v : V} {t : Tm} (h : S.den H v t) : DenL S H [v] [t] := by
  refine ⟨rfl, fun i u r a b => ?_⟩
  cases i with
  | zero =>
    cases a
    cases b
    exact h
  | succ i => simp at a
theorem DenL.cons {v : V} {t : Tm} (h : S.den H v t) (h' : DenL S H vs ts) : DenL S H (v :: vs) (t :: ts) := (DenL.one h).append h'
theorem DenL.take (n : Nat) (h : DenL S H vs ts) : DenL S H (vs.take n) (ts.take n) := by
  refine ⟨by rw [List.length_take, List.length_take, h.len], fun i v t a b => ?_⟩
  rw [List.getElem?_take] at a b
  split at a
  · rename_i q
    rw [if_pos q] at b
    exact h.at_ i v t a b
  · cases a
theorem DenL.drop (n : Nat) (h : DenL S H vs ts) : DenL S H (vs.drop n) (ts.drop n) := by
  refine ⟨by rw [List.length_drop, List.length_drop, h.len], fun i v t a b => ?_⟩
  rw [List.getElem?_drop] at a b
  exact h.at_ _ v t a b
theorem DenL.get (h : DenL S H vs ts) {i : Nat} (hi : i < ts.length) : ∃ v, vs[i]? = some v ∧ S.den H v ts[i] := by
  have hl := h.len
  have hv : i < vs.length := by omega
  exact ⟨vs[i], List.getElem?_eq_getElem hv, h.at_ i _ _ (List.getElem?_eq_getElem hv) (List.getElem?_eq_getElem hi)⟩
/-- the same row told twice -/
theorem DenL.same (G : S.Good K) {n : Nat} : ∀ {vs us : List V} {ts : List Tm}, DenL S H vs ts → DenL S H us ts → (∀ t ∈ ts, t.dep ≤ n) → ∃ ds, DpAll K H vs ds ∧ DpAll K H us ds ∧ PyData.canLayAll0 ds = true ∧ PyData.depthAll ds ≤ n
  | vs, us, [], h, h', _ => by
    have e1 : vs = [] := List.eq_nil_of_length_eq_zero h.len
    have e2 : us = [] := List.eq_nil_of_length_eq_zero h'.len
    subst e1
    subst e2
    exact ⟨[], .nil, .nil, rfl, Nat.zero_le _⟩
  | [], us, t :: ts, h, _, _ => absurd h.len (by simp)
  | v :: vs, [], t :: ts, _, h, _ => absurd h.len (by simp)
  | v :: vs, u :: us, t :: ts, h, h', hd => by
    obtain ⟨d, a1, a2, a3, a4⟩ := G.same (h.at_ 0 v t rfl rfl) (h'.at_ 0 u t rfl rfl)
    have t1 : DenL S H vs ts := h.drop 1
    have t2 : DenL S H us ts := h'.drop 1
    obtain ⟨ds, b1, b2, b3, b4⟩ := DenL.same G t1 t2 fun x hx => hd x (List.mem_cons_of_mem _ hx)
    refine ⟨d :: ds, .cons a1 b1, .cons a2 b2, ?_, ?_⟩
    · rw [PyData.canLayAll0, a3, b3]
      rfl
    · have := hd t List.mem_cons_self
      show max d.depth (PyData.depthAll ds) ≤ n
      omega
end

structure Zs (mg : Str → Option Value) : Prop where
  len : mg "len" = none
  isinstance : mg "isinstance" = none
  int : mg "int" = none
  bool : mg "bool" = none
  list : mg "list" = none
  tuple : mg "tuple" = none
  str : mg "str" = none
  range : mg "range" = none
  reversed : mg "reversed" = none
  min : mg "min" = none
  all : mg "all" = none
  sum : mg "sum" = none
structure K_Stands (K : PySem.W.Frag) (mg : Str → Option Value) (C : Addr) : Prop where
  mgC : mg "Stands" = some (.ref C)
  cl : Cls K C
  n_place : NoAttr K C "place"
  n_words : NoAttr K C "words"
  n_table : NoAttr K C "table"
  ia_ : PySem.W.findIn K (.ref C) "__class__" = some (some (.builtin "object.__class__"))
  in_ : PySem.W.specialIn K (.builtin "object.__class__") "__get__" = some (some (.builtin "getset_descriptor.__get__"))
  it_ : PySem.W.takesIn K (.builtin "object.__class__") = some true
  im_ : PySem.W.mroIn K C (.type "object") = some true
  made : MakX K C "Stands.__init__" s_Stands___init__ ["self", "place", "text", "table"]
  m_shown : MetX K C "shown" "Stands.shown" s_Stands_shown ["self", "seal", "size", "head", "paper"]
  m_judged : MetX K C "judged" "Claim.judged" s_Claim_judged ["self", "seal", "size", "head", "paper"]
structure K_Grows (K : PySem.W.Frag) (mg : Str → Option Value) (C : Addr) : Prop where
  mgC : mg "Grows" = some (.ref C)
  cl : Cls K C
  n_old : NoAttr K C "old"
  n_before : NoAttr K C "before"
  ia_ : PySem.W.findIn K (.ref C) "__class__" = some (some (.builtin "object.__class__"))
  in_ : PySem.W.specialIn K (.builtin "object.__class__") "__get__" = some (some (.builtin "getset_descriptor.__get__"))
  it_ : PySem.W.takesIn K (.builtin "object.__class__") = some true
  im_ : PySem.W.mroIn K C (.type "object") = some true
  made : MakX K C "Grows.__init__" s_Grows___init__ ["self", "old", "head"]
  m_shown : MetX K C "shown" "Grows.shown" s_Grows_shown ["self", "seal", "size", "head", "paper"]
  m_judged : MetX K C "judged" "Claim.judged" s_Claim_judged ["self", "seal", "size", "head", "paper"]
structure K_Holds (K : PySem.W.Frag) (mg : Str → Option Value) (C : Addr) : Prop where
  mgC : mg "Holds" = some (.ref C)
  cl : Cls K C
  n_place : NoAttr K C "place"
  n_key : NoAttr K C "key"
  n_depth : NoAttr K C "depth"
  n_said : NoAttr K C "said"
  ia_ : PySem.W.findIn K (.ref C) "__class__" = some (some (.builtin "object.__class__"))
  in_ : PySem.W.specialIn K (.builtin "object.__class__") "__get__" = some (some (.builtin "getset_descriptor.__get__"))
  it_ : PySem.W.takesIn K (.builtin "object.__class__") = some true
  im_ : PySem.W.mroIn K C (.type "object") = some true
  made : MakX K C "Holds.__init__" s_Holds___init__ ["self", "place", "key", "value", "depth"]
  m_ends : MetX K C "ends" "Holds.ends" s_Holds_ends ["self", "end"]
  m_shown : MetX K C "shown" "Behind.shown" s_Behind_shown ["self", "seal", "size", "head", "paper"]
  m_judged : MetX K C "judged" "Claim.judged" s_Claim_judged ["self", "seal", "size", "head", "paper"]
structure K_Lacks (K : PySem.W.Frag) (mg : Str → Option Value) (C : Addr) : Prop where
  mgC : mg "Lacks" = some (.ref C)
  cl : Cls K C
  n_place : NoAttr K C "place"
  n_key : NoAttr K C "key"
  n_depth : NoAttr K C "depth"
  ia_ : PySem.W.findIn K (.ref C) "__class__" = some (some (.builtin "object.__class__"))
  in_ : PySem.W.specialIn K (.builtin "object.__class__") "__get__" = some (some (.builtin "getset_descriptor.__get__"))
  it_ : PySem.W.takesIn K (.builtin "object.__class__") = some true
  im_ : PySem.W.mroIn K C (.type "object") = some true
  m_ends : MetX K C "ends" "Lacks.ends" s_Lacks_ends ["self", "end"]
  made : MakX K C "Behind.__init__" s_Behind___init__ ["self", "place", "key", "depth"]
  m_shown : MetX K C "shown" "Behind.shown" s_Behind_shown ["self", "seal", "size", "head", "paper"]
  m_judged : MetX K C "judged" "Claim.judged" s_Claim_judged ["self", "seal", "size", "head", "paper"]
structure Txt (K : PySem.W.Frag) (mg : Str → Option Value) (cc : Addr) : Prop where
  d_split : DefX K mg "split" s_split ["size"]
  d_none_seal : DefX K mg "none_seal" s_none_seal ["seal"]
  d_leaf_seal : DefX K mg "leaf_seal" s_leaf_seal ["seal", "text", "table"]
  d_pair_seal : DefX K mg "pair_seal" s_pair_seal ["seal", "left", "right"]
  d_book_seal : DefX K mg "book_seal" s_book_seal ["seal", "size", "top"]
  d_last_of : DefX K mg "last_of" s_last_of ["paper"]
  d_risen : DefX K mg "risen" s_risen ["seal", "leaf", "place", "size", "path"]
  d_regrown : DefX K mg "regrown" s_regrown ["seal", "old", "size", "paper"]
  d_table_seal : DefX K mg "table_seal" s_table_seal ["seal", "depth", "top"]
  d_climbed : DefX K mg "climbed" s_climbed ["seal", "key", "depth", "way"]
  d__law_seal : DefX K mg "_law_seal" s__law_seal ["_law_mark", "_law_one", "_law_two"]
  d__law_draw : DefX K mg "_law_draw" s__law_draw ["_law_cell", "_law_k", "_law_many"]
  d__law_some : DefX K mg "_law_some" s__law_some ["_law_cell", "_law_k"]
  d__law_split : DefX K mg "_law_split" s__law_split ["_law_size"]
  d__law_risen : DefX K mg "_law_risen" s__law_risen ["_law_leaf", "_law_place", "_law_size", "_law_tops", "_law_at"]
  d__law_regrown : DefX K mg "_law_regrown" s__law_regrown ["_law_old", "_law_size", "_law_tops", "_law_at"]
  d__law_stands : DefX K mg "_law_stands" s__law_stands ["_law_cell"]
  d__law_grows : DefX K mg "_law_grows" s__law_grows ["_law_cell"]
  d__law_tree : DefX K mg "_law_tree" s__law_tree ["_law_cell", "_law_depth"]
  d__law_down : DefX K mg "_law_down" s__law_down ["_law_tree_here", "_law_key", "_law_depth"]
  d__law_keys : DefX K mg "_law_keys" s__law_keys ["_law_cell"]
  d__law_top : DefX K mg "_law_top" s__law_top ["_law_leaves"]
  d__law_path : DefX K mg "_law_path" s__law_path ["_law_leaves", "_law_place"]
  d__law_growth : DefX K mg "_law_growth" s__law_growth ["_law_leaves", "_law_old"]
  d__law_is : DefX K mg "_law_is" s__law_is ["_law_claim", "_law_size", "_law_head", "_law_paper", "_law_due"]
  d__law_true : DefX K mg "_law_true" s__law_true ["_law_cell"]
  d__law_narrow : DefX K mg "_law_narrow" s__law_narrow ["_law_mark", "_law_one", "_law_two"]
  d__law_far_right : DefX K mg "_law_far_right" s__law_far_right ["_law_cell"]
  d_law : DefX K mg "law" s_law ["_law_script"]
  g_Claim : ∃ C, mg "Claim" = some (.ref C)
  x_BadPaper : ExcX K mg "BadPaper"
  c_Behind___init__ : ∃ C, ClsM K mg C "Behind" "__init__" "Behind.__init__" s_Behind___init__ ["self", "place", "key", "depth"]
  k_Stands : ∃ C, K_Stands K mg C
  k_Grows : ∃ C, K_Grows K mg C
  k_Holds : ∃ C, K_Holds K mg C
  k_Lacks : ∃ C, K_Lacks K mg C
  Z : Zs mg
theorem txt_mk {K : PySem.W.Frag} {h : Heap} {mg : Str → Option Value} (X : K.In h) (G : h.Ns mainGlobals mg) {cc f0 f1 f2 f3 f4 f5 f6 f7 f8 f9 f10 f11 f12 f13 f14 f15 f16 f17 f18 f19 f20 f21 f22 f23 f24 f25 f26 f27 f28 C_Claim C_BadPaper C_Behind C_Stands C_Grows C_Holds C_Lacks fMBehind fStands0 fStands1 fStands2 fGrows0 fGrows1 fGrows2 fHolds0 fHolds1 fHolds2 fHolds3 fLacks0 fLacks1 fLacks2 fLacks3 : Addr} {od0 an0 od1 an1 od2 an2 od3 an3 od4 an4 od5 an5 od6 an6 od7 an7 od8 an8 od9 an9 od10 an10 od11 an11 od12 an12 od13 an13 od14 an14 od15 an15 od16 an16 od17 an17 od18 an18 od19 an19 od20 an20 od21 an21 od22 an22 od23 an23 od24 an24 od25 an25 od26 an26 od27 an27 od28 an28 odMBehind anMBehind odStands0 anStands0 odStands1 anStands1 odStands2 anStands2 odGrows0 anGrows0 odGrows1 anGrows1 odGrows2 anGrows2 odHolds0 anHolds0 odHolds1 anHolds1 odHolds2 anHolds2 odHolds3 anHolds3 odLacks0 anLacks0 odLacks1 anLacks1 odLacks2 anLacks2 odLacks3 anLacks3 : Option Addr} {sl0 sl1 sl2 sl3 sl4 sl5 sl6 sl7 sl8 sl9 sl10 sl11 sl12 sl13 sl14 sl15 sl16 sl17 sl18 sl19 sl20 sl21 sl22 sl23 sl24 sl25 sl26 sl27 sl28 slMBehind slStands0 slStands1 slStands2 slGrows0 slGrows1 slGrows2 slHolds0 slHolds1 slHolds2 slHolds3 slLacks0 slLacks1 slLacks2 slLacks3 : Array (Option Value)} {oc0 kV0 dc0 pm0 cd0 ct0 oc1 kV1 dc1 pm1 cd1 ct1 oc2 kV2 dc2 pm2 cd2 ct2 oc3 kV3 dc3 pm3 cd3 ct3 oc4 kV4 dc4 pm4 cd4 ct4 oc5 kV5 dc5 pm5 cd5 ct5 oc6 kV6 dc6 pm6 cd6 ct6 oc7 kV7 dc7 pm7 cd7 ct7 oc8 kV8 dc8 pm8 cd8 ct8 oc9 kV9 dc9 pm9 cd9 ct9 oc10 kV10 dc10 pm10 cd10 ct10 oc11 kV11 dc11 pm11 cd11 ct11 oc12 kV12 dc12 pm12 cd12 ct12 oc13 kV13 dc13 pm13 cd13 ct13 oc14 kV14 dc14 pm14 cd14 ct14 oc15 kV15 dc15 pm15 cd15 ct15 oc16 kV16 dc16 pm16 cd16 ct16 oc17 kV17 dc17 pm17 cd17 ct17 oc18 kV18 dc18 pm18 cd18 ct18 oc19 kV19 dc19 pm19 cd19 ct19 oc20 kV20 dc20 pm20 cd20 ct20 oc21 kV21 dc21 pm21 cd21 ct21 oc22 kV22 dc22 pm22 cd22 ct22 oc23 kV23 dc23 pm23 cd23 ct23 oc24 kV24 dc24 pm24 cd24 ct24 oc25 kV25 dc25 pm25 cd25 ct25 oc26 kV26 dc26 pm26 cd26 ct26 oc27 kV27 dc27 pm27 cd27 ct27 oc28 kV28 dc28 pm28 cd28 ct28 ocMBehind kVMBehind dcMBehind pmMBehind cdMBehind ctMBehind ocStands0 kVStands0 dcStands0 pmStands0 cdStands0 ctStands0 ocStands1 kVStands1 dcStands1 pmStands1 cdStands1 ctStands1 ocStands2 kVStands2 dcStands2 pmStands2 cdStands2 ctStands2 ocGrows0 kVGrows0 dcGrows0 pmGrows0 cdGrows0 ctGrows0 ocGrows1 kVGrows1 dcGrows1 pmGrows1 cdGrows1 ctGrows1 ocGrows2 kVGrows2 dcGrows2 pmGrows2 cdGrows2 ctGrows2 ocHolds0 kVHolds0 dcHolds0 pmHolds0 cdHolds0 ctHolds0 ocHolds1 kVHolds1 dcHolds1 pmHolds1 cdHolds1 ctHolds1 ocHolds2 kVHolds2 dcHolds2 pmHolds2 cdHolds2 ctHolds2 ocHolds3 kVHolds3 dcHolds3 pmHolds3 cdHolds3 ctHolds3 ocLacks0 kVLacks0 dcLacks0 pmLacks0 cdLacks0 ctLacks0 ocLacks1 kVLacks1 dcLacks1 pmLacks1 cdLacks1 ctLacks1 ocLacks2 kVLacks2 dcLacks2 pmLacks2 cdLacks2 ctLacks2 ocLacks3 kVLacks3 dcLacks3 pmLacks3 cdLacks3 ctLacks3 : Value}
    (a0 : PySem.W.nsIn K mainGlobals "split" = some (some (.ref f0))) (l0 : K.lookup f0 = some ⟨oc0, od0, .func (PySem.W.fnOf "split" "split" (defArgs s_split) (defBody s_split) (defScope s_split) .none kV0 dc0 pm0 an0 cd0 ct0), sl0⟩) (c0 : PySem.W.codeIn K cd0 "split" = true) (k0 : PySem.W.keepIn K (.ref f0) = true)
    (a1 : PySem.W.nsIn K mainGlobals "none_seal" = some (some (.ref f1))) (l1 : K.lookup f1 = some ⟨oc1, od1, .func (PySem.W.fnOf "none_seal" "none_seal" (defArgs s_none_seal) (defBody s_none_seal) (defScope s_none_seal) .none kV1 dc1 pm1 an1 cd1 ct1), sl1⟩) (c1 : PySem.W.codeIn K cd1 "none_seal" = true) (k1 : PySem.W.keepIn K (.ref f1) = true)
    (a2 : PySem.W.nsIn K mainGlobals "leaf_seal" = some (some (.ref f2))) (l2 : K.lookup f2 = some ⟨oc2, od2, .func (PySem.W.fnOf "leaf_seal" "leaf_seal" (defArgs s_leaf_seal) (defBody s_leaf_seal) (defScope s_leaf_seal) .none kV2 dc2 pm2 an2 cd2 ct2), sl2⟩) (c2 : PySem.W.codeIn K cd2 "leaf_seal" = true) (k2 : PySem.W.keepIn K (.ref f2) = true)
    (a3 : PySem.W.nsIn K mainGlobals "pair_seal" = some (some (.ref f3))) (l3 : K.lookup f3 = some ⟨oc3, od3, .func (PySem.W.fnOf "pair_seal" "pair_seal" (defArgs s_pair_seal) (defBody s_pair_seal) (defScope s_pair_seal) .none kV3 dc3 pm3 an3 cd3 ct3), sl3⟩) (c3 : PySem.W.codeIn K cd3 "pair_seal" = true) (k3 : PySem.W.keepIn K (.ref f3) = true)
    (a4 : PySem.W.nsIn K mainGlobals "book_seal" = some (some (.ref f4))) (l4 : K.lookup f4 = some ⟨oc4, od4, .func (PySem.W.fnOf "book_seal" "book_seal" (defArgs s_book_seal) (defBody s_book_seal) (defScope s_book_seal) .none kV4 dc4 pm4 an4 cd4 ct4), sl4⟩) (c4 : PySem.W.codeIn K cd4 "book_seal" = true) (k4 : PySem.W.keepIn K (.ref f4) = true)
    (a5 : PySem.W.nsIn K mainGlobals "last_of" = some (some (.ref f5))) (l5 : K.lookup f5 = some ⟨oc5, od5, .func (PySem.W.fnOf "last_of" "last_of" (defArgs s_last_of) (defBody s_last_of) (defScope s_last_of) .none kV5 dc5 pm5 an5 cd5 ct5), sl5⟩) (c5 : PySem.W.codeIn K cd5 "last_of" = true) (k5 : PySem.W.keepIn K (.ref f5) = true)
    (a6 : PySem.W.nsIn K mainGlobals "risen" = some (some (.ref f6))) (l6 : K.lookup f6 = some ⟨oc6, od6, .func (PySem.W.fnOf "risen" "risen" (defArgs s_risen) (defBody s_risen) (defScope s_risen) .none kV6 dc6 pm6 an6 cd6 ct6), sl6⟩) (c6 : PySem.W.codeIn K cd6 "risen" = true) (k6 : PySem.W.keepIn K (.ref f6) = true)
    (a7 : PySem.W.nsIn K mainGlobals "regrown" = some (some (.ref f7))) (l7 : K.lookup f7 = some ⟨oc7, od7, .func (PySem.W.fnOf "regrown" "regrown" (defArgs s_regrown) (defBody s_regrown) (defScope s_regrown) .none kV7 dc7 pm7 an7 cd7 ct7), sl7⟩) (c7 : PySem.W.codeIn K cd7 "regrown" = true) (k7 : PySem.W.keepIn K (.ref f7) = true)
    (a8 : PySem.W.nsIn K mainGlobals "table_seal" = some (some (.ref f8))) (l8 : K.lookup f8 = some ⟨oc8, od8, .func (PySem.W.fnOf "table_seal" "table_seal" (defArgs s_table_seal) (defBody s_table_seal) (defScope s_table_seal) .none kV8 dc8 pm8 an8 cd8 ct8), sl8⟩) (c8 : PySem.W.codeIn K cd8 "table_seal" = true) (k8 : PySem.W.keepIn K (.ref f8) = true)
    (a9 : PySem.W.nsIn K mainGlobals "climbed" = some (some (.ref f9))) (l9 : K.lookup f9 = some ⟨oc9, od9, .func (PySem.W.fnOf "climbed" "climbed" (defArgs s_climbed) (defBody s_climbed) (defScope s_climbed) .none kV9 dc9 pm9 an9 cd9 ct9), sl9⟩) (c9 : PySem.W.codeIn K cd9 "climbed" = true) (k9 : PySem.W.keepIn K (.ref f9) = true)
    (a10 : PySem.W.nsIn K mainGlobals "_law_seal" = some (some (.ref f10))) (l10 : K.lookup f10 = some ⟨oc10, od10, .func (PySem.W.fnOf "_law_seal" "_law_seal" (defArgs s__law_seal) (defBody s__law_seal) (defScope s__law_seal) .none kV10 dc10 pm10 an10 cd10 ct10), sl10⟩) (c10 : PySem.W.codeIn K cd10 "_law_seal" = true) (k10 : PySem.W.keepIn K (.ref f10) = true)
    (a11 : PySem.W.nsIn K mainGlobals "_law_draw" = some (some (.ref f11))) (l11 : K.lookup f11 = some ⟨oc11, od11, .func (PySem.W.fnOf "_law_draw" "_law_draw" (defArgs s__law_draw) (defBody s__law_draw) (defScope s__law_draw) .none kV11 dc11 pm11 an11 cd11 ct11), sl11⟩) (c11 : PySem.W.codeIn K cd11 "_law_draw" = true) (k11 : PySem.W.keepIn K (.ref f11) = true)
    (a12 : PySem.W.nsIn K mainGlobals "_law_some" = some (some (.ref f12))) (l12 : K.lookup f12 = some ⟨oc12, od12, .func (PySem.W.fnOf "_law_some" "_law_some" (defArgs s__law_some) (defBody s__law_some) (defScope s__law_some) .none kV12 dc12 pm12 an12 cd12 ct12), sl12⟩) (c12 : PySem.W.codeIn K cd12 "_law_some" = true) (k12 : PySem.W.keepIn K (.ref f12) = true)
    (a13 : PySem.W.nsIn K mainGlobals "_law_split" = some (some (.ref f13))) (l13 : K.lookup f13 = some ⟨oc13, od13, .func (PySem.W.fnOf "_law_split" "_law_split" (defArgs s__law_split) (defBody s__law_split) (defScope s__law_split) .none kV13 dc13 pm13 an13 cd13 ct13), sl13⟩) (c13 : PySem.W.codeIn K cd13 "_law_split" = true) (k13 : PySem.W.keepIn K (.ref f13) = true)
    (a14 : PySem.W.nsIn K mainGlobals "_law_risen" = some (some (.ref f14))) (l14 : K.lookup f14 = some ⟨oc14, od14, .func (PySem.W.fnOf "_law_risen" "_law_risen" (defArgs s__law_risen) (defBody s__law_risen) (defScope s__law_risen) .none kV14 dc14 pm14 an14 cd14 ct14), sl14⟩) (c14 : PySem.W.codeIn K cd14 "_law_risen" = true) (k14 : PySem.W.keepIn K (.ref f14) = true)
    (a15 : PySem.W.nsIn K mainGlobals "_law_regrown" = some (some (.ref f15))) (l15 : K.lookup f15 = some ⟨oc15, od15, .func (PySem.W.fnOf "_law_regrown" "_law_regrown" (defArgs s__law_regrown) (defBody s__law_regrown) (defScope s__law_regrown) .none kV15 dc15 pm15 an15 cd15 ct15), sl15⟩) (c15 : PySem.W.codeIn K cd15 "_law_regrown" = true) (k15 : PySem.W.keepIn K (.ref f15) = true)
    (a16 : PySem.W.nsIn K mainGlobals "_law_stands" = some (some (.ref f16))) (l16 : K.lookup f16 = some ⟨oc16, od16, .func (PySem.W.fnOf "_law_stands" "_law_stands" (defArgs s__law_stands) (defBody s__law_stands) (defScope s__law_stands) .none kV16 dc16 pm16 an16 cd16 ct16), sl16⟩) (c16 : PySem.W.codeIn K cd16 "_law_stands" = true) (k16 : PySem.W.keepIn K (.ref f16) = true)
    (a17 : PySem.W.nsIn K mainGlobals "_law_grows" = some (some (.ref f17))) (l17 : K.lookup f17 = some ⟨oc17, od17, .func (PySem.W.fnOf "_law_grows" "_law_grows" (defArgs s__law_grows) (defBody s__law_grows) (defScope s__law_grows) .none kV17 dc17 pm17 an17 cd17 ct17), sl17⟩) (c17 : PySem.W.codeIn K cd17 "_law_grows" = true) (k17 : PySem.W.keepIn K (.ref f17) = true)
    (a18 : PySem.W.nsIn K mainGlobals "_law_tree" = some (some (.ref f18))) (l18 : K.lookup f18 = some ⟨oc18, od18, .func (PySem.W.fnOf "_law_tree" "_law_tree" (defArgs s__law_tree) (defBody s__law_tree) (defScope s__law_tree) .none kV18 dc18 pm18 an18 cd18 ct18), sl18⟩) (c18 : PySem.W.codeIn K cd18 "_law_tree" = true) (k18 : PySem.W.keepIn K (.ref f18) = true)
    (a19 : PySem.W.nsIn K mainGlobals "_law_down" = some (some (.ref f19))) (l19 : K.lookup f19 = some ⟨oc19, od19, .func (PySem.W.fnOf "_law_down" "_law_down" (defArgs s__law_down) (defBody s__law_down) (defScope s__law_down) .none kV19 dc19 pm19 an19 cd19 ct19), sl19⟩) (c19 : PySem.W.codeIn K cd19 "_law_down" = true) (k19 : PySem.W.keepIn K (.ref f19) = true)
    (a20 : PySem.W.nsIn K mainGlobals "_law_keys" = some (some (.ref f20))) (l20 : K.lookup f20 = some ⟨oc20, od20, .func (PySem.W.fnOf "_law_keys" "_law_keys" (defArgs s__law_keys) (defBody s__law_keys) (defScope s__law_keys) .none kV20 dc20 pm20 an20 cd20 ct20), sl20⟩) (c20 : PySem.W.codeIn K cd20 "_law_keys" = true) (k20 : PySem.W.keepIn K (.ref f20) = true)
    (a21 : PySem.W.nsIn K mainGlobals "_law_top" = some (some (.ref f21))) (l21 : K.lookup f21 = some ⟨oc21, od21, .func (PySem.W.fnOf "_law_top" "_law_top" (defArgs s__law_top) (defBody s__law_top) (defScope s__law_top) .none kV21 dc21 pm21 an21 cd21 ct21), sl21⟩) (c21 : PySem.W.codeIn K cd21 "_law_top" = true) (k21 : PySem.W.keepIn K (.ref f21) = true)
    (a22 : PySem.W.nsIn K mainGlobals "_law_path" = some (some (.ref f22))) (l22 : K.lookup f22 = some ⟨oc22, od22, .func (PySem.W.fnOf "_law_path" "_law_path" (defArgs s__law_path) (defBody s__law_path) (defScope s__law_path) .none kV22 dc22 pm22 an22 cd22 ct22), sl22⟩) (c22 : PySem.W.codeIn K cd22 "_law_path" = true) (k22 : PySem.W.keepIn K (.ref f22) = true)
    (a23 : PySem.W.nsIn K mainGlobals "_law_growth" = some (some (.ref f23))) (l23 : K.lookup f23 = some ⟨oc23, od23, .func (PySem.W.fnOf "_law_growth" "_law_growth" (defArgs s__law_growth) (defBody s__law_growth) (defScope s__law_growth) .none kV23 dc23 pm23 an23 cd23 ct23), sl23⟩) (c23 : PySem.W.codeIn K cd23 "_law_growth" = true) (k23 : PySem.W.keepIn K (.ref f23) = true)
    (a24 : PySem.W.nsIn K mainGlobals "_law_is" = some (some (.ref f24))) (l24 : K.lookup f24 = some ⟨oc24, od24, .func (PySem.W.fnOf "_law_is" "_law_is" (defArgs s__law_is) (defBody s__law_is) (defScope s__law_is) .none kV24 dc24 pm24 an24 cd24 ct24), sl24⟩) (c24 : PySem.W.codeIn K cd24 "_law_is" = true) (k24 : PySem.W.keepIn K (.ref f24) = true)
    (a25 : PySem.W.nsIn K mainGlobals "_law_true" = some (some (.ref f25))) (l25 : K.lookup f25 = some ⟨oc25, od25, .func (PySem.W.fnOf "_law_true" "_law_true" (defArgs s__law_true) (defBody s__law_true) (defScope s__law_true) .none kV25 dc25 pm25 an25 cd25 ct25), sl25⟩) (c25 : PySem.W.codeIn K cd25 "_law_true" = true) (k25 : PySem.W.keepIn K (.ref f25) = true)
    (a26 : PySem.W.nsIn K mainGlobals "_law_narrow" = some (some (.ref f26))) (l26 : K.lookup f26 = some ⟨oc26, od26, .func (PySem.W.fnOf "_law_narrow" "_law_narrow" (defArgs s__law_narrow) (defBody s__law_narrow) (defScope s__law_narrow) .none kV26 dc26 pm26 an26 cd26 ct26), sl26⟩) (c26 : PySem.W.codeIn K cd26 "_law_narrow" = true) (k26 : PySem.W.keepIn K (.ref f26) = true)
    (a27 : PySem.W.nsIn K mainGlobals "_law_far_right" = some (some (.ref f27))) (l27 : K.lookup f27 = some ⟨oc27, od27, .func (PySem.W.fnOf "_law_far_right" "_law_far_right" (defArgs s__law_far_right) (defBody s__law_far_right) (defScope s__law_far_right) .none kV27 dc27 pm27 an27 cd27 ct27), sl27⟩) (c27 : PySem.W.codeIn K cd27 "_law_far_right" = true) (k27 : PySem.W.keepIn K (.ref f27) = true)
    (a28 : PySem.W.nsIn K mainGlobals "law" = some (some (.ref f28))) (l28 : K.lookup f28 = some ⟨oc28, od28, .func (PySem.W.fnOf "law" "law" (defArgs s_law) (defBody s_law) (defScope s_law) .none kV28 dc28 pm28 an28 cd28 ct28), sl28⟩) (c28 : PySem.W.codeIn K cd28 "law" = true) (k28 : PySem.W.keepIn K (.ref f28) = true)
    (z_len : PySem.W.nsIn K mainGlobals "len" = some none)
    (z_isinstance : PySem.W.nsIn K mainGlobals "isinstance" = some none)
    (z_int : PySem.W.nsIn K mainGlobals "int" = some none)
    (z_bool : PySem.W.nsIn K mainGlobals "bool" = some none)
    (z_list : PySem.W.nsIn K mainGlobals "list" = some none)
    (z_tuple : PySem.W.nsIn K mainGlobals "tuple" = some none)
    (z_str : PySem.W.nsIn K mainGlobals "str" = some none)
    (z_range : PySem.W.nsIn K mainGlobals "range" = some none)
    (z_reversed : PySem.W.nsIn K mainGlobals "reversed" = some none)
    (z_min : PySem.W.nsIn K mainGlobals "min" = some none)
    (z_all : PySem.W.nsIn K mainGlobals "all" = some none)
    (z_sum : PySem.W.nsIn K mainGlobals "sum" = some none)
    (g_Claim : PySem.W.nsIn K mainGlobals "Claim" = some (some (.ref C_Claim)))
    (g_BadPaper : PySem.W.nsIn K mainGlobals "BadPaper" = some (some (.ref C_BadPaper)))
    (xP_BadPaper : PySem.W.excIn K C_BadPaper [.type "ValueError", .type "Exception", .type "BaseException", .type "object"] "ValueError.__new__" = true)
    (kP_BadPaper : PySem.W.keepIn K (.ref C_BadPaper) = true)
    (bP_BadPaper : PySem.W.subIn K (.ref C_BadPaper) (.type "BaseException") = some true)
    (tP_BadPaper : PySem.W.typeIn K (.ref C_BadPaper) = some (.type "type"))
    (hg_BadPaper : PySem.W.findIn K (.ref C_BadPaper) "__getattribute__" = some (some (.builtin "BaseException.__getattribute__")))
    (hk_BadPaper : PySem.W.findIn K (.ref C_BadPaper) "__getattr__" = some none)
    (hd_BadPaper : PySem.W.hasDictIn K C_BadPaper = true)
    (ha_BadPaper : PySem.W.findIn K (.ref C_BadPaper) "__class__" = some (some (.builtin "object.__class__")))
    (hn_BadPaper : PySem.W.specialIn K (.builtin "object.__class__") "__get__" = some (some (.builtin "getset_descriptor.__get__")))
    (ht_BadPaper : PySem.W.takesIn K (.builtin "object.__class__") = some true)
    (hm_BadPaper : PySem.W.mroIn K C_BadPaper (.type "object") = some true)
    (ex_BadPaper : PySem.W.exmOne K (.ref C_BadPaper) (.ref C_BadPaper) = some true)
    (g_Behind : PySem.W.nsIn K mainGlobals "Behind" = some (some (.ref C_Behind)))
    (aMBehind : PySem.W.findIn K (.ref C_Behind) "__init__" = some (some (.ref fMBehind))) (lMBehind : K.lookup fMBehind = some ⟨ocMBehind, odMBehind, .func (PySem.W.fnOf "__init__" "Behind.__init__" (defArgs s_Behind___init__) (defBody s_Behind___init__) (defScope s_Behind___init__) .none kVMBehind dcMBehind pmMBehind anMBehind cdMBehind ctMBehind), slMBehind⟩) (cMBehind : PySem.W.codeIn K cdMBehind "Behind.__init__" = true) (kMBehind : PySem.W.keepIn K (.ref fMBehind) = true) (gaMBehind : PySem.W.specialIn K (.ref C_Behind) "__getattribute__" = some (some (.builtin "type.__getattribute__"))) (rdMBehind : PySem.W.readsIn K C_Behind (.type "type") = true) (fcMBehind : PySem.W.findCls K (.ref C_Behind) (.type "type") "__init__" = some (.val (.ref fMBehind)))
    (g_Stands : PySem.W.nsIn K mainGlobals "Stands" = some (some (.ref C_Stands)))
    (pg_Stands : PySem.W.plainGet K C_Stands Str.empty = true)
    (hd_Stands : PySem.W.hasDictIn K C_Stands = true)
    (po_Stands : PySem.W.plainOver K C_Stands = true)
    (sa_Stands : PySem.W.findIn K (.ref C_Stands) "__setattr__" = some (some (.builtin "object.__setattr__")))
    (n_Stands_place : PySem.W.findIn K (.ref C_Stands) "place" = some none)
    (n_Stands_words : PySem.W.findIn K (.ref C_Stands) "words" = some none)
    (n_Stands_table : PySem.W.findIn K (.ref C_Stands) "table" = some none)
    (ia_Stands : PySem.W.findIn K (.ref C_Stands) "__class__" = some (some (.builtin "object.__class__")))
    (in_Stands : PySem.W.specialIn K (.builtin "object.__class__") "__get__" = some (some (.builtin "getset_descriptor.__get__")))
    (it_Stands : PySem.W.takesIn K (.builtin "object.__class__") = some true)
    (im_Stands : PySem.W.mroIn K C_Stands (.type "object") = some true)
    (aStands0 : PySem.W.findIn K (.ref C_Stands) "__init__" = some (some (.ref fStands0))) (iStands0 : PySem.W.isFn K (.ref fStands0) = true) (lStands0 : K.lookup fStands0 = some ⟨ocStands0, odStands0, .func (PySem.W.fnOf "__init__" "Stands.__init__" (defArgs s_Stands___init__) (defBody s_Stands___init__) (defScope s_Stands___init__) .none kVStands0 dcStands0 pmStands0 anStands0 cdStands0 ctStands0), slStands0⟩) (cStands0 : PySem.W.codeIn K cdStands0 "Stands.__init__" = true) (kStands0 : PySem.W.keepIn K (.ref fStands0) = true)
    (mk_Stands : PySem.W.makesIn K C_Stands = true) (kc_Stands : PySem.W.keepIn K (.ref C_Stands) = true)
    (aStands1 : PySem.W.findIn K (.ref C_Stands) "shown" = some (some (.ref fStands1))) (iStands1 : PySem.W.isFn K (.ref fStands1) = true) (lStands1 : K.lookup fStands1 = some ⟨ocStands1, odStands1, .func (PySem.W.fnOf "shown" "Stands.shown" (defArgs s_Stands_shown) (defBody s_Stands_shown) (defScope s_Stands_shown) .none kVStands1 dcStands1 pmStands1 anStands1 cdStands1 ctStands1), slStands1⟩) (cStands1 : PySem.W.codeIn K cdStands1 "Stands.shown" = true) (kStands1 : PySem.W.keepIn K (.ref fStands1) = true)
    (aStands2 : PySem.W.findIn K (.ref C_Stands) "judged" = some (some (.ref fStands2))) (iStands2 : PySem.W.isFn K (.ref fStands2) = true) (lStands2 : K.lookup fStands2 = some ⟨ocStands2, odStands2, .func (PySem.W.fnOf "judged" "Claim.judged" (defArgs s_Claim_judged) (defBody s_Claim_judged) (defScope s_Claim_judged) .none kVStands2 dcStands2 pmStands2 anStands2 cdStands2 ctStands2), slStands2⟩) (cStands2 : PySem.W.codeIn K cdStands2 "Claim.judged" = true) (kStands2 : PySem.W.keepIn K (.ref fStands2) = true)
    (g_Grows : PySem.W.nsIn K mainGlobals "Grows" = some (some (.ref C_Grows)))
    (pg_Grows : PySem.W.plainGet K C_Grows Str.empty = true)
    (hd_Grows : PySem.W.hasDictIn K C_Grows = true)
    (po_Grows : PySem.W.plainOver K C_Grows = true)
    (sa_Grows : PySem.W.findIn K (.ref C_Grows) "__setattr__" = some (some (.builtin "object.__setattr__")))
    (n_Grows_old : PySem.W.findIn K (.ref C_Grows) "old" = some none)
    (n_Grows_before : PySem.W.findIn K (.ref C_Grows) "before" = some none)
    (ia_Grows : PySem.W.findIn K (.ref C_Grows) "__class__" = some (some (.builtin "object.__class__")))
    (in_Grows : PySem.W.specialIn K (.builtin "object.__class__") "__get__" = some (some (.builtin "getset_descriptor.__get__")))
    (it_Grows : PySem.W.takesIn K (.builtin "object.__class__") = some true)
    (im_Grows : PySem.W.mroIn K C_Grows (.type "object") = some true)
    (aGrows0 : PySem.W.findIn K (.ref C_Grows) "__init__" = some (some (.ref fGrows0))) (iGrows0 : PySem.W.isFn K (.ref fGrows0) = true) (lGrows0 : K.lookup fGrows0 = some ⟨ocGrows0, odGrows0, .func (PySem.W.fnOf "__init__" "Grows.__init__" (defArgs s_Grows___init__) (defBody s_Grows___init__) (defScope s_Grows___init__) .none kVGrows0 dcGrows0 pmGrows0 anGrows0 cdGrows0 ctGrows0), slGrows0⟩) (cGrows0 : PySem.W.codeIn K cdGrows0 "Grows.__init__" = true) (kGrows0 : PySem.W.keepIn K (.ref fGrows0) = true)
    (mk_Grows : PySem.W.makesIn K C_Grows = true) (kc_Grows : PySem.W.keepIn K (.ref C_Grows) = true)
    (aGrows1 : PySem.W.findIn K (.ref C_Grows) "shown" = some (some (.ref fGrows1))) (iGrows1 : PySem.W.isFn K (.ref fGrows1) = true) (lGrows1 : K.lookup fGrows1 = some ⟨ocGrows1, odGrows1, .func (PySem.W.fnOf "shown" "Grows.shown" (defArgs s_Grows_shown) (defBody s_Grows_shown) (defScope s_Grows_shown) .none kVGrows1 dcGrows1 pmGrows1 anGrows1 cdGrows1 ctGrows1), slGrows1⟩) (cGrows1 : PySem.W.codeIn K cdGrows1 "Grows.shown" = true) (kGrows1 : PySem.W.keepIn K (.ref fGrows1) = true)
    (aGrows2 : PySem.W.findIn K (.ref C_Grows) "judged" = some (some (.ref fGrows2))) (iGrows2 : PySem.W.isFn K (.ref fGrows2) = true) (lGrows2 : K.lookup fGrows2 = some ⟨ocGrows2, odGrows2, .func (PySem.W.fnOf "judged" "Claim.judged" (defArgs s_Claim_judged) (defBody s_Claim_judged) (defScope s_Claim_judged) .none kVGrows2 dcGrows2 pmGrows2 anGrows2 cdGrows2 ctGrows2), slGrows2⟩) (cGrows2 : PySem.W.codeIn K cdGrows2 "Claim.judged" = true) (kGrows2 : PySem.W.keepIn K (.ref fGrows2) = true)
    (g_Holds : PySem.W.nsIn K mainGlobals "Holds" = some (some (.ref C_Holds)))
    (pg_Holds : PySem.W.plainGet K C_Holds Str.empty = true)
    (hd_Holds : PySem.W.hasDictIn K C_Holds = true)
    (po_Holds : PySem.W.plainOver K C_Holds = true)
    (sa_Holds : PySem.W.findIn K (.ref C_Holds) "__setattr__" = some (some (.builtin "object.__setattr__")))
    (n_Holds_place : PySem.W.findIn K (.ref C_Holds) "place" = some none)
    (n_Holds_key : PySem.W.findIn K (.ref C_Holds) "key" = some none)
    (n_Holds_depth : PySem.W.findIn K (.ref C_Holds) "depth" = some none)
    (n_Holds_said : PySem.W.findIn K (.ref C_Holds) "said" = some none)
    (ia_Holds : PySem.W.findIn K (.ref C_Holds) "__class__" = some (some (.builtin "object.__class__")))
    (in_Holds : PySem.W.specialIn K (.builtin "object.__class__") "__get__" = some (some (.builtin "getset_descriptor.__get__")))
    (it_Holds : PySem.W.takesIn K (.builtin "object.__class__") = some true)
    (im_Holds : PySem.W.mroIn K C_Holds (.type "object") = some true)
    (aHolds0 : PySem.W.findIn K (.ref C_Holds) "__init__" = some (some (.ref fHolds0))) (iHolds0 : PySem.W.isFn K (.ref fHolds0) = true) (lHolds0 : K.lookup fHolds0 = some ⟨ocHolds0, odHolds0, .func (PySem.W.fnOf "__init__" "Holds.__init__" (defArgs s_Holds___init__) (defBody s_Holds___init__) (defScope s_Holds___init__) .none kVHolds0 dcHolds0 pmHolds0 anHolds0 cdHolds0 ctHolds0), slHolds0⟩) (cHolds0 : PySem.W.codeIn K cdHolds0 "Holds.__init__" = true) (kHolds0 : PySem.W.keepIn K (.ref fHolds0) = true)
    (mk_Holds : PySem.W.makesIn K C_Holds = true) (kc_Holds : PySem.W.keepIn K (.ref C_Holds) = true)
    (aHolds1 : PySem.W.findIn K (.ref C_Holds) "ends" = some (some (.ref fHolds1))) (iHolds1 : PySem.W.isFn K (.ref fHolds1) = true) (lHolds1 : K.lookup fHolds1 = some ⟨ocHolds1, odHolds1, .func (PySem.W.fnOf "ends" "Holds.ends" (defArgs s_Holds_ends) (defBody s_Holds_ends) (defScope s_Holds_ends) .none kVHolds1 dcHolds1 pmHolds1 anHolds1 cdHolds1 ctHolds1), slHolds1⟩) (cHolds1 : PySem.W.codeIn K cdHolds1 "Holds.ends" = true) (kHolds1 : PySem.W.keepIn K (.ref fHolds1) = true)
    (aHolds2 : PySem.W.findIn K (.ref C_Holds) "shown" = some (some (.ref fHolds2))) (iHolds2 : PySem.W.isFn K (.ref fHolds2) = true) (lHolds2 : K.lookup fHolds2 = some ⟨ocHolds2, odHolds2, .func (PySem.W.fnOf "shown" "Behind.shown" (defArgs s_Behind_shown) (defBody s_Behind_shown) (defScope s_Behind_shown) .none kVHolds2 dcHolds2 pmHolds2 anHolds2 cdHolds2 ctHolds2), slHolds2⟩) (cHolds2 : PySem.W.codeIn K cdHolds2 "Behind.shown" = true) (kHolds2 : PySem.W.keepIn K (.ref fHolds2) = true)
    (aHolds3 : PySem.W.findIn K (.ref C_Holds) "judged" = some (some (.ref fHolds3))) (iHolds3 : PySem.W.isFn K (.ref fHolds3) = true) (lHolds3 : K.lookup fHolds3 = some ⟨ocHolds3, odHolds3, .func (PySem.W.fnOf "judged" "Claim.judged" (defArgs s_Claim_judged) (defBody s_Claim_judged) (defScope s_Claim_judged) .none kVHolds3 dcHolds3 pmHolds3 anHolds3 cdHolds3 ctHolds3), slHolds3⟩) (cHolds3 : PySem.W.codeIn K cdHolds3 "Claim.judged" = true) (kHolds3 : PySem.W.keepIn K (.ref fHolds3) = true)
    (g_Lacks : PySem.W.nsIn K mainGlobals "Lacks" = some (some (.ref C_Lacks)))
    (pg_Lacks : PySem.W.plainGet K C_Lacks Str.empty = true)
    (hd_Lacks : PySem.W.hasDictIn K C_Lacks = true)
    (po_Lacks : PySem.W.plainOver K C_Lacks = true)
    (sa_Lacks : PySem.W.findIn K (.ref C_Lacks) "__setattr__" = some (some (.builtin "object.__setattr__")))
    (n_Lacks_place : PySem.W.findIn K (.ref C_Lacks) "place" = some none)
    (n_Lacks_key : PySem.W.findIn K (.ref C_Lacks) "key" = some none)
    (n_Lacks_depth : PySem.W.findIn K (.ref C_Lacks) "depth" = some none)
    (ia_Lacks : PySem.W.findIn K (.ref C_Lacks) "__class__" = some (some (.builtin "object.__class__")))
    (in_Lacks : PySem.W.specialIn K (.builtin "object.__class__") "__get__" = some (some (.builtin "getset_descriptor.__get__")))
    (it_Lacks : PySem.W.takesIn K (.builtin "object.__class__") = some true)
    (im_Lacks : PySem.W.mroIn K C_Lacks (.type "object") = some true)
    (aLacks0 : PySem.W.findIn K (.ref C_Lacks) "ends" = some (some (.ref fLacks0))) (iLacks0 : PySem.W.isFn K (.ref fLacks0) = true) (lLacks0 : K.lookup fLacks0 = some ⟨ocLacks0, odLacks0, .func (PySem.W.fnOf "ends" "Lacks.ends" (defArgs s_Lacks_ends) (defBody s_Lacks_ends) (defScope s_Lacks_ends) .none kVLacks0 dcLacks0 pmLacks0 anLacks0 cdLacks0 ctLacks0), slLacks0⟩) (cLacks0 : PySem.W.codeIn K cdLacks0 "Lacks.ends" = true) (kLacks0 : PySem.W.keepIn K (.ref fLacks0) = true)
    (aLacks1 : PySem.W.findIn K (.ref C_Lacks) "__init__" = some (some (.ref fLacks1))) (iLacks1 : PySem.W.isFn K (.ref fLacks1) = true) (lLacks1 : K.lookup fLacks1 = some ⟨ocLacks1, odLacks1, .func (PySem.W.fnOf "__init__" "Behind.__init__" (defArgs s_Behind___init__) (defBody s_Behind___init__) (defScope s_Behind___init__) .none kVLacks1 dcLacks1 pmLacks1 anLacks1 cdLacks1 ctLacks1), slLacks1⟩) (cLacks1 : PySem.W.codeIn K cdLacks1 "Behind.__init__" = true) (kLacks1 : PySem.W.keepIn K (.ref fLacks1) = true)
    (mk_Lacks : PySem.W.makesIn K C_Lacks = true) (kc_Lacks : PySem.W.keepIn K (.ref C_Lacks) = true)
    (aLacks2 : PySem.W.findIn K (.ref C_Lacks) "shown" = some (some (.ref fLacks2))) (iLacks2 : PySem.W.isFn K (.ref fLacks2) = true) (lLacks2 : K.lookup fLacks2 = some ⟨ocLacks2, odLacks2, .func (PySem.W.fnOf "shown" "Behind.shown" (defArgs s_Behind_shown) (defBody s_Behind_shown) (defScope s_Behind_shown) .none kVLacks2 dcLacks2 pmLacks2 anLacks2 cdLacks2 ctLacks2), slLacks2⟩) (cLacks2 : PySem.W.codeIn K cdLacks2 "Behind.shown" = true) (kLacks2 : PySem.W.keepIn K (.ref fLacks2) = true)
    (aLacks3 : PySem.W.findIn K (.ref C_Lacks) "judged" = some (some (.ref fLacks3))) (iLacks3 : PySem.W.isFn K (.ref fLacks3) = true) (lLacks3 : K.lookup fLacks3 = some ⟨ocLacks3, odLacks3, .func (PySem.W.fnOf "judged" "Claim.judged" (defArgs s_Claim_judged) (defBody s_Claim_judged) (defScope s_Claim_judged) .none kVLacks3 dcLacks3 pmLacks3 anLacks3 cdLacks3 ctLacks3), slLacks3⟩) (cLacks3 : PySem.W.codeIn K cdLacks3 "Claim.judged" = true) (kLacks3 : PySem.W.keepIn K (.ref fLacks3) = true)
    : Txt K mg cc := by
  exact ⟨⟨⟨_, _, fun_mk (st := s_split) l0 c0 k0, PySem.W.mg_of X G a0, fun us hl => match us, hl with | [_], _ => rfl⟩⟩,
    ⟨⟨_, _, fun_mk (st := s_none_seal) l1 c1 k1, PySem.W.mg_of X G a1, fun us hl => match us, hl with | [_], _ => rfl⟩⟩,
    ⟨⟨_, _, fun_mk (st := s_leaf_seal) l2 c2 k2, PySem.W.mg_of X G a2, fun us hl => match us, hl with | [_, _, _], _ => rfl⟩⟩,
    ⟨⟨_, _, fun_mk (st := s_pair_seal) l3 c3 k3, PySem.W.mg_of X G a3, fun us hl => match us, hl with | [_, _, _], _ => rfl⟩⟩,
    ⟨⟨_, _, fun_mk (st := s_book_seal) l4 c4 k4, PySem.W.mg_of X G a4, fun us hl => match us, hl with | [_, _, _], _ => rfl⟩⟩,
    ⟨⟨_, _, fun_mk (st := s_last_of) l5 c5 k5, PySem.W.mg_of X G a5, fun us hl => match us, hl with | [_], _ => rfl⟩⟩,
    ⟨⟨_, _, fun_mk (st := s_risen) l6 c6 k6, PySem.W.mg_of X G a6, fun us hl => match us, hl with | [_, _, _, _, _], _ => rfl⟩⟩,
    ⟨⟨_, _, fun_mk (st := s_regrown) l7 c7 k7, PySem.W.mg_of X G a7, fun us hl => match us, hl with | [_, _, _, _], _ => rfl⟩⟩,
    ⟨⟨_, _, fun_mk (st := s_table_seal) l8 c8 k8, PySem.W.mg_of X G a8, fun us hl => match us, hl with | [_, _, _], _ => rfl⟩⟩,
    ⟨⟨_, _, fun_mk (st := s_climbed) l9 c9 k9, PySem.W.mg_of X G a9, fun us hl => match us, hl with | [_, _, _, _], _ => rfl⟩⟩,
    ⟨⟨_, _, fun_mk (st := s__law_seal) l10 c10 k10, PySem.W.mg_of X G a10, fun us hl => match us, hl with | [_, _, _], _ => rfl⟩⟩,
    ⟨⟨_, _, fun_mk (st := s__law_draw) l11 c11 k11, PySem.W.mg_of X G a11, fun us hl => match us, hl with | [_, _, _], _ => rfl⟩⟩,
    ⟨⟨_, _, fun_mk (st := s__law_some) l12 c12 k12, PySem.W.mg_of X G a12, fun us hl => match us, hl with | [_, _], _ => rfl⟩⟩,
    ⟨⟨_, _, fun_mk (st := s__law_split) l13 c13 k13, PySem.W.mg_of X G a13, fun us hl => match us, hl with | [_], _ => rfl⟩⟩,
    ⟨⟨_, _, fun_mk (st := s__law_risen) l14 c14 k14, PySem.W.mg_of X G a14, fun us hl => match us, hl with | [_, _, _, _, _], _ => rfl⟩⟩,
    ⟨⟨_, _, fun_mk (st := s__law_regrown) l15 c15 k15, PySem.W.mg_of X G a15, fun us hl => match us, hl with | [_, _, _, _], _ => rfl⟩⟩,
    ⟨⟨_, _, fun_mk (st := s__law_stands) l16 c16 k16, PySem.W.mg_of X G a16, fun us hl => match us, hl with | [_], _ => rfl⟩⟩,
    ⟨⟨_, _, fun_mk (st := s__law_grows) l17 c17 k17, PySem.W.mg_of X G a17, fun us hl => match us, hl with | [_], _ => rfl⟩⟩,
    ⟨⟨_, _, fun_mk (st := s__law_tree) l18 c18 k18, PySem.W.mg_of X G a18, fun us hl => match us, hl with | [_, _], _ => rfl⟩⟩,
    ⟨⟨_, _, fun_mk (st := s__law_down) l19 c19 k19, PySem.W.mg_of X G a19, fun us hl => match us, hl with | [_, _, _], _ => rfl⟩⟩,
    ⟨⟨_, _, fun_mk (st := s__law_keys) l20 c20 k20, PySem.W.mg_of X G a20, fun us hl => match us, hl with | [_], _ => rfl⟩⟩,
    ⟨⟨_, _, fun_mk (st := s__law_top) l21 c21 k21, PySem.W.mg_of X G a21, fun us hl => match us, hl with | [_], _ => rfl⟩⟩,
    ⟨⟨_, _, fun_mk (st := s__law_path) l22 c22 k22, PySem.W.mg_of X G a22, fun us hl => match us, hl with | [_, _], _ => rfl⟩⟩,
    ⟨⟨_, _, fun_mk (st := s__law_growth) l23 c23 k23, PySem.W.mg_of X G a23, fun us hl => match us, hl with | [_, _], _ => rfl⟩⟩,
    ⟨⟨_, _, fun_mk (st := s__law_is) l24 c24 k24, PySem.W.mg_of X G a24, fun us hl => match us, hl with | [_, _, _, _, _], _ => rfl⟩⟩,
    ⟨⟨_, _, fun_mk (st := s__law_true) l25 c25 k25, PySem.W.mg_of X G a25, fun us hl => match us, hl with | [_], _ => rfl⟩⟩,
    ⟨⟨_, _, fun_mk (st := s__law_narrow) l26 c26 k26, PySem.W.mg_of X G a26, fun us hl => match us, hl with | [_, _, _], _ => rfl⟩⟩,
    ⟨⟨_, _, fun_mk (st := s__law_far_right) l27 c27 k27, PySem.W.mg_of X G a27, fun us hl => match us, hl with | [_], _ => rfl⟩⟩,
    ⟨⟨_, _, fun_mk (st := s_law) l28 c28 k28, PySem.W.mg_of X G a28, fun us hl => match us, hl with | [_], _ => rfl⟩⟩,
    ⟨C_Claim, PySem.W.mg_of X G g_Claim⟩,
    ⟨⟨C_BadPaper, PySem.W.mg_of X G g_BadPaper, xP_BadPaper, kP_BadPaper, bP_BadPaper, tP_BadPaper, ⟨hg_BadPaper, hk_BadPaper, bP_BadPaper, hd_BadPaper, ha_BadPaper, hn_BadPaper, ht_BadPaper, hm_BadPaper⟩, ex_BadPaper⟩⟩,
    ⟨C_Behind, ⟨PySem.W.mg_of X G g_Behind, _, _, ⟨rdMBehind, gaMBehind⟩, fcMBehind, fun_mk (st := s_Behind___init__) lMBehind cMBehind kMBehind, kMBehind, fun us hl => match us, hl with | [_, _, _, _], _ => rfl⟩⟩,
    ⟨C_Stands, ⟨PySem.W.mg_of X G g_Stands,
      ⟨pg_Stands, hd_Stands, po_Stands, sa_Stands⟩,
      n_Stands_place,
      n_Stands_words,
      n_Stands_table,
      ia_Stands,
      in_Stands,
      it_Stands,
      im_Stands,
      ⟨⟨_, _, fun_mk (st := s_Stands___init__) lStands0 cStands0 kStands0, ⟨mk_Stands, aStands0, iStands0, kc_Stands⟩, fun us hl => match us, hl with | [_, _, _, _], _ => rfl⟩⟩,
      ⟨⟨_, _, fun_mk (st := s_Stands_shown) lStands1 cStands1 kStands1, ⟨aStands1, iStands1, kStands1⟩, fun us hl => match us, hl with | [_, _, _, _, _], _ => rfl⟩⟩,
      ⟨⟨_, _, fun_mk (st := s_Claim_judged) lStands2 cStands2 kStands2, ⟨aStands2, iStands2, kStands2⟩, fun us hl => match us, hl with | [_, _, _, _, _], _ => rfl⟩⟩⟩⟩,
    ⟨C_Grows, ⟨PySem.W.mg_of X G g_Grows,
      ⟨pg_Grows, hd_Grows, po_Grows, sa_Grows⟩,
      n_Grows_old,
      n_Grows_before,
      ia_Grows,
      in_Grows,
      it_Grows,
      im_Grows,
      ⟨⟨_, _, fun_mk (st := s_Grows___init__) lGrows0 cGrows0 kGrows0, ⟨mk_Grows, aGrows0, iGrows0, kc_Grows⟩, fun us hl => match us, hl with | [_, _, _], _ => rfl⟩⟩,
      ⟨⟨_, _, fun_mk (st := s_Grows_shown) lGrows1 cGrows1 kGrows1, ⟨aGrows1, iGrows1, kGrows1⟩, fun us hl => match us, hl with | [_, _, _, _, _], _ => rfl⟩⟩,
      ⟨⟨_, _, fun_mk (st := s_Claim_judged) lGrows2 cGrows2 kGrows2, ⟨aGrows2, iGrows2, kGrows2⟩, fun us hl => match us, hl with | [_, _, _, _, _], _ => rfl⟩⟩⟩⟩,
    ⟨C_Holds, ⟨PySem.W.mg_of X G g_Holds,
      ⟨pg_Holds, hd_Holds, po_Holds, sa_Holds⟩,
      n_Holds_place,
      n_Holds_key,
      n_Holds_depth,
      n_Holds_said,
      ia_Holds,
      in_Holds,
      it_Holds,
      im_Holds,
      ⟨⟨_, _, fun_mk (st := s_Holds___init__) lHolds0 cHolds0 kHolds0, ⟨mk_Holds, aHolds0, iHolds0, kc_Holds⟩, fun us hl => match us, hl with | [_, _, _, _, _], _ => rfl⟩⟩,
      ⟨⟨_, _, fun_mk (st := s_Holds_ends) lHolds1 cHolds1 kHolds1, ⟨aHolds1, iHolds1, kHolds1⟩, fun us hl => match us, hl with | [_, _], _ => rfl⟩⟩,
      ⟨⟨_, _, fun_mk (st := s_Behind_shown) lHolds2 cHolds2 kHolds2, ⟨aHolds2, iHolds2, kHolds2⟩, fun us hl => match us, hl with | [_, _, _, _, _], _ => rfl⟩⟩,
      ⟨⟨_, _, fun_mk (st := s_Claim_judged) lHolds3 cHolds3 kHolds3, ⟨aHolds3, iHolds3, kHolds3⟩, fun us hl => match us, hl with | [_, _, _, _, _], _ => rfl⟩⟩⟩⟩,
    ⟨C_Lacks, ⟨PySem.W.mg_of X G g_Lacks,
      ⟨pg_Lacks, hd_Lacks, po_Lacks, sa_Lacks⟩,
      n_Lacks_place,
      n_Lacks_key,
      n_Lacks_depth,
      ia_Lacks,
      in_Lacks,
      it_Lacks,
      im_Lacks,
      ⟨⟨_, _, fun_mk (st := s_Lacks_ends) lLacks0 cLacks0 kLacks0, ⟨aLacks0, iLacks0, kLacks0⟩, fun us hl => match us, hl with | [_, _], _ => rfl⟩⟩,
      ⟨⟨_, _, fun_mk (st := s_Behind___init__) lLacks1 cLacks1 kLacks1, ⟨mk_Lacks, aLacks1, iLacks1, kc_Lacks⟩, fun us hl => match us, hl with | [_, _, _, _], _ => rfl⟩⟩,
      ⟨⟨_, _, fun_mk (st := s_Behind_shown) lLacks2 cLacks2 kLacks2, ⟨aLacks2, iLacks2, kLacks2⟩, fun us hl => match us, hl with | [_, _, _, _, _], _ => rfl⟩⟩,
      ⟨⟨_, _, fun_mk (st := s_Claim_judged) lLacks3 cLacks3 kLacks3, ⟨aLacks3, iLacks3, kLacks3⟩, fun us hl => match us, hl with | [_, _, _, _, _], _ => rfl⟩⟩⟩⟩, ⟨PySem.W.mg_none_of X G z_len, PySem.W.mg_none_of X G z_isinstance, PySem.W.mg_none_of X G z_int, PySem.W.mg_none_of X G z_bool, PySem.W.mg_none_of X G z_list, PySem.W.mg_none_of X G z_tuple, PySem.W.mg_none_of X G z_str, PySem.W.mg_none_of X G z_range, PySem.W.mg_none_of X G z_reversed, PySem.W.mg_none_of X G z_min, PySem.W.mg_none_of X G z_all, PySem.W.mg_none_of X G z_sum⟩⟩
/-! ### seals that make a tuple of their three things -/
inductive DenP (tf : Str → V → V → List V) (H : Hp) : V → Tm → Prop
  | int (i : Int) : DenP tf H (.int i) (.int i)
  | str (x : Str) (h : txtOk x = true) : DenP tf H (.str x) (.str x)
  | sl {p : Addr} {m : Str} {va vb : V} {a b : Tm} (hm : txtOk m = true) (h : H p = some (.tup (tf m va vb))) (ha : DenP tf H va a) (hb : DenP tf H vb b) : DenP tf H (.ref p) (.sl m a b)
theorem DenP.mono {tf : Str → V → V → List V} {H H' : Hp} (e : Gr H H') {v : V} {t : Tm} (h : DenP tf H v t) : DenP tf H' v t := by
  induction h with
  | int i => exact .int i
  | str x h => exact .str x h
  | sl hm h _ _ iha ihb => exact .sl hm (e.keep _ _ h True.intro fun _ z => nomatch z) iha ihb
def tfP (m : Str) (a b : V) : List V := [.str m, a, b]
def tfT (m : Str) (a b : V) : List V := [.str "seal of", b, a, .str m]
def datP : Tm → PyData
  | .int i => .int i
  | .str x => .str x
  | .sl m a b => .tuple [.str m, datP a, datP b]
def datT : Tm → PyData
  | .int i => .int i
  | .str x => .str x
  | .sl m a b => .tuple [.str "seal of", datT b, datT a, .str m]
theorem DenP.dp {K : PySem.W.Frag} {H : Hp} {v : V} {t : Tm} (h : DenP tfP H v t) : Dp K H v (datP t) ∧ (datP t).canLay0 = true ∧ (datP t).depth ≤ t.dep := by
  induction h with
  | int i => exact ⟨.int i, rfl, Nat.le_refl _⟩
  | str x h => exact ⟨.str x, h, Nat.le_refl _⟩
  | @sl p m va vb a b hm h _ _ iha ihb =>
    obtain ⟨a1, a2, a3⟩ := iha
    obtain ⟨b1, b2, b3⟩ := ihb
    refine ⟨.tup (SqT.of h) (.cons (.str m) (.cons a1 (.cons b1 .nil))), ?_, ?_⟩
    · show (PySem.PyData.strOk m && ((datP a).canLay0 && ((datP b).canLay0 && true))) = true
      rw [show PySem.PyData.strOk m = true from hm, a2, b2]
      rfl
    · show max 0 (max (datP a).depth (max (datP b).depth 0)) + 1 ≤ max a.dep b.dep + 1
      omega
theorem DenP.dt {K : PySem.W.Frag} {H : Hp} {v : V} {t : Tm} (h : DenP tfT H v t) : Dp K H v (datT t) ∧ (datT t).canLay0 = true ∧ (datT t).depth ≤ t.dep := by
  induction h with
  | int i => exact ⟨.int i, rfl, Nat.le_refl _⟩
  | str x h => exact ⟨.str x, h, Nat.le_refl _⟩
  | @sl p m va vb a b hm h _ _ iha ihb =>
    obtain ⟨a1, a2, a3⟩ := iha
    obtain ⟨b1, b2, b3⟩ := ihb
    refine ⟨.tup (SqT.of h) (.cons (.str _) (.cons b1 (.cons a1 (.cons (.str m) .nil)))), ?_, ?_⟩
    · show (PySem.PyData.strOk "seal of" && ((datT b).canLay0 && ((datT a).canLay0 && (PySem.PyData.strOk m && true)))) = true
      rw [show PySem.PyData.strOk m = true from hm, a2, b2]
      decide +kernel
    · show max 0 (max (datT b).depth (max (datT a).depth (max 0 0))) + 1 ≤ max a.dep b.dep + 1
      omega
def plainSys (tf : Str → V → V → List V) (f : Addr) : Sys := ⟨f, fun H v t => DenP tf H v t, fun _ _ => True⟩
theorem goodP {K : PySem.W.Frag} (f : Addr) : (plainSys tfP f).Good K :=
  ⟨fun e h => h.mono e, fun _ _ => trivial, fun _ _ => trivial, fun i _ => .int i, fun x _ h => .str x h, fun h h' => ⟨_, DenP.dp h |>.1, DenP.dp h' |>.1, (DenP.dp (K := K) h).2.1, (DenP.dp (K := K) h).2.2⟩⟩
theorem goodT {K : PySem.W.Frag} (f : Addr) : (plainSys tfT f).Good K :=
  ⟨fun e h => h.mono e, fun _ _ => trivial, fun _ _ => trivial, fun i _ => .int i, fun x _ h => .str x h, fun h h' => ⟨_, DenP.dt h |>.1, DenP.dt h' |>.1, (DenP.dt (K := K) h).2.1, (DenP.dt (K := K) h).2.2⟩⟩
section
variable {P : Program} {w : World} {K : PySem.W.Frag} {mg : Str → Option Value} {base : Heap}
theorem fnAt_fun {x qual : Str} {st : Stmt} {f : Addr} {fd : FuncData} (F : L2.Fun K x qual st f fd) {h : Heap} (X : K.In h) : PySem.W.FnAt f h := by
  obtain ⟨oc, od, kV, doc, pm, an, cdv, ct, osl, rfl, lk, _⟩ := F.ex
  exact ⟨_, _, _, _, X _ _ lk⟩
def spTup (tf : Str → V → V → List V) : Sp := fun vs H Q _ => ∃ m a b, vs = [.str m, a, b] ∧ ∀ p, H p = none → Q (.ref p) (upd H p (.tup (tf m a b)))
theorem held_plain {tf : Str → V → V → List V} {x : Str} {st : Stmt} {ps : List Str} {f : Addr} {fd : FuncData} (F : L2.Fun K x x st f fd) (b : ∀ us : List Value, us.length = ps.length → bindArgs fd ⟨us, []⟩ = pure (ps.zip us)) (G : FnOk P w K mg base L2.CX0 1 f fd ps (spTup tf)) :
    HeldSl P w K mg base 1 (plainSys tf f) := by
  refine ⟨fun H h r X _ _ => fnAt_fun F X, fun A outer s H us vs Q E hr e0 rv h => ?_⟩
  obtain ⟨r, m, a, b', va, vb, rfl, hm, _, ha, hb, q⟩ := h
  have hsp : spTup tf [.str m, va, vb] H Q E := ⟨m, va, vb, rfl, fun p hp => q _ _ (Ext.new hp) True.intro (.sl hm upd_same (ha.mono (Kp.new hp).gr) (hb.mono (Kp.new hp).gr))⟩
  have hl : us.length = ps.length := by rw [← rv.length]; exact G.len _ _ _ _ hsp
  exact G.run A outer s H ⟨us, []⟩ us _ Q E hr e0 (.of_eq (b us hl)) rv hsp

end
/-! ### the law's one seal -/
section
variable {P : Program} {w : World} {K : PySem.W.Frag} {mg : Str → Option Value} {base : Heap}
theorem fn_lseal {f : Addr} {fd : FuncData} (F : L2.Fun K "_law_seal" "_law_seal" s__law_seal f fd) : FnOk P w K mg base L2.CX0 1 f fd ["_law_mark", "_law_one", "_law_two"] (spTup tfP) := by
  refine F.ok sc__law_seal (fun vs H Q E h => ?_) (fun cdv A outer s H vs Q E hr h => ?_)
  · obtain ⟨m, a, b, rfl, _⟩ := h
    rfl
  obtain ⟨m, a, b, rfl, q⟩ := h
  refine ⟨_, (pss_one (ps_ret (pe_tup (pa_cons (pv 0) (pa_cons (pv 1) (pa_cons (pv 2) pa_nil)))))), ?_⟩
  exact ⟨_, rfl, _, rfl, _, rfl, (by show 3 ≤ sizeLine; decide), fun p hp => q p hp⟩
def Fam1 (mg : Str → Option Value) : Sys → Prop := fun S => ∃ f, mg "_law_seal" = some (.ref f) ∧ S = plainSys tfP f
theorem sla1 {cc : Addr} (T : Txt K mg cc) : SlA P w K mg base (Fam1 mg) := by
  obtain ⟨fP, fdP, FP, mP, bP⟩ := T.d__law_seal.ex
  refine ⟨fun {S} h => ?_, fun S h => ?_⟩
  · obtain ⟨f, _, rfl⟩ := h
    exact goodP f
  · obtain ⟨f, m, rfl⟩ := h
    rw [mP] at m
    cases m
    exact held_plain FP bP (fn_lseal FP)
end

/-! ### the greatest power of two below a number -/
def splitN (n : Nat) : Nat := 2 ^ (n - 1).log2
theorem splitN_pos (n : Nat) : 0 < splitN n := Nat.two_pow_pos _
theorem splitN_lt {n : Nat} (h : 2 ≤ n) : splitN n < n := by
  have q := Nat.log2_self_le (show n - 1 ≠ 0 by omega)
  unfold splitN
  omega
theorem splitN_ge {n : Nat} (h : 2 ≤ n) : n ≤ 2 * splitN n := by
  have q : n - 1 < 2 ^ ((n - 1).log2 + 1) := Nat.lt_log2_self
  rw [Nat.pow_succ] at q
  unfold splitN
  omega
theorem splitN_of {n i : Nat} (h1 : 2 ^ i < n) (h2 : n ≤ 2 * 2 ^ i) : splitN n = 2 ^ i := by
  have h0 : n - 1 ≠ 0 := by
    have := Nat.two_pow_pos i
    omega
  have a : i ≤ (n - 1).log2 := (Nat.le_log2 h0).mpr (by omega)
  have b : (n - 1).log2 < i + 1 := (Nat.log2_lt h0).mpr (by rw [Nat.pow_succ]; omega)
  unfold splitN
  rw [show (n - 1).log2 = i by omega]
theorem splitN_le_pow {n k : Nat} (h : 2 ≤ n) (hk : n ≤ 2 ^ (k + 1)) : splitN n ≤ 2 ^ k ∧ n - splitN n ≤ 2 ^ k := by
  have h0 : n - 1 ≠ 0 := by omega
  have a : (n - 1).log2 < k + 1 := (Nat.log2_lt h0).mpr (by omega)
  have b : splitN n ≤ 2 ^ k := Nat.pow_le_pow_right (by decide) (by omega)
  have c := splitN_ge h
  exact ⟨b, by omega⟩
/-! ### the top of a row -/
def nonT : Tm := .sl "none" (.int 0) (.int 0)
def pairT (a b : Tm) : Tm := .sl "pair" a b
def topT (ts : List Tm) : Tm :=
  if h : ts.length < 2 then ts.headD nonT else pairT (topT (ts.take (splitN ts.length))) (topT (ts.drop (splitN ts.length)))
termination_by ts.length
decreasing_by
  · rw [List.length_take]
    have := splitN_lt (n := ts.length) (by omega)
    omega
  · rw [List.length_drop]
    have := splitN_pos ts.length
    omega
theorem topT_nil : topT [] = nonT := by rw [topT]; rfl
theorem topT_one (t : Tm) : topT [t] = t := by rw [topT]; rfl
theorem topT_single {ts : List Tm} (h : ts.length = 1) : topT ts = ts.getD 0 nonT := by
  match ts, h with
  | [t], _ => exact topT_one t
theorem topT_more {ts : List Tm} (h : 2 ≤ ts.length) : topT ts = pairT (topT (ts.take (splitN ts.length))) (topT (ts.drop (splitN ts.length))) := by
  rw [topT, dif_neg (by omega)]
theorem topT_dep {d : Nat} : ∀ (k : Nat) (ts : List Tm), ts.length ≤ 2 ^ k → (∀ t ∈ ts, t.dep ≤ d) → (topT ts).dep ≤ d + k + 1
  | 0, [], _, _ => by rw [topT_nil]; show 0 + 1 ≤ _; omega
  | 0, [t], _, h => by rw [topT_one]; have := h t List.mem_cons_self; omega
  | 0, t :: u :: r, h, _ => by simp at h
  | k + 1, ts, hl, h => by
    by_cases h2 : 2 ≤ ts.length
    · rw [topT_more h2]
      obtain ⟨a, b⟩ := splitN_le_pow h2 hl
      have e1 := topT_dep k (ts.take (splitN ts.length)) (by rw [List.length_take]; omega) fun t ht => h t (List.mem_of_mem_take ht)
      have e2 := topT_dep k (ts.drop (splitN ts.length)) (by rw [List.length_drop]; omega) fun t ht => h t (List.mem_of_mem_drop ht)
      show max _ _ + 1 ≤ _
      omega
    · match ts, h2 with
      | [], _ => rw [topT_nil]; show 0 + 1 ≤ _; omega
      | [t], _ => rw [topT_one]; have := h t List.mem_cons_self; omega
      | t :: u :: r, h2 => exact absurd (show 2 ≤ (t :: u :: r).length by simp) h2
/-- how many tellings a top wants -/
def costT (n : Nat) : Nat := if n = 0 then 1 else n - 1
theorem costT_split {n : Nat} (h : 2 ≤ n) : costT (splitN n) + costT (n - splitN n) + 1 ≤ costT n := by
  have a := splitN_pos n
  have b := splitN_lt h
  unfold costT
  rw [if_neg (by omega), if_neg (by omega), if_neg (by omega)]
  omega
theorem costT_le (n : Nat) : costT n ≤ n + 1 := by
  unfold costT
  split <;> omega

/-! ### split and the top, by the law's own defs -/
section
variable {P : Program} {w : World} {K : PySem.W.Frag} {mg : Str → Option Value} {base : Heap} {Fam : Sys → Prop}
/-- a def of which nothing is asked -/
def spNo : Sp := fun _ _ _ _ => False
theorem cal_no {x : Str} {st : Stmt} {ps : List Str} (D : DefX K mg x st ps) (k : Nat) : Cal P w K mg base k x spNo [] := by
  obtain ⟨f, fd, F, m, b⟩ := D.ex
  exact ⟨f, fd, ps, [], ⟨fun _ _ _ _ h => h.elim, fun _ _ _ _ _ _ _ _ _ _ _ _ _ h => h.elim⟩, m, F.kp, .all b, .nil⟩
theorem cal_mono {x : Str} {j k : Nat} {sp : Sp} {dvs : List V} (c : Cal P w K mg base j x sp dvs) (h : j ≤ k) : Cal P w K mg base k x sp dvs := by
  obtain ⟨f, fd, ps, ds, F, m, kp, b, v⟩ := c.ex
  exact ⟨f, fd, ps, ds, F.mono h, m, kp, b, v⟩
def spSplit : Sp := fun vs H Q _ => ∃ n : Nat, vs = [.int (n : Int)] ∧ 2 ≤ n ∧ n.log2 ≤ 100000 ∧ Q (.int ((splitN n : Nat) : Int)) H
theorem pow_cast (i : Nat) : (((2 ^ i : Nat) : Nat) : Int) = 2 ^ i := by
  rw [Int.natCast_pow]
  rfl
theorem ok_law_split {cc : Addr} (T : Txt K mg cc) : Cal P w K mg base 1 "_law_split" spSplit [] := by
  refine cal_of T.d__law_split sc__law_split (fun vs H Q E h => ?_) (fun f cdv A outer s H vs Q E hr h => ?_)
  · obtain ⟨n, rfl, _⟩ := h
    rfl
  obtain ⟨n, rfl, h2, hl, q⟩ := h
  refine ⟨_, (pss_cons (ps_set (i := 1) sc__law_split.nd rfl (Or.inl rfl) pe_int)
  (pss_cons (ps_while PassesOwn.never (pt_cmpR op_lt (pe_op op_mul (pv 1) pe_int) (pv 0) (nomark _)) (pss_one (ps_set (i := 1) sc__law_split.nd rfl (Or.inl rfl) (pe_op op_mul (pv 1) pe_int))))
  (pss_one (ps_ret (pv 1))))), ?_⟩
  refine ⟨fun m σ H' => ∃ i : Nat, m = n - 2 ^ i ∧ 2 ^ i < n ∧ σ = [some (.int (n : Int)), some (.int ((2 ^ i : Nat) : Int))] ∧ H' = H, ⟨_, 0, rfl, by simp; omega, rfl, rfl⟩, ?_⟩
  rintro m σ H' ⟨i, rfl, hi, rfl, rfl⟩
  have cm : CMul ((2 ^ i : Nat) : Int) 2 := .inr ⟨by decide, by decide⟩
  refine ⟨_, rfl, _, 2, rfl, rfl, cm, _, rfl, _, _, rfl, rfl, _, rfl, ite2 (fun c => ?_) (fun c => ?_)⟩
  · have c' : ((2 ^ i : Nat) : Int) * 2 < (n : Int) := of_decide_eq_true c
    refine ⟨fun σ' H'' => ∃ j : Nat, j = i + 1 ∧ σ' = [some (.int (n : Int)), some (.int ((2 ^ j : Nat) : Int))] ∧ H'' = H', fun σ' H'' ⟨j, ej, es, eh⟩ => ⟨n - 2 ^ j, ?_, j, rfl, ?_, es, eh⟩, ?_⟩
    · subst ej
      rw [Nat.pow_succ]
      have := Nat.two_pow_pos i
      omega
    · subst ej
      rw [Nat.pow_succ]
      omega
    · refine ⟨_, rfl, _, 2, rfl, rfl, cm, i + 1, rfl, ?_, rfl⟩
      have e : ((2 ^ i : Nat) : Int) * 2 = ((2 ^ (i + 1) : Nat) : Int) := by
        rw [Nat.pow_succ]
        omega
      show [some (V.int (n : Int)), some (V.int (((2 ^ i : Nat) : Int) * 2))] = _
      rw [e]
  · have c' : ¬ ((2 ^ i : Nat) : Int) * 2 < (n : Int) := of_decide_eq_false (Bool.eq_false_iff.mpr c)
    have e : splitN n = 2 ^ i := splitN_of hi (by omega)
    rw [e] at q
    exact ⟨_, rfl, q⟩
/-- the top of a row of leaves: two to the k of them at most -/
def spTop (K : PySem.W.Frag) (Fam : Sys → Prop) (k : Nat) : Sp := fun vs H Q _ => ∃ (S : Sys) (a : Addr) (xs : List V) (ts : List Tm) (r : Nat), Fam S ∧ vs = [.ref S.f, .ref a] ∧ SqL K H a xs ∧ DenL S H xs ts ∧ k ≠ 0 ∧ ts.length ≤ 2 ^ (k - 1) ∧ ts.length ≤ 1000 ∧ S.ok H (r + costT ts.length) ∧
  ∀ v H', Ext H H' → S.ok H' r → S.den H' v (topT ts) → Q v H'
theorem atI_den {S : Sys} {H : Hp} {xs : List V} {ts : List Tm} (h : DenL S H xs ts) {i : Int} (h0 : 0 ≤ i) (h1 : i < (ts.length : Int)) : ∃ v, atI xs i = some v ∧ S.den H v (ts.getD i.toNat nonT) := by
  have hi : i.toNat < ts.length := by omega
  obtain ⟨v, e, d⟩ := h.get hi
  refine ⟨v, at_of (j := i.toNat) (by omega) e, ?_⟩
  rw [List.getD_eq_getElem?_getD, List.getElem?_eq_getElem hi]
  exact d

end
section
variable {P : Program} {w : World} {K : PySem.W.Frag} {mg : Str → Option Value} {base : Heap} {Fam : Sys → Prop}
theorem ok_split {cc : Addr} (T : Txt K mg cc) : Cal P w K mg base 1 "split" spSplit [] := by
  refine cal_of T.d_split sc_split (fun vs H Q E h => ?_) (fun f cdv A outer s H vs Q E hr h => ?_)
  · obtain ⟨n, rfl, _⟩ := h
    rfl
  obtain ⟨n, rfl, h2, hl, q⟩ := h
  refine ⟨_, (pss_one (ps_ret (pe_op op_shl pe_int (pe_op op_sub (pe_bits (pe_op op_sub (pv 0) pe_int)) pe_int)))), ?_⟩
  have h0 : n - 1 ≠ 0 := by omega
  have lg : (n - 1).log2 ≤ n.log2 := by
    refine (Nat.le_log2 (by omega)).mpr ?_
    have := Nat.log2_self_le h0
    omega
  have e1 : ((Builtin.Int.intBits ((n : Int) - 1) : Nat) : Int) - 1 = (((n - 1).log2 : Nat) : Int) := by
    have e2 : (n : Int) - 1 = ((n - 1 : Nat) : Int) := by omega
    rw [e2]
    unfold Builtin.Int.intBits
    have e3 : (((n - 1 : Nat) : Int) == 0) = false := by
      rw [beq_eq_false_iff_ne]
      omega
    rw [e3]
    show ((((n - 1 : Nat) : Int).natAbs.log2 + 1 : Nat) : Int) - 1 = _
    rw [Int.natAbs_natCast]
    omega
  refine ⟨_, rfl, _, 1, rfl, rfl, (n : Int) - 1, rfl, _, 1, rfl, rfl, 1, _, rfl, rfl, ?_, ?_⟩
  · rw [e1]
    exact ⟨by omega, by omega, by decide⟩
  · rw [e1]
    show Q (.int (1 * 2 ^ ((((n - 1).log2 : Nat) : Int)).toNat)) H
    rw [Int.toNat_natCast, Int.one_mul, ← pow_cast]
    exact q

end

/-! ### the program's seals and tops -/
section
variable {P : Program} {w : World} {K : PySem.W.Frag} {mg : Str → Option Value} {base : Heap} {Fam : Sys → Prop}
def spNone (Fam : Sys → Prop) : Sp := fun vs H Q _ => ∃ (S : Sys) (r : Nat), Fam S ∧ vs = [.ref S.f] ∧ S.ok H (r + 1) ∧ ∀ v H', Ext H H' → S.ok H' r → S.den H' v nonT → Q v H'
theorem ok_none_seal {cc : Addr} (T : Txt K mg cc) (A : SlA P w K mg base Fam) : Cal P w K mg base 2 "none_seal" (spNone Fam) [] := by
  refine cal_of T.d_none_seal sc_none_seal (fun vs H Q E h => ?_) (fun f cdv A' outer s H vs Q E hr h => ?_)
  · obtain ⟨S, r, _, rfl, _⟩ := h
    rfl
  obtain ⟨S, r, hF, rfl, hok, q⟩ := h
  have G := A.good hF
  refine ⟨_, (pss_one (ps_ret (pe_sl (i := 0) A.held hr (by omega) rfl (by first | exact Or.inl rfl | exact Or.inr (Or.inl rfl) | exact Or.inr (Or.inr rfl)) (pa_cons pe_str (pa_cons pe_int (pa_cons pe_int pa_nil)))))), ?_⟩
  exact ⟨S, _, hF, rfl, hok, r, "none", .int 0, .int 0, _, _, rfl, by decide +kernel, hok, G.int 0 hok, G.int 0 hok, fun v H' e ok d => q v H' e ok d⟩
def spPair (Fam : Sys → Prop) : Sp := fun vs H Q _ => ∃ (S : Sys) (va vb : V) (a b : Tm) (r : Nat), Fam S ∧ vs = [.ref S.f, va, vb] ∧ S.ok H (r + 1) ∧ S.den H va a ∧ S.den H vb b ∧ ∀ v H', Ext H H' → S.ok H' r → S.den H' v (pairT a b) → Q v H'
theorem ok_pair_seal {cc : Addr} (T : Txt K mg cc) (A : SlA P w K mg base Fam) : Cal P w K mg base 2 "pair_seal" (spPair Fam) [] := by
  refine cal_of T.d_pair_seal sc_pair_seal (fun vs H Q E h => ?_) (fun f cdv A' outer s H vs Q E hr h => ?_)
  · obtain ⟨S, va, vb, a, b, r, _, rfl, _⟩ := h
    rfl
  obtain ⟨S, va, vb, a, b, r, hF, rfl, hok, ha, hb, q⟩ := h
  refine ⟨_, (pss_one (ps_ret (pe_sl (i := 0) A.held hr (by omega) rfl (by first | exact Or.inl rfl | exact Or.inr (Or.inl rfl) | exact Or.inr (Or.inr rfl)) (pa_cons pe_str (pa_cons (pv 1) (pa_cons (pv 2) pa_nil)))))), ?_⟩
  exact ⟨S, _, hF, rfl, hok, _, rfl, _, rfl, r, "pair", a, b, _, _, rfl, by decide +kernel, hok, ha, hb, fun v H' e ok d => q v H' e ok d⟩
end


/-! ### for the law: equal things are seen equal; the head -/
section
variable {K : PySem.W.Frag} {H : Hp} {S : Sys}
theorem shaped_of {d : PyData} (h : d.canLay0 = true) (hd : d.depth ≤ 64) : SeqAt.shaped d = true := by
  unfold SeqAt.shaped
  rw [h, decide_eq_true hd]
  rfl
theorem eqv_self {d : PyData} (h : d.canLay0 = true) : PyData.eqv d d = true := SeqAt.eqv_refl d h
theorem eq_rows (G : S.Good K) {p p' : Addr} {xs ys : List V} {ts : List Tm} (hp : SqL K H p xs) (hp' : SqL K H p' ys) (h : DenL S H xs ts) (h' : DenL S H ys ts) (hd : ∀ t ∈ ts, t.dep ≤ 60) :
    ∃ d, Dp K H (.ref p) d ∧ Dp K H (.ref p') d ∧ SeqAt.shaped d = true ∧ PyData.eqv d d = true := by
  obtain ⟨ds, a, b, c, e⟩ := DenL.same G h h' hd
  have c' : (PyData.list ds).canLay0 = true := c
  exact ⟨.list ds, .lst hp a, .lst hp' b, shaped_of c' (by show PyData.depthAll ds + 1 ≤ 64; omega), eqv_self c'⟩
theorem eq_tm (G : S.Good K) {v v' : V} {t : Tm} (h : S.den H v t) (h' : S.den H v' t) (hd : t.dep ≤ 60) :
    ∃ d, Dp K H v d ∧ Dp K H v' d ∧ SeqAt.shaped d = true ∧ PyData.eqv d d = true := by
  obtain ⟨d, a, b, c, e⟩ := G.same h h'
  exact ⟨d, a, b, shaped_of c (by omega), eqv_self c⟩
theorem ext_seq {K : PySem.W.Frag} {H H' : Hp} {a : Addr} {xs : List V} (e : LamX.ExtN H H') (h : SqL K H a xs) : SqL K H' a xs := by
  rcases h with (h | ⟨o, h⟩) | h
  · exact .inl (.inl (e _ _ h fun _ z => nomatch z))
  · exact .inl (.inr ⟨o, e _ _ h fun _ z => nomatch z⟩)
  · exact .inr h
end
/-- a row's places -/
theorem map_int_mem {l : List Int} {x : V} (h : x ∈ l.map V.int) : ∃ z ∈ l, x = .int z := by
  obtain ⟨z, hz, e⟩ := List.mem_map.mp h
  exact ⟨z, hz, e.symm⟩
/-- the law's promise; a table of code objects at PT -/
def spLaw (K : PySem.W.Frag) (PT : Addr) : Sp := fun vs H Q _ => ∃ (a : Addr) (ns : List Int), vs = [.ref a] ∧ SqL K H a (ns.map V.int) ∧ ns.length ≤ 63 ∧ H PT = some (.tbl #[]) ∧ ∀ H', Q (.bl true) H'
theorem law_end {l : PySem.W.OpenLaw} {w : World} {K : PySem.W.Frag} {h : Heap} {mg : Str → Option Value} {fa c PT : Addr} {k : Nat} (X : K.In h) (hP : ∀ Q ∈ [PT], h.get? Q = some (PySem.W.tabObj #[])) (nP : K.lookup PT = none) (hc : PySem.W.codeHdIn K c PT = true)
    (F : ∃ fd : FuncData, (∀ (s : Shared) (v : Value), BindsTo s fd ⟨[v], []⟩ [("_law_script", v)]) ∧ ∀ base : Heap, K.In base → base.Ns mainGlobals mg → LamX.TabB base mg c PT → FnOk l.prog w K mg base L2.CX0 k fa fd ["_law_script"] (spLaw K PT)) :
    LamX.LawAtS l w K L2.CX0 k 63 "_law_script" mg fa h := by
  obtain ⟨fd, hb, hF⟩ := F
  refine ⟨fd, [(c, PT)], spLaw K PT, fun p hp => ?_, fun p hp => ?_, fun p hp => ?_, hb, fun H a ns hl _ hT hS => ⟨a, ns, rfl, hS, hl, hT _ (List.mem_singleton.mpr rfl), fun _ => rfl⟩, fun base KB NB TB => hF base KB NB (TB _ (List.mem_singleton.mpr rfl))⟩
  · rw [List.mem_singleton.mp hp]
    exact hP PT (List.mem_singleton.mpr rfl)
  · rw [List.mem_singleton.mp hp]
    exact nP
  · rw [List.mem_singleton.mp hp]
    exact PySem.W.codeHd_of_K X hc
theorem law_fnT {P : Program} {w : World} {K : PySem.W.Frag} {mg : Str → Option Value} {x p : Str} {st : Stmt} {N : List Str} {k : Nat} {sp : Sp} {fa c PT : Addr} (D : DefX K mg x st [p]) (hfa : mg x = some (.ref fa)) (S : FnScope N [p] (defScope st)) (len : ∀ vs H Q E, sp vs H Q E → vs.length = 1)
    (hbody : ∀ (base : Heap), LamX.TabB base mg c PT → ∀ (f : Addr) (cdv : Value) (A : Around) (outer : List Env) (s : Shared) (H : Hp) (vs : List V) (Q : VK) (E : XK), Room k (A.deeper (envOfC x (defScope st) s.heap.objs.size f cdv)) → sp vs H Q E →
      ∃ t, PSs (cxOf L2.CX0 P w K mg base N x (defScope st) f cdv A outer s H E).nox (defBody st) t ∧ t { nx := fun _ H' => Q .non H', rt := Q } (start N vs) H) :
    ∃ fd : FuncData, (∀ (s : Shared) (v : Value), BindsTo s fd ⟨[v], []⟩ [(p, v)]) ∧ ∀ base : Heap, K.In base → base.Ns mainGlobals mg → LamX.TabB base mg c PT → FnOk P w K mg base L2.CX0 (k + 1) fa fd [p] sp := by
  obtain ⟨f, fd, F, m, b⟩ := D.ex
  have e := hfa.symm.trans m
  cases e
  exact ⟨fd, fun s v => .of_eq (b [v] rfl), fun base _ _ TB => F.ok S len (hbody base TB fa)⟩

/-! ### for one plain seal all things are told apart -/
def cmpT (_ _ : Tm) : Prop := True
theorem cmp_sl {m : Str} {i j : Int} {a b : Tm} (_ : cmpT a b) : cmpT (.sl m (.int i) a) (.sl m (.int j) b) := True.intro
structure Sys.Inj (K : PySem.W.Frag) (S : Sys) : Prop where
  inj : ∀ {H : Hp} {r : Nat} {v v' : V} {t t' : Tm}, S.ok H r → S.den H v t → S.den H v' t' → cmpT t t' → ∃ d d', Dp K H v d ∧ Dp K H v' d' ∧ d.canLay0 = true ∧ d'.canLay0 = true ∧ d.depth ≤ t.dep ∧ d'.depth ≤ t'.dep ∧ PyData.eqv d d' = decide (t = t')
theorem eqv_int (i j : Int) : PyData.eqv (.int i) (.int j) = decide (i = j) := by
  rw [PyData.eqv]
  first | rfl | simp [BEq.beq]
theorem eqv_str (x y : Str) : PyData.eqv (.str x) (.str y) = decide (x = y) := by
  rw [PyData.eqv]
  first | rfl | simp [BEq.beq]
theorem eqvP : ∀ t t' : Tm, PyData.eqv (datP t) (datP t') = decide (t = t')
  | .int i, .int j => by
    show PyData.eqv (.int i) (.int j) = _
    rw [eqv_int]
    by_cases h : i = j
    · rw [h]; simp
    · rw [decide_eq_false h, decide_eq_false (fun z => h (Tm.int.inj z))]
  | .str i, .str j => by
    show PyData.eqv (.str i) (.str j) = _
    rw [eqv_str]
    by_cases h : i = j
    · rw [h]; simp
    · rw [decide_eq_false h, decide_eq_false (fun z => h (Tm.str.inj z))]
  | .sl m a b, .sl m' a' b' => by
    show PyData.eqv (.tuple [.str m, datP a, datP b]) (.tuple [.str m', datP a', datP b']) = _
    rw [PyData.eqv, PyData.eqvAll, PyData.eqvAll, PyData.eqvAll, PyData.eqvAll, eqv_str, eqvP a a', eqvP b b']
    by_cases h1 : m = m' <;> by_cases h2 : a = a' <;> by_cases h3 : b = b' <;> simp [h1, h2, h3]
  | .int _, .str _ => rfl
  | .str _, .int _ => rfl
  | .int _, .sl _ _ _ => rfl
  | .sl _ _ _, .int _ => rfl
  | .str _, .sl _ _ _ => rfl
  | .sl _ _ _, .str _ => rfl

/-- rows told apart -/
theorem DenL.apart {K : PySem.W.Frag} {S : Sys} (I : S.Inj K) {H : Hp} {r n : Nat} (ok : S.ok H r) : ∀ {vs us : List V} {ts rs : List Tm}, DenL S H vs ts → DenL S H us rs → (∀ t ∈ ts, ∀ u ∈ rs, cmpT t u) → (∀ t ∈ ts, t.dep ≤ n) → (∀ t ∈ rs, t.dep ≤ n) →
    (∀ t ∈ ts, cmpT t t) → (∀ t ∈ rs, cmpT t t) → ∃ ds es, DpAll K H vs ds ∧ DpAll K H us es ∧ PyData.canLayAll0 ds = true ∧ PyData.canLayAll0 es = true ∧ PyData.depthAll ds ≤ n ∧ PyData.depthAll es ≤ n ∧ PyData.eqvAll ds es = decide (ts = rs)
  | vs, us, [], [], h, h', _, _, _, _, _ => by
    have e1 : vs = [] := List.eq_nil_of_length_eq_zero h.len
    have e2 : us = [] := List.eq_nil_of_length_eq_zero h'.len
    subst e1 e2
    exact ⟨[], [], .nil, .nil, rfl, rfl, Nat.zero_le _, Nat.zero_le _, by rw [PyData.eqvAll]; rfl⟩
  | [], _, t :: ts, _, h, _, _, _, _, _, _ => absurd h.len (by simp)
  | _, [], _, u :: rs, _, h', _, _, _, _, _ => absurd h'.len (by simp)
  | v :: vs, us, t :: ts, [], h, h', c, hd, hd', ct, cu => by
    have e2 : us = [] := List.eq_nil_of_length_eq_zero h'.len
    subst e2
    have t1 : DenL S H vs ts := h.drop 1
    obtain ⟨d, _, a1, _, a3, _, a4, _, _⟩ := I.inj ok (h.at_ 0 v t rfl rfl) (h.at_ 0 v t rfl rfl) (ct t List.mem_cons_self)
    obtain ⟨ds, es, b1, b2, b3, b4, b5, b6, b7⟩ := DenL.apart I ok t1 h' (fun t ht u hu => c t (List.mem_cons_of_mem _ ht) u hu) (fun t ht => hd t (List.mem_cons_of_mem _ ht)) hd' (fun t ht => ct t (List.mem_cons_of_mem _ ht)) cu
    cases b2
    refine ⟨d :: ds, [], .cons a1 b1, .nil, by rw [PyData.canLayAll0, a3, b3]; rfl, rfl, ?_, Nat.zero_le _, by rw [PyData.eqvAll]; first | rfl | simp⟩
    have := hd t List.mem_cons_self
    show max d.depth (PyData.depthAll ds) ≤ n
    omega
  | vs, u :: us, [], w :: rs, h, h', c, hd, hd', ct, cu => by
    have e2 : vs = [] := List.eq_nil_of_length_eq_zero h.len
    subst e2
    have t1 : DenL S H us rs := h'.drop 1
    obtain ⟨d, _, a1, _, a3, _, a4, _, _⟩ := I.inj ok (h'.at_ 0 u w rfl rfl) (h'.at_ 0 u w rfl rfl) (cu w List.mem_cons_self)
    obtain ⟨ds, es, b1, b2, b3, b4, b5, b6, b7⟩ := DenL.apart I ok h t1 (fun t ht u hu => c t ht u (List.mem_cons_of_mem _ hu)) hd (fun t ht => hd' t (List.mem_cons_of_mem _ ht)) ct (fun t ht => cu t (List.mem_cons_of_mem _ ht))
    cases b1
    refine ⟨[], d :: es, .nil, .cons a1 b2, rfl, by rw [PyData.canLayAll0, a3, b4]; rfl, Nat.zero_le _, ?_, by rw [PyData.eqvAll]; first | rfl | simp⟩
    have := hd' w List.mem_cons_self
    show max d.depth (PyData.depthAll es) ≤ n
    omega
  | v :: vs, u :: us, t :: ts, w :: rs, h, h', c, hd, hd', ct, cu => by
    have t1 : DenL S H vs ts := h.drop 1
    have t2 : DenL S H us rs := h'.drop 1
    obtain ⟨d, e, a1, a2, a3, a4, a5, a6, a7⟩ := I.inj ok (h.at_ 0 v t rfl rfl) (h'.at_ 0 u w rfl rfl) (c t List.mem_cons_self w List.mem_cons_self)
    obtain ⟨ds, es, b1, b2, b3, b4, b5, b6, b7⟩ := DenL.apart I ok t1 t2 (fun t ht u hu => c t (List.mem_cons_of_mem _ ht) u (List.mem_cons_of_mem _ hu)) (fun t ht => hd t (List.mem_cons_of_mem _ ht)) (fun t ht => hd' t (List.mem_cons_of_mem _ ht)) (fun t ht => ct t (List.mem_cons_of_mem _ ht)) (fun t ht => cu t (List.mem_cons_of_mem _ ht))
    refine ⟨d :: ds, e :: es, .cons a1 b1, .cons a2 b2, by rw [PyData.canLayAll0, a3, b3]; rfl, by rw [PyData.canLayAll0, a4, b4]; rfl, ?_, ?_, ?_⟩
    · have := hd t List.mem_cons_self
      show max d.depth (PyData.depthAll ds) ≤ n
      omega
    · have := hd' w List.mem_cons_self
      show max e.depth (PyData.depthAll es) ≤ n
      omega
    · rw [PyData.eqvAll, a7, b7]
      by_cases h1 : t = w <;> by_cases h2 : ts = rs <;> simp [h1, h2]
termination_by vs us ts rs => ts.length + rs.length
decreasing_by
  all_goals (simp; try omega)

def WS (_ : Tm) : Prop := True
theorem WS.any (t : Tm) : WS t := True.intro
theorem WS.leaf (x : Str) {a : Tm} (_ : WS a) : WS (.sl "leaf" (.str x) a) := True.intro
theorem WS.tab (i : Int) {a : Tm} (_ : WS a) : WS (.sl "table" (.int i) a) := True.intro
theorem WS.row (i : Int) (x : Str) : WS (.sl "row" (.int i) (.str x)) := True.intro
theorem WS.fork {a b : Tm} (_ : WS a) (_ : WS b) : WS (.sl "fork" a b) := True.intro
theorem WS.non : WS nonT := True.intro
theorem WS.pair {a b : Tm} (_ : WS a) (_ : WS b) : WS (pairT a b) := True.intro
theorem WS.book (i : Int) {a : Tm} (_ : WS a) : WS (.sl "book" (.int i) a) := True.intro
theorem WS.cmp {a : Tm} (_ : WS a) {b : Tm} (_ : WS b) : cmpT a b := True.intro
theorem topT_ws {ts : List Tm} (_ : ∀ t ∈ ts, WS t) : WS (topT ts) := True.intro

section
variable {K : PySem.W.Frag} {mg : Str → Option Value}
theorem inj1 {S : Sys} (h : Fam1 mg S) : S.Inj K := by
  obtain ⟨f, _, rfl⟩ := h
  exact ⟨fun _ h h' _ => ⟨_, _, h.dp.1, h'.dp.1, (DenP.dp (K := K) h).2.1, (DenP.dp (K := K) h').2.1, (DenP.dp (K := K) h).2.2, (DenP.dp (K := K) h').2.2, eqvP _ _⟩⟩
end

/-! ### methods that may raise -/
structure MetR (P : Program) (w : World) (K : PySem.W.Frag) (mg : Str → Option Value) (base : Heap) (k : Nat) (C : Addr) (m : Str) (sp : Sp) : Prop where
  ex : ∃ (f : Addr) (fd : FuncData) (ps : List Str), Cls K C ∧ Meth K C m f ∧ FnOk P w K mg base (L2.CX P w) k f fd ps sp ∧ Binds K fd ps []
theorem metR_of {P : Program} {w : World} {K : PySem.W.Frag} {mg : Str → Option Value} {base : Heap} {C : Addr} {m qual : Str} {st : Stmt} {N ps : List Str} {k : Nat} {sp : Sp} (c : Cls K C) (D : MetX K C m qual st ps) (S : FnScope N ps (defScope st)) (len : ∀ vs H Q E, sp vs H Q E → vs.length = ps.length)
    (hbody : ∀ (f : Addr) (cdv : Value) (A : Around) (outer : List Env) (s : Shared) (H : Hp) (vs : List V) (Q : VK) (E : XK), Room k (A.deeper (envOfC qual (defScope st) s.heap.objs.size f cdv)) → sp vs H Q E →
      ∃ t, PSs (cxOf (L2.CX P w) P w K mg base N qual (defScope st) f cdv A outer s H E) (defBody st) t ∧ t { nx := fun _ H' => Q .non H', rt := Q } (start N vs) H) : MetR P w K mg base (k + 1) C m sp := by
  obtain ⟨f, fd, F, me, b⟩ := D.ex
  exact ⟨f, fd, ps, c, me, F.okX S len (hbody f), .all b⟩
def tMethX (C : Addr) (m : Str) (sp : Sp) (E : L2.St → XK) (ta : TE) (t : TA) : TE := fun σ H Q => ta σ H fun x H1 => ∃ a dx fs, x = .ref a ∧ H1 a = some (.ins C dx fs) ∧ fs.lookup m = none ∧ t σ H1 fun vs H2 => sp (x :: vs) H2 Q (E σ)
section
variable {X : Cx} {k j : Nat} {C : Addr} {m : Str} {sp : Sp} {pos apos : Pos} {e o : Expr} {es : List Expr} {ta : TE} {t : TA} {W : WX}
theorem pe_mtx {pl : Sem Bool} (c : MetR X.prog X.w X.K X.mg X.base k C m sp) (tk : Takes X W) (hr : Room j X.A) (hk : k ≤ j) (he : PE X o ta) (ha : PA X (e :: es) t)
    (hst : starEach (e :: es) X.env = (false, eval e X.env) :: starEach es X.env := by rfl) (hpl : (backTo pos (starEach es X.env)).any (·.1) = false := by rfl)
    (ht : eval (.Call (.Attribute o m apos) (e :: es) [] pos) X.env = (do
      let ov ← eval o X.env
      standAt apos.atName
      let (f, first) ← holding [ov] (getMethod ov m pl)
      callWith pos f first (backTo pos (starEach (e :: es) X.env)) (backToKw pos (keywordEach [] X.env))) := by rfl) :
    PE X (.Call (.Attribute o m apos) (e :: es) [] pos) (tMethX C m sp (WE W) ta t) := by
  obtain ⟨f, fd, ps, hc, hm, F, b⟩ := c.ex
  refine ⟨fun pins s σ H Q I h => ?_⟩
  refine PySem.W.methodCall_KW (pl := pl) (thn (he.run pins s σ H _ I h) fun u s1 ⟨x, H1, I1, rx, a, dx, fs, ex, ea, l, q⟩ => ?_) ht
  subst ex
  obtain rfl : u = Value.ref a := rx
  refine getmeth_ok I1 ea hc hm l ?_
  refine PySem.W.callWith_K (first := [.ref a]) (h₀ := X.base) I.ok.mod.kin hm.kp (thn (ha.run pos pins s1 σ H1 _ I1 q) fun us s2 ⟨vs, H2, I2, r, q2⟩ => ⟨I2.kIn, ?_⟩) hst hpl
  exact run_fnS (us := .ref a :: us) (vs := .ref a :: vs) F (hr.mono hk) b (passAt tk σ) I2 (.cons rfl r) q2
end

/-! ### methods that may raise, called with defaults -/
structure MetRD (P : Program) (w : World) (K : PySem.W.Frag) (mg : Str → Option Value) (base : Heap) (k : Nat) (C : Addr) (m : Str) (sp : Sp) (dvs : List V) : Prop where
  ex : ∃ (f : Addr) (fd : FuncData) (ps : List Str) (ds : List Value), Cls K C ∧ Meth K C m f ∧ FnOk P w K mg base (L2.CX P w) k f fd ps sp ∧ Binds K fd ps ds ∧ Vals dvs ds
theorem MetR.d {P : Program} {w : World} {K : PySem.W.Frag} {mg : Str → Option Value} {base : Heap} {C : Addr} {m : Str} {k : Nat} {sp : Sp} (c : MetR P w K mg base k C m sp) : MetRD P w K mg base k C m sp [] := by
  obtain ⟨f, fd, ps, hc, hm, F, b⟩ := c.ex
  exact ⟨f, fd, ps, [], hc, hm, F, b, .nil⟩
theorem metRD_of {P : Program} {w : World} {K : PySem.W.Frag} {mg : Str → Option Value} {base : Heap} {C : Addr} {m qual : Str} {st : Stmt} {N ps : List Str} {dvs : List V} {k : Nat} {sp : Sp} (n j : Nat) (c : Cls K C) (D : MetD K C m qual st ps dvs) (hd : dvs ≠ []) (hn : n + (dvs.length - j) = ps.length)
    (hb : ∀ (T : Addr) (kV doc pm : Value) (an : Option Addr) (cdv ct : Value) (us its : List Value), us.length = n → its.length = dvs.length →
      ∃ k, bindArgs (PySem.W.fnOf m qual (defArgs st) (defBody st) (defScope st) (.ref T) kV doc pm an cdv ct) ⟨us, []⟩ = seqItems? (.ref T) >>= k ∧ k (some its.toArray) = pure (ps.zip (us ++ its.drop j)))
    (S : FnScope N ps (defScope st)) (len : ∀ vs H Q E, sp vs H Q E → vs.length = ps.length)
    (hbody : ∀ (f : Addr) (cdv : Value) (A : Around) (outer : List Env) (s : Shared) (H : Hp) (vs : List V) (Q : VK) (E : XK), Room k (A.deeper (envOfC qual (defScope st) s.heap.objs.size f cdv)) → sp vs H Q E →
      ∃ t, PSs (cxOf (L2.CX P w) P w K mg base N qual (defScope st) f cdv A outer s H E) (defBody st) t ∧ t { nx := fun _ H' => Q .non H', rt := Q } (start N vs) H) : MetRD P w K mg base (k + 1) C m sp (dvs.drop j) := by
  obtain ⟨f, fd, F, me⟩ := D.ex
  obtain ⟨ds, d, b⟩ := F.binds1 n j hd hn hb
  exact ⟨f, fd, ps, ds, c, me, F.ok S len (hbody f), b, d⟩
def tMethXD (C : Addr) (m : Str) (sp : Sp) (dvs : List V) (E : L2.St → XK) (ta : TE) (t : TA) : TE := fun σ H Q => ta σ H fun x H1 => ∃ a dx fs, x = .ref a ∧ H1 a = some (.ins C dx fs) ∧ fs.lookup m = none ∧ t σ H1 fun vs H2 => sp ((x :: vs) ++ dvs) H2 Q (E σ)
section
variable {X : Cx} {k j : Nat} {C : Addr} {m : Str} {sp : Sp} {dvs : List V} {pos apos : Pos} {e o : Expr} {es : List Expr} {ta : TE} {t : TA} {W : WX}
theorem pe_mtd {pl : Sem Bool} (c : MetRD X.prog X.w X.K X.mg X.base k C m sp dvs) (tk : Takes X W) (hr : Room j X.A) (hk : k ≤ j) (he : PE X o ta) (ha : PA X (e :: es) t)
    (hst : starEach (e :: es) X.env = (false, eval e X.env) :: starEach es X.env := by rfl) (hpl : (backTo pos (starEach es X.env)).any (·.1) = false := by rfl)
    (ht : eval (.Call (.Attribute o m apos) (e :: es) [] pos) X.env = (do
      let ov ← eval o X.env
      standAt apos.atName
      let (f, first) ← holding [ov] (getMethod ov m pl)
      callWith pos f first (backTo pos (starEach (e :: es) X.env)) (backToKw pos (keywordEach [] X.env))) := by rfl) :
    PE X (.Call (.Attribute o m apos) (e :: es) [] pos) (tMethXD C m sp dvs (WE W) ta t) := by
  obtain ⟨f, fd, ps, ds, hc, hm, F, b, d⟩ := c.ex
  refine ⟨fun pins s σ H Q I h => ?_⟩
  refine PySem.W.methodCall_KW (pl := pl) (thn (he.run pins s σ H _ I h) fun u s1 ⟨x, H1, I1, rx, a, dx, fs, ex, ea, l, q⟩ => ?_) ht
  subst ex
  obtain rfl : u = Value.ref a := rx
  refine getmeth_ok I1 ea hc hm l ?_
  refine PySem.W.callWith_K (first := [.ref a]) (h₀ := X.base) I.ok.mod.kin hm.kp (thn (ha.run pos pins s1 σ H1 _ I1 q) fun us s2 ⟨vs, H2, I2, r, q2⟩ => ⟨I2.kIn, ?_⟩) hst hpl
  exact run_fnSD (us := .ref a :: us) (vs := .ref a :: vs) F (hr.mono hk) b d (passAt tk σ) I2 (.cons rfl r) q2
theorem pe_mtd0 {pl : Sem Bool} (c : MetRD X.prog X.w X.K X.mg X.base k C m sp dvs) (tk : Takes X W) (hr : Room j X.A) (hk : k ≤ j) (he : PE X o ta)
    (ht : eval (.Call (.Attribute o m apos) [] [] pos) X.env = (do
      let ov ← eval o X.env
      standAt apos.atName
      let (f, first) ← holding [ov] (getMethod ov m pl)
      callWith pos f first (backTo pos (starEach [] X.env)) (backToKw pos (keywordEach [] X.env))) := by rfl) :
    PE X (.Call (.Attribute o m apos) [] [] pos) (tMethXD C m sp dvs (WE W) ta tNil) := by
  obtain ⟨f, fd, ps, ds, hc, hm, F, b, d⟩ := c.ex
  refine ⟨fun pins s σ H Q I h => ?_⟩
  refine PySem.W.methodCall_KW (pl := pl) (thn (he.run pins s σ H _ I h) fun u s1 ⟨x, H1, I1, rx, a, dx, fs, ex, ea, l, q⟩ => ?_) ht
  subst ex
  obtain rfl : u = Value.ref a := rx
  refine getmeth_ok I1 ea hc hm l ?_
  exact PySem.W.callWith_K0 (first := [.ref a]) I1.kIn hm.kp (run_fnSD (us := [.ref a]) (vs := [.ref a]) F (hr.mono hk) b d (passAt tk σ) I1 (.cons rfl .nil) q)
end

/-! ### C.m(self, ..) -/
structure CalM (P : Program) (w : World) (K : PySem.W.Frag) (mg : Str → Option Value) (base : Heap) (k : Nat) (C : Addr) (m : Str) (sp : Sp) : Prop where
  ex : ∃ (f : Addr) (fd : FuncData) (ps : List Str), ClX.CRead K C (.type "type") ∧ PySem.W.findCls K (.ref C) (.type "type") m = some (.val (.ref f)) ∧ PySem.W.keepIn K (.ref f) = true ∧ FnOk P w K mg base (L2.CX P w) k f fd ps sp ∧ Binds K fd ps []
theorem calM_of {P : Program} {w : World} {K : PySem.W.Frag} {mg : Str → Option Value} {base : Heap} {C : Addr} {x m qual : Str} {st : Stmt} {N ps : List Str} {k : Nat} {sp : Sp} (D : ClsM K mg C x m qual st ps) (S : FnScope N ps (defScope st)) (len : ∀ vs H Q E, sp vs H Q E → vs.length = ps.length)
    (hbody : ∀ (f : Addr) (cdv : Value) (A : Around) (outer : List Env) (s : Shared) (H : Hp) (vs : List V) (Q : VK) (E : XK), Room k (A.deeper (envOfC qual (defScope st) s.heap.objs.size f cdv)) → sp vs H Q E →
      ∃ t, PSs (cxOf (L2.CX P w) P w K mg base N qual (defScope st) f cdv A outer s H E) (defBody st) t ∧ t { nx := fun _ H' => Q .non H', rt := Q } (start N vs) H) : CalM P w K mg base (k + 1) C m sp := by
  obtain ⟨f, fd, r, a, F, kp, b⟩ := D.ex
  exact ⟨f, fd, ps, r, a, kp, F.okX S len (hbody f), .all b⟩
def tClsM (C : Addr) (sp : Sp) (E : L2.St → XK) (ta : TE) (t : TA) : TE := fun σ H Q => ta σ H fun x H1 => x = .ref C ∧ t σ H1 fun vs H2 => sp vs H2 Q (E σ)
/-- o.m(..), o of one of a few classes -/
def tMethA (cs : Addr → Sp → Prop) (m : Str) (E : L2.St → XK) (ta : TE) (t : TA) : TE := fun σ H Q => ta σ H fun x H1 => ∃ C sp a dx fs, cs C sp ∧ x = .ref a ∧ H1 a = some (.ins C dx fs) ∧ fs.lookup m = none ∧ t σ H1 fun vs H2 => sp (x :: vs) H2 Q (E σ)
section
variable {X : Cx} {k j : Nat} {C : Addr} {m : Str} {sp : Sp} {cs : Addr → Sp → Prop} {pos apos : Pos} {e o : Expr} {es : List Expr} {ta : TE} {t : TA} {W : WX}
theorem pe_clm {pl : Sem Bool} (c : CalM X.prog X.w X.K X.mg X.base k C m sp) (tk : Takes X W) (hr : Room j X.A) (hk : k ≤ j) (he : PE X o ta) (ha : PA X (e :: es) t)
    (hst : starEach (e :: es) X.env = (false, eval e X.env) :: starEach es X.env := by rfl) (hpl : (backTo pos (starEach es X.env)).any (·.1) = false := by rfl)
    (ht : eval (.Call (.Attribute o m apos) (e :: es) [] pos) X.env = (do
      let ov ← eval o X.env
      standAt apos.atName
      let (f, first) ← holding [ov] (getMethod ov m pl)
      callWith pos f first (backTo pos (starEach (e :: es) X.env)) (backToKw pos (keywordEach [] X.env))) := by rfl) :
    PE X (.Call (.Attribute o m apos) (e :: es) [] pos) (tClsM C sp (WE W) ta t) := by
  obtain ⟨f, fd, ps, r, at_, kp, F, b⟩ := c.ex
  refine ⟨fun pins s σ H Q I h => ?_⟩
  refine PySem.W.methodCall_KW (pl := pl) (thn (he.run pins s σ H _ I h) fun u s1 ⟨x, H1, I1, rx, ex, q⟩ => ?_) ht
  subst ex
  obtain rfl : u = Value.ref C := rx
  refine PySem.W.method_cls I1.kIn r.ga (PySem.W.cls_value I1.kIn r.rd at_ rfl ?_)
  have I2 := I1.tok (s1.toks + 1)
  refine PySem.W.callWith_K (first := []) (h₀ := X.base) I2.ok.mod.kin kp (thn (ha.run pos pins _ σ H1 _ I2 q) fun us s2 ⟨vs, H2, I3, r2, q2⟩ => ⟨I3.kIn, ?_⟩) hst hpl
  exact run_fnS (us := us) (vs := vs) F (hr.mono hk) b (passAt tk σ) I3 r2 q2
theorem pe_mta {pl : Sem Bool} (c : ∀ C sp, cs C sp → MetR X.prog X.w X.K X.mg X.base k C m sp) (tk : Takes X W) (hr : Room j X.A) (hk : k ≤ j) (he : PE X o ta) (ha : PA X (e :: es) t)
    (hst : starEach (e :: es) X.env = (false, eval e X.env) :: starEach es X.env := by rfl) (hpl : (backTo pos (starEach es X.env)).any (·.1) = false := by rfl)
    (ht : eval (.Call (.Attribute o m apos) (e :: es) [] pos) X.env = (do
      let ov ← eval o X.env
      standAt apos.atName
      let (f, first) ← holding [ov] (getMethod ov m pl)
      callWith pos f first (backTo pos (starEach (e :: es) X.env)) (backToKw pos (keywordEach [] X.env))) := by rfl) :
    PE X (.Call (.Attribute o m apos) (e :: es) [] pos) (tMethA cs m (WE W) ta t) := by
  refine ⟨fun pins s σ H Q I h => ?_⟩
  refine PySem.W.methodCall_KW (pl := pl) (thn (he.run pins s σ H _ I h) fun u s1 ⟨x, H1, I1, rx, C, sp, a, dx, fs, hc0, ex, ea, l, q⟩ => ?_) ht
  obtain ⟨f, fd, ps, hc, hm, F, b⟩ := (c C sp hc0).ex
  subst ex
  obtain rfl : u = Value.ref a := rx
  refine getmeth_ok I1 ea hc hm l ?_
  refine PySem.W.callWith_K (first := [.ref a]) (h₀ := X.base) I.ok.mod.kin hm.kp (thn (ha.run pos pins s1 σ H1 _ I1 q) fun us s2 ⟨vs, H2, I2, r, q2⟩ => ⟨I2.kIn, ?_⟩) hst hpl
  exact run_fnS (us := .ref a :: us) (vs := .ref a :: vs) F (hr.mono hk) b (passAt tk σ) I2 (.cons rfl r) q2
end

/-! ### numbers and words drawn -/
section
variable {P : Program} {w : World} {K : PySem.W.Frag} {mg : Str → Option Value} {base : Heap}
def spDraw : Sp := fun vs H Q _ => ∃ (c k m : Int), vs = [.int c, .int k, .int m] ∧ 0 ≤ k ∧ k < 1000000 ∧ 0 < m ∧ ∀ (z : Int) (H' : Hp), 0 ≤ z → z < m → Same H H' → Q (.int z) H'
theorem prime_pos : ∀ i : Nat, i < 16 → ∃ z : Int, 0 < z ∧ ([.int 1000003, .int 1000033, .int 1000037, .int 1000039, .int 1000081, .int 1000099, .int 1000117, .int 1000121, .int 1000133, .int 1000151, .int 1000159, .int 1000171, .int 1000183, .int 1000187, .int 1000193, .int 1000199] : List V)[i]? = some (V.int z)
  | 0, _ => ⟨_, by decide, rfl⟩
  | 1, _ => ⟨_, by decide, rfl⟩
  | 2, _ => ⟨_, by decide, rfl⟩
  | 3, _ => ⟨_, by decide, rfl⟩
  | 4, _ => ⟨_, by decide, rfl⟩
  | 5, _ => ⟨_, by decide, rfl⟩
  | 6, _ => ⟨_, by decide, rfl⟩
  | 7, _ => ⟨_, by decide, rfl⟩
  | 8, _ => ⟨_, by decide, rfl⟩
  | 9, _ => ⟨_, by decide, rfl⟩
  | 10, _ => ⟨_, by decide, rfl⟩
  | 11, _ => ⟨_, by decide, rfl⟩
  | 12, _ => ⟨_, by decide, rfl⟩
  | 13, _ => ⟨_, by decide, rfl⟩
  | 14, _ => ⟨_, by decide, rfl⟩
  | 15, _ => ⟨_, by decide, rfl⟩
  | n + 16, h => absurd h (by omega)
theorem ok_draw {cc : Addr} (T : Txt K mg cc) : Cal P w K mg base 1 "_law_draw" spDraw [] := by
  have Z := T.Z
  refine cal_of T.d__law_draw sc__law_draw (fun vs H Q E h => ?_) (fun f cdv A outer s H vs Q E hr h => ?_)
  · obtain ⟨c, k, m, rfl, _⟩ := h
    rfl
  obtain ⟨c, k, m, rfl, k0, k1, m0, q⟩ := h
  refine ⟨_, (pss_cons (ps_set (i := 3) sc__law_draw.nd rfl (Or.inl rfl) (pe_tup (pa_cons pe_int (pa_cons pe_int (pa_cons pe_int (pa_cons pe_int (pa_cons pe_int (pa_cons pe_int (pa_cons pe_int (pa_cons pe_int (pa_cons pe_int (pa_cons pe_int (pa_cons pe_int (pa_cons pe_int (pa_cons pe_int (pa_cons pe_int (pa_cons pe_int (pa_cons pe_int pa_nil))))))))))))))))))
  (pss_one (ps_ret (pe_op op_mod (pe_op op_mod (pe_op op_add (pe_op op_mul (pv 0) pe_int) (pe_op op_mul (pv 1) pe_int)) (pe_ix ix_tup (pv 3) (pe_op op_mod (pv 1) pe_int) (fun _ _ => rfl))) (pv 2))))), ?_⟩
  refine ⟨by show 16 ≤ sizeLine; decide, fun p hp => ?_⟩
  obtain ⟨i, hi⟩ := Int.eq_ofNat_of_zero_le (Int.emod_nonneg k (show (16 : Int) ≠ 0 by decide))
  have hi16 : i < 16 := by
    have := Int.emod_lt_of_pos k (show (0 : Int) < 16 by decide)
    omega
  obtain ⟨z, hz, hzi⟩ := prime_pos i hi16
  refine ⟨_, rfl, _, _, rfl, rfl, .inr ⟨by decide, by decide⟩, _, rfl, _, _, rfl, rfl, .inr ⟨by decide, by decide⟩, _, _, rfl, rfl, _, rfl, _, rfl, _, 16, rfl, rfl, (by show (0 : Int) < 16; decide), p, _, _, V.int z, rfl, rfl, SqT.of upd_same, by rw [hi]; exact atI_nat hzi, ?_⟩
  refine ⟨_, _, rfl, rfl, hz, _, rfl, _, _, rfl, rfl, m0, ?_⟩
  exact q _ _ (Int.emod_nonneg _ (by omega)) (Int.emod_lt_of_pos _ m0) (same_upd hp)
end

/-! ### heaps where one instance may change -/
structure ExtO (p : Addr) (H H' : Hp) : Prop where
  keep : ∀ a o, a ≠ p → H a = some o → (∀ kvs, o ≠ .dT kvs) → H' a = some o
  grow : ∀ a kvs, H a = some (.dT kvs) → ∃ more, H' a = some (.dT (kvs ++ more))
  gr : Gr H H'
theorem Ext.o {p : Addr} {H H' : Hp} (e : Ext H H') : ExtO p H H' := ⟨fun a o _ h n => e.keep a o h n, e.grow, e.gr⟩
theorem ExtO.trans {p : Addr} {H H1 H2 : Hp} (a : ExtO p H H1) (b : ExtO p H1 H2) : ExtO p H H2 := by
  refine ⟨fun x o q e n => b.keep x o q (a.keep x o q e n) n, fun x kvs e => ?_, a.gr.trans b.gr⟩
  obtain ⟨m1, e1⟩ := a.grow x kvs e
  obtain ⟨m2, e2⟩ := b.grow x _ e1
  exact ⟨m1 ++ m2, by rw [e2, List.append_assoc]⟩
theorem ExtO.put {p C dx : Addr} {H : Hp} {fs : List (Str × V)} {o : HO} (h : H p = some (.ins C dx fs)) : ExtO p H (upd H p o) := by
  refine ⟨fun a u q e _ => by rw [upd_ne q]; exact e, fun a kvs e => ⟨[], ?_⟩, (Kp.ins h).gr⟩
  rw [List.append_nil, upd_ne]
  · exact e
  · rintro rfl
    rw [h] at e
    cases e
theorem ExtO.lst {p a : Addr} {H H' : Hp} {xs : List V} (e : ExtO p H H') (q : a ≠ p) (h : H a = some (.lst xs)) : H' a = some (.lst xs) := e.keep _ _ q h fun _ z => nomatch z
theorem ExtO.ins {p a C dx : Addr} {H H' : Hp} {fs : List (Str × V)} (e : ExtO p H H') (q : a ≠ p) (h : H a = some (.ins C dx fs)) : H' a = some (.ins C dx fs) := e.keep _ _ q h fun _ z => nomatch z
/-- the instance was made behind H -/
theorem ExtO.ext {p : Addr} {H H1 H' : Hp} (e : ExtO p H1 H') (x : Ext H H1) (hp : H p = none) : Ext H H' := by
  refine ⟨fun a o h n => e.keep a o (ne_of_none h hp) (x.keep a o h n) n, fun a kvs h => ?_⟩
  obtain ⟨m1, e1⟩ := x.grow a kvs h
  obtain ⟨m2, e2⟩ := e.grow a _ e1
  exact ⟨m1 ++ m2, by rw [e2, List.append_assoc]⟩

/-! ### figures -/
theorem txt_of_tl {x : Str} (h : ∀ c ∈ TL.tl x, c < 0x110000) : txtOk x = true := by
  show x.cps.all (· < 0x110000) = true
  rw [Array.all_eq_true']
  intro c hc
  exact decide_eq_true (h c (by rw [← Array.mem_toList_iff] at hc; exact hc))
theorem txt_num (n : Nat) : txtOk (Str.ofString (toString ((n : Nat) : Int))) = true := by
  refine txt_of_tl fun c hc => ?_
  rw [TL.tl_num] at hc
  have := TL.numL_digits n c hc
  omega
theorem log_small {z : Int} (h0 : 0 ≤ z) (h : z < 2 ^ 64) : z.natAbs.log2 < 1920 := by
  obtain ⟨n, rfl⟩ := Int.eq_ofNat_of_zero_le h0
  have h1 : n < 2 ^ 64 := by omega
  rw [Int.natAbs_natCast]
  by_cases c : n = 0
  · subst c; decide
  · have := (Nat.log2_lt c).mpr h1
    omega
theorem cut_ints (ks : List Int) (lo hi : Option Int) : ∃ ks' : List Int, cutV (ks.map V.int) lo hi = ks'.map V.int ∧ (∀ k ∈ ks', k ∈ ks) ∧ ks'.length ≤ ks.length := by
  unfold cutV
  rw [List.length_map, ← List.map_drop, ← List.map_take]
  refine ⟨_, rfl, fun k hk => List.mem_of_mem_drop (List.mem_of_mem_take hk), ?_⟩
  rw [List.length_take, List.length_drop]
  omega

open SX (S S_len S_inj S_cat)
/-! ### the program's other seals -/
section
variable {P : Program} {w : World} {K : PySem.W.Frag} {mg : Str → Option Value} {base : Heap} {Fam : Sys → Prop}
def spMark (m : Str) (Fam : Sys → Prop) : Sp := fun vs H Q _ => ∃ (S : Sys) (va vb : V) (a b : Tm) (r : Nat), Fam S ∧ vs = [.ref S.f, va, vb] ∧ S.ok H (r + 1) ∧ S.den H va a ∧ S.den H vb b ∧ ∀ v H', Ext H H' → S.ok H' r → S.den H' v (.sl m a b) → Q v H'
theorem ok_leaf_seal {cc : Addr} (T : Txt K mg cc) (A : SlA P w K mg base Fam) : Cal P w K mg base 2 "leaf_seal" (spMark "leaf" Fam) [] := by
  refine cal_of T.d_leaf_seal sc_leaf_seal (fun vs H Q E h => ?_) (fun f cdv A' outer s H vs Q E hr h => ?_)
  · obtain ⟨S, va, vb, a, b, r, _, rfl, _⟩ := h
    rfl
  obtain ⟨S, va, vb, a, b, r, hF, rfl, hok, ha, hb, q⟩ := h
  refine ⟨_, (pss_one (ps_ret (pe_sl (i := 0) A.held hr (by omega) rfl (by first | exact Or.inl rfl | exact Or.inr (Or.inl rfl) | exact Or.inr (Or.inr rfl)) (pa_cons pe_str (pa_cons (pv 1) (pa_cons (pv 2) pa_nil)))))), ?_⟩
  exact ⟨S, _, hF, rfl, hok, _, rfl, _, rfl, r, "leaf", a, b, _, _, rfl, by decide +kernel, hok, ha, hb, fun v H' e ok d => q v H' e ok d⟩
theorem ok_book_seal {cc : Addr} (T : Txt K mg cc) (A : SlA P w K mg base Fam) : Cal P w K mg base 2 "book_seal" (spMark "book" Fam) [] := by
  refine cal_of T.d_book_seal sc_book_seal (fun vs H Q E h => ?_) (fun f cdv A' outer s H vs Q E hr h => ?_)
  · obtain ⟨S, va, vb, a, b, r, _, rfl, _⟩ := h
    rfl
  obtain ⟨S, va, vb, a, b, r, hF, rfl, hok, ha, hb, q⟩ := h
  refine ⟨_, (pss_one (ps_ret (pe_sl (i := 0) A.held hr (by omega) rfl (by first | exact Or.inl rfl | exact Or.inr (Or.inl rfl) | exact Or.inr (Or.inr rfl)) (pa_cons pe_str (pa_cons (pv 1) (pa_cons (pv 2) pa_nil)))))), ?_⟩
  exact ⟨S, _, hF, rfl, hok, _, rfl, _, rfl, r, "book", a, b, _, _, rfl, by decide +kernel, hok, ha, hb, fun v H' e ok d => q v H' e ok d⟩
end

section
variable {P : Program} {w : World} {K : PySem.W.Frag} {mg : Str → Option Value} {base : Heap} {Fam : Sys → Prop}
theorem ok_table_seal {cc : Addr} (T : Txt K mg cc) (A : SlA P w K mg base Fam) : Cal P w K mg base 2 "table_seal" (spMark "table" Fam) [] := by
  refine cal_of T.d_table_seal sc_table_seal (fun vs H Q E h => ?_) (fun f cdv A' outer s H vs Q E hr h => ?_)
  · obtain ⟨S, va, vb, a, b, r, _, rfl, _⟩ := h
    rfl
  obtain ⟨S, va, vb, a, b, r, hF, rfl, hok, ha, hb, q⟩ := h
  refine ⟨_, (pss_one (ps_ret (pe_sl (i := 0) A.held hr (by omega) rfl (by first | exact Or.inl rfl | exact Or.inr (Or.inl rfl) | exact Or.inr (Or.inr rfl)) (pa_cons pe_str (pa_cons (pv 1) (pa_cons (pv 2) pa_nil)))))), ?_⟩
  exact ⟨S, _, hF, rfl, hok, _, rfl, _, rfl, r, "table", a, b, _, _, rfl, by decide +kernel, hok, ha, hb, fun v H' e ok d => q v H' e ok d⟩

end

/-! ### paths -/
def plen (place n : Nat) : Nat :=
  if h : n < 2 then 0 else if place < splitN n then plen place (splitN n) + 1 else plen (place - splitN n) (n - splitN n) + 1
termination_by n
decreasing_by
  · exact splitN_lt (by omega)
  · have := splitN_pos n
    omega
theorem plen_one {place n : Nat} (h : n < 2) : plen place n = 0 := by rw [plen, dif_pos h]
theorem plen_low {place n : Nat} (h : 2 ≤ n) (hp : place < splitN n) : plen place n = plen place (splitN n) + 1 := by rw [plen, dif_neg (by omega), if_pos hp]
theorem plen_high {place n : Nat} (h : 2 ≤ n) (hp : ¬ place < splitN n) : plen place n = plen (place - splitN n) (n - splitN n) + 1 := by rw [plen, dif_neg (by omega), if_neg hp]
theorem plen_le : ∀ (k place n : Nat), n ≤ 2 ^ k → plen place n ≤ k
  | k, place, n, h => by
    by_cases h2 : n < 2
    · rw [plen_one h2]
      exact Nat.zero_le _
    · cases k with
      | zero => simp at h; omega
      | succ k =>
        obtain ⟨a, b⟩ := splitN_le_pow (show 2 ≤ n by omega) h
        by_cases hp : place < splitN n
        · rw [plen_low (by omega) hp]
          have := plen_le k place (splitN n) a
          omega
        · rw [plen_high (by omega) hp]
          have := plen_le k (place - splitN n) (n - splitN n) b
          omega
def pathT (ts : List Tm) (place : Nat) : List Tm :=
  if h : ts.length < 2 then [] else
    if place < splitN ts.length then pathT (ts.take (splitN ts.length)) place ++ [topT (ts.drop (splitN ts.length))]
    else pathT (ts.drop (splitN ts.length)) (place - splitN ts.length) ++ [topT (ts.take (splitN ts.length))]
termination_by ts.length
decreasing_by
  · rw [List.length_take]
    have := splitN_lt (n := ts.length) (by omega)
    omega
  · rw [List.length_drop]
    have := splitN_pos ts.length
    omega
theorem pathT_one {ts : List Tm} {place : Nat} (h : ts.length < 2) : pathT ts place = [] := by rw [pathT, dif_pos h]
theorem pathT_low {ts : List Tm} {place : Nat} (h : 2 ≤ ts.length) (hp : place < splitN ts.length) : pathT ts place = pathT (ts.take (splitN ts.length)) place ++ [topT (ts.drop (splitN ts.length))] := by
  rw [pathT, dif_neg (by omega), if_pos hp]
theorem pathT_high {ts : List Tm} {place : Nat} (h : 2 ≤ ts.length) (hp : ¬ place < splitN ts.length) : pathT ts place = pathT (ts.drop (splitN ts.length)) (place - splitN ts.length) ++ [topT (ts.take (splitN ts.length))] := by
  rw [pathT, dif_neg (by omega), if_neg hp]
theorem pathT_len (ts : List Tm) (place : Nat) : (pathT ts place).length = plen place ts.length := by
  by_cases h : ts.length < 2
  · rw [pathT_one h, plen_one h]
    rfl
  · have hs := splitN_lt (n := ts.length) (by omega)
    have hs0 := splitN_pos ts.length
    have e1 : (ts.take (splitN ts.length)).length = splitN ts.length := by
      rw [List.length_take]
      omega
    have e2 : (ts.drop (splitN ts.length)).length = ts.length - splitN ts.length := List.length_drop
    by_cases hp : place < splitN ts.length
    · rw [pathT_low (by omega) hp, plen_low (by omega) hp, List.length_append, pathT_len, e1]
      rfl
    · rw [pathT_high (by omega) hp, plen_high (by omega) hp, List.length_append, pathT_len, e2]
      rfl
termination_by ts.length
decreasing_by
  · rw [List.length_take]; omega
  · rw [List.length_drop]; omega
theorem pathT_mem {ts : List Tm} {place : Nat} {P : Tm → Prop} (hp : ∀ us : List Tm, (∀ t ∈ us, t ∈ ts) → us.length ≤ ts.length → P (topT us)) : ∀ t ∈ pathT ts place, P t := by
  intro t ht
  rw [pathT] at ht
  split at ht
  · cases ht
  · rename_i h
    have hs := splitN_lt (n := ts.length) (by omega)
    have hs0 := splitN_pos ts.length
    split at ht
    · rcases List.mem_append.mp ht with h1 | h1
      · exact pathT_mem (fun us hu hl => hp us (fun t h => List.mem_of_mem_take (hu t h)) (by rw [List.length_take] at hl; omega)) t h1
      · rw [List.mem_singleton.mp h1]
        exact hp _ (fun t h => List.mem_of_mem_drop h) (by rw [List.length_drop]; omega)
    · rcases List.mem_append.mp ht with h1 | h1
      · exact pathT_mem (fun us hu hl => hp us (fun t h => List.mem_of_mem_drop (hu t h)) (by rw [List.length_drop] at hl; omega)) t h1
      · rw [List.mem_singleton.mp h1]
        exact hp _ (fun t h => List.mem_of_mem_take h) (by rw [List.length_take]; omega)
termination_by ts.length
decreasing_by
  · rw [List.length_drop]; omega
  · rw [List.length_take]; omega
/-- a path is asked -/
def spPath (K : PySem.W.Frag) (Fam : Sys → Prop) (k : Nat) : Sp := fun vs H Q _ => ∃ (S : Sys) (a : Addr) (xs : List V) (ts : List Tm) (place r : Nat), Fam S ∧ vs = [.ref S.f, .ref a, .int (place : Int)] ∧ SqL K H a xs ∧ DenL S H xs ts ∧ k ≠ 0 ∧ ts.length ≤ 2 ^ (k - 1) ∧ ts.length ≤ 1000 ∧ place < ts.length ∧ S.ok H (r + costT ts.length) ∧
  ∀ p ys H', Ext H H' → H p = none → H' p = some (.lst ys) → S.ok H' r → DenL S H' ys (pathT ts place) → Q (.ref p) H'
/-! ### what a leaf and a path come to -/
/-- the tops by the way from above, and whether the place lies in the first part -/
def sidesT (place n : Nat) (path : List Tm) : List (Tm × Bool) :=
  if h : n < 2 then [] else
    if place < splitN n then (path.getLastD nonT, true) :: sidesT place (splitN n) path.dropLast
    else (path.getLastD nonT, false) :: sidesT (place - splitN n) (n - splitN n) path.dropLast
termination_by n
decreasing_by
  · exact splitN_lt (by omega)
  · have := splitN_pos n
    omega
theorem sidesT_one {place n : Nat} {path : List Tm} (h : n < 2) : sidesT place n path = [] := by rw [sidesT, dif_pos h]
theorem sidesT_low {place n : Nat} {path : List Tm} (h : 2 ≤ n) (hp : place < splitN n) : sidesT place n path = (path.getLastD nonT, true) :: sidesT place (splitN n) path.dropLast := by rw [sidesT, dif_neg (by omega), if_pos hp]
theorem sidesT_high {place n : Nat} {path : List Tm} (h : 2 ≤ n) (hp : ¬ place < splitN n) : sidesT place n path = (path.getLastD nonT, false) :: sidesT (place - splitN n) (n - splitN n) path.dropLast := by rw [sidesT, dif_neg (by omega), if_neg hp]
def stepT (s : Tm × Bool) (t : Tm) : Tm := if s.2 = true then pairT t s.1 else pairT s.1 t
def riseT (leaf : Tm) (ss : List (Tm × Bool)) : Tm := ss.foldr stepT leaf
theorem riseT_cons (leaf : Tm) (s : Tm × Bool) (ss : List (Tm × Bool)) : riseT leaf (s :: ss) = stepT s (riseT leaf ss) := rfl
theorem sidesT_len (place n : Nat) (path : List Tm) : (sidesT place n path).length = plen place n := by
  by_cases h : n < 2
  · rw [sidesT_one h, plen_one h]
    rfl
  · have hs := splitN_lt (n := n) (by omega)
    have hs0 := splitN_pos n
    by_cases hp : place < splitN n
    · rw [sidesT_low (by omega) hp, plen_low (by omega) hp, List.length_cons, sidesT_len]
    · rw [sidesT_high (by omega) hp, plen_high (by omega) hp, List.length_cons, sidesT_len]
termination_by n
theorem getLastD_concat {α : Type} (l : List α) (x d : α) : (l ++ [x]).getLastD d = x := by
  rw [List.getLastD_eq_getLast?, List.getLast?_concat]
  rfl
/-- the way of a leaf of a row, by its own path, comes to the row's top -/
theorem rise_path (ts : List Tm) (place : Nat) (h : place < ts.length) : riseT (ts.getD place nonT) (sidesT place ts.length (pathT ts place)) = topT ts := by
  by_cases h2 : ts.length < 2
  · rw [sidesT_one h2, topT_single (by omega), show place = 0 by omega]
    rfl
  · have hs := splitN_lt (n := ts.length) (by omega)
    have hs0 := splitN_pos ts.length
    have e1 : (ts.take (splitN ts.length)).length = splitN ts.length := by
      rw [List.length_take]
      omega
    have e2 : (ts.drop (splitN ts.length)).length = ts.length - splitN ts.length := List.length_drop
    by_cases hp : place < splitN ts.length
    · rw [pathT_low (by omega) hp, sidesT_low (by omega) hp, getLastD_concat, List.dropLast_concat, topT_more (ts := ts) (by omega)]
      rw [riseT_cons]
      have ih := rise_path (ts.take (splitN ts.length)) place (by omega)
      rw [e1] at ih
      have eg : (ts.take (splitN ts.length)).getD place nonT = ts.getD place nonT := by
        rw [List.getD_eq_getElem?_getD, List.getD_eq_getElem?_getD, List.getElem?_take_of_lt hp]
      rw [eg] at ih
      rw [ih]
      rfl
    · rw [pathT_high (by omega) hp, sidesT_high (by omega) hp, getLastD_concat, List.dropLast_concat, topT_more (ts := ts) (by omega)]
      rw [riseT_cons]
      have ih := rise_path (ts.drop (splitN ts.length)) (place - splitN ts.length) (by omega)
      rw [e2] at ih
      have eg : (ts.drop (splitN ts.length)).getD (place - splitN ts.length) nonT = ts.getD place nonT := by
        rw [List.getD_eq_getElem?_getD, List.getD_eq_getElem?_getD, List.getElem?_drop, show splitN ts.length + (place - splitN ts.length) = place by omega]
      rw [eg] at ih
      rw [ih]
      rfl
termination_by ts.length

/-! ### a leaf and a path come to a top, or BadPaper -/
/-- no list by its type, and none equal to the empty list -/
structure Odd (K : PySem.W.Frag) (H : Hp) (v : V) : Prop where
  ty : ∃ t, TyX K H v t ∧ PySem.W.kitOne K t (.type "list") = some false
  ne : ∃ d, Dp K H v d ∧ SeqAt.shaped d = true ∧ PyData.eqv d (.list []) = false
def spLast (K : PySem.W.Frag) (mg : Str → Option Value) : Sp := fun vs H Q E => ∃ v, vs = [v] ∧
  ((∃ a ys, v = .ref a ∧ H a = some (.lst ys) ∧ (∀ y, ys.getLast? = some y → Q y H) ∧ (ys = [] → ∀ C, mg "BadPaper" = some (.ref C) → E (.ref C) none H)) ∨
   ((∃ t, TyX K H v t ∧ PySem.W.kitOne K t (.type "list") = some false) ∧ ∀ C, mg "BadPaper" = some (.ref C) → E (.ref C) none H))
/-- the sides, as they are kept -/
structure SideL (S : Sys) (H : Hp) (vs : List V) (ss : List (Tm × Bool)) : Prop where
  len : vs.length = ss.length
  at_ : ∀ (i : Nat) (v : V) (s : Tm × Bool), vs[i]? = some v → ss[i]? = some s → ∃ q u, v = .ref q ∧ H q = some (.tup [u, .bl s.2]) ∧ S.den H u s.1
theorem SideL.nil {S : Sys} {H : Hp} : SideL S H [] [] := ⟨rfl, fun i v t a _ => by simp at a⟩
theorem SideL.mono {K : PySem.W.Frag} {S : Sys} (G : S.Good K) {H H' : Hp} {vs : List V} {ss : List (Tm × Bool)} (e : Gr H H') (h : SideL S H vs ss) : SideL S H' vs ss := by
  refine ⟨h.len, fun i v s a b => ?_⟩
  obtain ⟨q, u, rfl, h1, h2⟩ := h.at_ i v s a b
  exact ⟨q, u, rfl, e.keep _ _ h1 True.intro (fun _ z => nomatch z), G.mono e h2⟩
theorem SideL.snoc {S : Sys} {H : Hp} {vs : List V} {ss : List (Tm × Bool)} {q : Addr} {u : V} {s : Tm × Bool} (h : SideL S H vs ss) (hq : H q = some (.tup [u, .bl s.2])) (hu : S.den H u s.1) : SideL S H (vs ++ [.ref q]) (ss ++ [s]) := by
  refine ⟨by rw [List.length_append, List.length_append, h.len]; rfl, fun i v t a b => ?_⟩
  have hl := h.len
  by_cases c : i < vs.length
  · rw [List.getElem?_append_left c] at a
    rw [List.getElem?_append_left (by omega)] at b
    exact h.at_ i v t a b
  · rw [List.getElem?_append_right (by omega)] at a b
    rw [← hl] at b
    cases hj : i - vs.length with
    | zero =>
      rw [hj] at a b
      cases a
      cases b
      exact ⟨q, u, rfl, hq, hu⟩
    | succ j =>
      rw [hj] at a
      simp at a
theorem getLast_at {α : Type} {l : List α} {x : α} (h : l.getLast? = some x) : l[l.length - 1]? = some x := by
  rw [← h, List.getLast?_eq_getElem?]
section
variable {P : Program} {w : World} {K : PySem.W.Frag} {mg : Str → Option Value} {base : Heap} {Fam : Sys → Prop}
theorem ok_last {cc : Addr} (T : Txt K mg cc) : CalX P w K mg base 1 "last_of" (spLast K mg) := by
  have Z := T.Z
  obtain ⟨C_BadPaper, g_BadPaper, F_BadPaper⟩ := T.x_BadPaper.ex
  refine calX_of T.d_last_of sc_last_of (fun vs H Q E h => ?_) (fun f cdv A' outer s H vs Q E hr h => ?_)
  · obtain ⟨v, rfl, _⟩ := h
    rfl
  obtain ⟨v, rfl, h⟩ := h
  refine ⟨_, (pss_cons (ps_if (PW.pt (pw_or (pt_not (pt_val (pe_callB call_isi rfl Z.isinstance (by decide +kernel) (pa_cons (pv 0) (pa_cons (pe_bltn (v := .ty "list") rfl Z.list (by decide +kernel) rfl) pa_nil))))) (pw_or1 (pt_cmpR op_eq (pe_callB call_len_seq rfl Z.len PySem.boot_len (pa_cons (pv 0) pa_nil)) pe_int (nomark _))))) (pss_one (ps_raiseX F_BadPaper g_BadPaper rfl (takes_of rfl rfl rfl rfl) rfl)) pss_nil)
  (pss_one (ps_ret (pe_ix ix_list (pv 0) (pe_op op_sub (pe_callB call_len_seq rfl Z.len PySem.boot_len (pa_cons (pv 0) pa_nil)) pe_int) (fun _ _ => rfl))))), ?_⟩
  rcases h with ⟨a, ys, rfl, ha, q1, q2⟩ | ⟨⟨t, hty, hk⟩, q⟩
  · refine ⟨_, rfl, .ref a, .ty "list", _, _, true, rfl, .ty "list", .base (.lst ha), kit_ty (by decide +kernel), true, rfl, ?_⟩
    refine ⟨_, rfl, a, ys, rfl, .inl (SqL.of ha), rfl, _, rfl, ite2 (fun c => ?_) (fun c => ?_)⟩
    · have c' : (ys.length : Int) = 0 := V.int.inj (of_decide_eq_true c)
      exact q2 (List.eq_nil_of_length_eq_zero (by omega)) _ g_BadPaper
    · have c' : ys.length ≠ 0 := fun z => c (decide_eq_true (by rw [z] <;> rfl))
      obtain ⟨y, hy⟩ : ∃ y, ys.getLast? = some y := by
        cases hl : ys.getLast? with
        | none => rw [List.getLast?_eq_none_iff] at hl; rw [hl] at c'; exact absurd rfl c'
        | some y => exact ⟨y, rfl⟩
      refine ⟨_, rfl, _, rfl, a, ys, rfl, .inl (SqL.of ha), _, 1, rfl, rfl, a, ys, _, y, rfl, rfl, SqL.of ha, ?_, q1 y hy⟩
      rw [show (ys.length : Int) - 1 = ((ys.length - 1 : Nat) : Int) by omega, atI_nat]
      exact getLast_at hy
  · exact ⟨_, rfl, v, .ty "list", _, _, false, rfl, .ty "list", hty, hk, false, rfl, q _ g_BadPaper⟩
theorem splitN_log {n L : Nat} (h : 2 ≤ n) (hl : n.log2 ≤ L) : (splitN n).log2 ≤ L ∧ (n - splitN n).log2 ≤ L := by
  have h1 := splitN_lt h
  have h2 := splitN_pos n
  refine ⟨?_, ?_⟩
  · have h3 : splitN n < 2 ^ (L + 1) := Nat.lt_trans h1 ((Nat.log2_lt (by omega)).mp (by omega))
    exact Nat.le_of_lt_succ ((Nat.log2_lt (by omega)).mpr h3)
  · by_cases e : n - splitN n = 0
    · rw [e]; exact Nat.zero_le _
    · have h3 : n - splitN n < 2 ^ (L + 1) := Nat.lt_of_le_of_lt (Nat.sub_le _ _) ((Nat.log2_lt (by omega)).mp (by omega))
      exact Nat.le_of_lt_succ ((Nat.log2_lt e).mpr h3)
theorem eqv_cons_nil {d : PyData} {ds : List PyData} : PyData.eqv (.list (d :: ds)) (.list []) = false := rfl
theorem DenL.odd {S : Sys} (G : S.Good K) {H : Hp} {a p : Addr} {ys : List V} {ts : List Tm} (ha : SqL K H a ys) (hp : SqL K H p []) (h : DenL S H ys ts) (hd : ∀ t ∈ ts, t.dep ≤ 60) :
    ∃ d e, Dp K H (.ref a) d ∧ Dp K H (.ref p) e ∧ SeqAt.shaped d = true ∧ SeqAt.shaped e = true ∧ PyData.eqv d e = decide (ts.length = 0) := by
  obtain ⟨ds, a1, b, c, e⟩ := DenL.same G h h hd
  have c' : (PyData.list ds).canLay0 = true := c
  refine ⟨.list ds, .list [], .lst ha a1, .lst hp .nil, shaped_of c' (by show PyData.depthAll ds + 1 ≤ 64; omega), by decide +kernel, ?_⟩
  cases a1 with
  | nil =>
    rw [decide_eq_true (show ts.length = 0 from h.len.symm)]
    rfl
  | cons _ _ =>
    rw [decide_eq_false (show ts.length ≠ 0 from fun z => by rw [← h.len] at z; cases z), eqv_cons_nil]
end

def spRisen (K : PySem.W.Frag) (mg : Str → Option Value) (Fam : Sys → Prop) : Sp := fun vs H Q E => ∃ (S : Sys) (leaf : V) (lt : Tm) (place n : Nat) (v : V) (r : Nat), Fam S ∧ vs = [.ref S.f, leaf, .int (place : Int), .int (n : Int), v] ∧ S.den H leaf lt ∧ place < n ∧ n.log2 ≤ 1000 ∧ S.ok H (r + plen place n) ∧
  ((∃ a ys ts, v = .ref a ∧ H a = some (.lst ys) ∧ DenL S H ys ts ∧ ts.length ≤ 100000 ∧ (∀ t ∈ ts, t.dep ≤ 60) ∧
      (ts.length = plen place n → ∀ u H', Ext H H' → S.ok H' r → S.den H' u (riseT lt (sidesT place n ts)) → Q u H') ∧
      (ts.length ≠ plen place n → ∀ C H', mg "BadPaper" = some (.ref C) → Ext H H' → S.ok H' r → E (.ref C) none H')) ∨
   ((∀ H', Ext H H' → Odd K H' v) ∧ ∀ C H', mg "BadPaper" = some (.ref C) → Ext H H' → S.ok H' r → E (.ref C) none H'))
section
variable {P : Program} {w : World} {K : PySem.W.Frag} {mg : Str → Option Value} {base : Heap} {Fam : Sys → Prop}
theorem ok_risen {cc : Addr} (T : Txt K mg cc) (A : SlA P w K mg base Fam) (C_last_of : CalX P w K mg base 1 "last_of" (spLast K mg)) (C_split : Cal P w K mg base 1 "split" spSplit []) (C_pair_seal : Cal P w K mg base 2 "pair_seal" (spPair Fam) []) : CalX P w K mg base 3 "risen" (spRisen K mg Fam) := by
  have Z := T.Z
  obtain ⟨C_BadPaper, g_BadPaper, F_BadPaper⟩ := T.x_BadPaper.ex
  refine calX_of T.d_risen sc_risen (fun vs H Q E h => ?_) (fun f cdv A' outer s H vs Q E hr h => ?_)
  · obtain ⟨S, leaf, lt, place, n, v, r, _, rfl, _⟩ := h
    rfl
  obtain ⟨S, leaf, lt, place, n, v, r, hF, rfl, hleaf, hpn, hlog, hok, h⟩ := h
  have G := A.good hF
  refine ⟨_, (pss_cons (ps_par (i := 5) (j := 6) rfl sc_risen.nd rfl rfl (by decide) rfl rfl (pa_cons (pv 4) (pa_cons (pe_lst pa_nil) pa_nil)) (by rfl))
  (pss_cons (ps_while (passes_of rfl) (pt_cmpR op_gt (pv 3) pe_int (nomark _)) (pss_cons (ps_set (i := 7) sc_risen.nd rfl (Or.inl rfl) (pe_cx C_last_of (takes_of rfl rfl rfl rfl) hr (by omega) rfl (pa_cons (pv 5) pa_nil)))
  (pss_cons (ps_set (i := 5) sc_risen.nd rfl (Or.inl rfl) (pe_slice sl_list (pv 5) po_none (po_some (pe_op op_sub (pe_callB call_len_seq rfl Z.len PySem.boot_len (pa_cons (pv 5) pa_nil)) pe_int))))
  (pss_cons (ps_set (i := 8) sc_risen.nd rfl (Or.inl rfl) (pe_c C_split hr (by omega) rfl (pa_cons (pv 3) pa_nil)))
  (pss_cons (ps_expr (pe_bm PySem.F.plainAttrs_list PySem.F.slot_list_append PySem.F.type_list_append mt_append (pv 6) (pa_cons (pe_tup (pa_cons (pv 7) (pa_cons (pe_cmpR op_lt (pv 2) (pv 8) (nomark _)) pa_nil))) pa_nil)))
  (pss_one (ps_if (pt_cmpR op_lt (pv 2) (pv 8) (nomark _)) (pss_one (ps_set (i := 3) sc_risen.nd rfl (Or.inl rfl) (pv 8))) (pss_one (ps_par (i := 2) (j := 3) rfl sc_risen.nd rfl rfl (by decide) rfl rfl (pa_cons (pe_op op_sub (pv 2) (pv 8)) (pa_cons (pe_op op_sub (pv 3) (pv 8)) pa_nil)) (by rfl))))))))))
  (pss_cons (ps_if (pt_cmpR (op_neD hr.units) (pv 5) (pe_lst pa_nil) (nomark _)) (pss_one (ps_raiseX F_BadPaper g_BadPaper rfl (takes_of rfl rfl rfl rfl) rfl)) pss_nil)
  (pss_cons (ps_set (i := 9) sc_risen.nd rfl (Or.inl rfl) (pv 1))
  (pss_cons (ps_for (passes_of rfl) rfl (pi_list (pe_revL (pv 6))) (pg_tup rfl (pgs_cons (pg_name (i := 7) sc_risen.nd rfl (Or.inl rfl)) (pgs_cons (pg_name (i := 10) sc_risen.nd rfl (Or.inl rfl)) pgs_nil))) (pss_one (ps_set (i := 9) sc_risen.nd rfl (Or.inl rfl) (pe_ifExp (pt_val (pv 10)) (pe_c C_pair_seal hr (by omega) rfl (pa_cons (pv 0) (pa_cons (pv 9) (pa_cons (pv 7) pa_nil)))) (pe_c C_pair_seal hr (by omega) rfl (pa_cons (pv 0) (pa_cons (pv 7) (pa_cons (pv 9) pa_nil))))))))
  (pss_one (ps_ret (pv 9)))))))), ?_⟩
  refine ⟨_, rfl, by show 0 ≤ sizeLine; decide, fun p hp => ⟨_, _, rfl, fun m σ H' => ∃ (place' n' : Nat) (w' : V) (ss : List (Tm × Bool)) (ssv : List V) (y7 y8 : Option V), n' = m ∧ σ = [some (.ref S.f), some leaf, some (.int (place' : Int)), some (.int (n' : Int)), some v, some w', some (.ref p), y7, y8, none, none] ∧
    Ext H H' ∧ S.ok H' (r + plen place n) ∧ H' p = some (.lst ssv) ∧ SideL S H' ssv ss ∧ place' < n' ∧ n'.log2 ≤ 1000 ∧ ss.length ≤ 100000 ∧ plen place' n' + ss.length = plen place n ∧
    ((∃ b ys ts, w' = .ref b ∧ H' b = some (.lst ys) ∧ b ≠ p ∧ DenL S H' ys ts ∧ ts.length + ss.length ≤ 100000 ∧ (∀ t ∈ ts, t.dep ≤ 60) ∧
      (ts.length = plen place' n' → ∀ u H', Ext H H' → S.ok H' r → S.den H' u (riseT lt (ss ++ sidesT place' n' ts)) → Q u H') ∧
      (ts.length ≠ plen place' n' → ∀ C H', mg "BadPaper" = some (.ref C) → Ext H H' → S.ok H' r → E (.ref C) none H')) ∨
     (ss = [] ∧ (∀ H2, Ext H H2 → Odd K H2 w') ∧ ∀ C H', mg "BadPaper" = some (.ref C) → Ext H H' → S.ok H' r → E (.ref C) none H')), ?_, ?_⟩⟩
  · refine ⟨n, place, n, v, [], [], none, none, rfl, rfl, Ext.new hp, G.keep (Kp.new hp) hok, upd_same, .nil, hpn, hlog, Nat.zero_le _, rfl, ?_⟩
    rcases h with ⟨a, ys, ts, rfl, ha, hd, hl, hdep, q1, q2⟩ | ⟨o, q⟩
    · exact .inl ⟨a, ys, ts, rfl, by rw [upd_ne (ne_of_none ha hp)]; exact ha, ne_of_none ha hp, hd.mono G (Kp.new hp).gr, hl, hdep, q1, q2⟩
    · exact .inr ⟨rfl, o, q⟩
  rintro m σ H1 ⟨place', n', w', ss, ssv, y7, y8, rfl, rfl, x1, ok1, hp1, hss, hlt, hlog', hsl, hpl, hw⟩
  refine ⟨_, rfl, _, 1, rfl, rfl, _, rfl, ite2 (fun c => ?_) (fun c => ?_)⟩
  · have c' : 1 < (n' : Int) := of_decide_eq_true c
    have h2 : 2 ≤ n' := by omega
    have hs1 := splitN_lt h2
    have hs2 := splitN_pos n'
    obtain ⟨lg1, lg2⟩ := splitN_log h2 hlog'
    refine ⟨_, fun σ' H' h => h, ?_⟩
    refine ⟨_, rfl, w', rfl, ?_⟩
    rcases hw with ⟨b, ys, ts, rfl, hb, hbp, hd, hl, hdep, q1, q2⟩ | ⟨rfl, o, q⟩
    · refine .inl ⟨b, ys, rfl, hb, fun y hy => ?_, fun e C hC => ?_⟩
      · have hy' := getLast_at hy
        have hlen := hd.len
        obtain ⟨t, ht⟩ : ∃ t, ts[ys.length - 1]? = some t := ⟨ts[ys.length - 1]'(by have := (List.getElem?_eq_some_iff.mp hy').1; omega), List.getElem?_eq_getElem _⟩
        have hyt := hd.at_ _ _ _ hy' ht
        have hpos : 0 < ts.length := by have := (List.getElem?_eq_some_iff.mp ht).1; omega
        refine ⟨_, rfl, _, rfl, b, ys, rfl, .inl (SqL.of hb), _, 1, rfl, rfl, ((ys.length - 1 : Nat) : Int), ?_, b, ys, rfl, SqL.of hb, fun p1 np1 => ?_⟩
        · rw [show ((ys.length - 1 : Nat) : Int) = (ys.length : Int) - 1 by omega]
        rw [cut_to]
        have y1 := Ext.new (o := .lst (ys.take (ys.length - 1))) np1
        have k1 := Kp.new (o := .lst (ys.take (ys.length - 1))) np1
        refine ⟨_, rfl, n', rfl, h2, by omega, ?_⟩
        have np1p : p1 ≠ p := fun z => by rw [z, hp1] at np1; cases np1
        refine ⟨_, rfl, .inl ⟨rfl, ssv, SqL.of (by rw [upd_ne np1p.symm]; exact hp1)⟩, _, rfl, _, rfl, _, rfl, _, _, rfl, rfl, by show 2 ≤ sizeLine; decide, fun q hq => ?_⟩
        have npq : q ≠ p := fun z => by rw [z, upd_ne np1p.symm, hp1] at hq; cases hq
        have z1 : (upd (upd H1 p1 (.lst (ys.take (ys.length - 1)))) q (.tup [y, .bl (decide ((place' : Int) < ((splitN n' : Nat) : Int)))])) p = some (.lst ssv) := by rw [upd_ne npq.symm, upd_ne np1p.symm]; exact hp1
        have y2 := y1.trans (Ext.new (o := .tup [y, .bl (decide ((place' : Int) < ((splitN n' : Nat) : Int)))]) hq)
        have k2 := k1.trans (Kp.new (o := .tup [y, .bl (decide ((place' : Int) < ((splitN n' : Nat) : Int)))]) hq)
        have z2 : (upd (upd H1 p1 (.lst (ys.take (ys.length - 1)))) q (.tup [y, .bl (decide ((place' : Int) < ((splitN n' : Nat) : Int)))])) q = some (.tup [y, .bl (decide ((place' : Int) < ((splitN n' : Nat) : Int)))]) := upd_same
        have z3 : (upd (upd H1 p1 (.lst (ys.take (ys.length - 1)))) q (.tup [y, .bl (decide ((place' : Int) < ((splitN n' : Nat) : Int)))])) p1 = some (.lst (ys.take (ys.length - 1))) := by rw [upd_ne (ne_of_none upd_same hq)]; exact upd_same
        generalize upd (upd H1 p1 (.lst (ys.take (ys.length - 1)))) q (.tup [y, .bl (decide ((place' : Int) < ((splitN n' : Nat) : Int)))]) = H2 at y2 k2 z1 z2 z3 ⊢
        have hsl2 := hss.len
        refine ⟨p, ssv, _, rfl, rfl, z1, by rw [hsl2, sizeLine_eq]; omega, ?_⟩
        have k3 : Kp H2 (upd H2 p (.lst (ssv ++ [.ref q]))) := Kp.lst z1
        have x3 : Ext H (upd H2 p (.lst (ssv ++ [.ref q]))) := (x1.trans y2).mut hp
        have z4 : (upd H2 p (.lst (ssv ++ [.ref q]))) p1 = some (.lst (ys.take (ys.length - 1))) := by rw [upd_ne np1p]; exact z3
        have z5 : (upd H2 p (.lst (ssv ++ [.ref q]))) q = some (.tup [y, .bl (decide ((place' : Int) < ((splitN n' : Nat) : Int)))]) := by rw [upd_ne npq]; exact z2
        have ok3 := G.keep (k2.trans k3) ok1
        have gr3 := (k2.trans k3).gr
        refine ⟨_, rfl, _, rfl, _, _, rfl, rfl, _, rfl, ite2 (fun c2 => ?_) (fun c2 => ?_)⟩
        · have c2' : (place' : Int) < ((splitN n' : Nat) : Int) := of_decide_eq_true c2
          have el : ts.getLastD nonT = t := by
            rw [List.getLastD_eq_getLast?, List.getLast?_eq_getElem?, ← hlen, ht]
            rfl
          have esd : sidesT place' n' ts = (t, true) :: sidesT place' (splitN n') ts.dropLast := by rw [sidesT_low h2 (by omega), el]
          have epl := plen_low (place := place') h2 (by omega)
          refine ⟨_, rfl, ?_⟩
          refine ⟨splitN n', hs1, place', splitN n', .ref p1, ss ++ [(t, true)], ssv ++ [.ref q], _, _, rfl, rfl, x3, ok3, upd_same, (hss.mono G gr3).snoc (by rw [z5, decide_eq_true c2'] ) (G.mono gr3 hyt), by omega, lg1, by rw [List.length_append]; show ss.length + 1 ≤ _; omega, by rw [List.length_append]; show plen place' (splitN n') + (ss.length + 1) = _; omega, .inl ⟨p1, _, ts.dropLast, rfl, z4, np1p, ?_, ?_, fun t ht => hdep t (List.dropLast_subset _ ht), fun el2 => ?_, fun el2 => q2 ?_⟩⟩
          · have := (hd.take (ts.length - 1)).mono G gr3
            rwa [← List.dropLast_eq_take, ← hlen] at this
          · rw [List.length_dropLast, List.length_append]
            show _ + (ss.length + 1) ≤ _
            omega
          · rw [List.length_dropLast] at el2
            have := q1 (by omega)
            rw [esd] at this
            rw [List.append_assoc]
            exact this
          · rw [List.length_dropLast] at el2
            omega
        · have c2' : ¬ (place' : Int) < ((splitN n' : Nat) : Int) := of_decide_eq_false (Bool.eq_false_iff.mpr c2)
          have el : ts.getLastD nonT = t := by
            rw [List.getLastD_eq_getLast?, List.getLast?_eq_getElem?, ← hlen, ht]
            rfl
          have esd : sidesT place' n' ts = (t, false) :: sidesT (place' - splitN n') (n' - splitN n') ts.dropLast := by rw [sidesT_high h2 (by omega), el]
          have epl := plen_high (place := place') h2 (by omega)
          refine ⟨_, rfl, _, rfl, _, _, rfl, rfl, _, rfl, _, rfl, _, _, rfl, rfl, _, _, rfl, ?_⟩
          refine ⟨n' - splitN n', by omega, place' - splitN n', n' - splitN n', .ref p1, ss ++ [(t, false)], ssv ++ [.ref q], some y, some (.int ((splitN n' : Nat) : Int)), rfl, ?_, x3, ok3, upd_same, (hss.mono G gr3).snoc (by rw [z5, decide_eq_false c2'] ) (G.mono gr3 hyt), by omega, lg2, by rw [List.length_append]; show ss.length + 1 ≤ _; omega, by rw [List.length_append]; show plen (place' - splitN n') (n' - splitN n') + (ss.length + 1) = _; omega, .inl ⟨p1, _, ts.dropLast, rfl, z4, np1p, ?_, ?_, fun t ht => hdep t (List.dropLast_subset _ ht), fun el2 => ?_, fun el2 => q2 ?_⟩⟩
          · rw [show ((place' - splitN n' : Nat) : Int) = (place' : Int) - ((splitN n' : Nat) : Int) by omega, show ((n' - splitN n' : Nat) : Int) = (n' : Int) - ((splitN n' : Nat) : Int) by omega]
            rfl
          · have := (hd.take (ts.length - 1)).mono G gr3
            rwa [← List.dropLast_eq_take, ← hlen] at this
          · rw [List.length_dropLast, List.length_append]
            show _ + (ss.length + 1) ≤ _
            omega
          · rw [List.length_dropLast] at el2
            have := q1 (by omega)
            rw [esd] at this
            rw [List.append_assoc]
            exact this
          · rw [List.length_dropLast] at el2
            omega
      · refine q2 ?_ C H1 hC x1 (G.less ok1 (by omega))
        have hlen := hd.len
        rw [e] at hlen
        have : plen place' n' ≠ 0 := by
          by_cases hp : place' < splitN n'
          · rw [plen_low h2 hp]
            omega
          · rw [plen_high h2 hp]
            omega
        rw [← hlen]
        exact this.symm
    · exact .inr ⟨(o H1 x1).ty, fun C hC => q C H1 hC x1 (G.less ok1 (by omega))⟩
  · have c' : ¬ 1 < (n' : Int) := of_decide_eq_false (Bool.eq_false_iff.mpr c)
    have pz : plen place' n' = 0 := plen_one (by omega)
    refine ⟨_, rfl, by show 0 ≤ sizeLine; decide, fun p2 hp2 => ?_⟩
    have x2 := x1.trans (Ext.new (o := .lst []) hp2)
    have k2 := Kp.new (o := .lst []) hp2
    rcases hw with ⟨b, ys, ts, rfl, hb, hbp, hd, hl, hdep, q1, q2⟩ | ⟨rfl, o, q⟩
    · obtain ⟨d, e, a1, a2, a3, a4, a5⟩ := (hd.mono G k2.gr).odd (K := K) G (a := b) (p := p2) (SqL.of (by rw [upd_ne (ne_of_none hb hp2)]; exact hb)) (SqL.of upd_same) hdep
      refine ⟨d, e, a1, a2, a3, a4, _, rfl, ?_⟩
      rw [a5]
      by_cases hz : ts.length = 0
      · rw [decide_eq_true hz]
        refine ⟨_, rfl, ?_⟩
        have x4 : Ext H (upd H1 p2 (.lst [])) := x2
        have hp4 : (upd H1 p2 (.lst [])) p = some (.lst ssv) := by rw [upd_ne (ne_of_none hp1 hp2)]; exact hp1
        have ok4 := G.keep k2 ok1
        have hss4 := hss.mono G k2.gr
        refine ⟨_, rfl, p, ssv, rfl, SqL.of hp4, fun p3 np3 => ⟨p3, rfl, ⟨_, SqL.of upd_same⟩, ?_⟩⟩
        have x5 := x4.trans (Ext.new (o := .lst ssv.reverse) np3)
        have k5 := Kp.new (o := .lst ssv.reverse) np3
        have hp5 : (upd (upd H1 p2 (.lst [])) p3 (.lst ssv.reverse)) p3 = some (.lst ssv.reverse) := upd_same
        have ok5 := G.keep k5 ok4
        have hss5 := hss4.mono G k5.gr
        have hleaf5 := G.mono x5.gr hleaf
        generalize upd (upd H1 p2 (.lst [])) p3 (.lst ssv.reverse) = H5 at x5 hp5 ok5 hss5 hleaf5 ⊢
        have hsl2 := hss.len
        refine for_list (K := K) (a := p3) (xs := ssv.reverse) (fun i σ H' => ∃ (u : V) (z7 z8 z10 : Option V), σ = [some (.ref S.f), some leaf, some (.int (place' : Int)), some (.int (n' : Int)), some v, some (.ref b), some (.ref p), z7, z8, some u, z10] ∧ Ext H5 H' ∧ S.ok H' (r + (ss.length - i)) ∧ S.den H' u (riseT lt (ss.drop (ss.length - i))))
          ⟨leaf, _, _, _, rfl, Ext.refl _, G.less ok5 (by omega), by rw [Nat.sub_zero, List.drop_length]; exact hleaf5⟩ (fun i σ H' _ ⟨_, _, _, _, _, x, _⟩ => SqL.of (x.lst hp5)) ?_ ?_
        · rintro i y σ H' hi ⟨u, z7, z8, z10, rfl, x, ok, hu⟩
          have hlt := (List.getElem?_eq_some_iff.mp hi).1
          rw [List.length_reverse] at hlt
          rw [List.getElem?_reverse hlt] at hi
          have hj : ssv.length - 1 - i < ss.length := by omega
          obtain ⟨q, a, rfl, hq, ha⟩ := (hss5.mono G x.gr).at_ _ y (ss[ssv.length - 1 - i]) hi (List.getElem?_eq_getElem hj)
          have ed : ss.drop (ss.length - (i + 1)) = ss[ssv.length - 1 - i] :: ss.drop (ss.length - i) := by
            rw [show ss.length - (i + 1) = ssv.length - 1 - i by omega, List.drop_eq_getElem_cons hj, show ssv.length - 1 - i + 1 = ss.length - i by omega]
          refine ⟨q, _, rfl, SqT.of hq, rfl, ?_⟩
          rw [ed, riseT_cons]
          generalize ss[ssv.length - 1 - i] = sd at hq ha ⊢
          obtain ⟨st, sb⟩ := sd
          refine ⟨_, _, rfl, _, _, rfl, rfl, ?_⟩
          refine ⟨_, rfl, _, rfl, ?_⟩
          cases sb with
          | true =>
            refine iteT ?_
            refine ⟨_, rfl, _, rfl, _, rfl, S, u, a, _, _, r + (ss.length - (i + 1)), hF, rfl, G.less ok (by omega), hu, ha, fun v' H'' x' ok' d' => ?_⟩
            exact ⟨v', _, _, _, rfl, x.trans x', ok', d'⟩
          | false =>
            refine iteF ?_
            refine ⟨_, rfl, _, rfl, _, rfl, S, a, u, _, _, r + (ss.length - (i + 1)), hF, rfl, G.less ok (by omega), ha, hu, fun v' H'' x' ok' d' => ?_⟩
            exact ⟨v', _, _, _, rfl, x.trans x', ok', d'⟩
        · rintro σ H6 ⟨u, z7, z8, z10, rfl, x6, ok6, hu⟩
          rw [List.length_reverse, hsl2, Nat.sub_self] at hu
          refine ⟨u, rfl, q1 (by omega) u H6 (x5.trans x6) (G.less ok6 (by omega)) ?_⟩
          rw [sidesT_one (by omega), List.append_nil]
          exact hu
      · rw [decide_eq_false hz]
        exact q2 (by omega) _ _ g_BadPaper x2 (G.less (G.keep k2 ok1) (by omega))
    · obtain ⟨d, a1, a2, a3⟩ := (o _ x2).ne
      refine ⟨d, .list [], a1, .lst (SqL.of upd_same) .nil, a2, by decide +kernel, _, rfl, ?_⟩
      rw [a3]
      exact q _ _ g_BadPaper x2 (G.less (G.keep k2 ok1) (by omega))
end

/-! ### a leaf comes to the top by the right path alone -/
theorem pairT_inj {a b c d : Tm} (h : pairT a b = pairT c d) : a = c ∧ b = d := by
  unfold pairT at h
  exact ⟨(Tm.sl.inj h).2.1, (Tm.sl.inj h).2.2⟩
theorem last_split {α : Type} {l : List α} {d : α} (h : l.length ≠ 0) : l = l.dropLast ++ [l.getLastD d] := by
  rcases List.eq_nil_or_concat l with e | ⟨l', x, e⟩
  · rw [e] at h
    exact absurd rfl h
  · rw [e, List.concat_eq_append, getLastD_concat, List.dropLast_concat]
theorem rise_inj (L : Tm) (us : List Tm) (place : Nat) (ps : List Tm) (h : place < us.length) (hl : ps.length = plen place us.length) : riseT L (sidesT place us.length ps) = topT us ↔ (L = us.getD place nonT ∧ ps = pathT us place) := by
  by_cases h2 : us.length < 2
  · rw [plen_one h2] at hl
    rw [sidesT_one h2, topT_single (by omega), pathT_one h2, show place = 0 by omega, List.eq_nil_of_length_eq_zero hl]
    show L = _ ↔ _
    simp
  · have hs := splitN_lt (n := us.length) (by omega)
    have hs0 := splitN_pos us.length
    have e1 : (us.take (splitN us.length)).length = splitN us.length := by
      rw [List.length_take]
      omega
    have e2 : (us.drop (splitN us.length)).length = us.length - splitN us.length := List.length_drop
    by_cases hp : place < splitN us.length
    · rw [plen_low (by omega) hp] at hl
      have hps := last_split (l := ps) (d := nonT) (by omega)
      have ih := rise_inj L (us.take (splitN us.length)) place ps.dropLast (by omega) (by rw [List.length_dropLast, e1]; omega)
      rw [e1] at ih
      have eg : (us.take (splitN us.length)).getD place nonT = us.getD place nonT := by
        rw [List.getD_eq_getElem?_getD, List.getD_eq_getElem?_getD, List.getElem?_take_of_lt hp]
      rw [eg] at ih
      rw [sidesT_low (by omega) hp, riseT_cons, topT_more (ts := us) (by omega), pathT_low (by omega) hp]
      show pairT _ _ = pairT _ _ ↔ _
      constructor
      · intro q
        obtain ⟨q1, q2⟩ := pairT_inj q
        obtain ⟨q3, q4⟩ := ih.mp q1
        refine ⟨q3, ?_⟩
        rw [hps, q4]
        exact congrArg (fun z => pathT (us.take (splitN us.length)) place ++ [z]) q2
      · rintro ⟨q1, q2⟩
        have q3 : ps.dropLast = pathT (us.take (splitN us.length)) place := by rw [q2, List.dropLast_concat]
        have q4 : ps.getLastD nonT = topT (us.drop (splitN us.length)) := by rw [q2, getLastD_concat]
        rw [ih.mpr ⟨q1, q3⟩, q4]
    · rw [plen_high (by omega) hp] at hl
      have hps := last_split (l := ps) (d := nonT) (by omega)
      have ih := rise_inj L (us.drop (splitN us.length)) (place - splitN us.length) ps.dropLast (by omega) (by rw [List.length_dropLast, e2]; omega)
      rw [e2] at ih
      have eg : (us.drop (splitN us.length)).getD (place - splitN us.length) nonT = us.getD place nonT := by
        rw [List.getD_eq_getElem?_getD, List.getD_eq_getElem?_getD, List.getElem?_drop, show splitN us.length + (place - splitN us.length) = place by omega]
      rw [eg] at ih
      rw [sidesT_high (by omega) hp, riseT_cons, topT_more (ts := us) (by omega), pathT_high (by omega) hp]
      show pairT _ _ = pairT _ _ ↔ _
      constructor
      · intro q
        obtain ⟨q1, q2⟩ := pairT_inj q
        obtain ⟨q3, q4⟩ := ih.mp q2
        refine ⟨q3, ?_⟩
        rw [hps, q4]
        exact congrArg (fun z => pathT (us.drop (splitN us.length)) (place - splitN us.length) ++ [z]) q1
      · rintro ⟨q1, q2⟩
        have q3 : ps.dropLast = pathT (us.drop (splitN us.length)) (place - splitN us.length) := by rw [q2, List.dropLast_concat]
        have q4 : ps.getLastD nonT = topT (us.take (splitN us.length)) := by rw [q2, getLastD_concat]
        rw [ih.mpr ⟨q1, q3⟩, q4]
termination_by us.length
decreasing_by
  · rw [List.length_take]; omega
  · rw [List.length_drop]; omega
theorem riseT_ws {L : Tm} {ss : List (Tm × Bool)} (hL : WS L) (h : ∀ s ∈ ss, WS s.1) : WS (riseT L ss) := by
  induction ss with
  | nil => exact hL
  | cons s ss ih =>
    have i := ih fun s hs => h s (List.mem_cons_of_mem _ hs)
    have j := h s List.mem_cons_self
    rw [riseT_cons]
    unfold stepT
    split
    · exact .pair i j
    · exact .pair j i
theorem riseT_dep {L : Tm} {ss : List (Tm × Bool)} {n : Nat} (hL : L.dep ≤ n) (h : ∀ s ∈ ss, s.1.dep ≤ n) : (riseT L ss).dep ≤ n + ss.length := by
  induction ss with
  | nil => exact hL
  | cons s ss ih =>
    have i := ih fun s hs => h s (List.mem_cons_of_mem _ hs)
    have j := h s List.mem_cons_self
    rw [riseT_cons, List.length_cons]
    unfold stepT
    split
    · show max _ _ + 1 ≤ _
      omega
    · show max _ _ + 1 ≤ _
      omega
theorem sidesT_mem {place n : Nat} {ps : List Tm} (hl : ps.length = plen place n) : ∀ s ∈ sidesT place n ps, s.1 ∈ ps := by
  by_cases h2 : n < 2
  · rw [sidesT_one h2]
    intro s hs
    cases hs
  · have hs := splitN_lt (n := n) (by omega)
    have hs0 := splitN_pos n
    have lastin : ps.length ≠ 0 → ps.getLastD nonT ∈ ps := fun z => by
      have := last_split (l := ps) (d := nonT) z
      rw [this]
      rw [getLastD_concat]
      exact List.mem_append_right _ (List.mem_singleton.mpr rfl)
    by_cases hp : place < splitN n
    · rw [plen_low (by omega) hp] at hl
      rw [sidesT_low (by omega) hp]
      intro s hs
      rcases List.mem_cons.mp hs with e | e
      · rw [e]
        exact lastin (by omega)
      · exact List.dropLast_subset _ (sidesT_mem (by rw [List.length_dropLast]; omega) s e)
    · rw [plen_high (by omega) hp] at hl
      rw [sidesT_high (by omega) hp]
      intro s hs
      rcases List.mem_cons.mp hs with e | e
      · rw [e]
        exact lastin (by omega)
      · exact List.dropLast_subset _ (sidesT_mem (by rw [List.length_dropLast]; omega) s e)
termination_by n

/-! ### growths -/
def growT (ts : List Tm) (old : Nat) : List Tm :=
  if h : 0 < old ∧ old < ts.length then
    if old ≤ splitN ts.length then growT (ts.take (splitN ts.length)) old ++ [topT (ts.drop (splitN ts.length))]
    else growT (ts.drop (splitN ts.length)) (old - splitN ts.length) ++ [topT (ts.take (splitN ts.length))]
  else if old = 0 then [] else [topT ts]
termination_by ts.length
decreasing_by
  · rw [List.length_take]
    have := splitN_lt (n := ts.length) (by omega)
    omega
  · rw [List.length_drop]
    have := splitN_pos ts.length
    omega
theorem growT_zero (ts : List Tm) : growT ts 0 = [] := by rw [growT, dif_neg (by omega), if_pos rfl]
theorem growT_all {ts : List Tm} (h : ts.length ≠ 0) : growT ts ts.length = [topT ts] := by rw [growT, dif_neg (by omega), if_neg h]
theorem growT_low {ts : List Tm} {old : Nat} (h0 : 0 < old) (h1 : old < ts.length) (h : old ≤ splitN ts.length) : growT ts old = growT (ts.take (splitN ts.length)) old ++ [topT (ts.drop (splitN ts.length))] := by
  rw [growT, dif_pos ⟨h0, h1⟩, if_pos h]
theorem growT_high {ts : List Tm} {old : Nat} (h0 : 0 < old) (h1 : old < ts.length) (h : ¬ old ≤ splitN ts.length) : growT ts old = growT (ts.drop (splitN ts.length)) (old - splitN ts.length) ++ [topT (ts.take (splitN ts.length))] := by
  rw [growT, dif_pos ⟨h0, h1⟩, if_neg h]
/-- two to the k leaves: at most k + 1 tops -/
theorem growT_len : ∀ (k : Nat) (ts : List Tm) (old : Nat), ts.length ≤ 2 ^ k → (growT ts old).length ≤ k + 1
  | k, ts, old, hl => by
    by_cases h : 0 < old ∧ old < ts.length
    · obtain ⟨h0, h1⟩ := h
      have h2 : 2 ≤ ts.length := by omega
      cases k with
      | zero => simp at hl; omega
      | succ k =>
        obtain ⟨a, b⟩ := splitN_le_pow h2 hl
        by_cases q : old ≤ splitN ts.length
        · rw [growT_low h0 h1 q, List.length_append]
          have := growT_len k (ts.take (splitN ts.length)) old (by rw [List.length_take]; omega)
          simp
          omega
        · rw [growT_high h0 h1 q, List.length_append]
          have := growT_len k (ts.drop (splitN ts.length)) (old - splitN ts.length) (by rw [List.length_drop]; omega)
          simp
          omega
    · rw [growT, dif_neg h]
      split <;> simp
theorem growT_mem {ts : List Tm} {old : Nat} {P : Tm → Prop} (hp : ∀ us : List Tm, (∀ t ∈ us, t ∈ ts) → us.length ≤ ts.length → P (topT us)) : ∀ t ∈ growT ts old, P t := by
  intro t ht
  rw [growT] at ht
  split at ht
  · rename_i h
    have hs := splitN_lt (n := ts.length) (by omega)
    have hs0 := splitN_pos ts.length
    split at ht
    · rcases List.mem_append.mp ht with h1 | h1
      · exact growT_mem (fun us hu hl => hp us (fun t h => List.mem_of_mem_take (hu t h)) (by rw [List.length_take] at hl; omega)) t h1
      · rw [List.mem_singleton.mp h1]
        exact hp _ (fun t h => List.mem_of_mem_drop h) (by rw [List.length_drop]; omega)
    · rcases List.mem_append.mp ht with h1 | h1
      · exact growT_mem (fun us hu hl => hp us (fun t h => List.mem_of_mem_drop (hu t h)) (by rw [List.length_drop] at hl; omega)) t h1
      · rw [List.mem_singleton.mp h1]
        exact hp _ (fun t h => List.mem_of_mem_take h) (by rw [List.length_take]; omega)
  · split at ht
    · cases ht
    · rw [List.mem_singleton.mp ht]
      exact hp ts (fun _ h => h) (Nat.le_refl _)
termination_by ts.length
decreasing_by
  · rw [List.length_drop]; omega
  · rw [List.length_take]; omega
/-- a growth is asked: two to the k leaves at most -/
def spGrow (K : PySem.W.Frag) (Fam : Sys → Prop) (k : Nat) : Sp := fun vs H Q _ => ∃ (S : Sys) (a : Addr) (xs : List V) (ts : List Tm) (old r : Nat), Fam S ∧ vs = [.ref S.f, .ref a, .int (old : Int)] ∧ SqL K H a xs ∧ DenL S H xs ts ∧ k ≠ 0 ∧ ts.length ≤ 2 ^ (k - 1) ∧ ts.length ≤ 1000 ∧ old ≤ ts.length ∧ S.ok H (r + costT ts.length) ∧
  ∀ p ys H', Ext H H' → H p = none → H' p = some (.lst ys) → S.ok H' r → DenL S H' ys (growT ts old) → Q (.ref p) H'

/-! ### a growth comes to both tops -/
def glen (old n : Nat) : Nat :=
  if h : old < n ∧ 0 < old then if old ≤ splitN n then glen old (splitN n) + 1 else glen (old - splitN n) (n - splitN n) + 1 else 1
termination_by n
decreasing_by
  · exact splitN_lt (by omega)
  · have := splitN_pos n
    omega
theorem glen_all {n : Nat} : glen n n = 1 := by rw [glen, dif_neg (by omega)]
theorem glen_low {old n : Nat} (h0 : 0 < old) (h1 : old < n) (h : old ≤ splitN n) : glen old n = glen old (splitN n) + 1 := by rw [glen, dif_pos ⟨h1, h0⟩, if_pos h]
theorem glen_high {old n : Nat} (h0 : 0 < old) (h1 : old < n) (h : ¬ old ≤ splitN n) : glen old n = glen (old - splitN n) (n - splitN n) + 1 := by rw [glen, dif_pos ⟨h1, h0⟩, if_neg h]
theorem glen_le : ∀ (k old n : Nat), n ≤ 2 ^ k → glen old n ≤ k + 1
  | k, old, n, h => by
    by_cases h2 : old < n ∧ 0 < old
    · obtain ⟨h1, h0⟩ := h2
      cases k with
      | zero => simp at h; omega
      | succ k =>
        obtain ⟨a, b⟩ := splitN_le_pow (show 2 ≤ n by omega) h
        by_cases hp : old ≤ splitN n
        · rw [glen_low h0 h1 hp]
          have := glen_le k old (splitN n) a
          omega
        · rw [glen_high h0 h1 hp]
          have := glen_le k (old - splitN n) (n - splitN n) b
          omega
    · rw [glen, dif_neg h2]
      omega
theorem glen_pos (old n : Nat) : 0 < glen old n := by
  rw [glen]
  split
  · split <;> omega
  · omega
def regT (old n : Nat) (ps : List Tm) : Tm × Tm :=
  if h : old < n ∧ 0 < old then
    if old ≤ splitN n then ((regT old (splitN n) ps.dropLast).1, pairT (regT old (splitN n) ps.dropLast).2 (ps.getLastD nonT))
    else (pairT (ps.getLastD nonT) (regT (old - splitN n) (n - splitN n) ps.dropLast).1, pairT (ps.getLastD nonT) (regT (old - splitN n) (n - splitN n) ps.dropLast).2)
  else (ps.getLastD nonT, ps.getLastD nonT)
termination_by n
decreasing_by
  all_goals first | exact splitN_lt (by omega) | (have := splitN_pos n; omega)
theorem regT_all {n : Nat} {ps : List Tm} : regT n n ps = (ps.getLastD nonT, ps.getLastD nonT) := by rw [regT, dif_neg (by omega)]
theorem regT_low {old n : Nat} {ps : List Tm} (h0 : 0 < old) (h1 : old < n) (h : old ≤ splitN n) : regT old n ps = ((regT old (splitN n) ps.dropLast).1, pairT (regT old (splitN n) ps.dropLast).2 (ps.getLastD nonT)) := by
  rw [regT, dif_pos ⟨h1, h0⟩, if_pos h]
theorem regT_high {old n : Nat} {ps : List Tm} (h0 : 0 < old) (h1 : old < n) (h : ¬ old ≤ splitN n) : regT old n ps = (pairT (ps.getLastD nonT) (regT (old - splitN n) (n - splitN n) ps.dropLast).1, pairT (ps.getLastD nonT) (regT (old - splitN n) (n - splitN n) ps.dropLast).2) := by
  rw [regT, dif_pos ⟨h1, h0⟩, if_neg h]
theorem growT_glen {us : List Tm} {old : Nat} (h0 : 0 < old) (h1 : old ≤ us.length) : (growT us old).length = glen old us.length := by
  by_cases e : old = us.length
  · subst e
    rw [growT_all (by omega), glen_all]
    rfl
  · have hs := splitN_lt (n := us.length) (by omega)
    have hs0 := splitN_pos us.length
    have e1 : (us.take (splitN us.length)).length = splitN us.length := by
      rw [List.length_take]
      omega
    have e2 : (us.drop (splitN us.length)).length = us.length - splitN us.length := List.length_drop
    by_cases hp : old ≤ splitN us.length
    · rw [growT_low h0 (by omega) hp, glen_low h0 (by omega) hp, List.length_append, growT_glen h0 (by omega), e1]
      rfl
    · rw [growT_high h0 (by omega) hp, glen_high h0 (by omega) hp, List.length_append, growT_glen (by omega) (by omega), e2]
      rfl
termination_by us.length
decreasing_by
  · rw [List.length_take]; omega
  · rw [List.length_drop]; omega
/-- by the right growth: both tops -/
theorem reg_grow {us : List Tm} {old : Nat} (h0 : 0 < old) (h1 : old ≤ us.length) : regT old us.length (growT us old) = (topT (us.take old), topT us) := by
  by_cases e : old = us.length
  · subst e
    rw [growT_all (by omega), regT_all, List.take_length]
    rfl
  · have hs := splitN_lt (n := us.length) (by omega)
    have hs0 := splitN_pos us.length
    have hg := splitN_ge (n := us.length) (by omega)
    have e1 : (us.take (splitN us.length)).length = splitN us.length := by
      rw [List.length_take]
      omega
    have e2 : (us.drop (splitN us.length)).length = us.length - splitN us.length := List.length_drop
    by_cases hp : old ≤ splitN us.length
    · rw [growT_low h0 (by omega) hp, regT_low h0 (by omega) hp, List.dropLast_concat, getLastD_concat]
      have ih := reg_grow (us := us.take (splitN us.length)) h0 (by omega)
      rw [e1, List.take_take, Nat.min_eq_left hp] at ih
      rw [ih, topT_more (ts := us) (by omega)]
    · rw [growT_high h0 (by omega) hp, regT_high h0 (by omega) hp, List.dropLast_concat, getLastD_concat]
      have ih := reg_grow (us := us.drop (splitN us.length)) (old := old - splitN us.length) (by omega) (by omega)
      rw [e2] at ih
      have lo : (us.take old).length = old := by
        rw [List.length_take]
        omega
      have so : splitN old = splitN us.length := splitN_of (i := (us.length - 1).log2) (by show splitN us.length < old; omega) (by show old ≤ 2 * splitN us.length; omega)
      rw [ih, topT_more (ts := us) (by omega), topT_more (ts := us.take old) (by omega), lo, so, List.take_take, Nat.min_eq_left (by omega), List.drop_take]
termination_by us.length
decreasing_by
  · rw [List.length_take]; omega
  · rw [List.length_drop]; omega
/-- the new top is the row's by the right growth alone -/
theorem reg_inj (us : List Tm) (old : Nat) (ps : List Tm) (h0 : 0 < old) (h1 : old ≤ us.length) (hl : ps.length = glen old us.length) (h : (regT old us.length ps).2 = topT us) : ps = growT us old := by
  have hps := last_split (l := ps) (d := nonT) (by have := glen_pos old us.length; omega)
  by_cases e : old = us.length
  · subst e
    rw [growT_all (by omega)]
    rw [regT_all] at h
    rw [glen_all] at hl
    have : ps.dropLast = [] := List.eq_nil_of_length_eq_zero (by rw [List.length_dropLast]; omega)
    rw [hps, this]
    exact congrArg (fun z => [z]) h
  · have hs := splitN_lt (n := us.length) (by omega)
    have hs0 := splitN_pos us.length
    have e1 : (us.take (splitN us.length)).length = splitN us.length := by
      rw [List.length_take]
      omega
    have e2 : (us.drop (splitN us.length)).length = us.length - splitN us.length := List.length_drop
    by_cases hp : old ≤ splitN us.length
    · rw [regT_low h0 (by omega) hp, topT_more (ts := us) (by omega)] at h
      rw [glen_low h0 (by omega) hp] at hl
      obtain ⟨q1, q2⟩ := pairT_inj h
      have ih := reg_inj (us.take (splitN us.length)) old ps.dropLast h0 (by omega) (by rw [List.length_dropLast, e1]; omega) (by rw [e1]; exact q1)
      rw [growT_low h0 (by omega) hp, ← ih, ← q2]
      exact hps
    · rw [regT_high h0 (by omega) hp, topT_more (ts := us) (by omega)] at h
      rw [glen_high h0 (by omega) hp] at hl
      obtain ⟨q1, q2⟩ := pairT_inj h
      have ih := reg_inj (us.drop (splitN us.length)) (old - splitN us.length) ps.dropLast (by omega) (by omega) (by rw [List.length_dropLast, e2]; omega) (by rw [e2]; exact q2)
      rw [growT_high h0 (by omega) hp, ← ih, ← q1]
      exact hps
termination_by us.length
decreasing_by
  · rw [List.length_take]; omega
  · rw [List.length_drop]; omega
theorem reg_ws {old n : Nat} {ps : List Tm} (hl : ps.length = glen old n) (h : ∀ t ∈ ps, WS t) : WS (regT old n ps).1 ∧ WS (regT old n ps).2 := by
  have hin : ps.getLastD nonT ∈ ps := by
    have := last_split (l := ps) (d := nonT) (by have := glen_pos old n; omega)
    rw [this, getLastD_concat]
    exact List.mem_append_right _ (List.mem_singleton.mpr rfl)
  have hd : ∀ t ∈ ps.dropLast, WS t := fun t ht => h t (List.dropLast_subset _ ht)
  by_cases e : old < n ∧ 0 < old
  · obtain ⟨h1, h0⟩ := e
    have hs := splitN_lt (n := n) (by omega)
    have hs0 := splitN_pos n
    by_cases hp : old ≤ splitN n
    · rw [glen_low h0 h1 hp] at hl
      rw [regT_low h0 h1 hp]
      obtain ⟨a, b⟩ := reg_ws (old := old) (n := splitN n) (ps := ps.dropLast) (by rw [List.length_dropLast]; omega) hd
      exact ⟨a, .pair b (h _ hin)⟩
    · rw [glen_high h0 h1 hp] at hl
      rw [regT_high h0 h1 hp]
      obtain ⟨a, b⟩ := reg_ws (old := old - splitN n) (n := n - splitN n) (ps := ps.dropLast) (by rw [List.length_dropLast]; omega) hd
      exact ⟨.pair (h _ hin) a, .pair (h _ hin) b⟩
  · rw [regT, dif_neg e]
    exact ⟨h _ hin, h _ hin⟩
termination_by n
theorem reg_dep {d old n : Nat} {ps : List Tm} (hl : ps.length = glen old n) (h : ∀ t ∈ ps, t.dep ≤ d) : (regT old n ps).1.dep ≤ d + ps.length ∧ (regT old n ps).2.dep ≤ d + ps.length := by
  have hin : ps.getLastD nonT ∈ ps := by
    have := last_split (l := ps) (d := nonT) (by have := glen_pos old n; omega)
    rw [this, getLastD_concat]
    exact List.mem_append_right _ (List.mem_singleton.mpr rfl)
  have hd : ∀ t ∈ ps.dropLast, t.dep ≤ d := fun t ht => h t (List.dropLast_subset _ ht)
  have hi := h _ hin
  by_cases e : old < n ∧ 0 < old
  · obtain ⟨h1, h0⟩ := e
    have hs := splitN_lt (n := n) (by omega)
    have hs0 := splitN_pos n
    by_cases hp : old ≤ splitN n
    · rw [glen_low h0 h1 hp] at hl
      rw [regT_low h0 h1 hp]
      obtain ⟨a, b⟩ := reg_dep (d := d) (old := old) (n := splitN n) (ps := ps.dropLast) (by rw [List.length_dropLast]; omega) hd
      rw [List.length_dropLast] at a b
      exact ⟨Nat.le_trans a (by omega), by show max _ _ + 1 ≤ _; omega⟩
    · rw [glen_high h0 h1 hp] at hl
      rw [regT_high h0 h1 hp]
      obtain ⟨a, b⟩ := reg_dep (d := d) (old := old - splitN n) (n := n - splitN n) (ps := ps.dropLast) (by rw [List.length_dropLast]; omega) hd
      rw [List.length_dropLast] at a b
      exact ⟨by show max _ _ + 1 ≤ _; omega, by show max _ _ + 1 ≤ _; omega⟩
  · rw [regT, dif_neg e]
    exact ⟨Nat.le_trans hi (by omega), Nat.le_trans hi (by omega)⟩
termination_by n

/-! ### list(reversed(a list)) -/
section
variable {prog : Program} {w : World} {A : Around} {E : Value → Shared → Prop} {s : Shared}
theorem list_rev {it l : Addr} {items : Array Value} {Q : Value → Shared → Prop} (hh : A.handled = none) (hit : s.heap.IsRevIter it l ((items.size : Int) - 1)) (hl : s.heap.IsList l items) (hne : l ≠ it) (hn : items.size ≤ sizeLine)
    (hQ : ∀ (h' : Heap) (tk : Nat) (acc : Array Value) (c : Nat), (∀ b o, b ≠ it → s.heap.get? b = some o → h'.get? b = some o) → h'.get? s.heap.objs.size = some { cls := .type "list", dict := none, data := .seq acc c, slots := #[] } → ItemsOf (fun i v => items[items.size - 1 - i]? = some v) acc items.size → Q (.ref s.heap.objs.size) { s with heap := h', toks := tk }) :
    wpAny (model prog w) A (call (.type "list") [.ref it]) Q E s := by
  have W := (Walks.listRev (prog := prog) (w := w) (A := A.in1.in1) hh it l hne items).toS
  obtain ⟨oi, hoi, _⟩ := id hit
  obtain ⟨ol, hol, _⟩ := id hl
  have hSi : s.heap.objs.size ≠ it := Nat.ne_of_gt (Heap.lt_size hoi)
  have hSl : s.heap.objs.size ≠ l := Nat.ne_of_gt (Heap.lt_size hol)
  have hSf : s.heap.objs.size ∉ [it, l] := by simp only [List.mem_cons, List.not_mem_nil, or_false, not_or]; exact ⟨hSi, hSl⟩
  refine callType_codes (Q₁ := fun obj s₁ => obj = .ref s.heap.objs.size ∧ s₁ = { s with heap := s.heap.push { cls := .type "list", data := .seq #[] } }) F.called_list (F.typeCall_list_1 _) F.entry_list_init
    (code_list_new _ ⟨rfl, rfl⟩) fun obj s₁ h₁ => ?_
  obtain ⟨rfl, rfl⟩ := h₁
  have hS : (s.heap.push { cls := .type "list", data := .seq #[] }).get? s.heap.objs.size = some { cls := .type "list", data := .seq #[] } := Heap.get?_push_size _ rfl
  refine ⟨⟨_, hS, rfl⟩, F.args_list_init_2 _ _, ?_⟩
  show wpAny _ A.in1.in1 (do let old ← Builtin.List.listItems (.ref s.heap.objs.size); Builtin.List.listUpdate (.ref s.heap.objs.size) (fun _ => #[]); letGo old.toList.reverse; Builtin.List.listExtendWith (.ref s.heap.objs.size) (.ref it) .none) _ _ _
  refine wpAny_bind ?_
  unfold Builtin.List.listItems
  refine wpAny_bind (wpAny_seqItems hS rfl (wpAny_pure ?_))
  show wpAny _ A.in1.in1 (updateSeq s.heap.objs.size (fun _ => #[]) >>= fun _ => letGo (#[] : Array Value).toList.reverse >>= fun _ => Builtin.List.listExtendWith (.ref s.heap.objs.size) (.ref it) .none) _ _ _
  refine wpAny_bind (wpAny_updateSeq hS rfl ?_)
  have hS2 := Heap.get?_update_self (Obj.mapSeq (fun _ => (#[] : Array Value))) hS rfl
  refine wpAny_bind (wpAny_letGo ?_)
  have up : ∀ (h : Heap) (f : Obj → Obj), (∀ b o, s.heap.get? b = some o → h.get? b = some o) → ∀ b o, s.heap.get? b = some o → (h.update s.heap.objs.size f).get? b = some o := fun h f q b o e =>
    (Heap.get?_update_other _ _ (Ne.symm (Nat.ne_of_lt (Heap.lt_size e)))).trans (q b o e)
  have k1 : ∀ b o, s.heap.get? b = some o → (s.heap.push { cls := .type "list", data := .seq #[] }).get? b = some o := fun b o e => Heap.get?_push_of_some _ e
  have k2 := up _ (Obj.mapSeq (fun _ => (#[] : Array Value))) k1
  generalize ((s.heap.push { cls := .type "list", data := .seq #[] }).update s.heap.objs.size (Obj.mapSeq (fun _ => (#[] : Array Value)))) = h2 at hS2 k2 ⊢
  have hit1 : h2.IsRevIter it l ((items.size : Int) - 1) := hit.at fun o e => k2 _ _ e
  have hl1 : h2.IsList l items := by
    obtain ⟨o, ho, q⟩ := id hl
    exact ⟨o, k2 _ _ ho, q⟩
  have hT : ({ s with heap := h2 } : Shared).TypeIs (.ref it) "list_reverseiterator" := Heap.IsRevIter.typeIs (s := { s with heap := h2 }) hit1
  have h1 : Builtin.List.listSameRef (.ref s.heap.objs.size) (.ref it) = false := by simp [Builtin.List.listSameRef, hSi]
  unfold Builtin.List.listExtendWith
  refine wpAny_bind (wpAny_typeOf hT ?_)
  rw [if_neg (by rw [h1]; decide)]
  refine wpAny_bind (wpAny_pyIter_revIter (s := { s with heap := h2 }) hit1 ?_)
  refine wpAny_bind (wpAny_holding ?_)
  unfold Builtin.List.listLengthHint
  refine wpAny_bind (wpAny_specialOf hT RT.nolen_lri ?_)
  show wpAny _ A.in1.in1 (specialOf (Value.ref it) (Str.ofString "__length_hint__") >>= _) _ _ _
  refine wpAny_bind (wpAny_specialOf hT RT.hint_lri ?_)
  generalize hid : ("list_reverseiterator.__length_hint__" : String) = id0
  wp_delta
  rw [show splitId id0 = some ("list_reverseiterator", "__length_hint__") from by subst hid; decide +kernel]
  subst hid
  refine wpAny_bind (wpAny_isInstance (b := true) hT (by rw [isSubtype_type]; kernel_rfl) ?_)
  refine wpAny_pure ?_
  rw [if_neg (by decide)]
  have e0 : ((items.size : Nat) : Int) - 1 - ((0 : Nat) : Int) = (items.size : Int) - 1 := by omega
  refine wpAny_pure ⟨plainId_quiet F.plain_extend_loop _, codeAny_extend_loopS W hn _ hSf _ items.size 0 _ _ _ rfl (Nat.zero_le _) ⟨Nat.zero_le _, by rw [e0]; exact hit1, hl1⟩ hS2 (ItemsOf.nil _) fun s' acc' c' hm hS' hacc => ?_⟩
  rw [Moved.eq_with hm]
  refine ⟨rfl, hQ s'.heap s'.toks acc' c' (fun b o hb e => hm.heap b o (fun hmem => ?_) (k2 _ _ e)) hS' hacc⟩
  rcases List.mem_cons.mp hmem with e' | hmem
  · exact absurd (Heap.lt_size e) (by rw [e']; exact Nat.lt_irrefl _)
  · exact hb (List.mem_singleton.mp hmem)
end
section
variable {X : Cx}
def tLstRev (K : PySem.W.Frag) (te : TE) : TE := fun σ H Q => te σ H fun v H1 => ∃ (a : Addr) (xs : List V), v = .ref a ∧ SqL K H1 a xs ∧ ∀ q, H1 q = none → Q (.ref q) (upd H1 q (.lst xs.reverse))
theorem pe_lstRev {e : Expr} {te : TE} {p p2 pos pos2 : Pos} (hc : X.calm = true) (hg : Gl X "list") (hm : X.mg "list" = none) (hg2 : Gl X "reversed") (hm2 : X.mg "reversed" = none) (he : PE X e te)
    (hs : starEach [e] X.env = (false, eval e X.env) :: starEach [] X.env := by rfl)
    (hs2 : starEach [.Call (.Name "reversed" p2) [e] [] pos2] X.env = (false, eval (.Call (.Name "reversed" p2) [e] [] pos2) X.env) :: starEach [] X.env := by rfl) :
    PE X (.Call (.Name "list" p) [.Call (.Name "reversed" p2) [e] [] pos2] [] pos) (tLstRev X.K te) := by
  refine ⟨fun pins s σ H Q I h => ?_⟩
  refine Call_ (ld_blt I hg hm boot_list (PyProof.Rows.callWith_type1 (args_cons (Call_ (ld_blt I hg2 hm2 PyProof.Rows.boot_reversed (PyProof.Rows.callWith_type1 (args_cons (thn (he.run pins s σ H _ I h) fun u s1 ⟨v, H1, I1, r1, q1⟩ => args_nil ?_) hs) hs rfl))) hs2) hs2 rfl))
  obtain ⟨a, xs, ev, hq, q⟩ := q1
  subst ev
  obtain rfl : u = Value.ref a := r1
  obtain ⟨its, rv, p', hz⟩ := I1.list hq
  refine call_reversed_list p'.isList (args_nil ?_)
  have hl := p'.isList
  obtain ⟨ol, hol, _⟩ := id hl
  have hne : a ≠ s1.heap.objs.size := Nat.ne_of_lt (Heap.lt_size hol)
  have hn : its.toArray.size ≤ sizeLine := by rw [List.size_toArray, ← rv.length]; exact hz
  refine list_rev (s := { s1 with heap := s1.heap.push (revObj a ((its.toArray.size : Int) - 1)) }) (I1.ok.hd hc) ⟨_, Heap.get?_push_size _ rfl, rfl, rfl⟩ (hl.push _) hne hn fun h' tk acc c hk hS hi => ?_
  have ext : ∀ b o, s1.heap.get? b = some o → h'.get? b = some o := fun b o e => hk b o (Nat.ne_of_lt (Heap.lt_size e)) (Heap.get?_push_of_some _ e)
  refine ⟨.ref _, upd H1 (s1.heap.push (revObj a ((its.toArray.size : Int) - 1))).objs.size (.lst xs.reverse), I1.laid (t' := tk) ext (Nat.le_of_lt (by simp [Heap.push])) (show ObjOk X.prog X.w _ _ _ (.lst xs.reverse) from ⟨by rw [List.length_reverse]; exact hz, acc.toList, c, RT.vals_rev rv hi, ?_⟩), rfl, q _ (I1.hok.fresh (Nat.le_of_lt (by simp [Heap.push])))⟩
  exact hS
end

/-! ### regrown -/
def gsides (old n : Nat) (ps : List Tm) : List (Tm × Bool) :=
  if h : old < n ∧ 0 < old then
    if old ≤ splitN n then (ps.getLastD nonT, true) :: gsides old (splitN n) ps.dropLast
    else (ps.getLastD nonT, false) :: gsides (old - splitN n) (n - splitN n) ps.dropLast
  else []
termination_by n
decreasing_by
  all_goals first | exact splitN_lt (by omega) | (have := splitN_pos n; omega)
def gb (old n : Nat) (ps : List Tm) : Tm :=
  if h : old < n ∧ 0 < old then
    if old ≤ splitN n then gb old (splitN n) ps.dropLast
    else gb (old - splitN n) (n - splitN n) ps.dropLast
  else ps.getLastD nonT
termination_by n
decreasing_by
  all_goals first | exact splitN_lt (by omega) | (have := splitN_pos n; omega)
theorem gs_all {n : Nat} {ps : List Tm} : gsides n n ps = [] ∧ gb n n ps = ps.getLastD nonT := ⟨by rw [gsides, dif_neg (by omega)], by rw [gb, dif_neg (by omega)]⟩
theorem gs_low {old n : Nat} {ps : List Tm} (h0 : 0 < old) (h1 : old < n) (h : old ≤ splitN n) : gsides old n ps = (ps.getLastD nonT, true) :: gsides old (splitN n) ps.dropLast ∧ gb old n ps = gb old (splitN n) ps.dropLast :=
  ⟨by rw [gsides, dif_pos ⟨h1, h0⟩, if_pos h], by rw [gb, dif_pos ⟨h1, h0⟩, if_pos h]⟩
theorem gs_high {old n : Nat} {ps : List Tm} (h0 : 0 < old) (h1 : old < n) (h : ¬ old ≤ splitN n) : gsides old n ps = (ps.getLastD nonT, false) :: gsides (old - splitN n) (n - splitN n) ps.dropLast ∧ gb old n ps = gb (old - splitN n) (n - splitN n) ps.dropLast :=
  ⟨by rw [gsides, dif_pos ⟨h1, h0⟩, if_neg h], by rw [gb, dif_pos ⟨h1, h0⟩, if_neg h]⟩
def stepO (s : Tm × Bool) (t : Tm) : Tm := if s.2 = true then t else pairT s.1 t
theorem regT_fold (old n : Nat) (ps : List Tm) : regT old n ps = ((gsides old n ps).foldr stepO (gb old n ps), (gsides old n ps).foldr stepT (gb old n ps)) := by
  by_cases e : old < n ∧ 0 < old
  · obtain ⟨h1, h0⟩ := e
    have hs := splitN_lt (n := n) (by omega)
    have hs0 := splitN_pos n
    by_cases hp : old ≤ splitN n
    · rw [regT_low h0 h1 hp, (gs_low h0 h1 hp).1, (gs_low h0 h1 hp).2, regT_fold old (splitN n)]
      rfl
    · rw [regT_high h0 h1 hp, (gs_high h0 h1 hp).1, (gs_high h0 h1 hp).2, regT_fold (old - splitN n) (n - splitN n)]
      rfl
  · rw [regT, dif_neg e, gsides, dif_neg e, gb, dif_neg e]
    rfl
termination_by n
theorem gsides_len {old n : Nat} (ps : List Tm) : (gsides old n ps).length + 1 = glen old n := by
  by_cases e : old < n ∧ 0 < old
  · obtain ⟨h1, h0⟩ := e
    have hs := splitN_lt (n := n) (by omega)
    have hs0 := splitN_pos n
    by_cases hp : old ≤ splitN n
    · rw [(gs_low h0 h1 hp).1, glen_low h0 h1 hp, List.length_cons, gsides_len]
    · rw [(gs_high h0 h1 hp).1, glen_high h0 h1 hp, List.length_cons, gsides_len]
  · rw [gsides, dif_neg e, glen, dif_neg e]
    rfl
termination_by n
def spRegrown (K : PySem.W.Frag) (mg : Str → Option Value) (Fam : Sys → Prop) : Sp := fun vs H Q E => ∃ (S : Sys) (old n : Nat) (v : V) (r : Nat), Fam S ∧ vs = [.ref S.f, .int (old : Int), .int (n : Int), v] ∧ 0 < old ∧ old ≤ n ∧ n ≤ 1000 ∧ S.ok H (r + 2 * glen old n) ∧
  ((∃ a ys ts, v = .ref a ∧ H a = some (.lst ys) ∧ DenL S H ys ts ∧ ts.length ≤ 100000 ∧
      (ts.length = glen old n → ∀ q va vb H', Ext H H' → S.ok H' r → H' q = some (.tup [va, vb]) → S.den H' va (regT old n ts).1 → S.den H' vb (regT old n ts).2 → Q (.ref q) H') ∧
      (ts.length ≠ glen old n → ∀ C H', mg "BadPaper" = some (.ref C) → Ext H H' → S.ok H' r → E (.ref C) none H')) ∨
   ((∃ t, TyX K H v t ∧ PySem.W.kitOne K t (.type "list") = some false) ∧ ∀ C H', mg "BadPaper" = some (.ref C) → Ext H H' → S.ok H' r → E (.ref C) none H'))
section
variable {P : Program} {w : World} {K : PySem.W.Frag} {mg : Str → Option Value} {base : Heap} {Fam : Sys → Prop}
theorem ok_regrown {cc : Addr} (T : Txt K mg cc) (A : SlA P w K mg base Fam) (C_last_of : CalX P w K mg base 1 "last_of" (spLast K mg)) (C_split : Cal P w K mg base 1 "split" spSplit []) (C_pair_seal : Cal P w K mg base 2 "pair_seal" (spPair Fam) []) : CalX P w K mg base 3 "regrown" (spRegrown K mg Fam) := by
  have Z := T.Z
  obtain ⟨C_BadPaper, g_BadPaper, F_BadPaper⟩ := T.x_BadPaper.ex
  refine calX_of T.d_regrown sc_regrown (fun vs H Q E h => ?_) (fun f cdv A' outer s H vs Q E hr h => ?_)
  · obtain ⟨S, old, n, v, r, _, rfl, _⟩ := h
    rfl
  obtain ⟨S, old, n, v, r, hF, rfl, ho0, hon, hn, hok, h⟩ := h
  have G := A.good hF
  have e16 : sizeLine = 16777216 := sizeLine_eq
  refine ⟨_, (pss_cons (ps_set (i := 4) sc_regrown.nd rfl (Or.inl rfl) (pe_cx C_last_of (takes_of rfl rfl rfl rfl) hr (by omega) rfl (pa_cons (pv 3) pa_nil)))
  (pss_cons (ps_par (i := 5) (j := 6) rfl sc_regrown.nd rfl rfl (by decide) rfl rfl (pa_cons (pe_slice sl_list (pv 3) po_none (po_some (pe_op op_sub (pe_callB call_len_seq rfl Z.len PySem.boot_len (pa_cons (pv 3) pa_nil)) pe_int))) (pa_cons (pe_lst pa_nil) pa_nil)) (by rfl))
  (pss_cons (ps_while (passes_of rfl) (pt_cmpR op_ne (pv 1) (pv 2) (nomark _)) (pss_cons (ps_set (i := 7) sc_regrown.nd rfl (Or.inl rfl) (pe_c C_split hr (by omega) rfl (pa_cons (pv 2) pa_nil)))
  (pss_cons (ps_expr (pe_bm PySem.F.plainAttrs_list PySem.F.slot_list_append PySem.F.type_list_append mt_append (pv 6) (pa_cons (pe_tup (pa_cons (pv 4) (pa_cons (pe_cmpR op_le (pv 1) (pv 7) (nomark _)) pa_nil))) pa_nil)))
  (pss_cons (ps_if (pt_cmpR op_le (pv 1) (pv 7) (nomark _)) (pss_one (ps_set (i := 2) sc_regrown.nd rfl (Or.inl rfl) (pv 7))) (pss_one (ps_par (i := 1) (j := 2) rfl sc_regrown.nd rfl rfl (by decide) rfl rfl (pa_cons (pe_op op_sub (pv 1) (pv 7)) (pa_cons (pe_op op_sub (pv 2) (pv 7)) pa_nil)) (by rfl))))
  (pss_cons (ps_set (i := 4) sc_regrown.nd rfl (Or.inl rfl) (pe_cx C_last_of (takes_of rfl rfl rfl rfl) hr (by omega) rfl (pa_cons (pv 5) pa_nil)))
  (pss_one (ps_set (i := 5) sc_regrown.nd rfl (Or.inl rfl) (pe_slice sl_list (pv 5) po_none (po_some (pe_op op_sub (pe_callB call_len_seq rfl Z.len PySem.boot_len (pa_cons (pv 5) pa_nil)) pe_int))))))))))
  (pss_cons (ps_if (pt_cmpR op_gt (pe_callB call_len_seq rfl Z.len PySem.boot_len (pa_cons (pv 5) pa_nil)) pe_int (nomark _)) (pss_one (ps_raiseX F_BadPaper g_BadPaper rfl (takes_of rfl rfl rfl rfl) rfl)) pss_nil)
  (pss_cons (ps_par (i := 8) (j := 9) rfl sc_regrown.nd rfl rfl (by decide) rfl rfl (pa_cons (pv 4) (pa_cons (pv 4) pa_nil)) (by rfl))
  (pss_cons (ps_for (passes_of rfl) rfl (pi_list (pe_revL (pv 6))) (pg_tup rfl (pgs_cons (pg_name (i := 4) sc_regrown.nd rfl (Or.inl rfl)) (pgs_cons (pg_name (i := 10) sc_regrown.nd rfl (Or.inl rfl)) pgs_nil))) (pss_cons (ps_if (pt_not (pt_val (pv 10))) (pss_one (ps_set (i := 8) sc_regrown.nd rfl (Or.inl rfl) (pe_c C_pair_seal hr (by omega) rfl (pa_cons (pv 0) (pa_cons (pv 4) (pa_cons (pv 8) pa_nil)))))) pss_nil)
  (pss_one (ps_set (i := 9) sc_regrown.nd rfl (Or.inl rfl) (pe_ifExp (pt_val (pv 10)) (pe_c C_pair_seal hr (by omega) rfl (pa_cons (pv 0) (pa_cons (pv 9) (pa_cons (pv 4) pa_nil)))) (pe_c C_pair_seal hr (by omega) rfl (pa_cons (pv 0) (pa_cons (pv 4) (pa_cons (pv 9) pa_nil)))))))))
  (pss_one (ps_ret (pe_tup (pa_cons (pv 8) (pa_cons (pv 9) pa_nil))))))))))), ?_⟩
  rcases h with ⟨a, ys, ts, rfl, ha, hd, hl, q1, q2⟩ | ⟨o, q⟩
  case inr => exact ⟨_, rfl, v, rfl, .inr ⟨o, fun C hC => q C H hC (Ext.refl _) (G.less hok (by omega))⟩⟩
  have hlen := hd.len
  refine ⟨_, rfl, .ref a, rfl, .inl ⟨a, ys, rfl, ha, fun y hy => ?_, fun e C hC => q2 ?_ C H hC (Ext.refl _) (G.less hok (by omega))⟩⟩
  case refine_2 =>
    have := glen_pos old n
    rw [e] at hlen
    rw [← hlen]
    show 0 ≠ _
    omega
  have hy' := getLast_at hy
  have hyl := (List.getElem?_eq_some_iff.mp hy').1
  obtain ⟨t, ht⟩ : ∃ t, ts[ys.length - 1]? = some t := ⟨ts[ys.length - 1]'(by omega), List.getElem?_eq_getElem _⟩
  have hyt := hd.at_ _ _ _ hy' ht
  have el : ts.getLastD nonT = t := by
    rw [List.getLastD_eq_getLast?, List.getLast?_eq_getElem?, ← hlen, ht]
    rfl
  have hts := last_split (l := ts) (d := nonT) (by omega)
  rw [el] at hts
  refine ⟨_, rfl, _, rfl, a, ys, rfl, .inl (SqL.of ha), _, 1, rfl, rfl, ((ys.length - 1 : Nat) : Int), by rw [show ((ys.length - 1 : Nat) : Int) = (ys.length : Int) - 1 by omega], a, ys, rfl, SqL.of ha, fun p1 np1 => ?_⟩
  rw [cut_to]
  have x1 := Ext.new (o := .lst (ys.take (ys.length - 1))) np1
  have k1 := Kp.new (o := .lst (ys.take (ys.length - 1))) np1
  refine ⟨by show 0 ≤ sizeLine; decide, fun p np => ⟨_, _, rfl, ?_⟩⟩
  have x2 := x1.trans (Ext.new (o := .lst []) np)
  have k2 := k1.trans (Kp.new (o := .lst []) np)
  have np0 := x1.free np
  have np1p : p1 ≠ p := ne_of_none upd_same np
  have hp1 : upd (upd H p1 (.lst (ys.take (ys.length - 1)))) p (.lst []) p1 = some (.lst (ys.take (ys.length - 1))) := by rw [upd_ne np1p]; exact upd_same
  have hpp : upd (upd H p1 (.lst (ys.take (ys.length - 1)))) p (.lst []) p = some (.lst []) := upd_same
  have hd1 : DenL S (upd (upd H p1 (.lst (ys.take (ys.length - 1)))) p (.lst [])) (ys.take (ys.length - 1)) ts.dropLast := by
    have := (hd.take (ts.length - 1)).mono G k2.gr
    rwa [show ts.take (ts.length - 1) = ts.dropLast from List.dropLast_eq_take.symm, ← hlen] at this
  have ok2 := G.keep k2 hok
  have hyt2 := G.mono k2.gr hyt
  generalize upd (upd H p1 (.lst (ys.take (ys.length - 1)))) p (.lst []) = H2 at x2 k2 hp1 hpp hd1 ok2 hyt2 ⊢
  refine ⟨fun m σ H' => ∃ (old' n' : Nat) (lv : V) (lt : Tm) (b : Addr) (us : List V) (ts' : List Tm) (ss : List (Tm × Bool)) (ssv : List V) (y7 : Option V), n' = m ∧ σ = [some (.ref S.f), some (.int (old' : Int)), some (.int (n' : Int)), some (.ref a), some lv, some (.ref b), some (.ref p), y7, none, none, none] ∧
    Ext H H' ∧ S.ok H' (r + 2 * glen old n) ∧ H' p = some (.lst ssv) ∧ SideL S H' ssv ss ∧ H' b = some (.lst us) ∧ b ≠ p ∧ DenL S H' us ts' ∧ S.den H' lv lt ∧ 0 < old' ∧ old' ≤ n' ∧ n' ≤ n ∧
    ts'.length + 1 + ss.length = ts.length ∧ glen old' n' + ss.length = glen old n ∧ ss ++ gsides old' n' (ts' ++ [lt]) = gsides old n ts ∧ gb old' n' (ts' ++ [lt]) = gb old n ts, ⟨_, old, n, y, t, p1, _, ts.dropLast, [], [], none, rfl, rfl, x2, ok2, hpp, .nil, hp1, np1p, hd1, hyt2, ho0, hon, Nat.le_refl _, ?_, rfl, ?_, ?_⟩, ?_⟩
  · rw [List.length_dropLast]
    show _ + 1 + 0 = _
    omega
  · rw [← hts]
    rfl
  · rw [← hts]
  rintro m σ H3 ⟨old', n', lv, lt, b, us, ts', ss, ssv, y7, rfl, rfl, x3, ok3, hp3, hss, hb, hbp, hd3, hlv, ho', hon', hnn, hc1, hc2, hc3, hc4⟩
  have hsl := hss.len
  have hul := hd3.len
  have glb := glen_le 10 old n (by show n ≤ 1024; omega)
  refine ⟨_, rfl, _, rfl, rfl, _, rfl, ?_⟩
  by_cases heq : old' = n'
  · subst heq
    rw [decide_eq_true rfl]
    refine iteF ?_
    refine ⟨_, rfl, b, us, rfl, .inl (SqL.of hb), _, 0, rfl, rfl, _, rfl, ite2 (fun c => ?_) (fun c => ?_)⟩
    · have c' : (0 : Int) < (us.length : Int) := of_decide_eq_true c
      refine q2 ?_ _ _ g_BadPaper x3 (G.less ok3 (by omega))
      rw [glen_all] at hc2
      omega
    have c' : ¬ (0 : Int) < (us.length : Int) := of_decide_eq_false (Bool.eq_false_iff.mpr c)
    have tsz : ts' = [] := List.eq_nil_of_length_eq_zero (by omega)
    subst tsz
    rw [glen_all] at hc2
    rw [gs_all.1, List.append_nil] at hc3
    rw [gs_all.2] at hc4
    have elt : lt = gb old n ts := hc4
    have hl2 : ts.length = glen old n := by
      have : ([] : List Tm).length = 0 := rfl
      omega
    refine ⟨_, rfl, _, rfl, _, _, rfl, ?_⟩
    refine ⟨_, rfl, p, ssv, rfl, SqL.of hp3, fun p4 np4 => ⟨p4, rfl, ⟨_, SqL.of upd_same⟩, ?_⟩⟩
    have x4 := x3.trans (Ext.new (o := .lst ssv.reverse) np4)
    have k4 := Kp.new (o := .lst ssv.reverse) np4
    have hp4 : upd H3 p4 (.lst ssv.reverse) p4 = some (.lst ssv.reverse) := upd_same
    have ok4 := G.keep k4 ok3
    have hss4 := hss.mono G k4.gr
    have hlv4 := G.mono k4.gr hlv
    generalize upd H3 p4 (.lst ssv.reverse) = H4 at x4 hp4 ok4 hss4 hlv4 ⊢
    refine for_list (K := K) (a := p4) (xs := ssv.reverse) (fun i σ H' => ∃ (u1 u2 : V) (z4 z10 : Option V), σ = [some (.ref S.f), some (.int (old' : Int)), some (.int (old' : Int)), some (.ref a), z4, some (.ref b), some (.ref p), y7, some u1, some u2, z10] ∧ Ext H4 H' ∧ S.ok H' (r + 2 * (ss.length - i)) ∧ S.den H' u1 ((ss.drop (ss.length - i)).foldr stepO lt) ∧ S.den H' u2 ((ss.drop (ss.length - i)).foldr stepT lt))
      ⟨lv, lv, _, _, rfl, Ext.refl _, G.less ok4 (by omega), by rw [Nat.sub_zero, List.drop_length]; exact hlv4, by rw [Nat.sub_zero, List.drop_length]; exact hlv4⟩ (fun i σ H' _ ⟨_, _, _, _, _, x, _⟩ => SqL.of (x.lst hp4)) ?_ ?_
    · rintro i y2 σ H' hi ⟨u1, u2, z4, z10, rfl, x, ok, hu1, hu2⟩
      have hlt := (List.getElem?_eq_some_iff.mp hi).1
      rw [List.length_reverse] at hlt
      rw [List.getElem?_reverse hlt] at hi
      have hj : ssv.length - 1 - i < ss.length := by omega
      obtain ⟨q, aa, rfl, hq, haa⟩ := (hss4.mono G x.gr).at_ _ y2 (ss[ssv.length - 1 - i]) hi (List.getElem?_eq_getElem hj)
      have ed : ss.drop (ss.length - (i + 1)) = ss[ssv.length - 1 - i] :: ss.drop (ss.length - i) := by
        rw [show ss.length - (i + 1) = ssv.length - 1 - i by omega, List.drop_eq_getElem_cons hj, show ssv.length - 1 - i + 1 = ss.length - i by omega]
      refine ⟨q, _, rfl, SqT.of hq, rfl, ?_⟩
      rw [ed, List.foldr_cons, List.foldr_cons]
      generalize ss[ssv.length - 1 - i] = sd at hq haa ⊢
      obtain ⟨st, sb⟩ := sd
      refine ⟨_, _, rfl, _, _, rfl, rfl, ?_⟩
      refine ⟨_, rfl, _, rfl, ?_⟩
      cases sb with
      | true =>
        refine iteF ?_
        refine ⟨_, rfl, _, rfl, iteT ?_⟩
        refine ⟨_, rfl, _, rfl, _, rfl, S, u2, aa, _, _, r + 2 * (ss.length - (i + 1)), hF, rfl, G.less ok (by omega), hu2, haa, fun v' H'' x' ok' d' => ?_⟩
        exact ⟨u1, v', _, _, rfl, x.trans x', ok', G.mono x'.gr hu1, d'⟩
      | false =>
        refine iteT ?_
        refine ⟨_, rfl, _, rfl, _, rfl, S, aa, u1, _, _, r + 2 * (ss.length - (i + 1)) + 1, hF, rfl, G.less ok (by omega), haa, hu1, fun v1 H5 x5 ok5 d5 => ?_⟩
        refine ⟨_, rfl, _, rfl, iteF ?_⟩
        refine ⟨_, rfl, _, rfl, _, rfl, S, aa, u2, _, _, r + 2 * (ss.length - (i + 1)), hF, rfl, ok5, G.mono x5.gr haa, G.mono x5.gr hu2, fun v' H'' x' ok' d' => ?_⟩
        exact ⟨v1, v', _, _, rfl, (x.trans x5).trans x', ok', G.mono x'.gr d5, d'⟩
    · rintro σ H6 ⟨u1, u2, z4, z10, rfl, x6, ok6, hu1, hu2⟩
      rw [List.length_reverse, hsl, Nat.sub_self, List.drop_zero] at hu1 hu2
      refine ⟨_, rfl, _, rfl, by show 2 ≤ sizeLine; decide, fun q nq => ?_⟩
      have e6 := Ext.new (o := .tup [u1, u2]) nq
      refine q1 hl2 q u1 u2 _ ((x4.trans x6).trans e6) (G.less (G.keep (Kp.new nq) ok6) (by omega)) upd_same ?_ ?_
      · rw [regT_fold, ← hc3, ← elt]
        exact G.mono e6.gr hu1
      · rw [regT_fold, ← hc3, ← elt]
        exact G.mono e6.gr hu2
  · rw [decide_eq_false (show ¬ V.int (old' : Int) = V.int (n' : Int) from fun z => heq (by have := V.int.inj z; omega))]
    refine iteT ?_
    have h2 : 2 ≤ n' := by omega
    have hs1 := splitN_lt h2
    have hs2 := splitN_pos n'
    refine ⟨_, fun σ' H' h => h, ?_⟩
    refine ⟨_, rfl, n', rfl, h2, Nat.le_trans (Nat.log2_le_self _) (by omega), ?_⟩
    refine ⟨_, rfl, .inl ⟨rfl, _, SqL.of hp3⟩, _, rfl, _, rfl, _, rfl, _, _, rfl, rfl, by show 2 ≤ sizeLine; decide, fun q hq => ?_⟩
    have npq : q ≠ p := fun z => by rw [z, hp3] at hq; cases hq
    have nqb : q ≠ b := fun z => by rw [z, hb] at hq; cases hq
    have u1 := Ext.new (o := .tup [lv, .bl (decide ((old' : Int) ≤ ((splitN n' : Nat) : Int)))]) hq
    have j1 := Kp.new (o := .tup [lv, .bl (decide ((old' : Int) ≤ ((splitN n' : Nat) : Int)))]) hq
    have hp4 := u1.lst hp3
    have hq4 : upd H3 q (.tup [lv, .bl (decide ((old' : Int) ≤ ((splitN n' : Nat) : Int)))]) q = some (.tup [lv, .bl (decide ((old' : Int) ≤ ((splitN n' : Nat) : Int)))]) := upd_same
    have hb4 := u1.lst hb
    generalize upd H3 q (.tup [lv, .bl (decide ((old' : Int) ≤ ((splitN n' : Nat) : Int)))]) = H4 at u1 j1 hp4 hq4 hb4 ⊢
    refine ⟨p, ssv, _, rfl, rfl, hp4, by rw [hsl, e16]; omega, ?_⟩
    have k5 := j1.trans (Kp.lst (o := .lst (ssv ++ [.ref q])) hp4)
    have x5 := (x3.trans u1).mut (o := .lst (ssv ++ [.ref q])) np0
    have hp5 : upd H4 p (.lst (ssv ++ [.ref q])) p = some (.lst (ssv ++ [.ref q])) := upd_same
    have hq5 : upd H4 p (.lst (ssv ++ [.ref q])) q = some (.tup [lv, .bl (decide ((old' : Int) ≤ ((splitN n' : Nat) : Int)))]) := by rw [upd_ne npq]; exact hq4
    have hb5 : upd H4 p (.lst (ssv ++ [.ref q])) b = some (.lst us) := by rw [upd_ne hbp]; exact hb4
    generalize upd H4 p (.lst (ssv ++ [.ref q])) = H5 at k5 x5 hp5 hq5 hb5 ⊢
    have ok5 := G.keep k5 ok3
    have hd5 := hd3.mono G k5.gr
    -- the next one, or none
    have nx : ∀ R : VK, (∀ y t, us.getLast? = some y → ts'.getLast? = some t → S.den H5 y t → R y H5) → spLast K mg [.ref b] H5 R (fun cls d H' => E cls d H') := fun R hR => by
      refine ⟨.ref b, rfl, .inl ⟨b, us, rfl, hb5, fun y hy => ?_, fun e C hC => q2 ?_ C H5 hC x5 (G.less ok5 (by omega))⟩⟩
      · have hy' := getLast_at hy
        have hyl := (List.getElem?_eq_some_iff.mp hy').1
        obtain ⟨t, ht⟩ : ∃ t, ts'[us.length - 1]? = some t := ⟨ts'[us.length - 1]'(by omega), List.getElem?_eq_getElem _⟩
        exact hR y t hy (by rw [List.getLast?_eq_getElem?, ← hul, ht]) (hd5.at_ _ _ _ hy' ht)
      · rw [e] at hul
        have hul' : ts'.length = 0 := hul.symm
        have : 2 ≤ glen old' n' := by
          by_cases hp : old' ≤ splitN n'
          · rw [glen_low ho' (by omega) hp]
            have := glen_pos old' (splitN n')
            omega
          · rw [glen_high ho' (by omega) hp]
            have := glen_pos (old' - splitN n') (n' - splitN n')
            omega
        omega
    refine ⟨_, rfl, _, rfl, _, _, rfl, rfl, _, rfl, ite2 (fun c2 => ?_) (fun c2 => ?_)⟩
    · have c2' : (old' : Int) ≤ ((splitN n' : Nat) : Int) := of_decide_eq_true c2
      have hp : old' ≤ splitN n' := by omega
      have g1 := gs_low (ps := ts' ++ [lt]) ho' (by omega) hp
      rw [List.dropLast_concat, getLastD_concat] at g1
      have g2 := glen_low ho' (by omega) hp
      refine ⟨_, rfl, ?_⟩
      refine ⟨_, rfl, nx _ fun y2 t2 hy2 ht2 hyt2 => ?_⟩
      have ht2' := getLast_at ht2
      have htl := (List.getElem?_eq_some_iff.mp ht2').1
      refine ⟨_, rfl, _, rfl, b, us, rfl, .inl (SqL.of hb5), _, 1, rfl, rfl, ((us.length - 1 : Nat) : Int), by rw [show ((us.length - 1 : Nat) : Int) = (us.length : Int) - 1 by omega], b, us, rfl, SqL.of hb5, fun p6 np6 => ?_⟩
      rw [cut_to]
      have x6 := Ext.new (o := .lst (us.take (us.length - 1))) np6
      have k6 := Kp.new (o := .lst (us.take (us.length - 1))) np6
      have ht4 : ts' = ts'.dropLast ++ [t2] := by
        have := last_split (l := ts') (d := nonT) (by omega)
        rwa [List.getLastD_eq_getLast?, ht2] at this
      have np6p : p6 ≠ p := fun z => by rw [z, hp5] at np6; cases np6
      refine ⟨splitN n', hs1, old', splitN n', y2, t2, p6, us.take (us.length - 1), ts'.dropLast, ss ++ [(lt, true)], ssv ++ [.ref q], _, rfl, rfl, x5.trans x6, G.keep k6 ok5, x6.lst hp5, ((hss.mono G k5.gr).snoc (by rw [hq5, decide_eq_true c2']) (G.mono k5.gr hlv)).mono G k6.gr, upd_same, np6p, ?_, G.mono k6.gr hyt2, ho', hp, by omega, ?_, ?_, ?_, ?_⟩
      · have := (hd5.take (ts'.length - 1)).mono G k6.gr
        rwa [show ts'.take (ts'.length - 1) = ts'.dropLast from List.dropLast_eq_take.symm, ← hul] at this
      · rw [List.length_dropLast, List.length_append]
        show _ + 1 + (_ + 1) = _
        omega
      · rw [List.length_append]
        show _ + (_ + 1) = _
        omega
      · rw [← hc3, g1.1, ← ht4, List.append_assoc]
        rfl
      · rw [← hc4, g1.2, ← ht4]
    · have c2' : ¬ (old' : Int) ≤ ((splitN n' : Nat) : Int) := of_decide_eq_false (Bool.eq_false_iff.mpr c2)
      have hp : ¬ old' ≤ splitN n' := by omega
      have g1 := gs_high (ps := ts' ++ [lt]) ho' (by omega) hp
      rw [List.dropLast_concat, getLastD_concat] at g1
      have g2 := glen_high ho' (by omega) hp
      refine ⟨_, rfl, _, rfl, _, _, rfl, rfl, _, rfl, _, rfl, _, _, rfl, rfl, _, _, rfl, ?_⟩
      refine ⟨_, rfl, nx _ fun y2 t2 hy2 ht2 hyt2 => ?_⟩
      have ht2' := getLast_at ht2
      have htl := (List.getElem?_eq_some_iff.mp ht2').1
      refine ⟨_, rfl, _, rfl, b, us, rfl, .inl (SqL.of hb5), _, 1, rfl, rfl, ((us.length - 1 : Nat) : Int), by rw [show ((us.length - 1 : Nat) : Int) = (us.length : Int) - 1 by omega], b, us, rfl, SqL.of hb5, fun p6 np6 => ?_⟩
      rw [cut_to]
      have x6 := Ext.new (o := .lst (us.take (us.length - 1))) np6
      have k6 := Kp.new (o := .lst (us.take (us.length - 1))) np6
      have ht4 : ts' = ts'.dropLast ++ [t2] := by
        have := last_split (l := ts') (d := nonT) (by omega)
        rwa [List.getLastD_eq_getLast?, ht2] at this
      have np6p : p6 ≠ p := fun z => by rw [z, hp5] at np6; cases np6
      refine ⟨n' - splitN n', by omega, old' - splitN n', n' - splitN n', y2, t2, p6, us.take (us.length - 1), ts'.dropLast, ss ++ [(lt, false)], ssv ++ [.ref q], some (.int ((splitN n' : Nat) : Int)), rfl, ?_, x5.trans x6, G.keep k6 ok5, x6.lst hp5, ((hss.mono G k5.gr).snoc (by rw [hq5, decide_eq_false c2']) (G.mono k5.gr hlv)).mono G k6.gr, upd_same, np6p, ?_, G.mono k6.gr hyt2, by omega, by omega, by omega, ?_, ?_, ?_, ?_⟩
      · rw [show ((old' - splitN n' : Nat) : Int) = (old' : Int) - ((splitN n' : Nat) : Int) by omega, show ((n' - splitN n' : Nat) : Int) = (n' : Int) - ((splitN n' : Nat) : Int) by omega]
        rfl
      · have := (hd5.take (ts'.length - 1)).mono G k6.gr
        rwa [show ts'.take (ts'.length - 1) = ts'.dropLast from List.dropLast_eq_take.symm, ← hul] at this
      · rw [List.length_dropLast, List.length_append]
        show _ + 1 + (_ + 1) = _
        omega
      · rw [List.length_append]
        show _ + (_ + 1) = _
        omega
      · rw [← hc3, g1.1, ← ht4, List.append_assoc]
        rfl
      · rw [← hc4, g1.2, ← ht4]
end

/-! ### a claim that an entry stands at a place -/
def judgeS (place : Int) (lt : Tm) (n : Nat) (ht : Tm) : Option (List Tm) → Bool
  | none => false
  | some ps => decide (0 ≤ place ∧ place < (n : Int) ∧ ps.length = plen place.toNat n ∧ Tm.sl "book" (.int (n : Int)) (riseT lt (sidesT place.toNat n ps)) = ht)
/-- a paper: a row of tops, or no list -/
def Pap (K : PySem.W.Frag) (S : Sys) (H : Hp) (v : V) : Option (List Tm) → Prop
  | none => ∀ H', Ext H H' → Odd K H' v
  | some ps => ∃ a ys, v = .ref a ∧ H a = some (.lst ys) ∧ DenL S H ys ps ∧ ps.length ≤ 100 ∧ ∀ t ∈ ps, WS t ∧ t.dep ≤ 28
theorem Pap.ext {K : PySem.W.Frag} {S : Sys} (G : S.Good K) {H H' : Hp} {v : V} {p : Option (List Tm)} (h : Pap K S H v p) (e : Ext H H') : Pap K S H' v p := by
  cases p with
  | none => exact fun H2 e2 => h H2 (e.trans e2)
  | some ps =>
    obtain ⟨a, ys, rfl, ha, hd, hl, hp⟩ := h
    exact ⟨a, ys, rfl, e.lst ha, hd.mono G e.gr, hl, hp⟩

def stF (place : Int) (x : Str) (tv : V) : List (Str × V) := [("place", .int place), ("words", .str x), ("table", tv)]
theorem stF_place (place : Int) (x : Str) (tv : V) : (stF place x tv).lookup ("place" : Str) = some (.int place) := by kernel_rfl
theorem stF_words (place : Int) (x : Str) (tv : V) : (stF place x tv).lookup ("words" : Str) = some (.str x) := by kernel_rfl
theorem stF_table (place : Int) (x : Str) (tv : V) : (stF place x tv).lookup ("table" : Str) = some tv := by kernel_rfl
theorem stF_no (place : Int) (x : Str) (tv : V) : (stF place x tv).lookup ("judged" : Str) = none ∧ (stF place x tv).lookup ("shown" : Str) = none := ⟨by kernel_rfl, by kernel_rfl⟩
theorem stF_mk (place : Int) (x : Str) (tv : V) : putF "table" tv (putF "words" (.str x) (putF "place" (.int place) [])) = stF place x tv := by kernel_rfl
section
variable {P : Program} {w : World} {K : PySem.W.Frag} {mg : Str → Option Value} {base : Heap} {Fam : Sys → Prop} {C : Addr}
def spStInit (C : Addr) : Sp := fun vs H Q _ => ∃ (p dx : Addr) (place : Int) (x : Str) (tv : V), vs = [.ref p, .int place, .str x, tv] ∧ H p = some (.ins C dx []) ∧ ∀ H', ExtO p H H' → Kp H H' → H' p = some (.ins C dx (stF place x tv)) → Q .non H'
theorem ok_stinit (KS : K_Stands K mg C) : Mak P w K mg base 1 "Stands" C (spStInit C) [] := by
  refine mak_of KS.mgC KS.made sc_Stands___init__ (fun vs H Q E h => ?_) (fun f cdv A' outer s H vs Q E hr h => ?_)
  · obtain ⟨p, dx, place, x, tv, rfl, _⟩ := h
    rfl
  obtain ⟨p, dx, place, x, tv, rfl, hp, q⟩ := h
  refine ⟨_, (pss_cons (ps_fld (pv 0) (pv 1) rfl)
  (pss_cons (ps_fld (pv 0) (pv 2) rfl)
  (pss_one (ps_fld (pv 0) (pv 3) rfl)))), ?_⟩
  refine ⟨_, rfl, _, rfl, p, C, dx, _, rfl, hp, KS.cl, KS.n_place, by show 0 < 1000; decide, ?_⟩
  refine ⟨_, rfl, _, rfl, p, C, dx, _, rfl, upd_same, KS.cl, KS.n_words, by show 1 < 1000; decide, ?_⟩
  refine ⟨_, rfl, _, rfl, p, C, dx, _, rfl, upd_same, KS.cl, KS.n_table, by show 2 < 1000; decide, ?_⟩
  have x1 := ExtO.put (o := .ins C dx (putF "place" (.int place) [])) hp
  have k1 := Kp.ins (o := .ins C dx (putF "place" (.int place) [])) hp
  have x2 := x1.trans (ExtO.put (o := .ins C dx (putF "words" (.str x) (putF "place" (.int place) []))) upd_same)
  have k2 := k1.trans (Kp.ins (o := .ins C dx (putF "words" (.str x) (putF "place" (.int place) []))) upd_same)
  refine q _ (x2.trans (ExtO.put upd_same)) (k2.trans (Kp.ins upd_same)) ?_
  rw [upd_same, stF_mk]
def spShownS (K : PySem.W.Frag) (mg : Str → Option Value) (C : Addr) (Fam : Sys → Prop) : Sp := fun vs H Q E => ∃ (S : Sys) (p dx : Addr) (place : Int) (x : Str) (tv : V) (ta : Tm) (n : Nat) (m : Int) (Y : Tm) (head v : V) (paper : Option (List Tm)) (r : Nat), Fam S ∧ vs = [.ref p, .ref S.f, .int (n : Int), head, v] ∧ H p = some (.ins C dx (stF place x tv)) ∧ txtOk x = true ∧ S.den H tv ta ∧ WS ta ∧ ta.dep ≤ 18 ∧ n ≤ 1000 ∧
  S.den H head (.sl "book" (.int m) Y) ∧ WS Y ∧ Y.dep ≤ 40 ∧ Pap K S H v paper ∧ S.ok H (r + 20) ∧
  (∀ H', Ext H H' → S.ok H' r → Q (.bl (judgeS place (.sl "leaf" (.str x) ta) n (.sl "book" (.int m) Y) paper)) H') ∧
  (judgeS place (.sl "leaf" (.str x) ta) n (.sl "book" (.int m) Y) paper = false → ∀ D H', mg "BadPaper" = some (.ref D) → Ext H H' → S.ok H' r → E (.ref D) none H')
theorem ok_shownS {cc : Addr} (T : Txt K mg cc) (A : SlA P w K mg base Fam) (I3 : ∀ {S}, Fam S → S.Inj K) (KS : K_Stands K mg C) : MetR P w K mg base 4 C "shown" (spShownS K mg C Fam) := by
  have Z := T.Z
  have C_leaf_seal := ok_leaf_seal T A
  have C_book_seal := ok_book_seal T A
  have C_risen := ok_risen T A (ok_last T) (ok_split T) (ok_pair_seal T A)
  refine metR_of KS.cl KS.m_shown sc_Stands_shown (fun vs H Q E h => ?_) (fun f cdv A' outer s H vs Q E hr h => ?_)
  · obtain ⟨S, p, dx, place, x, tv, ta, n, m, Y, head, v, paper, r, _, rfl, _⟩ := h
    rfl
  obtain ⟨S, p, dx, place, x, tv, ta, n, m, Y, head, v, paper, r, hF, rfl, hp, hx, htv, hws, hta, hn, hh, hY, hYd, hpap, hok, q1, q2⟩ := h
  have G := A.good hF
  refine ⟨_, (pss_cons (ps_if (pt_not (pt_chain op_le op_lt pe_int (pe_fld (pv 0) rfl) (pv 2))) (pss_one (ps_ret pe_bl)) pss_nil)
  (pss_cons (ps_set (i := 5) sc_Stands_shown.nd rfl (Or.inl rfl) (pe_c C_leaf_seal hr (by omega) rfl (pa_cons (pv 1) (pa_cons (pe_fld (pv 0) rfl) (pa_cons (pe_fld (pv 0) rfl) pa_nil)))))
  (pss_one (ps_ret (pe_cmpR (op_eqD hr.units) (pe_c C_book_seal hr (by omega) rfl (pa_cons (pv 1) (pa_cons (pv 2) (pa_cons (pe_cx C_risen (takes_of rfl rfl rfl rfl) hr (by omega) rfl (pa_cons (pv 1) (pa_cons (pv 5) (pa_cons (pe_fld (pv 0) rfl) (pa_cons (pv 2) (pa_cons (pv 4) pa_nil)))))) pa_nil)))) (pv 3) (nomark _)))))), ?_⟩
  have bad : ¬ (0 ≤ place ∧ place < (n : Int)) → judgeS place (.sl "leaf" (.str x) ta) n (.sl "book" (.int m) Y) paper = false := fun z => by
    cases paper with
    | none => rfl
    | some ps => exact decide_eq_false fun h => z ⟨h.1, h.2.1⟩
  refine ⟨_, rfl, p, C, dx, _, _, rfl, hp, KS.cl, KS.n_place, stF_place _ _ _, _, _, rfl, rfl, _, rfl, ite2 (fun c1 => ?_) (fun c1 => ?_)⟩
  · have c1' : (0 : Int) ≤ place := of_decide_eq_true c1
    refine ⟨_, rfl, _, _, rfl, rfl, _, rfl, ?_⟩
    by_cases c2 : place < (n : Int)
    · rw [decide_eq_true c2]
      refine iteF ?_
      obtain ⟨pl, rfl⟩ := Int.eq_ofNat_of_zero_le c1'
      have hpl : pl < n := by omega
      refine ⟨_, rfl, _, rfl, p, C, dx, _, _, rfl, hp, KS.cl, KS.n_words, stF_words _ _ _, _, rfl, p, C, dx, _, _, rfl, hp, KS.cl, KS.n_table, stF_table _ _ _, S, _, _, .str x, ta, r + 19, hF, rfl, hok, G.str _ hok hx, htv, fun vl H1 x1 ok1 d1 => ?_⟩
      have plb := plen_le 10 pl n (by show n ≤ 1024; omega)
      refine ⟨_, rfl, _, rfl, _, rfl, _, rfl, _, rfl, p, C, dx, _, _, rfl, x1.ins hp, KS.cl, KS.n_place, stF_place _ _ _, _, rfl, _, rfl, S, vl, _, pl, n, v, r + 5, hF, rfl, d1, hpl, Nat.le_trans (Nat.log2_le_self _) hn, G.less ok1 (by omega), ?_⟩
      have hpap1 := hpap.ext G x1
      cases paper with
      | none => exact .inr ⟨hpap1, fun D H' hD e ok => q2 rfl D H' hD (x1.trans e) (G.less ok (by omega))⟩
      | some ps =>
        obtain ⟨a, ys, rfl, ha, hd, hl, hps⟩ := hpap1
        refine .inl ⟨a, ys, ps, rfl, ha, hd, by omega, fun t ht => Nat.le_trans (hps t ht).2 (by decide), fun hlen u H2 x2 ok2 d2 => ?_, fun hlen D H' hD e ok => q2 (decide_eq_false fun h => hlen h.2.2.1) D H' hD (x1.trans e) (G.less ok (by omega))⟩
        refine ⟨S, _, u, .int (n : Int), _, r + 4, hF, rfl, ok2, G.int _ ok2, d2, fun ub H3 x3 ok3 d3 => ?_⟩
        have x13 := (x1.trans x2).trans x3
        have smem := sidesT_mem hlen
        have hlt : (Tm.sl "leaf" (.str x) ta).dep ≤ 28 := by show max 0 ta.dep + 1 ≤ 28; omega
        have rw1 : WS (riseT (.sl "leaf" (.str x) ta) (sidesT pl n ps)) := riseT_ws (.leaf x hws) fun s hs => (hps _ (smem s hs)).1
        have rd1 := riseT_dep (n := 28) hlt (fun s hs => (hps _ (smem s hs)).2)
        rw [sidesT_len] at rd1
        have cmp : cmpT (.sl "book" (.int (n : Int)) (riseT (.sl "leaf" (.str x) ta) (sidesT pl n ps))) (.sl "book" (.int m) Y) := cmp_sl (rw1.cmp hY)
        obtain ⟨d, d', e1, e2, e3, e4, e5, e6, e7⟩ := (I3 hF).inj ok3 d3 (G.mono x13.gr hh) cmp
        have dd1 : (Tm.sl "book" (.int (n : Int)) (riseT (.sl "leaf" (.str x) ta) (sidesT pl n ps))).dep ≤ 60 := by show max 0 _ + 1 ≤ 60; omega
        have dd2 : (Tm.sl "book" (.int m) Y).dep ≤ 60 := by show max 0 Y.dep + 1 ≤ 60; omega
        refine ⟨_, rfl, d, d', e1, e2, shaped_of e3 (by omega), shaped_of e4 (by omega), ?_⟩
        rw [e7]
        have q3 := q1 H3 x13 (G.less ok3 (by omega))
        have ej : judgeS ((pl : Nat) : Int) (.sl "leaf" (.str x) ta) n (.sl "book" (.int m) Y) (some ps) = decide (Tm.sl "book" (.int (n : Int)) (riseT (.sl "leaf" (.str x) ta) (sidesT pl n ps)) = .sl "book" (.int m) Y) := by
          show decide _ = decide _
          rw [Int.toNat_natCast]
          congr 1
          exact propext ⟨fun h => h.2.2.2, fun h => ⟨c1', c2, hlen, h⟩⟩
        rw [ej] at q3
        exact q3
    · rw [decide_eq_false c2]
      refine iteT ?_
      have := q1 H (Ext.refl _) (G.less hok (by omega))
      rw [bad fun z => c2 z.2] at this
      exact this
  · have c1' : ¬ (0 : Int) ≤ place := of_decide_eq_false (Bool.eq_false_iff.mpr c1)
    refine ⟨_, rfl, iteT ?_⟩
    have := q1 H (Ext.refl _) (G.less hok (by omega))
    rw [bad fun z => c1' z.1] at this
    exact this
def spJudgedS (K : PySem.W.Frag) (C : Addr) (Fam : Sys → Prop) : Sp := fun vs H Q _ => ∃ (S : Sys) (p dx : Addr) (place : Int) (x : Str) (tv : V) (ta : Tm) (n : Nat) (m : Int) (Y : Tm) (head v : V) (paper : Option (List Tm)) (r : Nat), Fam S ∧ vs = [.ref p, .ref S.f, .int (n : Int), head, v] ∧ H p = some (.ins C dx (stF place x tv)) ∧ txtOk x = true ∧ S.den H tv ta ∧ WS ta ∧ ta.dep ≤ 18 ∧ n ≤ 1000 ∧
  S.den H head (.sl "book" (.int m) Y) ∧ WS Y ∧ Y.dep ≤ 40 ∧ Pap K S H v paper ∧ S.ok H (r + 20) ∧
  (∀ H', Ext H H' → S.ok H' r → Q (.bl (judgeS place (.sl "leaf" (.str x) ta) n (.sl "book" (.int m) Y) paper)) H')
theorem ok_judgedS {cc : Addr} (T : Txt K mg cc) (A : SlA P w K mg base Fam) (I3 : ∀ {S}, Fam S → S.Inj K) (KS : K_Stands K mg C) : Met P w K mg base 5 C "judged" (spJudgedS K C Fam) [] := by
  obtain ⟨C_BadPaper, g_BadPaper, F_BadPaper⟩ := T.x_BadPaper.ex
  have M_shown := ok_shownS T A I3 KS
  refine met_of KS.cl KS.m_judged sc_Claim_judged (fun vs H Q E h => ?_) (fun f cdv A' outer s H vs Q E hr h => ?_)
  · obtain ⟨S, p, dx, place, x, tv, ta, n, m, Y, head, v, paper, r, _, rfl, _⟩ := h
    rfl
  obtain ⟨S, p, dx, place, x, tv, ta, n, m, Y, head, v, paper, r, hF, rfl, hp, hx, htv, hws, hta, hn, hh, hY, hYd, hpap, hok, q⟩ := h
  refine ⟨_, (pss_one (ps_try_onlyE (pss_one (ps_ret (pv 5))) rfl rfl ⟨rfl, by decide, .inl g_BadPaper⟩ takes0 (fun W pn xe tk po => (pss_one (ps_set (i := 5) sc_Claim_judged.nd rfl (Or.inl rfl) (pe_mtx M_shown tk hr (by omega) (pv 0) (pa_cons (pv 1) (pa_cons (pv 2) (pa_cons (pv 3) (pa_cons (pv 4) pa_nil)))))))) (fun a oe cls d pn hz hf => (pss_when (P := cls = .ref C_BadPaper ∧ d = none) fun hsu => (pss_one (ps_ret pe_bl)))))), ?_⟩
  refine ⟨_, rfl, p, dx, _, rfl, hp, (stF_no _ _ _).2, _, rfl, _, rfl, _, rfl, _, rfl, S, p, dx, place, x, tv, ta, n, m, Y, head, v, paper, r, hF, rfl, hp, hx, htv, hws, hta, hn, hh, hY, hYd, hpap, hok, fun H' e ok => ⟨_, rfl, q H' e ok⟩, fun hj D H' hD e ok => ?_⟩
  rw [g_BadPaper] at hD
  cases hD
  refine ⟨true, F_BadPaper.eP, fun _ p2 hp2 => ⟨⟨rfl, rfl⟩, ?_⟩, fun z => nomatch z⟩
  have := q H' e ok
  rw [hj] at this
  exact this
end

/-! ### a claim of a growth -/
def emptyT : Tm := .sl "book" (.int 0) nonT
def judgeG (old : Int) (n : Nat) (said ht : Tm) (paper : Option (List Tm)) : Bool :=
  if old = 0 then decide (said = emptyT ∧ paper = some [] ∧ (0 < n ∨ ht = emptyT)) else
    match paper with
    | none => false
    | some ps => decide (0 < old ∧ old ≤ (n : Int) ∧ ps.length = glen old.toNat n ∧ Tm.sl "book" (.int old) (regT old.toNat n ps).1 = said ∧ Tm.sl "book" (.int (n : Int)) (regT old.toNat n ps).2 = ht)
def BkT (t : Tm) : Prop := ∃ m Y, t = .sl "book" (.int m) Y ∧ WS Y ∧ Y.dep ≤ 40
theorem BkT.cmp {a b : Tm} (h : BkT a) (h' : BkT b) : cmpT a b := by
  obtain ⟨m, Y, rfl, hY, _⟩ := h
  obtain ⟨m', Y', rfl, hY', _⟩ := h'
  exact cmp_sl (hY.cmp hY')
theorem BkT.dep {a : Tm} (h : BkT a) : a.dep ≤ 60 := by
  obtain ⟨m, Y, rfl, _, hd⟩ := h
  show max 0 Y.dep + 1 ≤ 60
  omega
theorem empty_bk : BkT emptyT := ⟨0, nonT, rfl, .non, by decide⟩
theorem bk_apart {K : PySem.W.Frag} {S : Sys} (I : S.Inj K) {H : Hp} {r : Nat} (ok : S.ok H r) {v v' : V} {t t' : Tm} (h : S.den H v t) (h' : S.den H v' t') (b : BkT t) (b' : BkT t') :
    ∃ d d', Dp K H v d ∧ Dp K H v' d' ∧ SeqAt.shaped d = true ∧ SeqAt.shaped d' = true ∧ PyData.eqv d d' = decide (t = t') := by
  obtain ⟨d, d', e1, e2, e3, e4, e5, e6, e7⟩ := I.inj ok h h' (b.cmp b')
  have := b.dep
  have := b'.dep
  exact ⟨d, d', e1, e2, shaped_of e3 (by omega), shaped_of e4 (by omega), e7⟩
def grF (old : Int) (bv : V) : List (Str × V) := [("old", .int old), ("before", bv)]
theorem grF_old (old : Int) (bv : V) : (grF old bv).lookup ("old" : Str) = some (.int old) := by kernel_rfl
theorem grF_before (old : Int) (bv : V) : (grF old bv).lookup ("before" : Str) = some bv := by kernel_rfl
theorem grF_no (old : Int) (bv : V) : (grF old bv).lookup ("judged" : Str) = none ∧ (grF old bv).lookup ("shown" : Str) = none := ⟨by kernel_rfl, by kernel_rfl⟩
theorem grF_mk (old : Int) (bv : V) : putF "before" bv (putF "old" (.int old) []) = grF old bv := by kernel_rfl
section
variable {P : Program} {w : World} {K : PySem.W.Frag} {mg : Str → Option Value} {base : Heap} {Fam : Sys → Prop} {C : Addr}
def spGrInit (C : Addr) : Sp := fun vs H Q _ => ∃ (p dx : Addr) (old : Int) (bv : V), vs = [.ref p, .int old, bv] ∧ H p = some (.ins C dx []) ∧ ∀ H', ExtO p H H' → Kp H H' → H' p = some (.ins C dx (grF old bv)) → Q .non H'
theorem ok_grinit (KS : K_Grows K mg C) : Mak P w K mg base 1 "Grows" C (spGrInit C) [] := by
  refine mak_of KS.mgC KS.made sc_Grows___init__ (fun vs H Q E h => ?_) (fun f cdv A' outer s H vs Q E hr h => ?_)
  · obtain ⟨p, dx, old, bv, rfl, _⟩ := h
    rfl
  obtain ⟨p, dx, old, bv, rfl, hp, q⟩ := h
  refine ⟨_, (pss_cons (ps_fld (pv 0) (pv 1) rfl)
  (pss_one (ps_fld (pv 0) (pv 2) rfl))), ?_⟩
  refine ⟨_, rfl, _, rfl, p, C, dx, _, rfl, hp, KS.cl, KS.n_old, by show 0 < 1000; decide, ?_⟩
  refine ⟨_, rfl, _, rfl, p, C, dx, _, rfl, upd_same, KS.cl, KS.n_before, by show 1 < 1000; decide, ?_⟩
  refine q _ ((ExtO.put hp).trans (ExtO.put upd_same)) ((Kp.ins hp).trans (Kp.ins upd_same)) ?_
  rw [upd_same, grF_mk]
def spShownG (K : PySem.W.Frag) (mg : Str → Option Value) (C : Addr) (Fam : Sys → Prop) : Sp := fun vs H Q E => ∃ (S : Sys) (p dx : Addr) (old : Int) (bv : V) (said : Tm) (n : Nat) (ht : Tm) (head v : V) (paper : Option (List Tm)) (r : Nat), Fam S ∧ vs = [.ref p, .ref S.f, .int (n : Int), head, v] ∧ H p = some (.ins C dx (grF old bv)) ∧ S.den H bv said ∧ BkT said ∧ n ≤ 1000 ∧
  S.den H head ht ∧ BkT ht ∧ Pap K S H v paper ∧ S.ok H (r + 60) ∧
  (∀ H', Ext H H' → S.ok H' r → Q (.bl (judgeG old n said ht paper)) H') ∧
  (judgeG old n said ht paper = false → ∀ D H', mg "BadPaper" = some (.ref D) → Ext H H' → S.ok H' r → E (.ref D) none H')
theorem ok_shownG {cc : Addr} (T : Txt K mg cc) (A : SlA P w K mg base Fam) (I3 : ∀ {S}, Fam S → S.Inj K) (KS : K_Grows K mg C) : MetR P w K mg base 4 C "shown" (spShownG K mg C Fam) := by
  have Z := T.Z
  have C_none_seal := ok_none_seal T A
  have C_book_seal := ok_book_seal T A
  have C_regrown := ok_regrown T A (ok_last T) (ok_split T) (ok_pair_seal T A)
  refine metR_of KS.cl KS.m_shown sc_Grows_shown (fun vs H Q E h => ?_) (fun f cdv A' outer s H vs Q E hr h => ?_)
  · obtain ⟨S, p, dx, old, bv, said, n, ht, head, v, paper, r, _, rfl, _⟩ := h
    rfl
  obtain ⟨S, p, dx, old, bv, said, n, ht, head, v, paper, r, hF, rfl, hp, hbv, hsaid, hn, hhead, hht, hpap, hok, q1, q2⟩ := h
  have G := A.good hF
  refine ⟨_, (pss_cons (ps_if (pt_cmpR op_eq (pe_fld (pv 0) rfl) pe_int (nomark _)) (pss_cons (ps_set (i := 5) sc_Grows_shown.nd rfl (Or.inl rfl) (pe_c C_book_seal hr (by omega) rfl (pa_cons (pv 1) (pa_cons pe_int (pa_cons (pe_c C_none_seal hr (by omega) rfl (pa_cons (pv 1) pa_nil)) pa_nil)))))
  (pss_one (ps_ret (pe_and (pe_cmpR (op_eqD hr.units) (pe_fld (pv 0) rfl) (pv 5) (nomark _)) (pe_and (pe_cmpR (op_eqD hr.units) (pv 4) (pe_lst pa_nil) (nomark _)) (pe_one (pe_or (pe_cmpR op_gt (pv 2) pe_int (nomark _)) (pe_one (pe_and (pe_cmpR op_eq (pv 2) pe_int (nomark _)) (pe_one (pe_cmpR (op_eqD hr.units) (pv 3) (pv 5) (nomark _)))))))))))) pss_nil)
  (pss_cons (ps_if (pt_not (pt_chain op_lt op_le pe_int (pe_fld (pv 0) rfl) (pv 2))) (pss_one (ps_ret pe_bl)) pss_nil)
  (pss_cons (ps_set (i := 6) sc_Grows_shown.nd rfl (Or.inl rfl) (pe_cx C_regrown (takes_of rfl rfl rfl rfl) hr (by omega) rfl (pa_cons (pv 1) (pa_cons (pe_fld (pv 0) rfl) (pa_cons (pv 2) (pa_cons (pv 4) pa_nil))))))
  (pss_one (ps_ret (pe_and (pe_cmpR (op_eqD hr.units) (pe_c C_book_seal hr (by omega) rfl (pa_cons (pv 1) (pa_cons (pe_fld (pv 0) rfl) (pa_cons (pe_ix ix_tup (pv 6) pe_int (fun _ _ => rfl)) pa_nil)))) (pe_fld (pv 0) rfl) (nomark _)) (pe_one (pe_cmpR (op_eqD hr.units) (pe_c C_book_seal hr (by omega) rfl (pa_cons (pv 1) (pa_cons (pv 2) (pa_cons (pe_ix ix_tup (pv 6) pe_int (fun _ _ => rfl)) pa_nil)))) (pv 3) (nomark _))))))))), ?_⟩
  refine ⟨_, rfl, p, C, dx, _, _, rfl, hp, KS.cl, KS.n_old, grF_old _ _, rfl, _, rfl, ite2 (fun c => ?_) (fun c => ?_)⟩
  · have c' : old = 0 := V.int.inj (of_decide_eq_true c)
    subst c'
    have ej : judgeG 0 n said ht paper = decide (said = emptyT ∧ paper = some [] ∧ (0 < n ∨ ht = emptyT)) := by
      unfold judgeG
      rw [if_pos rfl]
    rw [ej] at q1
    refine ⟨_, rfl, _, rfl, S, r + 59, hF, rfl, hok, fun v0 H1 x1 ok1 d1 => ?_⟩
    refine ⟨S, .int 0, v0, .int 0, nonT, r + 58, hF, rfl, ok1, G.int _ ok1, d1, fun ve H2 x2' ok2 de => ?_⟩
    have x2 := x1.trans x2'
    obtain ⟨d, d', a1, a2, a3, a4, a5⟩ := bk_apart (I3 hF) ok2 (G.mono x2.gr hbv) de hsaid empty_bk
    refine ⟨_, rfl, p, C, dx, _, _, rfl, x2.ins hp, KS.cl, KS.n_before, grF_before _ _, _, rfl, d, d', a1, a2, a3, a4, _, rfl, ?_⟩
    rw [a5]
    refine ite2 (fun b1 => ?_) (fun b1 => ?_)
    · have b1' : said = emptyT := of_decide_eq_true b1
      refine ⟨_, rfl, by show 0 ≤ sizeLine; decide, fun q3 nq3 => ?_⟩
      have u3 := Ext.new (o := .lst []) nq3
      have x3 := x2.trans u3
      have ok3 := G.keep (Kp.new (o := .lst []) nq3) ok2
      have hq3 : upd H2 q3 (.lst []) q3 = some (.lst []) := upd_same
      generalize upd H2 q3 (.lst []) = H3 at u3 x3 ok3 hq3 ⊢
      have hpp : ∃ d e, Dp K H3 v d ∧ Dp K H3 (.ref q3) e ∧ SeqAt.shaped d = true ∧ SeqAt.shaped e = true ∧ PyData.eqv d e = decide (paper = some []) := by
        cases paper with
        | none =>
          obtain ⟨d, h1, h2, h3⟩ := (hpap H3 x3).ne
          exact ⟨d, .list [], h1, .lst (SqL.of hq3) .nil, h2, by decide +kernel, by rw [h3]; rfl⟩
        | some ps =>
          obtain ⟨a, ys, rfl, ha, hd, hl, hps⟩ := hpap
          obtain ⟨d, e, b1, b2, b3, b4, b5⟩ := (hd.mono G x3.gr).odd (K := K) G (a := a) (p := q3) (SqL.of (x3.lst ha)) (SqL.of hq3) fun t ht => Nat.le_trans (hps t ht).2 (by decide)
          refine ⟨d, e, b1, b2, b3, b4, ?_⟩
          rw [b5]
          exact decide_eq_decide.mpr ⟨fun h => by rw [List.eq_nil_of_length_eq_zero h], fun h => by rw [Option.some.inj h]; rfl⟩
      obtain ⟨d3, e3, g1, g2, g3, g4, g5⟩ := hpp
      refine ⟨d3, e3, g1, g2, g3, g4, _, rfl, ?_⟩
      rw [g5]
      refine ite2 (fun b2 => ?_) (fun b2 => ?_)
      · have b2' : paper = some [] := of_decide_eq_true b2
        refine ⟨_, rfl, _, 0, rfl, rfl, _, rfl, ite2 (fun b3 => ?_) (fun b3 => ?_)⟩
        · have b3' : (0 : Int) < (n : Int) := of_decide_eq_true b3
          have := q1 H3 x3 (G.less ok3 (by omega))
          rw [decide_eq_true (show said = emptyT ∧ paper = some [] ∧ (0 < n ∨ ht = emptyT) from ⟨b1', b2', .inl (by omega)⟩)] at this
          exact this
        · have b3' : ¬ (0 : Int) < (n : Int) := of_decide_eq_false (Bool.eq_false_iff.mpr b3)
          have n0 : n = 0 := by omega
          refine ⟨_, rfl, rfl, _, rfl, ?_⟩
          rw [decide_eq_true (show V.int (n : Int) = V.int 0 by rw [n0]; rfl)]
          refine iteT ?_
          obtain ⟨d4, e4, h1, h2, h3, h4, h5⟩ := bk_apart (I3 hF) ok3 (G.mono x3.gr hhead) (G.mono u3.gr de) hht empty_bk
          refine ⟨_, rfl, _, rfl, d4, e4, h1, h2, h3, h4, ?_⟩
          rw [h5]
          have := q1 H3 x3 (G.less ok3 (by omega))
          rw [show decide (said = emptyT ∧ paper = some [] ∧ (0 < n ∨ ht = emptyT)) = decide (ht = emptyT) from decide_eq_decide.mpr ⟨fun h => h.2.2.resolve_left (by omega), fun h => ⟨b1', b2', .inr h⟩⟩] at this
          exact this
      · have b2' : ¬ paper = some [] := of_decide_eq_false (Bool.eq_false_iff.mpr b2)
        have := q1 H3 x3 (G.less ok3 (by omega))
        rw [decide_eq_false (show ¬ (said = emptyT ∧ paper = some [] ∧ (0 < n ∨ ht = emptyT)) from fun h => b2' h.2.1)] at this
        exact this
    · have b1' : ¬ said = emptyT := of_decide_eq_false (Bool.eq_false_iff.mpr b1)
      have := q1 H2 x2 (G.less ok2 (by omega))
      rw [decide_eq_false (show ¬ (said = emptyT ∧ paper = some [] ∧ (0 < n ∨ ht = emptyT)) from fun h => b1' h.1)] at this
      exact this
  · have c' : ¬ old = 0 := fun z => c (decide_eq_true (by rw [z]))
    have bad : ¬ (0 < old ∧ old ≤ (n : Int)) → judgeG old n said ht paper = false := fun z => by
      unfold judgeG
      rw [if_neg c']
      cases paper with
      | none => rfl
      | some ps => exact decide_eq_false fun h => z ⟨h.1, h.2.1⟩
    refine ⟨_, rfl, p, C, dx, _, _, rfl, hp, KS.cl, KS.n_old, grF_old _ _, _, _, rfl, rfl, _, rfl, ite2 (fun c1 => ?_) (fun c1 => ?_)⟩
    · have c1' : (0 : Int) < old := of_decide_eq_true c1
      refine ⟨_, rfl, _, _, rfl, rfl, _, rfl, ?_⟩
      by_cases c2 : old ≤ (n : Int)
      · rw [decide_eq_true c2]
        refine iteF ?_
        obtain ⟨o, rfl⟩ := Int.eq_ofNat_of_zero_le (show 0 ≤ old by omega)
        have gl := glen_le 10 o n (by show n ≤ 1024; omega)
        refine ⟨_, rfl, _, rfl, p, C, dx, _, _, rfl, hp, KS.cl, KS.n_old, grF_old _ _, _, rfl, _, rfl, S, o, n, v, r + 30, hF, rfl, by omega, by omega, hn, G.less hok (by omega), ?_⟩
        cases paper with
        | none => exact .inr ⟨(hpap H (Ext.refl _)).ty, fun D H' hD e ok => q2 (by unfold judgeG; rw [if_neg c']) D H' hD e (G.less ok (by omega))⟩
        | some ps =>
          obtain ⟨a, ys, rfl, ha, hd, hl, hps⟩ := hpap
          have ej : judgeG ((o : Nat) : Int) n said ht (some ps) = decide (0 < ((o : Nat) : Int) ∧ ((o : Nat) : Int) ≤ (n : Int) ∧ ps.length = glen o n ∧ Tm.sl "book" (.int ((o : Nat) : Int)) (regT o n ps).1 = said ∧ Tm.sl "book" (.int (n : Int)) (regT o n ps).2 = ht) := by
            unfold judgeG
            rw [if_neg c']
            rfl
          rw [ej] at q1 q2
          refine .inl ⟨a, ys, ps, rfl, ha, hd, by omega, fun hlen qb va vb H2 x2 ok2 hqb dva dvb => ?_, fun hlen D H' hD e ok => q2 (decide_eq_false fun h => hlen h.2.2.1) D H' hD e (G.less ok (by omega))⟩
          obtain ⟨w1, w2⟩ := reg_ws hlen fun t ht => (hps t ht).1
          obtain ⟨e1, e2⟩ := reg_dep (d := 28) hlen fun t ht => (hps t ht).2
          refine ⟨_, rfl, _, rfl, p, C, dx, _, _, rfl, x2.ins hp, KS.cl, KS.n_old, grF_old _ _, _, rfl, qb, _, 0, va, rfl, rfl, SqT.of hqb, rfl, S, _, va, .int ((o : Nat) : Int), _, r + 29, hF, rfl, ok2, G.int _ ok2, dva, fun u1 H3 x3 ok3 du1 => ?_⟩
          have x23 := x2.trans x3
          have bk1 : BkT (.sl "book" (.int ((o : Nat) : Int)) (regT o n ps).1) := ⟨_, _, rfl, w1, by omega⟩
          have bk2 : BkT (.sl "book" (.int (n : Int)) (regT o n ps).2) := ⟨_, _, rfl, w2, by omega⟩
          obtain ⟨d3, e3, g1, g2, g3, g4, g5⟩ := bk_apart (I3 hF) ok3 du1 (G.mono x23.gr hbv) bk1 hsaid
          refine ⟨_, rfl, p, C, dx, _, _, rfl, x23.ins hp, KS.cl, KS.n_before, grF_before _ _, d3, e3, g1, g2, g3, g4, _, rfl, ?_⟩
          rw [g5]
          refine ite2 (fun b1 => ?_) (fun b1 => ?_)
          · have b1' := of_decide_eq_true b1
            refine ⟨_, rfl, _, rfl, _, rfl, qb, _, 1, vb, rfl, rfl, SqT.of (x3.tup hqb), rfl, S, _, vb, .int (n : Int), _, r + 28, hF, rfl, ok3, G.int _ ok3, G.mono x3.gr dvb, fun u2 H4 x4 ok4 du2 => ?_⟩
            have x24 := x23.trans x4
            obtain ⟨d4, e4, h1, h2, h3, h4, h5⟩ := bk_apart (I3 hF) ok4 du2 (G.mono x24.gr hhead) bk2 hht
            refine ⟨_, rfl, d4, e4, h1, h2, h3, h4, ?_⟩
            rw [h5]
            have := q1 H4 x24 (G.less ok4 (by omega))
            rw [show decide (0 < ((o : Nat) : Int) ∧ ((o : Nat) : Int) ≤ (n : Int) ∧ ps.length = glen o n ∧ Tm.sl "book" (.int ((o : Nat) : Int)) (regT o n ps).1 = said ∧ Tm.sl "book" (.int (n : Int)) (regT o n ps).2 = ht) = decide (Tm.sl "book" (.int (n : Int)) (regT o n ps).2 = ht) from decide_eq_decide.mpr ⟨fun h => h.2.2.2.2, fun h => ⟨c1', c2, hlen, b1', h⟩⟩] at this
            exact this
          · have b1' := of_decide_eq_false (Bool.eq_false_iff.mpr b1)
            have := q1 H3 x23 (G.less ok3 (by omega))
            rw [decide_eq_false (show ¬ (0 < ((o : Nat) : Int) ∧ ((o : Nat) : Int) ≤ (n : Int) ∧ ps.length = glen o n ∧ Tm.sl "book" (.int ((o : Nat) : Int)) (regT o n ps).1 = said ∧ Tm.sl "book" (.int (n : Int)) (regT o n ps).2 = ht) from fun h => b1' h.2.2.2.1)] at this
            exact this
      · rw [decide_eq_false c2]
        refine iteT ?_
        have := q1 H (Ext.refl _) (G.less hok (by omega))
        rw [bad fun z => c2 z.2] at this
        exact this
    · have c1' : ¬ (0 : Int) < old := of_decide_eq_false (Bool.eq_false_iff.mpr c1)
      refine ⟨_, rfl, iteT ?_⟩
      have := q1 H (Ext.refl _) (G.less hok (by omega))
      rw [bad fun z => c1' z.1] at this
      exact this
def spJudgedG (K : PySem.W.Frag) (C : Addr) (Fam : Sys → Prop) : Sp := fun vs H Q _ => ∃ (S : Sys) (p dx : Addr) (old : Int) (bv : V) (said : Tm) (n : Nat) (ht : Tm) (head v : V) (paper : Option (List Tm)) (r : Nat), Fam S ∧ vs = [.ref p, .ref S.f, .int (n : Int), head, v] ∧ H p = some (.ins C dx (grF old bv)) ∧ S.den H bv said ∧ BkT said ∧ n ≤ 1000 ∧
  S.den H head ht ∧ BkT ht ∧ Pap K S H v paper ∧ S.ok H (r + 60) ∧ (∀ H', Ext H H' → S.ok H' r → Q (.bl (judgeG old n said ht paper)) H')
theorem ok_judgedG {cc : Addr} (T : Txt K mg cc) (A : SlA P w K mg base Fam) (I3 : ∀ {S}, Fam S → S.Inj K) (KS : K_Grows K mg C) : Met P w K mg base 5 C "judged" (spJudgedG K C Fam) [] := by
  obtain ⟨C_BadPaper, g_BadPaper, F_BadPaper⟩ := T.x_BadPaper.ex
  have M_shown := ok_shownG T A I3 KS
  refine met_of KS.cl KS.m_judged sc_Claim_judged (fun vs H Q E h => ?_) (fun f cdv A' outer s H vs Q E hr h => ?_)
  · obtain ⟨S, p, dx, old, bv, said, n, ht, head, v, paper, r, _, rfl, _⟩ := h
    rfl
  obtain ⟨S, p, dx, old, bv, said, n, ht, head, v, paper, r, hF, rfl, hp, hbv, hsaid, hn, hhead, hht, hpap, hok, q⟩ := h
  refine ⟨_, (pss_one (ps_try_onlyE (pss_one (ps_ret (pv 5))) rfl rfl ⟨rfl, by decide, .inl g_BadPaper⟩ takes0 (fun W pn xe tk po => (pss_one (ps_set (i := 5) sc_Claim_judged.nd rfl (Or.inl rfl) (pe_mtx M_shown tk hr (by omega) (pv 0) (pa_cons (pv 1) (pa_cons (pv 2) (pa_cons (pv 3) (pa_cons (pv 4) pa_nil)))))))) (fun a oe cls d pn hz hf => (pss_when (P := cls = .ref C_BadPaper ∧ d = none) fun hsu => (pss_one (ps_ret pe_bl)))))), ?_⟩
  refine ⟨_, rfl, p, dx, _, rfl, hp, (grF_no _ _).2, _, rfl, _, rfl, _, rfl, _, rfl, S, p, dx, old, bv, said, n, ht, head, v, paper, r, hF, rfl, hp, hbv, hsaid, hn, hhead, hht, hpap, hok, fun H' e ok => ⟨_, rfl, q H' e ok⟩, fun hj D H' hD e ok => ?_⟩
  rw [g_BadPaper] at hD
  cases hD
  refine ⟨true, F_BadPaper.eP, fun _ p2 hp2 => ⟨⟨rfl, rfl⟩, ?_⟩, fun z => nomatch z⟩
  have := q H' e ok
  rw [hj] at this
  exact this
end

/-! ### the parts of a table -/
structure KvL (H : Hp) (vs : List V) (rows : List (Int × Str)) : Prop where
  len : vs.length = rows.length
  at_ : ∀ (j : Nat) (v : V) (e : Int × Str), vs[j]? = some v → rows[j]? = some e → ∃ q, v = .ref q ∧ H q = some (.tup [.int e.1, .str e.2]) ∧ txtOk e.2 = true
theorem KvL.gr {H H' : Hp} {vs : List V} {rows : List (Int × Str)} (h : KvL H vs rows) (x : Gr H H') : KvL H' vs rows := by
  refine ⟨h.len, fun j v e a b => ?_⟩
  obtain ⟨q, h1, h2, h3⟩ := h.at_ j v e a b
  exact ⟨q, h1, x.keep _ _ h2 True.intro (fun _ z => nomatch z), h3⟩
theorem KvL.nil {H : Hp} : KvL H [] [] := ⟨rfl, fun j v e a _ => by simp at a⟩
theorem KvL.snoc {H : Hp} {vs : List V} {rows : List (Int × Str)} {q : Addr} {e : Int × Str} (h : KvL H vs rows) (hq : H q = some (.tup [.int e.1, .str e.2])) (hx : txtOk e.2 = true) : KvL H (vs ++ [.ref q]) (rows ++ [e]) := by
  have hl := h.len
  refine ⟨by rw [List.length_append, List.length_append, hl]; rfl, fun i v t a b => ?_⟩
  by_cases c : i < vs.length
  · rw [List.getElem?_append_left c] at a
    rw [List.getElem?_append_left (by omega)] at b
    exact h.at_ i v t a b
  · rw [List.getElem?_append_right (by omega)] at a b
    rw [← hl] at b
    cases hj : i - vs.length with
    | zero =>
      rw [hj] at a b
      cases a
      cases b
      exact ⟨q, rfl, hq, hx⟩
    | succ j =>
      rw [hj] at a
      simp at a
def bitK (l : Nat) (b : Int) (e : Int × Str) : Bool := decide (e.1 / 2 ^ l % 2 = b)
def partT : Nat → List (Int × Str) → Tm
  | _, [] => nonT
  | _, [e] => .sl "row" (.int e.1) (.str e.2)
  | 0, _ :: _ :: _ => nonT
  | l + 1, a :: b :: r => .sl "fork" (partT l ((a :: b :: r).filter (bitK l 0))) (partT l ((a :: b :: r).filter (bitK l 1)))
theorem partT_nil (l : Nat) : partT l [] = nonT := by cases l <;> rfl
theorem partT_one (l : Nat) (e : Int × Str) : partT l [e] = .sl "row" (.int e.1) (.str e.2) := by cases l <;> rfl
theorem partT_more {l : Nat} {rows : List (Int × Str)} (h : 2 ≤ rows.length) : partT (l + 1) rows = .sl "fork" (partT l (rows.filter (bitK l 0))) (partT l (rows.filter (bitK l 1))) := by
  match rows, h with
  | a :: b :: r, _ => rfl
def RowsOk (l : Nat) (rows : List (Int × Str)) : Prop := (∀ e ∈ rows, 0 ≤ e.1) ∧ rows.Pairwise fun a b => a.1 % 2 ^ l ≠ b.1 % 2 ^ l
theorem RowsOk.zero {rows : List (Int × Str)} (h : RowsOk 0 rows) : rows.length ≤ 1 := by
  match rows, h with
  | [], _ => exact Nat.zero_le _
  | [_], _ => exact Nat.le_refl _
  | a :: b :: r, ⟨_, h⟩ =>
    have := (List.pairwise_cons.mp h).1 b List.mem_cons_self
    simp at this
theorem bit_mod (a : Int) (l : Nat) : a % 2 ^ (l + 1) = a % 2 ^ l + 2 ^ l * (a / 2 ^ l % 2) := by
  have hM : (0 : Int) < 2 ^ l := Int.pow_pos (by decide)
  rw [Int.pow_succ]
  generalize (2 : Int) ^ l = M at hM ⊢
  have h1 := Int.emod_nonneg a (show M ≠ 0 by omega)
  have h2 := Int.emod_lt_of_pos a hM
  have h3 := Int.mul_ediv_add_emod a M
  have h4 := Int.mul_ediv_add_emod (a / M) 2
  have h5 : a / M % 2 = 0 ∨ a / M % 2 = 1 := by omega
  have e : a = M * 2 * (a / M / 2) + (a % M + M * (a / M % 2)) := by
    rw [Int.mul_assoc, Int.add_comm (a % M), ← Int.add_assoc, ← Int.mul_add, h4, h3]
  have lo : 0 ≤ a % M + M * (a / M % 2) := by
    rcases h5 with h | h <;> rw [h] <;> omega
  have hi : a % M + M * (a / M % 2) < M * 2 := by
    rcases h5 with h | h <;> rw [h] <;> omega
  have := Int.emod_eq_of_lt lo hi
  rw [← this]
  conv => lhs; rw [e]
  rw [Int.add_comm, Int.add_mul_emod_self_left]
theorem RowsOk.part {l : Nat} {b : Int} {rows : List (Int × Str)} (h : RowsOk (l + 1) rows) : RowsOk l (rows.filter (bitK l b)) := by
  refine ⟨fun e he => h.1 e (List.mem_filter.mp he).1, ?_⟩
  rw [List.pairwise_filter]
  refine h.2.imp fun {x y} hxy hx hy e => hxy ?_
  rw [bit_mod, bit_mod, e, of_decide_eq_true hx, of_decide_eq_true hy]
theorem partT_dep : ∀ (l : Nat) (rows : List (Int × Str)), (partT l rows).dep ≤ l + 1
  | l, [] => by rw [partT_nil]; show max 0 0 + 1 ≤ _; omega
  | l, [e] => by rw [partT_one]; show max 0 0 + 1 ≤ _; omega
  | 0, _ :: _ :: _ => by show max 0 0 + 1 ≤ _; omega
  | l + 1, a :: b :: r => by
    have h1 := partT_dep l ((a :: b :: r).filter (bitK l 0))
    have h2 := partT_dep l ((a :: b :: r).filter (bitK l 1))
    show max _ _ + 1 ≤ _
    omega
/-- how many tellings -/
def costP (l n : Nat) : Nat := if n = 0 then 1 else n * (2 * l + 1)
theorem costP_split {l a b n : Nat} (h : a + b = n) (hn : 2 ≤ n) : costP l a + costP l b + 1 ≤ costP (l + 1) n := by
  subst h
  have e : (a + b) * (2 * (l + 1) + 1) = a * (2 * l + 1) + b * (2 * l + 1) + 2 * (a + b) := by
    rw [show 2 * (l + 1) + 1 = (2 * l + 1) + 2 by omega, Nat.mul_add, Nat.add_mul, Nat.mul_comm (a + b) 2]
  unfold costP
  rw [if_neg (show ¬ a + b = 0 by omega), e]
  by_cases ha : a = 0
  · subst ha
    rw [if_pos rfl, if_neg (by omega), Nat.zero_mul]
    omega
  · rw [if_neg ha]
    by_cases hb : b = 0
    · subst hb
      rw [if_pos rfl, Nat.zero_mul]
      omega
    · rw [if_neg hb]
      omega
theorem filter_split {rows : List (Int × Str)} (l : Nat) : (rows.filter (bitK l 0)).length + (rows.filter (bitK l 1)).length = rows.length := by
  induction rows with
  | nil => rfl
  | cons e r ih =>
    rw [List.filter_cons, List.filter_cons, List.length_cons]
    have h1 := Int.emod_nonneg (e.1 / 2 ^ l) (show (2 : Int) ≠ 0 by decide)
    have h2 := Int.emod_lt_of_pos (e.1 / 2 ^ l) (show (0 : Int) < 2 by decide)
    have h3 : e.1 / 2 ^ l % 2 = 0 ∨ e.1 / 2 ^ l % 2 = 1 := by omega
    rcases h3 with h | h
    · rw [show bitK l 0 e = true from decide_eq_true h, show bitK l 1 e = false from decide_eq_false (by omega)]
      simp
      omega
    · rw [show bitK l 0 e = false from decide_eq_false (by omega), show bitK l 1 e = true from decide_eq_true h]
      simp
      omega
theorem take_filter {α : Type} (p : α → Bool) (l : List α) {i : Nat} {x : α} (h : l[i]? = some x) : (l.take (i + 1)).filter p = (l.take i).filter p ++ (if p x = true then [x] else []) := by
  rw [List.take_succ, h, List.filter_append]
  congr 1
  show [x].filter p = _
  rw [List.filter_cons]
  rfl

/-! ### the way of a key -/
def wayT : Nat → List (Int × Str) → Int → List Tm × List (Int × Str)
  | 0, rows, _ => ([], rows)
  | l + 1, rows, k => if rows.length ≤ 1 then ([], rows) else
    (partT l (rows.filter (bitK l (1 - k / 2 ^ l % 2))) :: (wayT l (rows.filter (bitK l (k / 2 ^ l % 2))) k).1, (wayT l (rows.filter (bitK l (k / 2 ^ l % 2))) k).2)
theorem wayT_few {l : Nat} {rows : List (Int × Str)} {k : Int} (h : rows.length ≤ 1) : wayT l rows k = ([], rows) := by
  cases l with
  | zero => rfl
  | succ l => exact if_pos h
theorem wayT_more {l : Nat} {rows : List (Int × Str)} {k : Int} (h : 2 ≤ rows.length) : wayT (l + 1) rows k =
    (partT l (rows.filter (bitK l (1 - k / 2 ^ l % 2))) :: (wayT l (rows.filter (bitK l (k / 2 ^ l % 2))) k).1, (wayT l (rows.filter (bitK l (k / 2 ^ l % 2))) k).2) := if_neg (by omega)
theorem bit01 (k : Int) (l : Nat) : k / 2 ^ l % 2 = 0 ∨ k / 2 ^ l % 2 = 1 := by
  have h1 := Int.emod_nonneg (k / 2 ^ l) (show (2 : Int) ≠ 0 by decide)
  have h2 := Int.emod_lt_of_pos (k / 2 ^ l) (show (0 : Int) < 2 by decide)
  omega
theorem wayT_len : ∀ (l : Nat) (rows : List (Int × Str)) (k : Int), (wayT l rows k).1.length ≤ l
  | 0, _, _ => Nat.le_refl _
  | l + 1, rows, k => by
    by_cases h : rows.length ≤ 1
    · rw [wayT_few h]
      exact Nat.zero_le _
    · rw [wayT_more (by omega)]
      have := wayT_len l (rows.filter (bitK l (k / 2 ^ l % 2))) k
      show _ + 1 ≤ _
      omega
theorem wayT_dep : ∀ (l : Nat) (rows : List (Int × Str)) (k : Int), ∀ t ∈ (wayT l rows k).1, t.dep ≤ l + 1
  | 0, _, _ => fun t h => nomatch h
  | l + 1, rows, k => by
    by_cases h : rows.length ≤ 1
    · rw [wayT_few h]
      exact fun t h => nomatch h
    · rw [wayT_more (by omega)]
      intro t ht
      rcases List.mem_cons.mp ht with rfl | ht
      · exact Nat.le_succ_of_le (partT_dep l _)
      · exact Nat.le_succ_of_le (wayT_dep l _ k t ht)
theorem wayT_end : ∀ (l : Nat) (rows : List (Int × Str)) (k : Int), RowsOk l rows → (wayT l rows k).2.length ≤ 1 ∧ ∀ e ∈ (wayT l rows k).2, e ∈ rows
  | 0, rows, k, h => ⟨h.zero, fun e he => he⟩
  | l + 1, rows, k, h => by
    by_cases c : rows.length ≤ 1
    · rw [wayT_few c]
      exact ⟨c, fun e he => he⟩
    · rw [wayT_more (by omega)]
      obtain ⟨a, b⟩ := wayT_end l (rows.filter (bitK l (k / 2 ^ l % 2))) k h.part
      exact ⟨a, fun e he => (List.mem_filter.mp (b e he)).1⟩
theorem costP_way {l n a b : Nat} (h : a + b = n) (hn : 2 ≤ n) : costP l a + costP l b ≤ costP (l + 1) n := by
  have := costP_split (l := l) h hn
  omega

/-! ### the end of a way -/
def EndV (H : Hp) (e : V) (rows : List (Int × Str)) : Prop := (rows = [] ∧ e = .non) ∨ ∃ (x : Int × Str) (qe : Addr), rows = [x] ∧ e = .ref qe ∧ H qe = some (.tup [.int x.1, .str x.2]) ∧ txtOk x.2 = true
theorem EndV.gr {H H' : Hp} {e : V} {rows : List (Int × Str)} (h : EndV H e rows) (x : Gr H H') : EndV H' e rows := by
  rcases h with h | ⟨y, qe, h1, h2, h3, h4⟩
  · exact .inl h
  · exact .inr ⟨y, qe, h1, h2, x.keep _ _ h3 True.intro (fun _ z => nomatch z), h4⟩

/-! ### a way comes to one top alone -/
def forkT (a b : Tm) : Tm := .sl "fork" a b
def rowT (k : Int) (x : Str) : Tm := .sl "row" (.int k) (.str x)
theorem forkT_inj {a b c d : Tm} (h : forkT a b = forkT c d) : a = c ∧ b = d := ⟨(Tm.sl.inj h).2.1, (Tm.sl.inj h).2.2⟩
/-- what stands at the end of a way -/
def endT : List (Int × Str) → Tm
  | [] => nonT
  | e :: _ => rowT e.1 e.2
theorem endT_nf (r : List (Int × Str)) (a b : Tm) : endT r ≠ forkT a b := by
  cases r with
  | nil => exact fun h => absurd (Tm.sl.inj h).1 (by decide +kernel)
  | cons e r => exact fun h => absurd (Tm.sl.inj h).1 (by decide +kernel)
theorem endT_inj {r s : List (Int × Str)} (hr : r.length ≤ 1) (hs : s.length ≤ 1) (h : endT r = endT s) : r = s := by
  match r, s, hr, hs, h with
  | [], [], _, _, _ => rfl
  | [], _ :: _, _, _, h => exact absurd (Tm.sl.inj h).1 (by decide +kernel)
  | _ :: _, [], _, _, h => exact absurd (Tm.sl.inj h).1 (by decide +kernel)
  | [e], [f], _, _, h =>
    have h2 := (Tm.sl.inj h).2
    have a := Tm.int.inj h2.1
    have b := Tm.str.inj h2.2
    rw [show e = f from Prod.ext a b]
  | _ :: _ :: _, _, hr, _, _ => simp at hr
  | _, _ :: _ :: _, _, hs, _ => simp at hs
theorem endT_part (l : Nat) {r : List (Int × Str)} (hr : r.length ≤ 1) : partT l r = endT r := by
  match r, hr with
  | [], _ => exact partT_nil l
  | [e], _ => exact partT_one l e
  | _ :: _ :: _, hr => simp at hr
def climbT (k : Int) : Nat → List Tm → Tm → Tm
  | _, [], e => e
  | 0, _ :: _, _ => nonT
  | l + 1, o :: os, e => if k / 2 ^ l % 2 = 0 then forkT (climbT k l os e) o else forkT o (climbT k l os e)
theorem climbT_nil (k : Int) (l : Nat) (e : Tm) : climbT k l [] e = e := by cases l <;> rfl
/-- the way of a key climbs to the table's top, and no other one does -/
theorem climb_inj (k : Int) : ∀ (l : Nat) (os : List Tm) (r rows : List (Int × Str)), os.length ≤ l → r.length ≤ 1 → RowsOk l rows → (climbT k l os (endT r) = partT l rows ↔ (os, r) = wayT l rows k)
  | l, [], r, rows, _, hr, hrows => by
    rw [climbT_nil]
    by_cases c : rows.length ≤ 1
    · rw [wayT_few c, endT_part l c]
      exact ⟨fun h => by rw [endT_inj hr c h], fun h => by rw [show r = rows from (Prod.ext_iff.mp h).2]⟩
    · cases l with
      | zero => exact absurd hrows.zero c
      | succ l =>
        rw [partT_more (by omega), wayT_more (by omega)]
        exact ⟨fun h => absurd h (endT_nf _ _ _), fun h => by have := (Prod.ext_iff.mp h).1; cases this⟩
  | 0, _ :: _, _, _, hl, _, _ => absurd hl (by simp)
  | l + 1, o :: os, r, rows, hl, hr, hrows => by
    by_cases c : rows.length ≤ 1
    · rw [wayT_few c, endT_part _ c]
      refine ⟨fun h => ?_, fun h => by have := (Prod.ext_iff.mp h).1; cases this⟩
      unfold climbT at h
      split at h
      · exact absurd h.symm (endT_nf _ _ _)
      · exact absurd h.symm (endT_nf _ _ _)
    · rw [partT_more (by omega), wayT_more (by omega)]
      have hl' : os.length ≤ l := by simpa using hl
      unfold climbT
      rcases bit01 k l with h | h
      · rw [if_pos h, h]
        have ih := climb_inj k l os r (rows.filter (bitK l 0)) hl' hr hrows.part
        constructor
        · intro q
          obtain ⟨q1, q2⟩ := forkT_inj q
          have q3 := ih.mp q1
          rw [← (Prod.ext_iff.mp q3).1, ← (Prod.ext_iff.mp q3).2, q2]
          rfl
        · intro q
          have q1 := (Prod.ext_iff.mp q).1
          have q2 := (Prod.ext_iff.mp q).2
          injection q1 with q3 q4
          rw [ih.mpr (Prod.ext q4 q2), q3]
          rfl
      · rw [if_neg (by rw [h]; decide), h]
        have ih := climb_inj k l os r (rows.filter (bitK l 1)) hl' hr hrows.part
        constructor
        · intro q
          obtain ⟨q1, q2⟩ := forkT_inj q
          have q3 := ih.mp q2
          rw [← (Prod.ext_iff.mp q3).1, ← (Prod.ext_iff.mp q3).2, q1]
          rfl
        · intro q
          have q1 := (Prod.ext_iff.mp q).1
          have q2 := (Prod.ext_iff.mp q).2
          injection q1 with q3 q4
          rw [ih.mpr (Prod.ext q4 q2), q3]
          rfl
theorem climb_dep {k : Int} {d : Nat} : ∀ (l : Nat) (os : List Tm) (e : Tm), e.dep ≤ d → (∀ t ∈ os, t.dep ≤ d) → (climbT k l os e).dep ≤ d + os.length
  | l, [], e, he, _ => by rw [climbT_nil]; exact Nat.le_trans he (Nat.le_add_right _ _)
  | 0, _ :: os, e, _, _ => by show max 0 0 + 1 ≤ d + (os.length + 1); omega
  | l + 1, o :: os, e, he, ho => by
    have ih := climb_dep (k := k) (d := d) l os e he fun t ht => ho t (List.mem_cons_of_mem _ ht)
    have h1 := ho o List.mem_cons_self
    unfold climbT
    split
    · show max (climbT k l os e).dep o.dep + 1 ≤ d + (os.length + 1)
      omega
    · show max o.dep (climbT k l os e).dep + 1 ≤ d + (os.length + 1)
      omega
theorem climb_ws {k : Int} : ∀ (l : Nat) (os : List Tm) (e : Tm), WS e → (∀ t ∈ os, WS t) → WS (climbT k l os e)
  | l, [], e, he, _ => by rw [climbT_nil]; exact he
  | 0, _ :: _, _, _, _ => .non
  | l + 1, o :: os, e, he, ho => by
    have ih := climb_ws (k := k) l os e he fun t ht => ho t (List.mem_cons_of_mem _ ht)
    have h1 := ho o List.mem_cons_self
    unfold climbT
    split
    · exact .fork ih h1
    · exact .fork h1 ih
theorem endT_ws (r : List (Int × Str)) : WS (endT r) := by
  cases r with
  | nil => exact .non
  | cons e r => exact .row _ _
theorem endT_dep (r : List (Int × Str)) : (endT r).dep ≤ 1 := by
  cases r with
  | nil => exact Nat.le_refl _
  | cons e r => exact Nat.le_refl _
theorem partT_ws : ∀ (l : Nat) (rows : List (Int × Str)), WS (partT l rows)
  | l, [] => by rw [partT_nil]; exact .non
  | l, [e] => by rw [partT_one]; exact .row _ _
  | 0, _ :: _ :: _ => .non
  | l + 1, a :: b :: r => .fork (partT_ws l _) (partT_ws l _)
theorem wayT_ws : ∀ (l : Nat) (rows : List (Int × Str)) (k : Int), ∀ t ∈ (wayT l rows k).1, WS t
  | 0, _, _ => fun t h => nomatch h
  | l + 1, rows, k => by
    by_cases h : rows.length ≤ 1
    · rw [wayT_few h]
      exact fun t h => nomatch h
    · rw [wayT_more (by omega)]
      intro t ht
      rcases List.mem_cons.mp ht with rfl | ht
      · exact partT_ws l _
      · exact wayT_ws l _ k t ht
/-- one step of the climbing -/
def upT (k : Int) (l : Nat) (t o : Tm) : Tm := if k / 2 ^ l % 2 = 0 then forkT t o else forkT o t
theorem climb_drop (k : Int) (e : Tm) : ∀ (l : Nat) (os : List Tm) (i : Nat) (o : Tm), os.length ≤ l → os[i]? = some o → climbT k (l - i) (os.drop i) e = upT k (l - i - 1) (climbT k (l - i - 1) (os.drop (i + 1)) e) o
  | l, os, i, o, hl, ho => by
    obtain ⟨hi, hx⟩ := List.getElem?_eq_some_iff.mp ho
    obtain ⟨m, hm⟩ : ∃ m, l - i = m + 1 := ⟨l - i - 1, by omega⟩
    rw [hm, List.drop_eq_getElem_cons hi, hx]
    rfl

/-! ### papers of a key -/
abbrev EndM := Option (List (Int × Str))
abbrev WayM := Option (List Tm × EndM)
abbrev PapM := Option (Str × Tm × Option (List Tm) × WayM)
def NoT (K : PySem.W.Frag) (H : Hp) (v : V) (T : String) : Prop := ∀ H', Ext H H' → ∃ t, TyX K H' v t ∧ PySem.W.kitOne K t (.type T) = some false
def OddD (K : PySem.W.Frag) (H : Hp) (v : V) (P : PyData → Prop) : Prop := ∀ H', Ext H H' → ∃ d, Dp K H' v d ∧ d.canLay0 = true ∧ d.depth ≤ 50 ∧ P d
def EndAt (K : PySem.W.Frag) (H : Hp) (e : V) : EndM → Prop
  | some rr => EndV H e rr
  | none => e ≠ .non ∧ (NoT K H e "tuple" ∨ ∃ q ys, e = .ref q ∧ H q = some (.tup ys) ∧ ys.length ≠ 2) ∧ OddD K H e fun d => d ≠ .none ∧ ∀ a b, d ≠ .tuple [a, b]
def WayAt (K : PySem.W.Frag) (S0 : Sys) (H : Hp) (v : V) : WayM → Prop
  | some (os, e) => ∃ q o ev ys, v = .ref q ∧ H q = some (.tup [.ref o, ev]) ∧ H o = some (.lst ys) ∧ DenL S0 H ys os ∧ (∀ t ∈ os, WS t ∧ t.dep ≤ 20) ∧ os.length ≤ 20 ∧ EndAt K H ev e
  | none => (NoT K H v "tuple" ∨ ∃ q ys, v = .ref q ∧ H q = some (.tup ys) ∧ (ys.length ≠ 2 ∨ ∃ u e, ys = [u, e] ∧ NoT K H u "list")) ∧ OddD K H v fun d => ∀ a b, d ≠ .tuple [.list a, b]
def PathAt (K : PySem.W.Frag) (S0 : Sys) (H : Hp) (v : V) (p : Option (List Tm)) : Prop := Pap K S0 H v p ∧ (p = none → OddD K H v fun d => ∀ a, d ≠ .list a)
def PapAt (K : PySem.W.Frag) (S0 : Sys) (H : Hp) (v : V) : PapM → Prop
  | some (x, tt, path, way) => ∃ q tv pv wv, v = .ref q ∧ H q = some (.tup [.str x, tv, pv, wv]) ∧ txtOk x = true ∧ S0.den H tv tt ∧ WS tt ∧ tt.dep ≤ 18 ∧ PathAt K S0 H pv path ∧ WayAt K S0 H wv way
  | none => (NoT K H v "tuple" ∨ ∃ q ys, v = .ref q ∧ H q = some (.tup ys) ∧ ys.length ≠ 4) ∧ OddD K H v fun d => ∀ a b c e, d ≠ .tuple [a, b, c, e]
section
variable {K : PySem.W.Frag} {S0 : Sys} {H H' : Hp} {v : V}
theorem NoT.ext {T : String} (h : NoT K H v T) (x : Ext H H') : NoT K H' v T := fun H2 y => h H2 (x.trans y)
theorem OddD.ext {P : PyData → Prop} (h : OddD K H v P) (x : Ext H H') : OddD K H' v P := fun H2 y => h H2 (x.trans y)
theorem EndAt.ext {e : EndM} (h : EndAt K H v e) (x : Ext H H') : EndAt K H' v e := by
  cases e with
  | some rr => exact EndV.gr h x.gr
  | none =>
    obtain ⟨a, b, c⟩ := h
    refine ⟨a, ?_, c.ext x⟩
    rcases b with b | ⟨q, ys, rfl, g1, g2⟩
    · exact .inl (b.ext x)
    · exact .inr ⟨q, ys, rfl, x.tup g1, g2⟩
theorem WayAt.ext (G : S0.Good K) {w : WayM} (h : WayAt K S0 H v w) (x : Ext H H') : WayAt K S0 H' v w := by
  cases w with
  | some p =>
    obtain ⟨os, e⟩ := p
    obtain ⟨q, o, ev, ys, rfl, g1, g2, g3, g4, g5, g6⟩ := h
    exact ⟨q, o, ev, ys, rfl, x.tup g1, x.lst g2, g3.mono G x.gr, g4, g5, g6.ext x⟩
  | none =>
    obtain ⟨b, c⟩ := h
    refine ⟨?_, c.ext x⟩
    rcases b with b | ⟨q, ys, rfl, g1, g2⟩
    · exact .inl (b.ext x)
    · refine .inr ⟨q, ys, rfl, x.tup g1, ?_⟩
      rcases g2 with g2 | ⟨u, e, g3, g4⟩
      · exact .inl g2
      · exact .inr ⟨u, e, g3, g4.ext x⟩
theorem PathAt.ext (G : S0.Good K) {p : Option (List Tm)} (h : PathAt K S0 H v p) (x : Ext H H') : PathAt K S0 H' v p := ⟨h.1.ext G x, fun e => (h.2 e).ext x⟩
theorem PapAt.ext (G : S0.Good K) {p : PapM} (h : PapAt K S0 H v p) (x : Ext H H') : PapAt K S0 H' v p := by
  cases p with
  | some p =>
    obtain ⟨tx, tt, path, way⟩ := p
    obtain ⟨q, tv, pv, wv, rfl, g1, g2, g3, g4, g5, g6, g7⟩ := h
    exact ⟨q, tv, pv, wv, rfl, x.tup g1, g2, G.mono x.gr g3, g4, g5, g6.ext G x, g7.ext G x⟩
  | none =>
    obtain ⟨b, c⟩ := h
    refine ⟨?_, c.ext x⟩
    rcases b with b | ⟨q, ys, rfl, g1, g2⟩
    · exact .inl (b.ext x)
    · exact .inr ⟨q, ys, rfl, x.tup g1, g2⟩
end
def climbO (k : Int) (l : Nat) : WayM → Option Tm
  | some (os, some rr) => if os.length ≤ l then some (climbT k l os (endT rr)) else none
  | _ => none
section
variable {P : Program} {w : World} {K : PySem.W.Frag} {mg : Str → Option Value} {base : Heap} {Fam : Sys → Prop}
def spClimbed (K : PySem.W.Frag) (mg : Str → Option Value) (Fam : Sys → Prop) : Sp := fun vs H Q E => ∃ (S0 : Sys) (k : Int) (l : Nat) (v : V) (wm : WayM) (r : Nat), Fam S0 ∧ vs = [.ref S0.f, .int k, .int (l : Int), v] ∧ 0 ≤ k ∧ l ≤ 1000 ∧ WayAt K S0 H v wm ∧ S0.ok H (r + 25) ∧
  (∀ t, climbO k l wm = some t → ∀ u H', Ext H H' → S0.ok H' r → S0.den H' u t → Q u H') ∧ (climbO k l wm = none → ∀ D, mg "BadPaper" = some (.ref D) → E (.ref D) none H)
theorem ok_climbed {cc : Addr} (T : Txt K mg cc) (A : SlA P w K mg base Fam) : CalX P w K mg base 3 "climbed" (spClimbed K mg Fam) := by
  have Z := T.Z
  obtain ⟨C_BadPaper, g_BadPaper, F_BadPaper⟩ := T.x_BadPaper.ex
  have C_none_seal := ok_none_seal T A
  refine calX_of T.d_climbed sc_climbed (fun vs H Q E h => ?_) (fun f cdv A' outer s H vs Q E hr h => ?_)
  · obtain ⟨S0, k, l, v, wm, r, _, rfl, _⟩ := h
    rfl
  obtain ⟨S0, k, l, v, wm, r, hF, rfl, hk, hl, hw, hok, q1, q2⟩ := h
  have G := A.good hF
  refine ⟨_, (pss_cons (ps_if (PW.pt (pw_or (pt_not (pt_val (pe_callB call_isi rfl Z.isinstance (by decide +kernel) (pa_cons (pv 3) (pa_cons (pe_bltn (v := .ty "tuple") rfl Z.tuple (by decide +kernel) rfl) pa_nil))))) (pw_or (pt_cmpR op_ne (pe_callB call_len_seq rfl Z.len PySem.boot_len (pa_cons (pv 3) pa_nil)) pe_int (nomark _)) (pw_or (pt_not (pt_val (pe_callB call_isi rfl Z.isinstance (by decide +kernel) (pa_cons (pe_ix ix_tup (pv 3) pe_int (fun _ _ => rfl)) (pa_cons (pe_bltn (v := .ty "list") rfl Z.list (by decide +kernel) rfl) pa_nil))))) (pw_or1 (pt_cmpR op_gt (pe_callB call_len_seq rfl Z.len PySem.boot_len (pa_cons (pe_ix ix_tup (pv 3) pe_int (fun _ _ => rfl)) pa_nil)) (pv 2) (nomark _))))))) (pss_one (ps_raiseX F_BadPaper g_BadPaper rfl (takes_of rfl rfl rfl rfl) rfl)) pss_nil)
  (pss_cons (ps_set (i := 4) sc_climbed.nd rfl (Or.inl rfl) (pe_ix ix_tup (pv 3) pe_int (fun _ _ => rfl)))
  (Evl.pss_cut (ps_if (pt_cmpR op_isN (pv 4) pe_non (nomark _)) (pss_one (ps_set (i := 5) sc_climbed.nd rfl (Or.inl rfl) (pe_c C_none_seal hr (by omega) rfl (pa_cons (pv 0) pa_nil)))) (pss_one (ps_if (PW.pt (pw_and (pt_val (pe_callB call_isi rfl Z.isinstance (by decide +kernel) (pa_cons (pv 4) (pa_cons (pe_bltn (v := .ty "tuple") rfl Z.tuple (by decide +kernel) rfl) pa_nil)))) (pw_and1 (pt_cmpR op_eq (pe_callB call_len_seq rfl Z.len PySem.boot_len (pa_cons (pv 4) pa_nil)) pe_int (nomark _))))) (pss_one (ps_set (i := 5) sc_climbed.nd rfl (Or.inl rfl) (pe_sl (i := 0) A.held hr (by omega) rfl (by first | exact Or.inl rfl | exact Or.inr (Or.inl rfl) | exact Or.inr (Or.inr rfl)) (pa_cons pe_str (pa_cons (pe_ix ix_tup (pv 4) pe_int (fun _ _ => rfl)) (pa_cons (pe_ix ix_tup (pv 4) pe_int (fun _ _ => rfl)) pa_nil)))))) (pss_one (ps_raiseX F_BadPaper g_BadPaper rfl (takes_of rfl rfl rfl rfl) rfl)))))
  (pss_cons (ps_set (i := 6) sc_climbed.nd rfl (Or.inl rfl) (pe_op op_sub (pv 2) (pe_callB call_len_seq rfl Z.len PySem.boot_len (pa_cons (pe_ix ix_tup (pv 3) pe_int (fun _ _ => rfl)) pa_nil))))
  (pss_cons (ps_for (passes_of rfl) rfl (pi_reversed rfl Z.reversed (pa_cons (pe_ix ix_tup (pv 3) pe_int (fun _ _ => rfl)) pa_nil)) (pg_name (i := 7) sc_climbed.nd rfl (Or.inl rfl)) (pss_cons (ps_if (pt_cmpR op_eq (pe_op op_odd (pe_op op_shrN (pv 1) (pv 6)) pe_int) pe_int (nomark _)) (pss_one (ps_set (i := 5) sc_climbed.nd rfl (Or.inl rfl) (pe_sl (i := 0) A.held hr (by omega) rfl (by first | exact Or.inl rfl | exact Or.inr (Or.inl rfl) | exact Or.inr (Or.inr rfl)) (pa_cons pe_str (pa_cons (pv 5) (pa_cons (pv 7) pa_nil)))))) (pss_one (ps_set (i := 5) sc_climbed.nd rfl (Or.inl rfl) (pe_sl (i := 0) A.held hr (by omega) rfl (by first | exact Or.inl rfl | exact Or.inr (Or.inl rfl) | exact Or.inr (Or.inr rfl)) (pa_cons pe_str (pa_cons (pv 7) (pa_cons (pv 5) pa_nil)))))))
  (pss_one (ps_aug (i := 6) sc_climbed.nd rfl (Or.inl rfl) pe_int ip_add))))
  (pss_one (ps_ret (pv 5)))))))), ?_⟩
  cases wm with
  | none =>
    obtain ⟨b, c⟩ := hw
    rcases b with b | ⟨q, ys, rfl, hq, b⟩
    · obtain ⟨t, hty, hkt⟩ := b H (Ext.refl H)
      exact ⟨_, rfl, v, .ty "tuple", _, _, false, rfl, .ty "tuple", hty, hkt, false, rfl, q2 rfl _ g_BadPaper⟩
    · refine ⟨_, rfl, .ref q, .ty "tuple", _, _, true, rfl, .ty "tuple", .base (.tup hq), kit_ty (by decide +kernel), true, rfl, ?_⟩
      refine ⟨_, rfl, q, ys, rfl, .inr (SqT.of hq), rfl, _, rfl, ?_⟩
      by_cases c2 : ys.length = 2
      · rw [decide_eq_true (show V.int (ys.length : Int) = V.int 2 by rw [c2]; rfl)]
        refine iteF ?_
        obtain ⟨u, e, rfl, hu⟩ := b.resolve_left fun z => z c2
        obtain ⟨t, hty, hkt⟩ := hu H (Ext.refl H)
        exact ⟨_, rfl, q, _, 0, u, rfl, rfl, SqT.of hq, rfl, u, .ty "list", _, _, false, rfl, .ty "list", hty, hkt, false, rfl, q2 rfl _ g_BadPaper⟩
      · rw [decide_eq_false (fun z => c2 (by have := V.int.inj z; omega))]
        refine iteT ?_
        refine iteT ?_
        exact q2 rfl _ g_BadPaper
  | some wp =>
    obtain ⟨os, e⟩ := wp
    obtain ⟨wq, o, ev, ys, rfl, hwq, ho, hd, hos, hosl, hev⟩ := hw
    have hyl := hd.len
    refine ⟨_, rfl, .ref wq, .ty "tuple", _, _, true, rfl, .ty "tuple", .base (.tup hwq), kit_ty (by decide +kernel), true, rfl, ?_⟩
    refine ⟨_, rfl, wq, _, rfl, .inr (SqT.of hwq), rfl, _, rfl, ?_⟩
    refine iteF ?_
    refine ⟨_, rfl, wq, _, 0, .ref o, rfl, rfl, SqT.of hwq, rfl, .ref o, .ty "list", _, _, true, rfl, .ty "list", .base (.lst ho), kit_ty (by decide +kernel), true, rfl, ?_⟩
    refine ⟨_, rfl, wq, _, 0, .ref o, rfl, rfl, SqT.of hwq, rfl, o, ys, rfl, .inl (SqL.of ho), _, rfl, _, _, rfl, rfl, _, rfl, ?_⟩
    by_cases c1 : os.length ≤ l
    · rw [decide_eq_false (show ¬ (l : Int) < (ys.length : Int) by omega)]
      refine iteF ?_
      refine ⟨_, rfl, wq, _, 1, ev, rfl, rfl, SqT.of hwq, rfl, ?_⟩
      cases e with
      | none =>
        obtain ⟨e1, e2, _⟩ := hev
        have q2 := q2 rfl _ g_BadPaper
        refine ⟨fun _ _ => False, ?_, fun _ _ z => z.elim⟩
        refine ⟨_, rfl, rfl, _, rfl, ?_⟩
        rw [decide_eq_false e1]
        refine iteF ?_
        rcases e2 with e2 | ⟨q, zs, rfl, hq, e2⟩
        · obtain ⟨t, hty, hkt⟩ := e2 H (Ext.refl H)
          exact ⟨_, rfl, ev, .ty "tuple", _, _, false, rfl, .ty "tuple", hty, hkt, false, rfl, q2⟩
        · refine ⟨_, rfl, .ref q, .ty "tuple", _, _, true, rfl, .ty "tuple", .base (.tup hq), kit_ty (by decide +kernel), true, rfl, ?_⟩
          refine ⟨_, rfl, q, zs, rfl, .inr (SqT.of hq), rfl, _, rfl, ?_⟩
          rw [decide_eq_false (fun z => e2 (by have := V.int.inj z; omega))]
          exact q2
      | some rr =>
        refine ⟨fun σ H' => ∃ tv : V, σ = [some (.ref S0.f), some (.int k), some (.int (l : Int)), some (.ref wq), some ev, some tv, none, none] ∧ Ext H H' ∧ S0.ok H' (r + 22) ∧ S0.den H' tv (endT rr), ?_, ?_⟩
        · rcases hev with ⟨rfl, rfl⟩ | ⟨x, qe, rfl, rfl, hqe, htx⟩
          · refine ⟨_, rfl, rfl, _, rfl, ?_⟩
            refine iteT ?_
            refine ⟨_, rfl, S0, r + 24, hF, rfl, hok, fun v0 H3 x3 ok3 d3 => ?_⟩
            exact ⟨v0, rfl, x3, G.less ok3 (by omega), d3⟩
          · refine ⟨_, rfl, rfl, _, rfl, ?_⟩
            rw [decide_eq_false (fun z => nomatch z)]
            refine iteF ?_
            refine ⟨_, rfl, .ref qe, .ty "tuple", _, _, true, rfl, .ty "tuple", .base (.tup hqe), kit_ty (by decide +kernel), true, rfl, ?_⟩
            refine ⟨_, rfl, qe, _, rfl, .inr (SqT.of hqe), rfl, _, rfl, ?_⟩
            refine iteT ?_
            refine ⟨S0, _, hF, rfl, hok, _, rfl, qe, _, 0, _, rfl, rfl, SqT.of hqe, rfl, _, rfl, qe, _, 1, _, rfl, rfl, SqT.of hqe, rfl, r + 24, "row", .int x.1, .str x.2, _, _, rfl, by decide +kernel, hok, G.int _ hok, G.str _ hok htx, fun u H4 x4 ok4 d4 => ?_⟩
            exact ⟨u, rfl, x4, G.less ok4 (by omega), d4⟩
        rintro σ H1 ⟨tv, rfl, x1, ok1, d1⟩
        have q3 := fun u H' e ok d => q1 (climbT k l os (endT rr)) (if_pos c1) u H' e ok d
        have hw1 := x1.tup hwq
        refine ⟨_, rfl, _, rfl, wq, _, 0, .ref o, rfl, rfl, SqT.of hw1, rfl, o, ys, rfl, .inl (SqL.of (x1.lst ho)), _, _, rfl, rfl, ?_⟩
        refine ⟨_, rfl, wq, _, 0, .ref o, rfl, rfl, SqT.of hw1, rfl, o, ys, rfl, SqL.of (x1.lst ho), ?_⟩
        refine RT.for_Itv (K := K) (a := o) (xs := ys) (fun i σ H' => ∃ (tv : V) (y7 : Option V), σ = [some (.ref S0.f), some (.int k), some (.int (l : Int)), some (.ref wq), some ev, some tv, some (.int (((l - os.length + i : Nat)) : Int)), y7] ∧ Ext H1 H' ∧ S0.ok H' (r + 22 - i) ∧ S0.den H' tv (climbT k (l - (os.length - i)) (os.drop (os.length - i)) (endT rr)))
          ⟨tv, none, ?_, Ext.refl _, ok1, ?_⟩ (fun i σ H' ⟨_, _, _, x, _⟩ => SqL.of (x.lst (x1.lst ho))) ?_ ?_
        · rw [show ((l - os.length + 0 : Nat) : Int) = (l : Int) - (ys.length : Int) by omega]
          rfl
        · rw [Nat.sub_zero, List.drop_length, climbT_nil]
          exact d1
        · rintro i x σ H2 hi hx ⟨tv2, y7, rfl, x2, ok2, d2⟩
          obtain ⟨j, hj⟩ : ∃ j, j = os.length - 1 - i := ⟨_, rfl⟩
          have hjl : j < os.length := by omega
          obtain ⟨oj, hoj⟩ : ∃ oj, os[j]? = some oj := ⟨os[j]'hjl, List.getElem?_eq_getElem _⟩
          rw [hyl, ← hj] at hx
          have dx := G.mono (x1.trans x2).gr (hd.at_ j x oj hx hoj)
          have hup := climb_drop k (endT rr) l os j oj c1 hoj
          have e1 : os.length - (i + 1) = j := by omega
          have e2 : os.length - i = j + 1 := by omega
          have e3 : l - os.length + i = l - j - 1 := by omega
          have e4 : l - (j + 1) = l - j - 1 := by omega
          rw [e1, hup]
          rw [e2, e4] at d2
          rw [e3]
          generalize hm : l - j - 1 = m at d2 ⊢
          obtain ⟨n, hn⟩ := Int.eq_ofNat_of_zero_le (Int.ediv_nonneg hk (Int.le_of_lt (show (0 : Int) < 2 ^ m from Int.pow_pos (by decide))))
          have hbit : k / 2 ^ m % 2 = ((n % 2 : Nat) : Int) := by rw [hn]; omega
          have e5 : r + 22 - i = (r + 22 - (i + 1)) + 1 := by omega
          refine ⟨_, rfl, _, rfl, _, m, rfl, rfl, n, by rw [hn], rfl, rfl, _, rfl, ite2 (fun c => ?_) (fun c => ?_)⟩
          · have c' : k / 2 ^ m % 2 = 0 := by rw [hbit]; exact V.int.inj (of_decide_eq_true c)
            refine ⟨S0, _, hF, rfl, ok2, _, rfl, _, rfl, r + 22 - (i + 1), "fork", climbT k m (os.drop (j + 1)) (endT rr), oj, _, _, rfl, by decide +kernel, by rw [← e5]; exact ok2, d2, dx, fun u H4 x4 ok4 d4 => ?_⟩
            refine ⟨_, rfl, _, _, rfl, rfl, ?_⟩
            refine ⟨u, some x, ?_, x2.trans x4, ok4, ?_⟩
            · rw [show ((l - os.length + (i + 1) : Nat) : Int) = (m : Int) + 1 by omega]
              rfl
            · unfold upT
              rw [if_pos c']
              exact d4
          · have c' : ¬ k / 2 ^ m % 2 = 0 := by rw [hbit]; exact fun z => c (decide_eq_true (congrArg V.int z))
            refine ⟨S0, _, hF, rfl, ok2, _, rfl, _, rfl, r + 22 - (i + 1), "fork", oj, climbT k m (os.drop (j + 1)) (endT rr), _, _, rfl, by decide +kernel, by rw [← e5]; exact ok2, dx, d2, fun u H4 x4 ok4 d4 => ?_⟩
            refine ⟨_, rfl, _, _, rfl, rfl, ?_⟩
            refine ⟨u, some x, ?_, x2.trans x4, ok4, ?_⟩
            · rw [show ((l - os.length + (i + 1) : Nat) : Int) = (m : Int) + 1 by omega]
              rfl
            · unfold upT
              rw [if_neg c']
              exact d4
        · rintro σ H2 ⟨tv2, y7, rfl, x2, ok2, d2⟩
          rw [hyl, Nat.sub_self, Nat.sub_zero, List.drop_zero] at d2
          exact ⟨_, rfl, q3 _ _ (x1.trans x2) (G.less ok2 (by omega)) d2⟩
    · rw [decide_eq_true (show (l : Int) < (ys.length : Int) by omega)]
      refine iteT ?_
      exact q2 (by cases e with | none => rfl | some rr => exact if_neg c1) _ g_BadPaper
end

/-! ### claims of a key -/
structure BhCl where
  place : Int
  key : Int
  depth : Int
  said : Option Str
def bhF (c : BhCl) : List (Str × V) := ("place", .int c.place) :: ("key", .int c.key) :: ("depth", .int c.depth) :: (match c.said with | none => [] | some x => [("said", .str x)])
theorem bhF_place (c : BhCl) : (bhF c).lookup ("place" : Str) = some (.int c.place) := by kernel_rfl
theorem bhF_key (c : BhCl) : (bhF c).lookup ("key" : Str) = some (.int c.key) := by kernel_rfl
theorem bhF_depth (c : BhCl) : (bhF c).lookup ("depth" : Str) = some (.int c.depth) := by kernel_rfl
theorem bhF_said {p k d : Int} {x : Str} : (bhF ⟨p, k, d, some x⟩).lookup ("said" : Str) = some (.str x) := by kernel_rfl
theorem bhF_no (c : BhCl) : (bhF c).lookup ("judged" : Str) = none ∧ (bhF c).lookup ("shown" : Str) = none ∧ (bhF c).lookup ("ends" : Str) = none := by
  obtain ⟨p, k, d, s⟩ := c
  cases s with
  | none => exact ⟨by kernel_rfl, by kernel_rfl, by kernel_rfl⟩
  | some x => exact ⟨by kernel_rfl, by kernel_rfl, by kernel_rfl⟩
theorem bhF_mk (p k d : Int) : putF "depth" (.int d) (putF "key" (.int k) (putF "place" (.int p) [])) = bhF ⟨p, k, d, none⟩ := by kernel_rfl
theorem bhF_mk2 (p k d : Int) (x : Str) : putF "said" (.str x) (bhF ⟨p, k, d, none⟩) = bhF ⟨p, k, d, some x⟩ := by kernel_rfl
structure BhC (K : PySem.W.Frag) (C : Addr) : Prop where
  cl : Cls K C
  n_place : NoAttr K C "place"
  n_key : NoAttr K C "key"
  n_depth : NoAttr K C "depth"
structure BhK (K : PySem.W.Frag) (C : Addr) : Prop where
  c : BhC K C
  m_shown : MetX K C "shown" "Behind.shown" s_Behind_shown ["self", "seal", "size", "head", "paper"]
  m_judged : MetX K C "judged" "Claim.judged" s_Claim_judged ["self", "seal", "size", "head", "paper"]
theorem bhk_holds {K : PySem.W.Frag} {mg : Str → Option Value} {C : Addr} (h : K_Holds K mg C) : BhK K C := ⟨⟨h.cl, h.n_place, h.n_key, h.n_depth⟩, h.m_shown, h.m_judged⟩
theorem bhk_lacks {K : PySem.W.Frag} {mg : Str → Option Value} {C : Addr} (h : K_Lacks K mg C) : BhK K C := ⟨⟨h.cl, h.n_place, h.n_key, h.n_depth⟩, h.m_shown, h.m_judged⟩
def endsB (c : BhCl) : List (Int × Str) → Bool
  | [] => c.said.isNone
  | e :: _ => match c.said with
    | none => decide (e.1 ≠ c.key)
    | some x => decide (e.1 = c.key) && decide (e.2 = x)
def judgeW (c : BhCl) (tt : Tm) : WayM → Bool
  | some (os, some rr) => decide (os.length ≤ c.depth.toNat) && (decide (Tm.sl "table" (.int c.depth) (climbT c.key c.depth.toNat os (endT rr)) = tt) && endsB c rr)
  | _ => false
def judgeB (c : BhCl) (n : Nat) (ht : Tm) : PapM → Bool
  | none => false
  | some (x, tt, path, way) => decide (1 ≤ c.depth ∧ c.depth ≤ 16) && (decide (0 ≤ c.key ∧ c.key < 2 ^ c.depth.toNat) && (judgeS c.place (.sl "leaf" (.str x) tt) n ht path && judgeW c tt way))
theorem climbO_none {c : BhCl} {l : Nat} {tt : Tm} (el : c.depth.toNat = l) : ∀ {way : WayM}, climbO c.key l way = none → judgeW c tt way = false
  | none, _ => rfl
  | some (os, none), _ => rfl
  | some (os, some rr), h => by
    by_cases h1 : os.length ≤ l
    · have h : (if os.length ≤ l then some (climbT c.key l os (endT rr)) else none) = none := h
      rw [if_pos h1] at h
      cases h
    · show (decide (os.length ≤ c.depth.toNat) && _) = false
      rw [el, decide_eq_false h1, Bool.false_and]
theorem climbO_some {k : Int} {l : Nat} {t : Tm} : ∀ {way : WayM}, climbO k l way = some t → ∃ os rr, way = some (os, some rr) ∧ os.length ≤ l ∧ t = climbT k l os (endT rr)
  | none, h => (nomatch h)
  | some (os, none), h => (nomatch h)
  | some (os, some rr), h => by
    have h : (if os.length ≤ l then some (climbT k l os (endT rr)) else none) = some t := h
    by_cases h1 : os.length ≤ l
    · rw [if_pos h1] at h
      exact ⟨os, rr, rfl, h1, (Option.some.inj h).symm⟩
    · rw [if_neg h1] at h
      cases h
section
variable {P : Program} {w : World} {K : PySem.W.Frag} {mg : Str → Option Value} {base : Heap} {Fam : Sys → Prop} {C CH CL C_Behind : Addr}
def spBhInit (K : PySem.W.Frag) : Sp := fun vs H Q _ => ∃ (p C dx : Addr) (a b c : Int), BhC K C ∧ vs = [.ref p, .int a, .int b, .int c] ∧ H p = some (.ins C dx []) ∧ ∀ H', ExtO p H H' → Kp H H' → H' p = some (.ins C dx (bhF ⟨a, b, c, none⟩)) → Q .non H'
theorem bhinit_body : ∀ (CX : CXT) (f : Addr) (cdv : Value) (A' : Around) (outer : List Env) (s : Shared) (H : Hp) (vs : List V) (Q : VK) (E : XK), spBhInit K vs H Q E →
      ∃ t, PSs (cxOf CX P w K mg base N_Behind___init__ "Behind.__init__" (defScope s_Behind___init__) f cdv A' outer s H E).nox (defBody s_Behind___init__) t ∧ t { nx := fun _ H' => Q .non H', rt := Q } (start N_Behind___init__ vs) H := by
  intro CX f cdv A' outer s H vs Q E h
  obtain ⟨p, C, dx, a, b, c, KB, rfl, hp, q⟩ := h
  refine ⟨_, (pss_cons (ps_fld (pv 0) (pv 1) rfl)
  (pss_cons (ps_fld (pv 0) (pv 2) rfl)
  (pss_one (ps_fld (pv 0) (pv 3) rfl)))), ?_⟩
  refine ⟨_, rfl, _, rfl, p, C, dx, _, rfl, hp, KB.cl, KB.n_place, by show 0 < 1000; decide, ?_⟩
  refine ⟨_, rfl, _, rfl, p, C, dx, _, rfl, upd_same, KB.cl, KB.n_key, by show 1 < 1000; decide, ?_⟩
  refine ⟨_, rfl, _, rfl, p, C, dx, _, rfl, upd_same, KB.cl, KB.n_depth, by show 2 < 1000; decide, ?_⟩
  have x1 := ExtO.put (o := .ins C dx (putF "place" (.int a) [])) hp
  have k1 := Kp.ins (o := .ins C dx (putF "place" (.int a) [])) hp
  have x2 := x1.trans (ExtO.put (o := .ins C dx (putF "key" (.int b) (putF "place" (.int a) []))) upd_same)
  have k2 := k1.trans (Kp.ins (o := .ins C dx (putF "key" (.int b) (putF "place" (.int a) []))) upd_same)
  refine q _ (x2.trans (ExtO.put upd_same)) (k2.trans (Kp.ins upd_same)) ?_
  rw [upd_same, bhF_mk]
theorem ok_bhinit (D : ClsM K mg C_Behind "Behind" "__init__" "Behind.__init__" s_Behind___init__ ["self", "place", "key", "depth"]) : CalM P w K mg base 1 C_Behind "__init__" (spBhInit K) :=
  calM_of D sc_Behind___init__ (fun vs H Q E h => by obtain ⟨p, C, dx, a, b, c, _, rfl, _⟩ := h; rfl) (fun f cdv A' outer s H vs Q E hr h => by
    obtain ⟨t, h1, h2⟩ := bhinit_body (P := P) (w := w) (K := K) (mg := mg) (base := base) (L2.CX P w) f cdv A' outer s H vs Q E h
    exact ⟨t, h1.nox, h2⟩)
def spLkInit (C : Addr) : Sp := fun vs H Q _ => ∃ (p dx : Addr) (a b c : Int), vs = [.ref p, .int a, .int b, .int c] ∧ H p = some (.ins C dx []) ∧ ∀ H', ExtO p H H' → Kp H H' → H' p = some (.ins C dx (bhF ⟨a, b, c, none⟩)) → Q .non H'
theorem ok_lkinit (KL : K_Lacks K mg CL) : Mak P w K mg base 1 "Lacks" CL (spLkInit CL) [] := by
  refine mak_of KL.mgC KL.made sc_Behind___init__ (fun vs H Q E h => ?_) (fun f cdv A' outer s H vs Q E hr h => ?_)
  · obtain ⟨p, dx, a, b, c, rfl, _⟩ := h
    rfl
  obtain ⟨p, dx, a, b, c, rfl, hp, q⟩ := h
  obtain ⟨t, h1, h2⟩ := bhinit_body (P := P) (w := w) (K := K) (mg := mg) (base := base) _ f cdv A' outer s H _ Q E ⟨p, CL, dx, a, b, c, (bhk_lacks KL).c, rfl, hp, q⟩
  exact ⟨t, h1, h2⟩
def spHoInit (C : Addr) : Sp := fun vs H Q _ => ∃ (p dx : Addr) (a b c : Int) (x : Str), vs = [.ref p, .int a, .int b, .str x, .int c] ∧ H p = some (.ins C dx []) ∧ ∀ H', ExtO p H H' → Kp H H' → H' p = some (.ins C dx (bhF ⟨a, b, c, some x⟩)) → Q .non H'
theorem ok_hoinit (D : ClsM K mg C_Behind "Behind" "__init__" "Behind.__init__" s_Behind___init__ ["self", "place", "key", "depth"]) (KH : K_Holds K mg CH) : Mak P w K mg base 2 "Holds" CH (spHoInit CH) [] := by
  have M_Behind := ok_bhinit (P := P) (w := w) (base := base) D
  have g_Behind := D.gC
  refine mak_of KH.mgC KH.made sc_Holds___init__ (fun vs H Q E h => ?_) (fun f cdv A' outer s H vs Q E hr h => ?_)
  · obtain ⟨p, dx, a, b, c, x, rfl, _⟩ := h
    rfl
  obtain ⟨p, dx, a, b, c, x, rfl, hp, q⟩ := h
  refine ⟨_, (pss_cons (ps_expr (pe_clm M_Behind takes0 hr (by omega) (pe_glob (v := .ref C_Behind) rfl g_Behind rfl) (pa_cons (pv 0) (pa_cons (pv 1) (pa_cons (pv 2) (pa_cons (pv 4) pa_nil))))))
  (pss_one (ps_fld (pv 0) (pv 3) rfl))), ?_⟩
  refine ⟨rfl, _, rfl, _, rfl, _, rfl, _, rfl, p, CH, dx, a, b, c, (bhk_holds KH).c, rfl, hp, fun H1 x1 k1 h1 => ?_⟩
  refine ⟨_, rfl, _, rfl, p, CH, dx, _, rfl, h1, KH.cl, KH.n_said, by show 3 < 1000; decide, ?_⟩
  rw [bhF_mk2]
  exact q _ (x1.trans (ExtO.put h1)) (k1.trans (Kp.ins h1)) upd_same
def spEnds (C : Addr) (isH : Bool) : Sp := fun vs H Q _ => ∃ (p dx : Addr) (c : BhCl) (e : V) (rr : List (Int × Str)), c.said.isSome = isH ∧ vs = [.ref p, e] ∧ H p = some (.ins C dx (bhF c)) ∧ EndV H e rr ∧ Q (.bl (endsB c rr)) H
theorem ok_hends (KH : K_Holds K mg CH) : Met P w K mg base 1 CH "ends" (spEnds CH true) [] := by
  refine met_of KH.cl KH.m_ends sc_Holds_ends (fun vs H Q E h => ?_) (fun f cdv A' outer s H vs Q E hr h => ?_)
  · obtain ⟨p, dx, c, e, rr, _, rfl, _⟩ := h
    rfl
  obtain ⟨p, dx, c, e, rr, hs, rfl, hp, he, q⟩ := h
  refine ⟨_, (pss_one (ps_ret (pe_and (pe_cmpR op_notN (pv 1) pe_non (nomark _)) (pe_and (pe_cmpR op_eq (pe_ix ix_tup (pv 1) pe_int (fun _ _ => rfl)) (pe_fld (pv 0) rfl) (nomark _)) (pe_one (pe_cmpR op_eq (pe_ix ix_tup (pv 1) pe_int (fun _ _ => rfl)) (pe_fld (pv 0) rfl) (nomark _))))))), ?_⟩
  obtain ⟨cp, ck, cd, cs⟩ := c
  cases cs with
  | none => cases hs
  | some x =>
    rcases he with ⟨rfl, rfl⟩ | ⟨y, qe, rfl, rfl, hqe, _⟩
    · refine ⟨_, rfl, rfl, ?_⟩
      refine ⟨_, rfl, iteF ?_⟩
      exact q
    · refine ⟨_, rfl, rfl, ?_⟩
      rw [decide_eq_false (fun z => nomatch z)]
      refine ⟨_, rfl, iteT ?_⟩
      refine ⟨_, rfl, qe, _, 0, _, rfl, rfl, SqT.of hqe, rfl, _, rfl, p, CH, dx, _, _, rfl, hp, KH.cl, KH.n_key, bhF_key _, rfl, ?_⟩
      by_cases c1 : y.1 = ck
      · rw [decide_eq_true (show V.int y.1 = V.int ck from congrArg V.int c1)]
        refine ⟨_, rfl, iteT ?_⟩
        refine ⟨_, rfl, qe, _, 1, _, rfl, rfl, SqT.of hqe, rfl, _, rfl, p, CH, dx, _, _, rfl, hp, KH.cl, KH.n_said, bhF_said, rfl, ?_⟩
        have e1 : endsB ⟨cp, ck, cd, some x⟩ [y] = decide (V.str y.2 = V.str x) := by
          show (decide (y.1 = ck) && decide (y.2 = x)) = _
          rw [decide_eq_true c1, Bool.true_and]
          exact decide_eq_decide.mpr ⟨fun z => congrArg V.str z, fun z => V.str.inj z⟩
        rw [e1] at q
        exact q
      · rw [decide_eq_false (fun z => c1 (V.int.inj z))]
        refine ⟨_, rfl, iteF ?_⟩
        have e1 : endsB ⟨cp, ck, cd, some x⟩ [y] = false := by
          show (decide (y.1 = ck) && decide (y.2 = x)) = _
          rw [decide_eq_false c1, Bool.false_and]
        rw [e1] at q
        exact q
theorem ok_lends (KL : K_Lacks K mg CL) : Met P w K mg base 1 CL "ends" (spEnds CL false) [] := by
  refine met_of KL.cl KL.m_ends sc_Lacks_ends (fun vs H Q E h => ?_) (fun f cdv A' outer s H vs Q E hr h => ?_)
  · obtain ⟨p, dx, c, e, rr, _, rfl, _⟩ := h
    rfl
  obtain ⟨p, dx, c, e, rr, hs, rfl, hp, he, q⟩ := h
  refine ⟨_, (pss_one (ps_ret (pe_or (pe_cmpR op_isN (pv 1) pe_non (nomark _)) (pe_one (pe_cmpR op_ne (pe_ix ix_tup (pv 1) pe_int (fun _ _ => rfl)) (pe_fld (pv 0) rfl) (nomark _)))))), ?_⟩
  obtain ⟨cp, ck, cd, cs⟩ := c
  cases cs with
  | some x => cases hs
  | none =>
    rcases he with ⟨rfl, rfl⟩ | ⟨y, qe, rfl, rfl, hqe, _⟩
    · refine ⟨_, rfl, rfl, ?_⟩
      refine ⟨_, rfl, iteT ?_⟩
      exact q
    · refine ⟨_, rfl, rfl, ?_⟩
      rw [decide_eq_false (fun z => nomatch z)]
      refine ⟨_, rfl, iteF ?_⟩
      refine ⟨_, rfl, qe, _, 0, _, rfl, rfl, SqT.of hqe, rfl, _, rfl, p, CL, dx, _, _, rfl, hp, KL.cl, KL.n_key, bhF_key _, rfl, ?_⟩
      have e1 : endsB ⟨cp, ck, cd, none⟩ [y] = !decide (V.int y.1 = V.int ck) := by
        show decide (y.1 ≠ ck) = _
        by_cases c1 : y.1 = ck
        · rw [decide_eq_false (fun z => z c1), decide_eq_true (congrArg V.int c1)]; rfl
        · rw [decide_eq_true c1, decide_eq_false (fun z => c1 (V.int.inj z))]; rfl
      rw [e1] at q
      exact q
def spShownB (K : PySem.W.Frag) (mg : Str → Option Value) (C : Addr) (isH : Bool) (Fam : Sys → Prop) : Sp := fun vs H Q E => ∃ (S0 : Sys) (p dx : Addr) (c : BhCl) (n : Nat) (m : Int) (Y : Tm) (head v : V) (paper : PapM) (r : Nat), Fam S0 ∧ vs = [.ref p, .ref S0.f, .int (n : Int), head, v] ∧ H p = some (.ins C dx (bhF c)) ∧ c.said.isSome = isH ∧ n ≤ 1000 ∧
  S0.den H head (.sl "book" (.int m) Y) ∧ WS Y ∧ Y.dep ≤ 40 ∧ PapAt K S0 H v paper ∧ S0.ok H (r + 60) ∧
  (∀ H', Ext H H' → S0.ok H' r → Q (.bl (judgeB c n (.sl "book" (.int m) Y) paper)) H') ∧
  (judgeB c n (.sl "book" (.int m) Y) paper = false → ∀ D H', mg "BadPaper" = some (.ref D) → Ext H H' → S0.ok H' r → E (.ref D) none H')
theorem ok_shownB {cc CS : Addr} {isH : Bool} (T : Txt K mg cc) (A : SlA P w K mg base Fam) (I3 : ∀ {S}, Fam S → S.Inj K) (KS : K_Stands K mg CS) (KB : BhK K C) (M_ends : Met P w K mg base 1 C "ends" (spEnds C isH) []) : MetR P w K mg base 5 C "shown" (spShownB K mg C isH Fam) := by
  have Z := T.Z
  have C_Stands := ok_stinit (P := P) (w := w) (base := base) KS
  have M_shown := ok_shownS T A I3 KS
  have C_climbed := ok_climbed T A
  have C_table_seal := ok_table_seal T A
  refine metR_of KB.c.cl KB.m_shown sc_Behind_shown (fun vs H Q E h => ?_) (fun f cdv A' outer s H vs Q E hr h => ?_)
  · obtain ⟨S0, p, dx, c, n, m, Y, head, v, paper, r, _, rfl, _⟩ := h
    rfl
  obtain ⟨S0, p, dx, c, n, m, Y, head, v, paper, r, hF, rfl, hp, hs, hn, hh, hY, hYd, hpap, hok, q1, q2⟩ := h
  have G := A.good hF
  refine ⟨_, (pss_cons (ps_if (PW.pt (pw_or (pt_not (pt_val (pe_callB call_isi rfl Z.isinstance (by decide +kernel) (pa_cons (pv 4) (pa_cons (pe_bltn (v := .ty "tuple") rfl Z.tuple (by decide +kernel) rfl) pa_nil))))) (pw_or1 (pt_cmpR op_ne (pe_callB call_len_seq rfl Z.len PySem.boot_len (pa_cons (pv 4) pa_nil)) pe_int (nomark _))))) (pss_one (ps_ret pe_bl)) pss_nil)
  (pss_cons (ps_if (PW.pt (pw_or (pt_not (pt_chain op_le op_le pe_int (pe_fld (pv 0) rfl) pe_int)) (pw_or1 (pt_not (pt_chain op_le op_lt pe_int (pe_fld (pv 0) rfl) (pe_op op_oneShl pe_int (pe_fld (pv 0) rfl))))))) (pss_one (ps_ret pe_bl)) pss_nil)
  (pss_cons (ps_set (i := 5) sc_Behind_shown.nd rfl (Or.inl rfl) (pe_mk C_Stands hr (by omega) rfl (pa_cons (pe_fld (pv 0) rfl) (pa_cons (pe_ix ix_tup (pv 4) pe_int (fun _ _ => rfl)) (pa_cons (pe_ix ix_tup (pv 4) pe_int (fun _ _ => rfl)) pa_nil)))))
  (pss_cons (ps_if (pt_not (pt_val (pe_mtx M_shown (takes_of rfl rfl rfl rfl) hr (by omega) (pv 5) (pa_cons (pv 1) (pa_cons (pv 2) (pa_cons (pv 3) (pa_cons (pe_ix ix_tup (pv 4) pe_int (fun _ _ => rfl)) pa_nil))))))) (pss_one (ps_ret pe_bl)) pss_nil)
  (pss_cons (ps_set (i := 6) sc_Behind_shown.nd rfl (Or.inl rfl) (pe_cx C_climbed (takes_of rfl rfl rfl rfl) hr (by omega) rfl (pa_cons (pv 1) (pa_cons (pe_fld (pv 0) rfl) (pa_cons (pe_fld (pv 0) rfl) (pa_cons (pe_ix ix_tup (pv 4) pe_int (fun _ _ => rfl)) pa_nil))))))
  (pss_one (ps_ret (pe_and (pe_cmpR (op_eqD hr.units) (pe_c C_table_seal hr (by omega) rfl (pa_cons (pv 1) (pa_cons (pe_fld (pv 0) rfl) (pa_cons (pv 6) pa_nil)))) (pe_ix ix_tup (pv 4) pe_int (fun _ _ => rfl)) (nomark _)) (pe_one (pe_mt M_ends hr (by omega) (pv 0) (pa_cons (pe_ix ix_tup (pe_ix ix_tup (pv 4) pe_int (fun _ _ => rfl)) pe_int (fun _ _ => rfl)) pa_nil))))))))))), ?_⟩
  cases paper with
  | none =>
    have q1 : Q (.bl false) H := q1 H (Ext.refl H) (G.less hok (by omega))
    obtain ⟨b, _⟩ := hpap
    rcases b with b | ⟨q, ys, rfl, hq, b⟩
    · obtain ⟨t, hty, hkt⟩ := b H (Ext.refl H)
      exact ⟨_, rfl, v, .ty "tuple", _, _, false, rfl, .ty "tuple", hty, hkt, false, rfl, q1⟩
    · refine ⟨_, rfl, .ref q, .ty "tuple", _, _, true, rfl, .ty "tuple", .base (.tup hq), kit_ty (by decide +kernel), true, rfl, ?_⟩
      refine ⟨_, rfl, q, ys, rfl, .inr (SqT.of hq), rfl, _, rfl, ?_⟩
      rw [decide_eq_false (fun z => b (by have := V.int.inj z; omega))]
      exact q1
  | some pp =>
    obtain ⟨x, tt, path, way⟩ := pp
    obtain ⟨pq, tv, pv, wv, rfl, hpq, htx, htv, hws, htd, hpath, hway⟩ := hpap
    have qf : ∀ H', Ext H H' → S0.ok H' r → judgeB c n (.sl "book" (.int m) Y) (some (x, tt, path, way)) = false → Q (.bl false) H' := fun H' e ok z => by
      have := q1 H' e ok
      rw [z] at this
      exact this
    refine ⟨_, rfl, .ref pq, .ty "tuple", _, _, true, rfl, .ty "tuple", .base (.tup hpq), kit_ty (by decide +kernel), true, rfl, ?_⟩
    refine ⟨_, rfl, pq, _, rfl, .inr (SqT.of hpq), rfl, _, rfl, ?_⟩
    refine iteF ?_
    refine ⟨_, rfl, p, C, dx, _, _, rfl, hp, KB.c.cl, KB.c.n_depth, bhF_depth c, _, _, rfl, rfl, _, rfl, ?_⟩
    by_cases c1 : 1 ≤ c.depth
    · rw [decide_eq_true c1]
      refine iteT ?_
      refine ⟨_, _, rfl, rfl, _, rfl, ?_⟩
      by_cases c2 : c.depth ≤ 16
      · rw [decide_eq_true c2]
        obtain ⟨l, hl⟩ := Int.eq_ofNat_of_zero_le (show 0 ≤ c.depth by omega)
        have hl16 : l ≤ 16 := by omega
        have el : c.depth.toNat = l := by omega
        refine iteF ?_
        refine ⟨_, rfl, p, C, dx, _, _, rfl, hp, KB.c.cl, KB.c.n_key, bhF_key c, _, _, rfl, rfl, _, rfl, ?_⟩
        by_cases c3 : 0 ≤ c.key
        · rw [decide_eq_true c3]
          refine iteT ?_
          refine ⟨_, rfl, p, C, dx, _, _, rfl, hp, KB.c.cl, KB.c.n_depth, bhF_depth c, l, rfl, by rw [hl], by omega, ?_⟩
          refine ⟨_, _, rfl, rfl, _, rfl, ?_⟩
          by_cases c4 : c.key < 2 ^ l
          · rw [decide_eq_true c4]
            refine iteF ?_
            have jB : judgeB c n (.sl "book" (.int m) Y) (some (x, tt, path, way)) = (judgeS c.place (.sl "leaf" (.str x) tt) n (.sl "book" (.int m) Y) path && judgeW c tt way) := by
              show (decide _ && (decide _ && _)) = _
              rw [decide_eq_true ⟨c1, c2⟩, decide_eq_true (show 0 ≤ c.key ∧ c.key < 2 ^ c.depth.toNat by rw [el]; exact ⟨c3, c4⟩), Bool.true_and, Bool.true_and]
            rw [jB] at q1 q2 qf
            refine ⟨_, rfl, p, C, dx, _, _, rfl, hp, KB.c.cl, KB.c.n_place, bhF_place c, _, rfl, pq, _, 0, _, rfl, rfl, SqT.of hpq, rfl, _, rfl, pq, _, 1, _, rfl, rfl, SqT.of hpq, rfl, fun sp sdx nsp nsdx snex => ?_⟩
            have y1 : Ext H (upd (upd H sdx (.own sp)) sp (.ins CS sdx [])) := (Ext.new nsdx).trans (Ext.new (by rw [upd_ne snex.symm]; exact nsp))
            have ky1 : Kp H (upd (upd H sdx (.own sp)) sp (.ins CS sdx [])) := (Kp.new nsdx).trans (Kp.new (show upd H sdx (.own sp) sp = none by rw [upd_ne snex.symm]; exact nsp))
            refine ⟨sp, sdx, c.place, x, tv, rfl, upd_same, fun H1 xo kp hg => ⟨rfl, ?_⟩⟩
            have x1 := xo.ext y1 nsp
            have ok1 := G.keep (ky1.trans kp) hok
            have hpq1 := x1.tup hpq
            refine ⟨_, rfl, sp, sdx, _, rfl, hg, (stF_no _ _ _).2, _, rfl, _, rfl, _, rfl, _, rfl, pq, _, 2, _, rfl, rfl, SqT.of hpq1, rfl, S0, sp, sdx, c.place, x, tv, tt, n, m, Y, head, pv, path, r + 40, hF, rfl, hg, htx, G.mono x1.gr htv, hws, htd, hn, G.mono x1.gr hh, hY, hYd, hpath.1.ext G x1, ok1, fun H2 x2 ok2 => ⟨_, rfl, ?_⟩, fun hj D H' hD e ok => q2 (by rw [hj, Bool.false_and]) D H' hD (x1.trans e) (G.less ok (by omega))⟩
            have x12 := x1.trans x2
            cases hj : judgeS c.place (.sl "leaf" (.str x) tt) n (.sl "book" (.int m) Y) path with
            | false =>
              refine iteT ?_
              exact qf H2 x12 (G.less ok2 (by omega)) (by rw [hj, Bool.false_and])
            | true =>
              rw [hj, Bool.true_and] at q1 q2
              refine iteF ?_
              have hp2 := x12.ins hp
              have hpq2 := x12.tup hpq
              refine ⟨_, rfl, _, rfl, p, C, dx, _, _, rfl, hp2, KB.c.cl, KB.c.n_key, bhF_key c, _, rfl, p, C, dx, _, _, rfl, hp2, KB.c.cl, KB.c.n_depth, bhF_depth c, _, rfl, pq, _, 3, _, rfl, rfl, SqT.of hpq2, rfl, S0, c.key, l, wv, way, r + 5, hF, by rw [hl], c3, by omega, hway.ext G x12, G.less ok2 (by omega), fun t ht u H3 x3 ok3 d3 => ?_, fun hno D hD => q2 ?_ D H2 hD x12 (G.less ok2 (by omega))⟩
              · have x13 := x12.trans x3
                have hp3 := x13.ins hp
                have hpq3 := x13.tup hpq
                obtain ⟨os, rr, rfl, hol, rfl⟩ := climbO_some ht
                obtain ⟨wq, o, ev, ys, rfl, hwq, ho, hd, hos, hosl, hev⟩ := hway
                refine ⟨_, rfl, _, rfl, p, C, dx, _, _, rfl, hp3, KB.c.cl, KB.c.n_depth, bhF_depth c, _, rfl, S0, _, u, .int c.depth, _, r + 4, hF, rfl, ok3, G.int _ ok3, d3, fun vt H4 x4 ok4 d4 => ?_⟩
                have x14 := x13.trans x4
                have hpq4 := x14.tup hpq
                have hp4 := x14.ins hp
                have hwq4 := x14.tup hwq
                have htv4 := G.mono x14.gr htv
                have cw : WS (climbT c.key l os (endT rr)) := climb_ws l os _ (endT_ws rr) fun t ht => (hos t ht).1
                have cdp := climb_dep (k := c.key) (d := 20) l os (endT rr) (Nat.le_trans (endT_dep rr) (by decide)) fun t ht => (hos t ht).2
                obtain ⟨d, d', e1, e2, e3, e4, e5, e6, e7⟩ := (I3 hF).inj ok4 d4 htv4 ((WS.tab c.depth cw).cmp hws)
                have dd1 : (Tm.sl "table" (.int c.depth) (climbT c.key l os (endT rr))).dep ≤ 41 := by show max 0 _ + 1 ≤ 41; omega
                refine ⟨_, rfl, pq, _, 1, _, rfl, rfl, SqT.of hpq4, rfl, d, d', e1, e2, shaped_of e3 (by omega), shaped_of e4 (by omega), ?_⟩
                rw [e7]
                have jW : judgeW c tt (some (os, some rr)) = (decide (Tm.sl "table" (.int c.depth) (climbT c.key l os (endT rr)) = tt) && endsB c rr) := by
                  show (decide (os.length ≤ c.depth.toNat) && (decide (Tm.sl "table" (.int c.depth) (climbT c.key c.depth.toNat os (endT rr)) = tt) && endsB c rr)) = _
                  rw [el, decide_eq_true hol, Bool.true_and]
                rw [jW] at q1
                have q1 := q1 H4 x14 (G.less ok4 (by omega))
                cases he : decide (Tm.sl "table" (.int c.depth) (climbT c.key l os (endT rr)) = tt) with
                | false =>
                  rw [he, Bool.false_and] at q1
                  refine ⟨_, rfl, iteF ?_⟩
                  exact q1
                | true =>
                  rw [he, Bool.true_and] at q1
                  refine ⟨_, rfl, iteT ?_⟩
                  exact ⟨_, rfl, p, dx, _, rfl, hp4, (bhF_no c).2.2, _, rfl, pq, _, 3, _, rfl, rfl, SqT.of hpq4, rfl, wq, _, 1, ev, rfl, rfl, SqT.of hwq4, rfl, p, dx, c, ev, rr, hs, rfl, hp4, EndAt.ext hev x14, q1⟩
              · exact climbO_none el hno
          · rw [decide_eq_false c4]
            refine iteT ?_
            refine qf H (Ext.refl H) (G.less hok (by omega)) ?_
            show (decide _ && (decide _ && _)) = _
            rw [decide_eq_false (show ¬ (0 ≤ c.key ∧ c.key < 2 ^ c.depth.toNat) by rw [el]; exact fun z => c4 z.2), Bool.false_and, Bool.and_false]
        · rw [decide_eq_false c3]
          refine ⟨_, rfl, iteT ?_⟩
          refine qf H (Ext.refl H) (G.less hok (by omega)) ?_
          show (decide _ && (decide _ && _)) = _
          rw [decide_eq_false (show ¬ (0 ≤ c.key ∧ c.key < 2 ^ c.depth.toNat) from fun z => c3 z.1), Bool.false_and, Bool.and_false]
      · rw [decide_eq_false c2]
        refine iteT ?_
        refine iteT ?_
        refine qf H (Ext.refl H) (G.less hok (by omega)) ?_
        show (decide _ && _) = _
        rw [decide_eq_false (fun z => c2 z.2), Bool.false_and]
    · rw [decide_eq_false c1]
      refine ⟨_, rfl, ?_⟩
      refine iteT ?_
      refine iteT ?_
      refine qf H (Ext.refl H) (G.less hok (by omega)) ?_
      show (decide _ && _) = _
      rw [decide_eq_false (fun z => c1 z.1), Bool.false_and]
end

section
variable {P : Program} {w : World} {K : PySem.W.Frag} {mg : Str → Option Value} {base : Heap} {Fam : Sys → Prop} {C CH CL CF : Addr}
def spJudgedB (K : PySem.W.Frag) (C : Addr) (isH : Bool) (Fam : Sys → Prop) : Sp := fun vs H Q _ => ∃ (S0 : Sys) (p dx : Addr) (c : BhCl) (n : Nat) (m : Int) (Y : Tm) (head v : V) (paper : PapM) (r : Nat), Fam S0 ∧ vs = [.ref p, .ref S0.f, .int (n : Int), head, v] ∧ H p = some (.ins C dx (bhF c)) ∧ c.said.isSome = isH ∧ n ≤ 1000 ∧
  S0.den H head (.sl "book" (.int m) Y) ∧ WS Y ∧ Y.dep ≤ 40 ∧ PapAt K S0 H v paper ∧ S0.ok H (r + 60) ∧
  (∀ H', Ext H H' → S0.ok H' r → Q (.bl (judgeB c n (.sl "book" (.int m) Y) paper)) H')
theorem ok_judgedB {cc CS : Addr} {isH : Bool} (T : Txt K mg cc) (A : SlA P w K mg base Fam) (I3 : ∀ {S}, Fam S → S.Inj K) (KS : K_Stands K mg CS) (KB : BhK K C) (M_ends : Met P w K mg base 1 C "ends" (spEnds C isH) []) : MetR P w K mg base 6 C "judged" (spJudgedB K C isH Fam) := by
  obtain ⟨C_BadPaper, g_BadPaper, F_BadPaper⟩ := T.x_BadPaper.ex
  have M_shown := ok_shownB T A I3 KS KB M_ends
  refine metR_of KB.c.cl KB.m_judged sc_Claim_judged (fun vs H Q E h => ?_) (fun f cdv A' outer s H vs Q E hr h => ?_)
  · obtain ⟨S0, p, dx, c, n, m, Y, head, v, paper, r, _, rfl, _⟩ := h
    rfl
  obtain ⟨S0, p, dx, c, n, m, Y, head, v, paper, r, hF, rfl, hp, hs, hn, hh, hY, hYd, hpap, hok, q⟩ := h
  refine ⟨_, (pss_one (ps_try_onlyE (pss_one (ps_ret (pv 5))) rfl rfl ⟨rfl, by decide, .inl g_BadPaper⟩ (takes_of rfl rfl rfl rfl) (fun W pn xe tk po => (pss_one (ps_set (i := 5) sc_Claim_judged.nd rfl (Or.inl rfl) (pe_mtx M_shown tk hr (by omega) (pv 0) (pa_cons (pv 1) (pa_cons (pv 2) (pa_cons (pv 3) (pa_cons (pv 4) pa_nil)))))))) (fun a oe cls d pn hz hf => (pss_when (P := cls = .ref C_BadPaper ∧ d = none) fun hsu => (pss_one (ps_ret pe_bl)))))), ?_⟩
  refine ⟨_, rfl, p, dx, _, rfl, hp, (bhF_no c).2.1, _, rfl, _, rfl, _, rfl, _, rfl, S0, p, dx, c, n, m, Y, head, v, paper, r, hF, rfl, hp, hs, hn, hh, hY, hYd, hpap, hok, fun H' e ok => ⟨_, rfl, q H' e ok⟩, fun hj D H' hD e ok => ?_⟩
  rw [g_BadPaper] at hD
  cases hD
  refine ⟨true, F_BadPaper.eP, fun _ p2 hp2 => ⟨⟨rfl, rfl⟩, ?_⟩, fun z => nomatch z⟩
  have := q H' e ok
  rw [hj] at this
  exact this
/-- the claims of a key, by their classes -/
def csB (K : PySem.W.Frag) (CH CL : Addr) (Fam : Sys → Prop) (C : Addr) (sp : Sp) : Prop := (C = CH ∧ sp = spJudgedB K CH true Fam) ∨ (C = CL ∧ sp = spJudgedB K CL false Fam)
theorem ok_csB {cc CS : Addr} (T : Txt K mg cc) (A : SlA P w K mg base Fam) (I3 : ∀ {S}, Fam S → S.Inj K) (KS : K_Stands K mg CS) (KH : K_Holds K mg CH) (KL : K_Lacks K mg CL) : ∀ C sp, csB K CH CL Fam C sp → MetR P w K mg base 6 C "judged" sp := by
  rintro C sp (⟨rfl, rfl⟩ | ⟨rfl, rfl⟩)
  · exact ok_judgedB T A I3 KS (bhk_holds KH) (ok_hends KH)
  · exact ok_judgedB T A I3 KS (bhk_lacks KL) (ok_lends KL)
/-- the class of a claim of a key -/
def clB (CH CL : Addr) (c : BhCl) : Addr := match c.said with
  | some _ => CH
  | none => CL
theorem csB_at (K : PySem.W.Frag) (CH CL : Addr) (Fam : Sys → Prop) (c : BhCl) : csB K CH CL Fam (clB CH CL c) (spJudgedB K (clB CH CL c) c.said.isSome Fam) := by
  obtain ⟨p, k, d, s⟩ := c
  cases s with
  | some x => exact .inl ⟨rfl, rfl⟩
  | none => exact .inr ⟨rfl, rfl⟩
end

/-! ### of one head, one paper -/
theorem rise_one (L L' : Tm) (n place : Nat) (ps ps' : List Tm) (hp : place < n) (h : ps.length = plen place n) (h' : ps'.length = plen place n) (e : riseT L (sidesT place n ps) = riseT L' (sidesT place n ps')) : L = L' ∧ ps = ps' := by
  by_cases h2 : n < 2
  · rw [plen_one h2] at h h'
    rw [sidesT_one h2, sidesT_one h2] at e
    exact ⟨e, by rw [List.eq_nil_of_length_eq_zero h, List.eq_nil_of_length_eq_zero h']⟩
  · have hs := splitN_lt (n := n) (by omega)
    have hs0 := splitN_pos n
    by_cases c : place < splitN n
    · rw [plen_low (by omega) c] at h h'
      have q := last_split (l := ps) (d := nonT) (by omega)
      have q' := last_split (l := ps') (d := nonT) (by omega)
      rw [sidesT_low (by omega) c, sidesT_low (by omega) c, riseT_cons, riseT_cons] at e
      have e : pairT _ _ = pairT _ _ := e
      obtain ⟨e1, e2⟩ := pairT_inj e
      obtain ⟨i1, i2⟩ := rise_one L L' (splitN n) place ps.dropLast ps'.dropLast c (by rw [List.length_dropLast]; omega) (by rw [List.length_dropLast]; omega) e1
      refine ⟨i1, ?_⟩
      rw [q, q', i2]
      exact congrArg (fun z => ps'.dropLast ++ [z]) e2
    · rw [plen_high (by omega) c] at h h'
      have q := last_split (l := ps) (d := nonT) (by omega)
      have q' := last_split (l := ps') (d := nonT) (by omega)
      rw [sidesT_high (by omega) c, sidesT_high (by omega) c, riseT_cons, riseT_cons] at e
      have e : pairT _ _ = pairT _ _ := e
      obtain ⟨e1, e2⟩ := pairT_inj e
      obtain ⟨i1, i2⟩ := rise_one L L' (n - splitN n) (place - splitN n) ps.dropLast ps'.dropLast (by omega) (by rw [List.length_dropLast]; omega) (by rw [List.length_dropLast]; omega) e2
      refine ⟨i1, ?_⟩
      rw [q, q', i2]
      exact congrArg (fun z => ps'.dropLast ++ [z]) e1
termination_by n
theorem reg_one (old n : Nat) (ps ps' : List Tm) (h0 : 0 < old) (h1 : old ≤ n) (h : ps.length = glen old n) (h' : ps'.length = glen old n) (e : (regT old n ps).2 = (regT old n ps').2) : ps = ps' := by
  have hl := glen_pos old n
  have q := last_split (l := ps) (d := nonT) (by omega)
  have q' := last_split (l := ps') (d := nonT) (by omega)
  by_cases c : old = n
  · subst c
    rw [glen_all] at h h'
    rw [regT_all, regT_all] at e
    have z : ps.dropLast = [] := List.eq_nil_of_length_eq_zero (by rw [List.length_dropLast]; omega)
    have z' : ps'.dropLast = [] := List.eq_nil_of_length_eq_zero (by rw [List.length_dropLast]; omega)
    rw [q, q', z, z']
    exact congrArg (fun z => [] ++ [z]) e
  · have hs := splitN_lt (n := n) (by omega)
    have hs0 := splitN_pos n
    by_cases d : old ≤ splitN n
    · rw [glen_low h0 (by omega) d] at h h'
      rw [regT_low h0 (by omega) d, regT_low h0 (by omega) d] at e
      obtain ⟨e1, e2⟩ := pairT_inj e
      have i := reg_one old (splitN n) ps.dropLast ps'.dropLast h0 d (by rw [List.length_dropLast]; omega) (by rw [List.length_dropLast]; omega) e1
      rw [q, q', i]
      exact congrArg (fun z => ps'.dropLast ++ [z]) e2
    · rw [glen_high h0 (by omega) d] at h h'
      rw [regT_high h0 (by omega) d, regT_high h0 (by omega) d] at e
      obtain ⟨e1, e2⟩ := pairT_inj e
      have i := reg_one (old - splitN n) (n - splitN n) ps.dropLast ps'.dropLast (by omega) (by omega) (by rw [List.length_dropLast]; omega) (by rw [List.length_dropLast]; omega) e2
      rw [q, q', i]
      exact congrArg (fun z => ps'.dropLast ++ [z]) e1
termination_by n
theorem climb_one (k : Int) : ∀ (l : Nat) (os os' : List Tm) (r r' : List (Int × Str)), os.length ≤ l → os'.length ≤ l → r.length ≤ 1 → r'.length ≤ 1 → climbT k l os (endT r) = climbT k l os' (endT r') → os = os' ∧ r = r'
  | l, [], [], r, r', _, _, hr, hr', e => by
    rw [climbT_nil, climbT_nil] at e
    exact ⟨rfl, endT_inj hr hr' e⟩
  | l + 1, [], o :: os, r, r', _, _, _, _, e => by
    rw [climbT_nil] at e
    unfold climbT at e
    split at e
    · exact absurd e (endT_nf _ _ _)
    · exact absurd e (endT_nf _ _ _)
  | l + 1, o :: os, [], r, r', _, _, _, _, e => by
    rw [climbT_nil] at e
    unfold climbT at e
    split at e
    · exact absurd e.symm (endT_nf _ _ _)
    · exact absurd e.symm (endT_nf _ _ _)
  | 0, _ :: _, _, _, _, h, _, _, _, _ => absurd h (by simp)
  | 0, _, _ :: _, _, _, _, h, _, _, _ => absurd h (by simp)
  | l + 1, o :: os, o' :: os', r, r', h, h', hr, hr', e => by
    have hl : os.length ≤ l := by simpa using h
    have hl' : os'.length ≤ l := by simpa using h'
    unfold climbT at e
    split at e
    · obtain ⟨e1, e2⟩ := forkT_inj e
      obtain ⟨i1, i2⟩ := climb_one k l os os' r r' hl hl' hr hr' e1
      exact ⟨by rw [e2, i1], i2⟩
    · obtain ⟨e1, e2⟩ := forkT_inj e
      obtain ⟨i1, i2⟩ := climb_one k l os os' r r' hl hl' hr hr' e2
      exact ⟨by rw [e1, i1], i2⟩

/-! ### things laid by hand -/
def rListOf (K : PySem.W.Frag) : List V → Hp → VK → Prop := fun xs H Q => ∃ (p : Addr) (ys : List V), xs = [V.ref p] ∧ (SqL K H p ys ∨ SqT K H p ys) ∧ ∀ l, H l = none → Q (V.ref l) (upd H l (HO.lst ys))
def ab : Nat → Str
  | 0 => ""
  | 1 => "a"
  | _ => "ab"
theorem ab_cut {z : Int} (h0 : 0 ≤ z) (h1 : z < 3) : cutS "ab" none (some z) = ab z.toNat ∧ txtOk (ab z.toNat) = true ∧ z.toNat < 3 := by
  have : z = 0 ∨ z = 1 ∨ z = 2 := by omega
  rcases this with rfl | rfl | rfl
  · exact ⟨by decide +kernel, by decide +kernel, by decide⟩
  · exact ⟨by decide +kernel, by decide +kernel, by decide⟩
  · exact ⟨by decide +kernel, by decide +kernel, by decide⟩
section
variable {P : Program} {w : World} {K : PySem.W.Frag} {mg : Str → Option Value} {base : Heap}
abbrev DP (H : Hp) (v : V) (t : Tm) : Prop := DenP tfP H v t
theorem dp_sl {H : Hp} {q : Addr} {m : Str} {va vb : V} {a b : Tm} (hm : txtOk m = true) (h : H q = some (.tup [.str m, va, vb])) (ha : DP H va a) (hb : DP H vb b) : DP H (.ref q) (.sl m a b) := .sl hm h ha hb
theorem DenL.re {H : Hp} {a b : Addr} {vs : List V} {ts : List Tm} (h : DenL (plainSys tfP a) H vs ts) : DenL (plainSys tfP b) H vs ts := ⟨h.len, h.at_⟩
abbrev S0P : Sys := plainSys tfP 0
theorem DenL.up {H H' : Hp} {vs : List V} {ts : List Tm} (h : DenL S0P H vs ts) (x : Ext H H') : DenL S0P H' vs ts := ⟨h.len, fun i v t a b => (h.at_ i v t a b).mono x.gr⟩
theorem G0 : S0P.Good K := goodP 0
def spSome : Sp := fun vs H Q _ => ∃ (c : Int) (k : Nat), vs = [.int c, .int (k : Int)] ∧ k ≤ 10 ∧ ∀ v t H', Ext H H' → DP H' v t → t.dep ≤ 2 → Q v H'
theorem ok_some {cc : Addr} (T : Txt K mg cc) : Cal P w K mg base 2 "_law_some" spSome [] := by
  have Z := T.Z
  have C__law_draw := ok_draw (P := P) (w := w) (base := base) T
  refine cal_of T.d__law_some sc__law_some (fun vs H Q E h => ?_) (fun f cdv A' outer s H vs Q E hr h => ?_)
  · obtain ⟨c, k, rfl, _⟩ := h
    rfl
  obtain ⟨c, k, rfl, hk, q⟩ := h
  refine ⟨_, (pss_cons (ps_set (i := 2) sc__law_some.nd rfl (Or.inl rfl) (pe_tup (pa_cons pe_str (pa_cons (pe_slice sl_str pe_str po_none (po_some (pe_c C__law_draw hr (by omega) rfl (pa_cons (pv 0) (pa_cons (pv 1) (pa_cons pe_int pa_nil)))))) (pa_cons (pe_c C__law_draw hr (by omega) rfl (pa_cons (pv 0) (pa_cons (pe_op op_add (pv 1) pe_int) (pa_cons pe_int pa_nil)))) pa_nil)))))
  (pss_cons (ps_if (pt_cmpR op_eq (pe_c C__law_draw hr (by omega) rfl (pa_cons (pv 0) (pa_cons (pe_op op_add (pv 1) pe_int) (pa_cons pe_int pa_nil)))) pe_int (nomark _)) (pss_one (ps_ret (pe_tup (pa_cons pe_str (pa_cons (pv 2) (pa_cons (pe_tup (pa_cons pe_str (pa_cons pe_int (pa_cons pe_int pa_nil)))) pa_nil)))))) pss_nil)
  (pss_one (ps_ret (pv 2))))), ?_⟩
  refine ⟨_, rfl, _, rfl, _, _, _, rfl, by omega, by omega, by decide, fun z1 H1 z10 z11 s1 => ?_⟩
  obtain ⟨e1, e2, _⟩ := ab_cut z10 z11
  refine ⟨_, rfl, _, rfl, by decide +kernel, ?_⟩
  rw [e1]
  refine ⟨_, rfl, _, rfl, _, _, rfl, rfl, _, _, _, rfl, by omega, by omega, by decide, fun z2 H2 _ _ s2 => ?_⟩
  refine ⟨by show 3 ≤ sizeLine; decide, fun p1 np1 => ?_⟩
  have x1 := Ext.new (o := .tup [.str "leaf", .str (ab z1.toNat), .int z2]) np1
  have h1 : upd H2 p1 (.tup [.str "leaf", .str (ab z1.toNat), .int z2]) p1 = some (.tup [.str "leaf", .str (ab z1.toNat), .int z2]) := upd_same
  generalize upd H2 p1 (.tup [.str "leaf", .str (ab z1.toNat), .int z2]) = H3 at x1 h1 ⊢
  have d1 : DP H3 (.ref p1) (.sl "leaf" (.str (ab z1.toNat)) (.int z2)) := dp_sl (by decide +kernel) h1 (.str _ e2) (.int _)
  have xs := (Ext.of_same (s1.trans s2)).trans x1
  refine ⟨_, rfl, _, rfl, _, _, rfl, rfl, _, _, _, rfl, by omega, by omega, by decide, fun z3 H4 _ _ s3 => ⟨rfl, _, rfl, ite2 (fun _ => ?_) (fun _ => ?_)⟩⟩
  · refine ⟨_, rfl, by show 3 ≤ sizeLine; decide, fun p2 np2 => ⟨by show 3 ≤ sizeLine; decide, fun p3 np3 => ?_⟩⟩
    have x2 := Ext.new (o := .tup [.str "none", .int 0, .int 0]) np2
    have h2 : upd H4 p2 (.tup [.str "none", .int 0, .int 0]) p2 = some (.tup [.str "none", .int 0, .int 0]) := upd_same
    generalize upd H4 p2 (.tup [.str "none", .int 0, .int 0]) = H5 at x2 h2 np3 ⊢
    have x3 := Ext.new (o := .tup [.str "pair", .ref p1, .ref p2]) np3
    refine q _ (pairT (.sl "leaf" (.str (ab z1.toNat)) (.int z2)) nonT) _ (((xs.trans (Ext.of_same s3)).trans x2).trans x3) (dp_sl (by decide +kernel) upd_same ?_ ?_) (by show max (max 0 0 + 1) (max 0 0 + 1) + 1 ≤ 2; decide)
    · exact d1.mono (((Ext.of_same s3).trans x2).trans x3).gr
    · exact (dp_sl (by decide +kernel) h2 (.int _) (.int _) : DP H5 (.ref p2) nonT).mono x3.gr
  · exact ⟨_, rfl, q _ _ _ (xs.trans (Ext.of_same s3)) (d1.mono (Ext.of_same s3).gr) (by show max 0 0 + 1 ≤ 2; decide)⟩
/-- a leaf and tops laid, by halvings -/
def spRisen14 (K : PySem.W.Frag) (k : Nat) : Sp := fun vs H Q _ => ∃ (v : V) (L : Tm) (place size : Nat) (tp : Addr) (tv : List V) (ts : List Tm) (at' : Nat), k ≠ 0 ∧ vs = [v, .int (place : Int), .int (size : Int), .ref tp, .int (at' : Int)] ∧ DP H v L ∧ H tp = some (.lst tv) ∧ DenL S0P H tv ts ∧ 0 < ts.length ∧ place < size ∧ size ≤ 2 ^ (k - 1) ∧ size ≤ 1000 ∧
  ∀ q u p ys ps H', Ext H H' → H p = none → H' q = some (.tup [u, .ref p]) → DP H' u (riseT L (sidesT place size ps)) → H' p = some (.lst ys) → DenL S0P H' ys ps → ps.length = plen place size → (∀ t ∈ ps, t ∈ ts) → Q (.ref q) H'
theorem ok_lrisen1 {cc : Addr} {k : Nat} (T : Txt K mg cc) (hk30 : k ≤ 1000) (C__law_risen : Cal P w K mg base (k + 1) "_law_risen" (spRisen14 K k) []) : Cal P w K mg base (k + 2) "_law_risen" (spRisen14 K (k + 1)) [] := by
  have Z := T.Z
  have C__law_split := ok_law_split (P := P) (w := w) (base := base) T
  refine cal_of T.d__law_risen sc__law_risen (fun vs H Q E h => ?_) (fun f cdv A' outer s H vs Q E hr h => ?_)
  · obtain ⟨v, L, place, size, tp, tv, ts, at', _, rfl, _⟩ := h
    rfl
  obtain ⟨v, L, place, size, tp, tv, ts, at', _, rfl, hv, htp, hts, h0, hpl, hk, hsz, q⟩ := h
  have hl := hts.len
  have e16 : sizeLine = 16777216 := sizeLine_eq
  refine ⟨_, (pss_cons (ps_if (pt_cmpR op_eq (pv 2) pe_int (nomark _)) (pss_one (ps_ret (pe_tup (pa_cons (pv 0) (pa_cons (pe_lst pa_nil) pa_nil))))) pss_nil)
  (pss_cons (ps_set (i := 5) sc__law_risen.nd rfl (Or.inl rfl) (pe_c C__law_split hr (by omega) rfl (pa_cons (pv 2) pa_nil)))
  (pss_cons (ps_set (i := 6) sc__law_risen.nd rfl (Or.inl rfl) (pe_ix ix_list (pv 3) (pe_op op_mod (pv 4) (pe_callB call_len_seq rfl Z.len PySem.boot_len (pa_cons (pv 3) pa_nil))) (fun _ _ => rfl)))
  (pss_cons (ps_if (pt_cmpR op_lt (pv 1) (pv 5) (nomark _)) (pss_cons (ps_set (i := 7) sc__law_risen.nd rfl (Or.inl rfl) (pe_c C__law_risen hr (by omega) rfl (pa_cons (pv 0) (pa_cons (pv 1) (pa_cons (pv 5) (pa_cons (pv 3) (pa_cons (pe_op op_add (pv 4) pe_int) pa_nil)))))))
  (pss_one (ps_ret (pe_tup (pa_cons (pe_tup (pa_cons pe_str (pa_cons (pe_ix ix_tup (pv 7) pe_int (fun _ _ => rfl)) (pa_cons (pv 6) pa_nil)))) (pa_cons (pe_op op_cat (pe_ix ix_tup (pv 7) pe_int (fun _ _ => rfl)) (pe_lst (pa_cons (pv 6) pa_nil))) pa_nil)))))) pss_nil)
  (pss_cons (ps_set (i := 7) sc__law_risen.nd rfl (Or.inl rfl) (pe_c C__law_risen hr (by omega) rfl (pa_cons (pv 0) (pa_cons (pe_op op_sub (pv 1) (pv 5)) (pa_cons (pe_op op_sub (pv 2) (pv 5)) (pa_cons (pv 3) (pa_cons (pe_op op_add (pv 4) pe_int) pa_nil)))))))
  (pss_one (ps_ret (pe_tup (pa_cons (pe_tup (pa_cons pe_str (pa_cons (pv 6) (pa_cons (pe_ix ix_tup (pv 7) pe_int (fun _ _ => rfl)) pa_nil)))) (pa_cons (pe_op op_cat (pe_ix ix_tup (pv 7) pe_int (fun _ _ => rfl)) (pe_lst (pa_cons (pv 6) pa_nil))) pa_nil)))))))))), ?_⟩
  refine ⟨_, rfl, rfl, _, rfl, ite2 (fun c => ?_) (fun c => ?_)⟩
  · have c' : size = 1 := by have := V.int.inj (of_decide_eq_true c); omega
    subst c'
    refine ⟨_, rfl, by show 0 ≤ sizeLine; decide, fun p np => ⟨by show 2 ≤ sizeLine; decide, fun q1 nq1 => ?_⟩⟩
    have x1 := Ext.new (o := .lst []) np
    have h1 : upd H p (.lst []) p = some (.lst []) := upd_same
    generalize upd H p (.lst []) = H1 at x1 h1 nq1 ⊢
    have x2 := Ext.new (o := .tup [v, .ref p]) nq1
    refine q q1 v p [] [] _ (x1.trans x2) np upd_same ?_ (x2.lst h1) DenL.nil (by rw [plen_one (by decide)]; rfl) (fun t h => nomatch h)
    rw [sidesT_one (by decide)]
    exact hv.mono (x1.trans x2).gr
  have n1 : size ≠ 1 := fun z => c (decide_eq_true (by rw [z] <;> rfl))
  have h2 : 2 ≤ size := by omega
  have hsl := splitN_lt h2
  have hsp := splitN_pos size
  obtain ⟨k', rfl⟩ : ∃ k', k = k' + 1 := by
    cases k with
    | zero =>
      have hk : size ≤ 2 ^ 0 := hk
      simp at hk
      omega
    | succ k' => exact ⟨k', rfl⟩
  have hk1 : size ≤ 2 ^ (k' + 1) := hk
  obtain ⟨b1, b2⟩ := splitN_le_pow h2 hk1
  have lg := Nat.log2_le_self size
  refine ⟨_, rfl, size, rfl, h2, by omega, ?_⟩
  -- the last top
  obtain ⟨m, hm⟩ : ∃ m : Nat, (at' : Int) % (tv.length : Int) = (m : Int) := Int.eq_ofNat_of_zero_le (Int.emod_nonneg _ (by omega))
  have hm2 := Int.emod_lt_of_pos (at' : Int) (show (0 : Int) < (tv.length : Int) by omega)
  obtain ⟨lv, elv, dlv⟩ := hts.get (show m < ts.length by omega)
  have hmem := List.getElem_mem (show m < ts.length by omega)
  generalize ts[m]'(by omega) = lt at dlv hmem
  refine ⟨_, rfl, _, rfl, _, rfl, tp, tv, rfl, .inl (SqL.of htp), _, _, rfl, rfl, by show (0 : Int) < (tv.length : Int); omega, tp, tv, _, lv, rfl, rfl, SqL.of htp, by rw [hm]; exact atI_nat elv, ?_⟩
  refine ⟨_, rfl, _, rfl, _, _, rfl, rfl, _, rfl, ite2 (fun c => ?_) (fun c => ?_)⟩
  · have c' : place < splitN size := by have := of_decide_eq_true c; omega
    refine ⟨_, rfl, _, rfl, _, rfl, _, rfl, _, rfl, _, _, rfl, rfl, v, L, place, splitN size, tp, tv, ts, at' + 1, by omega, rfl, hv, htp, hts, h0, c', b1, by omega, fun q1 u p ys ps H1 x1 _ hq1 du hp dps lps mps => ?_⟩
    have c := c'
    refine ⟨_, rfl, q1, _, 0, _, rfl, rfl, SqT.of hq1, rfl, _, rfl, by show 3 ≤ sizeLine; decide, fun a1 na1 => ?_⟩
    have y1 := Ext.new (o := .tup [.str "pair", u, lv]) na1
    have h1 : upd H1 a1 (.tup [.str "pair", u, lv]) a1 = some (.tup [.str "pair", u, lv]) := upd_same
    generalize upd H1 a1 (.tup [.str "pair", u, lv]) = H2 at y1 h1 ⊢
    have d1 : DP H2 (.ref a1) (pairT (riseT L (sidesT place (splitN size) ps)) lt) := dp_sl (by decide +kernel) h1 (du.mono y1.gr) (dlv.mono (x1.trans y1).gr)
    refine ⟨_, rfl, q1, _, 1, _, rfl, rfl, SqT.of (y1.tup hq1), rfl, _, rfl, by show 1 ≤ sizeLine; decide, fun a2 na2 => ?_⟩
    have y2 := Ext.new (o := .lst [lv]) na2
    have h2' : upd H2 a2 (.lst [lv]) a2 = some (.lst [lv]) := upd_same
    generalize upd H2 a2 (.lst [lv]) = H3 at y2 h2' ⊢
    have ypl := dps.len
    have pll : plen place (splitN size) ≤ k' := plen_le k' _ _ b1
    have k30 : k' ≤ 1000 := by omega
    refine ⟨p, a2, _, _, rfl, rfl, (y1.trans y2).lst hp, h2', by show _ + 1 ≤ sizeLine; omega, fun a3 na3 => ⟨by show 2 ≤ sizeLine; decide, fun a4 na4 => ?_⟩⟩
    have y3 := Ext.new (o := .lst (ys ++ [lv])) na3
    have h3 : upd H3 a3 (.lst (ys ++ [lv])) a3 = some (.lst (ys ++ [lv])) := upd_same
    generalize upd H3 a3 (.lst (ys ++ [lv])) = H4 at y3 h3 na4 ⊢
    have y4 := Ext.new (o := .tup [.ref a1, .ref a3]) na4
    have yy := ((y1.trans y2).trans y3).trans y4
    refine q a4 (.ref a1) a3 (ys ++ [lv]) (ps ++ [lt]) _ (x1.trans yy) ((x1.trans (y1.trans y2)).free na3) upd_same ?_ (y4.lst h3) ((dps.up yy).append (DenL.one ((dlv.mono x1.gr).mono yy.gr))) ?_ ?_
    · rw [sidesT_low h2 c, getLastD_concat, List.dropLast_concat, riseT_cons]
      exact d1.mono ((y2.trans y3).trans y4).gr
    · rw [plen_low h2 c, List.length_append, lps]
      rfl
    · intro t ht
      rcases List.mem_append.mp ht with h | h
      · exact mps t h
      · rw [List.mem_singleton.mp h]
        exact hmem
  · have c : ¬ place < splitN size := by
      intro z
      exact c (decide_eq_true (by omega))
    refine ⟨_, rfl, _, rfl, _, rfl, _, _, rfl, rfl, _, rfl, _, rfl, _, _, rfl, rfl, _, rfl, _, rfl, _, _, rfl, rfl, v, L, place - splitN size, size - splitN size, tp, tv, ts, at' + 1, by omega, by rw [show ((place - splitN size : Nat) : Int) = (place : Int) - (splitN size : Int) by omega, show ((size - splitN size : Nat) : Int) = (size : Int) - (splitN size : Int) by omega]; rfl, hv, htp, hts, h0, by omega, b2, by omega, fun q1 u p ys ps H1 x1 _ hq1 du hp dps lps mps => ?_⟩
    refine ⟨_, rfl, _, rfl, q1, _, 0, _, rfl, rfl, SqT.of hq1, rfl, by show 3 ≤ sizeLine; decide, fun a1 na1 => ?_⟩
    have y1 := Ext.new (o := .tup [.str "pair", lv, u]) na1
    have h1 : upd H1 a1 (.tup [.str "pair", lv, u]) a1 = some (.tup [.str "pair", lv, u]) := upd_same
    generalize upd H1 a1 (.tup [.str "pair", lv, u]) = H2 at y1 h1 ⊢
    have d1 : DP H2 (.ref a1) (pairT lt (riseT L (sidesT (place - splitN size) (size - splitN size) ps))) := dp_sl (by decide +kernel) h1 (dlv.mono (x1.trans y1).gr) (du.mono y1.gr)
    refine ⟨_, rfl, q1, _, 1, _, rfl, rfl, SqT.of (y1.tup hq1), rfl, _, rfl, by show 1 ≤ sizeLine; decide, fun a2 na2 => ?_⟩
    have y2 := Ext.new (o := .lst [lv]) na2
    have h2' : upd H2 a2 (.lst [lv]) a2 = some (.lst [lv]) := upd_same
    generalize upd H2 a2 (.lst [lv]) = H3 at y2 h2' ⊢
    have ypl := dps.len
    have pll : plen (place - splitN size) (size - splitN size) ≤ k' := plen_le k' _ _ b2
    have k30 : k' ≤ 1000 := by omega
    refine ⟨p, a2, _, _, rfl, rfl, (y1.trans y2).lst hp, h2', by show _ + 1 ≤ sizeLine; omega, fun a3 na3 => ⟨by show 2 ≤ sizeLine; decide, fun a4 na4 => ?_⟩⟩
    have y3 := Ext.new (o := .lst (ys ++ [lv])) na3
    have h3 : upd H3 a3 (.lst (ys ++ [lv])) a3 = some (.lst (ys ++ [lv])) := upd_same
    generalize upd H3 a3 (.lst (ys ++ [lv])) = H4 at y3 h3 na4 ⊢
    have y4 := Ext.new (o := .tup [.ref a1, .ref a3]) na4
    have yy := ((y1.trans y2).trans y3).trans y4
    refine q a4 (.ref a1) a3 (ys ++ [lv]) (ps ++ [lt]) _ (x1.trans yy) ((x1.trans (y1.trans y2)).free na3) upd_same ?_ (y4.lst h3) ((dps.up yy).append (DenL.one ((dlv.mono x1.gr).mono yy.gr))) ?_ ?_
    · rw [sidesT_high h2 c, getLastD_concat, List.dropLast_concat, riseT_cons]
      exact d1.mono ((y2.trans y3).trans y4).gr
    · rw [plen_high h2 c, List.length_append, lps]
      rfl
    · intro t ht
      rcases List.mem_append.mp ht with h | h
      · exact mps t h
      · rw [List.mem_singleton.mp h]
        exact hmem
theorem ok_lrisen {cc : Addr} (T : Txt K mg cc) : ∀ k : Nat, k ≤ 500 → Cal P w K mg base (k + 1) "_law_risen" (spRisen14 K k) []
  | 0, _ => by
    obtain ⟨f, fd, ps, ds, F, m, kp, b, v⟩ := (cal_no (P := P) (w := w) (base := base) T.d__law_risen 1).ex
    exact ⟨f, fd, ps, ds, F.imp fun vs H Q E h => by obtain ⟨_, _, _, _, _, _, _, _, z, _⟩ := h; exact absurd rfl z, m, kp, b, v⟩
  | k + 1, h => ok_lrisen1 T (by omega) (ok_lrisen T k (by omega))
end

section
variable {P : Program} {w : World} {K : PySem.W.Frag} {mg : Str → Option Value} {base : Heap}
def spRegr14 (k : Nat) : Sp := fun vs H Q _ => ∃ (old size : Nat) (tp : Addr) (tv : List V) (ts : List Tm) (at' : Nat), k ≠ 0 ∧ vs = [.int (old : Int), .int (size : Int), .ref tp, .int (at' : Int)] ∧ H tp = some (.lst tv) ∧ DenL S0P H tv ts ∧ 0 < ts.length ∧ 0 < old ∧ old ≤ size ∧ size ≤ 2 ^ (k - 1) ∧ size ≤ 1000 ∧
  ∀ q u x p ys ps H', Ext H H' → H p = none → H' q = some (.tup [u, x, .ref p]) → DP H' u (regT old size ps).1 → DP H' x (regT old size ps).2 → H' p = some (.lst ys) → DenL S0P H' ys ps → ps.length = glen old size → (∀ t ∈ ps, t ∈ ts) → Q (.ref q) H'
theorem ok_lregr1 {cc : Addr} {k : Nat} (T : Txt K mg cc) (hk30 : k ≤ 1000) (C__law_regrown : Cal P w K mg base (k + 1) "_law_regrown" (spRegr14 k) []) : Cal P w K mg base (k + 2) "_law_regrown" (spRegr14 (k + 1)) [] := by
  have Z := T.Z
  have C__law_split := ok_law_split (P := P) (w := w) (base := base) T
  refine cal_of T.d__law_regrown sc__law_regrown (fun vs H Q E h => ?_) (fun f cdv A' outer s H vs Q E hr h => ?_)
  · obtain ⟨old, size, tp, tv, ts, at', _, rfl, _⟩ := h
    rfl
  obtain ⟨old, size, tp, tv, ts, at', _, rfl, htp, hts, h0, ho0, ho1, hk, hsz, q⟩ := h
  have hl := hts.len
  have e16 : sizeLine = 16777216 := sizeLine_eq
  refine ⟨_, (pss_cons (ps_set (i := 4) sc__law_regrown.nd rfl (Or.inl rfl) (pe_ix ix_list (pv 2) (pe_op op_mod (pv 3) (pe_callB call_len_seq rfl Z.len PySem.boot_len (pa_cons (pv 2) pa_nil))) (fun _ _ => rfl)))
  (pss_cons (ps_if (pt_cmpR op_eq (pv 0) (pv 1) (nomark _)) (pss_one (ps_ret (pe_tup (pa_cons (pv 4) (pa_cons (pv 4) (pa_cons (pe_lst (pa_cons (pv 4) pa_nil)) pa_nil)))))) pss_nil)
  (pss_cons (ps_set (i := 5) sc__law_regrown.nd rfl (Or.inl rfl) (pe_c C__law_split hr (by omega) rfl (pa_cons (pv 1) pa_nil)))
  (pss_cons (ps_if (pt_cmpR op_le (pv 0) (pv 5) (nomark _)) (pss_cons (ps_set (i := 6) sc__law_regrown.nd rfl (Or.inl rfl) (pe_c C__law_regrown hr (by omega) rfl (pa_cons (pv 0) (pa_cons (pv 5) (pa_cons (pv 2) (pa_cons (pe_op op_add (pv 3) pe_int) pa_nil))))))
  (pss_one (ps_ret (pe_tup (pa_cons (pe_ix ix_tup (pv 6) pe_int (fun _ _ => rfl)) (pa_cons (pe_tup (pa_cons pe_str (pa_cons (pe_ix ix_tup (pv 6) pe_int (fun _ _ => rfl)) (pa_cons (pv 4) pa_nil)))) (pa_cons (pe_op op_cat (pe_ix ix_tup (pv 6) pe_int (fun _ _ => rfl)) (pe_lst (pa_cons (pv 4) pa_nil))) pa_nil))))))) pss_nil)
  (pss_cons (ps_set (i := 6) sc__law_regrown.nd rfl (Or.inl rfl) (pe_c C__law_regrown hr (by omega) rfl (pa_cons (pe_op op_sub (pv 0) (pv 5)) (pa_cons (pe_op op_sub (pv 1) (pv 5)) (pa_cons (pv 2) (pa_cons (pe_op op_add (pv 3) pe_int) pa_nil))))))
  (pss_one (ps_ret (pe_tup (pa_cons (pe_tup (pa_cons pe_str (pa_cons (pv 4) (pa_cons (pe_ix ix_tup (pv 6) pe_int (fun _ _ => rfl)) pa_nil)))) (pa_cons (pe_tup (pa_cons pe_str (pa_cons (pv 4) (pa_cons (pe_ix ix_tup (pv 6) pe_int (fun _ _ => rfl)) pa_nil)))) (pa_cons (pe_op op_cat (pe_ix ix_tup (pv 6) pe_int (fun _ _ => rfl)) (pe_lst (pa_cons (pv 4) pa_nil))) pa_nil))))))))))), ?_⟩
  -- the last top
  obtain ⟨m, hm⟩ : ∃ m : Nat, (at' : Int) % (tv.length : Int) = (m : Int) := Int.eq_ofNat_of_zero_le (Int.emod_nonneg _ (by omega))
  have hm2 := Int.emod_lt_of_pos (at' : Int) (show (0 : Int) < (tv.length : Int) by omega)
  obtain ⟨lv, elv, dlv⟩ := hts.get (show m < ts.length by omega)
  have hmem := List.getElem_mem (show m < ts.length by omega)
  generalize ts[m]'(by omega) = lt at dlv hmem
  refine ⟨_, rfl, _, rfl, _, rfl, tp, tv, rfl, .inl (SqL.of htp), _, _, rfl, rfl, by show (0 : Int) < (tv.length : Int); omega, tp, tv, _, lv, rfl, rfl, SqL.of htp, by rw [hm]; exact atI_nat elv, ?_⟩
  refine ⟨_, rfl, _, rfl, rfl, _, rfl, ite2 (fun c => ?_) (fun c => ?_)⟩
  · have c' : old = size := by have := V.int.inj (of_decide_eq_true c); omega
    subst c'
    refine ⟨_, rfl, _, rfl, _, rfl, by show 1 ≤ sizeLine; decide, fun p np => ⟨by show 3 ≤ sizeLine; decide, fun q1 nq1 => ?_⟩⟩
    have x1 := Ext.new (o := .lst [lv]) np
    have h1 : upd H p (.lst [lv]) p = some (.lst [lv]) := upd_same
    generalize upd H p (.lst [lv]) = H1 at x1 h1 nq1 ⊢
    have x2 := Ext.new (o := .tup [lv, lv, .ref p]) nq1
    have dl := dlv.mono (x1.trans x2).gr
    refine q q1 lv lv p [lv] [lt] _ (x1.trans x2) np upd_same ?_ ?_ (x2.lst h1) (DenL.one dl) (by rw [glen_all]; rfl) (fun t h => by rw [List.mem_singleton.mp h]; exact hmem)
    · rw [regT_all]; exact dl
    · rw [regT_all]; exact dl
  have n1 : old ≠ size := fun z => c (decide_eq_true (by rw [z]))
  have h2 : 2 ≤ size := by omega
  have hsl := splitN_lt h2
  have hsp := splitN_pos size
  obtain ⟨k', rfl⟩ : ∃ k', k = k' + 1 := by
    cases k with
    | zero =>
      have hk : size ≤ 2 ^ 0 := hk
      simp at hk
      omega
    | succ k' => exact ⟨k', rfl⟩
  have hk1 : size ≤ 2 ^ (k' + 1) := hk
  obtain ⟨b1, b2⟩ := splitN_le_pow h2 hk1
  have lg := Nat.log2_le_self size
  refine ⟨_, rfl, size, rfl, h2, by omega, ?_⟩
  refine ⟨_, rfl, _, rfl, _, _, rfl, rfl, _, rfl, ite2 (fun c => ?_) (fun c => ?_)⟩
  · have c : old ≤ splitN size := by have := of_decide_eq_true c; omega
    refine ⟨_, rfl, _, rfl, _, rfl, _, rfl, _, _, rfl, rfl, old, splitN size, tp, tv, ts, at' + 1, by omega, rfl, htp, hts, h0, ho0, c, b1, by omega, fun q1 u x p ys ps H1 x1 _ hq1 du dx hp dps lps mps => ?_⟩
    refine ⟨_, rfl, q1, _, 0, _, rfl, rfl, SqT.of hq1, rfl, _, rfl, q1, _, 1, _, rfl, rfl, SqT.of hq1, rfl, _, rfl, by show 3 ≤ sizeLine; decide, fun a1 na1 => ?_⟩
    have y1 := Ext.new (o := .tup [.str "pair", x, lv]) na1
    have h1 : upd H1 a1 (.tup [.str "pair", x, lv]) a1 = some (.tup [.str "pair", x, lv]) := upd_same
    generalize upd H1 a1 (.tup [.str "pair", x, lv]) = H2 at y1 h1 ⊢
    have d1 : DP H2 (.ref a1) (pairT (regT old (splitN size) ps).2 lt) := dp_sl (by decide +kernel) h1 (dx.mono y1.gr) (dlv.mono (x1.trans y1).gr)
    refine ⟨_, rfl, q1, _, 2, _, rfl, rfl, SqT.of (y1.tup hq1), rfl, _, rfl, by show 1 ≤ sizeLine; decide, fun a2 na2 => ?_⟩
    have y2 := Ext.new (o := .lst [lv]) na2
    have h2' : upd H2 a2 (.lst [lv]) a2 = some (.lst [lv]) := upd_same
    generalize upd H2 a2 (.lst [lv]) = H3 at y2 h2' ⊢
    have ypl := dps.len
    have pll : glen old (splitN size) ≤ k' + 1 := glen_le k' _ _ b1
    refine ⟨p, a2, _, _, rfl, rfl, (y1.trans y2).lst hp, h2', by show _ + 1 ≤ sizeLine; omega, fun a3 na3 => ⟨by show 3 ≤ sizeLine; decide, fun a4 na4 => ?_⟩⟩
    have y3 := Ext.new (o := .lst (ys ++ [lv])) na3
    have h3 : upd H3 a3 (.lst (ys ++ [lv])) a3 = some (.lst (ys ++ [lv])) := upd_same
    generalize upd H3 a3 (.lst (ys ++ [lv])) = H4 at y3 h3 na4 ⊢
    have y4 := Ext.new (o := .tup [u, .ref a1, .ref a3]) na4
    have yy := ((y1.trans y2).trans y3).trans y4
    refine q a4 u (.ref a1) a3 (ys ++ [lv]) (ps ++ [lt]) _ (x1.trans yy) ((x1.trans (y1.trans y2)).free na3) upd_same ?_ ?_ (y4.lst h3) ((dps.up yy).append (DenL.one ((dlv.mono x1.gr).mono yy.gr))) ?_ ?_
    · rw [regT_low ho0 (by omega) c, List.dropLast_concat]
      exact du.mono yy.gr
    · rw [regT_low ho0 (by omega) c, getLastD_concat, List.dropLast_concat]
      exact d1.mono ((y2.trans y3).trans y4).gr
    · rw [glen_low ho0 (by omega) c, List.length_append, lps]
      rfl
    · intro t ht
      rcases List.mem_append.mp ht with h | h
      · exact mps t h
      · rw [List.mem_singleton.mp h]
        exact hmem
  · have c : ¬ old ≤ splitN size := by
      intro z
      exact c (decide_eq_true (by omega))
    refine ⟨_, rfl, _, rfl, _, _, rfl, rfl, _, rfl, _, rfl, _, _, rfl, rfl, _, rfl, _, rfl, _, _, rfl, rfl, old - splitN size, size - splitN size, tp, tv, ts, at' + 1, by omega, by rw [show ((old - splitN size : Nat) : Int) = (old : Int) - (splitN size : Int) by omega, show ((size - splitN size : Nat) : Int) = (size : Int) - (splitN size : Int) by omega]; rfl, htp, hts, h0, by omega, by omega, b2, by omega, fun q1 u x p ys ps H1 x1 _ hq1 du dx hp dps lps mps => ?_⟩
    refine ⟨_, rfl, _, rfl, q1, _, 0, _, rfl, rfl, SqT.of hq1, rfl, by show 3 ≤ sizeLine; decide, fun a0 na0 => ?_⟩
    have y0 := Ext.new (o := .tup [.str "pair", lv, u]) na0
    have h0' : upd H1 a0 (.tup [.str "pair", lv, u]) a0 = some (.tup [.str "pair", lv, u]) := upd_same
    generalize upd H1 a0 (.tup [.str "pair", lv, u]) = H1' at y0 h0' ⊢
    have d0 : DP H1' (.ref a0) (pairT lt (regT (old - splitN size) (size - splitN size) ps).1) := dp_sl (by decide +kernel) h0' (dlv.mono (x1.trans y0).gr) (du.mono y0.gr)
    refine ⟨_, rfl, _, rfl, q1, _, 1, _, rfl, rfl, SqT.of (y0.tup hq1), rfl, by show 3 ≤ sizeLine; decide, fun a1 na1 => ?_⟩
    have y1 := Ext.new (o := .tup [.str "pair", lv, x]) na1
    have h1 : upd H1' a1 (.tup [.str "pair", lv, x]) a1 = some (.tup [.str "pair", lv, x]) := upd_same
    generalize upd H1' a1 (.tup [.str "pair", lv, x]) = H2 at y1 h1 ⊢
    have y01 := y0.trans y1
    have d1 : DP H2 (.ref a1) (pairT lt (regT (old - splitN size) (size - splitN size) ps).2) := dp_sl (by decide +kernel) h1 (dlv.mono (x1.trans y01).gr) (dx.mono y01.gr)
    refine ⟨_, rfl, q1, _, 2, _, rfl, rfl, SqT.of (y01.tup hq1), rfl, _, rfl, by show 1 ≤ sizeLine; decide, fun a2 na2 => ?_⟩
    have y2 := Ext.new (o := .lst [lv]) na2
    have h2' : upd H2 a2 (.lst [lv]) a2 = some (.lst [lv]) := upd_same
    generalize upd H2 a2 (.lst [lv]) = H3 at y2 h2' ⊢
    have ypl := dps.len
    have pll : glen (old - splitN size) (size - splitN size) ≤ k' + 1 := glen_le k' _ _ b2
    refine ⟨p, a2, _, _, rfl, rfl, (y01.trans y2).lst hp, h2', by show _ + 1 ≤ sizeLine; omega, fun a3 na3 => ⟨by show 3 ≤ sizeLine; decide, fun a4 na4 => ?_⟩⟩
    have y3 := Ext.new (o := .lst (ys ++ [lv])) na3
    have h3 : upd H3 a3 (.lst (ys ++ [lv])) a3 = some (.lst (ys ++ [lv])) := upd_same
    generalize upd H3 a3 (.lst (ys ++ [lv])) = H4 at y3 h3 na4 ⊢
    have y4 := Ext.new (o := .tup [.ref a0, .ref a1, .ref a3]) na4
    have yy := ((y01.trans y2).trans y3).trans y4
    refine q a4 (.ref a0) (.ref a1) a3 (ys ++ [lv]) (ps ++ [lt]) _ (x1.trans yy) ((x1.trans (y01.trans y2)).free na3) upd_same ?_ ?_ (y4.lst h3) ((dps.up yy).append (DenL.one ((dlv.mono x1.gr).mono yy.gr))) ?_ ?_
    · rw [regT_high ho0 (by omega) c, getLastD_concat, List.dropLast_concat]
      exact d0.mono (((y1.trans y2).trans y3).trans y4).gr
    · rw [regT_high ho0 (by omega) c, getLastD_concat, List.dropLast_concat]
      exact d1.mono ((y2.trans y3).trans y4).gr
    · rw [glen_high ho0 (by omega) c, List.length_append, lps]
      rfl
    · intro t ht
      rcases List.mem_append.mp ht with h | h
      · exact mps t h
      · rw [List.mem_singleton.mp h]
        exact hmem
theorem ok_lregr {cc : Addr} (T : Txt K mg cc) : ∀ k : Nat, k ≤ 500 → Cal P w K mg base (k + 1) "_law_regrown" (spRegr14 k) []
  | 0, _ => by
    obtain ⟨f, fd, ps, ds, F, m, kp, b, v⟩ := (cal_no (P := P) (w := w) (base := base) T.d__law_regrown 1).ex
    exact ⟨f, fd, ps, ds, F.imp fun vs H Q E h => by obtain ⟨_, _, _, _, _, _, z, _⟩ := h; exact absurd rfl z, m, kp, b, v⟩
  | k + 1, h => ok_lregr1 T (by omega) (ok_lregr T k (by omega))
end

section
variable {P : Program} {w : World} {K : PySem.W.Frag} {mg : Str → Option Value} {base : Heap} {CS : Addr}
/-- a top laid by hand, and its path -/
def Laid (H : Hp) (D : Addr) (place size : Nat) (L : Tm) (q : Addr) (ps : List Tm) : Prop := ∃ u p ys, p ≠ D ∧ H q = some (.tup [u, .ref p]) ∧ DP H u (riseT L (sidesT place size ps)) ∧ H p = some (.lst ys) ∧ DenL S0P H ys ps ∧ ps.length = plen place size ∧ ∀ t ∈ ps, t.dep ≤ 2
theorem Laid.ext {H H' : Hp} {D : Addr} {place size : Nat} {L : Tm} {q : Addr} {ps : List Tm} (h : Laid H D place size L q ps) (x : Ext H H') : Laid H' D place size L q ps := by
  obtain ⟨u, p, ys, h0, h1, h2, h3, h4, h5, h6⟩ := h
  exact ⟨u, p, ys, h0, x.tup h1, h2.mono x.gr, x.lst h3, h4.up x, h5, h6⟩
def ents : List (Str × Int) := [("a", 0), ("a", 1), ("b", 0), ("", 1)]
def leafE (e : Str × Int) : Tm := .sl "leaf" (.str e.1) (.int e.2)
theorem ents_one {i : Nat} {e : Str × Int} (he : ents[i]? = some e) (h : leafE e = leafE ("a", 0)) : i = 0 := by
  have h2 := (Tm.sl.inj h).2
  have e1 := Tm.str.inj h2.1
  have e2 := Tm.int.inj h2.2
  match i, he with
  | 0, _ => rfl
  | 1, he => cases he; exact absurd e2 (by decide)
  | 2, he => cases he; exact absurd e1 (by decide +kernel)
  | 3, he => cases he; exact absurd e2 (by decide)
  | i + 4, he => simp [ents] at he
structure EntL (H : Hp) (vs : List V) : Prop where
  len : vs.length = ents.length
  at_ : ∀ (i : Nat) (v : V) (e : Str × Int), vs[i]? = some v → ents[i]? = some e → ∃ q, v = .ref q ∧ H q = some (.tup [.str e.1, .int e.2]) ∧ txtOk e.1 = true
theorem EntL.ext {H H' : Hp} {vs : List V} (h : EntL H vs) (x : Ext H H') : EntL H' vs := ⟨h.len, fun i v e a b => by obtain ⟨q, h1, h2, h3⟩ := h.at_ i v e a b; exact ⟨q, h1, x.tup h2, h3⟩⟩
theorem inV_true : ∀ bs : List Bool, inV (.bl true) (bs.map V.bl) = true → true ∈ bs
  | [], h => by cases h
  | true :: bs, _ => List.mem_cons_self
  | false :: bs, h => by
    refine List.mem_cons_of_mem _ (inV_true bs ?_)
    have h : (eqV (.bl false) (.bl true) || inV (.bl true) (bs.map V.bl)) = true := h
    have e : eqV (.bl false) (.bl true) = false := by decide +kernel
    rw [e, Bool.false_or] at h
    exact h
theorem flat_bl : ∀ bs : List Bool, (bs.map V.bl).all flatV = true
  | [] => rfl
  | _ :: bs => flat_bl bs
def spTrue1 : Sp := fun vs H Q _ => ∃ c : Int, vs = [.int c] ∧ ∀ H', Ext H H' → Q (.bl true) H'
theorem ok_lstands {cc fS : Addr} (T : Txt K mg cc) (mS : mg "_law_seal" = some (.ref fS)) (KS : K_Stands K mg CS) : Cal P w K mg base 12 "_law_stands" spTrue1 [] := by
  have Z := T.Z
  have A := sla1 (P := P) (w := w) (base := base) T
  have C__law_draw := ok_draw (P := P) (w := w) (base := base) T
  have C__law_some := ok_some (P := P) (w := w) (base := base) T
  have C__law_risen := ok_lrisen (P := P) (w := w) (base := base) T 6 (by decide)
  have C_Stands := ok_stinit (P := P) (w := w) (base := base) KS
  have M_judged := ok_judgedS T A (fun {S} h => inj1 h) KS
  refine cal_of T.d__law_stands sc__law_stands (fun vs H Q E h => ?_) (fun f cdv A' outer s H vs Q E hr h => ?_)
  · obtain ⟨c, rfl, _⟩ := h
    rfl
  obtain ⟨c, rfl, q⟩ := h
  have e16 : sizeLine = 16777216 := sizeLine_eq
  refine ⟨_, (pss_cons (ps_set (i := 1) sc__law_stands.nd rfl (Or.inr rfl) (pe_op op_add pe_int (pe_c C__law_draw hr (by omega) rfl (pa_cons (pv 0) (pa_cons pe_int (pa_cons pe_int pa_nil))))))
  (pss_cons (ps_set (i := 2) sc__law_stands.nd rfl (Or.inr rfl) (pe_c C__law_draw hr (by omega) rfl (pa_cons (pv 0) (pa_cons pe_int (pa_cons (pv 1) pa_nil)))))
  (pss_cons (ps_set (i := 3) sc__law_stands.nd rfl (Or.inr rfl) (pe_lst (pa_cons (pe_tup (pa_cons pe_str (pa_cons pe_int pa_nil))) (pa_cons (pe_tup (pa_cons pe_str (pa_cons pe_int pa_nil))) (pa_cons (pe_tup (pa_cons pe_str (pa_cons pe_int pa_nil))) (pa_cons (pe_tup (pa_cons pe_str (pa_cons pe_int pa_nil))) pa_nil))))))
  (pss_cons (ps_set (i := 4) sc__law_stands.nd rfl (Or.inr rfl) (pe_lc (own := [("_law_k", 10)]) (g := gName 10) (tt := tYes) rfl sc__law_stands.nd (pi_range1 rfl Z.range (pa_cons pe_int pa_nil)) (blkOk_by (N := N__law_stands) (sc := defScope s__law_stands) (by decide +kernel)) (fun _ _ _ _ _ => (pg_name (i := 10) sc__law_stands.nd rfl (Or.inl rfl))) (fun _ _ _ _ _ => pts_nil) (fun _ _ _ _ _ => (pe_c C__law_some hr (by omega) rfl (pa_cons (pe_op op_add (pv 0) (pv 10)) (pa_cons pe_int pa_nil))))))
  (pss_cons (ps_setLc (i := 5) (own := [("_law_k", 10)]) (g := gName 10) (tt := tYes) rfl sc__law_stands.nd rfl rfl (sw_true rfl rfl rfl (by decide +kernel)) (pi_range1 rfl Z.range (pa_cons pe_int pa_nil)) (blkOk_by (N := N__law_stands) (sc := defScope s__law_stands) (by decide +kernel)) (fun _ _ _ _ _ => (pg_name (i := 10) sc__law_stands.nd rfl (Or.inl rfl))) (fun _ _ _ _ _ => pts_nil) (fun _ _ _ _ _ => (pe_c C__law_risen hr (by omega) rfl (pa_cons (pe_tup (pa_cons pe_str (pa_cons (pe_ix (r := rIxT K) ix_tup (pe_ix (r := rIxL K) ix_list (pv 3) (pv 10) (fun _ _ => rfl)) pe_int (fun _ _ => rfl)) (pa_cons (pe_ix (r := rIxT K) ix_tup (pe_ix (r := rIxL K) ix_list (pv 3) (pv 10) (fun _ _ => rfl)) pe_int (fun _ _ => rfl)) pa_nil)))) (pa_cons (pv 2) (pa_cons (pv 1) (pa_cons (pv 4) (pa_cons (pv 10) pa_nil))))))))
  (pss_cons (ps_set (i := 6) sc__law_stands.nd rfl (Or.inr rfl) (pe_tup (pa_cons pe_str (pa_cons (pv 1) (pa_cons (pe_ix ix_tup (pe_ix ix_list (pv 5) pe_int (fun _ _ => rfl)) pe_int (fun _ _ => rfl)) pa_nil)))))
  (pss_cons (ps_set (i := 7) sc__law_stands.nd rfl (Or.inl rfl) (pe_lst pa_nil))
  (pss_cons (ps_for PassesOwn.never rfl (pi_list (pv 3)) (pg_name (i := 8) sc__law_stands.nd rfl (Or.inl rfl)) (pss_cons (ps_set (i := 9) sc__law_stands.nd rfl (Or.inr rfl) (pe_mk C_Stands hr (by omega) rfl (pa_cons (pv 2) (pa_cons (pe_ix ix_tup (pv 8) pe_int (fun _ _ => rfl)) (pa_cons (pe_ix ix_tup (pv 8) pe_int (fun _ _ => rfl)) pa_nil)))))
  (pss_one (ps_if (pt_cmpR op_in_seq pe_bl (pe_lc (own := [("_law_one", 11)]) (g := gName 11) (tt := tYes) rfl sc__law_stands.nd (pi_list (pv 5)) (blkOk_by (N := N__law_stands) (sc := defScope s__law_stands) (by decide +kernel)) (fun _ _ _ _ _ => (pg_name (i := 11) sc__law_stands.nd rfl (Or.inl rfl))) (fun _ _ _ _ _ => pts_nil) (fun _ _ _ _ _ => (pe_mt M_judged hr (by omega) (pv 9) (pa_cons (pe_glob (v := .ref fS) rfl mS rfl) (pa_cons (pv 1) (pa_cons (pv 6) (pa_cons (pe_callTy (show CallR _ (.type "list") (rListOf K) from call_list_of) rfl Z.list (by decide +kernel) (pa_cons (pe_ix (r := rIxT K) ix_tup (pv 11) pe_int (fun _ _ => rfl)) pa_nil)) pa_nil))))))) (by rfl)) (pss_one (ps_expr (pe_bm PySem.F.plainAttrs_list PySem.F.slot_list_append PySem.F.type_list_append mt_append (pv 7) (pa_cons (pv 8) pa_nil)))) pss_nil))))
  (pss_one (ps_ret (pe_cmpR op_lt (pe_callB call_len_seq rfl Z.len PySem.boot_len (pa_cons (pv 7) pa_nil)) pe_int (nomark _)))))))))))), ?_⟩
  have hF : Fam1 mg (plainSys tfP fS) := ⟨fS, mS, rfl⟩
  have G := A.good hF
  refine ⟨_, rfl, _, _, _, rfl, by decide, by decide, by decide, fun z1 H1 z10 z11 s1 => ⟨_, _, rfl, rfl, ?_⟩⟩
  obtain ⟨size, hsize, sz0, sz1⟩ : ∃ size : Nat, (1 : Int) + z1 = (size : Int) ∧ 0 < size ∧ size ≤ 20 := ⟨(1 + z1).toNat, by omega, by omega, by omega⟩
  show gName 1 (V.int (1 + z1)) _ _ _
  rw [hsize]
  clear hsize z10 z11
  refine ⟨_, rfl, _, rfl, _, _, _, rfl, by decide, by decide, by omega, fun z2 H2 z20 z21 s2 => ?_⟩
  obtain ⟨place, rfl⟩ := Int.eq_ofNat_of_zero_le z20
  have hpl : place < size := by omega
  have x2 := Ext.of_same (s1.trans s2)
  -- the entries
  refine ⟨by show 2 ≤ sizeLine; decide, fun e0 n0 => ?_⟩
  have y0 := Ext.new (o := .tup [.str "a", .int 0]) n0
  have h0 : upd H2 e0 (.tup [.str "a", .int 0]) e0 = some (.tup [.str "a", .int 0]) := upd_same
  generalize upd H2 e0 (.tup [.str "a", .int 0]) = Ha at y0 h0 ⊢
  refine ⟨by show 2 ≤ sizeLine; decide, fun e1 n1 => ?_⟩
  have y1 := Ext.new (o := .tup [.str "a", .int 1]) n1
  have h1 : upd Ha e1 (.tup [.str "a", .int 1]) e1 = some (.tup [.str "a", .int 1]) := upd_same
  generalize upd Ha e1 (.tup [.str "a", .int 1]) = Hb at y1 h1 ⊢
  refine ⟨by show 2 ≤ sizeLine; decide, fun e2 n2 => ?_⟩
  have y2 := Ext.new (o := .tup [.str "b", .int 0]) n2
  have h2 : upd Hb e2 (.tup [.str "b", .int 0]) e2 = some (.tup [.str "b", .int 0]) := upd_same
  generalize upd Hb e2 (.tup [.str "b", .int 0]) = Hc at y2 h2 ⊢
  refine ⟨by show 2 ≤ sizeLine; decide, fun e3 n3 => ?_⟩
  have y3 := Ext.new (o := .tup [.str "", .int 1]) n3
  have h3 : upd Hc e3 (.tup [.str "", .int 1]) e3 = some (.tup [.str "", .int 1]) := upd_same
  generalize upd Hc e3 (.tup [.str "", .int 1]) = Hd at y3 h3 ⊢
  refine ⟨by show 4 ≤ sizeLine; decide, fun EL nEL => ?_⟩
  have y4 := Ext.new (o := .lst [.ref e0, .ref e1, .ref e2, .ref e3]) nEL
  have hEL : upd Hd EL (.lst [.ref e0, .ref e1, .ref e2, .ref e3]) EL = some (.lst [.ref e0, .ref e1, .ref e2, .ref e3]) := upd_same
  generalize upd Hd EL (.lst [.ref e0, .ref e1, .ref e2, .ref e3]) = H3 at y4 hEL ⊢
  have hents : EntL H3 [.ref e0, .ref e1, .ref e2, .ref e3] := by
    refine ⟨rfl, fun i v e a b => ?_⟩
    match i, a, b with
    | 0, a, b => cases a; cases b; exact ⟨e0, rfl, y4.tup (y3.tup (y2.tup (y1.tup h0))), by decide +kernel⟩
    | 1, a, b => cases a; cases b; exact ⟨e1, rfl, y4.tup (y3.tup (y2.tup h1)), by decide +kernel⟩
    | 2, a, b => cases a; cases b; exact ⟨e2, rfl, y4.tup (y3.tup h2), by decide +kernel⟩
    | 3, a, b => cases a; cases b; exact ⟨e3, rfl, y4.tup h3, by decide +kernel⟩
    | i + 4, a, b => simp at a
  have x3 := ((((x2.trans y0).trans y1).trans y2).trans y3).trans y4
  generalize ([.ref e0, .ref e1, .ref e2, .ref e3] : List V) = ev at hEL hents
  clear h0 h1 h2 h3 y0 y1 y2 y3 y4
  have hevl := hents.len
  -- the tops
  refine ⟨3, rfl, by omega, by omega, fun TP nTP => ?_⟩
  refine lc_range (fun i H' => ∃ (tv : List V) (ts : List Tm), ts.length = i ∧ Ext H3 H' ∧ H' TP = some (.lst tv) ∧ DenL S0P H' tv ts ∧ ∀ t ∈ ts, t.dep ≤ 2) ⟨[], [], rfl, Ext.new nTP, upd_same, DenL.nil, fun t h => nomatch h⟩ ?_ ?_
  · rintro i H' hi ⟨tv, ts, rfl, x, hTP, hd, hdp⟩
    refine ⟨rfl, _, rfl, _, rfl, _, _, rfl, rfl, _, 2, rfl, by decide, fun v t H4 x4 dv dd => ?_⟩
    have hTP4 := x4.lst hTP
    have hl := hd.len
    have hi3 : ts.length < 3 := hi
    refine ⟨tv, hTP4, by omega, tv ++ [v], ts ++ [t], by simp, (x.trans x4).mut nTP, upd_same, ?_, fun u hu => ?_⟩
    · have k4 := (Kp.lst (o := .lst (tv ++ [v])) hTP4).gr
      exact (⟨(hd.up x4).len, fun i v t a b => ((hd.up x4).at_ i v t a b).mono k4⟩ : DenL S0P _ tv ts).append (DenL.one (dv.mono k4))
    · rcases List.mem_append.mp hu with h | h
      · exact hdp u h
      · rw [List.mem_singleton.mp h]
        exact dd
  rintro H4 ⟨tv, ts, htl, x4, hTP, hts, hdp⟩
  have htl : ts.length = 3 := htl
  have hents4 := hents.ext x4
  have hEL4 := x4.lst hEL
  -- two laid
  refine ⟨2, rfl, by omega, by omega, fun LD nLD => ?_⟩
  refine lc_range (fun i H' => ∃ (qs : List Addr), qs.length = i ∧ Ext H4 H' ∧ H' LD = some (.lst (qs.map V.ref)) ∧ ∀ j q, qs[j]? = some q → ∃ e ps, ents[j]? = some e ∧ Laid H' LD place size (leafE e) q ps) ⟨[], rfl, Ext.new nLD, upd_same, fun j q h => by rw [List.getElem?_nil] at h; cases h⟩ ?_ ?_
  · rintro i H' hi ⟨qs, rfl, x, hLD, hla⟩
    have hi2 : qs.length < 2 := hi
    have hTP' := x.lst hTP
    have hEL' := x.lst hEL4
    have hen' := hents4.ext x
    have hts' := hts.up x
    obtain ⟨e, he⟩ : ∃ e, ents[qs.length]? = some e := ⟨ents[qs.length]'(by show _ < 4; omega), List.getElem?_eq_getElem _⟩
    have hev : ev[qs.length]? = some (ev[qs.length]'(by rw [hevl]; show _ < 4; omega)) := List.getElem?_eq_getElem _
    obtain ⟨qe, eq, hqe, htx⟩ := hen'.at_ _ _ _ hev he
    rw [eq] at hev
    refine ⟨rfl, ?_⟩
    rw [Int.zero_add]
    refine ⟨_, rfl, _, rfl, EL, ev, _, .ref qe, rfl, rfl, SqL.of hEL', atI_nat hev, qe, _, 0, _, rfl, rfl, SqT.of hqe, rfl, _, rfl, _, rfl, EL, ev, _, .ref qe, rfl, rfl, SqL.of hEL', atI_nat hev, qe, _, 1, _, rfl, rfl, SqT.of hqe, rfl, by show 3 ≤ sizeLine; decide, fun lq nlq => ?_⟩
    have u1 := Ext.new (o := .tup [.str "leaf", .str e.1, .int e.2]) nlq
    have hlq : upd H' lq (.tup [.str "leaf", .str e.1, .int e.2]) lq = some (.tup [.str "leaf", .str e.1, .int e.2]) := upd_same
    generalize upd H' lq (.tup [.str "leaf", .str e.1, .int e.2]) = H'' at u1 hlq ⊢
    refine ⟨_, rfl, _, rfl, _, rfl, _, rfl, .ref lq, leafE e, place, size, TP, tv, ts, qs.length, by decide, rfl, dp_sl (by decide +kernel) hlq (.str _ htx) (.int _), u1.lst hTP', hts'.up u1, by omega, hpl, by show size ≤ 2 ^ 5; omega, by omega, fun q1 u p ys ps H6 x6 fp hq1 du hp dps lps mps => ?_⟩
    have x26 := u1.trans x6
    have hLD6 := x26.lst hLD
    have m6 := (Ext.refl H4)
    refine ⟨qs.map V.ref, hLD6, by rw [List.length_map]; omega, qs ++ [q1], by simp, (x.trans x26).mut nLD, by rw [upd_same, List.map_append]; rfl, fun j q hj => ?_⟩
    have kx : ∀ {e : Str × Int} {ps : List Tm} {q : Addr}, Laid H6 LD place size (leafE e) q ps → Laid (upd H6 LD (.lst (qs.map V.ref ++ [.ref q1]))) LD place size (leafE e) q ps := fun {e ps q} h => by
      obtain ⟨u', p', ys', np, g1, g2, g3, g4, g5, g6⟩ := h
      have kg := (Kp.lst (o := .lst (qs.map V.ref ++ [.ref q1])) hLD6).gr
      exact ⟨u', p', ys', np, by rw [upd_ne (fun z => by rw [z, hLD6] at g1; cases g1)]; exact g1, g2.mono kg, by rw [upd_ne np]; exact g3, ⟨g4.len, fun i v t a b => (g4.at_ i v t a b).mono kg⟩, g5, g6⟩
    by_cases cj : j < qs.length
    · rw [List.getElem?_append_left cj] at hj
      obtain ⟨e', ps', a1, a2⟩ := hla j q hj
      exact ⟨e', ps', a1, kx (a2.ext x26)⟩
    · rw [List.getElem?_append_right (by omega)] at hj
      cases hjj : j - qs.length with
      | zero =>
        rw [hjj] at hj
        cases hj
        obtain rfl : j = qs.length := by omega
        exact ⟨e, ps, he, kx ⟨u, p, ys, (ne_of_none (u1.lst hLD) fp).symm, hq1, du, hp, dps, lps, fun t ht => hdp t (mps t ht)⟩⟩
      | succ n =>
        rw [hjj] at hj
        simp at hj
  rintro H5 ⟨qs, hql, x5, hLD, hla⟩
  have hql : qs.length = 2 := hql
  obtain ⟨q0, hq0⟩ : ∃ q0, qs[0]? = some q0 := ⟨qs[0]'(by omega), List.getElem?_eq_getElem _⟩
  obtain ⟨e0', ps0, he0, la0⟩ := hla 0 q0 hq0
  obtain rfl : (("a" : Str), (0 : Int)) = e0' := Option.some.inj (show some (("a" : Str), (0 : Int)) = some e0' from he0)
  obtain ⟨u0, p0, ys0, np0, hq0', du0, _, _, lps0, dps0⟩ := id la0
  -- the head
  refine ⟨_, rfl, _, rfl, LD, _, _, .ref q0, rfl, rfl, SqL.of hLD, (by rw [show (0 : Int) = ((0 : Nat) : Int) from rfl]; exact atI_nat (by rw [List.getElem?_map, hq0]; rfl)), q0, _, 0, _, rfl, rfl, SqT.of hq0', rfl, by show 3 ≤ sizeLine; decide, fun hd nhd => ?_⟩
  have v1 := Ext.new (o := .tup [.str "book", .int (size : Int), u0]) nhd
  have hhd : upd H5 hd (.tup [.str "book", .int (size : Int), u0]) hd = some (.tup [.str "book", .int (size : Int), u0]) := upd_same
  generalize upd H5 hd (.tup [.str "book", .int (size : Int), u0]) = H6 at v1 hhd ⊢
  have dhd : DP H6 (.ref hd) (.sl "book" (.int (size : Int)) (riseT (leafE ("a", 0)) (sidesT place size ps0))) := dp_sl (by decide +kernel) hhd (.int _) (du0.mono v1.gr)
  have hLD6 := v1.lst hLD
  have hla6 : ∀ j q, qs[j]? = some q → ∃ e ps, ents[j]? = some e ∧ Laid H6 LD place size (leafE e) q ps := fun j q h => by
    obtain ⟨e, ps, a, b⟩ := hla j q h
    exact ⟨e, ps, a, b.ext v1⟩
  have hen6 := hents4.ext (x5.trans v1)
  have hEL6 := (x5.trans v1).lst hEL4
  clear hents4 hents hEL hEL4 hTP hts
  have rlen : (riseT (leafE ("a", 0)) (sidesT place size ps0)).dep ≤ 40 := by
    have l0 : (leafE ("a", 0)).dep ≤ 28 := by decide
    have := riseT_dep (n := 28) (ss := sidesT place size ps0) l0 (fun s hs => Nat.le_trans (dps0 _ (sidesT_mem lps0 s hs)) (by decide))
    rw [sidesT_len] at this
    have pl5 : plen place size ≤ 5 := plen_le 5 _ _ (by show size ≤ 32; omega)
    omega
  -- none shown yet
  refine ⟨by show 0 ≤ sizeLine; decide, fun SH nSH => ?_⟩
  refine ⟨_, rfl, EL, rfl, ⟨_, SqL.of ((Ext.new nSH).lst hEL6)⟩, for_list (K := K) (a := EL) (xs := ev) (fun i σ H' => ∃ (y8 y9 : Option V) (sv : List V), σ = [some (.int c), some (.int (size : Int)), some (.int (place : Int)), some (.ref EL), some (.ref TP), some (.ref LD), some (.ref hd), some (.ref SH), y8, y9, none, none] ∧ Ext H6 H' ∧ H' SH = some (.lst sv) ∧ sv.length ≤ 1 ∧ (i = 0 → sv = [])) ⟨none, none, [], rfl, Ext.new nSH, upd_same, by decide, fun _ => rfl⟩ (fun i σ H' _ ⟨_, _, _, _, x, _⟩ => SqL.of (x.lst hEL6)) ?_ ?_⟩
  · rintro i e' σ H7 hi ⟨y8, y9, sv, rfl, x7, hSH, hsv, hsv0⟩
    obtain ⟨e, he⟩ : ∃ e, ents[i]? = some e := by
      have hi' := (List.getElem?_eq_some_iff.mp hi).1
      exact ⟨ents[i]'(by omega), List.getElem?_eq_getElem _⟩
    obtain ⟨qe, eq, hqe, htx⟩ := hen6.at_ _ _ _ hi he
    subst eq
    have hqe7 := x7.tup hqe
    refine ⟨_, rfl, _, rfl, qe, _, 0, _, rfl, rfl, SqT.of hqe7, rfl, _, rfl, qe, _, 1, _, rfl, rfl, SqT.of hqe7, rfl, fun cp dx ncp ndx nex => ?_⟩
    have y1 : Ext H7 (upd (upd H7 dx (.own cp)) cp (.ins CS dx [])) := (Ext.new ndx).trans (Ext.new (by rw [upd_ne nex.symm]; exact ncp))
    refine ⟨cp, dx, (place : Int), e.1, .int e.2, rfl, upd_same, fun H8 xo kp hst => ⟨rfl, ?_⟩⟩
    have x8' := xo.ext y1 ncp
    have x8 := x7.trans x8'
    have hLD8 := x8.lst hLD6
    refine ⟨_, rfl, LD, rfl, ⟨_, SqL.of hLD8⟩, fun D2 nD2 => ?_⟩
    refine lc_list (K := K) (xs := qs.map V.ref) (fun j H' => ∃ (bs : List Bool), bs.length = j ∧ Ext H8 H' ∧ H' D2 = some (.lst (bs.map V.bl)) ∧ (true ∈ bs → leafE e = leafE ("a", 0))) ⟨[], rfl, Ext.new nD2, upd_same, fun h => nomatch h⟩ (fun j H' _ ⟨_, _, x, _⟩ => SqL.of (x.lst hLD8)) ?_ ?_
    · rintro j v H' hj ⟨bs, rfl, x, hD2, hbs⟩
      rw [List.getElem?_map] at hj
      obtain ⟨q1, hq1, rfl⟩ := Option.map_eq_some_iff.mp hj
      obtain ⟨e1, ps1, _, la1⟩ := hla6 _ _ hq1
      have x68 := x8.trans x
      obtain ⟨u1, p1, ys1, np1, t1, _, hp1, dy1, lp1, dp1⟩ := la1.ext x68
      have hst' := x.ins hst
      have jl : bs.length < 2 := by
        have := (List.getElem?_eq_some_iff.mp hq1).1
        omega
      refine ⟨rfl, ?_⟩
      refine ⟨_, rfl, cp, dx, _, rfl, hst', (stF_no _ _ _).1, _, rfl, _, rfl, _, rfl, q1, _, 1, _, rfl, rfl, SqT.of t1, rfl, p1, ys1, rfl, .inl (SqL.of hp1), fun l nl => ?_⟩
      have w1 := Ext.new (o := .lst ys1) nl
      have hl : upd H' l (.lst ys1) l = some (.lst ys1) := upd_same
      generalize upd H' l (.lst ys1) = Hn at w1 hl ⊢
      have pl1 : plen place size ≤ 5 := plen_le 5 _ _ (by show size ≤ 32; omega)
      refine ⟨plainSys tfP fS, cp, dx, (place : Int), e.1, .int e.2, .int e.2, size, (size : Int), riseT (leafE ("a", 0)) (sidesT place size ps0), .ref hd, .ref l, some ps1, 0, hF, rfl, w1.ins hst', htx, .int _, WS.any _, by show 0 ≤ 18; decide, by omega, dhd.mono (x68.trans w1).gr, WS.any _, rlen, ⟨l, ys1, rfl, hl, ⟨(dy1.up w1).len, (dy1.up w1).at_⟩, by omega, fun t ht => ⟨WS.any _, Nat.le_trans (dp1 t ht) (by decide)⟩⟩, True.intro, fun Hf xf _ => ?_⟩
      have xw := w1.trans xf
      refine ⟨_, xw.lst hD2, by rw [List.length_map]; omega, bs ++ [_], by rw [List.length_append]; rfl, (x.trans xw).mut nD2, by rw [upd_same, List.map_append]; rfl, fun hm => ?_⟩
      rcases List.mem_append.mp hm with h | h
      · exact hbs h
      · have h := List.mem_singleton.mp h
        have h := (of_decide_eq_true h.symm).2.2
        rw [Int.toNat_natCast] at h
        exact (rise_one _ _ size place ps1 ps0 hpl h.1 lps0 (Tm.sl.inj h.2).2.2).1
    rintro H9 ⟨bs, hbl, x9, hD2, hbs⟩
    have hSH9 := (x8'.trans x9).lst hSH
    refine ⟨D2, bs.map V.bl, rfl, .inl (SqL.of hD2), rfl, flat_bl bs, _, rfl, ite2 (fun ct => ?_) (fun ct => ?_)⟩
    · have it := ents_one he (hbs (inV_true bs ct))
      have sv0 := hsv0 it
      subst sv0
      refine ⟨_, rfl, .inl ⟨rfl, _, SqL.of hSH9⟩, _, rfl, SH, [], .ref qe, rfl, rfl, hSH9, (by show 0 < sizeLine; omega), ?_⟩
      exact ⟨some (.ref qe), some (.ref cp), [.ref qe], rfl, (x7.trans (x8'.trans x9)).mut nSH, upd_same, Nat.le_refl 1, fun z => nomatch z⟩
    · exact ⟨some (.ref qe), some (.ref cp), sv, rfl, x7.trans (x8'.trans x9), hSH9, hsv, fun z => nomatch z⟩
  · rintro σ H8 ⟨y8, y9, sv, rfl, x, hSH, hsv, _⟩
    refine ⟨_, rfl, SH, sv, rfl, .inl (SqL.of hSH), _, _, rfl, rfl, ?_⟩
    show Q (.bl (decide ((sv.length : Int) < 2))) H8
    rw [decide_eq_true (by omega)]
    exact q H8 (((x3.trans x4).trans x5).trans (v1.trans x))
end

section
variable {P : Program} {w : World} {K : PySem.W.Frag} {mg : Str → Option Value} {base : Heap} {CG : Addr}
/-- two tops laid by hand, and a growth -/
def LaidG (H : Hp) (D : Addr) (old size : Nat) (q : Addr) (ps : List Tm) : Prop := ∃ u x p ys, p ≠ D ∧ H q = some (.tup [u, x, .ref p]) ∧ DP H u (regT old size ps).1 ∧ DP H x (regT old size ps).2 ∧ H p = some (.lst ys) ∧ DenL S0P H ys ps ∧ ps.length = glen old size ∧ ∀ t ∈ ps, t.dep ≤ 2
theorem LaidG.ext {H H' : Hp} {D : Addr} {old size : Nat} {q : Addr} {ps : List Tm} (h : LaidG H D old size q ps) (e : Ext H H') : LaidG H' D old size q ps := by
  obtain ⟨u, x, p, ys, h0, h1, h2, h2', h3, h4, h5, h6⟩ := h
  exact ⟨u, x, p, ys, h0, e.tup h1, h2.mono e.gr, h2'.mono e.gr, e.lst h3, h4.up e, h5, h6⟩
theorem ok_lgrows {cc fS : Addr} (T : Txt K mg cc) (mS : mg "_law_seal" = some (.ref fS)) (KG : K_Grows K mg CG) : Cal P w K mg base 12 "_law_grows" spTrue1 [] := by
  have Z := T.Z
  have A := sla1 (P := P) (w := w) (base := base) T
  have C__law_draw := ok_draw (P := P) (w := w) (base := base) T
  have C__law_some := ok_some (P := P) (w := w) (base := base) T
  have C__law_regrown := ok_lregr (P := P) (w := w) (base := base) T 6 (by decide)
  have C_Grows := ok_grinit (P := P) (w := w) (base := base) KG
  have M_judged := ok_judgedG T A (fun {S} h => inj1 h) KG
  refine cal_of T.d__law_grows sc__law_grows (fun vs H Q E h => ?_) (fun f cdv A' outer s H vs Q E hr h => ?_)
  · obtain ⟨c, rfl, _⟩ := h
    rfl
  obtain ⟨c, rfl, q⟩ := h
  have e16 : sizeLine = 16777216 := sizeLine_eq
  refine ⟨_, (pss_cons (ps_set (i := 1) sc__law_grows.nd rfl (Or.inr rfl) (pe_op op_add pe_int (pe_c C__law_draw hr (by omega) rfl (pa_cons (pv 0) (pa_cons pe_int (pa_cons pe_int pa_nil))))))
  (pss_cons (ps_set (i := 2) sc__law_grows.nd rfl (Or.inr rfl) (pe_op op_add pe_int (pe_c C__law_draw hr (by omega) rfl (pa_cons (pv 0) (pa_cons pe_int (pa_cons (pv 1) pa_nil))))))
  (pss_cons (ps_set (i := 3) sc__law_grows.nd rfl (Or.inr rfl) (pe_lc (own := [("_law_k", 8)]) (g := gName 8) (tt := tYes) rfl sc__law_grows.nd (pi_range1 rfl Z.range (pa_cons pe_int pa_nil)) (blkOk_by (N := N__law_grows) (sc := defScope s__law_grows) (by decide +kernel)) (fun _ _ _ _ _ => (pg_name (i := 8) sc__law_grows.nd rfl (Or.inl rfl))) (fun _ _ _ _ _ => pts_nil) (fun _ _ _ _ _ => (pe_c C__law_some hr (by omega) rfl (pa_cons (pe_op op_add (pv 0) (pv 8)) (pa_cons pe_int pa_nil))))))
  (pss_cons (ps_setLc (i := 4) (own := [("_law_k", 8)]) (g := gName 8) (tt := tYes) rfl sc__law_grows.nd rfl rfl (sw_true rfl rfl rfl (by decide +kernel)) (pi_range1 rfl Z.range (pa_cons pe_int pa_nil)) (blkOk_by (N := N__law_grows) (sc := defScope s__law_grows) (by decide +kernel)) (fun _ _ _ _ _ => (pg_name (i := 8) sc__law_grows.nd rfl (Or.inl rfl))) (fun _ _ _ _ _ => pts_nil) (fun _ _ _ _ _ => (pe_c C__law_regrown hr (by omega) rfl (pa_cons (pv 2) (pa_cons (pv 1) (pa_cons (pv 3) (pa_cons (pv 8) pa_nil)))))))
  (pss_cons (ps_set (i := 5) sc__law_grows.nd rfl (Or.inr rfl) (pe_tup (pa_cons pe_str (pa_cons (pv 1) (pa_cons (pe_ix ix_tup (pe_ix ix_list (pv 4) pe_int (fun _ _ => rfl)) pe_int (fun _ _ => rfl)) pa_nil)))))
  (pss_cons (ps_set (i := 6) sc__law_grows.nd rfl (Or.inr rfl) (pe_lst pa_nil))
  (pss_cons (ps_for PassesOwn.never rfl (pi_list (pe_op op_cat (pe_lc (own := [("_law_one", 9)]) (g := gName 9) (tt := tYes) rfl sc__law_grows.nd (pi_list (pv 4)) (blkOk_by (N := N__law_grows) (sc := defScope s__law_grows) (by decide +kernel)) (fun _ _ _ _ _ => (pg_name (i := 9) sc__law_grows.nd rfl (Or.inl rfl))) (fun _ _ _ _ _ => pts_nil) (fun _ _ _ _ _ => (pe_tup (pa_cons pe_str (pa_cons (pv 2) (pa_cons (pe_ix (r := rIxT K) ix_tup (pv 9) pe_int (fun _ _ => rfl)) pa_nil)))))) (pe_lst (pa_cons (pe_tup (pa_cons pe_str (pa_cons (pv 2) (pa_cons (pe_tup (pa_cons pe_str (pa_cons pe_int (pa_cons pe_int pa_nil)))) pa_nil)))) pa_nil)))) (pg_name (i := 7) sc__law_grows.nd rfl (Or.inr rfl)) (pss_one (ps_if (pt_cmpR op_in_seq pe_bl (pe_lc (own := [("_law_one", 9)]) (g := gName 9) (tt := tYes) rfl sc__law_grows.nd (pi_list (pv 4)) (blkOk_by (N := N__law_grows) (sc := defScope s__law_grows) (by decide +kernel)) (fun _ _ _ _ _ => (pg_name (i := 9) sc__law_grows.nd rfl (Or.inl rfl))) (fun _ _ _ _ _ => pts_nil) (fun _ _ _ _ _ => (pe_mt M_judged hr (by omega) (pe_mk C_Grows hr (by omega) rfl (pa_cons (pv 2) (pa_cons (pv 7) pa_nil))) (pa_cons (pe_glob (v := .ref fS) rfl mS rfl) (pa_cons (pv 1) (pa_cons (pv 5) (pa_cons (pe_callTy (show CallR _ (.type "list") (rListOf K) from call_list_of) rfl Z.list (by decide +kernel) (pa_cons (pe_ix (r := rIxT K) ix_tup (pv 9) pe_int (fun _ _ => rfl)) pa_nil)) pa_nil))))))) (by rfl)) (pss_one (ps_expr (pe_bm PySem.F.plainAttrs_list PySem.F.slot_list_append PySem.F.type_list_append mt_append (pv 6) (pa_cons (pv 7) pa_nil)))) pss_nil)))
  (pss_one (ps_ret (pe_cmpR (op_eqD hr.units) (pe_lc (own := [("_law_said", 7)]) (g := gName 7) (tt := _) rfl sc__law_grows.nd (pi_list (pv 6)) (blkOk_by (N := N__law_grows) (sc := defScope s__law_grows) (by decide +kernel)) (fun _ _ _ _ _ => (pg_name (i := 7) sc__law_grows.nd rfl (Or.inl rfl))) (fun _ _ _ _ _ => (pts_one (pt_cmpR (show OpR _ (compareOp CmpOp.NotEq) (rNeD K) from op_neD (by exact hr.units)) (pv 7) (pe_ix (r := rIxL K) ix_list (pv 6) pe_int (fun _ _ => rfl)) (nomark _)))) (fun _ _ _ _ _ => (pv 7))) (pe_lst pa_nil) (nomark _))))))))))), ?_⟩
  have hF : Fam1 mg (plainSys tfP fS) := ⟨fS, mS, rfl⟩
  have G := A.good hF
  refine ⟨_, rfl, _, _, _, rfl, by decide, by decide, by decide, fun z1 H1 z10 z11 s1 => ⟨_, _, rfl, rfl, ?_⟩⟩
  obtain ⟨size, hsize, sz0, sz1⟩ : ∃ size : Nat, (1 : Int) + z1 = (size : Int) ∧ 0 < size ∧ size ≤ 20 := ⟨(1 + z1).toNat, by omega, by omega, by omega⟩
  show gName 1 (V.int (1 + z1)) _ _ _
  rw [hsize]
  clear hsize z10 z11
  refine ⟨_, rfl, _, rfl, _, _, _, rfl, by decide, by decide, by omega, fun z2 H2 z20 z21 s2 => ⟨_, _, rfl, rfl, ?_⟩⟩
  obtain ⟨old, hold, ho0, ho1⟩ : ∃ old : Nat, (1 : Int) + z2 = (old : Int) ∧ 0 < old ∧ old ≤ size := ⟨(1 + z2).toNat, by omega, by omega, by omega⟩
  show gName 2 (V.int (1 + z2)) _ _ _
  rw [hold]
  clear hold z20 z21
  have x2 := Ext.of_same (s1.trans s2)
  -- the tops
  refine ⟨3, rfl, by omega, by omega, fun TP nTP => ?_⟩
  refine lc_range (fun i H' => ∃ (tv : List V) (ts : List Tm), ts.length = i ∧ Ext H2 H' ∧ H' TP = some (.lst tv) ∧ DenL S0P H' tv ts ∧ ∀ t ∈ ts, t.dep ≤ 2) ⟨[], [], rfl, Ext.new nTP, upd_same, DenL.nil, fun t h => nomatch h⟩ ?_ ?_
  · rintro i H' hi ⟨tv, ts, rfl, x, hTP, hd, hdp⟩
    refine ⟨rfl, _, rfl, _, rfl, _, _, rfl, rfl, _, 5, rfl, by decide, fun v t H4 x4 dv dd => ?_⟩
    have hTP4 := x4.lst hTP
    have hl := hd.len
    have hi3 : ts.length < 3 := hi
    refine ⟨tv, hTP4, by omega, tv ++ [v], ts ++ [t], by simp, (x.trans x4).mut nTP, upd_same, ?_, fun u hu => ?_⟩
    · have k4 := (Kp.lst (o := .lst (tv ++ [v])) hTP4).gr
      exact (⟨(hd.up x4).len, fun i v t a b => ((hd.up x4).at_ i v t a b).mono k4⟩ : DenL S0P _ tv ts).append (DenL.one (dv.mono k4))
    · rcases List.mem_append.mp hu with h | h
      · exact hdp u h
      · rw [List.mem_singleton.mp h]
        exact dd
  rintro H4 ⟨tv, ts, htl, x4, hTP, hts, hdp⟩
  have htl : ts.length = 3 := htl
  -- three laid
  refine ⟨3, rfl, by omega, by omega, fun LD nLD => ?_⟩
  refine lc_range (fun i H' => ∃ (qs : List Addr), qs.length = i ∧ Ext H4 H' ∧ H' LD = some (.lst (qs.map V.ref)) ∧ ∀ j q, qs[j]? = some q → ∃ ps, LaidG H' LD old size q ps) ⟨[], rfl, Ext.new nLD, upd_same, fun j q h => by rw [List.getElem?_nil] at h; cases h⟩ ?_ ?_
  · rintro i H' hi ⟨qs, rfl, x, hLD, hla⟩
    have hi2 : qs.length < 3 := hi
    have hTP' := x.lst hTP
    have hts' := hts.up x
    refine ⟨rfl, ?_⟩
    rw [Int.zero_add]
    refine ⟨_, rfl, _, rfl, _, rfl, _, rfl, old, size, TP, tv, ts, qs.length, by decide, rfl, hTP', hts', by omega, ho0, ho1, by show size ≤ 2 ^ 5; omega, by omega, fun q1 u x1 p ys ps H6 x6 fp hq1 du dx hp dps lps mps => ?_⟩
    have hLD6 := x6.lst hLD
    refine ⟨qs.map V.ref, hLD6, by rw [List.length_map]; omega, qs ++ [q1], by simp, (x.trans x6).mut nLD, by rw [upd_same, List.map_append]; rfl, fun j q hj => ?_⟩
    have kx : ∀ {ps : List Tm} {q : Addr}, LaidG H6 LD old size q ps → LaidG (upd H6 LD (.lst (qs.map V.ref ++ [.ref q1]))) LD old size q ps := fun {ps q} h => by
      obtain ⟨u', x', p', ys', np, g1, g2, g2', g3, g4, g5, g6⟩ := h
      have kg := (Kp.lst (o := .lst (qs.map V.ref ++ [.ref q1])) hLD6).gr
      exact ⟨u', x', p', ys', np, by rw [upd_ne (fun z => by rw [z, hLD6] at g1; cases g1)]; exact g1, g2.mono kg, g2'.mono kg, by rw [upd_ne np]; exact g3, ⟨g4.len, fun i v t a b => (g4.at_ i v t a b).mono kg⟩, g5, g6⟩
    by_cases cj : j < qs.length
    · rw [List.getElem?_append_left cj] at hj
      obtain ⟨ps', a2⟩ := hla j q hj
      exact ⟨ps', kx (a2.ext x6)⟩
    · rw [List.getElem?_append_right (by omega)] at hj
      cases hjj : j - qs.length with
      | zero =>
        rw [hjj] at hj
        cases hj
        exact ⟨ps, kx ⟨u, x1, p, ys, (ne_of_none hLD fp).symm, hq1, du, dx, hp, dps, lps, fun t ht => hdp t (mps t ht)⟩⟩
      | succ n =>
        rw [hjj] at hj
        simp at hj
  rintro H5 ⟨qs, hql, x5, hLD, hla⟩
  have hql : qs.length = 3 := hql
  obtain ⟨q0, hq0⟩ : ∃ q0, qs[0]? = some q0 := ⟨qs[0]'(by omega), List.getElem?_eq_getElem _⟩
  obtain ⟨ps0, la0⟩ := hla 0 q0 hq0
  obtain ⟨u0, xx0, p0, ys0, np0, hq0', du0, dx0, _, _, lps0, dps0⟩ := id la0
  -- the head
  refine ⟨_, rfl, _, rfl, LD, _, _, .ref q0, rfl, rfl, SqL.of hLD, (by rw [show (0 : Int) = ((0 : Nat) : Int) from rfl]; exact atI_nat (by rw [List.getElem?_map, hq0]; rfl)), q0, _, 1, _, rfl, rfl, SqT.of hq0', rfl, by show 3 ≤ sizeLine; decide, fun hd nhd => ?_⟩
  have v1 := Ext.new (o := .tup [.str "book", .int (size : Int), xx0]) nhd
  have hhd : upd H5 hd (.tup [.str "book", .int (size : Int), xx0]) hd = some (.tup [.str "book", .int (size : Int), xx0]) := upd_same
  generalize upd H5 hd (.tup [.str "book", .int (size : Int), xx0]) = H6 at v1 hhd ⊢
  have dhd : DP H6 (.ref hd) (.sl "book" (.int (size : Int)) (regT old size ps0).2) := dp_sl (by decide +kernel) hhd (.int _) (dx0.mono v1.gr)
  have hLD6 := v1.lst hLD
  have hla6 : ∀ j q, qs[j]? = some q → ∃ ps, LaidG H6 LD old size q ps := fun j q h => by
    obtain ⟨ps, b⟩ := hla j q h
    exact ⟨ps, b.ext v1⟩
  have rdep : ∀ ps : List Tm, ps.length = glen old size → (∀ t ∈ ps, t.dep ≤ 2) → (regT old size ps).1.dep ≤ 40 ∧ (regT old size ps).2.dep ≤ 40 := fun ps hl hp => by
    have gl := glen_le 5 old size (by show size ≤ 32; omega)
    have := reg_dep (d := 2) hl hp
    omega
  -- none shown yet
  refine ⟨by show 0 ≤ sizeLine; decide, fun SH nSH => ?_⟩
  have hSH6 : upd H6 SH (.lst []) SH = some (.lst []) := upd_same
  have v2 := Ext.new (o := .lst []) nSH
  generalize upd H6 SH (.lst []) = H7 at hSH6 v2 ⊢
  -- what may be said
  refine ⟨_, rfl, LD, rfl, ⟨_, SqL.of (v2.lst hLD6)⟩, fun SL nSL => ?_⟩
  refine lc_list (K := K) (xs := qs.map V.ref) (fun j H' => ∃ (sv : List V), sv.length = j ∧ Ext H7 H' ∧ H' SL = some (.lst sv) ∧ ∀ v ∈ sv, ∃ Y, DP H' v (.sl "book" (.int (old : Int)) Y) ∧ Y.dep ≤ 40) ⟨[], rfl, Ext.new nSL, upd_same, fun v h => nomatch h⟩ (fun j H' _ ⟨_, _, x, _⟩ => SqL.of (x.lst (v2.lst hLD6))) ?_ ?_
  · rintro j v H' hj ⟨sv, rfl, x, hSL, hsv⟩
    rw [List.getElem?_map] at hj
    obtain ⟨q1, hq1, rfl⟩ := Option.map_eq_some_iff.mp hj
    obtain ⟨ps1, la1⟩ := hla6 _ _ hq1
    obtain ⟨u1, xx1, p1, ys1, np1, t1, du1, _, hp1, dy1, lp1, dp1⟩ := la1.ext (v2.trans x)
    have jl : sv.length < 3 := by
      have := (List.getElem?_eq_some_iff.mp hq1).1
      omega
    refine ⟨rfl, _, rfl, _, rfl, q1, _, 0, _, rfl, rfl, SqT.of t1, rfl, by show 3 ≤ sizeLine; decide, fun a na => ?_⟩
    have w1 := Ext.new (o := .tup [.str "book", .int (old : Int), u1]) na
    have ha : upd H' a (.tup [.str "book", .int (old : Int), u1]) a = some (.tup [.str "book", .int (old : Int), u1]) := upd_same
    generalize upd H' a (.tup [.str "book", .int (old : Int), u1]) = H'' at w1 ha ⊢
    have hSL' := w1.lst hSL
    have kg := (Kp.lst (o := .lst (sv ++ [.ref a])) hSL').gr
    refine ⟨_, hSL', by omega, sv ++ [.ref a], by rw [List.length_append]; rfl, (x.trans w1).mut nSL, upd_same, fun v hv => ?_⟩
    rcases List.mem_append.mp hv with h | h
    · obtain ⟨Y, d, e⟩ := hsv v h
      exact ⟨Y, (d.mono w1.gr).mono kg, e⟩
    · rw [List.mem_singleton.mp h]
      exact ⟨_, (dp_sl (by decide +kernel) ha (.int _) (du1.mono w1.gr) : DP H'' (.ref a) _).mono kg, (rdep ps1 lp1 dp1).1⟩
  rintro H8 ⟨sl, hsl, x8, hSL, hsv⟩
  refine ⟨_, rfl, by show 3 ≤ sizeLine; decide, fun n1 nn1 => ?_⟩
  have w1 := Ext.new (o := .tup [.str "none", .int 0, .int 0]) nn1
  have hn1 : upd H8 n1 (.tup [.str "none", .int 0, .int 0]) n1 = some (.tup [.str "none", .int 0, .int 0]) := upd_same
  generalize upd H8 n1 (.tup [.str "none", .int 0, .int 0]) = H9 at w1 hn1 ⊢
  refine ⟨by show 3 ≤ sizeLine; decide, fun n2 nn2 => ?_⟩
  have w2 := Ext.new (o := .tup [.str "book", .int (old : Int), .ref n1]) nn2
  have hn2 : upd H9 n2 (.tup [.str "book", .int (old : Int), .ref n1]) n2 = some (.tup [.str "book", .int (old : Int), .ref n1]) := upd_same
  generalize upd H9 n2 (.tup [.str "book", .int (old : Int), .ref n1]) = H10 at w2 hn2 ⊢
  refine ⟨by show 1 ≤ sizeLine; decide, fun n3 nn3 => ?_⟩
  have w3 := Ext.new (o := .lst [.ref n2]) nn3
  have hn3 : upd H10 n3 (.lst [.ref n2]) n3 = some (.lst [.ref n2]) := upd_same
  generalize upd H10 n3 (.lst [.ref n2]) = H11 at w3 hn3 ⊢
  have x11 := ((x8.trans w1).trans w2).trans w3
  refine ⟨SL, n3, sl, [.ref n2], rfl, rfl, ((w1.trans w2).trans w3).lst hSL, hn3, by rw [hsl, List.length_map, hql]; show 4 ≤ sizeLine; decide, fun LR nLR => ?_⟩
  have w4 := Ext.new (o := .lst (sl ++ [.ref n2])) nLR
  have hLR : upd H11 LR (.lst (sl ++ [.ref n2])) LR = some (.lst (sl ++ [.ref n2])) := upd_same
  generalize upd H11 LR (.lst (sl ++ [.ref n2])) = H12 at w4 hLR ⊢
  have x12 := x11.trans w4
  have hall : ∀ v ∈ sl ++ [.ref n2], ∃ Y, DP H12 v (.sl "book" (.int (old : Int)) Y) ∧ Y.dep ≤ 40 := fun v hv => by
    rcases List.mem_append.mp hv with h | h
    · obtain ⟨Y, d, e⟩ := hsv v h
      exact ⟨Y, d.mono (((w1.trans w2).trans w3).trans w4).gr, e⟩
    · rw [List.mem_singleton.mp h]
      have dn : DP H9 (.ref n1) nonT := dp_sl (by decide +kernel) hn1 (.int _) (.int _)
      exact ⟨nonT, (dp_sl (by decide +kernel) hn2 (.int _) (dn.mono w2.gr) : DP H10 (.ref n2) _).mono (w3.trans w4).gr, by decide⟩
  have hLRl : (sl ++ [V.ref n2]).length = 4 := by rw [List.length_append, hsl, List.length_map, hql]; rfl
  have hSH12 := x12.lst hSH6
  have neq : LR ≠ SH := (ne_of_none (x11.lst hSH6) nLR).symm
  clear hsv hSL hn1 hn2 hn3 nn1 nn2 nn3
  generalize sl ++ [V.ref n2] = xs at hLR hall hLRl
  refine ⟨LR, rfl, ⟨_, SqL.of hLR⟩, for_list (K := K) (a := LR) (xs := xs) (fun i σ H' => ∃ (y7 : Option V) (sv : List V), σ = [some (.int c), some (.int (size : Int)), some (.int (old : Int)), some (.ref TP), some (.ref LD), some (.ref hd), some (.ref SH), y7, none, none] ∧ Ext H6 H' ∧ Gr H12 H' ∧ H' LR = some (.lst xs) ∧ H' SH = some (.lst sv) ∧ sv.length ≤ i ∧ ∀ v ∈ sv, DP H' v (.sl "book" (.int (old : Int)) (regT old size ps0).1)) ⟨none, [], rfl, v2.trans x12, Gr.refl _, hLR, hSH12, Nat.le_refl _, fun v h => nomatch h⟩ (fun i σ H' _ ⟨_, _, _, _, _, h, _⟩ => SqL.of h) ?_ ?_⟩
  · rintro i v σ H7 hi ⟨y7, sv, rfl, x7, g7, hLR7, hSH, hsl, hsv⟩
    have hi' := (List.getElem?_eq_some_iff.mp hi).1
    obtain ⟨Y, dv0, hY⟩ := hall v (List.mem_of_getElem? hi)
    have dv := dv0.mono g7
    have hLD7 := x7.lst hLD6
    refine ⟨_, rfl, LD, rfl, ⟨_, SqL.of hLD7⟩, fun D2 nD2 => ?_⟩
    refine lc_list (K := K) (xs := qs.map V.ref) (fun j H' => ∃ (bs : List Bool), bs.length = j ∧ Ext H7 H' ∧ H' D2 = some (.lst (bs.map V.bl)) ∧ (true ∈ bs → Y = (regT old size ps0).1)) ⟨[], rfl, Ext.new nD2, upd_same, fun h => nomatch h⟩ (fun j H' _ ⟨_, _, x, _⟩ => SqL.of (x.lst hLD7)) ?_ ?_
    · rintro j vq H' hj ⟨bs, rfl, x, hD2, hbs⟩
      rw [List.getElem?_map] at hj
      obtain ⟨q1, hq1, rfl⟩ := Option.map_eq_some_iff.mp hj
      obtain ⟨ps1, la1⟩ := hla6 _ _ hq1
      have jl : bs.length < 3 := by
        have := (List.getElem?_eq_some_iff.mp hq1).1
        omega
      refine ⟨rfl, _, rfl, _, rfl, fun cp dx ncp ndx nex => ?_⟩
      have y1 : Ext H' (upd (upd H' dx (.own cp)) cp (.ins CG dx [])) := (Ext.new ndx).trans (Ext.new (by rw [upd_ne nex.symm]; exact ncp))
      refine ⟨cp, dx, (old : Int), v, rfl, upd_same, fun H8 xo kp hst => ⟨rfl, ?_⟩⟩
      have x8' := xo.ext y1 ncp
      have x68 := (x7.trans x).trans x8'
      obtain ⟨u1, xx1, p1, ys1, np1, t1, _, _, hp1, dy1, lp1, dp1⟩ := la1.ext x68
      refine ⟨cp, dx, _, rfl, hst, (grF_no _ _).1, _, rfl, _, rfl, _, rfl, q1, _, 2, _, rfl, rfl, SqT.of t1, rfl, p1, ys1, rfl, .inl (SqL.of hp1), fun l nl => ?_⟩
      have w1 := Ext.new (o := .lst ys1) nl
      have hl : upd H8 l (.lst ys1) l = some (.lst ys1) := upd_same
      generalize upd H8 l (.lst ys1) = Hn at w1 hl ⊢
      have gl1 : glen old size ≤ 6 := glen_le 5 _ _ (by show size ≤ 32; omega)
      have xn := x8'.trans w1
      refine ⟨plainSys tfP fS, cp, dx, (old : Int), v, .sl "book" (.int (old : Int)) Y, size, .sl "book" (.int (size : Int)) (regT old size ps0).2, .ref hd, .ref l, some ps1, 0, hF, rfl, w1.ins hst, dv.mono (x.trans xn).gr, ⟨_, _, rfl, WS.any _, hY⟩, by omega, dhd.mono (x68.trans w1).gr, ⟨_, _, rfl, WS.any _, (rdep ps0 lps0 dps0).2⟩, ⟨l, ys1, rfl, hl, ⟨(dy1.up w1).len, (dy1.up w1).at_⟩, by omega, fun t ht => ⟨WS.any _, Nat.le_trans (dp1 t ht) (by decide)⟩⟩, True.intro, fun Hf xf _ => ?_⟩
      have xw := xn.trans xf
      refine ⟨_, xw.lst hD2, by rw [List.length_map]; omega, bs ++ [_], by rw [List.length_append]; rfl, (x.trans xw).mut nD2, by rw [upd_same, List.map_append]; rfl, fun hm => ?_⟩
      rcases List.mem_append.mp hm with h | h
      · exact hbs h
      · have h := (List.mem_singleton.mp h).symm
        unfold judgeG at h
        rw [if_neg (by omega)] at h
        have h := (of_decide_eq_true h).2.2
        rw [Int.toNat_natCast] at h
        have e := reg_one old size ps1 ps0 ho0 ho1 h.1 lps0 (Tm.sl.inj h.2.2).2.2
        rw [e] at h
        exact (Tm.sl.inj h.2.1).2.2.symm
    rintro H9 ⟨bs, hbl, x9, hD2, hbs⟩
    have hSH9 := x9.lst hSH
    refine ⟨D2, bs.map V.bl, rfl, .inl (SqL.of hD2), rfl, flat_bl bs, _, rfl, ite2 (fun ct => ?_) (fun ct => ?_)⟩
    · have hYe := hbs (inV_true bs ct)
      subst hYe
      have kg := (Kp.lst (o := .lst (sv ++ [v])) hSH9).gr
      refine ⟨_, rfl, .inl ⟨rfl, _, SqL.of hSH9⟩, _, rfl, SH, sv, v, rfl, rfl, hSH9, by omega, ?_⟩
      refine ⟨some v, sv ++ [v], rfl, (x7.trans x9).mut nSH, (g7.trans x9.gr).trans kg, by rw [upd_ne neq]; exact x9.lst hLR7, upd_same, by rw [List.length_append]; show sv.length + 1 ≤ i + 1; omega, fun v' hv' => ?_⟩
      rcases List.mem_append.mp hv' with h | h
      · exact ((hsv v' h).mono x9.gr).mono kg
      · rw [List.mem_singleton.mp h]
        exact (dv.mono x9.gr).mono kg
    · exact ⟨some v, sv, rfl, x7.trans x9, g7.trans x9.gr, x9.lst hLR7, hSH9, by omega, fun v' hv' => (hsv v' hv').mono x9.gr⟩
  · rintro σ H8 ⟨y7, sv, rfl, x7, g7, hLR7, hSH, hsl, hsv⟩
    refine ⟨_, rfl, SH, rfl, ⟨_, SqL.of hSH⟩, fun D2 nD2 => ?_⟩
    refine lc_list (K := K) (xs := sv) (fun j H' => Ext H8 H' ∧ H' D2 = some (.lst [])) ⟨Ext.new nD2, upd_same⟩ (fun j H' _ ⟨x, _⟩ => SqL.of (x.lst hSH)) ?_ ?_
    · rintro j v H' hj ⟨x, hD2⟩
      have h0 : 0 < sv.length := Nat.lt_of_le_of_lt (Nat.zero_le _) (List.getElem?_eq_some_iff.mp hj).1
      obtain ⟨d, d', e1, e2, e3, e4, e5⟩ := bk_apart (inj1 (K := K) hF) (r := 0) True.intro ((hsv v (List.mem_of_getElem? hj)).mono x.gr) ((hsv _ (List.getElem_mem h0)).mono x.gr) ⟨_, _, rfl, WS.any _, (rdep ps0 lps0 dps0).1⟩ ⟨_, _, rfl, WS.any _, (rdep ps0 lps0 dps0).1⟩
      refine ⟨rfl, _, rfl, _, rfl, SH, sv, _, sv[0]'h0, rfl, rfl, SqL.of (x.lst hSH), (by rw [show (0 : Int) = ((0 : Nat) : Int) from rfl]; exact atI_nat (List.getElem?_eq_getElem h0)), d, d', e1, e2, e3, e4, _, rfl, ?_⟩
      rw [e5, decide_eq_true rfl]
      exact ⟨x, hD2⟩
    · rintro H9 ⟨x9, hD2⟩
      refine ⟨by show 0 ≤ sizeLine; decide, fun E1 nE1 => ?_⟩
      have w1 := Ext.new (o := .lst []) nE1
      refine ⟨.list [], .list [], .lst (SqL.of (w1.lst hD2)) .nil, .lst (SqL.of upd_same) .nil, by decide, by decide, ?_⟩
      show Q (.bl (PyData.eqv (.list []) (.list []))) _
      rw [eqv_self rfl]
      exact q _ (((((x2.trans x4).trans x5).trans v1).trans x7).trans (x9.trans w1))
end

/-! ### a table's part laid by hand -/
def TrT : Nat → Tm → Prop
  | 0, t => t = nonT ∨ ∃ k x, txtOk x = true ∧ t = rowT k x
  | d + 1, t => (t = nonT ∨ ∃ k x, txtOk x = true ∧ t = rowT k x) ∨ ∃ a b, t = forkT a b ∧ TrT d a ∧ TrT d b
theorem TrT.flat : ∀ {d : Nat} {t : Tm}, (t = nonT ∨ ∃ k x, txtOk x = true ∧ t = rowT k x) → TrT d t
  | 0, _, h => h
  | _ + 1, _, h => .inl h
theorem TrT.dep : ∀ {d : Nat} {t : Tm}, TrT d t → t.dep ≤ d + 1
  | 0, _, h => by
    rcases h with rfl | ⟨k, x, _, rfl⟩
    · exact Nat.le_refl _
    · exact Nat.le_refl _
  | d + 1, _, h => by
    rcases h with (rfl | ⟨k, x, _, rfl⟩) | ⟨a, b, rfl, ha, hb⟩
    · show 1 ≤ _; omega
    · show 1 ≤ _; omega
    · have := TrT.dep ha
      have := TrT.dep hb
      show max a.dep b.dep + 1 ≤ d + 1 + 1
      omega
section
variable {P : Program} {w : World} {K : PySem.W.Frag} {mg : Str → Option Value} {base : Heap}
def spTree (k : Nat) : Sp := fun vs H Q _ => ∃ (c : Int) (d : Nat), d < k ∧ vs = [.int c, .int (d : Int)] ∧ ∀ v t H', Ext H H' → DP H' v t → TrT d t → Q v H'
theorem ok_ltree1 {cc : Addr} {k : Nat} (T : Txt K mg cc) (C__law_tree : Cal P w K mg base (k + 1) "_law_tree" (spTree k) []) : Cal P w K mg base (k + 2) "_law_tree" (spTree (k + 1)) [] := by
  have Z := T.Z
  have C__law_draw := ok_draw (P := P) (w := w) (base := base) T
  refine cal_of T.d__law_tree sc__law_tree (fun vs H Q E h => ?_) (fun f cdv A' outer s H vs Q E hr h => ?_)
  · obtain ⟨c, d, _, rfl, _⟩ := h
    rfl
  obtain ⟨c, d, hk, rfl, q⟩ := h
  refine ⟨_, (pss_cons (ps_set (i := 2) sc__law_tree.nd rfl (Or.inl rfl) (pe_c C__law_draw hr (by omega) rfl (pa_cons (pv 0) (pa_cons pe_int (pa_cons pe_int pa_nil)))))
  (pss_cons (ps_if (PW.pt (pw_and (pt_cmpR op_gt (pv 1) pe_int (nomark _)) (pw_and1 (pt_cmpR op_gt (pv 2) pe_int (nomark _))))) (pss_one (ps_ret (pe_tup (pa_cons pe_str (pa_cons (pe_c C__law_tree hr (by omega) rfl (pa_cons (pe_op op_add (pe_op op_mul (pv 0) pe_int) pe_int) (pa_cons (pe_op op_sub (pv 1) pe_int) pa_nil))) (pa_cons (pe_c C__law_tree hr (by omega) rfl (pa_cons (pe_op op_add (pe_op op_mul (pv 0) pe_int) pe_int) (pa_cons (pe_op op_sub (pv 1) pe_int) pa_nil))) pa_nil)))))) pss_nil)
  (pss_cons (ps_if (pt_cmpR op_eq (pv 2) pe_int (nomark _)) (pss_one (ps_ret (pe_tup (pa_cons pe_str (pa_cons pe_int (pa_cons pe_int pa_nil)))))) pss_nil)
  (pss_one (ps_ret (pe_tup (pa_cons pe_str (pa_cons (pe_c C__law_draw hr (by omega) rfl (pa_cons (pv 0) (pa_cons pe_int (pa_cons pe_int pa_nil)))) (pa_cons (pe_slice sl_str pe_str po_none (po_some (pe_c C__law_draw hr (by omega) rfl (pa_cons (pv 0) (pa_cons pe_int (pa_cons pe_int pa_nil)))))) pa_nil))))))))), ?_⟩
  refine ⟨_, rfl, _, _, _, rfl, by decide, by decide, by decide, fun z1 H1 z10 z11 s1 => ?_⟩
  have x1 := Ext.of_same s1
  refine ⟨_, rfl, _, _, rfl, rfl, _, rfl, ite2 (fun c1 => ?_) (fun c1 => ?_)⟩
  · have c1' : (0 : Int) < (d : Int) := of_decide_eq_true c1
    obtain ⟨k', rfl⟩ : ∃ k', d = k' + 1 := ⟨d - 1, by omega⟩
    refine ⟨_, rfl, _, _, rfl, rfl, _, rfl, ite2 (fun c2 => ?_) (fun c2 => ?_)⟩
    · refine ⟨_, rfl, _, _, rfl, rfl, .inr ⟨by decide, by decide⟩, _, _, rfl, rfl, _, rfl, _, _, rfl, rfl, c * 3 + 1, k', by omega, (by show [V.int (c * 3 + 1), V.int (((k' + 1 : Nat) : Int) - 1)] = _; rw [show (((k' + 1 : Nat) : Int) - 1) = (k' : Int) by omega]), fun va ta H2 x2 da ra => ?_⟩
      refine ⟨_, rfl, _, _, rfl, rfl, .inr ⟨by decide, by decide⟩, _, _, rfl, rfl, _, rfl, _, _, rfl, rfl, c * 3 + 2, k', by omega, (by show [V.int (c * 3 + 2), V.int (((k' + 1 : Nat) : Int) - 1)] = _; rw [show (((k' + 1 : Nat) : Int) - 1) = (k' : Int) by omega]), fun vb tb H3 x3 db rb => ?_⟩
      refine ⟨by show 3 ≤ sizeLine; decide, fun p np => ?_⟩
      have x4 := Ext.new (o := .tup [.str "fork", va, vb]) np
      exact q _ (forkT ta tb) _ (((x1.trans x2).trans x3).trans x4) (dp_sl (by decide +kernel) upd_same (da.mono (x3.trans x4).gr) (db.mono x4.gr)) (.inr ⟨ta, tb, rfl, ra, rb⟩)
    · refine ⟨_, rfl, rfl, _, rfl, ite2 (fun c3 => ?_) (fun c3 => ?_)⟩
      · refine ⟨by show 3 ≤ sizeLine; decide, fun p np => ?_⟩
        have x2 := Ext.new (o := .tup [.str "none", .int 0, .int 0]) np
        exact q _ nonT _ (x1.trans x2) (dp_sl (by decide +kernel) upd_same (.int _) (.int _)) (.flat (.inl rfl))
      · refine ⟨_, rfl, _, _, _, rfl, by decide, by decide, by decide, fun z2 H2 _ _ s2 => ⟨_, rfl, _, _, _, rfl, by decide, by decide, by decide, fun z3 H3 z30 z31 s3 => ?_⟩⟩
        obtain ⟨e1, e2, _⟩ := ab_cut z30 z31
        refine ⟨_, rfl, _, rfl, by decide +kernel, ?_⟩
        rw [e1]
        refine ⟨by show 3 ≤ sizeLine; decide, fun p np => ?_⟩
        have x2 := Ext.new (o := .tup [.str "row", .int z2, .str (ab z3.toNat)]) np
        exact q _ (rowT z2 (ab z3.toNat)) _ ((x1.trans (Ext.of_same (s2.trans s3))).trans x2) (dp_sl (by decide +kernel) upd_same (.int _) (.str _ e2)) (.flat (.inr ⟨_, _, e2, rfl⟩))
  · refine ⟨_, rfl, rfl, _, rfl, ite2 (fun c3 => ?_) (fun c3 => ?_)⟩
    · refine ⟨by show 3 ≤ sizeLine; decide, fun p np => ?_⟩
      have x2 := Ext.new (o := .tup [.str "none", .int 0, .int 0]) np
      exact q _ nonT _ (x1.trans x2) (dp_sl (by decide +kernel) upd_same (.int _) (.int _)) (.flat (.inl rfl))
    · refine ⟨_, rfl, _, _, _, rfl, by decide, by decide, by decide, fun z2 H2 _ _ s2 => ⟨_, rfl, _, _, _, rfl, by decide, by decide, by decide, fun z3 H3 z30 z31 s3 => ?_⟩⟩
      obtain ⟨e1, e2, _⟩ := ab_cut z30 z31
      refine ⟨_, rfl, _, rfl, by decide +kernel, ?_⟩
      rw [e1]
      refine ⟨by show 3 ≤ sizeLine; decide, fun p np => ?_⟩
      have x2 := Ext.new (o := .tup [.str "row", .int z2, .str (ab z3.toNat)]) np
      exact q _ (rowT z2 (ab z3.toNat)) _ ((x1.trans (Ext.of_same (s2.trans s3))).trans x2) (dp_sl (by decide +kernel) upd_same (.int _) (.str _ e2)) (.flat (.inr ⟨_, _, e2, rfl⟩))
theorem ok_ltree {cc : Addr} (T : Txt K mg cc) : ∀ k : Nat, Cal P w K mg base (k + 1) "_law_tree" (spTree k) []
  | 0 => by
    obtain ⟨f, fd, ps, ds, F, m, kp, b, v⟩ := (cal_no (P := P) (w := w) (base := base) T.d__law_tree 1).ex
    exact ⟨f, fd, ps, ds, F.imp fun vs H Q E h => by obtain ⟨_, _, z, _⟩ := h; omega, m, kp, b, v⟩
  | k + 1 => ok_ltree1 T (ok_ltree T k)
end

section
variable {P : Program} {w : World} {K : PySem.W.Frag} {mg : Str → Option Value} {base : Heap}
theorem dp_inv {H : Hp} {v : V} {m : Str} {a b : Tm} (h : DP H v (.sl m a b)) : ∃ q va vb, v = .ref q ∧ txtOk m = true ∧ H q = some (.tup [.str m, va, vb]) ∧ DP H va a ∧ DP H vb b := by
  cases h with
  | sl hm h ha hb => exact ⟨_, _, _, rfl, hm, h, ha, hb⟩
theorem dp_int {H : Hp} {v : V} {i : Int} (h : DP H v (.int i)) : v = .int i := by cases h; rfl
theorem dp_str {H : Hp} {v : V} {x : Str} (h : DP H v (.str x)) : v = .str x := by cases h; rfl
/-- the way of a key in a part laid by hand: the part is what it climbs to -/
def spDown : Sp := fun vs H Q _ => ∃ (v : V) (t : Tm) (k : Int) (d : Nat), vs = [v, .int k, .int (d : Int)] ∧ DP H v t ∧ TrT d t ∧ d ≤ 4 ∧
  ∀ q o ev os rr ys H', Ext H H' → H o = none → H' q = some (.tup [.ref o, ev]) → H' o = some (.lst ys) → DenL S0P H' ys os → os.length ≤ d → (∀ t ∈ os, t.dep ≤ 5) → EndV H' ev rr → climbT k d os (endT rr) = t → Q (.ref q) H'
theorem ok_ldown {cc : Addr} (T : Txt K mg cc) : Cal P w K mg base 2 "_law_down" spDown [] := by
  have Z := T.Z
  refine cal_of T.d__law_down sc__law_down (fun vs H Q E h => ?_) (fun f cdv A' outer s H vs Q E hr h => ?_)
  · obtain ⟨v, t, k, d, rfl, _⟩ := h
    rfl
  obtain ⟨v, t, k, d, rfl, hv, ht, hd, q⟩ := h
  have e16 : sizeLine = 16777216 := sizeLine_eq
  refine ⟨_, (pss_cons (ps_set (i := 3) sc__law_down.nd rfl (Or.inl rfl) (pe_lst pa_nil))
  (pss_cons (ps_while PassesOwn.never (PW.pt (pw_and (pt_cmpR op_gt (pv 2) pe_int (nomark _)) (pw_and1 (pt_cmpR op_eq (pe_ix ix_tup (pv 0) pe_int (fun _ _ => rfl)) pe_str (nomark _))))) (pss_cons (ps_set (i := 2) sc__law_down.nd rfl (Or.inl rfl) (pe_op op_sub (pv 2) pe_int))
  (pss_cons (ps_set (i := 4) sc__law_down.nd rfl (Or.inl rfl) (pe_op op_mod (pe_op op_fdiv (pv 1) (pe_op op_oneShl pe_int (pv 2))) pe_int))
  (pss_cons (ps_expr (pe_bm PySem.F.plainAttrs_list PySem.F.slot_list_append PySem.F.type_list_append mt_append (pv 3) (pa_cons (pe_ix ix_tup (pv 0) (pe_op op_sub pe_int (pv 4)) (fun _ _ => rfl)) pa_nil)))
  (pss_one (ps_set (i := 0) sc__law_down.nd rfl (Or.inl rfl) (pe_ix ix_tup (pv 0) (pe_op op_add pe_int (pv 4)) (fun _ _ => rfl))))))))
  (pss_cons (ps_if (pt_cmpR op_eq (pe_ix ix_tup (pv 0) pe_int (fun _ _ => rfl)) pe_str (nomark _)) (pss_one (ps_ret (pe_tup (pa_cons (pv 3) (pa_cons (pe_tup (pa_cons (pe_ix ix_tup (pv 0) pe_int (fun _ _ => rfl)) (pa_cons (pe_ix ix_tup (pv 0) pe_int (fun _ _ => rfl)) pa_nil))) pa_nil))))) pss_nil)
  (pss_one (ps_ret (pe_tup (pa_cons (pv 3) (pa_cons pe_non pa_nil)))))))), ?_⟩
  refine ⟨by show 0 ≤ sizeLine; decide, fun O nO => ?_⟩
  have x1 := Ext.new (o := .lst []) nO
  refine ⟨fun m σ H' => ∃ (v' : V) (t' : Tm) (os : List Tm) (ys : List V) (y4 : Option V), σ = [some v', some (.int k), some (.int (m : Int)), some (.ref O), y4] ∧ Ext H H' ∧ H' O = some (.lst ys) ∧ DenL S0P H' ys os ∧ os.length + m = d ∧ DP H' v' t' ∧ TrT m t' ∧ (∀ t ∈ os, t.dep ≤ 5) ∧ (∀ os' e, climbT k m os' e = t' → climbT k d (os ++ os') e = t), ⟨d, v, t, [], [], none, rfl, x1, upd_same, DenL.nil, by show 0 + d = d; omega, hv.mono x1.gr, ht, fun t h => (nomatch h), fun os' e h => h⟩, ?_⟩
  rintro m σ H1 ⟨v', t', os, ys, y4, rfl, x1, hO, hos, hm, dv, ht', hdp, hc⟩
  have hyl := hos.len
  have cases3 : (t' = nonT ∨ ∃ k x, txtOk x = true ∧ t' = rowT k x) ∨ ∃ m' a b, m = m' + 1 ∧ t' = forkT a b ∧ TrT m' a ∧ TrT m' b := by
    cases m with
    | zero => exact .inl ht'
    | succ m' =>
      rcases ht' with h | ⟨a, b, h⟩
      · exact .inl h
      · exact .inr ⟨m', a, b, rfl, h⟩
  rcases cases3 with (rfl | ⟨kk, xx, htx, rfl⟩) | ⟨m', a, b, rfl, rfl, ra, rb⟩
  · obtain ⟨qt, va, vb, rfl, _, hqt, _, _⟩ := dp_inv dv
    refine ⟨_, rfl, _, _, rfl, rfl, _, rfl, ite2 (fun c1 => ?_) (fun c1 => ?_)⟩
    · refine ⟨_, rfl, qt, _, 0, _, rfl, rfl, SqT.of hqt, rfl, rfl, _, rfl, ?_⟩
      rw [decide_eq_false (fun z => absurd (V.str.inj z) (by decide +kernel))]
      refine iteF ?_
      refine ⟨_, rfl, qt, _, 0, _, rfl, rfl, SqT.of hqt, rfl, rfl, _, rfl, ?_⟩
      rw [decide_eq_false (fun z => absurd (V.str.inj z) (by decide +kernel))]
      refine iteF ?_
      refine ⟨_, rfl, by show 2 ≤ sizeLine; decide, fun a2 na2 => ?_⟩
      have w2 := Ext.new (o := .tup [.ref O, .non]) na2
      have he := hc [] (endT []) (climbT_nil _ _ _)
      rw [List.append_nil] at he
      exact q a2 O .non os [] ys _ (x1.trans w2) nO upd_same (w2.lst hO) (hos.up w2) (by omega) hdp (.inl ⟨rfl, rfl⟩) he
    · refine iteF ?_
      refine ⟨_, rfl, qt, _, 0, _, rfl, rfl, SqT.of hqt, rfl, rfl, _, rfl, ?_⟩
      rw [decide_eq_false (fun z => absurd (V.str.inj z) (by decide +kernel))]
      refine iteF ?_
      refine ⟨_, rfl, by show 2 ≤ sizeLine; decide, fun a2 na2 => ?_⟩
      have w2 := Ext.new (o := .tup [.ref O, .non]) na2
      have he := hc [] (endT []) (climbT_nil _ _ _)
      rw [List.append_nil] at he
      exact q a2 O .non os [] ys _ (x1.trans w2) nO upd_same (w2.lst hO) (hos.up w2) (by omega) hdp (.inl ⟨rfl, rfl⟩) he
  · obtain ⟨qt, va, vb, rfl, _, hqt, da, db⟩ := dp_inv dv
    obtain rfl := dp_int da
    obtain rfl := dp_str db
    refine ⟨_, rfl, _, _, rfl, rfl, _, rfl, ite2 (fun c1 => ?_) (fun c1 => ?_)⟩
    · refine ⟨_, rfl, qt, _, 0, _, rfl, rfl, SqT.of hqt, rfl, rfl, _, rfl, ?_⟩
      rw [decide_eq_false (fun z => absurd (V.str.inj z) (by decide +kernel))]
      refine iteF ?_
      refine ⟨_, rfl, qt, _, 0, _, rfl, rfl, SqT.of hqt, rfl, rfl, _, rfl, ?_⟩
      rw [decide_eq_true rfl]
      refine iteT ?_
      refine ⟨_, rfl, _, rfl, qt, _, 1, _, rfl, rfl, SqT.of hqt, rfl, _, rfl, qt, _, 2, _, rfl, rfl, SqT.of hqt, rfl, by show 2 ≤ sizeLine; decide, fun a1 na1 => ⟨by show 2 ≤ sizeLine; decide, fun a2 na2 => ?_⟩⟩
      have w1 := Ext.new (o := .tup [.int kk, .str xx]) na1
      have ha1 : upd H1 a1 (.tup [.int kk, .str xx]) a1 = some (.tup [.int kk, .str xx]) := upd_same
      generalize upd H1 a1 (.tup [.int kk, .str xx]) = H2 at w1 ha1 na2 ⊢
      have w2 := Ext.new (o := .tup [.ref O, .ref a1]) na2
      have he := hc [] (endT [(kk, xx)]) (climbT_nil _ _ _)
      rw [List.append_nil] at he
      exact q a2 O (.ref a1) os [(kk, xx)] ys _ ((x1.trans w1).trans w2) nO upd_same (w2.lst (w1.lst hO)) (hos.up (w1.trans w2)) (by omega) hdp (.inr ⟨(kk, xx), a1, rfl, rfl, w2.tup ha1, htx⟩) he
    · refine iteF ?_
      refine ⟨_, rfl, qt, _, 0, _, rfl, rfl, SqT.of hqt, rfl, rfl, _, rfl, ?_⟩
      rw [decide_eq_true rfl]
      refine iteT ?_
      refine ⟨_, rfl, _, rfl, qt, _, 1, _, rfl, rfl, SqT.of hqt, rfl, _, rfl, qt, _, 2, _, rfl, rfl, SqT.of hqt, rfl, by show 2 ≤ sizeLine; decide, fun a1 na1 => ⟨by show 2 ≤ sizeLine; decide, fun a2 na2 => ?_⟩⟩
      have w1 := Ext.new (o := .tup [.int kk, .str xx]) na1
      have ha1 : upd H1 a1 (.tup [.int kk, .str xx]) a1 = some (.tup [.int kk, .str xx]) := upd_same
      generalize upd H1 a1 (.tup [.int kk, .str xx]) = H2 at w1 ha1 na2 ⊢
      have w2 := Ext.new (o := .tup [.ref O, .ref a1]) na2
      have he := hc [] (endT [(kk, xx)]) (climbT_nil _ _ _)
      rw [List.append_nil] at he
      exact q a2 O (.ref a1) os [(kk, xx)] ys _ ((x1.trans w1).trans w2) nO upd_same (w2.lst (w1.lst hO)) (hos.up (w1.trans w2)) (by omega) hdp (.inr ⟨(kk, xx), a1, rfl, rfl, w2.tup ha1, htx⟩) he
  · obtain ⟨qt, va, vb, rfl, _, hqt, da, db⟩ := dp_inv dv
    refine ⟨_, rfl, _, _, rfl, rfl, _, rfl, ?_⟩
    rw [decide_eq_true (show (0 : Int) < ((m' + 1 : Nat) : Int) by omega)]
    refine iteT ?_
    refine ⟨_, rfl, qt, _, 0, _, rfl, rfl, SqT.of hqt, rfl, rfl, _, rfl, ?_⟩
    rw [decide_eq_true rfl]
    refine iteT ?_
    refine ⟨fun σ' H' => ∃ m'', m'' < m' + 1 ∧ _, fun _ _ h => h, ?_⟩
    refine ⟨_, rfl, _, _, rfl, rfl, ?_⟩
    show gName 2 (V.int (((m' + 1 : Nat) : Int) - 1)) _ _ _
    rw [show (((m' + 1 : Nat) : Int) - 1) = (m' : Int) by omega]
    have hM : (0 : Int) < 2 ^ m' := Int.pow_pos (by decide)
    have hM2 : (2 : Int) ^ m' < 1073741824 := by
      have : (2 : Nat) ^ m' ≤ 2 ^ 4 := Nat.pow_le_pow_right (by decide) (by omega)
      have h2 : ((2 : Nat) ^ m' : Int) = (2 : Int) ^ m' := rfl
      have h3 : (((2 ^ m' : Nat)) : Int) = (2 : Int) ^ m' := by rw [Int.natCast_pow]; rfl
      omega
    refine ⟨_, rfl, _, rfl, m', rfl, rfl, by omega, _, _, rfl, rfl, ⟨hM, hM2⟩, _, 2, rfl, rfl, by show (0 : Int) < 2; decide, ?_⟩
    show gName 4 (V.int (k / 2 ^ m' % 2)) _ _ _
    have hb := bit01 k m'
    rcases hb with hb | hb
    · rw [hb]
      refine ⟨_, rfl, .inl ⟨rfl, _, SqL.of hO⟩, _, rfl, _, rfl, _, _, rfl, rfl, qt, _, _, vb, rfl, rfl, SqT.of hqt, rfl, O, ys, vb, rfl, rfl, hO, by omega, ?_⟩
      have kg := (Kp.lst (o := .lst (ys ++ [vb])) hO)
      have hO' : upd H1 O (.lst (ys ++ [vb])) O = some (.lst (ys ++ [vb])) := upd_same
      have hqt' := kg _ _ hqt True.intro
      refine ⟨_, rfl, _, rfl, _, _, rfl, rfl, qt, _, _, va, rfl, rfl, SqT.of hqt', rfl, ?_⟩
      refine ⟨m', Nat.lt_succ_self _, va, a, os ++ [b], ys ++ [vb], _, rfl, x1.mut nO, hO', (⟨hos.len, fun i v t x y => (hos.at_ i v t x y).mono kg.gr⟩ : DenL S0P _ ys os).append (DenL.one (db.mono kg.gr)), by rw [List.length_append]; show os.length + 1 + m' = d; omega, da.mono kg.gr, ra, fun t ht => ?_, fun os' e he => ?_⟩
      · rcases List.mem_append.mp ht with h | h
        · exact hdp t h
        · rw [List.mem_singleton.mp h]
          have := TrT.dep rb
          omega
      · rw [List.append_assoc]
        refine hc ([b] ++ os') e ?_
        show (if k / 2 ^ m' % 2 = 0 then forkT (climbT k m' os' e) b else forkT b (climbT k m' os' e)) = forkT a b
        rw [hb, if_pos rfl, he]
    · rw [hb]
      refine ⟨_, rfl, .inl ⟨rfl, _, SqL.of hO⟩, _, rfl, _, rfl, _, _, rfl, rfl, qt, _, _, va, rfl, rfl, SqT.of hqt, rfl, O, ys, va, rfl, rfl, hO, by omega, ?_⟩
      have kg := (Kp.lst (o := .lst (ys ++ [va])) hO)
      have hO' : upd H1 O (.lst (ys ++ [va])) O = some (.lst (ys ++ [va])) := upd_same
      have hqt' := kg _ _ hqt True.intro
      refine ⟨_, rfl, _, rfl, _, _, rfl, rfl, qt, _, _, vb, rfl, rfl, SqT.of hqt', rfl, ?_⟩
      refine ⟨m', Nat.lt_succ_self _, vb, b, os ++ [a], ys ++ [va], _, rfl, x1.mut nO, hO', (⟨hos.len, fun i v t x y => (hos.at_ i v t x y).mono kg.gr⟩ : DenL S0P _ ys os).append (DenL.one (da.mono kg.gr)), by rw [List.length_append]; show os.length + 1 + m' = d; omega, db.mono kg.gr, rb, fun t ht => ?_, fun os' e he => ?_⟩
      · rcases List.mem_append.mp ht with h | h
        · exact hdp t h
        · rw [List.mem_singleton.mp h]
          have := TrT.dep ra
          omega
      · rw [List.append_assoc]
        refine hc ([a] ++ os') e ?_
        show (if k / 2 ^ m' % 2 = 0 then forkT (climbT k m' os' e) a else forkT a (climbT k m' os' e)) = forkT a b
        rw [hb, if_neg (by decide), he]
end

/-! ### of one key: what has been shown true is one thing -/
def saidK (j : Nat) : Option Str := if j < 3 then some (ab j) else none
def claimK (k : Int) (dp : Int) (j : Nat) : BhCl := ⟨0, k, dp, saidK j⟩
def Wit (k : Int) (d : Nat) (t : Tm) (j : Nat) : Prop := ∃ (os : List Tm) (rr : List (Int × Str)), os.length ≤ d ∧ rr.length ≤ 1 ∧ climbT k d os (endT rr) = t ∧ endsB (claimK k d j) rr = true
theorem ab_inj {i j : Nat} (hi : i < 3) (hj : j < 3) (h : ab i = ab j) : i = j := by
  have : (i = 0 ∨ i = 1 ∨ i = 2) ∧ (j = 0 ∨ j = 1 ∨ j = 2) := by omega
  rcases this with ⟨rfl | rfl | rfl, rfl | rfl | rfl⟩ <;> first | rfl | exact absurd h (by decide +kernel)
theorem Wit.one {k : Int} {d : Nat} {t : Tm} {i j : Nat} (h : Wit k d t i) (h' : Wit k d t j) (hi : i < 4) (hj : j < 4) : i = j := by
  obtain ⟨os, rr, a1, a2, a3, a4⟩ := h
  obtain ⟨os', rr', b1, b2, b3, b4⟩ := h'
  have e := (climb_one k d os os' rr rr' a1 b1 a2 b2 (a3.trans b3.symm)).2
  subst e
  unfold claimK saidK at a4 b4
  by_cases ci : i < 3
  · rw [if_pos ci] at a4
    by_cases cj : j < 3
    · rw [if_pos cj] at b4
      cases rr with
      | nil => cases a4
      | cons e r =>
        have a4 : (decide (e.1 = k) && decide (e.2 = ab i)) = true := a4
        have b4 : (decide (e.1 = k) && decide (e.2 = ab j)) = true := b4
        rw [Bool.and_eq_true] at a4 b4
        exact ab_inj ci cj ((of_decide_eq_true a4.2).symm.trans (of_decide_eq_true b4.2))
    · rw [if_neg cj] at b4
      cases rr with
      | nil => cases a4
      | cons e r =>
        have a4 : (decide (e.1 = k) && decide (e.2 = ab i)) = true := a4
        have b4 : decide (e.1 ≠ k) = true := b4
        rw [Bool.and_eq_true] at a4
        exact absurd (of_decide_eq_true a4.1) (of_decide_eq_true b4)
  · rw [if_neg ci] at a4
    by_cases cj : j < 3
    · rw [if_pos cj] at b4
      cases rr with
      | nil => cases b4
      | cons e r =>
        have b4 : (decide (e.1 = k) && decide (e.2 = ab j)) = true := b4
        have a4 : decide (e.1 ≠ k) = true := a4
        rw [Bool.and_eq_true] at b4
        exact absurd (of_decide_eq_true b4.1) (of_decide_eq_true a4)
    · omega
theorem wit_judge {k dp : Int} {d j n : Nat} {t ht tt : Tm} {x : Str} {path : Option (List Tm)} {os : List Tm} {rr : List (Int × Str)} (e : tt = .sl "table" (.int (d : Int)) t) (hr : rr.length ≤ 1) (h : judgeB (claimK k dp j) n ht (some (x, tt, path, some (os, some rr))) = true) : Wit k d t j := by
  have h : (decide (1 ≤ dp ∧ dp ≤ 16) && (decide (0 ≤ k ∧ k < 2 ^ dp.toNat) && (judgeS 0 (.sl "leaf" (.str x) tt) n ht path && (decide (os.length ≤ dp.toNat) && (decide (Tm.sl "table" (.int dp) (climbT k dp.toNat os (endT rr)) = tt) && endsB (claimK k dp j) rr))))) = true := h
  simp only [Bool.and_eq_true] at h
  obtain ⟨_, _, _, h1, h2, h3⟩ := h
  have h1 := of_decide_eq_true h1
  have h2 := of_decide_eq_true h2
  rw [e] at h2
  have h4 := (Tm.sl.inj h2).2
  have h5 := Tm.int.inj h4.1
  subst h5
  rw [Int.toNat_natCast] at h1 h4
  exact ⟨os, rr, h1, hr, h4.2, h3⟩

/-- a paper of a key, by a part laid by hand -/
def PapL (H : Hp) (D tb : Addr) (d : Nat) (q : Addr) : Prop := ∃ (pl wq o : Addr) (ev : V) (os : List Tm) (rr : List (Int × Str)) (ys : List V), pl ≠ D ∧ o ≠ D ∧ H q = some (.tup [.str "a", .ref tb, .ref pl, .ref wq]) ∧ H pl = some (.lst []) ∧ H wq = some (.tup [.ref o, ev]) ∧ H o = some (.lst ys) ∧ DenL S0P H ys os ∧ os.length ≤ d ∧ (∀ t ∈ os, t.dep ≤ 5) ∧ EndV H ev rr
theorem PapL.ext {H H' : Hp} {D tb : Addr} {d : Nat} {q : Addr} (h : PapL H D tb d q) (x : Ext H H') : PapL H' D tb d q := by
  obtain ⟨pl, wq, o, ev, os, rr, ys, n1, n2, h1, h2, h3, h4, h5, h6, h7, h8⟩ := h
  exact ⟨pl, wq, o, ev, os, rr, ys, n1, n2, x.tup h1, x.lst h2, x.tup h3, x.lst h4, h5.up x, h6, h7, h8.gr x.gr⟩
theorem PapL.mut {H : Hp} {D tb : Addr} {d : Nat} {q : Addr} {xs : List V} {o' : HO} (h : PapL H D tb d q) (hD : H D = some (.lst xs)) : PapL (upd H D o') D tb d q := by
  obtain ⟨pl, wq, o, ev, os, rr, ys, n1, n2, h1, h2, h3, h4, h5, h6, h7, h8⟩ := h
  have kp := Kp.lst (o := o') hD
  exact ⟨pl, wq, o, ev, os, rr, ys, n1, n2, kp _ _ h1 True.intro, by rw [upd_ne n1]; exact h2, kp _ _ h3 True.intro, by rw [upd_ne n2]; exact h4, ⟨h5.len, fun i v t a b => (h5.at_ i v t a b).mono kp.gr⟩, h6, h7, h8.gr kp.gr⟩
theorem PapL.at_ {K : PySem.W.Frag} {H : Hp} {D tb fS : Addr} {d : Nat} {q : Addr} {tt : Tm} (h : PapL H D tb d q) (dt : DP H (.ref tb) tt) (hd : tt.dep ≤ 18) (h4 : d ≤ 4) : ∃ os rr, rr.length ≤ 1 ∧ PapAt K (plainSys tfP fS) H (.ref q) (some ("a", tt, some [], some (os, some rr))) := by
  obtain ⟨pl, wq, o, ev, os, rr, ys, n1, n2, h1, h2, h3, h4, h5, h6, h7, h8⟩ := h
  refine ⟨os, rr, ?_, q, .ref tb, .ref pl, .ref wq, rfl, h1, by decide +kernel, dt, WS.any _, hd, ⟨⟨pl, [], rfl, h2, DenL.nil, by show 0 ≤ 100; decide, fun t h => nomatch h⟩, fun z => nomatch z⟩, wq, o, ev, ys, rfl, h3, h4, ⟨h5.len, h5.at_⟩, fun t ht => ⟨WS.any _, Nat.le_trans (h7 t ht) (by decide)⟩, by omega, h8⟩
  rcases h8 with ⟨rfl, _⟩ | ⟨x, qe, rfl, _⟩
  · exact Nat.zero_le _
  · exact Nat.le_refl _
theorem ExtO.putL {p : Addr} {H : Hp} {xs : List V} {o : HO} (h : H p = some (.lst xs)) : ExtO p H (upd H p o) := by
  refine ⟨fun a u q e _ => by rw [upd_ne q]; exact e, fun a kvs e => ⟨[], ?_⟩, (Kp.lst h).gr⟩
  rw [List.append_nil, upd_ne]
  · exact e
  · rintro rfl
    rw [h] at e
    cases e
theorem eqV_intS (i : Int) : eqV (.int i) (.int i) = true := by simp [eqV]
theorem flat_ints : ∀ js : List Nat, (js.map fun j : Nat => V.int (j : Int)).all flatV = true
  | [] => rfl
  | _ :: js => flat_ints js
/-- a claim laid -/
def ClAt (CH CL : Addr) (H : Hp) (c : BhCl) (v : V) : Prop := ∃ cp gdx, v = .ref cp ∧ H cp = some (.ins (clB CH CL c) gdx (bhF c))
theorem ClAt.ext {CH CL : Addr} {H H' : Hp} {c : BhCl} {v : V} (h : ClAt CH CL H c v) (x : Ext H H') : ClAt CH CL H' c v := by
  obtain ⟨cp, gdx, rfl, h⟩ := h
  exact ⟨cp, gdx, rfl, x.ins h⟩
theorem ClAt.exo {CH CL p : Addr} {H H' : Hp} {c : BhCl} {v : V} {xs : List V} (h : ClAt CH CL H c v) (hp : H p = some (.lst xs)) (x : ExtO p H H') : ClAt CH CL H' c v := by
  obtain ⟨cp, gdx, rfl, h⟩ := h
  exact ⟨cp, gdx, rfl, x.ins (fun z => by rw [z, hp] at h; cases h) h⟩
section
variable {P : Program} {w : World} {K : PySem.W.Frag} {mg : Str → Option Value} {base : Heap} {CS CH CL C_Behind : Addr}
theorem ok_lkeys {cc fS : Addr} (T : Txt K mg cc) (mS : mg "_law_seal" = some (.ref fS)) (D : ClsM K mg C_Behind "Behind" "__init__" "Behind.__init__" s_Behind___init__ ["self", "place", "key", "depth"]) (KS : K_Stands K mg CS) (KH : K_Holds K mg CH) (KL : K_Lacks K mg CL) : Cal P w K mg base 12 "_law_keys" spTrue1 [] := by
  have Z := T.Z
  have A := sla1 (P := P) (w := w) (base := base) T
  have C__law_draw := ok_draw (P := P) (w := w) (base := base) T
  have C__law_tree := ok_ltree (P := P) (w := w) (base := base) T 6
  have C__law_down := ok_ldown (P := P) (w := w) (base := base) T
  have C_Holds := ok_hoinit (P := P) (w := w) (base := base) D KH
  have C_Lacks := ok_lkinit (P := P) (w := w) (base := base) KL
  have M_judged := ok_csB T A (fun {S} h => inj1 h) KS KH KL
  refine cal_of T.d__law_keys sc__law_keys (fun vs H Q E h => ?_) (fun f cdv A' outer s H vs Q E hr h => ?_)
  · obtain ⟨c, rfl, _⟩ := h
    rfl
  obtain ⟨c, rfl, q⟩ := h
  have hu := hu_of hr
  have e16 : sizeLine = 16777216 := sizeLine_eq
  refine ⟨_, (pss_cons (ps_set (i := 1) sc__law_keys.nd rfl (Or.inr rfl) (pe_op op_add pe_int (pe_c C__law_draw hr (by omega) rfl (pa_cons (pv 0) (pa_cons pe_int (pa_cons pe_int pa_nil))))))
  (pss_cons (ps_set (i := 2) sc__law_keys.nd rfl (Or.inr rfl) (pe_c C__law_tree hr (by omega) rfl (pa_cons (pv 0) (pa_cons (pv 1) pa_nil))))
  (pss_cons (ps_set (i := 3) sc__law_keys.nd rfl (Or.inr rfl) (pe_tup (pa_cons pe_str (pa_cons (pv 1) (pa_cons (pv 2) pa_nil)))))
  (pss_cons (ps_set (i := 4) sc__law_keys.nd rfl (Or.inr rfl) (pe_tup (pa_cons pe_str (pa_cons pe_int (pa_cons (pe_tup (pa_cons pe_str (pa_cons pe_str (pa_cons (pv 3) pa_nil)))) pa_nil)))))
  (pss_cons (ps_for PassesOwn.never rfl (pi_tup (pe_tup (pa_cons (pe_c C__law_draw hr (by omega) rfl (pa_cons (pv 0) (pa_cons pe_int (pa_cons (pe_op op_oneShl pe_int (pv 1)) pa_nil)))) (pa_cons (pe_c C__law_draw hr (by omega) rfl (pa_cons (pv 0) (pa_cons pe_int (pa_cons (pe_op op_oneShl pe_int (pv 1)) pa_nil)))) pa_nil)))) (pg_name (i := 5) sc__law_keys.nd rfl (Or.inr rfl)) (pss_cons (ps_setLc (i := 6) (own := [("_law_near", 12)]) (g := gName 12) (tt := tYes) rfl sc__law_keys.nd rfl rfl (sw_true rfl rfl rfl (by decide +kernel)) (pi_tup (pe_tup (pa_cons (pv 5) (pa_cons (pe_op op_xor (pv 5) pe_int) pa_nil)))) (blkOk_by (N := N__law_keys) (sc := defScope s__law_keys) (by decide +kernel)) (fun _ _ _ _ _ => (pg_name (i := 12) sc__law_keys.nd rfl (Or.inl rfl))) (fun _ _ _ _ _ => pts_nil) (fun _ _ _ _ _ => (pe_tup (pa_cons pe_str (pa_cons (pv 3) (pa_cons (pe_lst pa_nil) (pa_cons (pe_c C__law_down hr (by omega) rfl (pa_cons (pv 2) (pa_cons (pv 12) (pa_cons (pv 1) pa_nil)))) pa_nil)))))))
  (pss_cons (ps_set (i := 7) sc__law_keys.nd rfl (Or.inl rfl) (pe_lst pa_nil))
  (pss_cons (ps_for PassesOwn.never rfl (pi_tup (pe_tup (pa_cons (pv 1) (pa_cons (pe_op op_add (pv 1) pe_int) pa_nil)))) (pg_name (i := 8) sc__law_keys.nd rfl (Or.inr rfl)) (pss_cons (ps_set (i := 10) sc__law_keys.nd rfl (Or.inr rfl) (pe_op op_cat (pe_lc (own := [("_law_k", 9)]) (g := gName 9) (tt := tYes) rfl sc__law_keys.nd (pi_range1 rfl Z.range (pa_cons pe_int pa_nil)) (blkOk_by (N := N__law_keys) (sc := defScope s__law_keys) (by decide +kernel)) (fun _ _ _ _ _ => (pg_name (i := 9) sc__law_keys.nd rfl (Or.inl rfl))) (fun _ _ _ _ _ => pts_nil) (fun _ _ _ _ _ => (pe_mk C_Holds hr (by omega) rfl (pa_cons pe_int (pa_cons (pv 5) (pa_cons (pe_slice sl_str pe_str po_none (po_some (pv 9))) (pa_cons (pv 8) pa_nil))))))) (pe_lst (pa_cons (pe_mk C_Lacks hr (by omega) rfl (pa_cons pe_int (pa_cons (pv 5) (pa_cons (pv 8) pa_nil)))) pa_nil))))
  (pss_one (ps_for PassesOwn.never rfl (pi_range1 rfl Z.range (pa_cons pe_int pa_nil)) (pg_name (i := 9) sc__law_keys.nd rfl (Or.inr rfl)) (pss_cons (ps_setLc (i := 11) (own := [("_law_paper", 13)]) (g := gName 13) (tt := tYes) rfl sc__law_keys.nd rfl rfl (sw_true rfl rfl rfl (by decide +kernel)) (pi_list (pv 6)) (blkOk_by (N := N__law_keys) (sc := defScope s__law_keys) (by decide +kernel)) (fun _ _ _ _ _ => (pg_name (i := 13) sc__law_keys.nd rfl (Or.inl rfl))) (fun _ _ _ _ _ => pts_nil) (fun _ _ _ _ _ => (pe_mta M_judged takes0 hr (by omega) (pe_ix (r := rIxL K) ix_list (pv 10) (pv 9) (fun _ _ => rfl)) (pa_cons (pe_glob (v := .ref fS) rfl mS rfl) (pa_cons pe_int (pa_cons (pv 4) (pa_cons (pv 13) pa_nil)))))))
  (pss_one (ps_if (PW.pt (pw_and (pt_cmpR op_in_seq pe_bl (pv 11) (by rfl)) (pw_and1 (pt_cmpR op_notIn_seq (pv 9) (pv 7) (by rfl))))) (pss_one (ps_expr (pe_bm PySem.F.plainAttrs_list PySem.F.slot_list_append PySem.F.type_list_append mt_append (pv 7) (pa_cons (pv 9) pa_nil)))) pss_nil)))))))
  (pss_one (ps_if (pt_cmpR op_gt (pe_callB call_len_seq rfl Z.len PySem.boot_len (pa_cons (pv 7) pa_nil)) pe_int (nomark _)) (pss_one (ps_ret pe_bl)) pss_nil))))))
  (pss_one (ps_ret pe_bl))))))), ?_⟩
  have hF : Fam1 mg (plainSys tfP fS) := ⟨fS, mS, rfl⟩
  have G := A.good hF
  refine ⟨_, rfl, _, _, _, rfl, by decide, by decide, by decide, fun z1 H1 z10 z11 s1 => ⟨_, _, rfl, rfl, ?_⟩⟩
  obtain ⟨d, hd, d0, d4⟩ : ∃ d : Nat, (1 : Int) + z1 = (d : Int) ∧ 0 < d ∧ d ≤ 4 := ⟨(1 + z1).toNat, by omega, by omega, by omega⟩
  show gName 1 (V.int (1 + z1)) _ _ _
  rw [hd]
  clear hd z10 z11
  refine ⟨_, rfl, _, rfl, c, d, by omega, rfl, fun tv t H2 x2 dt rt => ?_⟩
  refine ⟨_, rfl, _, rfl, by show 3 ≤ sizeLine; decide, fun TB nTB => ?_⟩
  have w1 := Ext.new (o := .tup [.str "table", .int (d : Int), tv]) nTB
  have hTB : upd H2 TB (.tup [.str "table", .int (d : Int), tv]) TB = some (.tup [.str "table", .int (d : Int), tv]) := upd_same
  generalize upd H2 TB (.tup [.str "table", .int (d : Int), tv]) = H3 at w1 hTB ⊢
  have dTB : DP H3 (.ref TB) (.sl "table" (.int (d : Int)) t) := dp_sl (by decide +kernel) hTB (.int _) (dt.mono w1.gr)
  refine ⟨_, rfl, by show 3 ≤ sizeLine; decide, fun LF nLF => ?_⟩
  have w2 := Ext.new (o := .tup [.str "leaf", .str "a", .ref TB]) nLF
  have hLF : upd H3 LF (.tup [.str "leaf", .str "a", .ref TB]) LF = some (.tup [.str "leaf", .str "a", .ref TB]) := upd_same
  generalize upd H3 LF (.tup [.str "leaf", .str "a", .ref TB]) = H4 at w2 hLF ⊢
  have dLF : DP H4 (.ref LF) (.sl "leaf" (.str "a") (.sl "table" (.int (d : Int)) t)) := dp_sl (by decide +kernel) hLF (.str _ (by decide +kernel)) (dTB.mono w2.gr)
  refine ⟨by show 3 ≤ sizeLine; decide, fun HD nHD => ?_⟩
  have w3 := Ext.new (o := .tup [.str "book", .int 1, .ref LF]) nHD
  have hHD : upd H4 HD (.tup [.str "book", .int 1, .ref LF]) HD = some (.tup [.str "book", .int 1, .ref LF]) := upd_same
  generalize upd H4 HD (.tup [.str "book", .int 1, .ref LF]) = H5 at w3 hHD ⊢
  have dHD : DP H5 (.ref HD) (.sl "book" (.int 1) (.sl "leaf" (.str "a") (.sl "table" (.int (d : Int)) t))) := dp_sl (by decide +kernel) hHD (.int _) (dLF.mono w3.gr)
  have dTB5 := dTB.mono (w2.trans w3).gr
  have dt5 := dt.mono ((w1.trans w2).trans w3).gr
  have x5 := (((Ext.of_same s1).trans x2).trans w1).trans (w2.trans w3)
  have tdep := rt.dep
  have ttd : (Tm.sl "table" (.int (d : Int)) t).dep ≤ 7 := by show max 0 t.dep + 1 ≤ 7; omega
  have ydep : (Tm.sl "leaf" (.str "a") (.sl "table" (.int (d : Int)) t)).dep ≤ 8 := by
    show max 0 (Tm.sl "table" (.int (d : Int)) t).dep + 1 ≤ 8; omega
  clear hTB hLF hHD nTB nLF nHD w1 w2 w3 dTB dLF dt
  have p2 : (0 : Int) < 2 ^ d := Int.pow_pos (by decide)
  refine ⟨_, rfl, _, rfl, d, rfl, rfl, by omega, _, _, _, rfl, by decide, by decide, p2, fun k1 H6 k10 k11 s6 => ⟨_, rfl, _, rfl, d, rfl, rfl, by omega, _, _, _, rfl, by decide, by decide, p2, fun k2 H7 k20 k21 s7 => ⟨by show 2 ≤ sizeLine; decide, fun KT nKT => ?_⟩⟩⟩
  have w4 := Ext.new (o := .tup [.int k1, .int k2]) nKT
  have hKT : upd H7 KT (.tup [.int k1, .int k2]) KT = some (.tup [.int k1, .int k2]) := upd_same
  generalize upd H7 KT (.tup [.int k1, .int k2]) = H8 at w4 hKT ⊢
  have x8 := ((Ext.of_same (s6.trans s7)).trans w4)
  refine ⟨KT, rfl, ⟨_, SqT.of hKT⟩, for_tup (K := K) (a := KT) (xs := [.int k1, .int k2]) (fun i σ H' => ∃ (y5 y6 y7 y8 y9 y10 y11 : Option V), σ = [some (.int c), some (.int (d : Int)), some tv, some (.ref TB), some (.ref HD), y5, y6, y7, y8, y9, y10, y11, none, none] ∧ Ext H8 H') ⟨none, none, none, none, none, none, none, rfl, Ext.refl _⟩ (fun i σ H' _ ⟨_, _, _, _, _, _, _, _, x⟩ => SqT.of (x.tup hKT)) ?_ ?_⟩
  · rintro i kv σ H9 hi ⟨y5, y6, y7, y8, y9, y10, y11, rfl, x9⟩
    obtain ⟨k, rfl, k0, kd⟩ : ∃ k : Int, kv = .int k ∧ 0 ≤ k ∧ k < 2 ^ d := by
      rcases List.mem_cons.mp (List.mem_of_getElem? hi) with h | h
      · exact ⟨k1, h, k10, k11⟩
      · exact ⟨k2, List.mem_singleton.mp h, k20, k21⟩
    -- the papers
    refine ⟨_, rfl, _, rfl, _, _, rfl, rfl, by show 2 ≤ sizeLine; decide, fun NT nNT => ?_⟩
    have w1 := Ext.new (o := .tup [.int k, .int (Builtin.bitXor k 1)]) nNT
    have hNT : upd H9 NT (.tup [.int k, .int (Builtin.bitXor k 1)]) NT = some (.tup [.int k, .int (Builtin.bitXor k 1)]) := upd_same
    generalize upd H9 NT (.tup [.int k, .int (Builtin.bitXor k 1)]) = H10 at w1 hNT ⊢
    have x10 := x8.trans (x9.trans w1)
    refine ⟨NT, rfl, ⟨_, SqT.of hNT⟩, fun PL nPL => ?_⟩
    refine lc_tup (K := K) (a := NT) (xs := [.int k, .int (Builtin.bitXor k 1)]) (fun j H' => ∃ (qs : List Addr), qs.length = j ∧ Ext H10 H' ∧ H' PL = some (.lst (qs.map V.ref)) ∧ ∀ q ∈ qs, PapL H' PL TB d q) ⟨[], rfl, Ext.new nPL, upd_same, fun q h => nomatch h⟩ (fun j H' _ ⟨_, _, x, _⟩ => SqT.of (x.tup hNT)) ?_ ?_
    · rintro j nv H' hj ⟨qs, rfl, x, hPL, hqs⟩
      have jl : qs.length < 2 := (List.getElem?_eq_some_iff.mp hj).1
      obtain ⟨near, rfl⟩ : ∃ z : Int, nv = .int z := by
        rcases List.mem_cons.mp (List.mem_of_getElem? hj) with h | h
        · exact ⟨_, h⟩
        · exact ⟨_, List.mem_singleton.mp h⟩
      refine ⟨rfl, _, rfl, by show 0 ≤ sizeLine; decide, fun pl npl => ?_⟩
      have u1 := Ext.new (o := .lst []) npl
      have hpl : upd H' pl (.lst []) pl = some (.lst []) := upd_same
      have npl2 := ne_of_none hPL npl
      generalize upd H' pl (.lst []) = H11 at u1 hpl ⊢
      refine ⟨_, rfl, _, rfl, _, rfl, tv, t, near, d, rfl, dt5.mono ((x10.trans x).trans u1).gr, rt, d4, fun wq o ev os rr ys H12 x12 no hwq ho hos hol hod hev _ => ?_⟩
      refine ⟨by show 4 ≤ sizeLine; decide, fun q1 nq1 => ?_⟩
      have u2 := Ext.new (o := .tup [.str "a", .ref TB, .ref pl, .ref wq]) nq1
      have hq1 : upd H12 q1 (.tup [.str "a", .ref TB, .ref pl, .ref wq]) q1 = some (.tup [.str "a", .ref TB, .ref pl, .ref wq]) := upd_same
      generalize upd H12 q1 (.tup [.str "a", .ref TB, .ref pl, .ref wq]) = H13 at u2 hq1 ⊢
      have x13 := (u1.trans x12).trans u2
      have hPL13 := x13.lst hPL
      refine ⟨_, hPL13, by rw [List.length_map]; omega, qs ++ [q1], by rw [List.length_append]; rfl, (x.trans x13).mut nPL, by rw [upd_same, List.map_append]; rfl, fun q hq => ?_⟩
      rcases List.mem_append.mp hq with h | h
      · exact ((hqs q h).ext x13).mut hPL13
      · rw [List.mem_singleton.mp h]
        exact PapL.mut ⟨pl, wq, o, ev, os, rr, ys, npl2.symm, (ne_of_none (u1.lst hPL) no).symm, hq1, (x12.trans u2).lst hpl, u2.tup hwq, u2.lst ho, hos.up u2, hol, hod, hev.gr u2.gr⟩ hPL13
    rintro H11 ⟨qs, hql, x11, hPL, hqs⟩
    have hql : qs.length = 2 := hql
    -- none shown yet
    refine ⟨by show 0 ≤ sizeLine; decide, fun SH nSH => ?_⟩
    have hSH : upd H11 SH (.lst []) SH = some (.lst []) := upd_same
    have u1 := Ext.new (o := .lst []) nSH
    have hPLx := u1.lst hPL
    generalize upd H11 SH (.lst []) = H12 at hSH u1 hPLx ⊢
    have x12 := x10.trans (x11.trans u1)
    have y12 := x11.trans u1
    refine ⟨_, rfl, _, rfl, _, _, rfl, rfl, by show 2 ≤ sizeLine; decide, fun DT nDT => ?_⟩
    have u2 := Ext.new (o := .tup [.int (d : Int), .int ((d : Int) + 1)]) nDT
    have hDT : upd H12 DT (.tup [.int (d : Int), .int ((d : Int) + 1)]) DT = some (.tup [.int (d : Int), .int ((d : Int) + 1)]) := upd_same
    generalize upd H12 DT (.tup [.int (d : Int), .int ((d : Int) + 1)]) = H13 at u2 hDT ⊢
    refine ⟨DT, rfl, ⟨_, SqT.of hDT⟩, for_tup (K := K) (a := DT) (xs := [.int (d : Int), .int ((d : Int) + 1)]) (fun i σ H' => ∃ (y8 y9 y10 y11 : Option V) (js : List Nat), σ = [some (.int c), some (.int (d : Int)), some tv, some (.ref TB), some (.ref HD), some (.int k), some (.ref PL), some (.ref SH), y8, y9, y10, y11, none, none] ∧ Ext H11 H' ∧ Gr H13 H' ∧ H' SH = some (.lst (js.map fun j : Nat => V.int (j : Int))) ∧ js.length ≤ 1 ∧ ∀ j ∈ js, j < 4 ∧ Wit k d t j) ⟨_, _, _, _, [], rfl, u1.trans u2, Gr.refl _, u2.lst hSH, by decide, fun j h => nomatch h⟩ (fun i σ H' _ ⟨_, _, _, _, _, _, _, g, _⟩ => SqT.of (g.keep _ _ hDT True.intro (fun _ z => nomatch z))) ?_ ?_⟩
    · rintro i dv σ H14 hi2 ⟨y8, y9, y10, y11, js, rfl, x14, g14, hSH14, hjl, hjs⟩
      obtain ⟨dp, rfl⟩ : ∃ z : Int, dv = .int z := by
        rcases List.mem_cons.mp (List.mem_of_getElem? hi2) with h | h
        · exact ⟨_, h⟩
        · exact ⟨_, List.mem_singleton.mp h⟩
      -- the claims
      refine ⟨3, rfl, by omega, by omega, fun CC nCC => ?_⟩
      refine lc_range (fun i H' => ∃ (vs : List V), vs.length = i ∧ Ext H14 H' ∧ H' CC = some (.lst vs) ∧ ∀ j v, vs[j]? = some v → ClAt CH CL H' (claimK k dp j) v) ⟨[], rfl, Ext.new nCC, upd_same, fun j v h => by rw [List.getElem?_nil] at h; cases h⟩ ?_ ?_
      · rintro i H' hi3 ⟨vs, rfl, x, hCC, hvs⟩
        have hi3 : vs.length < 3 := hi3
        obtain ⟨e1, e2, _⟩ := ab_cut (z := (vs.length : Int)) (by omega) (by omega)
        rw [Int.toNat_natCast] at e1 e2
        refine ⟨rfl, ?_⟩
        rw [Int.zero_add]
        refine ⟨_, rfl, _, rfl, _, rfl, _, rfl, by decide +kernel, ?_⟩
        rw [e1]
        refine ⟨_, rfl, fun cp cdx ncp ncdx nce => ?_⟩
        have y1 : Ext H' (upd (upd H' cdx (.own cp)) cp (.ins CH cdx [])) := (Ext.new ncdx).trans (Ext.new (by rw [upd_ne nce.symm]; exact ncp))
        refine ⟨cp, cdx, 0, k, dp, ab vs.length, rfl, upd_same, fun H'' xo kp hcp => ⟨rfl, ?_⟩⟩
        have y2 := xo.ext y1 ncp
        have hCC' := y2.lst hCC
        have e3 : claimK k dp vs.length = ⟨0, k, dp, some (ab vs.length)⟩ := by
          unfold claimK saidK
          rw [if_pos hi3]
        refine ⟨vs, hCC', by omega, vs ++ [.ref cp], by rw [List.length_append]; rfl, (x.trans y2).mut nCC, upd_same, fun j v hj => ?_⟩
        by_cases cj : j < vs.length
        · rw [List.getElem?_append_left cj] at hj
          exact ((hvs j v hj).ext y2).exo hCC' (ExtO.putL hCC')
        · rw [List.getElem?_append_right (by omega)] at hj
          cases hjj : j - vs.length with
          | zero =>
            rw [hjj] at hj
            cases hj
            obtain rfl : j = vs.length := by omega
            refine ClAt.exo (xs := vs) ⟨cp, cdx, rfl, ?_⟩ hCC' (ExtO.putL hCC')
            rw [e3]
            exact hcp
          | succ n =>
            rw [hjj] at hj
            simp at hj
      rintro H15 ⟨vs, hvl, x15, hCC, hvs⟩
      have hvl : vs.length = 3 := hvl
      refine ⟨_, rfl, _, rfl, fun cp cdx ncp ncdx nce => ?_⟩
      have y1 : Ext H15 (upd (upd H15 cdx (.own cp)) cp (.ins CL cdx [])) := (Ext.new ncdx).trans (Ext.new (by rw [upd_ne nce.symm]; exact ncp))
      refine ⟨cp, cdx, 0, k, dp, rfl, upd_same, fun H16 xo kp hcp => ⟨rfl, by show 1 ≤ sizeLine; decide, fun LL nLL => ?_⟩⟩
      have y2 := xo.ext y1 ncp
      have y3 := Ext.new (o := .lst [.ref cp]) nLL
      have hLL : upd H16 LL (.lst [.ref cp]) LL = some (.lst [.ref cp]) := upd_same
      generalize upd H16 LL (.lst [.ref cp]) = H17 at y3 hLL ⊢
      refine ⟨CC, LL, vs, [.ref cp], rfl, rfl, (y2.trans y3).lst hCC, hLL, by rw [hvl]; show 4 ≤ sizeLine; decide, fun CLs nCLs => ?_⟩
      have y4 := Ext.new (o := .lst (vs ++ [.ref cp])) nCLs
      have hCLs : upd H17 CLs (.lst (vs ++ [.ref cp])) CLs = some (.lst (vs ++ [.ref cp])) := upd_same
      have nSHC : CLs ≠ SH := (ne_of_none (((x15.trans y2).trans y3).lst hSH14) nCLs).symm
      generalize upd H17 CLs (.lst (vs ++ [.ref cp])) = H18 at y4 hCLs ⊢
      have hall : ∀ j v, (vs ++ [V.ref cp])[j]? = some v → ClAt CH CL H18 (claimK k dp j) v := fun j v hj => by
        by_cases cj : j < vs.length
        · rw [List.getElem?_append_left cj] at hj
          exact (hvs j v hj).ext ((y2.trans y3).trans y4)
        · rw [List.getElem?_append_right (by omega)] at hj
          cases hjj : j - vs.length with
          | zero =>
            rw [hjj] at hj
            cases hj
            obtain rfl : j = 3 := by omega
            exact ClAt.ext (H := H16) ⟨cp, cdx, rfl, hcp⟩ (y3.trans y4)
          | succ n =>
            rw [hjj] at hj
            simp at hj
      have hcl : (vs ++ [V.ref cp]).length = 4 := by rw [List.length_append, hvl]; rfl
      have x18 := ((x15.trans y2).trans y3).trans y4
      clear hvs hLL nLL hcp xo kp y1
      generalize vs ++ [V.ref cp] = cs at hCLs hall hcl
      have hSH18 := x18.lst hSH14
      refine ⟨4, rfl, by omega, by omega, for_range (fun i σ H' => ∃ (y9 y11 : Option V) (js : List Nat), σ = [some (.int c), some (.int (d : Int)), some tv, some (.ref TB), some (.ref HD), some (.int k), some (.ref PL), some (.ref SH), some (.int dp), y9, some (.ref CLs), y11, none, none] ∧ Ext H11 H' ∧ ExtO SH H18 H' ∧ H' SH = some (.lst (js.map fun j : Nat => V.int (j : Int))) ∧ js.length ≤ 1 ∧ ∀ j ∈ js, j < 4 ∧ Wit k d t j) ⟨_, _, js, rfl, x14.trans x18, (Ext.refl _).o, hSH18, hjl, hjs⟩ ?_ ?_⟩
      · rintro i σ H19 hi4 ⟨y9, y11, js, rfl, x19, xo, hSH19, hjl, hjs⟩
        rw [Int.zero_add]
        have hPL19 := x19.lst hPL
        obtain ⟨v, hv⟩ : ∃ v, cs[i]? = some v := ⟨cs[i]'(by omega), List.getElem?_eq_getElem _⟩
        obtain ⟨cp, gdx, rfl, hcp⟩ := (hall i v hv).exo hSH18 xo
        have hCL19 := xo.lst nSHC hCLs
        refine ⟨_, rfl, PL, rfl, ⟨_, SqL.of hPL19⟩, fun D2 nD2 => ?_⟩
        refine lc_list (K := K) (xs := qs.map V.ref) (fun j H' => ∃ (bs : List Bool), bs.length = j ∧ Ext H19 H' ∧ H' D2 = some (.lst (bs.map V.bl)) ∧ (true ∈ bs → Wit k d t i)) ⟨[], rfl, Ext.new nD2, upd_same, fun h => nomatch h⟩ (fun j H' _ ⟨_, _, x, _⟩ => SqL.of (x.lst hPL19)) ?_ ?_
        · rintro j pv H' hj ⟨bs, rfl, x, hD2, hbs⟩
          rw [List.getElem?_map] at hj
          obtain ⟨pq, hpq, rfl⟩ := Option.map_eq_some_iff.mp hj
          have jl : bs.length < 2 := by
            have := (List.getElem?_eq_some_iff.mp hpq).1
            omega
          have x5' := (x10.trans x11).trans ((Ext.refl H11).trans (x19.trans x))
          obtain ⟨os, rr, hrr, hpap⟩ := ((hqs pq (List.mem_of_getElem? hpq)).ext (x19.trans x)).at_ (K := K) (fS := fS) (dTB5.mono x5'.gr) (by omega) d4
          have hcp' := x.ins hcp
          refine ⟨rfl, _, rfl, _, rfl, CLs, cs, _, .ref cp, rfl, rfl, SqL.of (x.lst hCL19), atI_nat hv, ?_⟩
          refine ⟨clB CH CL (claimK k dp i), _, cp, gdx, _, csB_at K CH CL (Fam1 mg) (claimK k dp i), rfl, hcp', (bhF_no _).1, _, rfl, _, rfl, plainSys tfP fS, cp, gdx, claimK k dp i, 1, 1, .sl "leaf" (.str "a") (.sl "table" (.int (d : Int)) t), .ref HD, .ref pq, _, 0, hF, rfl, hcp', rfl, by omega, dHD.mono x5'.gr, WS.any _, by omega, hpap, True.intro, fun Hf xf _ => ?_⟩
          refine ⟨_, xf.lst hD2, by rw [List.length_map]; omega, bs ++ [_], by rw [List.length_append]; rfl, (x.trans xf).mut nD2, by rw [upd_same, List.map_append]; rfl, fun hm => ?_⟩
          rcases List.mem_append.mp hm with h | h
          · exact hbs h
          · exact wit_judge rfl hrr (List.mem_singleton.mp h).symm
        rintro H20 ⟨bs, hbl, x20, hD2, hbs⟩
        have hSH20 := x20.lst hSH19
        have xo20 := xo.trans x20.o
        have x20' := x19.trans x20
        refine ⟨_, rfl, D2, bs.map V.bl, rfl, .inl (SqL.of hD2), rfl, flat_bl bs, _, rfl, ite2 (fun ct => ?_) (fun ct => ?_)⟩
        · have hw := hbs (inV_true bs ct)
          refine ⟨_, rfl, _, rfl, SH, _, rfl, .inl (SqL.of hSH20), rfl, flat_ints js, _, rfl, ite2 (fun cn => ?_) (fun cn => ?_)⟩
          · have hnil : js = [] := by
              cases js with
              | nil => rfl
              | cons j r =>
                have h4 := hjs j List.mem_cons_self
                obtain rfl := Wit.one hw h4.2 (by omega) h4.1
                have cn : (!(eqV (.int (i : Int)) (.int (i : Int)) || inV (.int (i : Int)) (r.map fun j : Nat => V.int (j : Int)))) = true := cn
                rw [eqV_intS] at cn
                cases cn
            subst hnil
            refine ⟨_, rfl, .inl ⟨rfl, _, SqL.of hSH20⟩, _, rfl, SH, [], .int (i : Int), rfl, rfl, hSH20, by show 0 < sizeLine; omega, ?_⟩
            refine ⟨_, _, [i], rfl, x20'.mut ?_, xo20.trans (ExtO.putL hSH20), upd_same, Nat.le_refl 1, fun j hj => ?_⟩
            · exact nSH
            · rw [List.mem_singleton.mp hj]
              exact ⟨hi4, hw⟩
          · exact ⟨_, _, js, rfl, x20', xo20, hSH20, hjl, hjs⟩
        · exact ⟨_, _, js, rfl, x20', xo20, hSH20, hjl, hjs⟩
      · rintro σ H19 ⟨y9, y11, js, rfl, x19, xo, hSH19, hjl, hjs⟩
        exact ⟨_, _, _, _, js, rfl, x19, (g14.trans x18.gr).trans xo.gr, hSH19, hjl, hjs⟩
    · rintro σ H14 ⟨y8, y9, y10, y11, js, rfl, x14, g14, hSH14, hjl, hjs⟩
      refine ⟨_, rfl, SH, _, rfl, .inl (SqL.of hSH14), _, _, rfl, rfl, _, rfl, ?_⟩
      rw [decide_eq_false (show ¬ (1 : Int) < ((js.map fun j : Nat => V.int (j : Int)).length : Int) by rw [List.length_map]; omega)]
      refine iteF ?_
      exact ⟨_, _, _, _, _, _, _, rfl, ((x9.trans w1).trans x11).trans x14⟩
  · rintro σ H9 ⟨y5, y6, y7, y8, y9, y10, y11, rfl, x9⟩
    exact q H9 (x5.trans (x8.trans x9))
end

/-! ### a list compared with an empty one: the lengths alone -/
def rNeNil : R2 := fun x y H Q => ∃ (a b : Addr) (xs : List V), x = .ref a ∧ y = .ref b ∧ H a = some (.lst xs) ∧ H b = some (.lst []) ∧ Q (.bl (!xs.isEmpty)) H
theorem op_neNil {X : Cx} (hu : X.A.units + 64 < cLine) : OpR X (compareOp .NotEq) rNeNil := by
  intro pins s σ H x y v u Q I rx ry h
  obtain ⟨a, b, xs, rfl, rfl, ha, hb, q⟩ := h
  cases rx
  cases ry
  obtain ⟨_, its, n, r, hl, e⟩ := I.lstM ha
  obtain ⟨_, its2, n2, r2, hl2, e2⟩ := I.lstM hb
  cases r2
  have la : s.heap.IsList a its.toArray := ⟨_, e, rfl, _, rfl⟩
  have lb : s.heap.IsList b #[] := ⟨_, e2, rfl, _, rfl⟩
  cases xs with
  | nil =>
    cases r
    exact SeqAt.RcNeAt.lists (e := fun _ => true) la lb rfl (by omega) (fun j h1 _ => absurd h1 (by simp)) _ _ _ _ ⟨.bl _, H, I, rfl, q⟩
  | cons x xs =>
    have hz : (its.toArray.size != (#[] : Array Value).size) = true := by
      rw [List.size_toArray, ← hl]
      rfl
    exact SeqAt.RcNeAt.lists_lengths la lb hz (by omega) _ _ _ _ ⟨.bl _, H, I, rfl, q⟩

section
variable {P : Program} {w : World} {K : PySem.W.Frag} {mg : Str → Option Value} {base : Heap}
theorem DenL.tk {H : Hp} {vs : List V} {ts : List Tm} (n : Nat) (h : DenL S0P H vs ts) : DenL S0P H (vs.take n) (ts.take n) := DenL.take n h
def spTop14 (k : Nat) : Sp := fun vs H Q _ => ∃ (a : Addr) (xs : List V) (ts : List Tm), k ≠ 0 ∧ vs = [.ref a] ∧ H a = some (.lst xs) ∧ DenL S0P H xs ts ∧ ts.length ≤ 2 ^ (k - 1) ∧ ts.length ≤ 1000 ∧ ∀ v H', Ext H H' → DP H' v (topT ts) → Q v H'
theorem ok_ltop1 {cc : Addr} {k : Nat} (T : Txt K mg cc) (C__law_top : Cal P w K mg base (k + 1) "_law_top" (spTop14 k) []) : Cal P w K mg base (k + 2) "_law_top" (spTop14 (k + 1)) [] := by
  have Z := T.Z
  have C__law_split := ok_law_split (P := P) (w := w) (base := base) T
  refine cal_of T.d__law_top sc__law_top (fun vs H Q E h => ?_) (fun f cdv A' outer s H vs Q E hr h => ?_)
  · obtain ⟨a, xs, ts, _, rfl, _⟩ := h
    rfl
  obtain ⟨a, xs, ts, _, rfl, ha, hD, hk, hl, q⟩ := h
  have hu := hu_of hr
  have hlen := hD.len
  have hS : SqL K H a xs := SqL.of ha
  refine ⟨_, (pss_cons (ps_if (pt_cmpR op_lt (pe_callB call_len_seq rfl Z.len PySem.boot_len (pa_cons (pv 0) pa_nil)) pe_int (nomark _)) (pss_one (ps_ret (pe_ifExp (pt_cmpR (op_neNil hr.units) (pv 0) (pe_lst pa_nil) (nomark _)) (pe_ix ix_list (pv 0) pe_int (fun _ _ => rfl)) (pe_tup (pa_cons pe_str (pa_cons pe_int (pa_cons pe_int pa_nil))))))) pss_nil)
  (pss_cons (ps_set (i := 1) sc__law_top.nd rfl (Or.inl rfl) (pe_c C__law_split hr (by omega) rfl (pa_cons (pe_callB call_len_seq rfl Z.len PySem.boot_len (pa_cons (pv 0) pa_nil)) pa_nil)))
  (pss_one (ps_ret (pe_tup (pa_cons pe_str (pa_cons (pe_c C__law_top hr (by omega) rfl (pa_cons (pe_slice sl_list (pv 0) po_none (po_some (pv 1))) pa_nil)) (pa_cons (pe_c C__law_top hr (by omega) rfl (pa_cons (pe_slice sl_list (pv 0) (po_some (pv 1)) po_none) pa_nil)) pa_nil)))))))), ?_⟩
  refine ⟨_, rfl, a, _, rfl, .inl hS, _, _, rfl, rfl, _, rfl, ite2 (fun c => ?_) (fun c => ?_)⟩
  · have c' : (xs.length : Int) < 2 := of_decide_eq_true c
    refine ⟨_, rfl, by show 0 ≤ sizeLine; decide, fun e ne => ⟨a, e, xs, rfl, rfl, (Ext.new ne).lst ha, upd_same, _, rfl, ?_⟩⟩
    have x1 := Ext.new (o := .lst []) ne
    cases xs with
    | nil =>
      refine iteF ?_
      refine ⟨by show 3 ≤ sizeLine; decide, fun p np => ?_⟩
      have x2 := Ext.new (o := .tup [.str "none", .int 0, .int 0]) np
      refine q _ _ (x1.trans x2) ?_
      rw [List.eq_nil_of_length_eq_zero (show ts.length = 0 from hlen.symm), topT_nil]
      exact dp_sl (by decide +kernel) upd_same (.int _) (.int _)
    | cons v xs =>
      refine iteT ?_
      obtain rfl : xs = [] := List.eq_nil_of_length_eq_zero (by rw [List.length_cons] at c'; omega)
      refine ⟨_, rfl, a, [v], 0, v, rfl, rfl, x1.seq hS, rfl, ?_⟩
      obtain ⟨t, rfl⟩ : ∃ t, ts = [t] := List.length_eq_one_iff.mp hlen.symm
      refine q _ _ x1 ?_
      rw [topT_one]
      exact (hD.at_ 0 v t rfl rfl).mono x1.gr
  have n1 : ¬ (xs.length : Int) < 2 := of_decide_eq_false (Bool.eq_false_iff.mpr c)
  have h2 : 2 ≤ ts.length := by omega
  have hsl := splitN_lt h2
  have hsp := splitN_pos ts.length
  have hk1 : ts.length ≤ 2 ^ k := hk
  obtain ⟨k', rfl⟩ : ∃ k', k = k' + 1 := by
    cases k with
    | zero => simp at hk1; omega
    | succ k' => exact ⟨k', rfl⟩
  obtain ⟨b1, b2⟩ := splitN_le_pow h2 hk1
  have lg := Nat.log2_le_self ts.length
  refine ⟨_, rfl, a, _, rfl, .inl hS, ts.length, by rw [hlen] <;> rfl, h2, by omega, ?_⟩
  refine ⟨_, rfl, _, rfl, ((splitN ts.length : Nat) : Int), rfl, a, _, rfl, hS, fun p hp => ?_⟩
  rw [cut_to]
  have x1 := Ext.new (o := .lst (xs.take (splitN ts.length))) hp
  refine ⟨p, _, ts.take (splitN ts.length), by omega, rfl, upd_same, (hD.take _).up x1, by rw [List.length_take]; show _ ≤ 2 ^ k'; omega, by rw [List.length_take]; omega, fun v1 H1 x2 d1 => ?_⟩
  have xx := x1.trans x2
  refine ⟨_, rfl, _, rfl, ((splitN ts.length : Nat) : Int), rfl, a, _, rfl, xx.seq hS, fun p2 hp2 => ?_⟩
  rw [cut_from]
  have x3 := Ext.new (o := .lst (xs.drop (splitN ts.length))) hp2
  refine ⟨p2, _, ts.drop (splitN ts.length), by omega, rfl, upd_same, (hD.drop _).up (xx.trans x3), by rw [List.length_drop]; show _ ≤ 2 ^ k'; omega, by rw [List.length_drop]; omega, fun v2 H2 x4 d2 => ?_⟩
  refine ⟨by show 3 ≤ sizeLine; decide, fun p3 np3 => ?_⟩
  have x5 := Ext.new (o := .tup [.str "pair", v1, v2]) np3
  refine q _ _ ((xx.trans (x3.trans x4)).trans x5) ?_
  rw [topT_more h2]
  exact dp_sl (by decide +kernel) upd_same (d1.mono ((x3.trans x4).trans x5).gr) (d2.mono x5.gr)
theorem ok_ltop {cc : Addr} (T : Txt K mg cc) : ∀ k : Nat, Cal P w K mg base (k + 1) "_law_top" (spTop14 k) []
  | 0 => by
    obtain ⟨f, fd, ps, ds, F, m, kp, b, v⟩ := (cal_no (P := P) (w := w) (base := base) T.d__law_top 1).ex
    exact ⟨f, fd, ps, ds, F.imp fun vs H Q E h => by obtain ⟨_, _, _, z, _⟩ := h; exact absurd rfl z, m, kp, b, v⟩
  | k + 1 => ok_ltop1 T (ok_ltop T k)
/-- the tops of two parts of a row -/
def spPath14 (k : Nat) : Sp := fun vs H Q _ => ∃ (a : Addr) (xs : List V) (ts : List Tm) (place : Nat), k ≠ 0 ∧ vs = [.ref a, .int (place : Int)] ∧ H a = some (.lst xs) ∧ DenL S0P H xs ts ∧ ts.length ≤ 2 ^ (k - 1) ∧ ts.length ≤ 1000 ∧ place < ts.length ∧ ∀ p ys H', Ext H H' → H' p = some (.lst ys) → DenL S0P H' ys (pathT ts place) → Q (.ref p) H'
def spGrow14 (k : Nat) : Sp := fun vs H Q _ => ∃ (a : Addr) (xs : List V) (ts : List Tm) (old : Nat), k ≠ 0 ∧ vs = [.ref a, .int (old : Int)] ∧ H a = some (.lst xs) ∧ DenL S0P H xs ts ∧ ts.length ≤ 2 ^ (k - 1) ∧ ts.length ≤ 1000 ∧ 0 < old ∧ old ≤ ts.length ∧ ∀ p ys H', Ext H H' → H' p = some (.lst ys) → DenL S0P H' ys (growT ts old) → Q (.ref p) H'
end

section
variable {P : Program} {w : World} {K : PySem.W.Frag} {mg : Str → Option Value} {base : Heap}
theorem ok_lpath1 {cc : Addr} {k : Nat} (T : Txt K mg cc) (C__law_path : Cal P w K mg base (k + 2) "_law_path" (spPath14 k) []) : Cal P w K mg base (k + 3) "_law_path" (spPath14 (k + 1)) [] := by
  have Z := T.Z
  have C__law_split := ok_law_split (P := P) (w := w) (base := base) T
  have C__law_top := ok_ltop (P := P) (w := w) (base := base) T (k + 1)
  refine cal_of T.d__law_path sc__law_path (fun vs H Q E h => ?_) (fun f cdv A' outer s H vs Q E hr h => ?_)
  · obtain ⟨a, xs, ts, place, _, rfl, _⟩ := h
    rfl
  obtain ⟨a, xs, ts, place, _, rfl, ha, hD, hk, hl, hpl, q⟩ := h
  have hlen := hD.len
  have e16 : sizeLine = 16777216 := sizeLine_eq
  have hk1000 : k ≤ 1000 := by
    have := hr.dp
    have e0 : recursionLimit = 1000 := rfl
    omega
  have hS : SqL K H a xs := SqL.of ha
  refine ⟨_, (pss_cons (ps_if (pt_cmpR op_eq (pe_callB call_len_seq rfl Z.len PySem.boot_len (pa_cons (pv 0) pa_nil)) pe_int (nomark _)) (pss_one (ps_ret (pe_lst pa_nil))) pss_nil)
  (pss_cons (ps_set (i := 2) sc__law_path.nd rfl (Or.inl rfl) (pe_c C__law_split hr (by omega) rfl (pa_cons (pe_callB call_len_seq rfl Z.len PySem.boot_len (pa_cons (pv 0) pa_nil)) pa_nil)))
  (pss_cons (ps_if (pt_cmpR op_lt (pv 1) (pv 2) (nomark _)) (pss_one (ps_ret (pe_op op_cat (pe_c C__law_path hr (by omega) rfl (pa_cons (pe_slice sl_list (pv 0) po_none (po_some (pv 2))) (pa_cons (pv 1) pa_nil))) (pe_lst (pa_cons (pe_c C__law_top hr (by omega) rfl (pa_cons (pe_slice sl_list (pv 0) (po_some (pv 2)) po_none) pa_nil)) pa_nil))))) pss_nil)
  (pss_one (ps_ret (pe_op op_cat (pe_c C__law_path hr (by omega) rfl (pa_cons (pe_slice sl_list (pv 0) (po_some (pv 2)) po_none) (pa_cons (pe_op op_sub (pv 1) (pv 2)) pa_nil))) (pe_lst (pa_cons (pe_c C__law_top hr (by omega) rfl (pa_cons (pe_slice sl_list (pv 0) po_none (po_some (pv 2))) pa_nil)) pa_nil)))))))), ?_⟩
  refine ⟨_, rfl, a, _, rfl, .inl hS, rfl, _, rfl, ite2 (fun c => ?_) (fun c => ?_)⟩
  · have c' : (xs.length : Int) = 1 := V.int.inj (of_decide_eq_true c)
    refine ⟨by show 0 ≤ sizeLine; decide, fun p hp => ?_⟩
    refine q p [] _ (Ext.new hp) upd_same ?_
    rw [pathT_one (by omega)]
    exact DenL.nil
  have n1 : xs.length ≠ 1 := fun z => c (decide_eq_true (by rw [z] <;> rfl))
  have h2 : 2 ≤ ts.length := by omega
  have hsl := splitN_lt h2
  have hsp := splitN_pos ts.length
  have hk1 : ts.length ≤ 2 ^ k := hk
  obtain ⟨k', rfl⟩ : ∃ k', k = k' + 1 := by
    cases k with
    | zero => simp at hk1; omega
    | succ k' => exact ⟨k', rfl⟩
  obtain ⟨b1, b2⟩ := splitN_le_pow h2 hk1
  have lg := Nat.log2_le_self ts.length
  have pk : (2 : Nat) ^ (k' + 1) = 2 * 2 ^ k' := by rw [Nat.pow_succ]; omega
  refine ⟨_, rfl, a, _, rfl, .inl hS, ts.length, by rw [hlen] <;> rfl, h2, by omega, ?_⟩
  refine ⟨_, rfl, _, rfl, _, _, rfl, rfl, _, rfl, ite2 (fun c => ?_) (fun c => ?_)⟩
  · have c : place < splitN ts.length := by have := of_decide_eq_true c; omega
    refine ⟨_, rfl, _, rfl, ((splitN ts.length : Nat) : Int), rfl, a, _, rfl, hS, fun p hp => ?_⟩
    rw [cut_to]
    have x1 := Ext.new (o := .lst (xs.take (splitN ts.length))) hp
    refine ⟨_, rfl, p, _, ts.take (splitN ts.length), place, by omega, rfl, upd_same, (hD.take _).up x1, by rw [List.length_take]; show _ ≤ 2 ^ k'; omega, by rw [List.length_take]; omega, by rw [List.length_take]; omega, fun p1 ys H1 x2 hp1 d1 => ?_⟩
    have xx := x1.trans x2
    refine ⟨_, rfl, _, rfl, ((splitN ts.length : Nat) : Int), rfl, a, _, rfl, xx.seq hS, fun p2 hp2 => ?_⟩
    rw [cut_from]
    have x3 := Ext.new (o := .lst (xs.drop (splitN ts.length))) hp2
    refine ⟨p2, _, ts.drop (splitN ts.length), by omega, rfl, upd_same, (hD.drop _).up (xx.trans x3), by rw [List.length_drop]; show _ ≤ 2 ^ (k' + 1); omega, by rw [List.length_drop]; omega, fun v2 H2 x4 d2 => ?_⟩
    refine ⟨by show 1 ≤ sizeLine; decide, fun p3 hp3 => ?_⟩
    have hp1' := (x3.trans x4).lst hp1
    have x5 := Ext.new (o := .lst [v2]) hp3
    have h3 : upd H2 p3 (.lst [v2]) p3 = some (.lst [v2]) := upd_same
    generalize upd H2 p3 (.lst [v2]) = H3 at x5 h3 ⊢
    have l1 := d1.len
    rw [pathT_len] at l1
    have gl := plen_le k' (place) (ts.take (splitN ts.length)).length (by rw [List.length_take]; omega)
    refine ⟨p1, p3, ys, [v2], rfl, rfl, x5.lst hp1', h3, by show _ + 1 ≤ sizeLine; omega, fun p4 hp4 => ?_⟩
    have x6 := Ext.new (o := .lst (ys ++ [v2])) hp4
    refine q p4 _ _ (((xx.trans (x3.trans x4)).trans x5).trans x6) upd_same ?_
    rw [pathT_low h2 c]
    exact (d1.up (((x3.trans x4).trans x5).trans x6)).append (DenL.one (d2.mono (x5.trans x6).gr))
  · have c : ¬ place < splitN ts.length := fun z => c (decide_eq_true (by omega))
    refine ⟨_, rfl, _, rfl, ((splitN ts.length : Nat) : Int), rfl, a, _, rfl, hS, fun p hp => ?_⟩
    rw [cut_from]
    have x1 := Ext.new (o := .lst (xs.drop (splitN ts.length))) hp
    refine ⟨_, rfl, _, rfl, _, _, rfl, rfl, p, _, ts.drop (splitN ts.length), place - splitN ts.length, by omega, (by rw [show ((place - splitN ts.length : Nat) : Int) = (place : Int) - ((splitN ts.length : Nat) : Int) by omega]; rfl), upd_same, (hD.drop _).up x1, by rw [List.length_drop]; show _ ≤ 2 ^ k'; omega, by rw [List.length_drop]; omega, by rw [List.length_drop]; omega, fun p1 ys H1 x2 hp1 d1 => ?_⟩
    have xx := x1.trans x2
    refine ⟨_, rfl, _, rfl, ((splitN ts.length : Nat) : Int), rfl, a, _, rfl, xx.seq hS, fun p2 hp2 => ?_⟩
    rw [cut_to]
    have x3 := Ext.new (o := .lst (xs.take (splitN ts.length))) hp2
    refine ⟨p2, _, ts.take (splitN ts.length), by omega, rfl, upd_same, (hD.take _).up (xx.trans x3), by rw [List.length_take]; show _ ≤ 2 ^ (k' + 1); omega, by rw [List.length_take]; omega, fun v2 H2 x4 d2 => ?_⟩
    refine ⟨by show 1 ≤ sizeLine; decide, fun p3 hp3 => ?_⟩
    have hp1' := (x3.trans x4).lst hp1
    have x5 := Ext.new (o := .lst [v2]) hp3
    have h3 : upd H2 p3 (.lst [v2]) p3 = some (.lst [v2]) := upd_same
    generalize upd H2 p3 (.lst [v2]) = H3 at x5 h3 ⊢
    have l1 := d1.len
    rw [pathT_len] at l1
    have gl := plen_le k' (place - splitN ts.length) (ts.drop (splitN ts.length)).length (by rw [List.length_drop]; omega)
    refine ⟨p1, p3, ys, [v2], rfl, rfl, x5.lst hp1', h3, by show _ + 1 ≤ sizeLine; omega, fun p4 hp4 => ?_⟩
    have x6 := Ext.new (o := .lst (ys ++ [v2])) hp4
    refine q p4 _ _ (((xx.trans (x3.trans x4)).trans x5).trans x6) upd_same ?_
    rw [pathT_high h2 c]
    exact (d1.up (((x3.trans x4).trans x5).trans x6)).append (DenL.one (d2.mono (x5.trans x6).gr))
theorem ok_lpath {cc : Addr} (T : Txt K mg cc) : ∀ k : Nat, Cal P w K mg base (k + 2) "_law_path" (spPath14 k) []
  | 0 => by
    obtain ⟨f, fd, ps, ds, F, m, kp, b, v⟩ := (cal_no (P := P) (w := w) (base := base) T.d__law_path 2).ex
    exact ⟨f, fd, ps, ds, F.imp fun vs H Q E h => by obtain ⟨_, _, _, _, z, _⟩ := h; exact absurd rfl z, m, kp, b, v⟩
  | k + 1 => ok_lpath1 T (ok_lpath T k)
theorem ok_lgrow1 {cc : Addr} {k : Nat} (T : Txt K mg cc) (C__law_growth : Cal P w K mg base (k + 2) "_law_growth" (spGrow14 k) []) : Cal P w K mg base (k + 3) "_law_growth" (spGrow14 (k + 1)) [] := by
  have Z := T.Z
  have C__law_split := ok_law_split (P := P) (w := w) (base := base) T
  have C__law_top := ok_ltop (P := P) (w := w) (base := base) T (k + 1)
  refine cal_of T.d__law_growth sc__law_growth (fun vs H Q E h => ?_) (fun f cdv A' outer s H vs Q E hr h => ?_)
  · obtain ⟨a, xs, ts, old, _, rfl, _⟩ := h
    rfl
  obtain ⟨a, xs, ts, old, _, rfl, ha, hD, hk, hl, h0, ho, q⟩ := h
  have hlen := hD.len
  have e16 : sizeLine = 16777216 := sizeLine_eq
  have hk1000 : k ≤ 1000 := by
    have := hr.dp
    have e0 : recursionLimit = 1000 := rfl
    omega
  have hS : SqL K H a xs := SqL.of ha
  refine ⟨_, (pss_cons (ps_if (pt_cmpR op_eq (pv 1) (pe_callB call_len_seq rfl Z.len PySem.boot_len (pa_cons (pv 0) pa_nil)) (nomark _)) (pss_one (ps_ret (pe_lst (pa_cons (pe_c C__law_top hr (by omega) rfl (pa_cons (pv 0) pa_nil)) pa_nil)))) pss_nil)
  (pss_cons (ps_set (i := 2) sc__law_growth.nd rfl (Or.inl rfl) (pe_c C__law_split hr (by omega) rfl (pa_cons (pe_callB call_len_seq rfl Z.len PySem.boot_len (pa_cons (pv 0) pa_nil)) pa_nil)))
  (pss_cons (ps_if (pt_cmpR op_le (pv 1) (pv 2) (nomark _)) (pss_one (ps_ret (pe_op op_cat (pe_c C__law_growth hr (by omega) rfl (pa_cons (pe_slice sl_list (pv 0) po_none (po_some (pv 2))) (pa_cons (pv 1) pa_nil))) (pe_lst (pa_cons (pe_c C__law_top hr (by omega) rfl (pa_cons (pe_slice sl_list (pv 0) (po_some (pv 2)) po_none) pa_nil)) pa_nil))))) pss_nil)
  (pss_one (ps_ret (pe_op op_cat (pe_c C__law_growth hr (by omega) rfl (pa_cons (pe_slice sl_list (pv 0) (po_some (pv 2)) po_none) (pa_cons (pe_op op_sub (pv 1) (pv 2)) pa_nil))) (pe_lst (pa_cons (pe_c C__law_top hr (by omega) rfl (pa_cons (pe_slice sl_list (pv 0) po_none (po_some (pv 2))) pa_nil)) pa_nil)))))))), ?_⟩
  refine ⟨_, rfl, _, rfl, a, _, rfl, .inl hS, rfl, _, rfl, ite2 (fun c => ?_) (fun c => ?_)⟩
  · have c' : (old : Int) = (xs.length : Int) := V.int.inj (of_decide_eq_true c)
    obtain rfl : old = ts.length := by omega
    refine ⟨_, rfl, a, xs, ts, by omega, rfl, ha, hD, hk, hl, fun v H1 x1 d1 => ⟨by show 1 ≤ sizeLine; decide, fun p hp => ?_⟩⟩
    have x2 := Ext.new (o := .lst [v]) hp
    refine q p [v] _ (x1.trans x2) upd_same ?_
    rw [growT_all (by omega)]
    exact DenL.one (d1.mono x2.gr)
  have n1 : old ≠ ts.length := fun z => c (decide_eq_true (by rw [z, hlen]))
  have h2 : 2 ≤ ts.length := by omega
  have hsl := splitN_lt h2
  have hsp := splitN_pos ts.length
  have hk1 : ts.length ≤ 2 ^ k := hk
  obtain ⟨k', rfl⟩ : ∃ k', k = k' + 1 := by
    cases k with
    | zero => simp at hk1; omega
    | succ k' => exact ⟨k', rfl⟩
  obtain ⟨b1, b2⟩ := splitN_le_pow h2 hk1
  have lg := Nat.log2_le_self ts.length
  have pk : (2 : Nat) ^ (k' + 1) = 2 * 2 ^ k' := by rw [Nat.pow_succ]; omega
  refine ⟨_, rfl, a, _, rfl, .inl hS, ts.length, by rw [hlen] <;> rfl, h2, by omega, ?_⟩
  refine ⟨_, rfl, _, rfl, _, _, rfl, rfl, _, rfl, ite2 (fun c => ?_) (fun c => ?_)⟩
  · have c : old ≤ splitN ts.length := by have := of_decide_eq_true c; omega
    refine ⟨_, rfl, _, rfl, ((splitN ts.length : Nat) : Int), rfl, a, _, rfl, hS, fun p hp => ?_⟩
    rw [cut_to]
    have x1 := Ext.new (o := .lst (xs.take (splitN ts.length))) hp
    refine ⟨_, rfl, p, _, ts.take (splitN ts.length), old, by omega, rfl, upd_same, (hD.take _).up x1, by rw [List.length_take]; show _ ≤ 2 ^ k'; omega, by rw [List.length_take]; omega, by omega, by rw [List.length_take]; omega, fun p1 ys H1 x2 hp1 d1 => ?_⟩
    have xx := x1.trans x2
    refine ⟨_, rfl, _, rfl, ((splitN ts.length : Nat) : Int), rfl, a, _, rfl, xx.seq hS, fun p2 hp2 => ?_⟩
    rw [cut_from]
    have x3 := Ext.new (o := .lst (xs.drop (splitN ts.length))) hp2
    refine ⟨p2, _, ts.drop (splitN ts.length), by omega, rfl, upd_same, (hD.drop _).up (xx.trans x3), by rw [List.length_drop]; show _ ≤ 2 ^ (k' + 1); omega, by rw [List.length_drop]; omega, fun v2 H2 x4 d2 => ?_⟩
    refine ⟨by show 1 ≤ sizeLine; decide, fun p3 hp3 => ?_⟩
    have hp1' := (x3.trans x4).lst hp1
    have x5 := Ext.new (o := .lst [v2]) hp3
    have h3 : upd H2 p3 (.lst [v2]) p3 = some (.lst [v2]) := upd_same
    generalize upd H2 p3 (.lst [v2]) = H3 at x5 h3 ⊢
    have l1 := d1.len
    have gl := growT_len k' (ts.take (splitN ts.length)) (old) (by rw [List.length_take]; omega)
    refine ⟨p1, p3, ys, [v2], rfl, rfl, x5.lst hp1', h3, by show _ + 1 ≤ sizeLine; omega, fun p4 hp4 => ?_⟩
    have x6 := Ext.new (o := .lst (ys ++ [v2])) hp4
    refine q p4 _ _ (((xx.trans (x3.trans x4)).trans x5).trans x6) upd_same ?_
    rw [growT_low h0 (by omega) c]
    exact (d1.up (((x3.trans x4).trans x5).trans x6)).append (DenL.one (d2.mono (x5.trans x6).gr))
  · have c : ¬ old ≤ splitN ts.length := fun z => c (decide_eq_true (by omega))
    refine ⟨_, rfl, _, rfl, ((splitN ts.length : Nat) : Int), rfl, a, _, rfl, hS, fun p hp => ?_⟩
    rw [cut_from]
    have x1 := Ext.new (o := .lst (xs.drop (splitN ts.length))) hp
    refine ⟨_, rfl, _, rfl, _, _, rfl, rfl, p, _, ts.drop (splitN ts.length), old - splitN ts.length, by omega, (by rw [show ((old - splitN ts.length : Nat) : Int) = (old : Int) - ((splitN ts.length : Nat) : Int) by omega]; rfl), upd_same, (hD.drop _).up x1, by rw [List.length_drop]; show _ ≤ 2 ^ k'; omega, by rw [List.length_drop]; omega, by omega, by rw [List.length_drop]; omega, fun p1 ys H1 x2 hp1 d1 => ?_⟩
    have xx := x1.trans x2
    refine ⟨_, rfl, _, rfl, ((splitN ts.length : Nat) : Int), rfl, a, _, rfl, xx.seq hS, fun p2 hp2 => ?_⟩
    rw [cut_to]
    have x3 := Ext.new (o := .lst (xs.take (splitN ts.length))) hp2
    refine ⟨p2, _, ts.take (splitN ts.length), by omega, rfl, upd_same, (hD.take _).up (xx.trans x3), by rw [List.length_take]; show _ ≤ 2 ^ (k' + 1); omega, by rw [List.length_take]; omega, fun v2 H2 x4 d2 => ?_⟩
    refine ⟨by show 1 ≤ sizeLine; decide, fun p3 hp3 => ?_⟩
    have hp1' := (x3.trans x4).lst hp1
    have x5 := Ext.new (o := .lst [v2]) hp3
    have h3 : upd H2 p3 (.lst [v2]) p3 = some (.lst [v2]) := upd_same
    generalize upd H2 p3 (.lst [v2]) = H3 at x5 h3 ⊢
    have l1 := d1.len
    have gl := growT_len k' (ts.drop (splitN ts.length)) (old - splitN ts.length) (by rw [List.length_drop]; omega)
    refine ⟨p1, p3, ys, [v2], rfl, rfl, x5.lst hp1', h3, by show _ + 1 ≤ sizeLine; omega, fun p4 hp4 => ?_⟩
    have x6 := Ext.new (o := .lst (ys ++ [v2])) hp4
    refine q p4 _ _ (((xx.trans (x3.trans x4)).trans x5).trans x6) upd_same ?_
    rw [growT_high h0 (by omega) c]
    exact (d1.up (((x3.trans x4).trans x5).trans x6)).append (DenL.one (d2.mono (x5.trans x6).gr))
theorem ok_lgrow {cc : Addr} (T : Txt K mg cc) : ∀ k : Nat, Cal P w K mg base (k + 2) "_law_growth" (spGrow14 k) []
  | 0 => by
    obtain ⟨f, fd, ps, ds, F, m, kp, b, v⟩ := (cal_no (P := P) (w := w) (base := base) T.d__law_growth 2).ex
    exact ⟨f, fd, ps, ds, F.imp fun vs H Q E h => by obtain ⟨_, _, _, _, z, _⟩ := h; exact absurd rfl z, m, kp, b, v⟩
  | k + 1 => ok_lgrow1 T (ok_lgrow T k)
end

section
variable {P : Program} {w : World} {K : PySem.W.Frag} {mg : Str → Option Value} {base : Heap} {CS CG CH CL : Addr} {Fam : Sys → Prop}
theorem Met.r {C : Addr} {m : Str} {k : Nat} {sp : Sp} (c : Met P w K mg base k C m sp []) : MetR P w K mg base k C m sp := by
  obtain ⟨f, fd, ps, ds, hc, hm, F, b, v⟩ := c.ex
  cases v
  refine ⟨f, fd, ps, hc, hm, ⟨F.len, fun A outer s H args us vs Q E hr e0 hb hv hsp => codeAny_mono (F.run A outer s H args us vs Q E hr e0 hb hv hsp) fun r s' q => ?_⟩, b⟩
  cases r with
  | ok fl =>
    cases fl <;> exact q
  | error e => exact False.elim q
/-- claims by their classes -/
def cs4 (K : PySem.W.Frag) (CS CG CH CL : Addr) (Fam : Sys → Prop) (C : Addr) (sp : Sp) : Prop := csB K CH CL Fam C sp ∨ (C = CS ∧ sp = spJudgedS K CS Fam) ∨ (C = CG ∧ sp = spJudgedG K CG Fam)
theorem MetR.up {C : Addr} {m : Str} {k j : Nat} {sp : Sp} (c : MetR P w K mg base k C m sp) (h : k ≤ j) : MetR P w K mg base j C m sp := by
  obtain ⟨f, fd, ps, hc, hm, F, b⟩ := c.ex
  exact ⟨f, fd, ps, hc, hm, F.mono h, b⟩
theorem ok_cs4 {cc : Addr} (T : Txt K mg cc) (A : SlA P w K mg base Fam) (I3 : ∀ {S}, Fam S → S.Inj K) (KS : K_Stands K mg CS) (KG : K_Grows K mg CG) (KH : K_Holds K mg CH) (KL : K_Lacks K mg CL) : ∀ C sp, cs4 K CS CG CH CL Fam C sp → MetR P w K mg base 6 C "judged" sp := by
  rintro C sp (h | ⟨rfl, rfl⟩ | ⟨rfl, rfl⟩)
  · exact ok_csB T A I3 KS KH KL C sp h
  · exact (Met.r (ok_judgedS T A I3 KS)).up (by omega)
  · exact (Met.r (ok_judgedG T A I3 KG)).up (by omega)
/-- whether a claim is judged as is due -/
def spIs (K : PySem.W.Frag) (CS CG CH CL fS : Addr) (Fam : Sys → Prop) : Sp := fun vs H Q _ => ∃ (C : Addr) (sp : Sp) (p dx : Addr) (fs : List (Str × V)) (n head v : V) (due : Bool), cs4 K CS CG CH CL Fam C sp ∧ vs = [.ref p, n, head, v, .bl due] ∧ H p = some (.ins C dx fs) ∧ fs.lookup ("judged" : Str) = none ∧
  ∀ (Q' : VK) (E' : XK), (∀ (b : Bool) H', Q (.bl (b == due)) H' → Q' (.bl b) H') → sp [.ref p, .ref fS, n, head, v] H Q' E'
theorem ok_lis {cc fS : Addr} (T : Txt K mg cc) (mS : mg "_law_seal" = some (.ref fS)) (A : SlA P w K mg base Fam) (I3 : ∀ {S}, Fam S → S.Inj K) (KS : K_Stands K mg CS) (KG : K_Grows K mg CG) (KH : K_Holds K mg CH) (KL : K_Lacks K mg CL) : Cal P w K mg base 7 "_law_is" (spIs K CS CG CH CL fS Fam) [] := by
  have Z := T.Z
  have M_judged := ok_cs4 T A I3 KS KG KH KL
  refine cal_of T.d__law_is sc__law_is (fun vs H Q E h => ?_) (fun f cdv A' outer s H vs Q E hr h => ?_)
  · obtain ⟨C, sp, p, dx, fs, n, head, v, due, _, rfl, _⟩ := h
    rfl
  obtain ⟨C, sp, p, dx, fs, n, head, v, due, hcs, rfl, hp, hno, hsp⟩ := h
  refine ⟨_, (pss_cons (ps_set (i := 5) sc__law_is.nd rfl (Or.inl rfl) (pe_mta M_judged takes0 hr (by omega) (pv 0) (pa_cons (pe_glob (v := .ref fS) rfl mS rfl) (pa_cons (pv 1) (pa_cons (pv 2) (pa_cons (pv 3) pa_nil))))))
  (pss_one (ps_ret (pe_and (pe_callB call_isi rfl Z.isinstance (by decide +kernel) (pa_cons (pv 5) (pa_cons (pe_bltn (v := .ty "bool") rfl Z.bool (by decide +kernel) rfl) pa_nil))) (pe_one (pe_cmpR op_eq (pv 5) (pv 4) (nomark _))))))), ?_⟩
  refine ⟨_, rfl, C, sp, p, dx, fs, hcs, rfl, hp, hno, _, rfl, _, rfl, _, rfl, hsp _ _ fun b H' hq => ?_⟩
  refine ⟨_, rfl, .bl b, .ty "bool", _, _, true, rfl, .ty "bool", .base (.bl _), kit_ty (by decide +kernel), ?_⟩
  refine ⟨_, rfl, iteT ⟨_, rfl, _, rfl, rfl, ?_⟩⟩
  have e : decide (V.bl b = V.bl due) = (b == due) := by
    cases b <;> cases due <;> rfl
  show Q (.bl (decide (V.bl b = V.bl due))) H'
  rw [e]
  exact hq
end

/-! ### leaves laid in a row -/
def Lf (t : Tm) : Prop := ∃ x b, t = .sl "leaf" (.str x) (.int b) ∧ txtOk x = true ∧ x.length ≤ 2
theorem Lf.dep {t : Tm} (h : Lf t) : t.dep ≤ 1 := by
  obtain ⟨x, b, rfl, _⟩ := h
  exact Nat.le_refl _
theorem ab_len (n : Nat) : (ab n).length ≤ 2 := by
  match n with
  | 0 => decide +kernel
  | 1 => decide +kernel
  | n + 2 => show ("ab" : Str).length ≤ 2; decide +kernel
theorem txt_app {x y : Str} (h : txtOk x = true) (h' : txtOk y = true) : txtOk (x ++ y) = true := by
  show (x.cps ++ y.cps).all _ = true
  rw [Array.all_append]
  exact Bool.and_eq_true_iff.mpr ⟨h, h'⟩
theorem ent_dp {K : PySem.W.Frag} {H : Hp} {q : Addr} {x : Str} {i : Int} (h : H q = some (.tup [.str x, .int i])) (hx : txtOk x = true) : Dp K H (.ref q) (.tuple [.str x, .int i]) ∧ SeqAt.shaped (.tuple [.str x, .int i]) = true := by
  refine ⟨.tup (SqT.of h) (.cons (.str _) (.cons (.int _) .nil)), shaped_of ?_ (by show max 0 (max 0 0) + 1 ≤ 64; decide)⟩
  show (PySem.PyData.strOk x && (true && true)) = true
  rw [show PySem.PyData.strOk x = true from hx]
  rfl
theorem ent_eqv (x y : Str) (i j : Int) : PyData.eqv (.tuple [.str x, .int i]) (.tuple [.str y, .int j]) = decide (Tm.sl "leaf" (.str x) (.int i) = .sl "leaf" (.str y) (.int j)) := by
  rw [PyData.eqv, PyData.eqvAll, PyData.eqvAll, PyData.eqvAll, eqv_str, eqv_int]
  by_cases h1 : x = y <;> by_cases h2 : i = j <;> simp [h1, h2]
theorem stand_row (L : Tm) (ls : List Tm) (place n : Nat) (hn : ls.length = n) (h : place < n) : judgeS (place : Int) L n (.sl "book" (.int (n : Int)) (topT ls)) (some (pathT ls place)) = decide (L = ls.getD place nonT) := by
  subst hn
  show decide _ = decide _
  rw [Int.toNat_natCast]
  refine decide_eq_decide.mpr ⟨fun z => ?_, fun z => ⟨by omega, by omega, pathT_len ls place, ?_⟩⟩
  · exact ((rise_inj L ls place (pathT ls place) h (pathT_len ls place)).mp (Tm.sl.inj z.2.2.2).2.2).1
  · rw [(rise_inj L ls place (pathT ls place) h (pathT_len ls place)).mpr ⟨z, rfl⟩]
theorem grow_row (ls : List Tm) (old n : Nat) (s : Tm) (hn : ls.length = n) (h0 : 0 < old) (h1 : old ≤ n) : judgeG (old : Int) n s (.sl "book" (.int (n : Int)) (topT ls)) (some (growT ls old)) = decide (s = .sl "book" (.int (old : Int)) (topT (ls.take old))) := by
  subst hn
  unfold judgeG
  rw [if_neg (by omega)]
  show decide _ = decide _
  rw [Int.toNat_natCast, reg_grow h0 h1]
  exact decide_eq_decide.mpr ⟨fun z => z.2.2.2.1.symm, fun z => ⟨by omega, by omega, growT_glen h0 h1, z.symm, rfl⟩⟩
theorem slen_app (x y : Str) : (x ++ y).length = x.length + y.length := by
  show (x.cps ++ y.cps).size = x.cps.size + y.cps.size
  rw [Array.size_append]
theorem dig16 : ∀ n : Nat, n < 16 → txtOk (Str.ofString (toString (n : Int))) = true ∧ (Str.ofString (toString (n : Int))).length ≤ 2 := by decide +kernel
theorem xor16 : ∀ d : Fin 5, ∀ n : Fin 16, 0 < d.val → n.val < 2 ^ d.val → 0 ≤ Builtin.bitXor (n.val : Int) 1 ∧ Builtin.bitXor (n.val : Int) 1 < 2 ^ d.val ∧ Builtin.bitXor (n.val : Int) 1 ≠ (n.val : Int) := by decide +kernel
theorem judge_own {k key : Int} {d : Nat} {e x : Str} {s : Option Str} (d0 : 0 < d) (d4 : d ≤ 4) (h0 : 0 ≤ k) (h1 : k < 2 ^ d) : judgeB ⟨0, k, (d : Int), s⟩ 1 (.sl "book" (.int 1) (.sl "leaf" (.str e) (.sl "table" (.int (d : Int)) (rowT key x)))) (some (e, .sl "table" (.int (d : Int)) (rowT key x), some [], some ([], some [(key, x)]))) = endsB ⟨0, k, (d : Int), s⟩ [(key, x)] := by
  show (decide (1 ≤ (d : Int) ∧ (d : Int) ≤ 16) && (decide (0 ≤ k ∧ k < 2 ^ (d : Int).toNat) && (judgeS 0 (.sl "leaf" (.str e) (.sl "table" (.int (d : Int)) (rowT key x))) 1 _ (some []) && (decide ((0 : Nat) ≤ (d : Int).toNat) && (decide (Tm.sl "table" (.int (d : Int)) (climbT k (d : Int).toNat [] (endT [(key, x)])) = _) && _))))) = _
  rw [decide_eq_true (show 1 ≤ (d : Int) ∧ (d : Int) ≤ 16 by omega), Int.toNat_natCast, decide_eq_true (⟨h0, h1⟩ : 0 ≤ k ∧ k < 2 ^ d), decide_eq_true (Nat.zero_le d), climbT_nil, decide_eq_true (show Tm.sl "table" (.int (d : Int)) (endT [(key, x)]) = .sl "table" (.int (d : Int)) (rowT key x) from rfl)]
  have hS : judgeS 0 (.sl "leaf" (.str e) (.sl "table" (.int (d : Int)) (rowT key x))) 1 (.sl "book" (.int 1) (.sl "leaf" (.str e) (.sl "table" (.int (d : Int)) (rowT key x)))) (some []) = true := by
    refine decide_eq_true ⟨by decide, by decide, ?_, ?_⟩
    · rw [plen_one (by decide)]; rfl
    · rw [sidesT_one (by decide)]; rfl
  rw [hS]
  rfl
/-- a text and a table's head, as a tuple -/
def EntA (H : Hp) (v : V) : Prop := ∃ a tx tb, v = .ref a ∧ H a = some (.tup [.str tx, .int tb]) ∧ txtOk tx = true
section
variable {P : Program} {w : World} {K : PySem.W.Frag} {mg : Str → Option Value} {base : Heap} {CS CG CH CL C_Behind : Addr}
theorem ok_ltrue {cc fS : Addr} (T : Txt K mg cc) (mS : mg "_law_seal" = some (.ref fS)) (D : ClsM K mg C_Behind "Behind" "__init__" "Behind.__init__" s_Behind___init__ ["self", "place", "key", "depth"]) (KS : K_Stands K mg CS) (KG : K_Grows K mg CG) (KH : K_Holds K mg CH) (KL : K_Lacks K mg CL) : Cal P w K mg base 14 "_law_true" spTrue1 [] := by
  have Z := T.Z
  have A := sla1 (P := P) (w := w) (base := base) T
  have C__law_draw := ok_draw (P := P) (w := w) (base := base) T
  have C__law_top := ok_ltop (P := P) (w := w) (base := base) T 6
  have C__law_path := ok_lpath (P := P) (w := w) (base := base) T 6
  have C__law_growth := ok_lgrow (P := P) (w := w) (base := base) T 6
  have C__law_is := ok_lis (P := P) (w := w) (base := base) T mS A (fun {S} h => inj1 h) KS KG KH KL
  have C_Stands := ok_stinit (P := P) (w := w) (base := base) KS
  have C_Grows := ok_grinit (P := P) (w := w) (base := base) KG
  have C_Holds := ok_hoinit (P := P) (w := w) (base := base) D KH
  have C_Lacks := ok_lkinit (P := P) (w := w) (base := base) KL
  refine cal_of T.d__law_true sc__law_true (fun vs H Q E h => ?_) (fun f cdv A' outer s H vs Q E hr h => ?_)
  · obtain ⟨c, rfl, _⟩ := h
    rfl
  obtain ⟨c, rfl, q⟩ := h
  have hu := hu_of hr
  have e16 : sizeLine = 16777216 := sizeLine_eq
  refine ⟨_, (pss_cons (ps_set (i := 1) sc__law_true.nd rfl (Or.inl rfl) (pe_op op_add pe_int (pe_c C__law_draw hr (by omega) rfl (pa_cons (pv 0) (pa_cons pe_int (pa_cons pe_int pa_nil))))))
  (pss_cons (ps_par (i := 2) (j := 3) rfl sc__law_true.nd rfl rfl (by decide) rfl rfl (pa_cons (pe_c C__law_draw hr (by omega) rfl (pa_cons (pv 0) (pa_cons pe_int (pa_cons (pv 1) pa_nil)))) (pa_cons (pe_op op_add pe_int (pe_c C__law_draw hr (by omega) rfl (pa_cons (pv 0) (pa_cons pe_int (pa_cons (pv 1) pa_nil))))) pa_nil)) (by rfl))
  (pss_cons (ps_setLc (i := 4) (own := [("_law_k", 18)]) (g := gName 18) (tt := tYes) rfl sc__law_true.nd rfl rfl (sw_true rfl rfl rfl (by decide +kernel)) (pi_range1 rfl Z.range (pa_cons (pv 1) pa_nil)) (blkOk_by (N := N__law_true) (sc := defScope s__law_true) (by decide +kernel)) (fun _ _ _ _ _ => (pg_name (i := 18) sc__law_true.nd rfl (Or.inl rfl))) (fun _ _ _ _ _ => pts_nil) (fun _ _ _ _ _ => (pe_tup (pa_cons pe_str (pa_cons (pe_slice sl_str pe_str po_none (po_some (pe_c C__law_draw hr (by omega) rfl (pa_cons (pe_op op_add (pv 0) (pv 18)) (pa_cons pe_int (pa_cons pe_int pa_nil)))))) (pa_cons (pe_c C__law_draw hr (by omega) rfl (pa_cons (pe_op op_add (pv 0) (pv 18)) (pa_cons pe_int (pa_cons pe_int pa_nil)))) pa_nil))))))
  (Evl.pss_cut (ps_par (i := 5) (j := 6) rfl sc__law_true.nd rfl rfl (by decide) rfl rfl (pa_cons (pe_tup (pa_cons pe_str (pa_cons (pv 1) (pa_cons (pe_c C__law_top hr (by omega) rfl (pa_cons (pv 4) pa_nil)) pa_nil)))) (pa_cons (pe_ix ix_list (pv 4) (pv 2) (fun _ _ => rfl)) pa_nil)) (by rfl))
  (Evl.pss_cut (ps_for PassesOwn.never rfl (pi_tup (pe_tup (pa_cons (pe_tup (pa_cons (pe_ix ix_tup (pv 6) pe_int (fun _ _ => rfl)) (pa_cons (pe_ix ix_tup (pv 6) pe_int (fun _ _ => rfl)) pa_nil))) (pa_cons (pe_tup (pa_cons (pe_op op_add_str (pe_ix ix_tup (pv 6) pe_int (fun _ _ => rfl)) pe_str) (pa_cons (pe_ix ix_tup (pv 6) pe_int (fun _ _ => rfl)) pa_nil))) (pa_cons (pe_tup (pa_cons (pe_ix ix_tup (pv 6) pe_int (fun _ _ => rfl)) (pa_cons (pe_op op_add (pe_ix ix_tup (pv 6) pe_int (fun _ _ => rfl)) pe_int) pa_nil))) pa_nil))))) (pg_tup rfl (pgs_cons (pg_name (i := 7) sc__law_true.nd rfl (Or.inl rfl)) (pgs_cons (pg_name (i := 8) sc__law_true.nd rfl (Or.inl rfl)) pgs_nil))) (pss_cons (ps_set (i := 9) sc__law_true.nd rfl (Or.inl rfl) (pe_cmpR (op_eqD hr.units) (pe_tup (pa_cons (pv 7) (pa_cons (pv 8) pa_nil))) (pe_tup (pa_cons (pe_ix ix_tup (pv 6) pe_int (fun _ _ => rfl)) (pa_cons (pe_ix ix_tup (pv 6) pe_int (fun _ _ => rfl)) pa_nil))) (nomark _)))
  (pss_one (ps_if (pt_not (pt_val (pe_c C__law_is hr (by omega) rfl (pa_cons (pe_mk C_Stands hr (by omega) rfl (pa_cons (pv 2) (pa_cons (pv 7) (pa_cons (pv 8) pa_nil)))) (pa_cons (pv 1) (pa_cons (pv 5) (pa_cons (pe_c C__law_path hr (by omega) rfl (pa_cons (pv 4) (pa_cons (pv 2) pa_nil))) (pa_cons (pv 9) pa_nil)))))))) (pss_one (ps_ret pe_bl)) pss_nil))))
  (pss_cons (ps_set (i := 10) sc__law_true.nd rfl (Or.inl rfl) (pe_tup (pa_cons pe_str (pa_cons (pv 3) (pa_cons (pe_c C__law_top hr (by omega) rfl (pa_cons (pe_slice sl_list (pv 4) po_none (po_some (pv 3))) pa_nil)) pa_nil)))))
  (pss_cons (ps_set (i := 11) sc__law_true.nd rfl (Or.inl rfl) (pe_tup (pa_cons pe_str (pa_cons (pv 3) (pa_cons (pe_c C__law_top hr (by omega) rfl (pa_cons (pe_op op_cat (pe_slice sl_list (pv 4) po_none (po_some (pe_op op_sub (pv 3) pe_int))) (pe_lst (pa_cons (pe_tup (pa_cons pe_str (pa_cons pe_str (pa_cons pe_int pa_nil)))) pa_nil))) pa_nil)) pa_nil)))))
  (Evl.pss_cut (ps_for PassesOwn.never rfl (pi_tup (pe_tup (pa_cons (pv 10) (pa_cons (pv 11) pa_nil)))) (pg_name (i := 12) sc__law_true.nd rfl (Or.inl rfl)) (pss_one (ps_if (pt_not (pt_val (pe_c C__law_is hr (by omega) rfl (pa_cons (pe_mk C_Grows hr (by omega) rfl (pa_cons (pv 3) (pa_cons (pv 12) pa_nil))) (pa_cons (pv 1) (pa_cons (pv 5) (pa_cons (pe_c C__law_growth hr (by omega) rfl (pa_cons (pv 4) (pa_cons (pv 3) pa_nil))) (pa_cons (pe_cmpR (op_eqD hr.units) (pv 12) (pv 10) (nomark _)) pa_nil)))))))) (pss_one (ps_ret pe_bl)) pss_nil)))
  (pss_cons (ps_set (i := 13) sc__law_true.nd rfl (Or.inl rfl) (pe_op op_add pe_int (pe_c C__law_draw hr (by omega) rfl (pa_cons (pv 0) (pa_cons pe_int (pa_cons pe_int pa_nil))))))
  (pss_cons (ps_set (i := 14) sc__law_true.nd rfl (Or.inl rfl) (pe_c C__law_draw hr (by omega) rfl (pa_cons (pv 0) (pa_cons pe_int (pa_cons (pe_op op_oneShl pe_int (pv 13)) pa_nil)))))
  (pss_cons (ps_par (i := 15) (j := 8) rfl sc__law_true.nd rfl rfl (by decide) rfl rfl (pa_cons (pe_op op_add_str (pe_op op_add_str pe_str (pe_callTy call_str_int rfl Z.str (by decide +kernel) (pa_cons (pv 14) pa_nil))) pe_str) (pa_cons (pe_tup (pa_cons pe_str (pa_cons (pv 13) (pa_cons (pe_tup (pa_cons pe_str (pa_cons (pv 14) (pa_cons pe_str pa_nil)))) pa_nil)))) pa_nil)) (by rfl))
  (pss_cons (ps_par (i := 5) (j := 16) rfl sc__law_true.nd rfl rfl (by decide) rfl rfl (pa_cons (pe_tup (pa_cons pe_str (pa_cons pe_int (pa_cons (pe_tup (pa_cons pe_str (pa_cons (pv 15) (pa_cons (pv 8) pa_nil)))) pa_nil)))) (pa_cons (pe_tup (pa_cons (pv 15) (pa_cons (pv 8) (pa_cons (pe_lst pa_nil) (pa_cons (pe_tup (pa_cons (pe_lst pa_nil) (pa_cons (pe_tup (pa_cons (pv 14) (pa_cons pe_str pa_nil))) pa_nil))) pa_nil))))) pa_nil)) (by rfl))
  (pss_cons (ps_for PassesOwn.never rfl (pi_tup (pe_tup (pa_cons (pe_tup (pa_cons (pe_mk C_Holds hr (by omega) rfl (pa_cons pe_int (pa_cons (pv 14) (pa_cons pe_str (pa_cons (pv 13) pa_nil))))) (pa_cons pe_bl pa_nil))) (pa_cons (pe_tup (pa_cons (pe_mk C_Holds hr (by omega) rfl (pa_cons pe_int (pa_cons (pv 14) (pa_cons pe_str (pa_cons (pv 13) pa_nil))))) (pa_cons pe_bl pa_nil))) pa_nil)))) (pg_tup rfl (pgs_cons (pg_name (i := 17) sc__law_true.nd rfl (Or.inl rfl)) (pgs_cons (pg_name (i := 9) sc__law_true.nd rfl (Or.inl rfl)) pgs_nil))) (pss_one (ps_if (pt_not (pt_val (pe_c C__law_is hr (by omega) rfl (pa_cons (pv 17) (pa_cons pe_int (pa_cons (pv 5) (pa_cons (pv 16) (pa_cons (pv 9) pa_nil)))))))) (pss_one (ps_ret pe_bl)) pss_nil)))
  (pss_cons (ps_if (pt_not (pt_val (pe_c C__law_is hr (by omega) rfl (pa_cons (pe_mk C_Lacks hr (by omega) rfl (pa_cons pe_int (pa_cons (pv 14) (pa_cons (pv 13) pa_nil)))) (pa_cons pe_int (pa_cons (pv 5) (pa_cons (pv 16) (pa_cons pe_bl pa_nil)))))))) (pss_one (ps_ret pe_bl)) pss_nil)
  (pss_one (ps_ret (pe_c C__law_is hr (by omega) rfl (pa_cons (pe_mk C_Lacks hr (by omega) rfl (pa_cons pe_int (pa_cons (pe_op op_xor (pv 14) pe_int) (pa_cons (pv 13) pa_nil)))) (pa_cons pe_int (pa_cons (pv 5) (pa_cons (pv 16) (pa_cons pe_bl pa_nil)))))))))))))))))))))), ?_⟩
  have hF : Fam1 mg (plainSys tfP fS) := ⟨fS, mS, rfl⟩
  have G := A.good hF
  refine ⟨_, rfl, _, _, _, rfl, by decide, by decide, by decide, fun z1 H1 z10 z11 s1 => ⟨_, _, rfl, rfl, ?_⟩⟩
  obtain ⟨size, hsize, sz0, sz1⟩ : ∃ size : Nat, (1 : Int) + z1 = (size : Int) ∧ 0 < size ∧ size ≤ 20 := ⟨(1 + z1).toNat, by omega, by omega, by omega⟩
  show gName 1 (V.int (1 + z1)) _ _ _
  rw [hsize]
  clear hsize z10 z11
  refine ⟨_, rfl, _, rfl, _, _, _, rfl, by decide, by decide, by omega, fun z2 H2 z20 z21 s2 => ?_⟩
  obtain ⟨place, rfl⟩ := Int.eq_ofNat_of_zero_le z20
  have hpl : place < size := by omega
  refine ⟨_, rfl, _, rfl, _, _, _, rfl, by decide, by decide, by omega, fun z3 H3 z30 z31 s3 => ⟨_, _, rfl, rfl, ?_⟩⟩
  obtain ⟨old, hold, ho0, ho1⟩ : ∃ old : Nat, (1 : Int) + z3 = (old : Int) ∧ 0 < old ∧ old ≤ size := ⟨(1 + z3).toNat, by omega, by omega, by omega⟩
  refine ⟨_, _, rfl, ?_⟩
  show gName 3 (V.int (1 + z3)) _ _ _
  rw [hold]
  clear hold z30 z31
  have x3 := Ext.of_same ((s1.trans s2).trans s3)
  -- the leaves
  refine ⟨_, rfl, (size : Int), rfl, by omega, by omega, fun LV nLV => ?_⟩
  rw [Int.toNat_natCast]
  refine lc_range (fun i H' => ∃ (tv : List V) (ts : List Tm), ts.length = i ∧ Ext H3 H' ∧ H' LV = some (.lst tv) ∧ DenL S0P H' tv ts ∧ ∀ t ∈ ts, Lf t) ⟨[], [], rfl, Ext.new nLV, upd_same, DenL.nil, fun t h => nomatch h⟩ ?_ ?_
  · rintro i H' hi ⟨tv, ts, rfl, x, hLV, hd, hlf⟩
    have hi' : ts.length < size := hi
    refine ⟨rfl, ?_⟩
    rw [Int.zero_add]
    refine ⟨_, rfl, _, rfl, _, _, rfl, rfl, _, 2, _, rfl, by decide, by decide, by decide, fun a1 H5 a10 a11 s5 => ?_⟩
    obtain ⟨e1, e2, _⟩ := ab_cut a10 a11
    refine ⟨_, rfl, _, rfl, by decide +kernel, ?_⟩
    rw [e1]
    refine ⟨_, rfl, _, rfl, _, _, rfl, rfl, _, 3, _, rfl, by decide, by decide, by decide, fun b1 H6 b10 b11 s6 => ⟨by show 3 ≤ sizeLine; decide, fun p np => ?_⟩⟩
    have w1 := Ext.new (o := .tup [.str "leaf", .str (ab a1.toNat), .int b1]) np
    have hp : upd H6 p (.tup [.str "leaf", .str (ab a1.toNat), .int b1]) p = some (.tup [.str "leaf", .str (ab a1.toNat), .int b1]) := upd_same
    generalize upd H6 p (.tup [.str "leaf", .str (ab a1.toNat), .int b1]) = H7 at w1 hp ⊢
    have w2 := (Ext.of_same (s5.trans s6)).trans w1
    have hLV' := w2.lst hLV
    have hl := hd.len
    have k4 := (Kp.lst (o := .lst (tv ++ [.ref p])) hLV').gr
    refine ⟨tv, hLV', by omega, tv ++ [.ref p], ts ++ [.sl "leaf" (.str (ab a1.toNat)) (.int b1)], by rw [List.length_append]; rfl, (x.trans w2).mut nLV, upd_same, ?_, fun t ht => ?_⟩
    · exact (⟨(hd.up w2).len, fun i v t a b => ((hd.up w2).at_ i v t a b).mono k4⟩ : DenL S0P _ tv ts).append (DenL.one ((dp_sl (by decide +kernel) hp (.str _ e2) (.int _) : DP H7 (.ref p) _).mono k4))
    · rcases List.mem_append.mp ht with h | h
      · exact hlf t h
      · rw [List.mem_singleton.mp h]
        exact ⟨_, _, rfl, e2, ab_len _⟩
  rintro H4 ⟨lv, ls, hll, x4, hLV, hls, hlf⟩
  obtain ⟨tv, htv, dtv⟩ := hls.get (i := place) (by omega)
  obtain ⟨x, b, hxb, htx, hxl⟩ := hlf _ (List.getElem_mem (show place < ls.length by omega))
  have hgd : ls.getD place nonT = .sl "leaf" (.str x) (.int b) := by rw [List.getD_eq_getElem?_getD, List.getElem?_eq_getElem (by omega)]; exact hxb
  rw [hxb] at dtv
  obtain ⟨qt, va, vb, rfl, _, hqt, da, db⟩ := dp_inv dtv
  obtain rfl := dp_str da
  obtain rfl := dp_int db
  clear da db dtv hxb
  have tdep : (topT ls).dep ≤ 8 := Nat.le_trans (topT_dep (d := 1) 5 ls (by show _ ≤ 32; omega) fun t ht => (hlf t ht).dep) (by decide)
  have sdep : ∀ us : List Tm, (∀ t ∈ us, t ∈ ls) → us.length ≤ ls.length → (topT us).dep ≤ 8 := fun us h h2 => Nat.le_trans (topT_dep (d := 1) 5 us (by show _ ≤ 32; omega) fun t ht => (hlf t (h t ht)).dep) (by decide)
  refine ⟨fun σ H' => ∃ HD : Addr, σ = [some (.int c), some (.int (size : Int)), some (.int (place : Int)), some (.int (old : Int)), some (.ref LV), some (.ref HD), some (.ref qt), none, none, none, none, none, none, none, none, none, none, none, none] ∧ Ext H4 H' ∧ DP H' (.ref HD) (.sl "book" (.int (size : Int)) (topT ls)), ?_, ?_⟩
  · refine ⟨_, rfl, _, rfl, LV, lv, ls, by decide, rfl, hLV, hls, by show _ ≤ 32; omega, by omega, fun tv H5 x5 dt => ⟨by show 3 ≤ sizeLine; decide, fun HD nHD => ?_⟩⟩
    have w1 := Ext.new (o := .tup [.str "book", .int (size : Int), tv]) nHD
    refine ⟨_, rfl, _, rfl, LV, lv, _, .ref qt, rfl, rfl, SqL.of (w1.lst (x5.lst hLV)), atI_nat htv, ?_⟩
    exact ⟨_, _, rfl, HD, rfl, x5.trans w1, dp_sl (by decide +kernel) upd_same (.int _) (dt.mono w1.gr)⟩
  rintro σ H5 ⟨HD, rfl, x5, dHD⟩
  have hqt5 := x5.tup hqt
  -- claims of an entry
  refine ⟨fun σ H' => ∃ (y7 y8 y9 : Option V), σ = [some (.int c), some (.int (size : Int)), some (.int (place : Int)), some (.int (old : Int)), some (.ref LV), some (.ref HD), some (.ref qt), y7, y8, y9, none, none, none, none, none, none, none, none, none] ∧ Ext H5 H', ?_, ?_⟩
  · refine ⟨_, rfl, qt, _, 1, _, rfl, rfl, SqT.of hqt5, rfl, _, rfl, qt, _, 2, _, rfl, rfl, SqT.of hqt5, rfl, by show 2 ≤ sizeLine; decide, fun a1 na1 => ?_⟩
    have w1 := Ext.new (o := .tup [.str x, .int b]) na1
    have ha1 : upd H5 a1 (.tup [.str x, .int b]) a1 = some (.tup [.str x, .int b]) := upd_same
    generalize upd H5 a1 (.tup [.str x, .int b]) = H6 at w1 ha1 ⊢
    refine ⟨_, rfl, qt, _, 1, _, rfl, rfl, SqT.of (w1.tup hqt5), rfl, _, _, rfl, rfl, ?_⟩
    refine ⟨by show x.length + 1 ≤ sizeLine; omega, _, rfl, qt, _, 2, _, rfl, rfl, SqT.of (w1.tup hqt5), rfl, by show 2 ≤ sizeLine; decide, fun a2 na2 => ?_⟩
    have w2 := Ext.new (o := .tup [.str (x ++ "c"), .int b]) na2
    have ha2 : upd H6 a2 (.tup [.str (x ++ "c"), .int b]) a2 = some (.tup [.str (x ++ "c"), .int b]) := upd_same
    generalize upd H6 a2 (.tup [.str (x ++ "c"), .int b]) = H7 at w2 ha2 ⊢
    have hqt7 := w2.tup (w1.tup hqt5)
    refine ⟨_, rfl, qt, _, 1, _, rfl, rfl, SqT.of hqt7, rfl, _, rfl, qt, _, 2, _, rfl, rfl, SqT.of hqt7, rfl, _, _, rfl, rfl, by show 2 ≤ sizeLine; decide, fun a3 na3 => ?_⟩
    have w3 := Ext.new (o := .tup [.str x, .int (b + 1)]) na3
    have ha3 : upd H7 a3 (.tup [.str x, .int (b + 1)]) a3 = some (.tup [.str x, .int (b + 1)]) := upd_same
    generalize upd H7 a3 (.tup [.str x, .int (b + 1)]) = H8 at w3 ha3 ⊢
    refine ⟨by show 3 ≤ sizeLine; decide, fun a4 na4 => ?_⟩
    have w4 := Ext.new (o := .tup [.ref a1, .ref a2, .ref a3]) na4
    have ha4 : upd H8 a4 (.tup [.ref a1, .ref a2, .ref a3]) a4 = some (.tup [.ref a1, .ref a2, .ref a3]) := upd_same
    generalize upd H8 a4 (.tup [.ref a1, .ref a2, .ref a3]) = H9 at w4 ha4 ⊢
    have w9 := ((w1.trans w2).trans w3).trans w4
    have hen : ∀ v ∈ [V.ref a1, V.ref a2, V.ref a3], EntA H9 v := fun v hv => by
      rcases List.mem_cons.mp hv with rfl | hv
      · exact ⟨a1, _, _, rfl, (w2.trans (w3.trans w4)).tup ha1, htx⟩
      rcases List.mem_cons.mp hv with rfl | hv
      · exact ⟨a2, _, _, rfl, (w3.trans w4).tup ha2, txt_app htx (by decide +kernel)⟩
      rw [List.mem_singleton.mp hv]
      exact ⟨a3, _, _, rfl, w4.tup ha3, htx⟩
    clear ha1 ha2 ha3 na1 na2 na3
    generalize [V.ref a1, V.ref a2, V.ref a3] = es at ha4 hen
    refine ⟨a4, rfl, ⟨_, SqT.of ha4⟩, for_tup (K := K) (a := a4) (xs := es) (fun i σ H' => ∃ (y7 y8 y9 : Option V), σ = [some (.int c), some (.int (size : Int)), some (.int (place : Int)), some (.int (old : Int)), some (.ref LV), some (.ref HD), some (.ref qt), y7, y8, y9, none, none, none, none, none, none, none, none, none] ∧ Ext H9 H') ⟨none, none, none, rfl, Ext.refl _⟩ (fun i σ H' _ ⟨_, _, _, _, x⟩ => SqT.of (x.tup ha4)) ?_ ?_⟩
    · rintro i v σ H10 hi ⟨y7, y8, y9, rfl, x10⟩
      obtain ⟨a, tx, tb, rfl, ha, ht⟩ := hen v (List.mem_of_getElem? hi)
      refine ⟨a, _, rfl, SqT.of (x10.tup ha), rfl, _, _, rfl, _, _, rfl, rfl, ?_⟩
      refine ⟨_, rfl, _, rfl, by show 2 ≤ sizeLine; decide, fun p1 np1 => ?_⟩
      have u1 := Ext.new (o := .tup [.str tx, .int tb]) np1
      have hp1 : upd H10 p1 (.tup [.str tx, .int tb]) p1 = some (.tup [.str tx, .int tb]) := upd_same
      generalize upd H10 p1 (.tup [.str tx, .int tb]) = H11 at u1 hp1 ⊢
      have hqt11 := (w9.trans (x10.trans u1)).tup hqt5
      refine ⟨_, rfl, qt, _, 1, _, rfl, rfl, SqT.of hqt11, rfl, _, rfl, qt, _, 2, _, rfl, rfl, SqT.of hqt11, rfl, by show 2 ≤ sizeLine; decide, fun p2 np2 => ?_⟩
      have u2 := Ext.new (o := .tup [.str x, .int b]) np2
      obtain ⟨g1, g2⟩ := ent_dp (K := K) (u2.tup hp1) ht
      obtain ⟨g3, g4⟩ := ent_dp (K := K) (show upd H11 p2 (.tup [.str x, .int b]) p2 = some (.tup [.str x, .int b]) from upd_same) htx
      generalize upd H11 p2 (.tup [.str x, .int b]) = H12 at u2 g1 g3 ⊢
      refine ⟨_, _, g1, g3, g2, g4, ?_⟩
      rw [ent_eqv]
      -- the claim
      refine ⟨_, rfl, _, rfl, _, rfl, fun cp dx ncp ndx nex => ?_⟩
      have y1 : Ext H12 (upd (upd H12 dx (.own cp)) cp (.ins CS dx [])) := (Ext.new ndx).trans (Ext.new (by rw [upd_ne nex.symm]; exact ncp))
      refine ⟨cp, dx, (place : Int), tx, .int tb, rfl, upd_same, fun H13 xo kp hst => ⟨rfl, ?_⟩⟩
      have y2 := xo.ext y1 ncp
      have x13 := (x5.trans (w9.trans (x10.trans (u1.trans u2)))).trans y2
      refine ⟨_, rfl, _, rfl, _, rfl, _, rfl, LV, lv, ls, place, by decide, rfl, x13.lst hLV, hls.up x13, by show _ ≤ 32; omega, by omega, by omega, fun pp ys H14 x14 hpp dpp => ⟨_, rfl, ?_⟩⟩
      have x514 := (w9.trans (x10.trans (u1.trans u2))).trans (y2.trans x14)
      have pl1 : plen place size ≤ 5 := plen_le 5 _ _ (by show size ≤ 32; omega)
      refine ⟨CS, _, cp, dx, _, _, _, _, _, .inr (.inl ⟨rfl, rfl⟩), rfl, x14.ins hst, (stF_no _ _ _).1, fun Q' E' hq => ⟨plainSys tfP fS, cp, dx, (place : Int), tx, .int tb, .int tb, size, (size : Int), topT ls, .ref HD, .ref pp, some (pathT ls place), 0, hF, rfl, x14.ins hst, ht, .int _, WS.any _, by show 0 ≤ 18; decide, by omega, dHD.mono x514.gr, WS.any _, by omega, ⟨pp, ys, rfl, hpp, ⟨dpp.len, dpp.at_⟩, by rw [pathT_len, hll]; omega, pathT_mem fun us hu hul => ⟨WS.any _, Nat.le_trans (sdep us hu hul) (by decide)⟩⟩, True.intro, fun H15 x15 _ => hq _ _ ?_⟩⟩
      have hj := stand_row (.sl "leaf" (.str tx) (.int tb)) ls place size hll hpl
      rw [hgd] at hj
      refine ⟨_, rfl, ?_⟩
      rw [hj, beq_self_eq_true]
      refine iteF ?_
      exact ⟨_, _, _, rfl, (x10.trans (u1.trans u2)).trans (y2.trans (x14.trans x15))⟩
    · rintro σ H10 ⟨y7, y8, y9, rfl, x10⟩
      exact ⟨_, _, _, rfl, w9.trans x10⟩
  rintro σ H6 ⟨y7, y8, y9, rfl, x6⟩
  -- claims of a growth
  have x46 := x5.trans x6
  have dHD6 := dHD.mono x6.gr
  have hLV6 := x46.lst hLV
  have hls6 := hls.up x46
  clear hqt5
  refine ⟨_, rfl, _, rfl, _, rfl, _, rfl, LV, lv, rfl, SqL.of hLV6, fun p hp => ?_⟩
  rw [cut_to]
  have w1 := Ext.new (o := .lst (lv.take old)) hp
  have lto : (ls.take old).length = old := by rw [List.length_take]; omega
  refine ⟨p, _, ls.take old, by decide, rfl, upd_same, (hls6.take old).up w1, by rw [lto]; show _ ≤ 32; omega, by omega, fun sv H7 x7 dsv => ⟨by show 3 ≤ sizeLine; decide, fun SD nSD => ?_⟩⟩
  have w2 := Ext.new (o := .tup [.str "book", .int (old : Int), sv]) nSD
  have dSD : DP (upd H7 SD (.tup [.str "book", .int (old : Int), sv])) (.ref SD) (.sl "book" (.int (old : Int)) (topT (ls.take old))) := dp_sl (by decide +kernel) upd_same (.int _) (dsv.mono w2.gr)
  generalize upd H7 SD (.tup [.str "book", .int (old : Int), sv]) = H8 at w2 dSD ⊢
  have x68 := w1.trans (x7.trans w2)
  refine ⟨_, rfl, _, rfl, _, rfl, _, _, rfl, rfl, (old : Int) - 1, rfl, LV, lv, rfl, SqL.of (x68.lst hLV6), fun p2 hp2 => ?_⟩
  rw [show ((old : Int) - 1) = ((old - 1 : Nat) : Int) by omega, cut_to]
  have v1 := Ext.new (o := .lst (lv.take (old - 1))) hp2
  have hp2' : upd H8 p2 (.lst (lv.take (old - 1))) p2 = some (.lst (lv.take (old - 1))) := upd_same
  generalize upd H8 p2 (.lst (lv.take (old - 1))) = H9 at v1 hp2' ⊢
  refine ⟨by show 3 ≤ sizeLine; decide, fun l1 nl1 => ?_⟩
  have v2 := Ext.new (o := .tup [.str "leaf", .str "c", .int 0]) nl1
  have dl1 : DP (upd H9 l1 (.tup [.str "leaf", .str "c", .int 0])) (.ref l1) (.sl "leaf" (.str "c") (.int 0)) := dp_sl (by decide +kernel) upd_same (.str _ (by decide +kernel)) (.int _)
  generalize upd H9 l1 (.tup [.str "leaf", .str "c", .int 0]) = H10 at v2 dl1 ⊢
  refine ⟨by show 1 ≤ sizeLine; decide, fun l2 nl2 => ?_⟩
  have v3 := Ext.new (o := .lst [.ref l1]) nl2
  have hl2 : upd H10 l2 (.lst [.ref l1]) l2 = some (.lst [.ref l1]) := upd_same
  generalize upd H10 l2 (.lst [.ref l1]) = H11 at v3 hl2 ⊢
  have hlv := hls6.len
  have lto2 : (ls.take (old - 1)).length = old - 1 := by rw [List.length_take]; omega
  refine ⟨p2, l2, lv.take (old - 1), [.ref l1], rfl, rfl, v3.lst (v2.lst hp2'), hl2, by rw [List.length_take]; show min (old - 1) lv.length + 1 ≤ sizeLine; omega, fun p3 np3 => ?_⟩
  have v4 := Ext.new (o := .lst (lv.take (old - 1) ++ [.ref l1])) np3
  have v14 := v1.trans (v2.trans (v3.trans v4))
  have htu : ∀ t ∈ ls.take (old - 1) ++ [Tm.sl "leaf" (.str "c") (.int 0)], t.dep ≤ 1 := fun t ht => by
    rcases List.mem_append.mp ht with h | h
    · exact (hlf t (List.mem_of_mem_take h)).dep
    · rw [List.mem_singleton.mp h]
      exact Nat.le_refl _
  have ltu : (ls.take (old - 1) ++ [Tm.sl "leaf" (.str "c") (.int 0)]).length = old := by rw [List.length_append, lto2]; show old - 1 + 1 = old; omega
  refine ⟨p3, _, ls.take (old - 1) ++ [.sl "leaf" (.str "c") (.int 0)], by decide, rfl, upd_same, ((hls6.take (old - 1)).up (x68.trans v14)).append (DenL.one (S := S0P) (t := .sl "leaf" (.str "c") (.int 0)) (dl1.mono (v3.trans v4).gr)), by rw [ltu]; show _ ≤ 32; omega, by omega, fun ov H12 x12 dov => ⟨by show 3 ≤ sizeLine; decide, fun OD nOD => ?_⟩⟩
  have w3 := Ext.new (o := .tup [.str "book", .int (old : Int), ov]) nOD
  have dOD : DP (upd H12 OD (.tup [.str "book", .int (old : Int), ov])) (.ref OD) (.sl "book" (.int (old : Int)) (topT (ls.take (old - 1) ++ [.sl "leaf" (.str "c") (.int 0)]))) := dp_sl (by decide +kernel) upd_same (.int _) (dov.mono w3.gr)
  generalize upd H12 OD (.tup [.str "book", .int (old : Int), ov]) = H13 at w3 dOD ⊢
  have x813 := v14.trans (x12.trans w3)
  have x613 := x68.trans x813
  have dSD13 := dSD.mono x813.gr
  have sd1 : (topT (ls.take old)).dep ≤ 8 := sdep _ (fun t ht => List.mem_of_mem_take ht) (by omega)
  have sd2 : (topT (ls.take (old - 1) ++ [Tm.sl "leaf" (.str "c") (.int 0)])).dep ≤ 8 := Nat.le_trans (topT_dep (d := 1) 5 _ (by rw [ltu]; show _ ≤ 32; omega) htu) (by decide)
  generalize topT (ls.take (old - 1) ++ [Tm.sl "leaf" (.str "c") (.int 0)]) = ot at sd2 dOD
  clear dSD dl1 hl2 hp2' htu ltu
  refine ⟨fun σ H' => ∃ (y12 : Option V), σ = [some (.int c), some (.int (size : Int)), some (.int (place : Int)), some (.int (old : Int)), some (.ref LV), some (.ref HD), some (.ref qt), y7, y8, y9, some (.ref SD), some (.ref OD), y12, none, none, none, none, none, none] ∧ Ext H13 H', ?_, ?_⟩
  · refine ⟨_, rfl, _, rfl, by show 2 ≤ sizeLine; decide, fun FT nFT => ?_⟩
    have u1 := Ext.new (o := .tup [.ref SD, .ref OD]) nFT
    have hFT : upd H13 FT (.tup [.ref SD, .ref OD]) FT = some (.tup [.ref SD, .ref OD]) := upd_same
    generalize upd H13 FT (.tup [.ref SD, .ref OD]) = H14 at u1 hFT ⊢
    refine ⟨FT, rfl, ⟨_, SqT.of hFT⟩, for_tup (K := K) (a := FT) (xs := [.ref SD, .ref OD]) (fun i σ H' => ∃ (y12 : Option V), σ = [some (.int c), some (.int (size : Int)), some (.int (place : Int)), some (.int (old : Int)), some (.ref LV), some (.ref HD), some (.ref qt), y7, y8, y9, some (.ref SD), some (.ref OD), y12, none, none, none, none, none, none] ∧ Ext H14 H') ⟨none, rfl, Ext.refl _⟩ (fun i σ H' _ ⟨_, _, x⟩ => SqT.of (x.tup hFT)) ?_ ?_⟩
    · rintro i v σ H15 hi ⟨y12, rfl, x15⟩
      obtain ⟨t, dv, td⟩ : ∃ t, DP H13 v (.sl "book" (.int (old : Int)) t) ∧ t.dep ≤ 8 := by
        rcases List.mem_cons.mp (List.mem_of_getElem? hi) with rfl | h
        · exact ⟨_, dSD13, sd1⟩
        · rw [List.mem_singleton.mp h]
          exact ⟨_, dOD, sd2⟩
      have x1315 := u1.trans x15
      refine ⟨_, rfl, _, rfl, fun cp dx ncp ndx nex => ?_⟩
      have y1 : Ext H15 (upd (upd H15 dx (.own cp)) cp (.ins CG dx [])) := (Ext.new ndx).trans (Ext.new (by rw [upd_ne nex.symm]; exact ncp))
      refine ⟨cp, dx, (old : Int), v, rfl, upd_same, fun H16 xo kp hst => ⟨rfl, ?_⟩⟩
      have y2 := xo.ext y1 ncp
      have x616 := (x613.trans x1315).trans y2
      refine ⟨_, rfl, _, rfl, _, rfl, _, rfl, LV, lv, ls, old, by decide, rfl, x616.lst hLV6, hls6.up x616, by show _ ≤ 32; omega, by omega, by omega, by omega, fun pp ys H17 x17 hpp dpp => ?_⟩
      have x1317 := (x1315.trans y2).trans x17
      have bk : ∀ {r : Tm}, r.dep ≤ 8 → BkT (.sl "book" (.int (old : Int)) r) := fun h => ⟨_, _, rfl, WS.any _, by omega⟩
      obtain ⟨d, d', e1, e2, e3, e4, e5⟩ := bk_apart (inj1 (K := K) hF) (r := 0) True.intro (dv.mono x1317.gr) (dSD13.mono x1317.gr) (bk td) (bk sd1)
      refine ⟨_, rfl, _, rfl, d, d', e1, e2, e3, e4, ?_⟩
      rw [e5]
      have gl1 : (growT ls old).length ≤ 6 := growT_len 5 ls old (by show _ ≤ 32; omega)
      refine ⟨CG, _, cp, dx, _, _, _, _, _, .inr (.inr ⟨rfl, rfl⟩), rfl, x17.ins hst, (grF_no _ _).1, fun Q' E' hq => ⟨plainSys tfP fS, cp, dx, (old : Int), v, .sl "book" (.int (old : Int)) t, size, .sl "book" (.int (size : Int)) (topT ls), .ref HD, .ref pp, some (growT ls old), 0, hF, rfl, x17.ins hst, dv.mono x1317.gr, bk td, by omega, dHD6.mono (x616.trans x17).gr, ⟨_, _, rfl, WS.any _, by omega⟩, ⟨pp, ys, rfl, hpp, ⟨dpp.len, dpp.at_⟩, by omega, growT_mem fun us hu hul => ⟨WS.any _, Nat.le_trans (sdep us hu hul) (by decide)⟩⟩, True.intro, fun H18 x18 _ => hq _ _ ?_⟩⟩
      have hj := grow_row ls old size (.sl "book" (.int (old : Int)) t) hll ho0 ho1
      refine ⟨_, rfl, ?_⟩
      rw [hj, beq_self_eq_true]
      refine iteF ?_
      exact ⟨_, rfl, (x15.trans y2).trans (x17.trans x18)⟩
    · rintro σ H15 ⟨y12, rfl, x15⟩
      exact ⟨_, rfl, u1.trans x15⟩
  rintro σ H14 ⟨y12, rfl, x14⟩
  have xx14 := (x3.trans x4).trans (x46.trans (x613.trans x14))
  -- a table of one key
  refine ⟨_, rfl, _, _, _, rfl, by decide, by decide, by decide, fun z1 G1 z10 z11 t1 => ⟨_, _, rfl, rfl, ?_⟩⟩
  obtain ⟨d, hd, d0, d4⟩ : ∃ d : Nat, (1 : Int) + z1 = (d : Int) ∧ 0 < d ∧ d ≤ 4 := ⟨(1 + z1).toNat, by omega, by omega, by omega⟩
  show gName 13 (V.int (1 + z1)) _ _ _
  rw [hd]
  clear hd z10 z11
  have p2 : (0 : Int) < 2 ^ d := Int.pow_pos (by decide)
  refine ⟨_, rfl, _, rfl, d, rfl, rfl, by omega, _, _, _, rfl, by decide, by decide, p2, fun key G2 k0 k1 t2 => ?_⟩
  obtain ⟨kn, rfl⟩ := Int.eq_ofNat_of_zero_le k0
  have d16 : (2 : Int) ^ d ≤ 16 := by
    have h2 : (2 : Nat) ^ d ≤ 2 ^ 4 := Nat.pow_le_pow_right (by decide) d4
    have h3 : (((2 ^ d : Nat)) : Int) = (2 : Int) ^ d := by rw [Int.natCast_pow]; rfl
    omega
  have kn16 : kn < 16 := by omega
  obtain ⟨dg1, dg2⟩ := dig16 kn kn16
  refine ⟨_, rfl, _, rfl, log_small (Int.natCast_nonneg _) (by omega), _, _, rfl, rfl, ?_, _, _, rfl, rfl, ?_, ?_⟩
  · show 4 + (Str.ofString (toString (kn : Int))).length ≤ sizeLine
    omega
  · show (("put " : Str) ++ Str.ofString (toString (kn : Int))).length + 3 ≤ sizeLine
    rw [slen_app]
    show 4 + _ + 3 ≤ sizeLine
    omega
  obtain ⟨e, he⟩ : ∃ e, e = (("put " : Str) ++ Str.ofString (toString (kn : Int))) ++ (" ab" : Str) := ⟨_, rfl⟩
  have hte : txtOk e = true := by
    rw [he]
    exact txt_app (txt_app (by decide +kernel) dg1) (by decide +kernel)
  rw [← he]
  clear he dg1 dg2
  refine ⟨_, rfl, _, rfl, by show 3 ≤ sizeLine; decide, fun R nR => ?_⟩
  have g1 := Ext.new (o := .tup [.str "row", .int (kn : Int), .str "ab"]) nR
  have dR : DP (upd G2 R (.tup [.str "row", .int (kn : Int), .str "ab"])) (.ref R) (rowT (kn : Int) "ab") := dp_sl (by decide +kernel) upd_same (.int _) (.str _ (by decide +kernel))
  generalize upd G2 R (.tup [.str "row", .int (kn : Int), .str "ab"]) = G3 at g1 dR ⊢
  refine ⟨by show 3 ≤ sizeLine; decide, fun TB nTB => ⟨_, _, rfl, ?_⟩⟩
  have g2 := Ext.new (o := .tup [.str "table", .int (d : Int), .ref R]) nTB
  have dTB : DP (upd G3 TB (.tup [.str "table", .int (d : Int), .ref R])) (.ref TB) (.sl "table" (.int (d : Int)) (rowT (kn : Int) "ab")) := dp_sl (by decide +kernel) upd_same (.int _) (dR.mono g2.gr)
  generalize upd G3 TB (.tup [.str "table", .int (d : Int), .ref R]) = G4 at g2 dTB ⊢
  refine ⟨_, rfl, _, rfl, by show 3 ≤ sizeLine; decide, fun LF nLF => ?_⟩
  have g3 := Ext.new (o := .tup [.str "leaf", .str e, .ref TB]) nLF
  have dLF : DP (upd G4 LF (.tup [.str "leaf", .str e, .ref TB])) (.ref LF) (.sl "leaf" (.str e) (.sl "table" (.int (d : Int)) (rowT (kn : Int) "ab"))) := dp_sl (by decide +kernel) upd_same (.str _ hte) (dTB.mono g3.gr)
  generalize upd G4 LF (.tup [.str "leaf", .str e, .ref TB]) = G5 at g3 dLF ⊢
  refine ⟨by show 3 ≤ sizeLine; decide, fun HB nHB => ?_⟩
  have g4 := Ext.new (o := .tup [.str "book", .int 1, .ref LF]) nHB
  have dHB : DP (upd G5 HB (.tup [.str "book", .int 1, .ref LF])) (.ref HB) (.sl "book" (.int 1) (.sl "leaf" (.str e) (.sl "table" (.int (d : Int)) (rowT (kn : Int) "ab")))) := dp_sl (by decide +kernel) upd_same (.int _) (dLF.mono g4.gr)
  generalize upd G5 HB (.tup [.str "book", .int 1, .ref LF]) = G6 at g4 dHB ⊢
  refine ⟨_, rfl, _, rfl, by show 0 ≤ sizeLine; decide, fun pl npl => ?_⟩
  have g5 := Ext.new (o := .lst []) npl
  have hpl' : upd G6 pl (.lst []) pl = some (.lst []) := upd_same
  generalize upd G6 pl (.lst []) = G7 at g5 hpl' ⊢
  refine ⟨by show 0 ≤ sizeLine; decide, fun o no => ?_⟩
  have g6 := Ext.new (o := .lst []) no
  have ho' : upd G7 o (.lst []) o = some (.lst []) := upd_same
  generalize upd G7 o (.lst []) = G8 at g6 ho' ⊢
  refine ⟨_, rfl, by show 2 ≤ sizeLine; decide, fun en nen => ?_⟩
  have g7 := Ext.new (o := .tup [.int (kn : Int), .str "ab"]) nen
  have hen : upd G8 en (.tup [.int (kn : Int), .str "ab"]) en = some (.tup [.int (kn : Int), .str "ab"]) := upd_same
  generalize upd G8 en (.tup [.int (kn : Int), .str "ab"]) = G9 at g7 hen ⊢
  refine ⟨by show 2 ≤ sizeLine; decide, fun wq nwq => ?_⟩
  have g8 := Ext.new (o := .tup [.ref o, .ref en]) nwq
  have hwq : upd G9 wq (.tup [.ref o, .ref en]) wq = some (.tup [.ref o, .ref en]) := upd_same
  generalize upd G9 wq (.tup [.ref o, .ref en]) = G10 at g8 hwq ⊢
  refine ⟨by show 4 ≤ sizeLine; decide, fun pq npq => ⟨_, _, rfl, ?_⟩⟩
  have g9 := Ext.new (o := .tup [.str e, .ref TB, .ref pl, .ref wq]) npq
  have hpq : upd G10 pq (.tup [.str e, .ref TB, .ref pl, .ref wq]) pq = some (.tup [.str e, .ref TB, .ref pl, .ref wq]) := upd_same
  generalize upd G10 pq (.tup [.str e, .ref TB, .ref pl, .ref wq]) = G11 at g9 hpq ⊢
  have gx := (g5.trans (g6.trans (g7.trans (g8.trans g9))))
  have dTB11 := dTB.mono (g3.trans (g4.trans gx)).gr
  have dHB11 := dHB.mono gx.gr
  have hpap : PapAt K (plainSys tfP fS) G11 (.ref pq) (some (e, .sl "table" (.int (d : Int)) (rowT (kn : Int) "ab"), some [], some ([], some [((kn : Int), "ab")]))) :=
    ⟨pq, .ref TB, .ref pl, .ref wq, rfl, hpq, hte, dTB11, WS.any _, (show 2 ≤ 18 by decide), ⟨⟨pl, [], rfl, (g6.trans (g7.trans (g8.trans g9))).lst hpl', DenL.nil, by show 0 ≤ 100; decide, fun t h => nomatch h⟩, fun z => nomatch z⟩, wq, o, .ref en, [], rfl, g9.tup hwq, (g7.trans (g8.trans g9)).lst ho', DenL.nil, fun t h => (nomatch h), by show 0 ≤ 20; decide, .inr ⟨((kn : Int), "ab"), en, rfl, rfl, (g8.trans g9).tup hen, (show txtOk ("ab" : Str) = true by decide +kernel)⟩⟩
  have xall : Ext H G11 := xx14.trans ((Ext.of_same (t1.trans t2)).trans (g1.trans (g2.trans (g3.trans (g4.trans gx)))))
  clear dR dTB dLF dHB hpl' ho' hen hwq hpq g1 g2 g3 g4 g5 g6 g7 g8 g9 gx dTB11
  -- a claim judged by the own paper
  have own : ∀ (Gy : Hp) (_ : Ext G11 Gy) (cp dx : Addr) (k : Int) (s : Option Str) (Q2 : VK) (E2 : XK), 0 ≤ k → k < 2 ^ d → Gy cp = some (.ins (clB CH CL ⟨0, k, (d : Int), s⟩) dx (bhF ⟨0, k, (d : Int), s⟩)) → (∀ H', Ext Gy H' → Q2 (.bl (endsB ⟨0, k, (d : Int), s⟩ [((kn : Int), "ab")])) H') → spJudgedB K (clB CH CL ⟨0, k, (d : Int), s⟩) s.isSome (Fam1 mg) [.ref cp, .ref fS, .int 1, .ref HB, .ref pq] Gy Q2 E2 := fun Gy xg cp dx k s Q2 E2 k0 k1 hc hq2 => by
    refine ⟨plainSys tfP fS, cp, dx, ⟨0, k, (d : Int), s⟩, 1, 1, .sl "leaf" (.str e) (.sl "table" (.int (d : Int)) (rowT (kn : Int) "ab")), .ref HB, .ref pq, _, 0, hF, rfl, hc, rfl, by omega, dHB11.mono xg.gr, WS.any _, (show 3 ≤ 40 by decide), hpap.ext G xg, True.intro, fun H' x' _ => ?_⟩
    rw [judge_own d0 d4 k0 k1]
    exact hq2 H' x'
  have n16 : (kn : Int) < 2 ^ d := by omega
  refine ⟨_, rfl, _, rfl, fun c1 dx1 nc1 nd1 ne1 => ?_⟩
  have y1 : Ext G11 (upd (upd G11 dx1 (.own c1)) c1 (.ins CH dx1 [])) := (Ext.new nd1).trans (Ext.new (by rw [upd_ne ne1.symm]; exact nc1))
  refine ⟨c1, dx1, 0, (kn : Int), (d : Int), "ab", rfl, upd_same, fun G12 xo kp hc1 => ⟨rfl, by show 2 ≤ sizeLine; decide, fun q1 nq1 => ?_⟩⟩
  have z1 := xo.ext y1 nc1
  clear xo kp y1
  have z2 := Ext.new (o := .tup [.ref c1, .bl true]) nq1
  have hq1 : upd G12 q1 (.tup [.ref c1, .bl true]) q1 = some (.tup [.ref c1, .bl true]) := upd_same
  generalize upd G12 q1 (.tup [.ref c1, .bl true]) = G13 at z2 hq1 ⊢
  refine ⟨_, rfl, _, rfl, fun c2 dx2 nc2 nd2 ne2 => ?_⟩
  have y1 : Ext G13 (upd (upd G13 dx2 (.own c2)) c2 (.ins CH dx2 [])) := (Ext.new nd2).trans (Ext.new (by rw [upd_ne ne2.symm]; exact nc2))
  refine ⟨c2, dx2, 0, (kn : Int), (d : Int), "a", rfl, upd_same, fun G14 xo kp hc2 => ⟨rfl, by show 2 ≤ sizeLine; decide, fun q2 nq2 => ?_⟩⟩
  have z3 := xo.ext y1 nc2
  clear xo kp y1
  have z4 := Ext.new (o := .tup [.ref c2, .bl false]) nq2
  have hq2 : upd G14 q2 (.tup [.ref c2, .bl false]) q2 = some (.tup [.ref c2, .bl false]) := upd_same
  generalize upd G14 q2 (.tup [.ref c2, .bl false]) = G15 at z4 hq2 ⊢
  refine ⟨by show 2 ≤ sizeLine; decide, fun q3 nq3 => ?_⟩
  have z5 := Ext.new (o := .tup [.ref q1, .ref q2]) nq3
  have hq3 : upd G15 q3 (.tup [.ref q1, .ref q2]) q3 = some (.tup [.ref q1, .ref q2]) := upd_same
  generalize upd G15 q3 (.tup [.ref q1, .ref q2]) = G16 at z5 hq3 ⊢
  have z16 := z1.trans (z2.trans (z3.trans (z4.trans z5)))
  have hcl : ∀ v ∈ [V.ref q1, V.ref q2], ∃ q cp dx s due, v = .ref q ∧ G16 q = some (.tup [.ref cp, .bl due]) ∧ G16 cp = some (.ins (clB CH CL ⟨0, (kn : Int), (d : Int), s⟩) dx (bhF ⟨0, (kn : Int), (d : Int), s⟩)) ∧ endsB ⟨0, (kn : Int), (d : Int), s⟩ [((kn : Int), "ab")] = due := fun v hv => by
    rcases List.mem_cons.mp hv with rfl | hv
    · refine ⟨q1, c1, dx1, some "ab", true, rfl, (z3.trans (z4.trans z5)).tup hq1, (z2.trans (z3.trans (z4.trans z5))).ins hc1, ?_⟩
      show (decide ((kn : Int) = (kn : Int)) && decide (("ab" : Str) = "ab")) = true
      rw [decide_eq_true rfl, decide_eq_true rfl]
      rfl
    · rw [List.mem_singleton.mp hv]
      refine ⟨q2, c2, dx2, some "a", false, rfl, z5.tup hq2, (z4.trans z5).ins hc2, ?_⟩
      show (decide ((kn : Int) = (kn : Int)) && decide (("ab" : Str) = "a")) = false
      rw [decide_eq_false (show ¬ ("ab" : Str) = "a" by decide +kernel), Bool.and_false]
  clear hq1 hq2 hc1 hc2 nq1 nq2 nc1 nc2 nd1 nd2 z1 z2 z3 z4 z5
  generalize [V.ref q1, V.ref q2] = cs at hq3 hcl
  refine ⟨q3, rfl, ⟨_, SqT.of hq3⟩, for_tup (K := K) (a := q3) (xs := cs) (fun i σ H' => ∃ (y9 y17 : Option V), σ = [some (.int c), some (.int (size : Int)), some (.int (place : Int)), some (.int (old : Int)), some (.ref LV), some (.ref HB), some (.ref qt), y7, some (.ref TB), y9, some (.ref SD), some (.ref OD), y12, some (.int (d : Int)), some (.int (kn : Int)), some (.str e), some (.ref pq), y17, none] ∧ Ext G16 H') ⟨_, _, rfl, Ext.refl _⟩ (fun i σ H' _ ⟨_, _, _, x⟩ => SqT.of (x.tup hq3)) ?_ ?_⟩
  · rintro i v σ G17 hi ⟨y9, y17, rfl, x17⟩
    obtain ⟨q', cp, dx, s, due, rfl, hq', hcp, hdue⟩ := hcl v (List.mem_of_getElem? hi)
    refine ⟨q', _, rfl, SqT.of (x17.tup hq'), rfl, _, _, rfl, _, _, rfl, rfl, ?_⟩
    refine ⟨_, rfl, _, rfl, _, rfl, _, rfl, ?_⟩
    refine ⟨_, _, cp, dx, _, _, _, _, due, .inl (csB_at K CH CL (Fam1 mg) ⟨0, (kn : Int), (d : Int), s⟩), rfl, x17.ins hcp, (bhF_no _).1, fun Q' E' hq => own G17 (z16.trans x17) cp dx (kn : Int) s Q' E' (Int.natCast_nonneg _) n16 (x17.ins hcp) fun G18 x18 => hq _ _ ⟨_, rfl, ?_⟩⟩
    rw [hdue, beq_self_eq_true]
    refine iteF ?_
    exact ⟨_, _, rfl, x17.trans x18⟩
  rintro σ G17 ⟨y9, y17, rfl, x17⟩
  refine ⟨_, rfl, _, rfl, fun c1 dx1 nc1 nd1 ne1 => ?_⟩
  have y1 : Ext G17 (upd (upd G17 dx1 (.own c1)) c1 (.ins CL dx1 [])) := (Ext.new nd1).trans (Ext.new (by rw [upd_ne ne1.symm]; exact nc1))
  refine ⟨c1, dx1, 0, (kn : Int), (d : Int), rfl, upd_same, fun G18 xo kp hc1 => ⟨rfl, ?_⟩⟩
  have x18 := xo.ext y1 nc1
  clear xo kp y1
  refine ⟨_, rfl, _, rfl, ?_⟩
  refine ⟨_, _, c1, dx1, _, _, _, _, false, .inl (csB_at K CH CL (Fam1 mg) ⟨0, (kn : Int), (d : Int), none⟩), rfl, hc1, (bhF_no _).1, fun Q' E' hq => own G18 (z16.trans (x17.trans x18)) c1 dx1 (kn : Int) none Q' E' (Int.natCast_nonneg _) n16 hc1 fun G19 x19 => hq _ _ ⟨_, rfl, ?_⟩⟩
  rw [show endsB ⟨0, (kn : Int), (d : Int), none⟩ [((kn : Int), "ab")] = false from decide_eq_false (fun z => z rfl)]
  refine iteF ?_
  obtain ⟨b0, b1, bn⟩ := xor16 ⟨d, by omega⟩ ⟨kn, kn16⟩ d0 (by show kn < 2 ^ d; have h3 : (((2 ^ d : Nat)) : Int) = (2 : Int) ^ d := by { rw [Int.natCast_pow]; rfl }; omega)
  refine ⟨_, rfl, _, _, rfl, rfl, _, rfl, fun c2 dx2 nc2 nd2 ne2 => ?_⟩
  have y1 : Ext G19 (upd (upd G19 dx2 (.own c2)) c2 (.ins CL dx2 [])) := (Ext.new nd2).trans (Ext.new (by rw [upd_ne ne2.symm]; exact nc2))
  refine ⟨c2, dx2, 0, Builtin.bitXor (kn : Int) 1, (d : Int), rfl, upd_same, fun G20 xo kp hc2 => ⟨rfl, ?_⟩⟩
  have x20 := xo.ext y1 nc2
  clear xo kp y1
  have x1120 := z16.trans (x17.trans (x18.trans (x19.trans x20)))
  refine ⟨_, rfl, _, rfl, ?_⟩
  refine ⟨_, _, c2, dx2, _, _, _, _, true, .inl (csB_at K CH CL (Fam1 mg) ⟨0, Builtin.bitXor (kn : Int) 1, (d : Int), none⟩), rfl, hc2, (bhF_no _).1, fun Q' E' hq => own G20 x1120 c2 dx2 _ none Q' E' b0 b1 hc2 fun G21 x21 => hq _ _ ?_⟩
  have e1 : endsB ⟨0, Builtin.bitXor (kn : Int) 1, (d : Int), none⟩ [((kn : Int), "ab")] = true := decide_eq_true (fun z => bn z.symm)
  rw [e1]
  exact q _ (xall.trans (x1120.trans x21))
end

/-! ### a seal of numbers: whatever it is told, it tells a number -/
namespace Lo
def spLo : Sp := fun vs H Q _ => ∃ (m : Str) (va : V) (j : Int), vs = [.str m, va, .int j] ∧ m.length ≤ sizeLine ∧ ((∃ i : Int, va = .int i) ∨ ∃ x : Str, va = .str x ∧ x.length ≤ sizeLine) ∧ ∀ z : Int, Q (.int z) H
structure HeldLo (P : Program) (w : World) (K : PySem.W.Frag) (mg : Str → Option Value) (base : Heap) (k : Nat) (f : Addr) : Prop where
  at_ : ∀ (H : Hp) (h : Heap), K.In h → HOk P w H h → PySem.W.FnAt f h
  run : ∀ (A : Around) (outer : List Env) (s : Shared) (H : Hp) (us : List Value) (vs : List V) (Q : VK) (E : XK), Room k A → Env0 P w K mg base A outer s H → Vals vs us → spLo vs H Q E →
    codeAny (model P w) A (.call (.ref f) ⟨us, []⟩) (CR L2.CX0 outer P w H s Q E) s
structure SlA (P : Program) (w : World) (K : PySem.W.Frag) (mg : Str → Option Value) (base : Heap) (Fam : Addr → Prop) : Prop where
  held : ∀ f, Fam f → HeldLo P w K mg base 1 f
def tSl (Fam : Addr → Prop) (i : Nat) (t : TA) : TE := fun σ H Q => ∃ f : Addr, Fam f ∧ σ[i]? = some (some (.ref f)) ∧ t σ H fun vs H1 => spLo vs H1 Q L2.E0
section
variable {X : Cx} {i j k : Nat} {x : Str} {p pos : Pos} {e : Expr} {es : List Expr} {t : TA} {Fam : Addr → Prop}
theorem pe_sl (A : ∀ f, Fam f → HeldLo X.prog X.w X.K X.mg X.base k f) (hr : Room j X.A) (hk : k ≤ j) (hN : X.N[i]? = some x) (hv : Vis X.env.scope x) (ha : PA X (e :: es) t)
    (hdb : (x == ("__debug__" : Str)) = false := by decide) (hcd : (x == ("__classdict__" : Str)) = false := by decide)
    (he : starEach (e :: es) X.env = (false, eval e X.env) :: starEach es X.env := by rfl) (hpl : (backTo pos (starEach es X.env)).any (·.1) = false := by rfl) : PE X (.Call (.Name x p) (e :: es) [] pos) (tSl Fam i t) := by
  refine ⟨fun pins s σ H Q I h => ?_⟩
  obtain ⟨f, hS, hs, ht⟩ := h
  refine wpAny_Call_Name_kw (thn ((pe_var (pos := p) hN hv hdb hcd).run pins s σ H (fun v H1 => v = .ref f ∧ H1 = H) I ⟨.ref f, hs, rfl, rfl⟩) fun u s1 ⟨v, H1, I1, r1, q1⟩ => ?_)
  obtain ⟨rfl, rfl⟩ := q1
  cases r1
  refine PySem.W.callWith_F ((A f hS).at_ _ _ I1.kIn I1.hok) (thn (ha.run pos pins s1 σ _ _ I1 ht) fun us s2 ⟨vs, H2, I2, rv, q⟩ => ?_) he hpl
  refine ⟨(A f hS).at_ _ _ I2.kIn I2.hok, ?_⟩
  refine wpAny_call (codeAny_mono ((A f hS).run X.A X.stack s2 H2 us vs Q L2.E0 (hr.mono hk) I2.env0 rv q) fun r s' hq => ?_)
  cases r with
  | error e => exact False.elim hq
  | ok fl =>
    cases fl with
    | ret u => exact I2.after hq
    | next => exact False.elim hq
    | brk => exact False.elim hq
    | cont => exact False.elim hq
end
section
variable {P : Program} {w : World} {K : PySem.W.Frag} {mg : Str → Option Value} {base : Heap} {Fam : Addr → Prop}
theorem fn_lnarrow {cc : Addr} (T : Txt K mg cc) {f : Addr} {fd : FuncData} (F : L2.Fun K "_law_narrow" "_law_narrow" s__law_narrow f fd) : FnOk P w K mg base L2.CX0 1 f fd ["_law_mark", "_law_one", "_law_two"] spLo := by
  have Z := T.Z
  refine F.ok sc__law_narrow (fun vs H Q E h => ?_) (fun cdv A outer s H vs Q E hr h => ?_)
  · obtain ⟨m, va, j, rfl, _⟩ := h
    rfl
  obtain ⟨m, va, j, rfl, hm, ha, q⟩ := h
  refine ⟨_, (pss_cons (ps_set (i := 3) sc__law_narrow.nd rfl (Or.inl rfl) (pe_ifExp (pt_val (pe_callB call_isi rfl Z.isinstance (by decide +kernel) (pa_cons (pv 1) (pa_cons (pe_bltn (v := .ty "str") rfl Z.str (by decide +kernel) rfl) pa_nil)))) (pe_callB call_len_str rfl Z.len PySem.boot_len (pa_cons (pv 1) pa_nil)) (pv 1)))
  (pss_one (ps_ret (pe_op op_mod (pe_op op_add (pe_op op_add (pe_op op_add (pe_op op_mul (pe_callB call_len_str rfl Z.len PySem.boot_len (pa_cons (pv 0) pa_nil)) pe_int) (pe_op op_mul (pv 3) pe_int)) (pe_op op_mul (pv 2) pe_int)) pe_int) pe_int)))), ?_⟩
  rcases ha with ⟨i, rfl⟩ | ⟨x, rfl, hx⟩
  · refine ⟨_, rfl, .int i, .ty "str", _, _, false, rfl, .ty "str", .base (.int _), kit_ty (by decide +kernel), false, rfl, iteF ?_⟩
    exact ⟨_, rfl, _, rfl, m, rfl, hm, _, _, rfl, rfl, .inr ⟨by decide, by decide⟩, _, rfl, _, _, rfl, rfl, .inr ⟨by decide, by decide⟩, _, _, rfl, rfl, _, rfl, _, _, rfl, rfl, .inr ⟨by decide, by decide⟩, _, _, rfl, rfl, _, _, rfl, rfl, _, 1000003, rfl, rfl, (show (0 : Int) < 1000003 by decide), q _⟩
  · refine ⟨_, rfl, .str x, .ty "str", _, _, true, rfl, .ty "str", .base (.str _), kit_ty (by decide +kernel), true, rfl, iteT ?_⟩
    exact ⟨_, rfl, x, rfl, hx, _, rfl, m, rfl, hm, _, _, rfl, rfl, .inr ⟨by decide, by decide⟩, _, rfl, _, _, rfl, rfl, .inr ⟨by decide, by decide⟩, _, _, rfl, rfl, _, rfl, _, _, rfl, rfl, .inr ⟨by decide, by decide⟩, _, _, rfl, rfl, _, _, rfl, rfl, _, 1000003, rfl, rfl, (show (0 : Int) < 1000003 by decide), q _⟩
def FamN (mg : Str → Option Value) : Addr → Prop := fun f => mg "_law_narrow" = some (.ref f)
theorem slaN {cc : Addr} (T : Txt K mg cc) : SlA P w K mg base (FamN mg) := by
  obtain ⟨fP, fdP, FP, mP, bP⟩ := T.d__law_narrow.ex
  refine ⟨fun f m => ?_⟩
  have m : mg "_law_narrow" = some (.ref f) := m
  rw [mP] at m
  cases m
  have G := fn_lnarrow (P := P) (w := w) (base := base) T FP
  refine ⟨fun H h X _ => fnAt_fun FP X, fun A outer s H us vs Q E hr e0 rv h => ?_⟩
  have hl : us.length = ["_law_mark", "_law_one", "_law_two"].length := by rw [← rv.length]; exact G.len _ _ _ _ h
  exact G.run A outer s H ⟨us, []⟩ us _ Q E hr e0 (.of_eq (bP us hl)) rv h
/-- the program's seals -/
def spMk (Fam : Addr → Prop) : Sp := fun vs H Q _ => ∃ (f : Addr) (va : V) (j : Int), Fam f ∧ vs = [.ref f, va, .int j] ∧ ((∃ i : Int, va = .int i) ∨ ∃ x : Str, va = .str x ∧ x.length ≤ sizeLine) ∧ ∀ z : Int, Q (.int z) H
theorem ok_leaf_seal {cc : Addr} (T : Txt K mg cc) (A : SlA P w K mg base Fam) : Cal P w K mg base 2 "leaf_seal" (spMk Fam) [] := by
  refine cal_of T.d_leaf_seal sc_leaf_seal (fun vs H Q E h => ?_) (fun f cdv A' outer s H vs Q E hr h => ?_)
  · obtain ⟨f, va, j, _, rfl, _⟩ := h
    rfl
  obtain ⟨f, va, j, hF, rfl, ha, q⟩ := h
  refine ⟨_, (pss_one (ps_ret (pe_sl (i := 0) A.held hr (by omega) rfl (by first | exact Or.inl rfl | exact Or.inr (Or.inl rfl) | exact Or.inr (Or.inr rfl)) (pa_cons pe_str (pa_cons (pv 1) (pa_cons (pv 2) pa_nil)))))), ?_⟩
  exact ⟨f, hF, rfl, _, rfl, _, rfl, "leaf", va, j, rfl, by decide +kernel, ha, q⟩
theorem ok_book_seal {cc : Addr} (T : Txt K mg cc) (A : SlA P w K mg base Fam) : Cal P w K mg base 2 "book_seal" (spMk Fam) [] := by
  refine cal_of T.d_book_seal sc_book_seal (fun vs H Q E h => ?_) (fun f cdv A' outer s H vs Q E hr h => ?_)
  · obtain ⟨f, va, j, _, rfl, _⟩ := h
    rfl
  obtain ⟨f, va, j, hF, rfl, ha, q⟩ := h
  refine ⟨_, (pss_one (ps_ret (pe_sl (i := 0) A.held hr (by omega) rfl (by first | exact Or.inl rfl | exact Or.inr (Or.inl rfl) | exact Or.inr (Or.inr rfl)) (pa_cons pe_str (pa_cons (pv 1) (pa_cons (pv 2) pa_nil)))))), ?_⟩
  exact ⟨f, hF, rfl, _, rfl, _, rfl, "book", va, j, rfl, by decide +kernel, ha, q⟩
theorem ok_pair_seal {cc : Addr} (T : Txt K mg cc) (A : SlA P w K mg base Fam) : Cal P w K mg base 2 "pair_seal" (spMk Fam) [] := by
  refine cal_of T.d_pair_seal sc_pair_seal (fun vs H Q E h => ?_) (fun f cdv A' outer s H vs Q E hr h => ?_)
  · obtain ⟨f, va, j, _, rfl, _⟩ := h
    rfl
  obtain ⟨f, va, j, hF, rfl, ha, q⟩ := h
  refine ⟨_, (pss_one (ps_ret (pe_sl (i := 0) A.held hr (by omega) rfl (by first | exact Or.inl rfl | exact Or.inr (Or.inl rfl) | exact Or.inr (Or.inr rfl)) (pa_cons pe_str (pa_cons (pv 1) (pa_cons (pv 2) pa_nil)))))), ?_⟩
  exact ⟨f, hF, rfl, _, rfl, _, rfl, "pair", va, j, rfl, by decide +kernel, ha, q⟩
end
end Lo

namespace Lo
def SidL (H : Hp) (vs : List V) : Prop := ∀ v ∈ vs, ∃ (q : Addr) (i : Int) (b : Bool), v = .ref q ∧ H q = some (.tup [.int i, .bl b])
theorem SidL.gr {H H' : Hp} {vs : List V} (h : SidL H vs) (x : Gr H H') : SidL H' vs := fun v hv => by
  obtain ⟨q, i, b, e, h1⟩ := h v hv
  exact ⟨q, i, b, e, x.keep _ _ h1 True.intro (fun _ z => nomatch z)⟩
theorem SidL.snoc {H : Hp} {vs : List V} {q : Addr} {i : Int} {b : Bool} (h : SidL H vs) (hq : H q = some (.tup [.int i, .bl b])) : SidL H (vs ++ [.ref q]) := fun v hv => by
  rcases List.mem_append.mp hv with h2 | h2
  · exact h v h2
  · rw [List.mem_singleton.mp h2]
    exact ⟨q, i, b, rfl, hq⟩
theorem ints_dp {K : PySem.W.Frag} {H : Hp} : ∀ is : List Int, ∃ ds, DpAll K H (is.map V.int) ds ∧ PyData.canLayAll0 ds = true ∧ PyData.depthAll ds = 0 ∧ ds.length = is.length
  | [] => ⟨[], .nil, rfl, rfl, rfl⟩
  | i :: is => by
    obtain ⟨ds, a, b, c, e⟩ := ints_dp (K := K) (H := H) is
    refine ⟨.int i :: ds, .cons (.int _) a, ?_, ?_, ?_⟩
    · rw [PyData.canLayAll0, b]
      rfl
    · show max 0 (PyData.depthAll ds) = 0
      rw [c]
      rfl
    · rw [List.length_cons, e, List.length_cons]
theorem ints_ne {K : PySem.W.Frag} {H : Hp} {a p : Addr} {is : List Int} (ha : SqL K H a (is.map V.int)) (hp : SqL K H p []) : ∃ d e, Dp K H (.ref a) d ∧ Dp K H (.ref p) e ∧ SeqAt.shaped d = true ∧ SeqAt.shaped e = true := by
  obtain ⟨ds, a1, b, c, _⟩ := ints_dp (K := K) (H := H) is
  have c' : (PyData.list ds).canLay0 = true := b
  exact ⟨.list ds, .list [], .lst ha a1, .lst hp .nil, shaped_of c' (by show PyData.depthAll ds + 1 ≤ 64; omega), by decide +kernel⟩
theorem last_int {is : List Int} {y : V} (h : (is.map V.int).getLast? = some y) : ∃ z : Int, y = .int z := by
  obtain ⟨z, _, e⟩ := map_int_mem (List.mem_of_getLast? h)
  exact ⟨z, e⟩
theorem cut_map (is : List Int) : ∃ is' : List Int, (is.map V.int).take ((is.map V.int).length - 1) = is'.map V.int ∧ is'.length = is.length - 1 := by
  refine ⟨is.take (is.length - 1), ?_, ?_⟩
  · rw [List.length_map, List.map_take]
  · rw [List.length_take]
    omega
def spRisen (K : PySem.W.Frag) (mg : Str → Option Value) (Fam : Addr → Prop) : Sp := fun vs H Q E => ∃ (f : Addr) (l : Int) (place n : Nat) (a : Addr) (is : List Int), Fam f ∧ vs = [.ref f, .int l, .int (place : Int), .int (n : Int), .ref a] ∧ H a = some (.lst (is.map V.int)) ∧ is.length ≤ 100000 ∧ place < n ∧ n.log2 ≤ 10000 ∧
  (∀ (z : Int) H', Ext H H' → Q (.int z) H') ∧ (∀ C H', mg "BadPaper" = some (.ref C) → Ext H H' → E (.ref C) none H')
section
variable {P : Program} {w : World} {K : PySem.W.Frag} {mg : Str → Option Value} {base : Heap} {Fam : Addr → Prop}
theorem ok_risen {cc : Addr} (T : Txt K mg cc) (A : SlA P w K mg base Fam) : CalX P w K mg base 3 "risen" (spRisen K mg Fam) := by
  have Z := T.Z
  have C_last_of := My.ok_last (P := P) (w := w) (base := base) T
  have C_split := My.ok_split (P := P) (w := w) (base := base) T
  have C_pair_seal := ok_pair_seal T A
  obtain ⟨C_BadPaper, g_BadPaper, F_BadPaper⟩ := T.x_BadPaper.ex
  refine calX_of T.d_risen sc_risen (fun vs H Q E h => ?_) (fun f cdv A' outer s H vs Q E hr h => ?_)
  · obtain ⟨f, l, place, n, a, is, _, rfl, _⟩ := h
    rfl
  obtain ⟨sf, l, place, n, a, is, hF, rfl, ha, hil, hpn, hlog, q1, q2⟩ := h
  have e16 : sizeLine = 16777216 := sizeLine_eq
  refine ⟨_, (pss_cons (ps_par (i := 5) (j := 6) rfl sc_risen.nd rfl rfl (by decide) rfl rfl (pa_cons (pv 4) (pa_cons (pe_lst pa_nil) pa_nil)) (by rfl))
  (pss_cons (ps_while (passes_of rfl) (pt_cmpR op_gt (pv 3) pe_int (nomark _)) (pss_cons (ps_set (i := 7) sc_risen.nd rfl (Or.inl rfl) (pe_cx C_last_of (takes_of rfl rfl rfl rfl) hr (by omega) rfl (pa_cons (pv 5) pa_nil)))
  (pss_cons (ps_set (i := 5) sc_risen.nd rfl (Or.inl rfl) (pe_slice sl_list (pv 5) po_none (po_some (pe_op op_sub (pe_callB call_len_seq rfl Z.len PySem.boot_len (pa_cons (pv 5) pa_nil)) pe_int))))
  (pss_cons (ps_set (i := 8) sc_risen.nd rfl (Or.inl rfl) (pe_c C_split hr (by omega) rfl (pa_cons (pv 3) pa_nil)))
  (pss_cons (ps_expr (pe_bm PySem.F.plainAttrs_list PySem.F.slot_list_append PySem.F.type_list_append mt_append (pv 6) (pa_cons (pe_tup (pa_cons (pv 7) (pa_cons (pe_cmpR op_lt (pv 2) (pv 8) (nomark _)) pa_nil))) pa_nil)))
  (pss_one (ps_if (pt_cmpR op_lt (pv 2) (pv 8) (nomark _)) (pss_one (ps_set (i := 3) sc_risen.nd rfl (Or.inl rfl) (pv 8))) (pss_one (ps_par (i := 2) (j := 3) rfl sc_risen.nd rfl rfl (by decide) rfl rfl (pa_cons (pe_op op_sub (pv 2) (pv 8)) (pa_cons (pe_op op_sub (pv 3) (pv 8)) pa_nil)) (by rfl))))))))))
  (pss_cons (ps_if (pt_cmpR (op_neD hr.units) (pv 5) (pe_lst pa_nil) (nomark _)) (pss_one (ps_raiseX F_BadPaper g_BadPaper rfl (takes_of rfl rfl rfl rfl) rfl)) pss_nil)
  (pss_cons (ps_set (i := 9) sc_risen.nd rfl (Or.inl rfl) (pv 1))
  (pss_cons (ps_for (passes_of rfl) rfl (pi_list (pe_revL (pv 6))) (pg_tup rfl (pgs_cons (pg_name (i := 7) sc_risen.nd rfl (Or.inl rfl)) (pgs_cons (pg_name (i := 10) sc_risen.nd rfl (Or.inl rfl)) pgs_nil))) (pss_one (ps_set (i := 9) sc_risen.nd rfl (Or.inl rfl) (pe_ifExp (pt_val (pv 10)) (pe_c C_pair_seal hr (by omega) rfl (pa_cons (pv 0) (pa_cons (pv 9) (pa_cons (pv 7) pa_nil)))) (pe_c C_pair_seal hr (by omega) rfl (pa_cons (pv 0) (pa_cons (pv 7) (pa_cons (pv 9) pa_nil))))))))
  (pss_one (ps_ret (pv 9)))))))), ?_⟩
  refine ⟨_, rfl, by show 0 ≤ sizeLine; decide, fun p hp => ⟨_, _, rfl, fun m σ H' => ∃ (place' n' : Nat) (b : Addr) (js : List Int) (ssv : List V) (y7 y8 : Option V), n' = m ∧ σ = [some (.ref sf), some (.int l), some (.int (place' : Int)), some (.int (n' : Int)), some (.ref a), some (.ref b), some (.ref p), y7, y8, none, none] ∧
    Ext H H' ∧ H' p = some (.lst ssv) ∧ SidL H' ssv ∧ place' < n' ∧ n'.log2 ≤ 10000 ∧ ssv.length + js.length ≤ 100000 ∧ H' b = some (.lst (js.map V.int)) ∧ b ≠ p, ?_, ?_⟩⟩
  · exact ⟨n, place, n, a, is, [], none, none, rfl, rfl, Ext.new hp, upd_same, fun v h => (nomatch h), hpn, hlog, by show 0 + _ ≤ _; omega, by rw [upd_ne (ne_of_none ha hp)]; exact ha, ne_of_none ha hp⟩
  rintro m σ H1 ⟨place', n', b, js, ssv, y7, y8, rfl, rfl, x1, hp1, hss, hlt, hlog', hsl, hb, hbp⟩
  refine ⟨_, rfl, _, 1, rfl, rfl, _, rfl, ite2 (fun c => ?_) (fun c => ?_)⟩
  · have c' : 1 < (n' : Int) := of_decide_eq_true c
    have h2 : 2 ≤ n' := by omega
    have hs1 := splitN_lt h2
    have hs2 := splitN_pos n'
    obtain ⟨lg1, lg2⟩ := splitN_log h2 hlog'
    refine ⟨_, fun σ' H' h => h, ?_⟩
    refine ⟨_, rfl, _, rfl, .inl ⟨b, _, rfl, hb, fun y hy => ?_, fun e C hC => q2 C H1 hC x1⟩⟩
    obtain ⟨z, rfl⟩ := last_int hy
    have hjl : js.length ≠ 0 := fun z0 => by
      rw [List.eq_nil_of_length_eq_zero z0] at hy
      cases hy
    refine ⟨_, rfl, _, rfl, b, _, rfl, .inl (SqL.of hb), _, 1, rfl, rfl, (((js.map V.int).length - 1 : Nat) : Int), ?_, b, _, rfl, SqL.of hb, fun p1 np1 => ?_⟩
    · rw [List.length_map]
      rw [show ((js.length - 1 : Nat) : Int) = (js.length : Int) - 1 by omega]
    rw [cut_to]
    obtain ⟨js', ejs, ljs⟩ := cut_map js
    rw [ejs]
    have np1p : p1 ≠ p := fun z => by rw [z, hp1] at np1; cases np1
    have y1 := Ext.new (o := .lst (js'.map V.int)) np1
    have hp1' : upd H1 p1 (.lst (js'.map V.int)) p1 = some (.lst (js'.map V.int)) := upd_same
    generalize upd H1 p1 (.lst (js'.map V.int)) = H2 at y1 hp1' ⊢
    have hp2 := y1.lst hp1
    refine ⟨_, rfl, n', rfl, h2, by omega, ?_⟩
    refine ⟨_, rfl, .inl ⟨rfl, ssv, SqL.of hp2⟩, _, rfl, _, rfl, _, rfl, _, _, rfl, rfl, by show 2 ≤ sizeLine; decide, fun q hq => ?_⟩
    have npq : q ≠ p := fun z => by rw [z, hp2] at hq; cases hq
    have y2 := Ext.new (o := .tup [.int z, .bl (decide ((place' : Int) < ((splitN n' : Nat) : Int)))]) hq
    have hq2 : upd H2 q (.tup [.int z, .bl (decide ((place' : Int) < ((splitN n' : Nat) : Int)))]) q = some (.tup [.int z, .bl (decide ((place' : Int) < ((splitN n' : Nat) : Int)))]) := upd_same
    generalize upd H2 q (.tup [.int z, .bl (decide ((place' : Int) < ((splitN n' : Nat) : Int)))]) = H3 at y2 hq2 ⊢
    have hp3 := y2.lst hp2
    have hp13 := y2.lst hp1'
    refine ⟨p, ssv, _, rfl, rfl, hp3, by omega, ?_⟩
    have k3 : Kp H3 (upd H3 p (.lst (ssv ++ [.ref q]))) := Kp.lst hp3
    have x3 : Ext H (upd H3 p (.lst (ssv ++ [.ref q]))) := (x1.trans (y1.trans y2)).mut hp
    have hss3 := (((hss.gr (y1.trans y2).gr).snoc hq2).gr k3.gr)
    have z4 : (upd H3 p (.lst (ssv ++ [.ref q]))) p1 = some (.lst (js'.map V.int)) := by rw [upd_ne np1p]; exact hp13
    have lss : (ssv ++ [V.ref q]).length = ssv.length + 1 := by rw [List.length_append]; rfl
    refine ⟨_, rfl, _, rfl, _, _, rfl, rfl, _, rfl, ite2 (fun c2 => ?_) (fun c2 => ?_)⟩
    · have c2' : (place' : Int) < ((splitN n' : Nat) : Int) := of_decide_eq_true c2
      refine ⟨_, rfl, ?_⟩
      exact ⟨splitN n', hs1, place', splitN n', p1, js', ssv ++ [.ref q], _, _, rfl, rfl, x3, upd_same, hss3, by omega, lg1, by omega, z4, np1p⟩
    · have c2' : ¬ (place' : Int) < ((splitN n' : Nat) : Int) := of_decide_eq_false (Bool.eq_false_iff.mpr c2)
      refine ⟨_, rfl, _, rfl, _, _, rfl, rfl, _, rfl, _, rfl, _, _, rfl, rfl, _, _, rfl, ?_⟩
      refine ⟨n' - splitN n', by omega, place' - splitN n', n' - splitN n', p1, js', ssv ++ [.ref q], some (.int z), some (.int ((splitN n' : Nat) : Int)), rfl, ?_, x3, upd_same, hss3, by omega, lg2, by omega, z4, np1p⟩
      rw [show ((place' - splitN n' : Nat) : Int) = (place' : Int) - ((splitN n' : Nat) : Int) by omega, show ((n' - splitN n' : Nat) : Int) = (n' : Int) - ((splitN n' : Nat) : Int) by omega]
      rfl
  · refine ⟨_, rfl, by show 0 ≤ sizeLine; decide, fun p2 hp2 => ?_⟩
    have x2 := x1.trans (Ext.new (o := .lst []) hp2)
    have hb2 : (upd H1 p2 (.lst [])) b = some (.lst (js.map V.int)) := by rw [upd_ne (ne_of_none hb hp2)]; exact hb
    have hp4 : (upd H1 p2 (.lst [])) p = some (.lst ssv) := by rw [upd_ne (ne_of_none hp1 hp2)]; exact hp1
    have hss4 := hss.gr (Ext.new (o := .lst []) hp2).gr
    obtain ⟨d, e, a1, a2, a3, a4⟩ := ints_ne (K := K) (SqL.of hb2) (SqL.of (upd_same (H := H1) (o := .lst [])))
    refine ⟨d, e, a1, a2, a3, a4, _, rfl, ite2 (fun c3 => ?_) (fun c3 => ?_)⟩
    · exact q2 _ _ g_BadPaper x2
    · generalize upd H1 p2 (.lst []) = H4 at x2 hp4 hss4 ⊢
      refine ⟨_, rfl, ?_⟩
      refine ⟨_, rfl, p, ssv, rfl, SqL.of hp4, fun p3 np3 => ⟨p3, rfl, ⟨_, SqL.of upd_same⟩, ?_⟩⟩
      have x5 := x2.trans (Ext.new (o := .lst ssv.reverse) np3)
      have hp5 : (upd H4 p3 (.lst ssv.reverse)) p3 = some (.lst ssv.reverse) := upd_same
      have hss5 := hss4.gr (Ext.new (o := .lst ssv.reverse) np3).gr
      generalize upd H4 p3 (.lst ssv.reverse) = H5 at x5 hp5 hss5 ⊢
      refine for_list (K := K) (a := p3) (xs := ssv.reverse) (fun i σ H' => ∃ (u : Int) (z7 z8 z10 : Option V), σ = [some (.ref sf), some (.int l), some (.int (place' : Int)), some (.int (n' : Int)), some (.ref a), some (.ref b), some (.ref p), z7, z8, some (.int u), z10] ∧ Ext H5 H')
        ⟨l, _, _, _, rfl, Ext.refl _⟩ (fun i σ H' _ ⟨_, _, _, _, _, x⟩ => SqL.of (x.lst hp5)) ?_ ?_
      · rintro i y σ H' hi ⟨u, z7, z8, z10, rfl, x⟩
        obtain ⟨q, si, sb, rfl, hq⟩ := hss5 y (List.mem_reverse.mp (List.mem_of_getElem? hi))
        refine ⟨q, _, rfl, SqT.of (x.tup hq), rfl, ?_⟩
        refine ⟨_, _, rfl, _, _, rfl, rfl, ?_⟩
        refine ⟨_, rfl, _, rfl, ?_⟩
        cases sb with
        | true =>
          refine iteT ?_
          refine ⟨_, rfl, _, rfl, _, rfl, sf, _, _, hF, rfl, .inl ⟨u, rfl⟩, fun z => ?_⟩
          exact ⟨z, _, _, _, rfl, x⟩
        | false =>
          refine iteF ?_
          refine ⟨_, rfl, _, rfl, _, rfl, sf, _, _, hF, rfl, .inl ⟨si, rfl⟩, fun z => ?_⟩
          exact ⟨z, _, _, _, rfl, x⟩
      · rintro σ H6 ⟨u, z7, z8, z10, rfl, x6⟩
        exact ⟨_, rfl, q1 u H6 (x5.trans x6)⟩
end
end Lo

namespace Lo
def spRegrown (K : PySem.W.Frag) (mg : Str → Option Value) (Fam : Addr → Prop) : Sp := fun vs H Q E => ∃ (f : Addr) (old n : Nat) (a : Addr) (is : List Int), Fam f ∧ vs = [.ref f, .int (old : Int), .int (n : Int), .ref a] ∧ H a = some (.lst (is.map V.int)) ∧ is.length ≤ 100000 ∧ 0 < old ∧ old ≤ n ∧ n.log2 ≤ 10000 ∧
  (∀ q (i j : Int) H', Ext H H' → H' q = some (.tup [.int i, .int j]) → Q (.ref q) H') ∧ (∀ C H', mg "BadPaper" = some (.ref C) → Ext H H' → E (.ref C) none H')
section
variable {P : Program} {w : World} {K : PySem.W.Frag} {mg : Str → Option Value} {base : Heap} {Fam : Addr → Prop}
theorem ok_regrown {cc : Addr} (T : Txt K mg cc) (A : SlA P w K mg base Fam) : CalX P w K mg base 3 "regrown" (spRegrown K mg Fam) := by
  have Z := T.Z
  have C_last_of := My.ok_last (P := P) (w := w) (base := base) T
  have C_split := My.ok_split (P := P) (w := w) (base := base) T
  have C_pair_seal := ok_pair_seal T A
  obtain ⟨C_BadPaper, g_BadPaper, F_BadPaper⟩ := T.x_BadPaper.ex
  refine calX_of T.d_regrown sc_regrown (fun vs H Q E h => ?_) (fun f cdv A' outer s H vs Q E hr h => ?_)
  · obtain ⟨f, old, n, a, is, _, rfl, _⟩ := h
    rfl
  obtain ⟨sf, old, n, a, is, hF, rfl, ha, hil, ho0, hon, hlog, q1, q2⟩ := h
  have e16 : sizeLine = 16777216 := sizeLine_eq
  refine ⟨_, (pss_cons (ps_set (i := 4) sc_regrown.nd rfl (Or.inl rfl) (pe_cx C_last_of (takes_of rfl rfl rfl rfl) hr (by omega) rfl (pa_cons (pv 3) pa_nil)))
  (pss_cons (ps_par (i := 5) (j := 6) rfl sc_regrown.nd rfl rfl (by decide) rfl rfl (pa_cons (pe_slice sl_list (pv 3) po_none (po_some (pe_op op_sub (pe_callB call_len_seq rfl Z.len PySem.boot_len (pa_cons (pv 3) pa_nil)) pe_int))) (pa_cons (pe_lst pa_nil) pa_nil)) (by rfl))
  (pss_cons (ps_while (passes_of rfl) (pt_cmpR op_ne (pv 1) (pv 2) (nomark _)) (pss_cons (ps_set (i := 7) sc_regrown.nd rfl (Or.inl rfl) (pe_c C_split hr (by omega) rfl (pa_cons (pv 2) pa_nil)))
  (pss_cons (ps_expr (pe_bm PySem.F.plainAttrs_list PySem.F.slot_list_append PySem.F.type_list_append mt_append (pv 6) (pa_cons (pe_tup (pa_cons (pv 4) (pa_cons (pe_cmpR op_le (pv 1) (pv 7) (nomark _)) pa_nil))) pa_nil)))
  (pss_cons (ps_if (pt_cmpR op_le (pv 1) (pv 7) (nomark _)) (pss_one (ps_set (i := 2) sc_regrown.nd rfl (Or.inl rfl) (pv 7))) (pss_one (ps_par (i := 1) (j := 2) rfl sc_regrown.nd rfl rfl (by decide) rfl rfl (pa_cons (pe_op op_sub (pv 1) (pv 7)) (pa_cons (pe_op op_sub (pv 2) (pv 7)) pa_nil)) (by rfl))))
  (pss_cons (ps_set (i := 4) sc_regrown.nd rfl (Or.inl rfl) (pe_cx C_last_of (takes_of rfl rfl rfl rfl) hr (by omega) rfl (pa_cons (pv 5) pa_nil)))
  (pss_one (ps_set (i := 5) sc_regrown.nd rfl (Or.inl rfl) (pe_slice sl_list (pv 5) po_none (po_some (pe_op op_sub (pe_callB call_len_seq rfl Z.len PySem.boot_len (pa_cons (pv 5) pa_nil)) pe_int))))))))))
  (pss_cons (ps_if (pt_cmpR op_gt (pe_callB call_len_seq rfl Z.len PySem.boot_len (pa_cons (pv 5) pa_nil)) pe_int (nomark _)) (pss_one (ps_raiseX F_BadPaper g_BadPaper rfl (takes_of rfl rfl rfl rfl) rfl)) pss_nil)
  (pss_cons (ps_par (i := 8) (j := 9) rfl sc_regrown.nd rfl rfl (by decide) rfl rfl (pa_cons (pv 4) (pa_cons (pv 4) pa_nil)) (by rfl))
  (pss_cons (ps_for (passes_of rfl) rfl (pi_list (pe_revL (pv 6))) (pg_tup rfl (pgs_cons (pg_name (i := 4) sc_regrown.nd rfl (Or.inl rfl)) (pgs_cons (pg_name (i := 10) sc_regrown.nd rfl (Or.inl rfl)) pgs_nil))) (pss_cons (ps_if (pt_not (pt_val (pv 10))) (pss_one (ps_set (i := 8) sc_regrown.nd rfl (Or.inl rfl) (pe_c C_pair_seal hr (by omega) rfl (pa_cons (pv 0) (pa_cons (pv 4) (pa_cons (pv 8) pa_nil)))))) pss_nil)
  (pss_one (ps_set (i := 9) sc_regrown.nd rfl (Or.inl rfl) (pe_ifExp (pt_val (pv 10)) (pe_c C_pair_seal hr (by omega) rfl (pa_cons (pv 0) (pa_cons (pv 9) (pa_cons (pv 4) pa_nil)))) (pe_c C_pair_seal hr (by omega) rfl (pa_cons (pv 0) (pa_cons (pv 4) (pa_cons (pv 9) pa_nil)))))))))
  (pss_one (ps_ret (pe_tup (pa_cons (pv 8) (pa_cons (pv 9) pa_nil))))))))))), ?_⟩
  refine ⟨_, rfl, _, rfl, .inl ⟨a, _, rfl, ha, fun y hy => ?_, fun e C hC => q2 C H hC (Ext.refl _)⟩⟩
  obtain ⟨z, rfl⟩ := last_int hy
  refine ⟨_, rfl, _, rfl, a, _, rfl, .inl (SqL.of ha), _, 1, rfl, rfl, (((is.map V.int).length - 1 : Nat) : Int), ?_, a, _, rfl, SqL.of ha, fun p1 np1 => ?_⟩
  · have hjl : is.length ≠ 0 := fun z0 => by
      rw [List.eq_nil_of_length_eq_zero z0] at hy
      cases hy
    rw [List.length_map]
    rw [show ((is.length - 1 : Nat) : Int) = (is.length : Int) - 1 by omega]
  rw [cut_to]
  obtain ⟨js, ejs, ljs⟩ := cut_map is
  rw [ejs]
  have x1 := Ext.new (o := .lst (js.map V.int)) np1
  have hp1 : upd H p1 (.lst (js.map V.int)) p1 = some (.lst (js.map V.int)) := upd_same
  generalize upd H p1 (.lst (js.map V.int)) = H1 at x1 hp1 ⊢
  refine ⟨by show 0 ≤ sizeLine; decide, fun p np => ⟨_, _, rfl, ?_⟩⟩
  have x2 := x1.trans (Ext.new (o := .lst []) np)
  have np0 := x1.free np
  have np1p : p1 ≠ p := ne_of_none hp1 np
  have hp1' : upd H1 p (.lst []) p1 = some (.lst (js.map V.int)) := by rw [upd_ne np1p]; exact hp1
  have hpp : upd H1 p (.lst []) p = some (.lst []) := upd_same
  generalize upd H1 p (.lst []) = H2 at x2 hp1' hpp ⊢
  refine ⟨fun m σ H' => ∃ (old' n' : Nat) (lz : Int) (b : Addr) (us : List Int) (ssv : List V) (y7 : Option V), n' = m ∧ σ = [some (.ref sf), some (.int (old' : Int)), some (.int (n' : Int)), some (.ref a), some (.int lz), some (.ref b), some (.ref p), y7, none, none, none] ∧
    Ext H H' ∧ H' p = some (.lst ssv) ∧ SidL H' ssv ∧ H' b = some (.lst (us.map V.int)) ∧ b ≠ p ∧ 0 < old' ∧ old' ≤ n' ∧ n'.log2 ≤ 10000 ∧ us.length + ssv.length ≤ 100000, ⟨_, old, n, z, p1, js, [], none, rfl, rfl, x2, hpp, fun v h => (nomatch h), hp1', np1p, ho0, hon, hlog, by show js.length + 0 ≤ _; omega⟩, ?_⟩
  rintro m σ H3 ⟨old', n', lz, b, us, ssv, y7, rfl, rfl, x3, hp3, hss, hb, hbp, ho', hon', hlog', hc1⟩
  refine ⟨_, rfl, _, rfl, rfl, _, rfl, ?_⟩
  by_cases heq : old' = n'
  · subst heq
    rw [decide_eq_true rfl]
    refine iteF ?_
    refine ⟨_, rfl, b, _, rfl, .inl (SqL.of hb), _, 0, rfl, rfl, _, rfl, ite2 (fun c => ?_) (fun c => ?_)⟩
    · exact q2 _ _ g_BadPaper x3
    refine ⟨_, rfl, _, rfl, _, _, rfl, ?_⟩
    refine ⟨_, rfl, p, ssv, rfl, SqL.of hp3, fun p4 np4 => ⟨p4, rfl, ⟨_, SqL.of upd_same⟩, ?_⟩⟩
    have x4 := x3.trans (Ext.new (o := .lst ssv.reverse) np4)
    have hp4 : upd H3 p4 (.lst ssv.reverse) p4 = some (.lst ssv.reverse) := upd_same
    have hss4 := hss.gr (Ext.new (o := .lst ssv.reverse) np4).gr
    generalize upd H3 p4 (.lst ssv.reverse) = H4 at x4 hp4 hss4 ⊢
    refine for_list (K := K) (a := p4) (xs := ssv.reverse) (fun i σ H' => ∃ (u1 u2 : Int) (z4 z10 : Option V), σ = [some (.ref sf), some (.int (old' : Int)), some (.int (old' : Int)), some (.ref a), z4, some (.ref b), some (.ref p), y7, some (.int u1), some (.int u2), z10] ∧ Ext H4 H')
      ⟨lz, lz, _, _, rfl, Ext.refl _⟩ (fun i σ H' _ ⟨_, _, _, _, _, x⟩ => SqL.of (x.lst hp4)) ?_ ?_
    · rintro i y2 σ H' hi ⟨u1, u2, z4, z10, rfl, x⟩
      obtain ⟨q, si, sb, rfl, hq⟩ := hss4 y2 (List.mem_reverse.mp (List.mem_of_getElem? hi))
      refine ⟨q, _, rfl, SqT.of (x.tup hq), rfl, ?_⟩
      refine ⟨_, _, rfl, _, _, rfl, rfl, ?_⟩
      refine ⟨_, rfl, _, rfl, ?_⟩
      cases sb with
      | true =>
        refine iteF ?_
        refine ⟨_, rfl, _, rfl, iteT ?_⟩
        refine ⟨_, rfl, _, rfl, _, rfl, sf, _, _, hF, rfl, .inl ⟨u2, rfl⟩, fun v' => ?_⟩
        exact ⟨u1, v', _, _, rfl, x⟩
      | false =>
        refine iteT ?_
        refine ⟨_, rfl, _, rfl, _, rfl, sf, _, _, hF, rfl, .inl ⟨si, rfl⟩, fun v1 => ?_⟩
        refine ⟨_, rfl, _, rfl, iteF ?_⟩
        refine ⟨_, rfl, _, rfl, _, rfl, sf, _, _, hF, rfl, .inl ⟨si, rfl⟩, fun v' => ?_⟩
        exact ⟨v1, v', _, _, rfl, x⟩
    · rintro σ H6 ⟨u1, u2, z4, z10, rfl, x6⟩
      refine ⟨_, rfl, _, rfl, by show 2 ≤ sizeLine; decide, fun q nq => ?_⟩
      have e6 := Ext.new (o := .tup [.int u1, .int u2]) nq
      exact q1 q u1 u2 _ ((x4.trans x6).trans e6) upd_same
  · rw [decide_eq_false (show ¬ V.int (old' : Int) = V.int (n' : Int) from fun z => heq (by have := V.int.inj z; omega))]
    refine iteT ?_
    have h2 : 2 ≤ n' := by omega
    have hs1 := splitN_lt h2
    have hs2 := splitN_pos n'
    obtain ⟨lg1, lg2⟩ := splitN_log h2 hlog'
    refine ⟨_, fun σ' H' h => h, ?_⟩
    refine ⟨_, rfl, n', rfl, h2, by omega, ?_⟩
    refine ⟨_, rfl, .inl ⟨rfl, _, SqL.of hp3⟩, _, rfl, _, rfl, _, rfl, _, _, rfl, rfl, by show 2 ≤ sizeLine; decide, fun q hq => ?_⟩
    have npq : q ≠ p := fun z => by rw [z, hp3] at hq; cases hq
    have u1 := Ext.new (o := .tup [.int lz, .bl (decide ((old' : Int) ≤ ((splitN n' : Nat) : Int)))]) hq
    have hp4 := u1.lst hp3
    have hq4 : upd H3 q (.tup [.int lz, .bl (decide ((old' : Int) ≤ ((splitN n' : Nat) : Int)))]) q = some (.tup [.int lz, .bl (decide ((old' : Int) ≤ ((splitN n' : Nat) : Int)))]) := upd_same
    have hb4 := u1.lst hb
    generalize upd H3 q (.tup [.int lz, .bl (decide ((old' : Int) ≤ ((splitN n' : Nat) : Int)))]) = H4 at u1 hp4 hq4 hb4 ⊢
    refine ⟨p, ssv, _, rfl, rfl, hp4, by omega, ?_⟩
    have k5 := Kp.lst (o := .lst (ssv ++ [.ref q])) hp4
    have hss5 := (((hss.gr u1.gr).snoc hq4).gr k5.gr)
    have x5 := (x3.trans u1).mut (o := .lst (ssv ++ [.ref q])) np0
    have hp5 : upd H4 p (.lst (ssv ++ [.ref q])) p = some (.lst (ssv ++ [.ref q])) := upd_same
    have hb5 : upd H4 p (.lst (ssv ++ [.ref q])) b = some (.lst (us.map V.int)) := by rw [upd_ne hbp]; exact hb4
    have lss : (ssv ++ [V.ref q]).length = ssv.length + 1 := by rw [List.length_append]; rfl
    generalize upd H4 p (.lst (ssv ++ [.ref q])) = H5 at k5 x5 hp5 hb5 hss5 ⊢
    obtain ⟨us', eus, lus⟩ := cut_map us
    refine ⟨_, rfl, _, rfl, _, _, rfl, rfl, _, rfl, ite2 (fun c2 => ?_) (fun c2 => ?_)⟩
    · have c2' : (old' : Int) ≤ ((splitN n' : Nat) : Int) := of_decide_eq_true c2
      refine ⟨_, rfl, ?_⟩
      refine ⟨_, rfl, _, rfl, .inl ⟨b, _, rfl, hb5, fun y2 hy2 => ?_, fun e C hC => q2 C H5 hC x5⟩⟩
      obtain ⟨z2, rfl⟩ := last_int hy2
      have hul : us.length ≠ 0 := fun z0 => by
        rw [List.eq_nil_of_length_eq_zero z0] at hy2
        cases hy2
      refine ⟨_, rfl, _, rfl, b, _, rfl, .inl (SqL.of hb5), _, 1, rfl, rfl, (((us.map V.int).length - 1 : Nat) : Int), by rw [List.length_map, show ((us.length - 1 : Nat) : Int) = (us.length : Int) - 1 by omega], b, _, rfl, SqL.of hb5, fun p6 np6 => ?_⟩
      rw [cut_to, eus]
      have np6p : p6 ≠ p := fun z => by rw [z, hp5] at np6; cases np6
      have x6 := Ext.new (o := .lst (us'.map V.int)) np6
      exact ⟨splitN n', hs1, old', splitN n', z2, p6, us', ssv ++ [.ref q], _, rfl, rfl, x5.trans x6, x6.lst hp5, hss5.gr x6.gr, upd_same, np6p, ho', by omega, lg1, by omega⟩
    · have c2' : ¬ (old' : Int) ≤ ((splitN n' : Nat) : Int) := of_decide_eq_false (Bool.eq_false_iff.mpr c2)
      refine ⟨_, rfl, _, rfl, _, _, rfl, rfl, _, rfl, _, rfl, _, _, rfl, rfl, _, _, rfl, ?_⟩
      refine ⟨_, rfl, _, rfl, .inl ⟨b, _, rfl, hb5, fun y2 hy2 => ?_, fun e C hC => q2 C H5 hC x5⟩⟩
      obtain ⟨z2, rfl⟩ := last_int hy2
      have hul : us.length ≠ 0 := fun z0 => by
        rw [List.eq_nil_of_length_eq_zero z0] at hy2
        cases hy2
      refine ⟨_, rfl, _, rfl, b, _, rfl, .inl (SqL.of hb5), _, 1, rfl, rfl, (((us.map V.int).length - 1 : Nat) : Int), by rw [List.length_map, show ((us.length - 1 : Nat) : Int) = (us.length : Int) - 1 by omega], b, _, rfl, SqL.of hb5, fun p6 np6 => ?_⟩
      rw [cut_to, eus]
      have np6p : p6 ≠ p := fun z => by rw [z, hp5] at np6; cases np6
      have x6 := Ext.new (o := .lst (us'.map V.int)) np6
      refine ⟨n' - splitN n', by omega, old' - splitN n', n' - splitN n', z2, p6, us', ssv ++ [.ref q], some (.int ((splitN n' : Nat) : Int)), rfl, ?_, x5.trans x6, x6.lst hp5, hss5.gr x6.gr, upd_same, np6p, by omega, by omega, lg2, by omega⟩
      rw [show ((old' - splitN n' : Nat) : Int) = (old' : Int) - ((splitN n' : Nat) : Int) by omega, show ((n' - splitN n' : Nat) : Int) = (n' : Int) - ((splitN n' : Nat) : Int) by omega]
      rfl
end
/-! ### claims judged by such a seal: always a truth -/
section
variable {P : Program} {w : World} {K : PySem.W.Frag} {mg : Str → Option Value} {base : Heap} {Fam : Addr → Prop} {C : Addr}
def spJS (K : PySem.W.Frag) (C : Addr) (Fam : Addr → Prop) : Sp := fun vs H Q _ => ∃ (f p dx : Addr) (place : Int) (x : Str) (ti : Int) (n : Nat) (hd : Int) (a : Addr) (is : List Int), Fam f ∧ vs = [.ref p, .ref f, .int (n : Int), .int hd, .ref a] ∧ H p = some (.ins C dx (stF place x (.int ti))) ∧ x.length ≤ sizeLine ∧ n.log2 ≤ 10000 ∧ H a = some (.lst (is.map V.int)) ∧ is.length ≤ 100000 ∧ ∀ (b : Bool) H', Ext H H' → Q (.bl b) H'
def spSS (K : PySem.W.Frag) (mg : Str → Option Value) (C : Addr) (Fam : Addr → Prop) : Sp := fun vs H Q E => ∃ (f p dx : Addr) (place : Int) (x : Str) (ti : Int) (n : Nat) (hd : Int) (a : Addr) (is : List Int), Fam f ∧ vs = [.ref p, .ref f, .int (n : Int), .int hd, .ref a] ∧ H p = some (.ins C dx (stF place x (.int ti))) ∧ x.length ≤ sizeLine ∧ n.log2 ≤ 10000 ∧ H a = some (.lst (is.map V.int)) ∧ is.length ≤ 100000 ∧ (∀ (b : Bool) H', Ext H H' → Q (.bl b) H') ∧ (∀ D H', mg "BadPaper" = some (.ref D) → Ext H H' → E (.ref D) none H')
theorem ok_shownS {cc : Addr} (T : Txt K mg cc) (A : SlA P w K mg base Fam) (KS : K_Stands K mg C) : MetR P w K mg base 4 C "shown" (spSS K mg C Fam) := by
  have Z := T.Z
  have C_leaf_seal := ok_leaf_seal T A
  have C_book_seal := ok_book_seal T A
  have C_risen := ok_risen T A
  refine metR_of KS.cl KS.m_shown sc_Stands_shown (fun vs H Q E h => ?_) (fun f cdv A' outer s H vs Q E hr h => ?_)
  · obtain ⟨f, p, dx, place, x, ti, n, hd, a, is, _, rfl, _⟩ := h
    rfl
  obtain ⟨sf, p, dx, place, x, ti, n, hd, a, is, hF, rfl, hp, hx, hlog, ha, hil, q1, q2⟩ := h
  refine ⟨_, (pss_cons (ps_if (pt_not (pt_chain op_le op_lt pe_int (pe_fld (pv 0) rfl) (pv 2))) (pss_one (ps_ret pe_bl)) pss_nil)
  (pss_cons (ps_set (i := 5) sc_Stands_shown.nd rfl (Or.inl rfl) (pe_c C_leaf_seal hr (by omega) rfl (pa_cons (pv 1) (pa_cons (pe_fld (pv 0) rfl) (pa_cons (pe_fld (pv 0) rfl) pa_nil)))))
  (pss_one (ps_ret (pe_cmpR op_eq (pe_c C_book_seal hr (by omega) rfl (pa_cons (pv 1) (pa_cons (pv 2) (pa_cons (pe_cx C_risen (takes_of rfl rfl rfl rfl) hr (by omega) rfl (pa_cons (pv 1) (pa_cons (pv 5) (pa_cons (pe_fld (pv 0) rfl) (pa_cons (pv 2) (pa_cons (pv 4) pa_nil)))))) pa_nil)))) (pv 3) (nomark _)))))), ?_⟩
  refine ⟨_, rfl, p, C, dx, _, _, rfl, hp, KS.cl, KS.n_place, stF_place _ _ _, _, _, rfl, rfl, _, rfl, ite2 (fun c1 => ?_) (fun c1 => ?_)⟩
  · have c1' : (0 : Int) ≤ place := of_decide_eq_true c1
    refine ⟨_, rfl, _, _, rfl, rfl, _, rfl, ?_⟩
    by_cases c2 : place < (n : Int)
    · rw [decide_eq_true c2]
      refine iteF ?_
      obtain ⟨pl, rfl⟩ := Int.eq_ofNat_of_zero_le c1'
      refine ⟨_, rfl, _, rfl, p, C, dx, _, _, rfl, hp, KS.cl, KS.n_words, stF_words _ _ _, _, rfl, p, C, dx, _, _, rfl, hp, KS.cl, KS.n_table, stF_table _ _ _, sf, _, ti, hF, rfl, .inr ⟨x, rfl, hx⟩, fun z1 => ?_⟩
      refine ⟨_, rfl, _, rfl, _, rfl, _, rfl, _, rfl, p, C, dx, _, _, rfl, hp, KS.cl, KS.n_place, stF_place _ _ _, _, rfl, _, rfl, sf, z1, pl, n, a, is, hF, rfl, ha, hil, by omega, hlog, fun z2 H2 x2 => ?_, fun D H' hD e => q2 D H' hD e⟩
      refine ⟨sf, _, z2, hF, rfl, .inl ⟨_, rfl⟩, fun z3 => ?_⟩
      exact ⟨_, rfl, rfl, q1 _ H2 x2⟩
    · rw [decide_eq_false c2]
      refine iteT ?_
      exact q1 false H (Ext.refl _)
  · refine ⟨_, rfl, iteT ?_⟩
    exact q1 false H (Ext.refl _)
theorem ok_judgedS {cc : Addr} (T : Txt K mg cc) (A : SlA P w K mg base Fam) (KS : K_Stands K mg C) : Met P w K mg base 5 C "judged" (spJS K C Fam) [] := by
  obtain ⟨C_BadPaper, g_BadPaper, F_BadPaper⟩ := T.x_BadPaper.ex
  have M_shown := ok_shownS T A KS
  refine met_of KS.cl KS.m_judged sc_Claim_judged (fun vs H Q E h => ?_) (fun f cdv A' outer s H vs Q E hr h => ?_)
  · obtain ⟨f, p, dx, place, x, ti, n, hd, a, is, _, rfl, _⟩ := h
    rfl
  obtain ⟨sf, p, dx, place, x, ti, n, hd, a, is, hF, rfl, hp, hx, hlog, ha, hil, q⟩ := h
  refine ⟨_, (pss_one (ps_try_onlyE (pss_one (ps_ret (pv 5))) rfl rfl ⟨rfl, by decide, .inl g_BadPaper⟩ takes0 (fun W pn xe tk po => (pss_one (ps_set (i := 5) sc_Claim_judged.nd rfl (Or.inl rfl) (pe_mtx M_shown tk hr (by omega) (pv 0) (pa_cons (pv 1) (pa_cons (pv 2) (pa_cons (pv 3) (pa_cons (pv 4) pa_nil)))))))) (fun a oe cls d pn hz hf => (pss_when (P := cls = .ref C_BadPaper ∧ d = none) fun hsu => (pss_one (ps_ret pe_bl)))))), ?_⟩
  refine ⟨_, rfl, p, dx, _, rfl, hp, (stF_no _ _ _).2, _, rfl, _, rfl, _, rfl, _, rfl, sf, p, dx, place, x, ti, n, hd, a, is, hF, rfl, hp, hx, hlog, ha, hil, fun b H' e => ⟨_, rfl, q b H' e⟩, fun D H' hD e => ?_⟩
  rw [g_BadPaper] at hD
  cases hD
  refine ⟨true, F_BadPaper.eP, fun _ p2 hp2 => ⟨⟨rfl, rfl⟩, ?_⟩, fun z => nomatch z⟩
  exact q false H' e
def spJG (K : PySem.W.Frag) (C : Addr) (Fam : Addr → Prop) : Sp := fun vs H Q _ => ∃ (f p dx : Addr) (old : Nat) (bi : Int) (n : Nat) (hd : Int) (a : Addr) (is : List Int), Fam f ∧ vs = [.ref p, .ref f, .int (n : Int), .int hd, .ref a] ∧ H p = some (.ins C dx (grF (old : Int) (.int bi))) ∧ 0 < old ∧ n.log2 ≤ 10000 ∧ H a = some (.lst (is.map V.int)) ∧ is.length ≤ 100000 ∧ ∀ (b : Bool) H', Ext H H' → Q (.bl b) H'
def spSG (K : PySem.W.Frag) (mg : Str → Option Value) (C : Addr) (Fam : Addr → Prop) : Sp := fun vs H Q E => ∃ (f p dx : Addr) (old : Nat) (bi : Int) (n : Nat) (hd : Int) (a : Addr) (is : List Int), Fam f ∧ vs = [.ref p, .ref f, .int (n : Int), .int hd, .ref a] ∧ H p = some (.ins C dx (grF (old : Int) (.int bi))) ∧ 0 < old ∧ n.log2 ≤ 10000 ∧ H a = some (.lst (is.map V.int)) ∧ is.length ≤ 100000 ∧ (∀ (b : Bool) H', Ext H H' → Q (.bl b) H') ∧ (∀ D H', mg "BadPaper" = some (.ref D) → Ext H H' → E (.ref D) none H')
theorem ok_none_seal {cc : Addr} (T : Txt K mg cc) (A : SlA P w K mg base Fam) : Cal P w K mg base 2 "none_seal" (fun vs H Q _ => ∃ f : Addr, Fam f ∧ vs = [.ref f] ∧ ∀ z : Int, Q (.int z) H) [] := by
  refine cal_of T.d_none_seal sc_none_seal (fun vs H Q E h => ?_) (fun f cdv A' outer s H vs Q E hr h => ?_)
  · obtain ⟨f, _, rfl, _⟩ := h
    rfl
  obtain ⟨f, hF, rfl, q⟩ := h
  refine ⟨_, (pss_one (ps_ret (pe_sl (i := 0) A.held hr (by omega) rfl (by first | exact Or.inl rfl | exact Or.inr (Or.inl rfl) | exact Or.inr (Or.inr rfl)) (pa_cons pe_str (pa_cons pe_int (pa_cons pe_int pa_nil)))))), ?_⟩
  exact ⟨f, hF, rfl, "none", .int 0, 0, rfl, by decide +kernel, .inl ⟨0, rfl⟩, q⟩
theorem ok_shownG {cc : Addr} (T : Txt K mg cc) (A : SlA P w K mg base Fam) (KS : K_Grows K mg C) : MetR P w K mg base 4 C "shown" (spSG K mg C Fam) := by
  have Z := T.Z
  have C_none_seal := ok_none_seal T A
  have C_book_seal := ok_book_seal T A
  have C_regrown := ok_regrown T A
  refine metR_of KS.cl KS.m_shown sc_Grows_shown (fun vs H Q E h => ?_) (fun f cdv A' outer s H vs Q E hr h => ?_)
  · obtain ⟨f, p, dx, old, bi, n, hd, a, is, _, rfl, _⟩ := h
    rfl
  obtain ⟨sf, p, dx, old, bi, n, hd, a, is, hF, rfl, hp, ho0, hlog, ha, hil, q1, q2⟩ := h
  refine ⟨_, (pss_cons (ps_if (pt_cmpR op_eq (pe_fld (pv 0) rfl) pe_int (nomark _)) (pss_cons (ps_set (i := 5) sc_Grows_shown.nd rfl (Or.inl rfl) (pe_c C_book_seal hr (by omega) rfl (pa_cons (pv 1) (pa_cons pe_int (pa_cons (pe_c C_none_seal hr (by omega) rfl (pa_cons (pv 1) pa_nil)) pa_nil)))))
  (pss_one (ps_ret (pe_and (pe_cmpR op_eq (pe_fld (pv 0) rfl) (pv 5) (nomark _)) (pe_and (pe_cmpR (op_eqD hr.units) (pv 4) (pe_lst pa_nil) (nomark _)) (pe_one (pe_or (pe_cmpR op_gt (pv 2) pe_int (nomark _)) (pe_one (pe_and (pe_cmpR op_eq (pv 2) pe_int (nomark _)) (pe_one (pe_cmpR op_eq (pv 3) (pv 5) (nomark _)))))))))))) pss_nil)
  (pss_cons (ps_if (pt_not (pt_chain op_lt op_le pe_int (pe_fld (pv 0) rfl) (pv 2))) (pss_one (ps_ret pe_bl)) pss_nil)
  (pss_cons (ps_set (i := 6) sc_Grows_shown.nd rfl (Or.inl rfl) (pe_cx C_regrown (takes_of rfl rfl rfl rfl) hr (by omega) rfl (pa_cons (pv 1) (pa_cons (pe_fld (pv 0) rfl) (pa_cons (pv 2) (pa_cons (pv 4) pa_nil))))))
  (pss_one (ps_ret (pe_and (pe_cmpR op_eq (pe_c C_book_seal hr (by omega) rfl (pa_cons (pv 1) (pa_cons (pe_fld (pv 0) rfl) (pa_cons (pe_ix ix_tup (pv 6) pe_int (fun _ _ => rfl)) pa_nil)))) (pe_fld (pv 0) rfl) (nomark _)) (pe_one (pe_cmpR op_eq (pe_c C_book_seal hr (by omega) rfl (pa_cons (pv 1) (pa_cons (pv 2) (pa_cons (pe_ix ix_tup (pv 6) pe_int (fun _ _ => rfl)) pa_nil)))) (pv 3) (nomark _))))))))), ?_⟩
  refine ⟨_, rfl, p, C, dx, _, _, rfl, hp, KS.cl, KS.n_old, grF_old _ _, rfl, _, rfl, ?_⟩
  rw [decide_eq_false (show ¬ V.int (old : Int) = V.int 0 from fun z => by have := V.int.inj z; omega)]
  refine iteF ?_
  refine ⟨_, rfl, p, C, dx, _, _, rfl, hp, KS.cl, KS.n_old, grF_old _ _, _, _, rfl, rfl, _, rfl, ?_⟩
  rw [decide_eq_true (show (0 : Int) < (old : Int) by omega)]
  refine iteT ?_
  refine ⟨_, rfl, _, _, rfl, rfl, _, rfl, ?_⟩
  by_cases c2 : (old : Int) ≤ (n : Int)
  · rw [decide_eq_true c2]
    refine iteF ?_
    refine ⟨_, rfl, _, rfl, p, C, dx, _, _, rfl, hp, KS.cl, KS.n_old, grF_old _ _, _, rfl, _, rfl, sf, old, n, a, is, hF, rfl, ha, hil, ho0, by omega, hlog, fun qb i j H2 x2 hqb => ?_, fun D H' hD e => q2 D H' hD e⟩
    refine ⟨_, rfl, _, rfl, p, C, dx, _, _, rfl, x2.ins hp, KS.cl, KS.n_old, grF_old _ _, _, rfl, qb, _, 0, _, rfl, rfl, SqT.of hqb, rfl, sf, _, i, hF, rfl, .inl ⟨_, rfl⟩, fun z1 => ?_⟩
    refine ⟨_, rfl, p, C, dx, _, _, rfl, x2.ins hp, KS.cl, KS.n_before, grF_before _ _, rfl, _, rfl, ite2 (fun b1 => ?_) (fun b1 => ?_)⟩
    · refine ⟨_, rfl, _, rfl, _, rfl, qb, _, 1, _, rfl, rfl, SqT.of hqb, rfl, sf, _, j, hF, rfl, .inl ⟨_, rfl⟩, fun z2 => ?_⟩
      exact ⟨_, rfl, rfl, q1 _ H2 x2⟩
    · exact q1 false H2 x2
  · rw [decide_eq_false c2]
    refine iteT ?_
    exact q1 false H (Ext.refl _)
theorem ok_judgedG {cc : Addr} (T : Txt K mg cc) (A : SlA P w K mg base Fam) (KS : K_Grows K mg C) : Met P w K mg base 5 C "judged" (spJG K C Fam) [] := by
  obtain ⟨C_BadPaper, g_BadPaper, F_BadPaper⟩ := T.x_BadPaper.ex
  have M_shown := ok_shownG T A KS
  refine met_of KS.cl KS.m_judged sc_Claim_judged (fun vs H Q E h => ?_) (fun f cdv A' outer s H vs Q E hr h => ?_)
  · obtain ⟨f, p, dx, old, bi, n, hd, a, is, _, rfl, _⟩ := h
    rfl
  obtain ⟨sf, p, dx, old, bi, n, hd, a, is, hF, rfl, hp, ho0, hlog, ha, hil, q⟩ := h
  refine ⟨_, (pss_one (ps_try_onlyE (pss_one (ps_ret (pv 5))) rfl rfl ⟨rfl, by decide, .inl g_BadPaper⟩ takes0 (fun W pn xe tk po => (pss_one (ps_set (i := 5) sc_Claim_judged.nd rfl (Or.inl rfl) (pe_mtx M_shown tk hr (by omega) (pv 0) (pa_cons (pv 1) (pa_cons (pv 2) (pa_cons (pv 3) (pa_cons (pv 4) pa_nil)))))))) (fun a oe cls d pn hz hf => (pss_when (P := cls = .ref C_BadPaper ∧ d = none) fun hsu => (pss_one (ps_ret pe_bl)))))), ?_⟩
  refine ⟨_, rfl, p, dx, _, rfl, hp, (grF_no _ _).2, _, rfl, _, rfl, _, rfl, _, rfl, sf, p, dx, old, bi, n, hd, a, is, hF, rfl, hp, ho0, hlog, ha, hil, fun b H' e => ⟨_, rfl, q b H' e⟩, fun D H' hD e => ?_⟩
  rw [g_BadPaper] at hD
  cases hD
  refine ⟨true, F_BadPaper.eP, fun _ p2 hp2 => ⟨⟨rfl, rfl⟩, ?_⟩, fun z => nomatch z⟩
  exact q false H' e
end
end Lo

namespace Lo
section
variable {P : Program} {w : World} {K : PySem.W.Frag} {mg : Str → Option Value} {base : Heap} {CS CG : Addr}
theorem all_rep : ∀ n : Nat, (List.replicate n true).all id = true
  | 0 => rfl
  | n + 1 => by rw [List.replicate_succ, List.all_cons, all_rep n]; rfl
def csN (K : PySem.W.Frag) (CS CG : Addr) (Fam : Addr → Prop) (C : Addr) (sp : Sp) : Prop := (C = CS ∧ sp = spJS K CS Fam) ∨ (C = CG ∧ sp = spJG K CG Fam)
theorem ok_csN {cc : Addr} {Fam : Addr → Prop} (T : Txt K mg cc) (A : SlA P w K mg base Fam) (KS : K_Stands K mg CS) (KG : K_Grows K mg CG) : ∀ C sp, csN K CS CG Fam C sp → MetR P w K mg base 5 C "judged" sp := by
  rintro C sp (⟨rfl, rfl⟩ | ⟨rfl, rfl⟩)
  · exact Met.r (ok_judgedS T A KS)
  · exact Met.r (ok_judgedG T A KG)
theorem ok_lfar {cc fN : Addr} (T : Txt K mg cc) (mN : mg "_law_narrow" = some (.ref fN)) (KS : K_Stands K mg CS) (KG : K_Grows K mg CG) : Cal P w K mg base 12 "_law_far_right" spTrue1 [] := by
  have Z := T.Z
  have A := slaN (P := P) (w := w) (base := base) T
  have hF : FamN mg fN := mN
  have C_Stands := My.ok_stinit (P := P) (w := w) (base := base) KS
  have C_Grows := My.ok_grinit (P := P) (w := w) (base := base) KG
  have M_judged := ok_csN T A KS KG
  refine cal_of T.d__law_far_right sc__law_far_right (fun vs H Q E h => ?_) (fun f cdv A' outer s H vs Q E hr h => ?_)
  · obtain ⟨c, rfl, _⟩ := h
    rfl
  obtain ⟨c, rfl, q⟩ := h
  have e16 : sizeLine = 16777216 := sizeLine_eq
  refine ⟨_, (pss_cons (ps_set (i := 1) sc__law_far_right.nd rfl (Or.inl rfl) (pe_op op_add pe_int (pe_op op_mod (pv 0) pe_int)))
  (pss_cons (ps_set (i := 2) sc__law_far_right.nd rfl (Or.inr rfl) (pe_op op_oneShl pe_int (pv 1)))
  (pss_cons (ps_set (i := 3) sc__law_far_right.nd rfl (Or.inr rfl) (pe_lc (own := [("_law_turn", 5)]) (g := gName 5) (tt := tYes) rfl sc__law_far_right.nd (pi_range1 rfl Z.range (pa_cons (pv 1) pa_nil)) (blkOk_by (N := N__law_far_right) (sc := defScope s__law_far_right) (by decide +kernel)) (fun _ _ _ _ _ => (pg_name (i := 5) sc__law_far_right.nd rfl (Or.inl rfl))) (fun _ _ _ _ _ => pts_nil) (fun _ _ _ _ _ => (pe_op op_add pe_int (pe_op op_mod (pv 5) pe_int)))))
  (pss_cons (ps_setLc (i := 4) (own := [("_law_place", 6)]) (g := gName 6) (tt := tYes) rfl sc__law_far_right.nd rfl rfl (sw_true rfl rfl rfl (by decide +kernel)) (pi_tup (pe_tup (pa_cons pe_int (pa_cons (pe_op op_sub (pv 2) pe_int) pa_nil)))) (blkOk_by (N := N__law_far_right) (sc := defScope s__law_far_right) (by decide +kernel)) (fun _ _ _ _ _ => (pg_name (i := 6) sc__law_far_right.nd rfl (Or.inl rfl))) (fun _ _ _ _ _ => pts_nil) (fun _ _ _ _ _ => (pe_mta M_judged takes0 hr (by omega) (pe_mk C_Stands hr (by omega) rfl (pa_cons (pv 6) (pa_cons pe_str (pa_cons pe_int pa_nil)))) (pa_cons (pe_glob (v := .ref fN) rfl mN rfl) (pa_cons (pv 2) (pa_cons pe_int (pa_cons (pv 3) pa_nil)))))))
  (pss_cons (ps_expr (pe_bm PySem.F.plainAttrs_list PySem.F.slot_list_append PySem.F.type_list_append mt_append (pv 4) (pa_cons (pe_mta M_judged takes0 hr (by omega) (pe_mk C_Stands hr (by omega) rfl (pa_cons pe_int (pa_cons pe_str (pa_cons pe_int pa_nil)))) (pa_cons (pe_glob (v := .ref fN) rfl mN rfl) (pa_cons (pv 2) (pa_cons pe_int (pa_cons (pe_slice sl_list (pv 3) (po_some pe_int) po_none) pa_nil))))) pa_nil)))
  (pss_cons (ps_expr (pe_bm PySem.F.plainAttrs_list PySem.F.slot_list_append PySem.F.type_list_append mt_append (pv 4) (pa_cons (pe_mta M_judged takes0 hr (by omega) (pe_mk C_Grows hr (by omega) rfl (pa_cons pe_int (pa_cons pe_int pa_nil))) (pa_cons (pe_glob (v := .ref fN) rfl mN rfl) (pa_cons (pv 2) (pa_cons pe_int (pa_cons (pe_op op_cat (pv 3) (pe_lst (pa_cons pe_int pa_nil))) pa_nil))))) pa_nil)))
  (pss_cons (ps_expr (pe_bm PySem.F.plainAttrs_list PySem.F.slot_list_append PySem.F.type_list_append mt_append (pv 4) (pa_cons (pe_mta M_judged takes0 hr (by omega) (pe_mk C_Grows hr (by omega) rfl (pa_cons (pe_op op_sub (pv 2) pe_int) (pa_cons pe_int pa_nil))) (pa_cons (pe_glob (v := .ref fN) rfl mN rfl) (pa_cons (pv 2) (pa_cons pe_int (pa_cons (pv 3) pa_nil))))) pa_nil)))
  (pss_one (ps_ret (pe_callB (cr_all rfl) rfl Z.all (by decide +kernel) (pa_cons (pe_lc (own := [("_law_one", 7)]) (g := gName 7) (tt := tYes) rfl sc__law_far_right.nd (pi_list (pv 4)) (blkOk_by (N := N__law_far_right) (sc := defScope s__law_far_right) (by decide +kernel)) (fun _ _ _ _ _ => (pg_name (i := 7) sc__law_far_right.nd rfl (Or.inl rfl))) (fun _ _ _ _ _ => pts_nil) (fun _ _ _ _ _ => (pe_callB (r := rIsi K) call_isi rfl Z.isinstance (by decide +kernel) (pa_cons (pv 7) (pa_cons (pe_bltn (v := .ty "bool") rfl Z.bool (by decide +kernel) rfl) pa_nil))))) pa_nil))))))))))), ?_⟩
  refine ⟨_, rfl, _, 400, rfl, rfl, (show (0 : Int) < 400 by decide), _, _, rfl, rfl, ?_⟩
  obtain ⟨h, hh, h0, h1⟩ : ∃ h : Nat, (1200 : Int) + c % 400 = (h : Int) ∧ 1200 ≤ h ∧ h < 1600 := ⟨(1200 + c % 400).toNat, by omega, by omega, by omega⟩
  show gName 1 (V.int (1200 + c % 400)) _ _ _
  rw [hh]
  clear hh
  refine ⟨_, rfl, h, rfl, rfl, by omega, ?_⟩
  rw [← pow_cast]
  obtain ⟨n, hn⟩ : ∃ n : Nat, n = 2 ^ h := ⟨_, rfl⟩
  have hlog : n.log2 ≤ 10000 := by rw [hn, Nat.log2_two_pow]; omega
  have hn2 : 2 ≤ n := by
    rw [hn]
    have : (2 : Nat) ^ 1 ≤ 2 ^ h := Nat.pow_le_pow_right (by decide) (by omega)
    omega
  rw [← hn]
  clear hn
  -- the tops
  refine ⟨_, rfl, (h : Int), rfl, by omega, by omega, fun TP nTP => ?_⟩
  rw [Int.toNat_natCast]
  refine lc_range (fun i H' => ∃ (is : List Int), is.length = i ∧ Ext H H' ∧ H' TP = some (.lst (is.map V.int))) ⟨[], rfl, Ext.new nTP, upd_same⟩ ?_ ?_
  · rintro i H' hi ⟨is, rfl, x, hTP⟩
    have hi' : is.length < h := hi
    refine ⟨rfl, _, rfl, _, 5, rfl, rfl, (show (0 : Int) < 5 by decide), _, _, rfl, rfl, _, hTP, by rw [List.length_map]; omega, is ++ [_], by rw [List.length_append]; rfl, x.mut nTP, by rw [upd_same, List.map_append]; rfl⟩
  rintro H1 ⟨is, hil, x1, hTP⟩
  have hil : is.length = h := hil
  -- told by two places
  refine ⟨_, rfl, _, _, rfl, rfl, by show 2 ≤ sizeLine; decide, fun q1 nq1 => ?_⟩
  have w1 := Ext.new (o := .tup [.int 0, .int ((n : Int) - 1)]) nq1
  have hq1 : upd H1 q1 (.tup [.int 0, .int ((n : Int) - 1)]) q1 = some (.tup [.int 0, .int ((n : Int) - 1)]) := upd_same
  generalize upd H1 q1 (.tup [.int 0, .int ((n : Int) - 1)]) = H2 at w1 hq1 ⊢
  have hTP2 := w1.lst hTP
  refine ⟨q1, rfl, ⟨_, SqT.of hq1⟩, fun TD nTD => ?_⟩
  refine lc_tup (K := K) (a := q1) (xs := [.int 0, .int ((n : Int) - 1)]) (fun j H' => ∃ (bs : List Bool), bs.length = j ∧ Ext H2 H' ∧ H' TD = some (.lst (bs.map V.bl))) ⟨[], rfl, Ext.new nTD, upd_same⟩ (fun j H' _ ⟨_, _, x, _⟩ => SqT.of (x.tup hq1)) ?_ ?_
  · rintro j v H' hj ⟨bs, rfl, x, hTD⟩
    have jl : bs.length < 2 := (List.getElem?_eq_some_iff.mp hj).1
    obtain ⟨pl, rfl⟩ : ∃ z : Int, v = .int z := by
      rcases List.mem_cons.mp (List.mem_of_getElem? hj) with h | h
      · exact ⟨_, h⟩
      · exact ⟨_, List.mem_singleton.mp h⟩
    refine ⟨rfl, _, rfl, fun cp dx ncp ndx nex => ?_⟩
    have y1 : Ext H' (upd (upd H' dx (.own cp)) cp (.ins CS dx [])) := (Ext.new ndx).trans (Ext.new (by rw [upd_ne nex.symm]; exact ncp))
    refine ⟨cp, dx, pl, "a", .int 0, rfl, upd_same, fun H8 xo kp hst => ⟨rfl, ?_⟩⟩
    have x8 := xo.ext y1 ncp
    refine ⟨CS, _, cp, dx, _, .inl ⟨rfl, rfl⟩, rfl, hst, (stF_no _ _ _).1, _, rfl, _, rfl, fN, cp, dx, pl, "a", 0, n, 5, TP, is, hF, rfl, hst, by decide +kernel, hlog, (x.trans x8).lst hTP2, by omega, fun b H9 x9 => ?_⟩
    have x89 := x8.trans x9
    exact ⟨_, x89.lst hTD, by rw [List.length_map]; omega, bs ++ [b], by rw [List.length_append]; rfl, (x.trans x89).mut nTD, by rw [upd_same, List.map_append]; rfl⟩
  rintro H3 ⟨bs, hbl, x3, hTD⟩
  have hbl : bs.length = 2 := hbl
  have x23 : Ext H2 H3 := x3
  -- with a top less
  refine ⟨_, rfl, .inl ⟨rfl, _, SqL.of hTD⟩, fun cp dx ncp ndx nex => ?_⟩
  have y1 : Ext H3 (upd (upd H3 dx (.own cp)) cp (.ins CS dx [])) := (Ext.new ndx).trans (Ext.new (by rw [upd_ne nex.symm]; exact ncp))
  refine ⟨cp, dx, 0, "a", .int 0, rfl, upd_same, fun H4 xo kp hst => ⟨rfl, ?_⟩⟩
  have x4 := xo.ext y1 ncp
  clear xo kp y1
  refine ⟨CS, _, cp, dx, _, .inl ⟨rfl, rfl⟩, rfl, hst, (stF_no _ _ _).1, _, rfl, _, rfl, 1, rfl, TP, _, rfl, SqL.of ((x3.trans x4).lst hTP2), fun p np => ?_⟩
  obtain ⟨js, ejs, _, jsl⟩ := cut_ints is (some 1) none
  rw [ejs]
  have w4 := Ext.new (o := .lst (js.map V.int)) np
  refine ⟨fN, cp, dx, 0, "a", 0, n, 5, p, js, hF, rfl, w4.ins hst, by decide +kernel, hlog, upd_same, by omega, fun b1 H5 x5 => ?_⟩
  have x35 := x4.trans (w4.trans x5)
  refine ⟨TD, _, .bl b1, rfl, rfl, x35.lst hTD, by rw [List.length_map]; omega, ?_⟩
  have hTD6 : upd H5 TD (.lst (bs.map V.bl ++ [.bl b1])) TD = some (.lst ((bs ++ [b1]).map V.bl)) := by rw [upd_same, List.map_append]; rfl
  have x26 : Ext H2 (upd H5 TD (.lst (bs.map V.bl ++ [.bl b1]))) := (x3.trans x35).mut nTD
  generalize upd H5 TD (.lst (bs.map V.bl ++ [.bl b1])) = H6 at hTD6 x26 ⊢
  clear hst w4 ncp ndx nex x4 x5 x35
  -- a growth with a top more
  refine ⟨_, rfl, .inl ⟨rfl, _, SqL.of hTD6⟩, fun cp dx ncp ndx nex => ?_⟩
  have y1 : Ext H6 (upd (upd H6 dx (.own cp)) cp (.ins CG dx [])) := (Ext.new ndx).trans (Ext.new (by rw [upd_ne nex.symm]; exact ncp))
  refine ⟨cp, dx, 1, .int 5, rfl, upd_same, fun H7 xo kp hst => ⟨rfl, ?_⟩⟩
  have x7 := xo.ext y1 ncp
  clear xo kp y1
  refine ⟨CG, _, cp, dx, _, .inr ⟨rfl, rfl⟩, rfl, hst, (grF_no _ _).1, _, rfl, _, rfl, by show 1 ≤ sizeLine; decide, fun l nl => ?_⟩
  have v1 := Ext.new (o := .lst [.int 1]) nl
  have hl : upd H7 l (.lst [.int 1]) l = some (.lst [.int 1]) := upd_same
  generalize upd H7 l (.lst [.int 1]) = H8 at v1 hl ⊢
  refine ⟨TP, l, is.map V.int, [.int 1], rfl, rfl, ((x26.trans x7).trans v1).lst hTP2, hl, by rw [List.length_map]; show _ + 1 ≤ _; omega, fun p2 np2 => ?_⟩
  have v2 := Ext.new (o := .lst (is.map V.int ++ [.int 1])) np2
  refine ⟨fN, cp, dx, 1, 5, n, 7, p2, is ++ [1], hF, rfl, (v1.trans v2).ins hst, by decide, hlog, by rw [upd_same, List.map_append]; rfl, by rw [List.length_append]; show _ + 1 ≤ _; omega, fun b2 H9 x9 => ?_⟩
  have x69 := x7.trans (v1.trans (v2.trans x9))
  refine ⟨TD, _, .bl b2, rfl, rfl, x69.lst hTD6, by rw [List.length_map, List.length_append]; show bs.length + 1 < _; omega, ?_⟩
  have hTD10 : upd H9 TD (.lst ((bs ++ [b1]).map V.bl ++ [.bl b2])) TD = some (.lst ((bs ++ [b1] ++ [b2]).map V.bl)) := by rw [upd_same, List.map_append (l₁ := bs ++ [b1])]; rfl
  have x210 : Ext H2 (upd H9 TD (.lst ((bs ++ [b1]).map V.bl ++ [.bl b2]))) := (x26.trans x69).mut nTD
  generalize upd H9 TD (.lst ((bs ++ [b1]).map V.bl ++ [.bl b2])) = H10 at hTD10 x210 ⊢
  clear hst v1 v2 ncp ndx nex x7 x9 x69 hl nl np2
  -- a growth from the last but one
  refine ⟨_, rfl, .inl ⟨rfl, _, SqL.of hTD10⟩, _, rfl, _, _, rfl, rfl, fun cp dx ncp ndx nex => ?_⟩
  have y1 : Ext H10 (upd (upd H10 dx (.own cp)) cp (.ins CG dx [])) := (Ext.new ndx).trans (Ext.new (by rw [upd_ne nex.symm]; exact ncp))
  refine ⟨cp, dx, (n : Int) - 1, .int 5, rfl, upd_same, fun H11 xo kp hst => ⟨rfl, ?_⟩⟩
  have x11 := xo.ext y1 ncp
  clear xo kp y1
  rw [show (n : Int) - 1 = ((n - 1 : Nat) : Int) by omega] at hst
  refine ⟨CG, _, cp, dx, _, .inr ⟨rfl, rfl⟩, rfl, hst, (grF_no _ _).1, _, rfl, _, rfl, fN, cp, dx, n - 1, 5, n, 7, TP, is, hF, rfl, hst, by omega, hlog, (x210.trans x11).lst hTP2, by omega, fun b3 H12 x12 => ?_⟩
  have x1012 := x11.trans x12
  refine ⟨TD, _, .bl b3, rfl, rfl, x1012.lst hTD10, by rw [List.length_map, List.length_append, List.length_append]; show bs.length + 1 + 1 < _; omega, ?_⟩
  have hTD13 : upd H12 TD (.lst ((bs ++ [b1] ++ [b2]).map V.bl ++ [.bl b3])) TD = some (.lst ((bs ++ [b1] ++ [b2] ++ [b3]).map V.bl)) := by rw [upd_same, List.map_append (l₁ := bs ++ [b1] ++ [b2])]; rfl
  have x213 : Ext H2 (upd H12 TD (.lst ((bs ++ [b1] ++ [b2]).map V.bl ++ [.bl b3]))) := (x210.trans x1012).mut nTD
  have lbs : (bs ++ [b1] ++ [b2] ++ [b3]).length = 5 := by
    rw [List.length_append, List.length_append, List.length_append]
    show bs.length + 1 + 1 + 1 = 5
    omega
  generalize upd H12 TD (.lst ((bs ++ [b1] ++ [b2]).map V.bl ++ [.bl b3])) = H13 at hTD13 x213 ⊢
  generalize bs ++ [b1] ++ [b2] ++ [b3] = cs at hTD13 lbs
  refine ⟨_, rfl, TD, rfl, ⟨_, SqL.of hTD13⟩, fun D2 nD2 => ?_⟩
  refine lc_list (K := K) (xs := cs.map V.bl) (fun j H' => Ext H13 H' ∧ H' D2 = some (.lst ((List.replicate j true).map V.bl))) ⟨Ext.new nD2, upd_same⟩ (fun j H' _ ⟨x, _⟩ => SqL.of (x.lst hTD13)) ?_ ?_
  · rintro j v H' hj ⟨x, hD2⟩
    rw [List.getElem?_map] at hj
    obtain ⟨b, hb, rfl⟩ := Option.map_eq_some_iff.mp hj
    have jl : j < 5 := by
      have := (List.getElem?_eq_some_iff.mp hb).1
      omega
    refine ⟨rfl, _, rfl, .bl b, .ty "bool", _, _, true, rfl, .ty "bool", .base (.bl _), kit_ty (by decide +kernel), ?_⟩
    refine ⟨_, hD2, by rw [List.length_map, List.length_replicate]; omega, x.mut nD2, ?_⟩
    rw [upd_same, List.replicate_succ', List.map_append]
    rfl
  rintro H14 ⟨x14, hD2⟩
  refine ⟨D2, _, rfl, SqL.of hD2, ?_⟩
  rw [all_rep]
  exact q _ ((x1.trans w1).trans (x213.trans x14))
end
end Lo

section
variable {P : Program} {w : World} {K : PySem.W.Frag} {mg : Str → Option Value}
def spLaw1 (K : PySem.W.Frag) : Sp := fun vs H Q _ => ∃ (a : Addr) (ns : List Int), vs = [.ref a] ∧ SqL K H a (ns.map V.int) ∧ ns.length ≤ 63 ∧ ∀ H', Q (.bl true) H'
theorem ok_law {fa cc : Addr} (T : Txt K mg cc) (hfa : mg "law" = some (.ref fa)) : ∃ fd : FuncData, (∀ (s : Shared) (v : Value), BindsTo s fd ⟨[v], []⟩ [("_law_script", v)]) ∧ ∀ base : Heap, K.In base → base.Ns mainGlobals mg → FnOk P w K mg base L2.CX0 16 fa fd ["_law_script"] (spLaw1 K) := by
  have Z := T.Z
  obtain ⟨CG, KG⟩ := T.k_Grows
  obtain ⟨CS, KS⟩ := T.k_Stands
  obtain ⟨CH, KH⟩ := T.k_Holds
  obtain ⟨CL, KL⟩ := T.k_Lacks
  obtain ⟨CB, DB⟩ := T.c_Behind___init__
  obtain ⟨fP, fdP, FP, mP, bP⟩ := T.d__law_seal.ex
  obtain ⟨fN, fdN, FN, mN, bN⟩ := T.d__law_narrow.ex
  refine law_fn T.d_law hfa sc_law (fun vs H Q E h => ?_) (fun base f cdv A' outer s H vs Q E hr h => ?_)
  · obtain ⟨a, ns, rfl, _⟩ := h
    rfl
  obtain ⟨a, ns, rfl, hS, hlen, q⟩ := h
  have C__law_stands := ok_lstands (P := P) (w := w) (base := base) T mP KS
  have C__law_grows := ok_lgrows (P := P) (w := w) (base := base) T mP KG
  have C__law_keys := ok_lkeys (P := P) (w := w) (base := base) T mP DB KS KH KL
  have C__law_true := ok_ltrue (P := P) (w := w) (base := base) T mP DB KS KG KH KL
  have C__law_far_right := Lo.ok_lfar (P := P) (w := w) (base := base) T mN KS KG
  have e16 : sizeLine = 16777216 := sizeLine_eq
  refine ⟨_, (pss_cons (ps_set (i := 0) sc_law.nd rfl (Or.inl rfl) (pe_slice sl_list (pv 0) po_none (po_some pe_int)))
  (pss_cons (ps_for PassesOwn.never rfl (pi_range1 rfl Z.range (pa_cons (pe_callB (call_min2 rfl) rfl Z.min (by decide +kernel) (pa_cons (pe_callB call_len_seq rfl Z.len PySem.boot_len (pa_cons (pv 0) pa_nil)) (pa_cons pe_int pa_nil))) pa_nil)) (pg_name (i := 1) sc_law.nd rfl (Or.inl rfl)) (pss_cons (ps_set (i := 2) sc_law.nd rfl (Or.inl rfl) (pe_op op_add (pe_ix ix_list (pv 0) (pv 1) (fun _ _ => rfl)) (pe_op op_mul pe_int (pv 1))))
  (pss_one (ps_if (PW.pt (pw_or (pt_not (pt_val (pe_c C__law_stands hr (by omega) rfl (pa_cons (pv 2) pa_nil)))) (pw_or (pt_not (pt_val (pe_c C__law_grows hr (by omega) rfl (pa_cons (pv 2) pa_nil)))) (pw_or (pt_not (pt_val (pe_c C__law_keys hr (by omega) rfl (pa_cons (pv 2) pa_nil)))) (pw_or1 (pt_not (pt_val (pe_c C__law_true hr (by omega) rfl (pa_cons (pv 2) pa_nil))))))))) (pss_one (ps_ret pe_bl)) pss_nil))))
  (pss_one (ps_ret (pe_and (pe_c C__law_true hr (by omega) rfl (pa_cons (pe_callB call_len_seq rfl Z.len PySem.boot_len (pa_cons (pv 0) pa_nil)) pa_nil)) (pe_one (pe_c C__law_far_right hr (by omega) rfl (pa_cons (pe_callB (cr_sum rfl) rfl Z.sum (by decide +kernel) (pa_cons (pe_lc (own := [("_law_cell", 2)]) (g := gName 2) (tt := tYes) rfl sc_law.nd (pi_list (pv 0)) (blkOk_by (N := N_law) (sc := defScope s_law) (by decide +kernel)) (fun _ _ _ _ _ => (pg_name (i := 2) sc_law.nd rfl (Or.inl rfl))) (fun _ _ _ _ _ => pts_nil) (fun _ _ _ _ _ => (pe_op op_mod (pv 2) pe_int))) pa_nil)) pa_nil)))))))), ?_⟩
  refine ⟨.ref a, rfl, 63, rfl, a, _, rfl, hS, fun c nc => ?_⟩
  rw [take63 hlen]
  have hc0 : upd H c (.lst (ns.map V.int)) c = some (.lst (ns.map V.int)) := upd_same
  generalize upd H c (.lst (ns.map V.int)) = H0 at hc0 ⊢
  obtain ⟨m, hm, hml⟩ : ∃ m : Nat, (if (9 : Int) < ((ns.map V.int).length : Int) then (9 : Int) else ((ns.map V.int).length : Int)) = (m : Int) ∧ m ≤ ns.length := by
    rw [List.length_map]
    split
    · exact ⟨9, rfl, by omega⟩
    · exact ⟨_, rfl, Nat.le_refl _⟩
  refine ⟨_, rfl, c, _, rfl, .inl (SqL.of hc0), _, 9, rfl, ?_⟩
  rw [hm]
  refine ⟨(m : Int), rfl, by omega, by omega, ?_⟩
  rw [Int.toNat_natCast]
  refine for_range (fun i σ H' => ∃ (y1 y2 : Option V), σ = [some (.ref c), y1, y2] ∧ Ext H0 H') ⟨_, _, rfl, Ext.refl _⟩ ?_ ?_
  · rintro i σ H1 hi ⟨y1, y2, rfl, x1⟩
    have hz : (ns.map V.int)[i]? = some (.int (ns[i]'(by omega))) := by rw [List.getElem?_map, List.getElem?_eq_getElem (by omega)]; rfl
    rw [Int.zero_add]
    refine ⟨_, rfl, _, rfl, c, _, _, _, rfl, rfl, SqL.of (x1.lst hc0), atI_nat hz, _, rfl, _, _, rfl, rfl, .inl ⟨by decide, by decide⟩, _, _, rfl, rfl, ?_⟩
    refine ⟨_, rfl, _, rfl, fun H2 x2 => ⟨_, rfl, iteF ?_⟩⟩
    refine ⟨_, rfl, _, rfl, fun H3 x3 => ⟨_, rfl, iteF ?_⟩⟩
    refine ⟨_, rfl, _, rfl, fun H4 x4 => ⟨_, rfl, iteF ?_⟩⟩
    refine ⟨_, rfl, _, rfl, fun H5 x5 => ⟨_, rfl, iteF ?_⟩⟩
    exact ⟨_, _, rfl, x1.trans (x2.trans (x3.trans (x4.trans x5)))⟩
  rintro σ H1 ⟨y1, y2, rfl, x1⟩
  refine ⟨_, rfl, c, _, rfl, .inl (SqL.of (x1.lst hc0)), _, rfl, fun H2 x2 => ⟨_, rfl, iteT ?_⟩⟩
  have hc2 := (x1.trans x2).lst hc0
  refine ⟨_, rfl, c, rfl, ⟨_, SqL.of hc2⟩, fun D nD => ?_⟩
  refine lc_list (K := K) (xs := ns.map V.int) (fun j H' => ∃ (zs : List Int), zs.length = j ∧ Ext H2 H' ∧ H' D = some (.lst (zs.map V.int))) ⟨[], rfl, Ext.new nD, upd_same⟩ (fun j H' _ ⟨_, _, x, _⟩ => SqL.of (x.lst hc2)) ?_ ?_
  · rintro j v H' hj ⟨zs, rfl, x, hD⟩
    rw [List.getElem?_map] at hj
    obtain ⟨z, hz, rfl⟩ := Option.map_eq_some_iff.mp hj
    have jl : zs.length < ns.length := (List.getElem?_eq_some_iff.mp hz).1
    refine ⟨rfl, _, rfl, _, 1000, rfl, rfl, (show (0 : Int) < 1000 by decide), ?_⟩
    exact ⟨_, hD, by rw [List.length_map]; omega, zs ++ [_], by rw [List.length_append]; rfl, x.mut nD, by rw [upd_same, List.map_append]; rfl⟩
  rintro H3 ⟨zs, _, x3, hD⟩
  exact ⟨D, zs, rfl, SqL.of hD, _, rfl, fun H4 x4 => q _⟩
end

end My
open PySem PySem.W PyProof.Rows
set_option maxHeartbeats 0 in
theorem PySem.Challenge.cw_growbook_k14_no_two_holds : PySem.Challenge.rw_growbook_k14_no_two.Holds := by
  w_on; o_law; k_head; (case hw => w_witness2)
  k_fill
  refine L2.walk_of (l := PySem.Challenge.rw_growbook_k14_no_two) (n := 63) (k := 16) (x := "_law_script") (CX := fun _ => L2.CX0) (sp := fun w => My.spLaw1 _) rfl (by decide) rfl ⟨rfl, by decide, by decide⟩ (fun w h Y => PySem.W.kIn_of Y) ?F (fun _ _ a ns hl _ hS => ⟨a, ns, rfl, hS, hl, fun _ => rfl⟩) (fun _ _ _ _ _ h => h)
  case F =>
    intro w mg fa h KX G hmg
    refine My.ok_law (cc := fa) ?T hmg
    refine' My.txt_mk KX G ?a0 ?l0 ?c0 ?k0 ?a1 ?l1 ?c1 ?k1 ?a2 ?l2 ?c2 ?k2 ?a3 ?l3 ?c3 ?k3 ?a4 ?l4 ?c4 ?k4 ?a5 ?l5 ?c5 ?k5 ?a6 ?l6 ?c6 ?k6 ?a7 ?l7 ?c7 ?k7 ?a8 ?l8 ?c8 ?k8 ?a9 ?l9 ?c9 ?k9 ?a10 ?l10 ?c10 ?k10 ?a11 ?l11 ?c11 ?k11 ?a12 ?l12 ?c12 ?k12 ?a13 ?l13 ?c13 ?k13 ?a14 ?l14 ?c14 ?k14 ?a15 ?l15 ?c15 ?k15 ?a16 ?l16 ?c16 ?k16 ?a17 ?l17 ?c17 ?k17 ?a18 ?l18 ?c18 ?k18 ?a19 ?l19 ?c19 ?k19 ?a20 ?l20 ?c20 ?k20 ?a21 ?l21 ?c21 ?k21 ?a22 ?l22 ?c22 ?k22 ?a23 ?l23 ?c23 ?k23 ?a24 ?l24 ?c24 ?k24 ?a25 ?l25 ?c25 ?k25 ?a26 ?l26 ?c26 ?k26 ?a27 ?l27 ?c27 ?k27 ?a28 ?l28 ?c28 ?k28 ?z_len ?z_isinstance ?z_int ?z_bool ?z_list ?z_tuple ?z_str ?z_range ?z_reversed ?z_min ?z_all ?z_sum ?g_Claim ?g_BadPaper ?xP_BadPaper ?kP_BadPaper ?bP_BadPaper ?tP_BadPaper ?hg_BadPaper ?hk_BadPaper ?hd_BadPaper ?ha_BadPaper ?hn_BadPaper ?ht_BadPaper ?hm_BadPaper ?ex_BadPaper ?g_Behind ?aMBehind ?lMBehind ?cMBehind ?kMBehind ?gaMBehind ?rdMBehind ?fcMBehind ?g_Stands ?pg_Stands ?hd_Stands ?po_Stands ?sa_Stands ?n_Stands_place ?n_Stands_words ?n_Stands_table ?ia_Stands ?in_Stands ?it_Stands ?im_Stands ?aStands0 ?iStands0 ?lStands0 ?cStands0 ?kStands0 ?mk_Stands ?kc_Stands ?aStands1 ?iStands1 ?lStands1 ?cStands1 ?kStands1 ?aStands2 ?iStands2 ?lStands2 ?cStands2 ?kStands2 ?g_Grows ?pg_Grows ?hd_Grows ?po_Grows ?sa_Grows ?n_Grows_old ?n_Grows_before ?ia_Grows ?in_Grows ?it_Grows ?im_Grows ?aGrows0 ?iGrows0 ?lGrows0 ?cGrows0 ?kGrows0 ?mk_Grows ?kc_Grows ?aGrows1 ?iGrows1 ?lGrows1 ?cGrows1 ?kGrows1 ?aGrows2 ?iGrows2 ?lGrows2 ?cGrows2 ?kGrows2 ?g_Holds ?pg_Holds ?hd_Holds ?po_Holds ?sa_Holds ?n_Holds_place ?n_Holds_key ?n_Holds_depth ?n_Holds_said ?ia_Holds ?in_Holds ?it_Holds ?im_Holds ?aHolds0 ?iHolds0 ?lHolds0 ?cHolds0 ?kHolds0 ?mk_Holds ?kc_Holds ?aHolds1 ?iHolds1 ?lHolds1 ?cHolds1 ?kHolds1 ?aHolds2 ?iHolds2 ?lHolds2 ?cHolds2 ?kHolds2 ?aHolds3 ?iHolds3 ?lHolds3 ?cHolds3 ?kHolds3 ?g_Lacks ?pg_Lacks ?hd_Lacks ?po_Lacks ?sa_Lacks ?n_Lacks_place ?n_Lacks_key ?n_Lacks_depth ?ia_Lacks ?in_Lacks ?it_Lacks ?im_Lacks ?aLacks0 ?iLacks0 ?lLacks0 ?cLacks0 ?kLacks0 ?aLacks1 ?iLacks1 ?lLacks1 ?cLacks1 ?kLacks1 ?mk_Lacks ?kc_Lacks ?aLacks2 ?iLacks2 ?lLacks2 ?cLacks2 ?kLacks2 ?aLacks3 ?iLacks3 ?lLacks3 ?cLacks3 ?kLacks3
    (case a0 => k_is)
    (case l0 => k_is)
    (case c0 => k_is)
    (case k0 => k_is)
    (case a1 => k_is)
    (case l1 => k_is)
    (case c1 => k_is)
    (case k1 => k_is)
    (case a2 => k_is)
    (case l2 => k_is)
    (case c2 => k_is)
    (case k2 => k_is)
    (case a3 => k_is)
    (case l3 => k_is)
    (case c3 => k_is)
    (case k3 => k_is)
    (case a4 => k_is)
    (case l4 => k_is)
    (case c4 => k_is)
    (case k4 => k_is)
    (case a5 => k_is)
    (case l5 => k_is)
    (case c5 => k_is)
    (case k5 => k_is)
    (case a6 => k_is)
    (case l6 => k_is)
    (case c6 => k_is)
    (case k6 => k_is)
    (case a7 => k_is)
    (case l7 => k_is)
    (case c7 => k_is)
    (case k7 => k_is)
    (case a8 => k_is)
    (case l8 => k_is)
    (case c8 => k_is)
    (case k8 => k_is)
    (case a9 => k_is)
    (case l9 => k_is)
    (case c9 => k_is)
    (case k9 => k_is)
    (case a10 => k_is)
    (case l10 => k_is)
    (case c10 => k_is)
    (case k10 => k_is)
    (case a11 => k_is)
    (case l11 => k_is)
    (case c11 => k_is)
    (case k11 => k_is)
    (case a12 => k_is)
    (case l12 => k_is)
    (case c12 => k_is)
    (case k12 => k_is)
    (case a13 => k_is)
    (case l13 => k_is)
    (case c13 => k_is)
    (case k13 => k_is)
    (case a14 => k_is)
    (case l14 => k_is)
    (case c14 => k_is)
    (case k14 => k_is)
    (case a15 => k_is)
    (case l15 => k_is)
    (case c15 => k_is)
    (case k15 => k_is)
    (case a16 => k_is)
    (case l16 => k_is)
    (case c16 => k_is)
    (case k16 => k_is)
    (case a17 => k_is)
    (case l17 => k_is)
    (case c17 => k_is)
    (case k17 => k_is)
    (case a18 => k_is)
    (case l18 => k_is)
    (case c18 => k_is)
    (case k18 => k_is)
    (case a19 => k_is)
    (case l19 => k_is)
    (case c19 => k_is)
    (case k19 => k_is)
    (case a20 => k_is)
    (case l20 => k_is)
    (case c20 => k_is)
    (case k20 => k_is)
    (case a21 => k_is)
    (case l21 => k_is)
    (case c21 => k_is)
    (case k21 => k_is)
    (case a22 => k_is)
    (case l22 => k_is)
    (case c22 => k_is)
    (case k22 => k_is)
    (case a23 => k_is)
    (case l23 => k_is)
    (case c23 => k_is)
    (case k23 => k_is)
    (case a24 => k_is)
    (case l24 => k_is)
    (case c24 => k_is)
    (case k24 => k_is)
    (case a25 => k_is)
    (case l25 => k_is)
    (case c25 => k_is)
    (case k25 => k_is)
    (case a26 => k_is)
    (case l26 => k_is)
    (case c26 => k_is)
    (case k26 => k_is)
    (case a27 => k_is)
    (case l27 => k_is)
    (case c27 => k_is)
    (case k27 => k_is)
    (case a28 => k_is)
    (case l28 => k_is)
    (case c28 => k_is)
    (case k28 => k_is)
    (case z_len => k_is)
    (case z_isinstance => k_is)
    (case z_int => k_is)
    (case z_bool => k_is)
    (case z_list => k_is)
    (case z_tuple => k_is)
    (case z_str => k_is)
    (case z_range => k_is)
    (case z_reversed => k_is)
    (case z_min => k_is)
    (case z_all => k_is)
    (case z_sum => k_is)
    (case g_Claim => k_is)
    (case g_BadPaper => k_is)
    (case xP_BadPaper => k_exc)
    (case kP_BadPaper => k_is)
    (case bP_BadPaper => k_is)
    (case tP_BadPaper => k_is)
    (case hg_BadPaper => k_is)
    (case hk_BadPaper => k_is)
    (case hd_BadPaper => k_is)
    (case ha_BadPaper => k_is)
    (case hn_BadPaper => k_is)
    (case ht_BadPaper => k_is)
    (case hm_BadPaper => k_is)
    (case ex_BadPaper => kernel_rfl)
    (case g_Behind => k_is)
    (case aMBehind => k_is)
    (case lMBehind => k_is)
    (case cMBehind => k_is)
    (case kMBehind => k_is)
    (case gaMBehind => k_is)
    (case rdMBehind => kernel_rfl)
    (case fcMBehind => kernel_rfl)
    (case g_Stands => k_is)
    (case pg_Stands => k_is)
    (case hd_Stands => k_is)
    (case po_Stands => k_is)
    (case sa_Stands => k_is)
    (case n_Stands_place => k_is)
    (case n_Stands_words => k_is)
    (case n_Stands_table => k_is)
    (case ia_Stands => k_is)
    (case in_Stands => k_is)
    (case it_Stands => k_is)
    (case im_Stands => k_is)
    (case aStands0 => k_is)
    (case iStands0 => k_is)
    (case lStands0 => k_is)
    (case cStands0 => k_is)
    (case kStands0 => k_is)
    (case mk_Stands => k_is)
    (case kc_Stands => k_is)
    (case aStands1 => k_is)
    (case iStands1 => k_is)
    (case lStands1 => k_is)
    (case cStands1 => k_is)
    (case kStands1 => k_is)
    (case aStands2 => k_is)
    (case iStands2 => k_is)
    (case lStands2 => k_is)
    (case cStands2 => k_is)
    (case kStands2 => k_is)
    (case g_Grows => k_is)
    (case pg_Grows => k_is)
    (case hd_Grows => k_is)
    (case po_Grows => k_is)
    (case sa_Grows => k_is)
    (case n_Grows_old => k_is)
    (case n_Grows_before => k_is)
    (case ia_Grows => k_is)
    (case in_Grows => k_is)
    (case it_Grows => k_is)
    (case im_Grows => k_is)
    (case aGrows0 => k_is)
    (case iGrows0 => k_is)
    (case lGrows0 => k_is)
    (case cGrows0 => k_is)
    (case kGrows0 => k_is)
    (case mk_Grows => k_is)
    (case kc_Grows => k_is)
    (case aGrows1 => k_is)
    (case iGrows1 => k_is)
    (case lGrows1 => k_is)
    (case cGrows1 => k_is)
    (case kGrows1 => k_is)
    (case aGrows2 => k_is)
    (case iGrows2 => k_is)
    (case lGrows2 => k_is)
    (case cGrows2 => k_is)
    (case kGrows2 => k_is)
    (case g_Holds => k_is)
    (case pg_Holds => k_is)
    (case hd_Holds => k_is)
    (case po_Holds => k_is)
    (case sa_Holds => k_is)
    (case n_Holds_place => k_is)
    (case n_Holds_key => k_is)
    (case n_Holds_depth => k_is)
    (case n_Holds_said => k_is)
    (case ia_Holds => k_is)
    (case in_Holds => k_is)
    (case it_Holds => k_is)
    (case im_Holds => k_is)
    (case aHolds0 => k_is)
    (case iHolds0 => k_is)
    (case lHolds0 => k_is)
    (case cHolds0 => k_is)
    (case kHolds0 => k_is)
    (case mk_Holds => k_is)
    (case kc_Holds => k_is)
    (case aHolds1 => k_is)
    (case iHolds1 => k_is)
    (case lHolds1 => k_is)
    (case cHolds1 => k_is)
    (case kHolds1 => k_is)
    (case aHolds2 => k_is)
    (case iHolds2 => k_is)
    (case lHolds2 => k_is)
    (case cHolds2 => k_is)
    (case kHolds2 => k_is)
    (case aHolds3 => k_is)
    (case iHolds3 => k_is)
    (case lHolds3 => k_is)
    (case cHolds3 => k_is)
    (case kHolds3 => k_is)
    (case g_Lacks => k_is)
    (case pg_Lacks => k_is)
    (case hd_Lacks => k_is)
    (case po_Lacks => k_is)
    (case sa_Lacks => k_is)
    (case n_Lacks_place => k_is)
    (case n_Lacks_key => k_is)
    (case n_Lacks_depth => k_is)
    (case ia_Lacks => k_is)
    (case in_Lacks => k_is)
    (case it_Lacks => k_is)
    (case im_Lacks => k_is)
    (case aLacks0 => k_is)
    (case iLacks0 => k_is)
    (case lLacks0 => k_is)
    (case cLacks0 => k_is)
    (case kLacks0 => k_is)
    (case aLacks1 => k_is)
    (case iLacks1 => k_is)
    (case lLacks1 => k_is)
    (case cLacks1 => k_is)
    (case kLacks1 => k_is)
    (case mk_Lacks => k_is)
    (case kc_Lacks => k_is)
    (case aLacks2 => k_is)
    (case iLacks2 => k_is)
    (case lLacks2 => k_is)
    (case cLacks2 => k_is)
    (case kLacks2 => k_is)
    (case aLacks3 => k_is)
    (case iLacks3 => k_is)
    (case lLacks3 => k_is)
    (case cLacks3 => k_is)
    (case kLacks3 => k_is)
#print axioms PySem.Challenge.cw_growbook_k14_no_two_holds

