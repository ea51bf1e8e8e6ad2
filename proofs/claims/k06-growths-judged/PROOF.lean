import PyProof.Rows.All
import Wide.All
import OpenK.AllK
import Wide.FinOn
import HandS.ForMost
import HandS.WideBits
import HandS.IsInst
import HandS.Codes
import HandS.Evl
import HandS.Nested
import HandS.EndTab
import HandS.TupLen
import HandS.Conv
import HandS.Rev
import HandS.ForExc
import HandS.ExcIs
import HandS.TryElse
import HandS.Style
import PySem.Challenge.RW_growbook_k06_growths_judged

set_option Elab.async false
set_option linter.all false
set_option maxRecDepth 100000
set_option maxHeartbeats 4000000
namespace My
open PySem PySem.Spec PyProof.Rows L2
open C8 (Cal Met Mak CalAt pe_c pe_mk pe_mt pe_mt0)

/-! ### the text by places -/
def inDef (s : Stmt) (j : Nat) : Stmt := (defBody s).getD j (.Pass ⟨0, 0, 0, 0⟩)
def topS (i : Nat) : Stmt := PySem.Challenge.pw_growbook_k06_growths_judged.main.body.getD i (.Pass ⟨0, 0, 0, 0⟩)
abbrev s_split : Stmt := topS 4
abbrev N_split : List Str := ["size"]
theorem sc_split : FnScope ["size"] ["size"] (defScope s_split) := ⟨rfl, rfl, rfl, by decide +kernel, rfl, by decide +kernel, by decide +kernel⟩
abbrev s_none_seal : Stmt := topS 5
abbrev N_none_seal : List Str := ["seal"]
theorem sc_none_seal : FnScope ["seal"] ["seal"] (defScope s_none_seal) := ⟨rfl, rfl, rfl, by decide +kernel, rfl, by decide +kernel, by decide +kernel⟩
abbrev s_pair_seal : Stmt := topS 6
abbrev N_pair_seal : List Str := ["seal", "left", "right"]
theorem sc_pair_seal : FnScope ["seal", "left", "right"] ["seal", "left", "right"] (defScope s_pair_seal) := ⟨rfl, rfl, rfl, by decide +kernel, rfl, by decide +kernel, by decide +kernel⟩
abbrev s_book_seal : Stmt := topS 7
abbrev N_book_seal : List Str := ["seal", "size", "top"]
theorem sc_book_seal : FnScope ["seal", "size", "top"] ["seal", "size", "top"] (defScope s_book_seal) := ⟨rfl, rfl, rfl, by decide +kernel, rfl, by decide +kernel, by decide +kernel⟩
abbrev s_top_of : Stmt := topS 8
abbrev N_top_of : List Str := ["seal", "leaves", "k"]
theorem sc_top_of : FnScope ["seal", "leaves", "k"] ["seal", "leaves"] (defScope s_top_of) := ⟨rfl, rfl, rfl, by decide +kernel, rfl, by decide +kernel, by decide +kernel⟩
abbrev s_growth_of : Stmt := topS 9
abbrev N_growth_of : List Str := ["seal", "leaves", "old", "k"]
theorem sc_growth_of : FnScope ["seal", "leaves", "old", "k"] ["seal", "leaves", "old"] (defScope s_growth_of) := ⟨rfl, rfl, rfl, by decide +kernel, rfl, by decide +kernel, by decide +kernel⟩
abbrev s_last_of : Stmt := topS 10
abbrev N_last_of : List Str := ["paper"]
theorem sc_last_of : FnScope ["paper"] ["paper"] (defScope s_last_of) := ⟨rfl, rfl, rfl, by decide +kernel, rfl, by decide +kernel, by decide +kernel⟩
abbrev s_regrown : Stmt := topS 11
abbrev N_regrown : List Str := ["seal", "old", "size", "paper", "last", "rest", "sides", "k", "one", "other", "low"]
theorem sc_regrown : FnScope ["seal", "old", "size", "paper", "last", "rest", "sides", "k", "one", "other", "low"] ["seal", "old", "size", "paper"] (defScope s_regrown) := ⟨rfl, rfl, rfl, by decide +kernel, rfl, by decide +kernel, by decide +kernel⟩
abbrev s_Claim_judged : Stmt := inClass (topS 13) 0
abbrev N_Claim_judged : List Str := ["self", "seal", "size", "head", "paper", "shows"]
theorem sc_Claim_judged : FnScope ["self", "seal", "size", "head", "paper", "shows"] ["self", "seal", "size", "head", "paper"] (defScope s_Claim_judged) := ⟨rfl, rfl, rfl, by decide +kernel, rfl, by decide +kernel, by decide +kernel⟩
abbrev s_Claim_shown : Stmt := inClass (topS 13) 1
abbrev N_Claim_shown : List Str := ["self", "seal", "size", "head", "paper"]
theorem sc_Claim_shown : FnScope ["self", "seal", "size", "head", "paper"] ["self", "seal", "size", "head", "paper"] (defScope s_Claim_shown) := ⟨rfl, rfl, rfl, by decide +kernel, rfl, by decide +kernel, by decide +kernel⟩
abbrev s_Grows___init__ : Stmt := inClass (topS 14) 0
abbrev N_Grows___init__ : List Str := ["self", "old", "head"]
theorem sc_Grows___init__ : FnScope ["self", "old", "head"] ["self", "old", "head"] (defScope s_Grows___init__) := ⟨rfl, rfl, rfl, by decide +kernel, rfl, by decide +kernel, by decide +kernel⟩
abbrev s_Grows_shown : Stmt := inClass (topS 14) 1
abbrev N_Grows_shown : List Str := ["self", "seal", "size", "head", "paper", "empty", "both"]
theorem sc_Grows_shown : FnScope ["self", "seal", "size", "head", "paper", "empty", "both"] ["self", "seal", "size", "head", "paper"] (defScope s_Grows_shown) := ⟨rfl, rfl, rfl, by decide +kernel, rfl, by decide +kernel, by decide +kernel⟩
abbrev s_Follower___init__ : Stmt := inClass (topS 16) 0
abbrev N_Follower___init__ : List Str := ["self", "seal"]
theorem sc_Follower___init__ : FnScope ["self", "seal"] ["self", "seal"] (defScope s_Follower___init__) := ⟨rfl, rfl, rfl, by decide +kernel, rfl, by decide +kernel, by decide +kernel⟩
abbrev s_Follower_size : Stmt := inClass (topS 16) 1
abbrev N_Follower_size : List Str := ["self"]
theorem sc_Follower_size : FnScope ["self"] ["self"] (defScope s_Follower_size) := ⟨rfl, rfl, rfl, by decide +kernel, rfl, by decide +kernel, by decide +kernel⟩
abbrev s_Follower_head : Stmt := inClass (topS 16) 2
abbrev N_Follower_head : List Str := ["self"]
theorem sc_Follower_head : FnScope ["self"] ["self"] (defScope s_Follower_head) := ⟨rfl, rfl, rfl, by decide +kernel, rfl, by decide +kernel, by decide +kernel⟩
abbrev s_Follower_take : Stmt := inClass (topS 16) 3
abbrev N_Follower_take : List Str := ["self", "size", "head", "paper", "claim"]
theorem sc_Follower_take : FnScope ["self", "size", "head", "paper", "claim"] ["self", "size", "head", "paper"] (defScope s_Follower_take) := ⟨rfl, rfl, rfl, by decide +kernel, rfl, by decide +kernel, by decide +kernel⟩
abbrev s_Follower_judge : Stmt := inClass (topS 16) 4
abbrev N_Follower_judge : List Str := ["self", "claim", "paper"]
theorem sc_Follower_judge : FnScope ["self", "claim", "paper"] ["self", "claim", "paper"] (defScope s_Follower_judge) := ⟨rfl, rfl, rfl, by decide +kernel, rfl, by decide +kernel, by decide +kernel⟩
abbrev s__law_cell_at : Stmt := topS 18
abbrev N__law_cell_at : List Str := ["_law_script", "_law_k"]
theorem sc__law_cell_at : FnScope ["_law_script", "_law_k"] ["_law_script", "_law_k"] (defScope s__law_cell_at) := ⟨rfl, rfl, rfl, by decide +kernel, rfl, by decide +kernel, by decide +kernel⟩
abbrev s__law_plain : Stmt := topS 19
abbrev N__law_plain : List Str := ["_law_mark", "_law_one_here", "_law_two"]
theorem sc__law_plain : FnScope ["_law_mark", "_law_one_here", "_law_two"] ["_law_mark", "_law_one_here", "_law_two"] (defScope s__law_plain) := ⟨rfl, rfl, rfl, by decide +kernel, rfl, by decide +kernel, by decide +kernel⟩
abbrev s__law_turned : Stmt := topS 20
abbrev N__law_turned : List Str := ["_law_mark", "_law_one_here", "_law_two"]
theorem sc__law_turned : FnScope ["_law_mark", "_law_one_here", "_law_two"] ["_law_mark", "_law_one_here", "_law_two"] (defScope s__law_turned) := ⟨rfl, rfl, rfl, by decide +kernel, rfl, by decide +kernel, by decide +kernel⟩
abbrev s__law_numbering : Stmt := topS 21
abbrev N__law_numbering : List Str := ["_law_numbered", "_law_told"]
theorem sc__law_numbering : FnScope ["_law_numbered", "_law_told"] [] (defScope s__law_numbering) := ⟨rfl, rfl, rfl, by decide +kernel, rfl, by decide +kernel, by decide +kernel⟩
abbrev s__law_numbering__law_numbered : Stmt := inDef (topS 21) 1
abbrev N__law_numbering__law_numbered : List Str := ["_law_mark", "_law_one_here", "_law_two", "_law_told"]
abbrev s__law_seal_by : Stmt := topS 22
abbrev N__law_seal_by : List Str := ["_law_script", "_law_kind"]
theorem sc__law_seal_by : FnScope ["_law_script", "_law_kind"] ["_law_script"] (defScope s__law_seal_by) := ⟨rfl, rfl, rfl, by decide +kernel, rfl, by decide +kernel, by decide +kernel⟩
abbrev s__law_split : Stmt := topS 23
abbrev N__law_split : List Str := ["_law_size", "_law_k"]
theorem sc__law_split : FnScope ["_law_size", "_law_k"] ["_law_size"] (defScope s__law_split) := ⟨rfl, rfl, rfl, by decide +kernel, rfl, by decide +kernel, by decide +kernel⟩
abbrev s__law_top : Stmt := topS 24
abbrev N__law_top : List Str := ["_law_seal", "_law_leaves", "_law_k"]
theorem sc__law_top : FnScope ["_law_seal", "_law_leaves", "_law_k"] ["_law_seal", "_law_leaves"] (defScope s__law_top) := ⟨rfl, rfl, rfl, by decide +kernel, rfl, by decide +kernel, by decide +kernel⟩
abbrev s__law_growth : Stmt := topS 25
abbrev N__law_growth : List Str := ["_law_seal", "_law_leaves", "_law_old", "_law_k"]
theorem sc__law_growth : FnScope ["_law_seal", "_law_leaves", "_law_old", "_law_k"] ["_law_seal", "_law_leaves", "_law_old"] (defScope s__law_growth) := ⟨rfl, rfl, rfl, by decide +kernel, rfl, by decide +kernel, by decide +kernel⟩
abbrev s__law_draw : Stmt := topS 26
abbrev N__law_draw : List Str := ["_law_cell", "_law_k", "_law_many", "_law_primes"]
theorem sc__law_draw : FnScope ["_law_cell", "_law_k", "_law_many", "_law_primes"] ["_law_cell", "_law_k", "_law_many"] (defScope s__law_draw) := ⟨rfl, rfl, rfl, by decide +kernel, rfl, by decide +kernel, by decide +kernel⟩
abbrev s__law_word : Stmt := topS 27
abbrev N__law_word : List Str := ["_law_cell", "_law_some", "_law_many", "_law_kept", "_law_k", "_law_sign"]
theorem sc__law_word : FnScope ["_law_cell", "_law_some", "_law_many", "_law_kept", "_law_k", "_law_sign"] ["_law_cell"] (defScope s__law_word) := ⟨rfl, rfl, rfl, by decide +kernel, rfl, by decide +kernel, by decide +kernel⟩
abbrev s__law_bent : Stmt := topS 28
abbrev N__law_bent : List Str := ["_law_seal", "_law_paper", "_law_bend", "_law_other", "_law_at"]
theorem sc__law_bent : FnScope ["_law_seal", "_law_paper", "_law_bend", "_law_other", "_law_at"] ["_law_seal", "_law_paper", "_law_bend", "_law_other"] (defScope s__law_bent) := ⟨rfl, rfl, rfl, by decide +kernel, rfl, by decide +kernel, by decide +kernel⟩
abbrev s__law_head : Stmt := topS 29
abbrev N__law_head : List Str := ["_law_seal", "_law_leaves", "_law_size"]
theorem sc__law_head : FnScope ["_law_seal", "_law_leaves", "_law_size"] ["_law_seal", "_law_leaves", "_law_size"] (defScope s__law_head) := ⟨rfl, rfl, rfl, by decide +kernel, rfl, by decide +kernel, by decide +kernel⟩
abbrev s__law_one : Stmt := topS 30
abbrev N__law_one : List Str := ["_law_seal", "_law_cell", "_law_leaves", "_law_others", "_law_count", "_law_size", "_law_held", "_law_old", "_law_rows", "_law_before", "_law_near", "_law_rows_of", "_law_paper", "_law_said", "_law_head_here", "_law_claim", "_law_found", "_law_follower", "_law_due", "_law_right", "_law_good"]
theorem sc__law_one : FnScope ["_law_seal", "_law_cell", "_law_leaves", "_law_others", "_law_count", "_law_size", "_law_held", "_law_old", "_law_rows", "_law_before", "_law_near", "_law_rows_of", "_law_paper", "_law_said", "_law_head_here", "_law_claim", "_law_found", "_law_follower", "_law_due", "_law_right", "_law_good"] ["_law_seal", "_law_cell", "_law_leaves", "_law_others"] (defScope s__law_one) := ⟨rfl, rfl, rfl, by decide +kernel, rfl, by decide +kernel, by decide +kernel⟩
abbrev s_law : Stmt := topS 31
abbrev N_law : List Str := ["_law_script", "_law_seal", "_law_count", "_law_seed", "_law_leaves", "_law_apart", "_law_others", "_law_at", "_law_k"]
theorem sc_law : FnScope ["_law_script", "_law_seal", "_law_count", "_law_seed", "_law_leaves", "_law_apart", "_law_others", "_law_at", "_law_k"] ["_law_script"] (defScope s_law) := ⟨rfl, rfl, rfl, by decide +kernel, rfl, by decide +kernel, by decide +kernel⟩

/-! ### a def of the module -/
structure DefX (K : PySem.W.Frag) (mg : Str → Option Value) (x : Str) (st : Stmt) (ps : List Str) : Prop where
  ex : ∃ (f : Addr) (fd : FuncData), L2.Fun K x x st f fd ∧ mg x = some (.ref f) ∧ ∀ us : List Value, us.length = ps.length → bindArgs fd ⟨us, []⟩ = pure (ps.zip us)
/-- a def that makes defs: its code object's address is told -/
structure DefM (K : PySem.W.Frag) (mg : Str → Option Value) (x : Str) (st : Stmt) (c : Addr) : Prop where
  ex : ∃ (f : Addr) (oc : Value) (od : Option Addr) (kV doc pm : Value) (an : Option Addr) (ct : Value) (osl : Array (Option Value)), K.lookup f = some ⟨oc, od, .func (PySem.W.fnOf x x (defArgs st) (defBody st) (defScope st) .none kV doc pm an (.ref c) ct), osl⟩ ∧
    PySem.W.codeIn K (.ref c) x = true ∧ PySem.W.keepIn K (.ref f) = true ∧ mg x = some (.ref f)
/-- an own class of errors over ValueError, without an __init__ of its own -/
structure ExcF (K : PySem.W.Frag) (C : Addr) : Prop where
  xP : PySem.W.excIn K C [.type "ValueError", .type "Exception", .type "BaseException", .type "object"] "ValueError.__new__" = true
  kP : PySem.W.keepIn K (.ref C) = true
  bP : PySem.W.subIn K (.ref C) (.type "BaseException") = some true
  tP : PySem.W.typeIn K (.ref C) = some (.type "type")
  cP : ExcC K C
  eP : PySem.W.exmOne K (.ref C) (.ref C) = some true
structure ExcX (K : PySem.W.Frag) (mg : Str → Option Value) (x : Str) : Prop where
  ex : ∃ C, mg x = some (.ref C) ∧ ExcF K C
/-- a def that may raise -/
structure CalX (P : Program) (w : World) (K : PySem.W.Frag) (mg : Str → Option Value) (base : Heap) (k : Nat) (x : Str) (sp : Sp) : Prop where
  ex : ∃ (f : Addr) (fd : FuncData) (ps : List Str), FnOk P w K mg base (L2.CX P w) k f fd ps sp ∧ mg x = some (.ref f) ∧ PySem.W.keepIn K (.ref f) = true ∧ Binds K fd ps []
theorem calX_of {P : Program} {w : World} {K : PySem.W.Frag} {mg : Str → Option Value} {base : Heap} {x : Str} {st : Stmt} {N ps : List Str} {k : Nat} {sp : Sp} (D : DefX K mg x st ps) (S : FnScope N ps (defScope st)) (len : ∀ vs H Q E, sp vs H Q E → vs.length = ps.length)
    (hbody : ∀ (f : Addr) (cdv : Value) (A : Around) (outer : List Env) (s : Shared) (H : Hp) (vs : List V) (Q : VK) (E : XK), Room k (A.deeper (envOfC x (defScope st) s.heap.objs.size f cdv)) → sp vs H Q E →
      ∃ t, PSs (cxOf (L2.CX P w) P w K mg base N x (defScope st) f cdv A outer s H E) (defBody st) t ∧ t { nx := fun _ H' => Q .non H', rt := Q } (start N vs) H) : CalX P w K mg base (k + 1) x sp := by
  obtain ⟨f, fd, F, m, b⟩ := D.ex
  exact ⟨f, fd, ps, F.okX S len (hbody f), m, F.kp, .all b⟩
theorem calX_mono {P : Program} {w : World} {K : PySem.W.Frag} {mg : Str → Option Value} {base : Heap} {x : Str} {j k : Nat} {sp : Sp} (c : CalX P w K mg base j x sp) (h : j ≤ k) : CalX P w K mg base k x sp := by
  obtain ⟨f, fd, ps, F, m, kp, b⟩ := c.ex
  exact ⟨f, fd, ps, F.mono h, m, kp, b⟩
/-- x(..) that may raise, within what takes W -/
theorem pe_cx {X : Cx} {k j : Nat} {x : Str} {sp : Sp} {W : WX} {t : TA} {e : Expr} {es : List Expr} {p pos : Pos} (c : CalX X.prog X.w X.K X.mg X.base k x sp) (tk : Takes X W) (hr : Room j X.A) (hk : k ≤ j) (hg : Gl X x) (ha : PA X (e :: es) t)
    (hdb : (x == ("__debug__" : Str)) = false := by decide) (he : starEach (e :: es) X.env = (false, eval e X.env) :: starEach es X.env := by rfl) (hpl : (backTo pos (starEach es X.env)).any (·.1) = false := by rfl) :
    PE X (.Call (.Name x p) (e :: es) [] pos) (tCallS sp (WE W) t) := by
  obtain ⟨f, fd, ps, F, m, kp, b⟩ := c.ex
  exact pe_callS F (hr.mono hk) hg m kp b (fun σ => passAt tk σ) ha hdb he hpl
theorem zc_of {cls : Value} {C : Addr} {d : Option Addr} {oe : Obj} (hz : Zc cls d oe) (h : cls = .ref C ∧ d = none) : Zc (.ref C) none oe := by
  rw [← h.1, ← h.2]
  exact hz
/-- known where the reading is at hand -/
theorem pss_when {X : Cx} {st : List Stmt} {t : TS} {P : Prop} (h : P → PSs X st t) : PSs X st (fun D σ H => P ∧ t D σ H) := ⟨fun pins s σ H D I ⟨p, q⟩ => (h p).run pins s σ H D I q⟩
theorem pe_when {X : Cx} {e : Expr} {t : TE} {P : Prop} (h : P → PE X e t) : PE X e (fun σ H Q => P ∧ t σ H Q) := ⟨fun pins s σ H Q I ⟨p, q⟩ => (h p).run pins s σ H Q I q⟩
/-- raise X('..') -/
theorem ps_raiseX {X : Cx} {W : WX} {x m : Str} {C : Addr} {j : Nat} {p p2 p3 pos : Pos} (F : ExcF X.K C) (gC : X.mg x = some (.ref C)) (hc : X.calm = true) (tk : Takes X W) (hg : Gl X x) (hdb : (x == ("__debug__" : Str)) = false := by decide) :
    PS X (.Raise (some (.Call (.Name x p) [.Constant (.str m) j p2] [] p3)) none pos) (fun _ σ H => W (.ref C) none σ H) :=
  ps_raise hc tk (pmk_own PySem.F.excBase_ValueError F.xP gC F.kP (raises_own F.bP F.tP) hg hdb)
theorem cal_of {P : Program} {w : World} {K : PySem.W.Frag} {mg : Str → Option Value} {base : Heap} {x : Str} {st : Stmt} {N ps : List Str} {k : Nat} {sp : Sp} (D : DefX K mg x st ps) (S : FnScope N ps (defScope st)) (len : ∀ vs H Q E, sp vs H Q E → vs.length = ps.length)
    (hbody : ∀ (f : Addr) (cdv : Value) (A : Around) (outer : List Env) (s : Shared) (H : Hp) (vs : List V) (Q : VK) (E : XK), Room k (A.deeper (envOfC x (defScope st) s.heap.objs.size f cdv)) → sp vs H Q E →
      ∃ t, PSs (cxOf L2.CX0 P w K mg base N x (defScope st) f cdv A outer s H E).nox (defBody st) t ∧ t { nx := fun _ H' => Q .non H', rt := Q } (start N vs) H) : Cal P w K mg base (k + 1) x sp [] := by
  obtain ⟨f, fd, F, m, b⟩ := D.ex
  exact ⟨f, fd, ps, [], F.ok S len (hbody f), m, F.kp, .all b, .nil⟩
/-- the law's own def, for the end -/
theorem law_fn {P : Program} {w : World} {K : PySem.W.Frag} {mg : Str → Option Value} {x p : Str} {st : Stmt} {N : List Str} {k : Nat} {sp : Sp} {fa : Addr} (D : DefX K mg x st [p]) (hfa : mg x = some (.ref fa)) (S : FnScope N [p] (defScope st)) (len : ∀ vs H Q E, sp vs H Q E → vs.length = 1)
    (hbody : ∀ (base : Heap) (f : Addr) (cdv : Value) (A : Around) (outer : List Env) (s : Shared) (H : Hp) (vs : List V) (Q : VK) (E : XK), Room k (A.deeper (envOfC x (defScope st) s.heap.objs.size f cdv)) → sp vs H Q E →
      ∃ t, PSs (cxOf L2.CX0 P w K mg base N x (defScope st) f cdv A outer s H E).nox (defBody st) t ∧ t { nx := fun _ H' => Q .non H', rt := Q } (start N vs) H) :
    ∃ fd : FuncData, (∀ (s : Shared) (v : Value), BindsTo s fd ⟨[v], []⟩ [(p, v)]) ∧ ∀ base : Heap, K.In base → base.Ns mainGlobals mg → FnOk P w K mg base L2.CX0 (k + 1) fa fd [p] sp := by
  obtain ⟨f, fd, F, m, b⟩ := D.ex
  have e := hfa.symm.trans m
  cases e
  exact ⟨fd, fun s v => .of_eq (b [v] rfl), fun base _ _ => F.ok S len (hbody base fa)⟩
theorem cut_to (xs : List V) (n : Nat) : cutV xs none (some (n : Int)) = xs.take n := by
  unfold cutV
  rw [HT.sIx_none, HT.sIx_nat, List.drop_zero, Nat.sub_zero]
  by_cases h : n ≤ xs.length
  · rw [Nat.min_eq_left h]
  · rw [Nat.min_eq_right (by omega), List.take_length, List.take_of_length_le (by omega)]
theorem cut_from (xs : List V) (n : Nat) : cutV xs (some (n : Int)) none = xs.drop n := by
  unfold cutV
  rw [HT.sIx_none, HT.sIx_nat]
  by_cases h : n ≤ xs.length
  · rw [Nat.min_eq_left h, List.take_of_length_le (by rw [List.length_drop]; omega)]
  · rw [Nat.min_eq_right (by omega), List.drop_length, List.drop_eq_nil_of_le (by omega), List.take_nil]
theorem cut_mid {xs : List V} {n m : Nat} (h : n ≤ m) (hm : m ≤ xs.length) : cutV xs (some (n : Int)) (some (m : Int)) = (xs.drop n).take (m - n) := by
  unfold cutV
  rw [HT.sIx_nat, HT.sIx_nat, Nat.min_eq_left hm, Nat.min_eq_left (show n ≤ xs.length by omega)]
theorem take63 {ns : List Int} (h : ns.length ≤ 63) : cutV (ns.map V.int) none (some 63) = ns.map V.int := by
  rw [show (63 : Int) = ((63 : Nat) : Int) from rfl, cut_to, List.take_of_length_le (by rw [List.length_map]; exact h)]
theorem small {n : Nat} (h : n ≤ 1000) : n ≤ sizeLine := Nat.le_of_lt (small1000 h)
theorem same_upd {H : Hp} {p : Addr} {o : HO} (h : H p = none) : Same H (upd H p o) := fun b x e => by
  rw [upd_ne (ne_of_none e h)]
  exact e

/-! ### classes -/
structure MetX (K : PySem.W.Frag) (C : Addr) (m qual : Str) (st : Stmt) (ps : List Str) : Prop where
  ex : ∃ (f : Addr) (fd : FuncData), L2.Fun K m qual st f fd ∧ Meth K C m f ∧ ∀ us : List Value, us.length = ps.length → bindArgs fd ⟨us, []⟩ = pure (ps.zip us)
structure MakX (K : PySem.W.Frag) (C : Addr) (qual : Str) (st : Stmt) (ps : List Str) : Prop where
  ex : ∃ (f : Addr) (fd : FuncData), L2.Fun K "__init__" qual st f fd ∧ Mk K C f ∧ ∀ us : List Value, us.length = ps.length → bindArgs fd ⟨us, []⟩ = pure (ps.zip us)
theorem met_of {P : Program} {w : World} {K : PySem.W.Frag} {mg : Str → Option Value} {base : Heap} {C : Addr} {m qual : Str} {st : Stmt} {N ps : List Str} {k : Nat} {sp : Sp} (c : Cls K C) (D : MetX K C m qual st ps) (S : FnScope N ps (defScope st)) (len : ∀ vs H Q E, sp vs H Q E → vs.length = ps.length)
    (hbody : ∀ (f : Addr) (cdv : Value) (A : Around) (outer : List Env) (s : Shared) (H : Hp) (vs : List V) (Q : VK) (E : XK), Room k (A.deeper (envOfC qual (defScope st) s.heap.objs.size f cdv)) → sp vs H Q E →
      ∃ t, PSs (cxOf L2.CX0 P w K mg base N qual (defScope st) f cdv A outer s H E).nox (defBody st) t ∧ t { nx := fun _ H' => Q .non H', rt := Q } (start N vs) H) : Met P w K mg base (k + 1) C m sp [] := by
  obtain ⟨f, fd, F, me, b⟩ := D.ex
  exact ⟨f, fd, ps, [], c, me, F.ok S len (hbody f), .all b, .nil⟩
theorem mak_of {P : Program} {w : World} {K : PySem.W.Frag} {mg : Str → Option Value} {base : Heap} {C : Addr} {x qual : Str} {st : Stmt} {N ps : List Str} {k : Nat} {sp : Sp} (hm : mg x = some (.ref C)) (D : MakX K C qual st ps) (S : FnScope N ps (defScope st)) (len : ∀ vs H Q E, sp vs H Q E → vs.length = ps.length)
    (hbody : ∀ (f : Addr) (cdv : Value) (A : Around) (outer : List Env) (s : Shared) (H : Hp) (vs : List V) (Q : VK) (E : XK), Room k (A.deeper (envOfC qual (defScope st) s.heap.objs.size f cdv)) → sp vs H Q E →
      ∃ t, PSs (cxOf L2.CX0 P w K mg base N qual (defScope st) f cdv A outer s H E).nox (defBody st) t ∧ t { nx := fun _ H' => Q .non H', rt := Q } (start N vs) H) : Mak P w K mg base (k + 1) x C sp [] := by
  obtain ⟨f, fd, F, M, b⟩ := D.ex
  exact ⟨f, fd, ps, [], M, F.ok S len (hbody f), hm, .all b, .nil⟩

/-! ### heaps that grow -/
/-- all that was tracked is as it was, but dicts keyed by tuples may have got more -/
structure Ext (H H' : Hp) : Prop where
  keep : ∀ a o, H a = some o → (∀ kvs, o ≠ .dT kvs) → H' a = some o
  grow : ∀ a kvs, H a = some (.dT kvs) → ∃ more, H' a = some (.dT (kvs ++ more))
theorem Ext.of_same {H H' : Hp} (h : Same H H') : Ext H H' := ⟨fun a o e _ => h a o e, fun a kvs e => ⟨[], by rw [List.append_nil]; exact h a _ e⟩⟩
theorem Ext.refl (H : Hp) : Ext H H := .of_same (Same.refl H)
theorem Ext.trans {H H1 H2 : Hp} (a : Ext H H1) (b : Ext H1 H2) : Ext H H2 := by
  refine ⟨fun x o e n => b.keep x o (a.keep x o e n) n, fun x kvs e => ?_⟩
  obtain ⟨m1, e1⟩ := a.grow x kvs e
  obtain ⟨m2, e2⟩ := b.grow x _ e1
  exact ⟨m1 ++ m2, by rw [e2, List.append_assoc]⟩
theorem Ext.new {H : Hp} {p : Addr} {o : HO} (h : H p = none) : Ext H (upd H p o) := .of_same (same_upd h)
theorem Ext.mut {H H' : Hp} {p : Addr} {o : HO} (e : Ext H H') (h : H p = none) : Ext H (upd H' p o) := by
  refine ⟨fun a u ha n => ?_, fun a kvs ha => ?_⟩
  · rw [upd_ne (ne_of_none ha h)]
    exact e.keep a u ha n
  · rw [upd_ne (ne_of_none ha h)]
    exact e.grow a kvs ha
theorem Ext.free {H H' : Hp} {p : Addr} (e : Ext H H') (h : H' p = none) : H p = none := by
  cases q : H p with
  | none => rfl
  | some o =>
    by_cases n : ∃ kvs, o = .dT kvs
    · obtain ⟨kvs, rfl⟩ := n
      obtain ⟨m, e1⟩ := e.grow p kvs q
      rw [e1] at h
      cases h
    · rw [e.keep p o q fun kvs z => n ⟨kvs, z⟩] at h
      cases h
theorem Ext.lst {H H' : Hp} {a : Addr} {xs : List V} (e : Ext H H') (h : H a = some (.lst xs)) : H' a = some (.lst xs) := e.keep _ _ h fun _ z => nomatch z
theorem Ext.tup {H H' : Hp} {a : Addr} {xs : List V} (e : Ext H H') (h : H a = some (.tup xs)) : H' a = some (.tup xs) := e.keep _ _ h fun _ z => nomatch z
theorem Ext.ins {H H' : Hp} {a C dx : Addr} {fs : List (Str × V)} (e : Ext H H') (h : H a = some (.ins C dx fs)) : H' a = some (.ins C dx fs) := e.keep _ _ h fun _ z => nomatch z
theorem Ext.dK {H H' : Hp} {a : Addr} {kvs : List (Key × V)} (e : Ext H H') (h : H a = some (.dK kvs)) : H' a = some (.dK kvs) := e.keep _ _ h fun _ z => nomatch z
theorem Ext.frz {H H' : Hp} {a : Addr} {o : Obj} {u : HO} (e : Ext H H') (h : H a = some (.frz o u)) : H' a = some (.frz o u) := e.keep _ _ h fun _ z => nomatch z
theorem Ext.seq {K : PySem.W.Frag} {H H' : Hp} {a : Addr} {xs : List V} (e : Ext H H') (h : SqL K H a xs) : SqL K H' a xs := by
  rcases h with (h | ⟨o, h⟩) | h
  · exact .inl (.inl (e.lst h))
  · exact .inl (.inr ⟨o, e.frz h⟩)
  · exact .inr h
theorem Ext.seqT {K : PySem.W.Frag} {H H' : Hp} {a : Addr} {xs : List V} (e : Ext H H') (h : SqT K H a xs) : SqT K H' a xs := by
  rcases h with (h | ⟨o, h⟩) | h
  · exact .inl (.inl (e.tup h))
  · exact .inl (.inr ⟨o, e.frz h⟩)
  · exact .inr h
/-- what the telling of a thing leans on: it is never changed, but dicts keyed by tuples -/
def stat : HO → Prop
  | .lst _ | .dK _ | .ins _ _ _ | .set _ _ | .xd _ => False
  | _ => True
def Kp (H H' : Hp) : Prop := ∀ a o, H a = some o → stat o → H' a = some o
structure Gr (H H' : Hp) : Prop where
  keep : ∀ a o, H a = some o → stat o → (∀ kvs, o ≠ .dT kvs) → H' a = some o
  grow : ∀ a kvs, H a = some (.dT kvs) → ∃ more, H' a = some (.dT (kvs ++ more))
theorem Ext.gr {H H' : Hp} (e : Ext H H') : Gr H H' := ⟨fun a o h _ n => e.keep a o h n, e.grow⟩
theorem Kp.gr {H H' : Hp} (e : Kp H H') : Gr H H' := ⟨fun a o h s _ => e a o h s, fun a kvs h => ⟨[], by rw [List.append_nil]; exact e a _ h True.intro⟩⟩
theorem Kp.refl (H : Hp) : Kp H H := fun _ _ h _ => h
theorem Kp.trans {H H1 H2 : Hp} (a : Kp H H1) (b : Kp H1 H2) : Kp H H2 := fun c o h s => b c o (a c o h s) s
theorem Gr.refl (H : Hp) : Gr H H := (Kp.refl H).gr
theorem Gr.trans {H H1 H2 : Hp} (a : Gr H H1) (b : Gr H1 H2) : Gr H H2 := by
  refine ⟨fun x o e s n => b.keep x o (a.keep x o e s n) s n, fun x kvs e => ?_⟩
  obtain ⟨m1, e1⟩ := a.grow x kvs e
  obtain ⟨m2, e2⟩ := b.grow x _ e1
  exact ⟨m1 ++ m2, by rw [e2, List.append_assoc]⟩
theorem Kp.new {H : Hp} {p : Addr} {o : HO} (h : H p = none) : Kp H (upd H p o) := fun a u e _ => by
  rw [upd_ne (ne_of_none e h)]
  exact e
theorem Kp.lst {H : Hp} {p : Addr} {o : HO} {xs : List V} (h : H p = some (.lst xs)) : Kp H (upd H p o) := fun a u e s => by
  by_cases q : a = p
  · subst q
    rw [h] at e
    cases e
    exact s.elim
  · rw [upd_ne q]
    exact e
theorem Kp.ins {H : Hp} {p C dx : Addr} {o : HO} {fs : List (Str × V)} (h : H p = some (.ins C dx fs)) : Kp H (upd H p o) := fun a u e s => by
  by_cases q : a = p
  · subst q
    rw [h] at e
    cases e
    exact s.elim
  · rw [upd_ne q]
    exact e
theorem Kp.dK {H : Hp} {p : Addr} {o : HO} {kvs : List (Key × V)} (h : H p = some (.dK kvs)) : Kp H (upd H p o) := fun a u e s => by
  by_cases q : a = p
  · subst q
    rw [h] at e
    cases e
    exact s.elim
  · rw [upd_ne q]
    exact e
/-! ### free terms, and seals -/
inductive Tm where
  | int (i : Int)
  | str (x : Str)
  | sl (m : Str) (a b : Tm)
  deriving DecidableEq
def Tm.dep : Tm → Nat
  | .int _ | .str _ => 0
  | .sl _ a b => max a.dep b.dep + 1
abbrev txtOk (x : Str) : Bool := PySem.PyData.strOk x
/-- a seal: its function, what its values tell, its state (so many more things may be told) -/
structure Sys where
  f : Addr
  den : Hp → V → Tm → Prop
  ok : Hp → Nat → Prop
structure Sys.Good (K : PySem.W.Frag) (S : Sys) : Prop where
  mono : ∀ {H H' : Hp} {v : V} {t : Tm}, Gr H H' → S.den H v t → S.den H' v t
  keep : ∀ {H H' : Hp} {r : Nat}, Kp H H' → S.ok H r → S.ok H' r
  less : ∀ {H : Hp} {r r' : Nat}, S.ok H r → r' ≤ r → S.ok H r'
  int : ∀ {H : Hp} {r : Nat} (i : Int), S.ok H r → S.den H (.int i) (.int i)
  str : ∀ {H : Hp} {r : Nat} (x : Str), S.ok H r → txtOk x = true → S.den H (.str x) (.str x)
  same : ∀ {H : Hp} {v v' : V} {t : Tm}, S.den H v t → S.den H v' t → ∃ d, Dp K H v d ∧ Dp K H v' d ∧ d.canLay0 = true ∧ d.depth ≤ t.dep
def spSl (S : Sys) : Sp := fun vs H Q _ => ∃ (r : Nat) (m : Str) (a b : Tm) (va vb : V), vs = [.str m, va, vb] ∧ txtOk m = true ∧ S.ok H (r + 1) ∧ S.den H va a ∧ S.den H vb b ∧
  ∀ v H', Ext H H' → S.ok H' r → S.den H' v (.sl m a b) → Q v H'
structure HeldSl (P : Program) (w : World) (K : PySem.W.Frag) (mg : Str → Option Value) (base : Heap) (k : Nat) (S : Sys) : Prop where
  at_ : ∀ (H : Hp) (h : Heap) (r : Nat), K.In h → HOk P w H h → S.ok H r → PySem.W.FnAt S.f h
  run : ∀ (A : Around) (outer : List Env) (s : Shared) (H : Hp) (us : List Value) (vs : List V) (Q : VK) (E : XK), Room k A → Env0 P w K mg base A outer s H → Vals vs us → spSl S vs H Q E →
    codeAny (model P w) A (.call (.ref S.f) ⟨us, []⟩) (CR L2.CX0 outer P w H s Q E) s
/-- of a family of seals: each is good, and its calls keep the promise -/
structure SlA (P : Program) (w : World) (K : PySem.W.Frag) (mg : Str → Option Value) (base : Heap) (Fam : Sys → Prop) : Prop where
  good : ∀ {S : Sys}, Fam S → S.Good K
  held : ∀ S, Fam S → HeldSl P w K mg base 1 S
/-- x(..), x a name that holds a seal -/
def tSl (Fam : Sys → Prop) (i : Nat) (t : TA) : TE := fun σ H Q => ∃ (S : Sys) (r : Nat), Fam S ∧ σ[i]? = some (some (.ref S.f)) ∧ S.ok H r ∧ t σ H fun vs H1 => spSl S vs H1 Q L2.E0
section
variable {X : Cx} {i j k : Nat} {x : Str} {p pos : Pos} {e : Expr} {es : List Expr} {t : TA} {Fam : Sys → Prop}
theorem pe_sl (A : ∀ S, Fam S → HeldSl X.prog X.w X.K X.mg X.base k S) (hr : Room j X.A) (hk : k ≤ j) (hN : X.N[i]? = some x) (hv : Vis X.env.scope x) (ha : PA X (e :: es) t)
    (hdb : (x == ("__debug__" : Str)) = false := by decide) (hcd : (x == ("__classdict__" : Str)) = false := by decide)
    (he : starEach (e :: es) X.env = (false, eval e X.env) :: starEach es X.env := by rfl) (hpl : (backTo pos (starEach es X.env)).any (·.1) = false := by rfl) : PE X (.Call (.Name x p) (e :: es) [] pos) (tSl Fam i t) := by
  refine ⟨fun pins s σ H Q I h => ?_⟩
  obtain ⟨S, r, hS, hs, hok, ht⟩ := h
  refine wpAny_Call_Name_kw (thn ((pe_var (pos := p) hN hv hdb hcd).run pins s σ H (fun v H1 => v = .ref S.f ∧ H1 = H) I ⟨.ref S.f, hs, rfl, rfl⟩) fun u s1 ⟨v, H1, I1, r1, q1⟩ => ?_)
  obtain ⟨rfl, rfl⟩ := q1
  cases r1
  refine PySem.W.callWith_F ((A S hS).at_ _ _ _ I1.kIn I1.hok hok) (thn (ha.run pos pins s1 σ _ _ I1 ht) fun us s2 ⟨vs, H2, I2, rv, q⟩ => ?_) he hpl
  obtain ⟨r', m, a, b, va, vb, e1, e2, e3, q'⟩ := id q
  refine ⟨(A S hS).at_ _ _ _ I2.kIn I2.hok e3, ?_⟩
  refine wpAny_call (codeAny_mono ((A S hS).run X.A X.stack s2 H2 us vs Q L2.E0 (hr.mono hk) I2.env0 rv q) fun r s' hq => ?_)
  cases r with
  | error e => exact False.elim hq
  | ok fl =>
    cases fl with
    | ret u => exact I2.after hq
    | next => exact False.elim hq
    | brk => exact False.elim hq
    | cont => exact False.elim hq
end
/-! ### rows of told things -/
structure DenL (S : Sys) (H : Hp) (vs : List V) (ts : List Tm) : Prop where
  len : vs.length = ts.length
  at_ : ∀ (i : Nat) (v : V) (t : Tm), vs[i]? = some v → ts[i]? = some t → S.den H v t
section
variable {S : Sys} {K : PySem.W.Frag} {H H' : Hp} {vs us : List V} {ts rs : List Tm}
theorem DenL.mono (G : S.Good K) (e : Gr H H') (h : DenL S H vs ts) : DenL S H' vs ts := ⟨h.len, fun i v t a b => G.mono e (h.at_ i v t a b)⟩
theorem DenL.nil : DenL S H [] [] := ⟨rfl, fun i v t a _ => by simp at a⟩
theorem DenL.append (h : DenL S H vs ts) (h' : DenL S H us rs) : DenL S H (vs ++ us) (ts ++ rs) := by
  refine ⟨by rw [List.length_append, List.length_append, h.len, h'.len], fun i v t a b => ?_⟩
  have hl := h.len
  by_cases q : i < vs.length
  · rw [List.getElem?_append_left q] at a
    rw [List.getElem?_append_left (by omega)] at b
    exact h.at_ i v t a b
  · rw [List.getElem?_append_right (by omega)] at a b
    rw [← hl] at b
    exact h'.at_ _ v t a b
theorem DenL.one {v : V} {t : Tm} (h : S.den H v t) : DenL S H [v] [t] := by
  refine ⟨rfl, fun i u r a b => ?_⟩
  cases i with
  | zero =>
    cases a
    cases b
    exact h
  | succ i => simp at a
theorem DenL.cons {v : V} {t : Tm} (h : S.den H v t) (h' : DenL S H vs ts) : DenL S H (v :: vs) (t :: ts) := (DenL.one h).append h'
theorem DenL.take (n : Nat) (h : DenL S H vs ts) : DenL S H (vs.take n) (ts.take n) := by
  refine ⟨by rw [List.length_take, List.length_take, h.len], fun i v t a b => ?_⟩
  rw [List.getElem?_take] at a b
  split at a
  · rename_i q
    rw [if_pos q] at b
    exact h.at_ i v t a b
  · cases a
theorem DenL.drop (n : Nat) (h : DenL S H vs ts) : DenL S H (vs.drop n) (ts.drop n) := by
  refine ⟨by rw [List.length_drop, List.length_drop, h.len], fun i v t a b => ?_⟩
  rw [List.getElem?_drop] at a b
  exact h.at_ _ v t a b
theorem DenL.get (h : DenL S H vs ts) {i : Nat} (hi : i < ts.length) : ∃ v, vs[i]? = some v ∧ S.den H v ts[i] := by
  have hl := h.len
  have hv : i < vs.length := by omega
  exact ⟨vs[i], List.getElem?_eq_getElem hv, h.at_ i _ _ (List.getElem?_eq_getElem hv) (List.getElem?_eq_getElem hi)⟩
/-- the same row told twice -/
theorem DenL.same (G : S.Good K) {n : Nat} : ∀ {vs us : List V} {ts : List Tm}, DenL S H vs ts → DenL S H us ts → (∀ t ∈ ts, t.dep ≤ n) → ∃ ds, DpAll K H vs ds ∧ DpAll K H us ds ∧ PyData.canLayAll0 ds = true ∧ PyData.depthAll ds ≤ n
  | vs, us, [], h, h', _ => by
    have e1 : vs = [] := List.eq_nil_of_length_eq_zero h.len
    have e2 : us = [] := List.eq_nil_of_length_eq_zero h'.len
    subst e1
    subst e2
    exact ⟨[], .nil, .nil, rfl, Nat.zero_le _⟩
  | [], us, t :: ts, h, _, _ => absurd h.len (by simp)
  | v :: vs, [], t :: ts, _, h, _ => absurd h.len (by simp)
  | v :: vs, u :: us, t :: ts, h, h', hd => by
    obtain ⟨d, a1, a2, a3, a4⟩ := G.same (h.at_ 0 v t rfl rfl) (h'.at_ 0 u t rfl rfl)
    have t1 : DenL S H vs ts := h.drop 1
    have t2 : DenL S H us ts := h'.drop 1
    obtain ⟨ds, b1, b2, b3, b4⟩ := DenL.same G t1 t2 fun x hx => hd x (List.mem_cons_of_mem _ hx)
    refine ⟨d :: ds, .cons a1 b1, .cons a2 b2, ?_, ?_⟩
    · rw [PyData.canLayAll0, a3, b3]
      rfl
    · have := hd t List.mem_cons_self
      show max d.depth (PyData.depthAll ds) ≤ n
      omega
end

structure Zs (mg : Str → Option Value) : Prop where
  len : mg "len" = none
  isinstance : mg "isinstance" = none
  int : mg "int" = none
  bool : mg "bool" = none
  list : mg "list" = none
  range : mg "range" = none
  tuple : mg "tuple" = none
  reversed : mg "reversed" = none
  min : mg "min" = none
  max : mg "max" = none
structure K_Grows (K : PySem.W.Frag) (mg : Str → Option Value) (C : Addr) : Prop where
  mgC : mg "Grows" = some (.ref C)
  cl : Cls K C
  n_old : NoAttr K C "old"
  n_before : NoAttr K C "before"
  ia_ : PySem.W.findIn K (.ref C) "__class__" = some (some (.builtin "object.__class__"))
  in_ : PySem.W.specialIn K (.builtin "object.__class__") "__get__" = some (some (.builtin "getset_descriptor.__get__"))
  it_ : PySem.W.takesIn K (.builtin "object.__class__") = some true
  im_ : PySem.W.mroIn K C (.type "object") = some true
  made : MakX K C "Grows.__init__" s_Grows___init__ ["self", "old", "head"]
  m_shown : MetX K C "shown" "Grows.shown" s_Grows_shown ["self", "seal", "size", "head", "paper"]
  m_judged : MetX K C "judged" "Claim.judged" s_Claim_judged ["self", "seal", "size", "head", "paper"]
structure K_Follower (K : PySem.W.Frag) (mg : Str → Option Value) (C : Addr) : Prop where
  mgC : mg "Follower" = some (.ref C)
  cl : Cls K C
  n_seal : NoAttr K C "seal"
  n_count : NoAttr K C "count"
  n_newest : NoAttr K C "newest"
  ia_ : PySem.W.findIn K (.ref C) "__class__" = some (some (.builtin "object.__class__"))
  in_ : PySem.W.specialIn K (.builtin "object.__class__") "__get__" = some (some (.builtin "getset_descriptor.__get__"))
  it_ : PySem.W.takesIn K (.builtin "object.__class__") = some true
  im_ : PySem.W.mroIn K C (.type "object") = some true
  made : MakX K C "Follower.__init__" s_Follower___init__ ["self", "seal"]
  m_size : MetX K C "size" "Follower.size" s_Follower_size ["self"]
  m_head : MetX K C "head" "Follower.head" s_Follower_head ["self"]
  m_take : MetX K C "take" "Follower.take" s_Follower_take ["self", "size", "head", "paper"]
  m_judge : MetX K C "judge" "Follower.judge" s_Follower_judge ["self", "claim", "paper"]
structure Txt (K : PySem.W.Frag) (mg : Str → Option Value) (cc : Addr) : Prop where
  d_split : DefX K mg "split" s_split ["size"]
  d_none_seal : DefX K mg "none_seal" s_none_seal ["seal"]
  d_pair_seal : DefX K mg "pair_seal" s_pair_seal ["seal", "left", "right"]
  d_book_seal : DefX K mg "book_seal" s_book_seal ["seal", "size", "top"]
  d_top_of : DefX K mg "top_of" s_top_of ["seal", "leaves"]
  d_growth_of : DefX K mg "growth_of" s_growth_of ["seal", "leaves", "old"]
  d_last_of : DefX K mg "last_of" s_last_of ["paper"]
  d_regrown : DefX K mg "regrown" s_regrown ["seal", "old", "size", "paper"]
  d__law_cell_at : DefX K mg "_law_cell_at" s__law_cell_at ["_law_script", "_law_k"]
  d__law_plain : DefX K mg "_law_plain" s__law_plain ["_law_mark", "_law_one_here", "_law_two"]
  d__law_turned : DefX K mg "_law_turned" s__law_turned ["_law_mark", "_law_one_here", "_law_two"]
  m__law_numbering : DefM K mg "_law_numbering" s__law_numbering cc
  d__law_seal_by : DefX K mg "_law_seal_by" s__law_seal_by ["_law_script"]
  d__law_split : DefX K mg "_law_split" s__law_split ["_law_size"]
  d__law_top : DefX K mg "_law_top" s__law_top ["_law_seal", "_law_leaves"]
  d__law_growth : DefX K mg "_law_growth" s__law_growth ["_law_seal", "_law_leaves", "_law_old"]
  d__law_draw : DefX K mg "_law_draw" s__law_draw ["_law_cell", "_law_k", "_law_many"]
  d__law_word : DefX K mg "_law_word" s__law_word ["_law_cell"]
  d__law_bent : DefX K mg "_law_bent" s__law_bent ["_law_seal", "_law_paper", "_law_bend", "_law_other"]
  d__law_head : DefX K mg "_law_head" s__law_head ["_law_seal", "_law_leaves", "_law_size"]
  d__law_one : DefX K mg "_law_one" s__law_one ["_law_seal", "_law_cell", "_law_leaves", "_law_others"]
  d_law : DefX K mg "law" s_law ["_law_script"]
  x_BadPaper : ExcX K mg "BadPaper"
  g_Claim : ∃ C, mg "Claim" = some (.ref C)
  k_Grows : ∃ C, K_Grows K mg C
  k_Follower : ∃ C, K_Follower K mg C
  q_Grows_Claim : ∀ C D, mg "Grows" = some (.ref C) → mg "Claim" = some (.ref D) → PySem.W.kitOne K (.ref C) (.ref D) = some true
  Z : Zs mg
theorem txt_mk {K : PySem.W.Frag} {h : Heap} {mg : Str → Option Value} (X : K.In h) (G : h.Ns mainGlobals mg) {cc f0 f1 f2 f3 f4 f5 f6 f7 f8 f9 f10 f11 f12 f13 f14 f15 f16 f17 f18 f19 f20 f21 C_BadPaper C_Claim C_Grows C_Follower fGrows0 fGrows1 fGrows2 fFollower0 fFollower1 fFollower2 fFollower3 fFollower4 : Addr} {od0 an0 od1 an1 od2 an2 od3 an3 od4 an4 od5 an5 od6 an6 od7 an7 od8 an8 od9 an9 od10 an10 od11 an11 od12 an12 od13 an13 od14 an14 od15 an15 od16 an16 od17 an17 od18 an18 od19 an19 od20 an20 od21 an21 odGrows0 anGrows0 odGrows1 anGrows1 odGrows2 anGrows2 odFollower0 anFollower0 odFollower1 anFollower1 odFollower2 anFollower2 odFollower3 anFollower3 odFollower4 anFollower4 : Option Addr} {sl0 sl1 sl2 sl3 sl4 sl5 sl6 sl7 sl8 sl9 sl10 sl11 sl12 sl13 sl14 sl15 sl16 sl17 sl18 sl19 sl20 sl21 slGrows0 slGrows1 slGrows2 slFollower0 slFollower1 slFollower2 slFollower3 slFollower4 : Array (Option Value)} {oc0 kV0 dc0 pm0 cd0 ct0 oc1 kV1 dc1 pm1 cd1 ct1 oc2 kV2 dc2 pm2 cd2 ct2 oc3 kV3 dc3 pm3 cd3 ct3 oc4 kV4 dc4 pm4 cd4 ct4 oc5 kV5 dc5 pm5 cd5 ct5 oc6 kV6 dc6 pm6 cd6 ct6 oc7 kV7 dc7 pm7 cd7 ct7 oc8 kV8 dc8 pm8 cd8 ct8 oc9 kV9 dc9 pm9 cd9 ct9 oc10 kV10 dc10 pm10 cd10 ct10 oc11 kV11 dc11 pm11 ct11 oc12 kV12 dc12 pm12 cd12 ct12 oc13 kV13 dc13 pm13 cd13 ct13 oc14 kV14 dc14 pm14 cd14 ct14 oc15 kV15 dc15 pm15 cd15 ct15 oc16 kV16 dc16 pm16 cd16 ct16 oc17 kV17 dc17 pm17 cd17 ct17 oc18 kV18 dc18 pm18 cd18 ct18 oc19 kV19 dc19 pm19 cd19 ct19 oc20 kV20 dc20 pm20 cd20 ct20 oc21 kV21 dc21 pm21 cd21 ct21 ocGrows0 kVGrows0 dcGrows0 pmGrows0 cdGrows0 ctGrows0 ocGrows1 kVGrows1 dcGrows1 pmGrows1 cdGrows1 ctGrows1 ocGrows2 kVGrows2 dcGrows2 pmGrows2 cdGrows2 ctGrows2 ocFollower0 kVFollower0 dcFollower0 pmFollower0 cdFollower0 ctFollower0 ocFollower1 kVFollower1 dcFollower1 pmFollower1 cdFollower1 ctFollower1 ocFollower2 kVFollower2 dcFollower2 pmFollower2 cdFollower2 ctFollower2 ocFollower3 kVFollower3 dcFollower3 pmFollower3 cdFollower3 ctFollower3 ocFollower4 kVFollower4 dcFollower4 pmFollower4 cdFollower4 ctFollower4 : Value}
    (a0 : PySem.W.nsIn K mainGlobals "split" = some (some (.ref f0))) (l0 : K.lookup f0 = some ⟨oc0, od0, .func (PySem.W.fnOf "split" "split" (defArgs s_split) (defBody s_split) (defScope s_split) .none kV0 dc0 pm0 an0 cd0 ct0), sl0⟩) (c0 : PySem.W.codeIn K cd0 "split" = true) (k0 : PySem.W.keepIn K (.ref f0) = true)
    (a1 : PySem.W.nsIn K mainGlobals "none_seal" = some (some (.ref f1))) (l1 : K.lookup f1 = some ⟨oc1, od1, .func (PySem.W.fnOf "none_seal" "none_seal" (defArgs s_none_seal) (defBody s_none_seal) (defScope s_none_seal) .none kV1 dc1 pm1 an1 cd1 ct1), sl1⟩) (c1 : PySem.W.codeIn K cd1 "none_seal" = true) (k1 : PySem.W.keepIn K (.ref f1) = true)
    (a2 : PySem.W.nsIn K mainGlobals "pair_seal" = some (some (.ref f2))) (l2 : K.lookup f2 = some ⟨oc2, od2, .func (PySem.W.fnOf "pair_seal" "pair_seal" (defArgs s_pair_seal) (defBody s_pair_seal) (defScope s_pair_seal) .none kV2 dc2 pm2 an2 cd2 ct2), sl2⟩) (c2 : PySem.W.codeIn K cd2 "pair_seal" = true) (k2 : PySem.W.keepIn K (.ref f2) = true)
    (a3 : PySem.W.nsIn K mainGlobals "book_seal" = some (some (.ref f3))) (l3 : K.lookup f3 = some ⟨oc3, od3, .func (PySem.W.fnOf "book_seal" "book_seal" (defArgs s_book_seal) (defBody s_book_seal) (defScope s_book_seal) .none kV3 dc3 pm3 an3 cd3 ct3), sl3⟩) (c3 : PySem.W.codeIn K cd3 "book_seal" = true) (k3 : PySem.W.keepIn K (.ref f3) = true)
    (a4 : PySem.W.nsIn K mainGlobals "top_of" = some (some (.ref f4))) (l4 : K.lookup f4 = some ⟨oc4, od4, .func (PySem.W.fnOf "top_of" "top_of" (defArgs s_top_of) (defBody s_top_of) (defScope s_top_of) .none kV4 dc4 pm4 an4 cd4 ct4), sl4⟩) (c4 : PySem.W.codeIn K cd4 "top_of" = true) (k4 : PySem.W.keepIn K (.ref f4) = true)
    (a5 : PySem.W.nsIn K mainGlobals "growth_of" = some (some (.ref f5))) (l5 : K.lookup f5 = some ⟨oc5, od5, .func (PySem.W.fnOf "growth_of" "growth_of" (defArgs s_growth_of) (defBody s_growth_of) (defScope s_growth_of) .none kV5 dc5 pm5 an5 cd5 ct5), sl5⟩) (c5 : PySem.W.codeIn K cd5 "growth_of" = true) (k5 : PySem.W.keepIn K (.ref f5) = true)
    (a6 : PySem.W.nsIn K mainGlobals "last_of" = some (some (.ref f6))) (l6 : K.lookup f6 = some ⟨oc6, od6, .func (PySem.W.fnOf "last_of" "last_of" (defArgs s_last_of) (defBody s_last_of) (defScope s_last_of) .none kV6 dc6 pm6 an6 cd6 ct6), sl6⟩) (c6 : PySem.W.codeIn K cd6 "last_of" = true) (k6 : PySem.W.keepIn K (.ref f6) = true)
    (a7 : PySem.W.nsIn K mainGlobals "regrown" = some (some (.ref f7))) (l7 : K.lookup f7 = some ⟨oc7, od7, .func (PySem.W.fnOf "regrown" "regrown" (defArgs s_regrown) (defBody s_regrown) (defScope s_regrown) .none kV7 dc7 pm7 an7 cd7 ct7), sl7⟩) (c7 : PySem.W.codeIn K cd7 "regrown" = true) (k7 : PySem.W.keepIn K (.ref f7) = true)
    (a8 : PySem.W.nsIn K mainGlobals "_law_cell_at" = some (some (.ref f8))) (l8 : K.lookup f8 = some ⟨oc8, od8, .func (PySem.W.fnOf "_law_cell_at" "_law_cell_at" (defArgs s__law_cell_at) (defBody s__law_cell_at) (defScope s__law_cell_at) .none kV8 dc8 pm8 an8 cd8 ct8), sl8⟩) (c8 : PySem.W.codeIn K cd8 "_law_cell_at" = true) (k8 : PySem.W.keepIn K (.ref f8) = true)
    (a9 : PySem.W.nsIn K mainGlobals "_law_plain" = some (some (.ref f9))) (l9 : K.lookup f9 = some ⟨oc9, od9, .func (PySem.W.fnOf "_law_plain" "_law_plain" (defArgs s__law_plain) (defBody s__law_plain) (defScope s__law_plain) .none kV9 dc9 pm9 an9 cd9 ct9), sl9⟩) (c9 : PySem.W.codeIn K cd9 "_law_plain" = true) (k9 : PySem.W.keepIn K (.ref f9) = true)
    (a10 : PySem.W.nsIn K mainGlobals "_law_turned" = some (some (.ref f10))) (l10 : K.lookup f10 = some ⟨oc10, od10, .func (PySem.W.fnOf "_law_turned" "_law_turned" (defArgs s__law_turned) (defBody s__law_turned) (defScope s__law_turned) .none kV10 dc10 pm10 an10 cd10 ct10), sl10⟩) (c10 : PySem.W.codeIn K cd10 "_law_turned" = true) (k10 : PySem.W.keepIn K (.ref f10) = true)
    (a11 : PySem.W.nsIn K mainGlobals "_law_numbering" = some (some (.ref f11))) (l11 : K.lookup f11 = some ⟨oc11, od11, .func (PySem.W.fnOf "_law_numbering" "_law_numbering" (defArgs s__law_numbering) (defBody s__law_numbering) (defScope s__law_numbering) .none kV11 dc11 pm11 an11 (.ref cc) ct11), sl11⟩) (c11 : PySem.W.codeIn K (.ref cc) "_law_numbering" = true) (k11 : PySem.W.keepIn K (.ref f11) = true)
    (a12 : PySem.W.nsIn K mainGlobals "_law_seal_by" = some (some (.ref f12))) (l12 : K.lookup f12 = some ⟨oc12, od12, .func (PySem.W.fnOf "_law_seal_by" "_law_seal_by" (defArgs s__law_seal_by) (defBody s__law_seal_by) (defScope s__law_seal_by) .none kV12 dc12 pm12 an12 cd12 ct12), sl12⟩) (c12 : PySem.W.codeIn K cd12 "_law_seal_by" = true) (k12 : PySem.W.keepIn K (.ref f12) = true)
    (a13 : PySem.W.nsIn K mainGlobals "_law_split" = some (some (.ref f13))) (l13 : K.lookup f13 = some ⟨oc13, od13, .func (PySem.W.fnOf "_law_split" "_law_split" (defArgs s__law_split) (defBody s__law_split) (defScope s__law_split) .none kV13 dc13 pm13 an13 cd13 ct13), sl13⟩) (c13 : PySem.W.codeIn K cd13 "_law_split" = true) (k13 : PySem.W.keepIn K (.ref f13) = true)
    (a14 : PySem.W.nsIn K mainGlobals "_law_top" = some (some (.ref f14))) (l14 : K.lookup f14 = some ⟨oc14, od14, .func (PySem.W.fnOf "_law_top" "_law_top" (defArgs s__law_top) (defBody s__law_top) (defScope s__law_top) .none kV14 dc14 pm14 an14 cd14 ct14), sl14⟩) (c14 : PySem.W.codeIn K cd14 "_law_top" = true) (k14 : PySem.W.keepIn K (.ref f14) = true)
    (a15 : PySem.W.nsIn K mainGlobals "_law_growth" = some (some (.ref f15))) (l15 : K.lookup f15 = some ⟨oc15, od15, .func (PySem.W.fnOf "_law_growth" "_law_growth" (defArgs s__law_growth) (defBody s__law_growth) (defScope s__law_growth) .none kV15 dc15 pm15 an15 cd15 ct15), sl15⟩) (c15 : PySem.W.codeIn K cd15 "_law_growth" = true) (k15 : PySem.W.keepIn K (.ref f15) = true)
    (a16 : PySem.W.nsIn K mainGlobals "_law_draw" = some (some (.ref f16))) (l16 : K.lookup f16 = some ⟨oc16, od16, .func (PySem.W.fnOf "_law_draw" "_law_draw" (defArgs s__law_draw) (defBody s__law_draw) (defScope s__law_draw) .none kV16 dc16 pm16 an16 cd16 ct16), sl16⟩) (c16 : PySem.W.codeIn K cd16 "_law_draw" = true) (k16 : PySem.W.keepIn K (.ref f16) = true)
    (a17 : PySem.W.nsIn K mainGlobals "_law_word" = some (some (.ref f17))) (l17 : K.lookup f17 = some ⟨oc17, od17, .func (PySem.W.fnOf "_law_word" "_law_word" (defArgs s__law_word) (defBody s__law_word) (defScope s__law_word) .none kV17 dc17 pm17 an17 cd17 ct17), sl17⟩) (c17 : PySem.W.codeIn K cd17 "_law_word" = true) (k17 : PySem.W.keepIn K (.ref f17) = true)
    (a18 : PySem.W.nsIn K mainGlobals "_law_bent" = some (some (.ref f18))) (l18 : K.lookup f18 = some ⟨oc18, od18, .func (PySem.W.fnOf "_law_bent" "_law_bent" (defArgs s__law_bent) (defBody s__law_bent) (defScope s__law_bent) .none kV18 dc18 pm18 an18 cd18 ct18), sl18⟩) (c18 : PySem.W.codeIn K cd18 "_law_bent" = true) (k18 : PySem.W.keepIn K (.ref f18) = true)
    (a19 : PySem.W.nsIn K mainGlobals "_law_head" = some (some (.ref f19))) (l19 : K.lookup f19 = some ⟨oc19, od19, .func (PySem.W.fnOf "_law_head" "_law_head" (defArgs s__law_head) (defBody s__law_head) (defScope s__law_head) .none kV19 dc19 pm19 an19 cd19 ct19), sl19⟩) (c19 : PySem.W.codeIn K cd19 "_law_head" = true) (k19 : PySem.W.keepIn K (.ref f19) = true)
    (a20 : PySem.W.nsIn K mainGlobals "_law_one" = some (some (.ref f20))) (l20 : K.lookup f20 = some ⟨oc20, od20, .func (PySem.W.fnOf "_law_one" "_law_one" (defArgs s__law_one) (defBody s__law_one) (defScope s__law_one) .none kV20 dc20 pm20 an20 cd20 ct20), sl20⟩) (c20 : PySem.W.codeIn K cd20 "_law_one" = true) (k20 : PySem.W.keepIn K (.ref f20) = true)
    (a21 : PySem.W.nsIn K mainGlobals "law" = some (some (.ref f21))) (l21 : K.lookup f21 = some ⟨oc21, od21, .func (PySem.W.fnOf "law" "law" (defArgs s_law) (defBody s_law) (defScope s_law) .none kV21 dc21 pm21 an21 cd21 ct21), sl21⟩) (c21 : PySem.W.codeIn K cd21 "law" = true) (k21 : PySem.W.keepIn K (.ref f21) = true)
    (z_len : PySem.W.nsIn K mainGlobals "len" = some none)
    (z_isinstance : PySem.W.nsIn K mainGlobals "isinstance" = some none)
    (z_int : PySem.W.nsIn K mainGlobals "int" = some none)
    (z_bool : PySem.W.nsIn K mainGlobals "bool" = some none)
    (z_list : PySem.W.nsIn K mainGlobals "list" = some none)
    (z_range : PySem.W.nsIn K mainGlobals "range" = some none)
    (z_tuple : PySem.W.nsIn K mainGlobals "tuple" = some none)
    (z_reversed : PySem.W.nsIn K mainGlobals "reversed" = some none)
    (z_min : PySem.W.nsIn K mainGlobals "min" = some none)
    (z_max : PySem.W.nsIn K mainGlobals "max" = some none)
    (g_BadPaper : PySem.W.nsIn K mainGlobals "BadPaper" = some (some (.ref C_BadPaper)))
    (xP_BadPaper : PySem.W.excIn K C_BadPaper [.type "ValueError", .type "Exception", .type "BaseException", .type "object"] "ValueError.__new__" = true)
    (kP_BadPaper : PySem.W.keepIn K (.ref C_BadPaper) = true)
    (bP_BadPaper : PySem.W.subIn K (.ref C_BadPaper) (.type "BaseException") = some true)
    (tP_BadPaper : PySem.W.typeIn K (.ref C_BadPaper) = some (.type "type"))
    (hg_BadPaper : PySem.W.findIn K (.ref C_BadPaper) "__getattribute__" = some (some (.builtin "BaseException.__getattribute__")))
    (hk_BadPaper : PySem.W.findIn K (.ref C_BadPaper) "__getattr__" = some none)
    (hd_BadPaper : PySem.W.hasDictIn K C_BadPaper = true)
    (ha_BadPaper : PySem.W.findIn K (.ref C_BadPaper) "__class__" = some (some (.builtin "object.__class__")))
    (hn_BadPaper : PySem.W.specialIn K (.builtin "object.__class__") "__get__" = some (some (.builtin "getset_descriptor.__get__")))
    (ht_BadPaper : PySem.W.takesIn K (.builtin "object.__class__") = some true)
    (hm_BadPaper : PySem.W.mroIn K C_BadPaper (.type "object") = some true)
    (ex_BadPaper : PySem.W.exmOne K (.ref C_BadPaper) (.ref C_BadPaper) = some true)
    (g_Claim : PySem.W.nsIn K mainGlobals "Claim" = some (some (.ref C_Claim)))
    (g_Grows : PySem.W.nsIn K mainGlobals "Grows" = some (some (.ref C_Grows)))
    (pg_Grows : PySem.W.plainGet K C_Grows Str.empty = true)
    (hd_Grows : PySem.W.hasDictIn K C_Grows = true)
    (po_Grows : PySem.W.plainOver K C_Grows = true)
    (sa_Grows : PySem.W.findIn K (.ref C_Grows) "__setattr__" = some (some (.builtin "object.__setattr__")))
    (n_Grows_old : PySem.W.findIn K (.ref C_Grows) "old" = some none)
    (n_Grows_before : PySem.W.findIn K (.ref C_Grows) "before" = some none)
    (ia_Grows : PySem.W.findIn K (.ref C_Grows) "__class__" = some (some (.builtin "object.__class__")))
    (in_Grows : PySem.W.specialIn K (.builtin "object.__class__") "__get__" = some (some (.builtin "getset_descriptor.__get__")))
    (it_Grows : PySem.W.takesIn K (.builtin "object.__class__") = some true)
    (im_Grows : PySem.W.mroIn K C_Grows (.type "object") = some true)
    (aGrows0 : PySem.W.findIn K (.ref C_Grows) "__init__" = some (some (.ref fGrows0))) (iGrows0 : PySem.W.isFn K (.ref fGrows0) = true) (lGrows0 : K.lookup fGrows0 = some ⟨ocGrows0, odGrows0, .func (PySem.W.fnOf "__init__" "Grows.__init__" (defArgs s_Grows___init__) (defBody s_Grows___init__) (defScope s_Grows___init__) .none kVGrows0 dcGrows0 pmGrows0 anGrows0 cdGrows0 ctGrows0), slGrows0⟩) (cGrows0 : PySem.W.codeIn K cdGrows0 "Grows.__init__" = true) (kGrows0 : PySem.W.keepIn K (.ref fGrows0) = true)
    (mk_Grows : PySem.W.makesIn K C_Grows = true) (kc_Grows : PySem.W.keepIn K (.ref C_Grows) = true)
    (aGrows1 : PySem.W.findIn K (.ref C_Grows) "shown" = some (some (.ref fGrows1))) (iGrows1 : PySem.W.isFn K (.ref fGrows1) = true) (lGrows1 : K.lookup fGrows1 = some ⟨ocGrows1, odGrows1, .func (PySem.W.fnOf "shown" "Grows.shown" (defArgs s_Grows_shown) (defBody s_Grows_shown) (defScope s_Grows_shown) .none kVGrows1 dcGrows1 pmGrows1 anGrows1 cdGrows1 ctGrows1), slGrows1⟩) (cGrows1 : PySem.W.codeIn K cdGrows1 "Grows.shown" = true) (kGrows1 : PySem.W.keepIn K (.ref fGrows1) = true)
    (aGrows2 : PySem.W.findIn K (.ref C_Grows) "judged" = some (some (.ref fGrows2))) (iGrows2 : PySem.W.isFn K (.ref fGrows2) = true) (lGrows2 : K.lookup fGrows2 = some ⟨ocGrows2, odGrows2, .func (PySem.W.fnOf "judged" "Claim.judged" (defArgs s_Claim_judged) (defBody s_Claim_judged) (defScope s_Claim_judged) .none kVGrows2 dcGrows2 pmGrows2 anGrows2 cdGrows2 ctGrows2), slGrows2⟩) (cGrows2 : PySem.W.codeIn K cdGrows2 "Claim.judged" = true) (kGrows2 : PySem.W.keepIn K (.ref fGrows2) = true)
    (g_Follower : PySem.W.nsIn K mainGlobals "Follower" = some (some (.ref C_Follower)))
    (pg_Follower : PySem.W.plainGet K C_Follower Str.empty = true)
    (hd_Follower : PySem.W.hasDictIn K C_Follower = true)
    (po_Follower : PySem.W.plainOver K C_Follower = true)
    (sa_Follower : PySem.W.findIn K (.ref C_Follower) "__setattr__" = some (some (.builtin "object.__setattr__")))
    (n_Follower_seal : PySem.W.findIn K (.ref C_Follower) "seal" = some none)
    (n_Follower_count : PySem.W.findIn K (.ref C_Follower) "count" = some none)
    (n_Follower_newest : PySem.W.findIn K (.ref C_Follower) "newest" = some none)
    (ia_Follower : PySem.W.findIn K (.ref C_Follower) "__class__" = some (some (.builtin "object.__class__")))
    (in_Follower : PySem.W.specialIn K (.builtin "object.__class__") "__get__" = some (some (.builtin "getset_descriptor.__get__")))
    (it_Follower : PySem.W.takesIn K (.builtin "object.__class__") = some true)
    (im_Follower : PySem.W.mroIn K C_Follower (.type "object") = some true)
    (aFollower0 : PySem.W.findIn K (.ref C_Follower) "__init__" = some (some (.ref fFollower0))) (iFollower0 : PySem.W.isFn K (.ref fFollower0) = true) (lFollower0 : K.lookup fFollower0 = some ⟨ocFollower0, odFollower0, .func (PySem.W.fnOf "__init__" "Follower.__init__" (defArgs s_Follower___init__) (defBody s_Follower___init__) (defScope s_Follower___init__) .none kVFollower0 dcFollower0 pmFollower0 anFollower0 cdFollower0 ctFollower0), slFollower0⟩) (cFollower0 : PySem.W.codeIn K cdFollower0 "Follower.__init__" = true) (kFollower0 : PySem.W.keepIn K (.ref fFollower0) = true)
    (mk_Follower : PySem.W.makesIn K C_Follower = true) (kc_Follower : PySem.W.keepIn K (.ref C_Follower) = true)
    (aFollower1 : PySem.W.findIn K (.ref C_Follower) "size" = some (some (.ref fFollower1))) (iFollower1 : PySem.W.isFn K (.ref fFollower1) = true) (lFollower1 : K.lookup fFollower1 = some ⟨ocFollower1, odFollower1, .func (PySem.W.fnOf "size" "Follower.size" (defArgs s_Follower_size) (defBody s_Follower_size) (defScope s_Follower_size) .none kVFollower1 dcFollower1 pmFollower1 anFollower1 cdFollower1 ctFollower1), slFollower1⟩) (cFollower1 : PySem.W.codeIn K cdFollower1 "Follower.size" = true) (kFollower1 : PySem.W.keepIn K (.ref fFollower1) = true)
    (aFollower2 : PySem.W.findIn K (.ref C_Follower) "head" = some (some (.ref fFollower2))) (iFollower2 : PySem.W.isFn K (.ref fFollower2) = true) (lFollower2 : K.lookup fFollower2 = some ⟨ocFollower2, odFollower2, .func (PySem.W.fnOf "head" "Follower.head" (defArgs s_Follower_head) (defBody s_Follower_head) (defScope s_Follower_head) .none kVFollower2 dcFollower2 pmFollower2 anFollower2 cdFollower2 ctFollower2), slFollower2⟩) (cFollower2 : PySem.W.codeIn K cdFollower2 "Follower.head" = true) (kFollower2 : PySem.W.keepIn K (.ref fFollower2) = true)
    (aFollower3 : PySem.W.findIn K (.ref C_Follower) "take" = some (some (.ref fFollower3))) (iFollower3 : PySem.W.isFn K (.ref fFollower3) = true) (lFollower3 : K.lookup fFollower3 = some ⟨ocFollower3, odFollower3, .func (PySem.W.fnOf "take" "Follower.take" (defArgs s_Follower_take) (defBody s_Follower_take) (defScope s_Follower_take) .none kVFollower3 dcFollower3 pmFollower3 anFollower3 cdFollower3 ctFollower3), slFollower3⟩) (cFollower3 : PySem.W.codeIn K cdFollower3 "Follower.take" = true) (kFollower3 : PySem.W.keepIn K (.ref fFollower3) = true)
    (aFollower4 : PySem.W.findIn K (.ref C_Follower) "judge" = some (some (.ref fFollower4))) (iFollower4 : PySem.W.isFn K (.ref fFollower4) = true) (lFollower4 : K.lookup fFollower4 = some ⟨ocFollower4, odFollower4, .func (PySem.W.fnOf "judge" "Follower.judge" (defArgs s_Follower_judge) (defBody s_Follower_judge) (defScope s_Follower_judge) .none kVFollower4 dcFollower4 pmFollower4 anFollower4 cdFollower4 ctFollower4), slFollower4⟩) (cFollower4 : PySem.W.codeIn K cdFollower4 "Follower.judge" = true) (kFollower4 : PySem.W.keepIn K (.ref fFollower4) = true)
    (q_Grows_Claim : PySem.W.kitOne K (.ref C_Grows) (.ref C_Claim) = some true)
    : Txt K mg cc := by
  exact ⟨⟨⟨_, _, fun_mk (st := s_split) l0 c0 k0, PySem.W.mg_of X G a0, fun us hl => match us, hl with | [_], _ => rfl⟩⟩,
    ⟨⟨_, _, fun_mk (st := s_none_seal) l1 c1 k1, PySem.W.mg_of X G a1, fun us hl => match us, hl with | [_], _ => rfl⟩⟩,
    ⟨⟨_, _, fun_mk (st := s_pair_seal) l2 c2 k2, PySem.W.mg_of X G a2, fun us hl => match us, hl with | [_, _, _], _ => rfl⟩⟩,
    ⟨⟨_, _, fun_mk (st := s_book_seal) l3 c3 k3, PySem.W.mg_of X G a3, fun us hl => match us, hl with | [_, _, _], _ => rfl⟩⟩,
    ⟨⟨_, _, fun_mk (st := s_top_of) l4 c4 k4, PySem.W.mg_of X G a4, fun us hl => match us, hl with | [_, _], _ => rfl⟩⟩,
    ⟨⟨_, _, fun_mk (st := s_growth_of) l5 c5 k5, PySem.W.mg_of X G a5, fun us hl => match us, hl with | [_, _, _], _ => rfl⟩⟩,
    ⟨⟨_, _, fun_mk (st := s_last_of) l6 c6 k6, PySem.W.mg_of X G a6, fun us hl => match us, hl with | [_], _ => rfl⟩⟩,
    ⟨⟨_, _, fun_mk (st := s_regrown) l7 c7 k7, PySem.W.mg_of X G a7, fun us hl => match us, hl with | [_, _, _, _], _ => rfl⟩⟩,
    ⟨⟨_, _, fun_mk (st := s__law_cell_at) l8 c8 k8, PySem.W.mg_of X G a8, fun us hl => match us, hl with | [_, _], _ => rfl⟩⟩,
    ⟨⟨_, _, fun_mk (st := s__law_plain) l9 c9 k9, PySem.W.mg_of X G a9, fun us hl => match us, hl with | [_, _, _], _ => rfl⟩⟩,
    ⟨⟨_, _, fun_mk (st := s__law_turned) l10 c10 k10, PySem.W.mg_of X G a10, fun us hl => match us, hl with | [_, _, _], _ => rfl⟩⟩,
    ⟨⟨_, _, _, _, _, _, _, _, _, l11, c11, k11, PySem.W.mg_of X G a11⟩⟩,
    ⟨⟨_, _, fun_mk (st := s__law_seal_by) l12 c12 k12, PySem.W.mg_of X G a12, fun us hl => match us, hl with | [_], _ => rfl⟩⟩,
    ⟨⟨_, _, fun_mk (st := s__law_split) l13 c13 k13, PySem.W.mg_of X G a13, fun us hl => match us, hl with | [_], _ => rfl⟩⟩,
    ⟨⟨_, _, fun_mk (st := s__law_top) l14 c14 k14, PySem.W.mg_of X G a14, fun us hl => match us, hl with | [_, _], _ => rfl⟩⟩,
    ⟨⟨_, _, fun_mk (st := s__law_growth) l15 c15 k15, PySem.W.mg_of X G a15, fun us hl => match us, hl with | [_, _, _], _ => rfl⟩⟩,
    ⟨⟨_, _, fun_mk (st := s__law_draw) l16 c16 k16, PySem.W.mg_of X G a16, fun us hl => match us, hl with | [_, _, _], _ => rfl⟩⟩,
    ⟨⟨_, _, fun_mk (st := s__law_word) l17 c17 k17, PySem.W.mg_of X G a17, fun us hl => match us, hl with | [_], _ => rfl⟩⟩,
    ⟨⟨_, _, fun_mk (st := s__law_bent) l18 c18 k18, PySem.W.mg_of X G a18, fun us hl => match us, hl with | [_, _, _, _], _ => rfl⟩⟩,
    ⟨⟨_, _, fun_mk (st := s__law_head) l19 c19 k19, PySem.W.mg_of X G a19, fun us hl => match us, hl with | [_, _, _], _ => rfl⟩⟩,
    ⟨⟨_, _, fun_mk (st := s__law_one) l20 c20 k20, PySem.W.mg_of X G a20, fun us hl => match us, hl with | [_, _, _, _], _ => rfl⟩⟩,
    ⟨⟨_, _, fun_mk (st := s_law) l21 c21 k21, PySem.W.mg_of X G a21, fun us hl => match us, hl with | [_], _ => rfl⟩⟩,
    ⟨⟨C_BadPaper, PySem.W.mg_of X G g_BadPaper, xP_BadPaper, kP_BadPaper, bP_BadPaper, tP_BadPaper, ⟨hg_BadPaper, hk_BadPaper, bP_BadPaper, hd_BadPaper, ha_BadPaper, hn_BadPaper, ht_BadPaper, hm_BadPaper⟩, ex_BadPaper⟩⟩,
    ⟨C_Claim, PySem.W.mg_of X G g_Claim⟩,
    ⟨C_Grows, ⟨PySem.W.mg_of X G g_Grows,
      ⟨pg_Grows, hd_Grows, po_Grows, sa_Grows⟩,
      n_Grows_old,
      n_Grows_before,
      ia_Grows,
      in_Grows,
      it_Grows,
      im_Grows,
      ⟨⟨_, _, fun_mk (st := s_Grows___init__) lGrows0 cGrows0 kGrows0, ⟨mk_Grows, aGrows0, iGrows0, kc_Grows⟩, fun us hl => match us, hl with | [_, _, _], _ => rfl⟩⟩,
      ⟨⟨_, _, fun_mk (st := s_Grows_shown) lGrows1 cGrows1 kGrows1, ⟨aGrows1, iGrows1, kGrows1⟩, fun us hl => match us, hl with | [_, _, _, _, _], _ => rfl⟩⟩,
      ⟨⟨_, _, fun_mk (st := s_Claim_judged) lGrows2 cGrows2 kGrows2, ⟨aGrows2, iGrows2, kGrows2⟩, fun us hl => match us, hl with | [_, _, _, _, _], _ => rfl⟩⟩⟩⟩,
    ⟨C_Follower, ⟨PySem.W.mg_of X G g_Follower,
      ⟨pg_Follower, hd_Follower, po_Follower, sa_Follower⟩,
      n_Follower_seal,
      n_Follower_count,
      n_Follower_newest,
      ia_Follower,
      in_Follower,
      it_Follower,
      im_Follower,
      ⟨⟨_, _, fun_mk (st := s_Follower___init__) lFollower0 cFollower0 kFollower0, ⟨mk_Follower, aFollower0, iFollower0, kc_Follower⟩, fun us hl => match us, hl with | [_, _], _ => rfl⟩⟩,
      ⟨⟨_, _, fun_mk (st := s_Follower_size) lFollower1 cFollower1 kFollower1, ⟨aFollower1, iFollower1, kFollower1⟩, fun us hl => match us, hl with | [_], _ => rfl⟩⟩,
      ⟨⟨_, _, fun_mk (st := s_Follower_head) lFollower2 cFollower2 kFollower2, ⟨aFollower2, iFollower2, kFollower2⟩, fun us hl => match us, hl with | [_], _ => rfl⟩⟩,
      ⟨⟨_, _, fun_mk (st := s_Follower_take) lFollower3 cFollower3 kFollower3, ⟨aFollower3, iFollower3, kFollower3⟩, fun us hl => match us, hl with | [_, _, _, _], _ => rfl⟩⟩,
      ⟨⟨_, _, fun_mk (st := s_Follower_judge) lFollower4 cFollower4 kFollower4, ⟨aFollower4, iFollower4, kFollower4⟩, fun us hl => match us, hl with | [_, _, _], _ => rfl⟩⟩⟩⟩,
    fun C D e1 e2 => by rw [PySem.W.mg_of X G g_Grows] at e1; rw [PySem.W.mg_of X G g_Claim] at e2; cases e1; cases e2; exact q_Grows_Claim, ⟨PySem.W.mg_none_of X G z_len, PySem.W.mg_none_of X G z_isinstance, PySem.W.mg_none_of X G z_int, PySem.W.mg_none_of X G z_bool, PySem.W.mg_none_of X G z_list, PySem.W.mg_none_of X G z_range, PySem.W.mg_none_of X G z_tuple, PySem.W.mg_none_of X G z_reversed, PySem.W.mg_none_of X G z_min, PySem.W.mg_none_of X G z_max⟩⟩
/-! ### seals that make a tuple of their three things -/
inductive DenP (tf : Str → V → V → List V) (H : Hp) : V → Tm → Prop
  | int (i : Int) : DenP tf H (.int i) (.int i)
  | str (x : Str) (h : txtOk x = true) : DenP tf H (.str x) (.str x)
  | sl {p : Addr} {m : Str} {va vb : V} {a b : Tm} (hm : txtOk m = true) (h : H p = some (.tup (tf m va vb))) (ha : DenP tf H va a) (hb : DenP tf H vb b) : DenP tf H (.ref p) (.sl m a b)
theorem DenP.mono {tf : Str → V → V → List V} {H H' : Hp} (e : Gr H H') {v : V} {t : Tm} (h : DenP tf H v t) : DenP tf H' v t := by
  induction h with
  | int i => exact .int i
  | str x h => exact .str x h
  | sl hm h _ _ iha ihb => exact .sl hm (e.keep _ _ h True.intro fun _ z => nomatch z) iha ihb
def tfP (m : Str) (a b : V) : List V := [.str m, a, b]
def tfT (m : Str) (a b : V) : List V := [.str "seal of", b, a, .str m]
def datP : Tm → PyData
  | .int i => .int i
  | .str x => .str x
  | .sl m a b => .tuple [.str m, datP a, datP b]
def datT : Tm → PyData
  | .int i => .int i
  | .str x => .str x
  | .sl m a b => .tuple [.str "seal of", datT b, datT a, .str m]
theorem DenP.dp {K : PySem.W.Frag} {H : Hp} {v : V} {t : Tm} (h : DenP tfP H v t) : Dp K H v (datP t) ∧ (datP t).canLay0 = true ∧ (datP t).depth ≤ t.dep := by
  induction h with
  | int i => exact ⟨.int i, rfl, Nat.le_refl _⟩
  | str x h => exact ⟨.str x, h, Nat.le_refl _⟩
  | @sl p m va vb a b hm h _ _ iha ihb =>
    obtain ⟨a1, a2, a3⟩ := iha
    obtain ⟨b1, b2, b3⟩ := ihb
    refine ⟨.tup (SqT.of h) (.cons (.str m) (.cons a1 (.cons b1 .nil))), ?_, ?_⟩
    · show (PySem.PyData.strOk m && ((datP a).canLay0 && ((datP b).canLay0 && true))) = true
      rw [show PySem.PyData.strOk m = true from hm, a2, b2]
      rfl
    · show max 0 (max (datP a).depth (max (datP b).depth 0)) + 1 ≤ max a.dep b.dep + 1
      omega
theorem DenP.dt {K : PySem.W.Frag} {H : Hp} {v : V} {t : Tm} (h : DenP tfT H v t) : Dp K H v (datT t) ∧ (datT t).canLay0 = true ∧ (datT t).depth ≤ t.dep := by
  induction h with
  | int i => exact ⟨.int i, rfl, Nat.le_refl _⟩
  | str x h => exact ⟨.str x, h, Nat.le_refl _⟩
  | @sl p m va vb a b hm h _ _ iha ihb =>
    obtain ⟨a1, a2, a3⟩ := iha
    obtain ⟨b1, b2, b3⟩ := ihb
    refine ⟨.tup (SqT.of h) (.cons (.str _) (.cons b1 (.cons a1 (.cons (.str m) .nil)))), ?_, ?_⟩
    · show (PySem.PyData.strOk "seal of" && ((datT b).canLay0 && ((datT a).canLay0 && (PySem.PyData.strOk m && true)))) = true
      rw [show PySem.PyData.strOk m = true from hm, a2, b2]
      decide +kernel
    · show max 0 (max (datT b).depth (max (datT a).depth (max 0 0))) + 1 ≤ max a.dep b.dep + 1
      omega
def plainSys (tf : Str → V → V → List V) (f : Addr) : Sys := ⟨f, fun H v t => DenP tf H v t, fun _ _ => True⟩
theorem goodP {K : PySem.W.Frag} (f : Addr) : (plainSys tfP f).Good K :=
  ⟨fun e h => h.mono e, fun _ _ => trivial, fun _ _ => trivial, fun i _ => .int i, fun x _ h => .str x h, fun h h' => ⟨_, DenP.dp h |>.1, DenP.dp h' |>.1, (DenP.dp (K := K) h).2.1, (DenP.dp (K := K) h).2.2⟩⟩
theorem goodT {K : PySem.W.Frag} (f : Addr) : (plainSys tfT f).Good K :=
  ⟨fun e h => h.mono e, fun _ _ => trivial, fun _ _ => trivial, fun i _ => .int i, fun x _ h => .str x h, fun h h' => ⟨_, DenP.dt h |>.1, DenP.dt h' |>.1, (DenP.dt (K := K) h).2.1, (DenP.dt (K := K) h).2.2⟩⟩
section
variable {P : Program} {w : World} {K : PySem.W.Frag} {mg : Str → Option Value} {base : Heap}
theorem fnAt_fun {x qual : Str} {st : Stmt} {f : Addr} {fd : FuncData} (F : L2.Fun K x qual st f fd) {h : Heap} (X : K.In h) : PySem.W.FnAt f h := by
  obtain ⟨oc, od, kV, doc, pm, an, cdv, ct, osl, rfl, lk, _⟩ := F.ex
  exact ⟨_, _, _, _, X _ _ lk⟩
def spTup (tf : Str → V → V → List V) : Sp := fun vs H Q _ => ∃ m a b, vs = [.str m, a, b] ∧ ∀ p, H p = none → Q (.ref p) (upd H p (.tup (tf m a b)))
theorem held_plain {tf : Str → V → V → List V} {x : Str} {st : Stmt} {ps : List Str} {f : Addr} {fd : FuncData} (F : L2.Fun K x x st f fd) (b : ∀ us : List Value, us.length = ps.length → bindArgs fd ⟨us, []⟩ = pure (ps.zip us)) (G : FnOk P w K mg base L2.CX0 1 f fd ps (spTup tf)) :
    HeldSl P w K mg base 1 (plainSys tf f) := by
  refine ⟨fun H h r X _ _ => fnAt_fun F X, fun A outer s H us vs Q E hr e0 rv h => ?_⟩
  obtain ⟨r, m, a, b', va, vb, rfl, hm, _, ha, hb, q⟩ := h
  have hsp : spTup tf [.str m, va, vb] H Q E := ⟨m, va, vb, rfl, fun p hp => q _ _ (Ext.new hp) True.intro (.sl hm upd_same (ha.mono (Kp.new hp).gr) (hb.mono (Kp.new hp).gr))⟩
  have hl : us.length = ps.length := by rw [← rv.length]; exact G.len _ _ _ _ hsp
  exact G.run A outer s H ⟨us, []⟩ us _ Q E hr e0 (.of_eq (b us hl)) rv hsp
/-! ### a seal that numbers its threes -/
def tab (ks : List (List Key)) : List (List Key × V) := ks.zipIdx.map fun p => (p.1, V.int ((p.2 : Nat) : Int))
theorem tab_snoc (ks : List (List Key)) (k : List Key) : tab (ks ++ [k]) = tab ks ++ [(k, V.int ((ks.length : Nat) : Int))] := by
  unfold tab
  rw [List.zipIdx_append, List.map_append]
  simp
theorem tab_len (ks : List (List Key)) : (tab ks).length = ks.length := by
  unfold tab
  rw [List.length_map, List.length_zipIdx]
theorem valV_app {κ : Type} [DecidableEq κ] (k : κ) : ∀ (l r : List (κ × V)) {v : V}, valV l k = some v → valV (l ++ r) k = some v
  | [], _, _, h => by cases h
  | p :: l, r, v, h => by
    by_cases e : p.1 = k
    · rw [valV_pos e] at h
      rw [List.cons_append, valV_pos e]
      exact h
    · rw [valV_neg e] at h
      rw [List.cons_append, valV_neg e]
      exact valV_app k l r h
theorem tab_at {ks : List (List Key)} {k : List Key} {v : V} (h : valV (tab ks) k = some v) : ∃ n : Nat, v = .int (n : Int) ∧ ks[n]? = some k := by
  unfold valV at h
  obtain ⟨p, hp, rfl⟩ := Option.map_eq_some_iff.mp h
  have h1 := List.mem_of_find?_eq_some hp
  have h2 : decide (p.1 = k) = true := List.find?_some (p := fun kv : List Key × V => decide (kv.1 = k)) hp
  obtain ⟨q, hq, rfl⟩ := List.mem_map.mp h1
  refine ⟨q.2, rfl, ?_⟩
  have h3 : q.1 = k := of_decide_eq_true h2
  have h4 := List.mk_mem_zipIdx_iff_getElem?.mp (show (q.1, q.2) ∈ ks.zipIdx from hq)
  rw [h4, h3]
inductive DenN (kvs : List (List Key × V)) : Key → Tm → Prop
  | int (i : Int) : DenN kvs (.inl i) (.int i)
  | str (x : Str) (h : txtOk x = true) : DenN kvs (.inr x) (.str x)
  | sl {m : Str} {ka kb : Key} {a b : Tm} {n : Int} (ha : DenN kvs ka a) (hb : DenN kvs kb b) (h : valV kvs [.inr m, ka, kb] = some (.int n)) : DenN kvs (.inl n) (.sl m a b)
theorem DenN.app {kvs more : List (List Key × V)} {k : Key} {t : Tm} (h : DenN kvs k t) : DenN (kvs ++ more) k t := by
  induction h with
  | int i => exact .int i
  | str x h => exact .str x h
  | sl _ _ h iha ihb => exact .sl iha ihb (valV_app _ _ _ h)
theorem DenN.fn {kvs : List (List Key × V)} {k : Key} {t : Tm} (h : DenN kvs k t) : ∀ {k'}, DenN kvs k' t → k = k' := by
  induction h with
  | int i => intro k' h'; cases h'; rfl
  | str x h => intro k' h'; cases h'; rfl
  | sl _ _ h iha ihb =>
    intro k' h'
    cases h' with
    | sl ha' hb' h' =>
      rw [← iha ha', ← ihb hb', h] at h'
      cases h'
      rfl
theorem DenN.lay {kvs : List (List Key × V)} {k : Key} {t : Tm} (h : DenN kvs k t) (K : PySem.W.Frag) (H : Hp) : ∃ d, Dp K H (kV k) d ∧ d.canLay0 = true ∧ d.depth = 0 := by
  cases h with
  | int i => exact ⟨.int i, .int i, rfl, rfl⟩
  | str x h => exact ⟨.str x, .str x, h, rfl⟩
  | sl _ _ _ => exact ⟨.int _, .int _, rfl, rfl⟩
/-- the cell at c holds the dict at d -/
def CellO (c d : Addr) : HO := .ext fun h => h.IsCell c (some (.ref d))
theorem cellO_at {H : Hp} {h : Heap} {c d : Addr} (hok : HOk P w H h) (e : H c = some (CellO c d)) : h.IsCell c (some (.ref d)) := (hok c _ e).1
theorem cellO_ok {H : Hp} {h : Heap} {c d : Addr} (e : h.IsCell c (some (.ref d))) : ObjOk P w H h c (CellO c d) := by
  obtain ⟨o, ho, hd⟩ := id e
  exact ⟨e, ⟨o, ho⟩, fun h1 h2 ⟨o', ho', hd'⟩ st => ⟨o', st _ ho', hd'⟩⟩
structure NumD where
  f : Addr
  q : Str
  c : Addr
  c0 : Addr
  d : Addr
abbrev NumD.F (N : NumD) : NdefX.NF := NdefX.NF.of s__law_numbering__law_numbered "_law_numbered" N.q [("_law_told", N.c0)] N.c
structure NumOk (N : NumD) (H : Hp) (r : Nat) : Prop where
  dict : ∃ ks, H N.d = some (.dT (tab ks)) ∧ ks.length + r ≤ sizeLine
  fn : H N.f = some (NdefX.FnO N.f N.F)
  code : H N.c = some (LamX.CodeO N.c N.q)
  cell : H N.c0 = some (CellO N.c0 N.d)
def numSys (N : NumD) : Sys := ⟨N.f, fun H v t => ∃ kvs k, H N.d = some (.dT kvs) ∧ DenN kvs k t ∧ v = kV k, fun H r => NumOk N H r⟩
theorem goodN (N : NumD) : (numSys N).Good K := by
  refine ⟨?_, ?_, ?_, ?_, ?_, ?_⟩
  · rintro H H' v t e ⟨kvs, k, hd, hk, rfl⟩
    obtain ⟨more, e1⟩ := e.grow _ _ hd
    exact ⟨_, k, e1, hk.app, rfl⟩
  · rintro H H' r e ⟨⟨ks, h1, h2⟩, h3, h4, h5⟩
    exact ⟨⟨ks, e _ _ h1 True.intro, h2⟩, e _ _ h3 True.intro, e _ _ h4 True.intro, e _ _ h5 True.intro⟩
  · rintro H r r' ⟨⟨ks, h1, h2⟩, h3, h4, h5⟩ hr
    exact ⟨⟨ks, h1, by omega⟩, h3, h4, h5⟩
  · rintro H r i ⟨⟨ks, h1, h2⟩, _⟩
    exact ⟨_, .inl i, h1, .int i, rfl⟩
  · rintro H r x ⟨⟨ks, h1, h2⟩, _⟩ hx
    exact ⟨_, .inr x, h1, .str x hx, rfl⟩
  · rintro H v v' t ⟨kvs, k, h1, h2, rfl⟩ ⟨kvs', k', h1', h2', rfl⟩
    rw [h1] at h1'
    cases h1'
    have e := h2.fn h2'
    subst e
    obtain ⟨d, a, b, c⟩ := h2.lay K H
    exact ⟨d, a, a, b, by omega⟩
/-- its own promise: ws, what its cell holds -/
def spNumd (ws : List (Option V)) : Sp := fun vs H Q _ => ∃ (d : Addr) (ks : List (List Key)) (m : Str) (ka kb : Key), ws = [some (.ref d)] ∧ vs = [.str m, kV ka, kV kb] ∧ H d = some (.dT (tab ks)) ∧ ks.length < sizeLine ∧
  ∀ (n : Int) (H' : Hp) (more : List (List Key)), Ext H H' → H' d = some (.dT (tab (ks ++ more))) → more.length ≤ 1 → valV (tab (ks ++ more)) [.inr m, ka, kb] = some (.int n) → Q (.int n) H'
theorem scN : NdefX.NScope N__law_numbering__law_numbered ["_law_mark", "_law_one_here", "_law_two"] ["_law_told"] (defScope s__law_numbering__law_numbered) := NdefX.nscope_by (by decide +kernel)
theorem nok_num (mlen : mg "len" = none) (N : NumD) : NdefX.NOk P w K mg base L2.CX0 1 N.f N.F ["_law_mark", "_law_one_here", "_law_two"] ["_law_told"] spNumd := by
  refine NdefX.nok_of (N := N__law_numbering__law_numbered) scN (fun _ _ _ us hl => match us, hl with | [_, _, _], _ => rfl) (fun ws vs H Q E h => ?_) (fun A outer s H vs ws Q E hr hf hc hw h => ?_)
  · obtain ⟨d, ks, m, ka, kb, _, rfl, _⟩ := h
    rfl
  obtain ⟨d, ks, m, ka, kb, rfl, rfl, hd, hl, q⟩ := h
  have hu : (NdefX.ncx L2.CX0 P w K mg base N__law_numbering__law_numbered N.F N.f A outer s H E).A.units + 1 < cLine := hu_of hr
  refine ⟨_, (pss_cons (ps_if (pt_cmp (pc_dnotin hu (pe_tup (pa_cons (pv 0) (pa_cons (pv 1) (pa_cons (pv 2) pa_nil)))) (pv 3))) (pss_one (ps_dput hu (pv 3) (pe_tup (pa_cons (pv 0) (pa_cons (pv 1) (pa_cons (pv 2) pa_nil)))) (pe_callB call_len_dT rfl mlen PySem.boot_len (pa_cons (pv 3) pa_nil)) rfl)) pss_nil)
  (pss_one (ps_ret (pe_dget hu (pv 3) (pe_tup (pa_cons (pv 0) (pa_cons (pv 1) (pa_cons (pv 2) pa_nil)))) (fun _ _ => rfl))))), ?_⟩
  have ek : ([.str m, kV ka, kV kb] : List V) = ([.inr m, ka, kb] : List Key).map kV := rfl
  have hp0 : ∀ p : Addr, H p = none → d ≠ p := fun p hp => ne_of_none hd hp
  refine ⟨_, rfl, _, rfl, _, rfl, (by show 3 ≤ sizeLine; decide), fun p hp => ?_⟩
  have d1 : upd H p (.tup [.str m, kV ka, kV kb]) d = some (.dT (tab ks)) := by
    rw [upd_ne (hp0 p hp)]
    exact hd
  refine ⟨_, rfl, d, _, rfl, DGet.t (k := [.inr m, ka, kb]) d1 upd_same, _, rfl, ?_⟩
  cases hv : valV (tab ks) [.inr m, ka, kb] with
  | some v =>
    obtain ⟨n, rfl, _⟩ := tab_at hv
    refine iteF ?_
    refine ⟨_, rfl, _, rfl, _, rfl, _, rfl, (by show 3 ≤ sizeLine; decide), fun p2 hp2 => ?_⟩
    have d2 : upd (upd H p (.tup [.str m, kV ka, kV kb])) p2 (.tup [.str m, kV ka, kV kb]) d = some (.dT (tab ks)) := by
      rw [upd_ne (ne_of_none d1 hp2)]
      exact d1
    refine ⟨d, .int n, rfl, ?_, ?_⟩
    · have g := DGet.t (k := [.inr m, ka, kb]) d2 upd_same
      rw [hv] at g
      exact g
    · exact q n _ [] ((Ext.new hp).trans (Ext.new hp2)) (by rw [List.append_nil]; exact d2) (Nat.zero_le _) (by rw [List.append_nil]; exact hv)
  | none =>
    refine iteT ?_
    refine ⟨_, rfl, d, _, rfl, d1, ?_⟩
    refine ⟨_, rfl, _, rfl, _, rfl, _, rfl, (by show 3 ≤ sizeLine; decide), fun p2 hp2 => ?_⟩
    have d2 : upd (upd H p (.tup [.str m, kV ka, kV kb])) p2 (.tup [.str m, kV ka, kV kb]) d = some (.dT (tab ks)) := by
      rw [upd_ne (ne_of_none d1 hp2)]
      exact d1
    refine ⟨d, _, rfl, DPut.t (k := [.inr m, ka, kb]) d2 upd_same (by rw [tab_len]; exact hl), ?_⟩
    rw [putK_new _ hv, tab_len, ← tab_snoc]
    have x2 : Ext H (upd (upd H p (.tup [.str m, kV ka, kV kb])) p2 (.tup [.str m, kV ka, kV kb])) := (Ext.new hp).trans (Ext.new hp2)
    have x3 : Ext H (upd (upd (upd H p (.tup [.str m, kV ka, kV kb])) p2 (.tup [.str m, kV ka, kV kb])) d (.dT (tab (ks ++ [[.inr m, ka, kb]])))) := by
      refine ⟨fun a o ha hn => ?_, fun a kvs ha => ?_⟩
      · rw [upd_ne (show a ≠ d from fun z => by rw [z, hd] at ha; exact hn _ (Option.some.inj ha).symm)]
        exact x2.keep a o ha hn
      · by_cases e : a = d
        · subst e
          rw [hd] at ha
          cases ha
          exact ⟨[(_, _)], by rw [upd_same, tab_snoc]⟩
        · rw [upd_ne e]
          exact x2.grow a kvs ha
    have d3 : upd (upd (upd H p (.tup [.str m, kV ka, kV kb])) p2 (.tup [.str m, kV ka, kV kb])) d (.dT (tab (ks ++ [[.inr m, ka, kb]]))) d = some (.dT (tab (ks ++ [[.inr m, ka, kb]]))) := upd_same
    generalize upd (upd (upd H p (.tup [.str m, kV ka, kV kb])) p2 (.tup [.str m, kV ka, kV kb])) d (.dT (tab (ks ++ [[.inr m, ka, kb]]))) = H3 at x3 d3 ⊢
    refine ⟨_, rfl, _, rfl, _, rfl, _, rfl, (by show 3 ≤ sizeLine; decide), fun p3 hp3 => ?_⟩
    have d4 : upd H3 p3 (.tup [.str m, kV ka, kV kb]) d = some (.dT (tab (ks ++ [[.inr m, ka, kb]]))) := by
      rw [upd_ne (ne_of_none d3 hp3)]
      exact d3
    have hv3 : valV (tab (ks ++ [[.inr m, ka, kb]])) [.inr m, ka, kb] = some (.int ((ks.length : Nat) : Int)) := by
      rw [tab_snoc, valV_snoc _ _ _ _ hv, if_pos rfl]
    refine ⟨d, .int ((ks.length : Nat) : Int), rfl, ?_, ?_⟩
    · have g := DGet.t (k := [.inr m, ka, kb]) d4 upd_same
      rw [hv3] at g
      exact g
    · exact q _ _ _ (x3.trans (Ext.new hp3)) d4 (Nat.le_refl _) hv3
/-- its cell set aside for the call -/
def er (H : Hp) (c : Addr) : Hp := fun b => if b = c then none else H b
theorem er_ne {H : Hp} {c b : Addr} (h : b ≠ c) : er H c b = H b := if_neg h
theorem er_same {H : Hp} {c : Addr} : er H c c = none := if_pos rfl
theorem er_some {H : Hp} {c b : Addr} {o : HO} (h : er H c b = some o) : b ≠ c ∧ H b = some o := by
  by_cases e : b = c
  · rw [e, er_same] at h
    cases h
  · rw [er_ne e] at h
    exact ⟨e, h⟩
theorem cell_ne_own {H : Hp} {c d a b : Addr} (e : H c = some (CellO c d)) (h : H b = some (.own a)) : b ≠ c := fun z => by
  rw [z, e] at h
  have h : HO.ext _ = HO.own a := Option.some.inj h
  cases h
theorem cell_ne_tup {H : Hp} {c d b : Addr} {xs : List V} (e : H c = some (CellO c d)) (h : H b = some (.tup xs)) : b ≠ c := fun z => by
  rw [z, e] at h
  have h : HO.ext _ = HO.tup xs := Option.some.inj h
  cases h
theorem er_hok {H : Hp} {h : Heap} {c d : Addr} (e : H c = some (CellO c d)) (ok : HOk P w H h) : HOk P w (er H c) h := fun a o ha => by
  obtain ⟨n, ha'⟩ := er_some ha
  exact (ok a o ha').stay (fun _ _ _ q => q) (fun b hb => by rw [er_ne (cell_ne_own e hb)]; exact hb) fun b xs hb => by rw [er_ne (cell_ne_tup e hb)]; exact hb
theorem held_num (mlen : mg "len" = none) (N : NumD) : HeldSl P w K mg base 1 (numSys N) := by
  refine ⟨fun H h r X ok h1 => ?_, fun A outer s H us vs Q E hr e0 rv h => ?_⟩
  · obtain ⟨od, sl, doc, pm, ctv, e⟩ := NdefX.fnO_at ok h1.fn
    exact ⟨_, _, _, _, e⟩
  obtain ⟨r, m, a, b, va, vb, rfl, hm, ok, ha, hb, q⟩ := h
  obtain ⟨⟨ks, hd, hl⟩, hf, hc, hcell⟩ := id ok
  obtain ⟨kvs, ka, hd1, hka, rfl⟩ := ha
  obtain ⟨kvs', kb, hd2, hkb, rfl⟩ := hb
  rw [hd] at hd1 hd2
  cases hd1
  cases hd2
  have isC := cellO_at e0.hok hcell
  have nf : N.f ≠ N.c0 := fun z => by
    obtain ⟨od, sl, doc, pm, ctv, e⟩ := NdefX.fnO_at e0.hok hf
    obtain ⟨o, e', d'⟩ := id isC
    rw [z, e'] at e
    cases e
    cases d'
  have nc : N.c ≠ N.c0 := fun z => by
    obtain ⟨c, oc, us, t, e1, e2, e3, e4⟩ := NdefX.codeO_at e0.hok hc
    cases e1
    obtain ⟨o, e', d'⟩ := id isC
    rw [z, e'] at e2
    cases e2
    rw [d'] at e3
    cases e3
  have nd : N.d ≠ N.c0 := fun z => by
    rw [z, hcell] at hd
    have hd : HO.ext _ = HO.dT _ := Option.some.inj hd
    cases hd
  have e1 : Env0 P w K mg base A outer s (er H N.c0) := by
    refine ⟨e0.frames, e0.mod, fun b o hb => ⟨(e0.bs b o hb).1, ?_⟩, e0.bsz, e0.funs, fun b hb => ?_, er_hok hcell e0.hok, e0.bare⟩
    · by_cases z : b = N.c0
      · rw [z, er_same]
      · rw [er_ne z]
        exact (e0.bs b o hb).2
    · by_cases z : b = N.c0
      · rw [z, er_same]
      · rw [er_ne z]
        exact e0.frf b hb
  have lk : ∀ {y : Str} {c : Addr}, List.lookup y N.F.cl = some c → y = "_law_told" ∧ c = N.c0 := fun {y c} h => by
    have h : List.lookup y [(("_law_told" : Str), N.c0)] = some c := h
    by_cases z : y = "_law_told"
    · subst z
      simp at h
      exact ⟨rfl, h.symm⟩
    · have z' : (y == ("_law_told" : Str)) = false := beq_eq_false_iff_ne.mpr z
      unfold List.lookup at h
      rw [z'] at h
      cases h
  have CA : NdefX.CellsAt N.F.cl ["_law_told"] [some (.ref N.d)] s.heap (er H N.c0) := by
    refine ⟨rfl, fun y c h => ?_, fun x y c h1 h2 => (lk h1).1.trans (lk h2).1.symm, fun i y h => ?_⟩
    · rw [(lk h).2]
      exact ⟨er_same, _, isC⟩
    · cases i with
      | zero =>
        cases h
        refine ⟨N.c0, by simp [List.lookup, NdefX.NF.of], fun v hv => ?_⟩
        cases hv
        exact ⟨_, rfl, isC⟩
      | succ i => simp at h
  have nfr : N.c0 ∉ frs outer := fun z => by
    have := e0.frf _ z
    rw [hcell] at this
    cases this
  refine codeAny_mono ((nok_num mlen N).run A outer s (er H N.c0) us _ [some (.ref N.d)] (fun v H' => Q v (upd H' N.c0 (CellO N.c0 N.d))) E hr e1 (by rw [er_ne nf]; exact hf) (by rw [show N.F.c = N.c from rfl, er_ne nc]; exact hc) CA rv
    ⟨N.d, ks, m, ka, kb, rfl, rfl, by rw [er_ne nd]; exact hd, by omega, fun n H' more x hd' hmore hv => ?_⟩) fun res s' hq => ?_
  · have kp : ∀ b o, H b = some o → b ≠ N.c0 → (∀ kvs, o ≠ .dT kvs) → H' b = some o := fun b o hb hn hn2 => x.keep b o (by rw [er_ne hn]; exact hb) hn2
    refine q _ _ ⟨fun b o hb hn => ?_, fun b kvs hb => ?_⟩ ⟨⟨ks ++ more, ?_, ?_⟩, ?_, ?_, upd_same⟩ ⟨_, .inl n, by rw [upd_ne nd]; exact hd', ?_, rfl⟩
    · by_cases z : b = N.c0
      · rw [z, upd_same]
        rw [z, hcell] at hb
        exact hb
      · rw [upd_ne z]
        exact kp b o hb z hn
    · have z : b ≠ N.c0 := fun z => by
        rw [z, hcell] at hb
        have hb : HO.ext _ = HO.dT _ := Option.some.inj hb
        cases hb
      rw [upd_ne z]
      exact x.grow b kvs (by rw [er_ne z]; exact hb)
    · rw [upd_ne nd]
      exact hd'
    · rw [List.length_append]
      omega
    · rw [upd_ne nf]
      exact kp _ _ hf nf fun _ z => HO.noConfusion z
    · rw [upd_ne nc]
      exact kp _ _ hc nc fun _ z => HO.noConfusion z
    · have t : ∀ {k t}, DenN (tab ks) k t → DenN (tab (ks ++ more)) k t := fun {k t} h => by
        obtain ⟨m2, e2⟩ := x.grow N.d (tab ks) (by rw [er_ne nd]; exact hd)
        rw [hd'] at e2
        have e3 : tab (ks ++ more) = tab ks ++ m2 := by
          have e2 := Option.some.inj e2
          injection e2
        rw [e3]
        exact h.app
      exact .sl (t hka) (t hkb) hv
  · cases res with
    | error e => exact hq
    | ok fl =>
      cases fl with
      | next => exact hq
      | brk => exact hq
      | cont => exact hq
      | ret u =>
        obtain ⟨v, H', os, bare, un, hok, rvu, q'⟩ := hq
        have nH : ∀ b, H b = none → b ≠ N.c0 := fun b hb z => by
          rw [z, hcell] at hb
          cases hb
        have ern : ∀ b, H b = none → er H N.c0 b = none := fun b hb => by
          rw [er_ne (nH b hb)]
          exact hb
        obtain ⟨oc, hoc, hod⟩ := id isC
        have hH' : H' N.c0 = none := un.free _ oc hoc er_same (by simp)
        have hcs : s'.heap.get? N.c0 = some oc := un.keep _ oc hoc er_same nfr (by simp)
        refine ⟨v, upd H' N.c0 (CellO N.c0 N.d), os, bare, ⟨fun b o e n hb hx => un.keep b o e (ern b n) hb hx, fun b o e n hb hx => un.slot b o e (ern b n) hb hx, fun b o e n hx => ?_, un.there, fun b xs e => ?_, fun b o u e => ?_, fun b ps e => ?_⟩, fun b u e => ?_, rvu, q'⟩
        · rw [upd_ne (nH b n)]
          exact un.free b o e (ern b n) hx
        · have z := cell_ne_tup hcell e
          rw [upd_ne z]
          exact un.tups b xs (by rw [er_ne z]; exact e)
        · have z : b ≠ N.c0 := fun z => by
            rw [z, hcell] at e
            have e : HO.ext _ = HO.frz _ _ := Option.some.inj e
            cases e
          rw [upd_ne z]
          exact un.frzs b o u (by rw [er_ne z]; exact e)
        · have z : b ≠ N.c0 := fun z => by
            rw [z, hcell] at e
            have e : HO.ext _ = HO.tbl _ := Option.some.inj e
            cases e
          obtain ⟨more, hm⟩ := un.tbls b ps (by rw [er_ne z]; exact e)
          exact ⟨more, by rw [upd_ne z]; exact hm⟩
        · by_cases z : b = N.c0
          · rw [z, upd_same] at e
            cases e
            rw [z]
            exact cellO_ok ⟨oc, hcs, hod⟩
          · rw [upd_ne z] at e
            exact (hok b u e).stay (fun _ _ _ q => q) (fun b hb => by rw [upd_ne (ne_of_none hb hH')]; exact hb) fun b xs hb => by rw [upd_ne (ne_of_none hb hH')]; exact hb
end

/-! ### the three seals, by the law's own defs -/
section
variable {P : Program} {w : World} {K : PySem.W.Frag} {mg : Str → Option Value} {base : Heap}
theorem fn_plain {f : Addr} {fd : FuncData} (F : L2.Fun K "_law_plain" "_law_plain" s__law_plain f fd) : FnOk P w K mg base L2.CX0 1 f fd ["_law_mark", "_law_one_here", "_law_two"] (spTup tfP) := by
  refine F.ok sc__law_plain (fun vs H Q E h => ?_) (fun cdv A outer s H vs Q E hr h => ?_)
  · obtain ⟨m, a, b, rfl, _⟩ := h
    rfl
  obtain ⟨m, a, b, rfl, q⟩ := h
  refine ⟨_, (pss_one (ps_ret (pe_tup (pa_cons (pv 0) (pa_cons (pv 1) (pa_cons (pv 2) pa_nil)))))), ?_⟩
  exact ⟨_, rfl, _, rfl, _, rfl, (by show 3 ≤ sizeLine; decide), fun p hp => q p hp⟩
theorem fn_turned {f : Addr} {fd : FuncData} (F : L2.Fun K "_law_turned" "_law_turned" s__law_turned f fd) : FnOk P w K mg base L2.CX0 1 f fd ["_law_mark", "_law_one_here", "_law_two"] (spTup tfT) := by
  refine F.ok sc__law_turned (fun vs H Q E h => ?_) (fun cdv A outer s H vs Q E hr h => ?_)
  · obtain ⟨m, a, b, rfl, _⟩ := h
    rfl
  obtain ⟨m, a, b, rfl, q⟩ := h
  refine ⟨_, (pss_one (ps_ret (pe_tup (pa_cons pe_str (pa_cons (pv 2) (pa_cons (pv 1) (pa_cons (pv 0) pa_nil))))))), ?_⟩
  exact ⟨_, rfl, _, rfl, _, rfl, (by show 4 ≤ sizeLine; decide), fun p hp => q p hp⟩
/-- the three of them -/
def Fam3 (mg : Str → Option Value) : Sys → Prop := fun S => (∃ f, mg "_law_plain" = some (.ref f) ∧ S = plainSys tfP f) ∨ (∃ f, mg "_law_turned" = some (.ref f) ∧ S = plainSys tfT f) ∨ ∃ N : NumD, S = numSys N
theorem sla3 {cc : Addr} (T : Txt K mg cc) : SlA P w K mg base (Fam3 mg) := by
  obtain ⟨fP, fdP, FP, mP, bP⟩ := T.d__law_plain.ex
  obtain ⟨fT, fdT, FT, mT, bT⟩ := T.d__law_turned.ex
  refine ⟨fun {S} h => ?_, fun S h => ?_⟩
  · rcases h with ⟨f, _, rfl⟩ | ⟨f, _, rfl⟩ | ⟨N, rfl⟩
    · exact goodP f
    · exact goodT f
    · exact goodN N
  · rcases h with ⟨f, m, rfl⟩ | ⟨f, m, rfl⟩ | ⟨N, rfl⟩
    · rw [mP] at m
      cases m
      exact held_plain FP bP (fn_plain FP)
    · rw [mT] at m
      cases m
      exact held_plain FT bT (fn_turned FT)
    · exact held_num T.Z.len N
/-- its making: the table at PT is empty before -/
def spNumg (PT : Addr) : Sp := fun vs H Q _ => vs = [] ∧ H PT = some (.tbl #[]) ∧ ∀ (N : NumD) (H' : Hp), LamX.ExtN H H' → NumOk N H' sizeLine → Q (.ref N.f) H'
theorem fn_numbering {f c PT : Addr} {kV doc pm ct oc : Value} {an od : Option Addr} {osl : Array (Option Value)} (TB : LamX.TabB base mg c PT)
    (lk : K.lookup f = some ⟨oc, od, .func (PySem.W.fnOf "_law_numbering" "_law_numbering" (defArgs s__law_numbering) (defBody s__law_numbering) (defScope s__law_numbering) .none kV doc pm an (.ref c) ct), osl⟩) (hcd : PySem.W.codeIn K (.ref c) "_law_numbering" = true) :
    FnOk P w K mg base L2.CX0 1 f (PySem.W.fnOf "_law_numbering" "_law_numbering" (defArgs s__law_numbering) (defBody s__law_numbering) (defScope s__law_numbering) .none kV doc pm an (.ref c) ct) [] (spNumg PT) := by
  refine ⟨fun vs H Q E h => by rw [h.1] <;> rfl, fun A outer s H args us vs Q E hr e0 hb r hsp => ?_⟩
  obtain ⟨rfl, hPT, q⟩ := hsp
  have KX : K.In s.heap := e0.mod.kin.keeps fun b o e => (e0.bs b o e).1
  have lim : s.heap.NoLimit := e0.mod.nolimit.keeps fun b o e => (e0.bs b o e).1
  refine codeAny_call_function hr.depth (KX _ _ lk) rfl sc__law_numbering.co sc__law_numbering.gen rfl (PySem.W.codeRec_of KX hcd) (hb _ _ _ _ ?_)
  refine wpAny_newFunctionEnv_cells sc__law_numbering.kind (fun ⟨n, v⟩ hy => by simp at hy) fun env he s1 x => ?_
  subst he
  refine ⟨lim.keeps x.toInCall.keep, codeAny_func ?_⟩
  have I : Inv (cxOf L2.CX0 P w K mg base N__law_numbering "_law_numbering" (defScope s__law_numbering) f (.ref c) A outer s H E) [] (start N__law_numbering []) H s1 := inv_start sc__law_numbering hr.hd e0 rfl r x
  have b3 : defBody s__law_numbering = [(defBody s__law_numbering).getD 0 (.Pass ⟨0, 0, 0, 0⟩), inDef s__law_numbering 1, (defBody s__law_numbering).getD 2 (.Pass ⟨0, 0, 0, 0⟩)] := rfl
  refine wpAny_mono (Q := fun fl s' => ∃ u, fl = .ret u ∧ CE outer P w H s Q u s') ?_ (fun fl s' hs => ?_) fun e s' hs => hs
  · rw [b3]
    have hfree : NdefX.ndefB (defScope s__law_numbering) (C8.fnScope s__law_numbering__law_numbered) ["_law_told"] = true := by decide +kernel
    have e1 : PS (cxOf L2.CX0 P w K mg base N__law_numbering "_law_numbering" (defScope s__law_numbering) f (.ref c) A outer s H E) ((defBody s__law_numbering).getD 0 (.Pass ⟨0, 0, 0, 0⟩)) (tAsg tDNewT (gName 1)) := ps_set (i := 1) sc__law_numbering.nd rfl (Or.inr rfl) pe_dnewT
    have e2 := NdefX.ps_ndefS (X := cxOf L2.CX0 P w K mg base N__law_numbering "_law_numbering" (defScope s__law_numbering) f (.ref c) A outer s H E) (st := s__law_numbering__law_numbered) (name := "_law_numbered") (i := 0) (T := [(PT, fun _ _ => (envOfC "_law_numbering" (defScope s__law_numbering) s.heap.objs.size f (.ref c)).qual ++ "_law_numbered")]) (c := c) (P := PT)
      (nm := fun _ _ => (envOfC "_law_numbering" (defScope s__law_numbering) s.heap.objs.size f (.ref c)).qual ++ "_law_numbered") rfl TB rfl List.mem_cons_self rfl (fun p hp _ => by rw [List.mem_singleton.mp hp]) (NdefX.ndef_free hfree) rfl rfl rfl sc__law_numbering.nd rfl (Or.inl rfl) (Or.inl rfl)
    have e3 : PE (cxOf L2.CX0 P w K mg base N__law_numbering "_law_numbering" (defScope s__law_numbering) f (.ref c) A outer s H E) (match (defBody s__law_numbering).getD 2 (.Pass ⟨0, 0, 0, 0⟩) with | .Return (some e) _ => e | _ => .Name "" ⟨0, 0, 0, 0⟩) (tVar 0) := pv 0
    have b4 : ∃ pos : Pos, (defBody s__law_numbering).getD 2 (.Pass ⟨0, 0, 0, 0⟩) = .Return (some (match (defBody s__law_numbering).getD 2 (.Pass ⟨0, 0, 0, 0⟩) with | .Return (some e) _ => e | _ => .Name "" ⟨0, 0, 0, 0⟩)) pos := ⟨_, rfl⟩
    obtain ⟨pos, b4⟩ := b4
    refine wpAny_execs_cons (thn (e1.run [] s1 _ H ⟨fun σ H' => ∃ d, H d = none ∧ σ = [none, some (.ref d)] ∧ H' = upd H d (.dT []), fun _ _ => False, fun _ _ => False, fun _ _ => False⟩ I fun d nd => ⟨d, nd, rfl, rfl⟩) fun fl s2 h2 => ?_)
    cases fl with
    | ret v => obtain ⟨_, _, _, _, _, z⟩ := h2; exact z.elim
    | brk => obtain ⟨_, _, _, z⟩ := h2; exact z.elim
    | cont => obtain ⟨_, _, _, z⟩ := h2; exact z.elim
    | next =>
    obtain ⟨σ2, H2, I2, d, nd, rfl, rfl⟩ := h2
    have tb : NdefX.TabsN [(PT, fun _ _ => (envOfC "_law_numbering" (defScope s__law_numbering) s.heap.objs.size f (.ref c)).qual ++ "_law_numbered")] (upd H d (.dT [])) := fun p hp => by
      rw [List.mem_singleton.mp hp]
      exact NdefX.TabN.nil (by rw [upd_ne (ne_of_none hPT nd)]; exact hPT)
    refine wpAny_execs_cons (thn (e2.run [] s2 _ _ ⟨fun σ H' => ∃ f2 c2, LamX.ExtN (upd H d (.dT [])) H' ∧ σ = [some (.ref f2), some (.ref d)] ∧ H' f2 = some (NdefX.FnO f2 (NdefX.NF.of s__law_numbering__law_numbered "_law_numbered" ((envOfC "_law_numbering" (defScope s__law_numbering) s.heap.objs.size f (.ref c)).qual ++ "_law_numbered") [("_law_told", s.heap.objs.size + 1)] c2)) ∧
        H' c2 = some (LamX.CodeO c2 ((envOfC "_law_numbering" (defScope s__law_numbering) s.heap.objs.size f (.ref c)).qual ++ "_law_numbered")), fun _ _ => False, fun _ _ => False, fun _ _ => False⟩ I2 ⟨tb, fun f2 c2 H3 x3 _ _ hf2 hc2 => ⟨f2, c2, x3, rfl, hf2, hc2⟩⟩) fun fl s3 h3 => ?_)
    cases fl with
    | ret v => obtain ⟨_, _, _, _, _, z⟩ := h3; exact z.elim
    | brk => obtain ⟨_, _, _, z⟩ := h3; exact z.elim
    | cont => obtain ⟨_, _, _, z⟩ := h3; exact z.elim
    | next =>
    obtain ⟨σ3, H3, I3, f2, c2, x3, rfl, hf2, hc2⟩ := h3
    rw [b4]
    refine wpAny_execs_cons (wpAny_Return_some (thn (e3.run [] s3 _ H3 (fun v H' => v = .ref f2 ∧ H' = H3) I3 ⟨_, rfl, rfl, rfl⟩) fun u s4 h4 => ?_))
    obtain ⟨v, H4, I4, ru, rfl, rfl⟩ := h4
    refine ⟨u, rfl, ?_⟩
    -- the cell
    have hce : (cxOf L2.CX0 P w K mg base N__law_numbering "_law_numbering" (defScope s__law_numbering) f (.ref c) A outer s H E).env.cells.lookup ("_law_told" : Str) = some (s.heap.objs.size + 1) := rfl
    have isC : s4.heap.IsCell (s.heap.objs.size + 1) (some (.ref d)) := by
      obtain ⟨m, hn, hl⟩ := I4.loc
      obtain ⟨u2, r2, l2⟩ := hl 1 "_law_told" (.ref d) rfl rfl (.inr (.inl rfl))
      have e2 : u2 = .ref d := r2
      subst e2
      rcases l2 with ⟨k, _⟩ | ⟨_, c3, hc3, z⟩
      · cases (show some NameKind.cell = some NameKind.local from k)
      · rw [hce] at hc3
        cases hc3
        exact z
    have fc := I4.freeC _ _ hce
    have hs0 : H (s.heap.objs.size + 1) = none := e0.hok.fresh (Nat.le_succ _)
    have un := I4.base
    have xn : LamX.ExtN H (upd H4 (s.heap.objs.size + 1) (CellO (s.heap.objs.size + 1) d)) := fun b o hb hn => by
      rw [upd_ne (ne_of_none hb hs0)]
      exact x3 b o (by rw [upd_ne (ne_of_none hb nd)]; exact hb) hn
    have hd4 : H4 d = some (.dT []) := x3 d _ upd_same fun ps z => by cases z
    refine ⟨.ref f2, upd H4 (s.heap.objs.size + 1) (CellO (s.heap.objs.size + 1) d), I4.os, I4.bare, ⟨un.keep, un.slot, fun b o e n hx => ?_, un.there, fun b xs e => ?_, fun b o u e => ?_, fun b ps e => ?_⟩, fun b u e => ?_, ru, ?_⟩
    · rw [upd_ne (Nat.ne_of_lt (Nat.lt_succ_of_lt (Heap.lt_size e)))]
      exact un.free b o e n hx
    · rw [upd_ne (ne_of_none e hs0)]
      exact un.tups b xs e
    · rw [upd_ne (ne_of_none e hs0)]
      exact un.frzs b o u e
    · obtain ⟨more, hm⟩ := un.tbls b ps e
      exact ⟨more, by rw [upd_ne (ne_of_none e hs0)]; exact hm⟩
    · by_cases z : b = s.heap.objs.size + 1
      · rw [z, upd_same] at e
        cases e
        rw [z]
        exact cellO_ok isC
      · rw [upd_ne z] at e
        exact (I4.hok b u e).stay (fun _ _ _ q => q) (fun b hb => by rw [upd_ne (ne_of_none hb fc)]; exact hb) fun b xs hb => by rw [upd_ne (ne_of_none hb fc)]; exact hb
    · refine q ⟨f2, (envOfC "_law_numbering" (defScope s__law_numbering) s.heap.objs.size f (.ref c)).qual ++ "_law_numbered", c2, s.heap.objs.size + 1, d⟩ _ xn ⟨⟨[], ?_, ?_⟩, ?_, ?_, upd_same⟩
      · rw [upd_ne (ne_of_none hd4 fc)]
        exact hd4
      · exact Nat.le_of_eq (Nat.zero_add _)
      · rw [upd_ne (ne_of_none hf2 fc)]
        exact hf2
      · rw [upd_ne (ne_of_none hc2 fc)]
        exact hc2
  · obtain ⟨u, rfl, h⟩ := hs
    exact h
theorem cal_numbering {c PT : Addr} (D : DefM K mg "_law_numbering" s__law_numbering c) (TB : LamX.TabB base mg c PT) : Cal P w K mg base 1 "_law_numbering" (spNumg PT) [] := by
  obtain ⟨f, oc, od, kV, doc, pm, an, ct, osl, lk, hc, kp, m⟩ := D.ex
  exact ⟨f, _, [], [], fn_numbering TB lk hc, m, kp, .all fun us hl => match us, hl with | [], _ => rfl, .nil⟩
/-! ### the law's own helpers -/
/-- script[k] where it is, else 0 -/
def cell (ns : List Int) (k : Int) : Int := ns.getD k.toNat 0
def spCellA (K : PySem.W.Frag) : Sp := fun vs H Q _ => ∃ (a : Addr) (ns : List Int) (k : Int), vs = [.ref a, .int k] ∧ SqL K H a (ns.map V.int) ∧ 0 ≤ k ∧ Q (.int (cell ns k)) H
theorem ok_cell_at {cc : Addr} (T : Txt K mg cc) : Cal P w K mg base 1 "_law_cell_at" (spCellA K) [] := by
  have Z := T.Z
  refine cal_of T.d__law_cell_at sc__law_cell_at (fun vs H Q E h => ?_) (fun f cdv A outer s H vs Q E hr h => ?_)
  · obtain ⟨a, ns, k, rfl, _⟩ := h
    rfl
  obtain ⟨a, ns, k, rfl, hS, hk, q⟩ := h
  refine ⟨_, (pss_cons (ps_if (pt_cmpR op_lt (pv 1) (pe_callB call_len_seq rfl Z.len PySem.boot_len (pa_cons (pv 0) pa_nil)) (nomark _)) (pss_one (ps_ret (pe_ix ix_list (pv 0) (pv 1) (fun _ _ => rfl)))) pss_nil)
  (pss_one (ps_ret pe_int))), ?_⟩
  refine ⟨_, rfl, _, rfl, a, _, rfl, .inl hS, _, _, rfl, rfl, _, rfl, ?_⟩
  rw [List.length_map]
  refine ite2 (fun c => ?_) (fun c => ?_)
  · have c' : k < (ns.length : Int) := of_decide_eq_true c
    have hl : k.toNat < ns.length := by omega
    refine ⟨_, rfl, _, rfl, a, _, k, .int (cell ns k), rfl, rfl, hS, at_of (j := k.toNat) (by omega) ?_, q⟩
    rw [List.getElem?_map, List.getElem?_eq_getElem hl]
    unfold cell
    rw [List.getD_eq_getElem?_getD, List.getElem?_eq_getElem hl]
    rfl
  · have c' : ¬ k < (ns.length : Int) := of_decide_eq_false (Bool.eq_false_iff.mpr c)
    have e : cell ns k = 0 := by
      unfold cell
      rw [List.getD_eq_getElem?_getD, List.getElem?_eq_none (by omega)]
      rfl
    rw [e] at q
    exact q
/-- one of three seals, its state new -/
def spSlBy (K : PySem.W.Frag) (mg : Str → Option Value) (PT : Addr) : Sp := fun vs H Q _ => ∃ (a : Addr) (ns : List Int), vs = [.ref a] ∧ SqL K H a (ns.map V.int) ∧ H PT = some (.tbl #[]) ∧ ∀ (S : Sys) (H' : Hp), Fam3 mg S → LamX.ExtN H H' → S.ok H' sizeLine → Q (.ref S.f) H'
theorem ok_seal_by {cc PT : Addr} (T : Txt K mg cc) (TB : LamX.TabB base mg cc PT) : Cal P w K mg base 2 "_law_seal_by" (spSlBy K mg PT) [] := by
  have Z := T.Z
  obtain ⟨fP, fdP, FP, mP, bP⟩ := T.d__law_plain.ex
  obtain ⟨fT, fdT, FT, mT, bT⟩ := T.d__law_turned.ex
  obtain ⟨fN, fdN, psN, dsN, FN, mN, kN, bN, vN⟩ := (cal_numbering (P := P) (w := w) T.m__law_numbering TB).ex
  have C__law_cell_at := ok_cell_at (P := P) (w := w) (base := base) T
  refine cal_of T.d__law_seal_by sc__law_seal_by (fun vs H Q E h => ?_) (fun f cdv A outer s H vs Q E hr h => ?_)
  · obtain ⟨a, ns, rfl, _⟩ := h
    rfl
  obtain ⟨a, ns, rfl, hS, hPT, q⟩ := h
  refine ⟨_, (pss_cons (ps_set (i := 1) sc__law_seal_by.nd rfl (Or.inl rfl) (pe_op op_mod (pe_op op_fdiv (pe_c C__law_cell_at hr (by omega) rfl (pa_cons (pv 0) (pa_cons pe_int pa_nil))) pe_int) pe_int))
  (pss_cons (ps_if (pt_cmpR op_eq (pv 1) pe_int (nomark _)) (pss_one (ps_ret (pe_glob (v := .ref fP) rfl mP rfl))) pss_nil)
  (pss_cons (ps_if (pt_cmpR op_eq (pv 1) pe_int (nomark _)) (pss_one (ps_ret (pe_glob (v := .ref fT) rfl mT rfl))) pss_nil)
  (pss_one (ps_ret (pe_call0 FN hr rfl mN kN bN vN pass0)))))), ?_⟩
  refine ⟨_, rfl, a, ns, 0, rfl, hS, Int.le_refl 0, _, 7, rfl, rfl, ⟨by decide, by decide⟩, _, 3, rfl, rfl, (by show (0 : Int) < 3; decide), ?_⟩
  refine ⟨_, rfl, rfl, _, rfl, ite2 (fun _ => ?_) (fun _ => ?_)⟩
  · exact q (plainSys tfP fP) H (.inl ⟨fP, mP, rfl⟩) (LamX.ExtN.refl H) True.intro
  refine ⟨_, rfl, rfl, _, rfl, ite2 (fun _ => ?_) (fun _ => ?_)⟩
  · exact q (plainSys tfT fT) H (.inr (.inl ⟨fT, mT, rfl⟩)) (LamX.ExtN.refl H) True.intro
  have e0 : dsN = [] := by
    cases vN
    rfl
  subst e0
  exact ⟨rfl, hPT, fun N H' x ok => q (numSys N) H' (.inr (.inr ⟨N, rfl⟩)) x ok⟩
end

/-! ### the greatest power of two below a number -/
def splitN (n : Nat) : Nat := 2 ^ (n - 1).log2
theorem splitN_pos (n : Nat) : 0 < splitN n := Nat.two_pow_pos _
theorem splitN_lt {n : Nat} (h : 2 ≤ n) : splitN n < n := by
  have q := Nat.log2_self_le (show n - 1 ≠ 0 by omega)
  unfold splitN
  omega
theorem splitN_ge {n : Nat} (h : 2 ≤ n) : n ≤ 2 * splitN n := by
  have q : n - 1 < 2 ^ ((n - 1).log2 + 1) := Nat.lt_log2_self
  rw [Nat.pow_succ] at q
  unfold splitN
  omega
theorem splitN_of {n i : Nat} (h1 : 2 ^ i < n) (h2 : n ≤ 2 * 2 ^ i) : splitN n = 2 ^ i := by
  have h0 : n - 1 ≠ 0 := by
    have := Nat.two_pow_pos i
    omega
  have a : i ≤ (n - 1).log2 := (Nat.le_log2 h0).mpr (by omega)
  have b : (n - 1).log2 < i + 1 := (Nat.log2_lt h0).mpr (by rw [Nat.pow_succ]; omega)
  unfold splitN
  rw [show (n - 1).log2 = i by omega]
theorem splitN_le_pow {n k : Nat} (h : 2 ≤ n) (hk : n ≤ 2 ^ (k + 1)) : splitN n ≤ 2 ^ k ∧ n - splitN n ≤ 2 ^ k := by
  have h0 : n - 1 ≠ 0 := by omega
  have a : (n - 1).log2 < k + 1 := (Nat.log2_lt h0).mpr (by omega)
  have b : splitN n ≤ 2 ^ k := Nat.pow_le_pow_right (by decide) (by omega)
  have c := splitN_ge h
  exact ⟨b, by omega⟩
/-! ### the top of a row -/
def nonT : Tm := .sl "none" (.int 0) (.int 0)
def pairT (a b : Tm) : Tm := .sl "pair" a b
def topT (ts : List Tm) : Tm :=
  if h : ts.length < 2 then ts.headD nonT else pairT (topT (ts.take (splitN ts.length))) (topT (ts.drop (splitN ts.length)))
termination_by ts.length
decreasing_by
  · rw [List.length_take]
    have := splitN_lt (n := ts.length) (by omega)
    omega
  · rw [List.length_drop]
    have := splitN_pos ts.length
    omega
theorem topT_nil : topT [] = nonT := by rw [topT]; rfl
theorem topT_one (t : Tm) : topT [t] = t := by rw [topT]; rfl
theorem topT_single {ts : List Tm} (h : ts.length = 1) : topT ts = ts.getD 0 nonT := by
  match ts, h with
  | [t], _ => exact topT_one t
theorem topT_more {ts : List Tm} (h : 2 ≤ ts.length) : topT ts = pairT (topT (ts.take (splitN ts.length))) (topT (ts.drop (splitN ts.length))) := by
  rw [topT, dif_neg (by omega)]
theorem topT_dep {d : Nat} : ∀ (k : Nat) (ts : List Tm), ts.length ≤ 2 ^ k → (∀ t ∈ ts, t.dep ≤ d) → (topT ts).dep ≤ d + k + 1
  | 0, [], _, _ => by rw [topT_nil]; show 0 + 1 ≤ _; omega
  | 0, [t], _, h => by rw [topT_one]; have := h t List.mem_cons_self; omega
  | 0, t :: u :: r, h, _ => by simp at h
  | k + 1, ts, hl, h => by
    by_cases h2 : 2 ≤ ts.length
    · rw [topT_more h2]
      obtain ⟨a, b⟩ := splitN_le_pow h2 hl
      have e1 := topT_dep k (ts.take (splitN ts.length)) (by rw [List.length_take]; omega) fun t ht => h t (List.mem_of_mem_take ht)
      have e2 := topT_dep k (ts.drop (splitN ts.length)) (by rw [List.length_drop]; omega) fun t ht => h t (List.mem_of_mem_drop ht)
      show max _ _ + 1 ≤ _
      omega
    · match ts, h2 with
      | [], _ => rw [topT_nil]; show 0 + 1 ≤ _; omega
      | [t], _ => rw [topT_one]; have := h t List.mem_cons_self; omega
      | t :: u :: r, h2 => exact absurd (show 2 ≤ (t :: u :: r).length by simp) h2
/-- how many tellings a top wants -/
def costT (n : Nat) : Nat := if n = 0 then 1 else n - 1
theorem costT_split {n : Nat} (h : 2 ≤ n) : costT (splitN n) + costT (n - splitN n) + 1 ≤ costT n := by
  have a := splitN_pos n
  have b := splitN_lt h
  unfold costT
  rw [if_neg (by omega), if_neg (by omega), if_neg (by omega)]
  omega
theorem costT_le (n : Nat) : costT n ≤ n + 1 := by
  unfold costT
  split <;> omega

/-! ### split and the top, by the law's own defs -/
section
variable {P : Program} {w : World} {K : PySem.W.Frag} {mg : Str → Option Value} {base : Heap} {Fam : Sys → Prop}
/-- a def of which nothing is asked -/
def spNo : Sp := fun _ _ _ _ => False
theorem cal_no {x : Str} {st : Stmt} {ps : List Str} (D : DefX K mg x st ps) (k : Nat) : Cal P w K mg base k x spNo [] := by
  obtain ⟨f, fd, F, m, b⟩ := D.ex
  exact ⟨f, fd, ps, [], ⟨fun _ _ _ _ h => h.elim, fun _ _ _ _ _ _ _ _ _ _ _ _ _ h => h.elim⟩, m, F.kp, .all b, .nil⟩
theorem cal_mono {x : Str} {j k : Nat} {sp : Sp} {dvs : List V} (c : Cal P w K mg base j x sp dvs) (h : j ≤ k) : Cal P w K mg base k x sp dvs := by
  obtain ⟨f, fd, ps, ds, F, m, kp, b, v⟩ := c.ex
  exact ⟨f, fd, ps, ds, F.mono h, m, kp, b, v⟩
def spSplit : Sp := fun vs H Q _ => ∃ n : Nat, vs = [.int (n : Int)] ∧ 2 ≤ n ∧ n.log2 ≤ 100000 ∧ Q (.int ((splitN n : Nat) : Int)) H
theorem pow_cast (i : Nat) : (((2 ^ i : Nat) : Nat) : Int) = 2 ^ i := by
  rw [Int.natCast_pow]
  rfl
theorem ok_law_split {cc : Addr} (T : Txt K mg cc) : Cal P w K mg base 1 "_law_split" spSplit [] := by
  refine cal_of T.d__law_split sc__law_split (fun vs H Q E h => ?_) (fun f cdv A outer s H vs Q E hr h => ?_)
  · obtain ⟨n, rfl, _⟩ := h
    rfl
  obtain ⟨n, rfl, h2, hl, q⟩ := h
  refine ⟨_, (pss_cons (ps_set (i := 1) sc__law_split.nd rfl (Or.inl rfl) pe_int)
  (pss_cons (ps_while PassesOwn.never (pt_cmpR op_lt (pe_op op_mul (pv 1) pe_int) (pv 0) (nomark _)) (pss_one (ps_set (i := 1) sc__law_split.nd rfl (Or.inl rfl) (pe_op op_mul (pv 1) pe_int))))
  (pss_one (ps_ret (pv 1))))), ?_⟩
  refine ⟨fun m σ H' => ∃ i : Nat, m = n - 2 ^ i ∧ 2 ^ i < n ∧ σ = [some (.int (n : Int)), some (.int ((2 ^ i : Nat) : Int))] ∧ H' = H, ⟨_, 0, rfl, by simp; omega, rfl, rfl⟩, ?_⟩
  rintro m σ H' ⟨i, rfl, hi, rfl, rfl⟩
  have cm : CMul ((2 ^ i : Nat) : Int) 2 := .inr ⟨by decide, by decide⟩
  refine ⟨_, rfl, _, 2, rfl, rfl, cm, _, rfl, _, _, rfl, rfl, _, rfl, ite2 (fun c => ?_) (fun c => ?_)⟩
  · have c' : ((2 ^ i : Nat) : Int) * 2 < (n : Int) := of_decide_eq_true c
    refine ⟨fun σ' H'' => ∃ j : Nat, j = i + 1 ∧ σ' = [some (.int (n : Int)), some (.int ((2 ^ j : Nat) : Int))] ∧ H'' = H', fun σ' H'' ⟨j, ej, es, eh⟩ => ⟨n - 2 ^ j, ?_, j, rfl, ?_, es, eh⟩, ?_⟩
    · subst ej
      rw [Nat.pow_succ]
      have := Nat.two_pow_pos i
      omega
    · subst ej
      rw [Nat.pow_succ]
      omega
    · refine ⟨_, rfl, _, 2, rfl, rfl, cm, i + 1, rfl, ?_, rfl⟩
      have e : ((2 ^ i : Nat) : Int) * 2 = ((2 ^ (i + 1) : Nat) : Int) := by
        rw [Nat.pow_succ]
        omega
      show [some (V.int (n : Int)), some (V.int (((2 ^ i : Nat) : Int) * 2))] = _
      rw [e]
  · have c' : ¬ ((2 ^ i : Nat) : Int) * 2 < (n : Int) := of_decide_eq_false (Bool.eq_false_iff.mpr c)
    have e : splitN n = 2 ^ i := splitN_of hi (by omega)
    rw [e] at q
    exact ⟨_, rfl, q⟩
/-- the top of a row of leaves: two to the k of them at most -/
def spTop (K : PySem.W.Frag) (Fam : Sys → Prop) (k : Nat) : Sp := fun vs H Q _ => ∃ (S : Sys) (a : Addr) (xs : List V) (ts : List Tm) (r : Nat), Fam S ∧ vs = [.ref S.f, .ref a] ∧ SqL K H a xs ∧ DenL S H xs ts ∧ k ≠ 0 ∧ ts.length ≤ 2 ^ (k - 1) ∧ ts.length ≤ 1000 ∧ S.ok H (r + costT ts.length) ∧
  ∀ v H', Ext H H' → S.ok H' r → S.den H' v (topT ts) → Q v H'
theorem atI_den {S : Sys} {H : Hp} {xs : List V} {ts : List Tm} (h : DenL S H xs ts) {i : Int} (h0 : 0 ≤ i) (h1 : i < (ts.length : Int)) : ∃ v, atI xs i = some v ∧ S.den H v (ts.getD i.toNat nonT) := by
  have hi : i.toNat < ts.length := by omega
  obtain ⟨v, e, d⟩ := h.get hi
  refine ⟨v, at_of (j := i.toNat) (by omega) e, ?_⟩
  rw [List.getD_eq_getElem?_getD, List.getElem?_eq_getElem hi]
  exact d
theorem ok_law_top1 {cc : Addr} {k : Nat} (T : Txt K mg cc) (A : SlA P w K mg base Fam) (C__law_top : Cal P w K mg base (k + 2) "_law_top" (spTop K Fam k) []) : Cal P w K mg base (k + 3) "_law_top" (spTop K Fam (k + 1)) [] := by
  have Z := T.Z
  have C__law_split := ok_law_split (P := P) (w := w) (base := base) T
  refine cal_of T.d__law_top sc__law_top (fun vs H Q E h => ?_) (fun f cdv A' outer s H vs Q E hr h => ?_)
  · obtain ⟨S, a, xs, ts, r, _, rfl, _⟩ := h
    rfl
  obtain ⟨S, a, xs, ts, r, hF, rfl, hS, hD, _, hk, hl, hok, q⟩ := h
  have hlen := hD.len
  have G := A.good hF
  refine ⟨_, (pss_cons (ps_if (pt_cmpR op_eq (pe_callB call_len_seq rfl Z.len PySem.boot_len (pa_cons (pv 1) pa_nil)) pe_int (nomark _)) (pss_one (ps_ret (pe_sl (i := 0) A.held hr (by omega) rfl (by first | exact Or.inl rfl | exact Or.inr (Or.inl rfl) | exact Or.inr (Or.inr rfl)) (pa_cons pe_str (pa_cons pe_int (pa_cons pe_int pa_nil)))))) pss_nil)
  (pss_cons (ps_if (pt_cmpR op_eq (pe_callB call_len_seq rfl Z.len PySem.boot_len (pa_cons (pv 1) pa_nil)) pe_int (nomark _)) (pss_one (ps_ret (pe_ix ix_list (pv 1) pe_int (fun _ _ => rfl)))) pss_nil)
  (pss_cons (ps_set (i := 2) sc__law_top.nd rfl (Or.inl rfl) (pe_c C__law_split hr (by omega) rfl (pa_cons (pe_callB call_len_seq rfl Z.len PySem.boot_len (pa_cons (pv 1) pa_nil)) pa_nil)))
  (pss_one (ps_ret (pe_sl (i := 0) A.held hr (by omega) rfl (by first | exact Or.inl rfl | exact Or.inr (Or.inl rfl) | exact Or.inr (Or.inr rfl)) (pa_cons pe_str (pa_cons (pe_c C__law_top hr (by omega) rfl (pa_cons (pv 0) (pa_cons (pe_slice sl_list (pv 1) po_none (po_some (pv 2))) pa_nil))) (pa_cons (pe_c C__law_top hr (by omega) rfl (pa_cons (pv 0) (pa_cons (pe_slice sl_list (pv 1) (po_some (pv 2)) po_none) pa_nil))) pa_nil))))))))), ?_⟩
  -- no leaf
  refine ⟨_, rfl, a, _, rfl, .inl hS, rfl, _, rfl, ite2 (fun c => ?_) (fun c => ?_)⟩
  · have c' : (xs.length : Int) = 0 := V.int.inj (of_decide_eq_true c)
    have e : ts = [] := List.eq_nil_of_length_eq_zero (by omega)
    subst e
    refine ⟨S, _, hF, rfl, hok, r, "none", .int 0, .int 0, _, _, rfl, by decide +kernel, hok, G.int 0 hok, G.int 0 hok, fun v H' e ok d => q v H' e ok ?_⟩
    rw [topT_nil]
    exact d
  have n0 : xs.length ≠ 0 := fun z => c (decide_eq_true (by rw [z]; rfl))
  -- one
  refine ⟨_, rfl, a, _, rfl, .inl hS, rfl, _, rfl, ite2 (fun c => ?_) (fun c => ?_)⟩
  · have c' : (xs.length : Int) = 1 := V.int.inj (of_decide_eq_true c)
    obtain ⟨v, hv, dv⟩ := atI_den hD (i := 0) (Int.le_refl 0) (by omega)
    refine ⟨_, rfl, a, xs, 0, v, rfl, rfl, hS, hv, q v H (Ext.refl H) ?_ ?_⟩
    · refine G.less hok ?_
      omega
    · rw [topT_single (by omega)]
      exact dv
  have n1 : xs.length ≠ 1 := fun z => c (decide_eq_true (by rw [z]; rfl))
  -- more
  have h2 : 2 ≤ ts.length := by omega
  have hsl := splitN_lt h2
  have hsp := splitN_pos ts.length
  have hk1 : ts.length ≤ 2 ^ k := hk
  obtain ⟨k', rfl⟩ : ∃ k', k = k' + 1 := by
    cases k with
    | zero => simp at hk1; omega
    | succ k' => exact ⟨k', rfl⟩
  obtain ⟨b1, b2⟩ := splitN_le_pow h2 hk1
  have hcs := costT_split h2
  have lg := Nat.log2_le_self ts.length
  refine ⟨_, rfl, a, _, rfl, .inl hS, ts.length, by rw [hlen] <;> rfl, h2, by omega, ?_⟩
  refine ⟨S, _, hF, rfl, hok, ?_⟩
  -- the first part
  refine ⟨_, rfl, _, rfl, _, rfl, ((splitN ts.length : Nat) : Int), rfl, a, _, rfl, hS, fun p hp => ?_⟩
  rw [cut_to]
  have x1 := Ext.new (o := .lst (xs.take (splitN ts.length))) hp
  have k1 := Kp.new (o := .lst (xs.take (splitN ts.length))) hp
  refine ⟨S, p, _, ts.take (splitN ts.length), r + 1 + costT (ts.length - splitN ts.length), hF, rfl, SqL.of upd_same, (hD.take _).mono G k1.gr, by omega, ?_, ?_, ?_, fun v1 H1 x2 ok1 d1 => ?_⟩
  · rw [List.length_take]
    show _ ≤ 2 ^ k'
    omega
  · rw [List.length_take]
    omega
  · rw [List.length_take, Nat.min_eq_left (by omega)]
    exact G.less (G.keep k1 hok) (by omega)
  -- the rest
  have xx := x1.trans x2
  refine ⟨_, rfl, _, rfl, _, rfl, ((splitN ts.length : Nat) : Int), rfl, a, _, rfl, xx.seq hS, fun p2 hp2 => ?_⟩
  rw [cut_from]
  have x3 := Ext.new (o := .lst (xs.drop (splitN ts.length))) hp2
  have k3 := Kp.new (o := .lst (xs.drop (splitN ts.length))) hp2
  refine ⟨S, p2, _, ts.drop (splitN ts.length), r + 1, hF, rfl, SqL.of upd_same, ((hD.drop _).mono G xx.gr).mono G k3.gr, by omega, ?_, ?_, ?_, fun v2 H2 x4 ok2 d2 => ?_⟩
  · rw [List.length_drop]
    show _ ≤ 2 ^ k'
    omega
  · rw [List.length_drop]
    omega
  · rw [List.length_drop]
    exact G.keep k3 ok1
  refine ⟨r, "pair", topT (ts.take (splitN ts.length)), topT (ts.drop (splitN ts.length)), _, _, rfl, by decide +kernel, ok2, G.mono (x3.trans x4).gr d1, d2, fun v H' x5 ok3 d3 => ?_⟩
  refine q v H' (((xx.trans x3).trans x4).trans x5) ok3 ?_
  rw [topT_more h2]
  exact d3
theorem ok_law_top {cc : Addr} (T : Txt K mg cc) (A : SlA P w K mg base Fam) : ∀ k : Nat, Cal P w K mg base (k + 2) "_law_top" (spTop K Fam k) []
  | 0 => by
    obtain ⟨f, fd, ps, ds, F, m, kp, b, v⟩ := (cal_no (P := P) (w := w) (base := base) T.d__law_top 2).ex
    exact ⟨f, fd, ps, ds, F.imp fun vs H Q E h => by obtain ⟨_, _, _, _, _, _, _, _, _, z, _⟩ := h; exact absurd rfl z, m, kp, b, v⟩
  | k + 1 => ok_law_top1 T A (ok_law_top T A k)
end


/-! ### the program's seals and tops -/
section
variable {P : Program} {w : World} {K : PySem.W.Frag} {mg : Str → Option Value} {base : Heap} {Fam : Sys → Prop}
def spNone (Fam : Sys → Prop) : Sp := fun vs H Q _ => ∃ (S : Sys) (r : Nat), Fam S ∧ vs = [.ref S.f] ∧ S.ok H (r + 1) ∧ ∀ v H', Ext H H' → S.ok H' r → S.den H' v nonT → Q v H'
theorem ok_none_seal {cc : Addr} (T : Txt K mg cc) (A : SlA P w K mg base Fam) : Cal P w K mg base 2 "none_seal" (spNone Fam) [] := by
  refine cal_of T.d_none_seal sc_none_seal (fun vs H Q E h => ?_) (fun f cdv A' outer s H vs Q E hr h => ?_)
  · obtain ⟨S, r, _, rfl, _⟩ := h
    rfl
  obtain ⟨S, r, hF, rfl, hok, q⟩ := h
  have G := A.good hF
  refine ⟨_, (pss_one (ps_ret (pe_sl (i := 0) A.held hr (by omega) rfl (by first | exact Or.inl rfl | exact Or.inr (Or.inl rfl) | exact Or.inr (Or.inr rfl)) (pa_cons pe_str (pa_cons pe_int (pa_cons pe_int pa_nil)))))), ?_⟩
  exact ⟨S, _, hF, rfl, hok, r, "none", .int 0, .int 0, _, _, rfl, by decide +kernel, hok, G.int 0 hok, G.int 0 hok, fun v H' e ok d => q v H' e ok d⟩
def spPair (Fam : Sys → Prop) : Sp := fun vs H Q _ => ∃ (S : Sys) (va vb : V) (a b : Tm) (r : Nat), Fam S ∧ vs = [.ref S.f, va, vb] ∧ S.ok H (r + 1) ∧ S.den H va a ∧ S.den H vb b ∧ ∀ v H', Ext H H' → S.ok H' r → S.den H' v (pairT a b) → Q v H'
theorem ok_pair_seal {cc : Addr} (T : Txt K mg cc) (A : SlA P w K mg base Fam) : Cal P w K mg base 2 "pair_seal" (spPair Fam) [] := by
  refine cal_of T.d_pair_seal sc_pair_seal (fun vs H Q E h => ?_) (fun f cdv A' outer s H vs Q E hr h => ?_)
  · obtain ⟨S, va, vb, a, b, r, _, rfl, _⟩ := h
    rfl
  obtain ⟨S, va, vb, a, b, r, hF, rfl, hok, ha, hb, q⟩ := h
  refine ⟨_, (pss_one (ps_ret (pe_sl (i := 0) A.held hr (by omega) rfl (by first | exact Or.inl rfl | exact Or.inr (Or.inl rfl) | exact Or.inr (Or.inr rfl)) (pa_cons pe_str (pa_cons (pv 1) (pa_cons (pv 2) pa_nil)))))), ?_⟩
  exact ⟨S, _, hF, rfl, hok, _, rfl, _, rfl, r, "pair", a, b, _, _, rfl, by decide +kernel, hok, ha, hb, fun v H' e ok d => q v H' e ok d⟩
end

section
variable {P : Program} {w : World} {K : PySem.W.Frag} {mg : Str → Option Value} {base : Heap} {Fam : Sys → Prop}
theorem ok_split {cc : Addr} (T : Txt K mg cc) : Cal P w K mg base 1 "split" spSplit [] := by
  refine cal_of T.d_split sc_split (fun vs H Q E h => ?_) (fun f cdv A outer s H vs Q E hr h => ?_)
  · obtain ⟨n, rfl, _⟩ := h
    rfl
  obtain ⟨n, rfl, h2, hl, q⟩ := h
  refine ⟨_, (pss_one (ps_ret (pe_op op_shl pe_int (pe_op op_sub (pe_bits (pe_op op_sub (pv 0) pe_int)) pe_int)))), ?_⟩
  have h0 : n - 1 ≠ 0 := by omega
  have lg : (n - 1).log2 ≤ n.log2 := by
    refine (Nat.le_log2 (by omega)).mpr ?_
    have := Nat.log2_self_le h0
    omega
  have e1 : ((Builtin.Int.intBits ((n : Int) - 1) : Nat) : Int) - 1 = (((n - 1).log2 : Nat) : Int) := by
    have e2 : (n : Int) - 1 = ((n - 1 : Nat) : Int) := by omega
    rw [e2]
    unfold Builtin.Int.intBits
    have e3 : (((n - 1 : Nat) : Int) == 0) = false := by
      rw [beq_eq_false_iff_ne]
      omega
    rw [e3]
    show ((((n - 1 : Nat) : Int).natAbs.log2 + 1 : Nat) : Int) - 1 = _
    rw [Int.natAbs_natCast]
    omega
  refine ⟨_, rfl, _, 1, rfl, rfl, (n : Int) - 1, rfl, _, 1, rfl, rfl, 1, _, rfl, rfl, ?_, ?_⟩
  · rw [e1]
    exact ⟨by omega, by omega, by decide⟩
  · rw [e1]
    show Q (.int (1 * 2 ^ ((((n - 1).log2 : Nat) : Int)).toNat)) H
    rw [Int.toNat_natCast, Int.one_mul, ← pow_cast]
    exact q
theorem ok_top_of1 {cc : Addr} {k : Nat} (T : Txt K mg cc) (A : SlA P w K mg base Fam) (C_top_of : Cal P w K mg base (k + 3) "top_of" (spTop K Fam k) []) : Cal P w K mg base (k + 4) "top_of" (spTop K Fam (k + 1)) [] := by
  have Z := T.Z
  have C_split := ok_split (P := P) (w := w) (base := base) T
  have C_none_seal := ok_none_seal T A
  have C_pair_seal := ok_pair_seal T A
  refine cal_of T.d_top_of sc_top_of (fun vs H Q E h => ?_) (fun f cdv A' outer s H vs Q E hr h => ?_)
  · obtain ⟨S, a, xs, ts, r, _, rfl, _⟩ := h
    rfl
  obtain ⟨S, a, xs, ts, r, hF, rfl, hS, hD, _, hk, hl, hok, q⟩ := h
  have hlen := hD.len
  have G := A.good hF
  refine ⟨_, (pss_cons (ps_if (pt_cmpR op_eq (pe_callB call_len_seq rfl Z.len PySem.boot_len (pa_cons (pv 1) pa_nil)) pe_int (nomark _)) (pss_one (ps_ret (pe_c C_none_seal hr (by omega) rfl (pa_cons (pv 0) pa_nil)))) pss_nil)
  (pss_cons (ps_if (pt_cmpR op_eq (pe_callB call_len_seq rfl Z.len PySem.boot_len (pa_cons (pv 1) pa_nil)) pe_int (nomark _)) (pss_one (ps_ret (pe_ix ix_list (pv 1) pe_int (fun _ _ => rfl)))) pss_nil)
  (pss_cons (ps_set (i := 2) sc_top_of.nd rfl (Or.inl rfl) (pe_c C_split hr (by omega) rfl (pa_cons (pe_callB call_len_seq rfl Z.len PySem.boot_len (pa_cons (pv 1) pa_nil)) pa_nil)))
  (pss_one (ps_ret (pe_c C_pair_seal hr (by omega) rfl (pa_cons (pv 0) (pa_cons (pe_c C_top_of hr (by omega) rfl (pa_cons (pv 0) (pa_cons (pe_slice sl_list (pv 1) po_none (po_some (pv 2))) pa_nil))) (pa_cons (pe_c C_top_of hr (by omega) rfl (pa_cons (pv 0) (pa_cons (pe_slice sl_list (pv 1) (po_some (pv 2)) po_none) pa_nil))) pa_nil))))))))), ?_⟩
  -- no leaf
  refine ⟨_, rfl, a, _, rfl, .inl hS, rfl, _, rfl, ite2 (fun c => ?_) (fun c => ?_)⟩
  · have c' : (xs.length : Int) = 0 := V.int.inj (of_decide_eq_true c)
    have e : ts = [] := List.eq_nil_of_length_eq_zero (by omega)
    subst e
    refine ⟨_, rfl, S, r, hF, rfl, hok, fun v H' e ok d => q v H' e ok ?_⟩
    rw [topT_nil]
    exact d
  have n0 : xs.length ≠ 0 := fun z => c (decide_eq_true (by rw [z]; rfl))
  -- one
  refine ⟨_, rfl, a, _, rfl, .inl hS, rfl, _, rfl, ite2 (fun c => ?_) (fun c => ?_)⟩
  · have c' : (xs.length : Int) = 1 := V.int.inj (of_decide_eq_true c)
    obtain ⟨v, hv, dv⟩ := atI_den hD (i := 0) (Int.le_refl 0) (by omega)
    refine ⟨_, rfl, a, xs, 0, v, rfl, rfl, hS, hv, q v H (Ext.refl H) ?_ ?_⟩
    · refine G.less hok ?_
      omega
    · rw [topT_single (by omega)]
      exact dv
  have n1 : xs.length ≠ 1 := fun z => c (decide_eq_true (by rw [z]; rfl))
  -- more
  have h2 : 2 ≤ ts.length := by omega
  have hsl := splitN_lt h2
  have hsp := splitN_pos ts.length
  have hk1 : ts.length ≤ 2 ^ k := hk
  obtain ⟨k', rfl⟩ : ∃ k', k = k' + 1 := by
    cases k with
    | zero => simp at hk1; omega
    | succ k' => exact ⟨k', rfl⟩
  obtain ⟨b1, b2⟩ := splitN_le_pow h2 hk1
  have hcs := costT_split h2
  have lg := Nat.log2_le_self ts.length
  refine ⟨_, rfl, a, _, rfl, .inl hS, ts.length, by rw [hlen] <;> rfl, h2, by omega, ?_⟩
  refine ⟨_, rfl, ?_⟩
  -- the first part
  refine ⟨_, rfl, _, rfl, _, rfl, ((splitN ts.length : Nat) : Int), rfl, a, _, rfl, hS, fun p hp => ?_⟩
  rw [cut_to]
  have x1 := Ext.new (o := .lst (xs.take (splitN ts.length))) hp
  have k1 := Kp.new (o := .lst (xs.take (splitN ts.length))) hp
  refine ⟨S, p, _, ts.take (splitN ts.length), r + 1 + costT (ts.length - splitN ts.length), hF, rfl, SqL.of upd_same, (hD.take _).mono G k1.gr, by omega, ?_, ?_, ?_, fun v1 H1 x2 ok1 d1 => ?_⟩
  · rw [List.length_take]
    show _ ≤ 2 ^ k'
    omega
  · rw [List.length_take]
    omega
  · rw [List.length_take, Nat.min_eq_left (by omega)]
    exact G.less (G.keep k1 hok) (by omega)
  -- the rest
  have xx := x1.trans x2
  refine ⟨_, rfl, _, rfl, _, rfl, ((splitN ts.length : Nat) : Int), rfl, a, _, rfl, xx.seq hS, fun p2 hp2 => ?_⟩
  rw [cut_from]
  have x3 := Ext.new (o := .lst (xs.drop (splitN ts.length))) hp2
  have k3 := Kp.new (o := .lst (xs.drop (splitN ts.length))) hp2
  refine ⟨S, p2, _, ts.drop (splitN ts.length), r + 1, hF, rfl, SqL.of upd_same, ((hD.drop _).mono G xx.gr).mono G k3.gr, by omega, ?_, ?_, ?_, fun v2 H2 x4 ok2 d2 => ?_⟩
  · rw [List.length_drop]
    show _ ≤ 2 ^ k'
    omega
  · rw [List.length_drop]
    omega
  · rw [List.length_drop]
    exact G.keep k3 ok1
  refine ⟨S, _, _, topT (ts.take (splitN ts.length)), topT (ts.drop (splitN ts.length)), r, hF, rfl, ok2, G.mono (x3.trans x4).gr d1, d2, fun v H' x5 ok3 d3 => ?_⟩
  refine q v H' (((xx.trans x3).trans x4).trans x5) ok3 ?_
  rw [topT_more h2]
  exact d3
theorem ok_top_of {cc : Addr} (T : Txt K mg cc) (A : SlA P w K mg base Fam) : ∀ k : Nat, Cal P w K mg base (k + 3) "top_of" (spTop K Fam k) []
  | 0 => by
    obtain ⟨f, fd, ps, ds, F, m, kp, b, v⟩ := (cal_no (P := P) (w := w) (base := base) T.d_top_of 3).ex
    exact ⟨f, fd, ps, ds, F.imp fun vs H Q E h => by obtain ⟨_, _, _, _, _, _, _, _, _, z, _⟩ := h; exact absurd rfl z, m, kp, b, v⟩
  | k + 1 => ok_top_of1 T A (ok_top_of T A k)
end

/-! ### for the law: equal things are seen equal; the head -/
section
variable {K : PySem.W.Frag} {H : Hp} {S : Sys}
theorem shaped_of {d : PyData} (h : d.canLay0 = true) (hd : d.depth ≤ 64) : SeqAt.shaped d = true := by
  unfold SeqAt.shaped
  rw [h, decide_eq_true hd]
  rfl
theorem eqv_self {d : PyData} (h : d.canLay0 = true) : PyData.eqv d d = true := SeqAt.eqv_refl d h
theorem eq_rows (G : S.Good K) {p p' : Addr} {xs ys : List V} {ts : List Tm} (hp : SqL K H p xs) (hp' : SqL K H p' ys) (h : DenL S H xs ts) (h' : DenL S H ys ts) (hd : ∀ t ∈ ts, t.dep ≤ 60) :
    ∃ d, Dp K H (.ref p) d ∧ Dp K H (.ref p') d ∧ SeqAt.shaped d = true ∧ PyData.eqv d d = true := by
  obtain ⟨ds, a, b, c, e⟩ := DenL.same G h h' hd
  have c' : (PyData.list ds).canLay0 = true := c
  exact ⟨.list ds, .lst hp a, .lst hp' b, shaped_of c' (by show PyData.depthAll ds + 1 ≤ 64; omega), eqv_self c'⟩
theorem eq_tm (G : S.Good K) {v v' : V} {t : Tm} (h : S.den H v t) (h' : S.den H v' t) (hd : t.dep ≤ 60) :
    ∃ d, Dp K H v d ∧ Dp K H v' d ∧ SeqAt.shaped d = true ∧ PyData.eqv d d = true := by
  obtain ⟨d, a, b, c, e⟩ := G.same h h'
  exact ⟨d, a, b, shaped_of c (by omega), eqv_self c⟩
theorem ext_seq {K : PySem.W.Frag} {H H' : Hp} {a : Addr} {xs : List V} (e : LamX.ExtN H H') (h : SqL K H a xs) : SqL K H' a xs := by
  rcases h with (h | ⟨o, h⟩) | h
  · exact .inl (.inl (e _ _ h fun _ z => nomatch z))
  · exact .inl (.inr ⟨o, e _ _ h fun _ z => nomatch z⟩)
  · exact .inr h
end
/-- a row's places -/
theorem map_int_mem {l : List Int} {x : V} (h : x ∈ l.map V.int) : ∃ z ∈ l, x = .int z := by
  obtain ⟨z, hz, e⟩ := List.mem_map.mp h
  exact ⟨z, hz, e.symm⟩
/-- the law's promise; a table of code objects at PT -/
def spLaw (K : PySem.W.Frag) (PT : Addr) : Sp := fun vs H Q _ => ∃ (a : Addr) (ns : List Int), vs = [.ref a] ∧ SqL K H a (ns.map V.int) ∧ ns.length ≤ 63 ∧ H PT = some (.tbl #[]) ∧ ∀ H', Q (.bl true) H'
theorem law_end {l : PySem.W.OpenLaw} {w : World} {K : PySem.W.Frag} {h : Heap} {mg : Str → Option Value} {fa c PT : Addr} {k : Nat} (X : K.In h) (hP : ∀ Q ∈ [PT], h.get? Q = some (PySem.W.tabObj #[])) (nP : K.lookup PT = none) (hc : PySem.W.codeHdIn K c PT = true)
    (F : ∃ fd : FuncData, (∀ (s : Shared) (v : Value), BindsTo s fd ⟨[v], []⟩ [("_law_script", v)]) ∧ ∀ base : Heap, K.In base → base.Ns mainGlobals mg → LamX.TabB base mg c PT → FnOk l.prog w K mg base L2.CX0 k fa fd ["_law_script"] (spLaw K PT)) :
    LamX.LawAtS l w K L2.CX0 k 63 "_law_script" mg fa h := by
  obtain ⟨fd, hb, hF⟩ := F
  refine ⟨fd, [(c, PT)], spLaw K PT, fun p hp => ?_, fun p hp => ?_, fun p hp => ?_, hb, fun H a ns hl _ hT hS => ⟨a, ns, rfl, hS, hl, hT _ (List.mem_singleton.mpr rfl), fun _ => rfl⟩, fun base KB NB TB => hF base KB NB (TB _ (List.mem_singleton.mpr rfl))⟩
  · rw [List.mem_singleton.mp hp]
    exact hP PT (List.mem_singleton.mpr rfl)
  · rw [List.mem_singleton.mp hp]
    exact nP
  · rw [List.mem_singleton.mp hp]
    exact PySem.W.codeHd_of_K X hc
theorem law_fnT {P : Program} {w : World} {K : PySem.W.Frag} {mg : Str → Option Value} {x p : Str} {st : Stmt} {N : List Str} {k : Nat} {sp : Sp} {fa c PT : Addr} (D : DefX K mg x st [p]) (hfa : mg x = some (.ref fa)) (S : FnScope N [p] (defScope st)) (len : ∀ vs H Q E, sp vs H Q E → vs.length = 1)
    (hbody : ∀ (base : Heap), LamX.TabB base mg c PT → ∀ (f : Addr) (cdv : Value) (A : Around) (outer : List Env) (s : Shared) (H : Hp) (vs : List V) (Q : VK) (E : XK), Room k (A.deeper (envOfC x (defScope st) s.heap.objs.size f cdv)) → sp vs H Q E →
      ∃ t, PSs (cxOf L2.CX0 P w K mg base N x (defScope st) f cdv A outer s H E).nox (defBody st) t ∧ t { nx := fun _ H' => Q .non H', rt := Q } (start N vs) H) :
    ∃ fd : FuncData, (∀ (s : Shared) (v : Value), BindsTo s fd ⟨[v], []⟩ [(p, v)]) ∧ ∀ base : Heap, K.In base → base.Ns mainGlobals mg → LamX.TabB base mg c PT → FnOk P w K mg base L2.CX0 (k + 1) fa fd [p] sp := by
  obtain ⟨f, fd, F, m, b⟩ := D.ex
  have e := hfa.symm.trans m
  cases e
  exact ⟨fd, fun s v => .of_eq (b [v] rfl), fun base _ _ TB => F.ok S len (hbody base TB fa)⟩

/-! ### paths -/
def plen (place n : Nat) : Nat :=
  if h : n < 2 then 0 else if place < splitN n then plen place (splitN n) + 1 else plen (place - splitN n) (n - splitN n) + 1
termination_by n
decreasing_by
  · exact splitN_lt (by omega)
  · have := splitN_pos n
    omega
theorem plen_one {place n : Nat} (h : n < 2) : plen place n = 0 := by rw [plen, dif_pos h]
theorem plen_low {place n : Nat} (h : 2 ≤ n) (hp : place < splitN n) : plen place n = plen place (splitN n) + 1 := by rw [plen, dif_neg (by omega), if_pos hp]
theorem plen_high {place n : Nat} (h : 2 ≤ n) (hp : ¬ place < splitN n) : plen place n = plen (place - splitN n) (n - splitN n) + 1 := by rw [plen, dif_neg (by omega), if_neg hp]
theorem plen_le : ∀ (k place n : Nat), n ≤ 2 ^ k → plen place n ≤ k
  | k, place, n, h => by
    by_cases h2 : n < 2
    · rw [plen_one h2]
      exact Nat.zero_le _
    · cases k with
      | zero => simp at h; omega
      | succ k =>
        obtain ⟨a, b⟩ := splitN_le_pow (show 2 ≤ n by omega) h
        by_cases hp : place < splitN n
        · rw [plen_low (by omega) hp]
          have := plen_le k place (splitN n) a
          omega
        · rw [plen_high (by omega) hp]
          have := plen_le k (place - splitN n) (n - splitN n) b
          omega
def pathT (ts : List Tm) (place : Nat) : List Tm :=
  if h : ts.length < 2 then [] else
    if place < splitN ts.length then pathT (ts.take (splitN ts.length)) place ++ [topT (ts.drop (splitN ts.length))]
    else pathT (ts.drop (splitN ts.length)) (place - splitN ts.length) ++ [topT (ts.take (splitN ts.length))]
termination_by ts.length
decreasing_by
  · rw [List.length_take]
    have := splitN_lt (n := ts.length) (by omega)
    omega
  · rw [List.length_drop]
    have := splitN_pos ts.length
    omega
theorem pathT_one {ts : List Tm} {place : Nat} (h : ts.length < 2) : pathT ts place = [] := by rw [pathT, dif_pos h]
theorem pathT_low {ts : List Tm} {place : Nat} (h : 2 ≤ ts.length) (hp : place < splitN ts.length) : pathT ts place = pathT (ts.take (splitN ts.length)) place ++ [topT (ts.drop (splitN ts.length))] := by
  rw [pathT, dif_neg (by omega), if_pos hp]
theorem pathT_high {ts : List Tm} {place : Nat} (h : 2 ≤ ts.length) (hp : ¬ place < splitN ts.length) : pathT ts place = pathT (ts.drop (splitN ts.length)) (place - splitN ts.length) ++ [topT (ts.take (splitN ts.length))] := by
  rw [pathT, dif_neg (by omega), if_neg hp]
theorem pathT_len (ts : List Tm) (place : Nat) : (pathT ts place).length = plen place ts.length := by
  by_cases h : ts.length < 2
  · rw [pathT_one h, plen_one h]
    rfl
  · have hs := splitN_lt (n := ts.length) (by omega)
    have hs0 := splitN_pos ts.length
    have e1 : (ts.take (splitN ts.length)).length = splitN ts.length := by
      rw [List.length_take]
      omega
    have e2 : (ts.drop (splitN ts.length)).length = ts.length - splitN ts.length := List.length_drop
    by_cases hp : place < splitN ts.length
    · rw [pathT_low (by omega) hp, plen_low (by omega) hp, List.length_append, pathT_len, e1]
      rfl
    · rw [pathT_high (by omega) hp, plen_high (by omega) hp, List.length_append, pathT_len, e2]
      rfl
termination_by ts.length
decreasing_by
  · rw [List.length_take]; omega
  · rw [List.length_drop]; omega
theorem pathT_mem {ts : List Tm} {place : Nat} {P : Tm → Prop} (hp : ∀ us : List Tm, (∀ t ∈ us, t ∈ ts) → us.length ≤ ts.length → P (topT us)) : ∀ t ∈ pathT ts place, P t := by
  intro t ht
  rw [pathT] at ht
  split at ht
  · cases ht
  · rename_i h
    have hs := splitN_lt (n := ts.length) (by omega)
    have hs0 := splitN_pos ts.length
    split at ht
    · rcases List.mem_append.mp ht with h1 | h1
      · exact pathT_mem (fun us hu hl => hp us (fun t h => List.mem_of_mem_take (hu t h)) (by rw [List.length_take] at hl; omega)) t h1
      · rw [List.mem_singleton.mp h1]
        exact hp _ (fun t h => List.mem_of_mem_drop h) (by rw [List.length_drop]; omega)
    · rcases List.mem_append.mp ht with h1 | h1
      · exact pathT_mem (fun us hu hl => hp us (fun t h => List.mem_of_mem_drop (hu t h)) (by rw [List.length_drop] at hl; omega)) t h1
      · rw [List.mem_singleton.mp h1]
        exact hp _ (fun t h => List.mem_of_mem_take h) (by rw [List.length_take]; omega)
termination_by ts.length
decreasing_by
  · rw [List.length_drop]; omega
  · rw [List.length_take]; omega
/-- a path is asked -/
def spPath (K : PySem.W.Frag) (Fam : Sys → Prop) (k : Nat) : Sp := fun vs H Q _ => ∃ (S : Sys) (a : Addr) (xs : List V) (ts : List Tm) (place r : Nat), Fam S ∧ vs = [.ref S.f, .ref a, .int (place : Int)] ∧ SqL K H a xs ∧ DenL S H xs ts ∧ k ≠ 0 ∧ ts.length ≤ 2 ^ (k - 1) ∧ ts.length ≤ 1000 ∧ place < ts.length ∧ S.ok H (r + costT ts.length) ∧
  ∀ p ys H', Ext H H' → H p = none → H' p = some (.lst ys) → S.ok H' r → DenL S H' ys (pathT ts place) → Q (.ref p) H'
/-! ### what a leaf and a path come to -/
/-- the tops by the way from above, and whether the place lies in the first part -/
def sidesT (place n : Nat) (path : List Tm) : List (Tm × Bool) :=
  if h : n < 2 then [] else
    if place < splitN n then (path.getLastD nonT, true) :: sidesT place (splitN n) path.dropLast
    else (path.getLastD nonT, false) :: sidesT (place - splitN n) (n - splitN n) path.dropLast
termination_by n
decreasing_by
  · exact splitN_lt (by omega)
  · have := splitN_pos n
    omega
theorem sidesT_one {place n : Nat} {path : List Tm} (h : n < 2) : sidesT place n path = [] := by rw [sidesT, dif_pos h]
theorem sidesT_low {place n : Nat} {path : List Tm} (h : 2 ≤ n) (hp : place < splitN n) : sidesT place n path = (path.getLastD nonT, true) :: sidesT place (splitN n) path.dropLast := by rw [sidesT, dif_neg (by omega), if_pos hp]
theorem sidesT_high {place n : Nat} {path : List Tm} (h : 2 ≤ n) (hp : ¬ place < splitN n) : sidesT place n path = (path.getLastD nonT, false) :: sidesT (place - splitN n) (n - splitN n) path.dropLast := by rw [sidesT, dif_neg (by omega), if_neg hp]
def stepT (s : Tm × Bool) (t : Tm) : Tm := if s.2 = true then pairT t s.1 else pairT s.1 t
def riseT (leaf : Tm) (ss : List (Tm × Bool)) : Tm := ss.foldr stepT leaf
theorem riseT_cons (leaf : Tm) (s : Tm × Bool) (ss : List (Tm × Bool)) : riseT leaf (s :: ss) = stepT s (riseT leaf ss) := rfl
theorem sidesT_len (place n : Nat) (path : List Tm) : (sidesT place n path).length = plen place n := by
  by_cases h : n < 2
  · rw [sidesT_one h, plen_one h]
    rfl
  · have hs := splitN_lt (n := n) (by omega)
    have hs0 := splitN_pos n
    by_cases hp : place < splitN n
    · rw [sidesT_low (by omega) hp, plen_low (by omega) hp, List.length_cons, sidesT_len]
    · rw [sidesT_high (by omega) hp, plen_high (by omega) hp, List.length_cons, sidesT_len]
termination_by n
theorem getLastD_concat {α : Type} (l : List α) (x d : α) : (l ++ [x]).getLastD d = x := by
  rw [List.getLastD_eq_getLast?, List.getLast?_concat]
  rfl
/-- the way of a leaf of a row, by its own path, comes to the row's top -/
theorem rise_path (ts : List Tm) (place : Nat) (h : place < ts.length) : riseT (ts.getD place nonT) (sidesT place ts.length (pathT ts place)) = topT ts := by
  by_cases h2 : ts.length < 2
  · rw [sidesT_one h2, topT_single (by omega), show place = 0 by omega]
    rfl
  · have hs := splitN_lt (n := ts.length) (by omega)
    have hs0 := splitN_pos ts.length
    have e1 : (ts.take (splitN ts.length)).length = splitN ts.length := by
      rw [List.length_take]
      omega
    have e2 : (ts.drop (splitN ts.length)).length = ts.length - splitN ts.length := List.length_drop
    by_cases hp : place < splitN ts.length
    · rw [pathT_low (by omega) hp, sidesT_low (by omega) hp, getLastD_concat, List.dropLast_concat, topT_more (ts := ts) (by omega)]
      rw [riseT_cons]
      have ih := rise_path (ts.take (splitN ts.length)) place (by omega)
      rw [e1] at ih
      have eg : (ts.take (splitN ts.length)).getD place nonT = ts.getD place nonT := by
        rw [List.getD_eq_getElem?_getD, List.getD_eq_getElem?_getD, List.getElem?_take_of_lt hp]
      rw [eg] at ih
      rw [ih]
      rfl
    · rw [pathT_high (by omega) hp, sidesT_high (by omega) hp, getLastD_concat, List.dropLast_concat, topT_more (ts := ts) (by omega)]
      rw [riseT_cons]
      have ih := rise_path (ts.drop (splitN ts.length)) (place - splitN ts.length) (by omega)
      rw [e2] at ih
      have eg : (ts.drop (splitN ts.length)).getD (place - splitN ts.length) nonT = ts.getD place nonT := by
        rw [List.getD_eq_getElem?_getD, List.getD_eq_getElem?_getD, List.getElem?_drop, show splitN ts.length + (place - splitN ts.length) = place by omega]
      rw [eg] at ih
      rw [ih]
      rfl
termination_by ts.length

/-! ### growths -/
def growT (ts : List Tm) (old : Nat) : List Tm :=
  if h : 0 < old ∧ old < ts.length then
    if old ≤ splitN ts.length then growT (ts.take (splitN ts.length)) old ++ [topT (ts.drop (splitN ts.length))]
    else growT (ts.drop (splitN ts.length)) (old - splitN ts.length) ++ [topT (ts.take (splitN ts.length))]
  else if old = 0 then [] else [topT ts]
termination_by ts.length
decreasing_by
  · rw [List.length_take]
    have := splitN_lt (n := ts.length) (by omega)
    omega
  · rw [List.length_drop]
    have := splitN_pos ts.length
    omega
theorem growT_zero (ts : List Tm) : growT ts 0 = [] := by rw [growT, dif_neg (by omega), if_pos rfl]
theorem growT_all {ts : List Tm} (h : ts.length ≠ 0) : growT ts ts.length = [topT ts] := by rw [growT, dif_neg (by omega), if_neg h]
theorem growT_low {ts : List Tm} {old : Nat} (h0 : 0 < old) (h1 : old < ts.length) (h : old ≤ splitN ts.length) : growT ts old = growT (ts.take (splitN ts.length)) old ++ [topT (ts.drop (splitN ts.length))] := by
  rw [growT, dif_pos ⟨h0, h1⟩, if_pos h]
theorem growT_high {ts : List Tm} {old : Nat} (h0 : 0 < old) (h1 : old < ts.length) (h : ¬ old ≤ splitN ts.length) : growT ts old = growT (ts.drop (splitN ts.length)) (old - splitN ts.length) ++ [topT (ts.take (splitN ts.length))] := by
  rw [growT, dif_pos ⟨h0, h1⟩, if_neg h]
/-- two to the k leaves: at most k + 1 tops -/
theorem growT_len : ∀ (k : Nat) (ts : List Tm) (old : Nat), ts.length ≤ 2 ^ k → (growT ts old).length ≤ k + 1
  | k, ts, old, hl => by
    by_cases h : 0 < old ∧ old < ts.length
    · obtain ⟨h0, h1⟩ := h
      have h2 : 2 ≤ ts.length := by omega
      cases k with
      | zero => simp at hl; omega
      | succ k =>
        obtain ⟨a, b⟩ := splitN_le_pow h2 hl
        by_cases q : old ≤ splitN ts.length
        · rw [growT_low h0 h1 q, List.length_append]
          have := growT_len k (ts.take (splitN ts.length)) old (by rw [List.length_take]; omega)
          simp
          omega
        · rw [growT_high h0 h1 q, List.length_append]
          have := growT_len k (ts.drop (splitN ts.length)) (old - splitN ts.length) (by rw [List.length_drop]; omega)
          simp
          omega
    · rw [growT, dif_neg h]
      split <;> simp
theorem growT_mem {ts : List Tm} {old : Nat} {P : Tm → Prop} (hp : ∀ us : List Tm, (∀ t ∈ us, t ∈ ts) → us.length ≤ ts.length → P (topT us)) : ∀ t ∈ growT ts old, P t := by
  intro t ht
  rw [growT] at ht
  split at ht
  · rename_i h
    have hs := splitN_lt (n := ts.length) (by omega)
    have hs0 := splitN_pos ts.length
    split at ht
    · rcases List.mem_append.mp ht with h1 | h1
      · exact growT_mem (fun us hu hl => hp us (fun t h => List.mem_of_mem_take (hu t h)) (by rw [List.length_take] at hl; omega)) t h1
      · rw [List.mem_singleton.mp h1]
        exact hp _ (fun t h => List.mem_of_mem_drop h) (by rw [List.length_drop]; omega)
    · rcases List.mem_append.mp ht with h1 | h1
      · exact growT_mem (fun us hu hl => hp us (fun t h => List.mem_of_mem_drop (hu t h)) (by rw [List.length_drop] at hl; omega)) t h1
      · rw [List.mem_singleton.mp h1]
        exact hp _ (fun t h => List.mem_of_mem_take h) (by rw [List.length_take]; omega)
  · split at ht
    · cases ht
    · rw [List.mem_singleton.mp ht]
      exact hp ts (fun _ h => h) (Nat.le_refl _)
termination_by ts.length
decreasing_by
  · rw [List.length_drop]; omega
  · rw [List.length_take]; omega
/-- a growth is asked: two to the k leaves at most -/
def spGrow (K : PySem.W.Frag) (Fam : Sys → Prop) (k : Nat) : Sp := fun vs H Q _ => ∃ (S : Sys) (a : Addr) (xs : List V) (ts : List Tm) (old r : Nat), Fam S ∧ vs = [.ref S.f, .ref a, .int (old : Int)] ∧ SqL K H a xs ∧ DenL S H xs ts ∧ k ≠ 0 ∧ ts.length ≤ 2 ^ (k - 1) ∧ ts.length ≤ 1000 ∧ old ≤ ts.length ∧ S.ok H (r + costT ts.length) ∧
  ∀ p ys H', Ext H H' → H p = none → H' p = some (.lst ys) → S.ok H' r → DenL S H' ys (growT ts old) → Q (.ref p) H'

section
variable {P : Program} {w : World} {K : PySem.W.Frag} {mg : Str → Option Value} {base : Heap} {Fam : Sys → Prop}
theorem ok_growth_of1 {cc : Addr} {k j : Nat} (T : Txt K mg cc) (A : SlA P w K mg base Fam) (C_split : Cal P w K mg base 1 "split" spSplit []) (C_top_of : ∀ k, Cal P w K mg base (k + j) "top_of" (spTop K Fam k) []) (C_growth_of : Cal P w K mg base (k + j + 1) "growth_of" (spGrow K Fam k) []) : Cal P w K mg base (k + j + 2) "growth_of" (spGrow K Fam (k + 1)) [] := by
  have Z := T.Z
  have C_top_of := C_top_of (k + 1)
  refine cal_of T.d_growth_of sc_growth_of (fun vs H Q E h => ?_) (fun f cdv A' outer s H vs Q E hr h => ?_)
  · obtain ⟨S, a, xs, ts, old, r, _, rfl, _⟩ := h
    rfl
  obtain ⟨S, a, xs, ts, old, r, hF, rfl, hS, hD, _, hk, hl, ho, hok, q⟩ := h
  have hlen := hD.len
  have G := A.good hF
  refine ⟨_, (pss_cons (ps_if (pt_cmpR op_eq (pv 2) pe_int (nomark _)) (pss_one (ps_ret (pe_lst pa_nil))) pss_nil)
  (pss_cons (ps_if (pt_cmpR op_eq (pv 2) (pe_callB call_len_seq rfl Z.len PySem.boot_len (pa_cons (pv 1) pa_nil)) (nomark _)) (pss_one (ps_ret (pe_lst (pa_cons (pe_c C_top_of hr (by omega) rfl (pa_cons (pv 0) (pa_cons (pv 1) pa_nil))) pa_nil)))) pss_nil)
  (pss_cons (ps_set (i := 3) sc_growth_of.nd rfl (Or.inl rfl) (pe_c C_split hr (by omega) rfl (pa_cons (pe_callB call_len_seq rfl Z.len PySem.boot_len (pa_cons (pv 1) pa_nil)) pa_nil)))
  (pss_cons (ps_if (pt_cmpR op_le (pv 2) (pv 3) (nomark _)) (pss_one (ps_ret (pe_op op_cat (pe_c C_growth_of hr (by omega) rfl (pa_cons (pv 0) (pa_cons (pe_slice sl_list (pv 1) po_none (po_some (pv 3))) (pa_cons (pv 2) pa_nil)))) (pe_lst (pa_cons (pe_c C_top_of hr (by omega) rfl (pa_cons (pv 0) (pa_cons (pe_slice sl_list (pv 1) (po_some (pv 3)) po_none) pa_nil))) pa_nil))))) pss_nil)
  (pss_one (ps_ret (pe_op op_cat (pe_c C_growth_of hr (by omega) rfl (pa_cons (pv 0) (pa_cons (pe_slice sl_list (pv 1) (po_some (pv 3)) po_none) (pa_cons (pe_op op_sub (pv 2) (pv 3)) pa_nil)))) (pe_lst (pa_cons (pe_c C_top_of hr (by omega) rfl (pa_cons (pv 0) (pa_cons (pe_slice sl_list (pv 1) po_none (po_some (pv 3))) pa_nil))) pa_nil))))))))), ?_⟩
  -- from nothing
  refine ⟨_, rfl, rfl, _, rfl, ite2 (fun c => ?_) (fun c => ?_)⟩
  · have c' : (old : Int) = 0 := V.int.inj (of_decide_eq_true c)
    have e : old = 0 := by omega
    subst e
    refine ⟨Nat.zero_le _, fun p hp => ?_⟩
    refine q p [] _ (Ext.new hp) hp upd_same (G.less (G.keep (Kp.new hp) hok) (by omega)) ?_
    rw [growT_zero]
    exact DenL.nil
  have n0 : old ≠ 0 := fun z => c (decide_eq_true (by rw [z]; rfl))
  -- all of it
  refine ⟨_, rfl, _, rfl, a, _, rfl, .inl hS, rfl, _, rfl, ite2 (fun c => ?_) (fun c => ?_)⟩
  · have c' : (old : Int) = (xs.length : Int) := V.int.inj (of_decide_eq_true c)
    have e : old = ts.length := by omega
    subst e
    refine ⟨_, rfl, _, rfl, S, a, xs, ts, r, hF, rfl, hS, hD, by omega, hk, hl, hok, fun v H1 x1 ok1 d1 => ?_⟩
    refine ⟨by show 1 ≤ sizeLine; decide, fun p hp => ?_⟩
    refine q p [v] _ (x1.trans (Ext.new hp)) (x1.free hp) upd_same (G.keep (Kp.new hp) ok1) ?_
    rw [growT_all n0]
    exact DenL.one (G.mono (Kp.new hp).gr d1)
  have n1 : old ≠ ts.length := fun z => c (decide_eq_true (by rw [z, hlen] <;> rfl))
  have h2 : 2 ≤ ts.length := by omega
  have hsl := splitN_lt h2
  have hsp := splitN_pos ts.length
  have hk1 : ts.length ≤ 2 ^ k := hk
  obtain ⟨k', rfl⟩ : ∃ k', k = k' + 1 := by
    cases k with
    | zero => simp at hk1; omega
    | succ k' => exact ⟨k', rfl⟩
  obtain ⟨b1, b2⟩ := splitN_le_pow h2 hk1
  have hcs := costT_split h2
  have lg := Nat.log2_le_self ts.length
  refine ⟨_, rfl, a, _, rfl, .inl hS, ts.length, by rw [hlen] <;> rfl, h2, by omega, ?_⟩
  have lt1 : (ts.take (splitN ts.length)).length = splitN ts.length := by
    rw [List.length_take]
    omega
  have ld1 : (ts.drop (splitN ts.length)).length = ts.length - splitN ts.length := List.length_drop
  refine ⟨_, rfl, _, rfl, _, _, rfl, rfl, _, rfl, ite2 (fun c => ?_) (fun c => ?_)⟩
  · -- in the first part
    have c' : (old : Int) ≤ ((splitN ts.length : Nat) : Int) := of_decide_eq_true c
    refine ⟨_, rfl, _, rfl, _, rfl, ((splitN ts.length : Nat) : Int), rfl, a, _, rfl, hS, fun p hp => ?_⟩
    rw [cut_to]
    have x1 := Ext.new (o := .lst (xs.take (splitN ts.length))) hp
    have k1 := Kp.new (o := .lst (xs.take (splitN ts.length))) hp
    refine ⟨_, rfl, S, p, _, ts.take (splitN ts.length), old, r + costT (ts.length - splitN ts.length), hF, rfl, SqL.of upd_same, (hD.take _).mono G k1.gr, by omega, ?_, ?_, ?_, ?_, fun p1 ys H1 x2 np1 hp1 ok1 d1 => ?_⟩
    · rw [lt1]
      exact b1
    · omega
    · omega
    · rw [lt1]
      exact G.less (G.keep k1 hok) (by omega)
    have xx := x1.trans x2
    refine ⟨_, rfl, _, rfl, _, rfl, ((splitN ts.length : Nat) : Int), rfl, a, _, rfl, xx.seq hS, fun p2 hp2 => ?_⟩
    rw [cut_from]
    have x3 := Ext.new (o := .lst (xs.drop (splitN ts.length))) hp2
    have k3 := Kp.new (o := .lst (xs.drop (splitN ts.length))) hp2
    refine ⟨S, p2, _, ts.drop (splitN ts.length), r, hF, rfl, SqL.of upd_same, ((hD.drop _).mono G xx.gr).mono G k3.gr, by omega, ?_, ?_, ?_, fun v2 H2 x4 ok2 d2 => ?_⟩
    · rw [ld1]
      exact Nat.le_trans b2 (Nat.pow_le_pow_right (by decide) (by omega))
    · omega
    · rw [ld1]
      exact G.keep k3 ok1
    refine ⟨by show 1 ≤ sizeLine; decide, fun p3 hp3 => ?_⟩
    have e1 : H2 p1 = some (.lst ys) := x4.lst (x3.lst hp1)
    have l1 := d1.len
    have gl := growT_len k' (ts.take (splitN ts.length)) old (by rw [lt1]; exact b1)
    have kk : k' ≤ 1000 := by
      have := hr.dp
      have e0 : recursionLimit = 1000 := rfl
      omega
    refine ⟨p1, p3, ys, [v2], rfl, rfl, by rw [upd_ne (ne_of_none e1 hp3)]; exact e1, upd_same, ?_, fun p4 hp4 => ?_⟩
    · rw [l1]
      show _ + 1 ≤ _
      rw [sizeLine_eq]
      omega
    have x5 := (Ext.new (o := .lst [v2]) hp3).trans (Ext.new (o := .lst (ys ++ [v2])) hp4)
    have np4 := (((xx.trans x3).trans x4).free ((Ext.new (o := .lst [v2]) hp3).free hp4))
    refine q p4 _ _ (((xx.trans x3).trans x4).trans x5) np4 upd_same (G.keep ((Kp.new hp3).trans (Kp.new hp4)) ok2) ?_
    rw [growT_low (by omega) (by omega) (by omega)]
    exact (d1.mono G ((x3.trans x4).trans x5).gr).append (DenL.one (G.mono x5.gr d2))
  · -- in the rest
    have c' : ¬ (old : Int) ≤ ((splitN ts.length : Nat) : Int) := of_decide_eq_false (Bool.eq_false_iff.mpr c)
    refine ⟨_, rfl, _, rfl, _, rfl, ((splitN ts.length : Nat) : Int), rfl, a, _, rfl, hS, fun p hp => ?_⟩
    rw [cut_from]
    have x1 := Ext.new (o := .lst (xs.drop (splitN ts.length))) hp
    have k1 := Kp.new (o := .lst (xs.drop (splitN ts.length))) hp
    refine ⟨_, rfl, _, rfl, _, _, rfl, rfl, S, p, _, ts.drop (splitN ts.length), old - splitN ts.length, r + costT (splitN ts.length), hF, ?_, SqL.of upd_same, (hD.drop _).mono G k1.gr, by omega, ?_, ?_, ?_, ?_, fun p1 ys H1 x2 np1 hp1 ok1 d1 => ?_⟩
    · rw [show ((old - splitN ts.length : Nat) : Int) = (old : Int) - ((splitN ts.length : Nat) : Int) by omega]
      rfl
    · rw [ld1]
      exact b2
    · omega
    · omega
    · rw [ld1]
      exact G.less (G.keep k1 hok) (by omega)
    have xx := x1.trans x2
    refine ⟨_, rfl, _, rfl, _, rfl, ((splitN ts.length : Nat) : Int), rfl, a, _, rfl, xx.seq hS, fun p2 hp2 => ?_⟩
    rw [cut_to]
    have x3 := Ext.new (o := .lst (xs.take (splitN ts.length))) hp2
    have k3 := Kp.new (o := .lst (xs.take (splitN ts.length))) hp2
    refine ⟨S, p2, _, ts.take (splitN ts.length), r, hF, rfl, SqL.of upd_same, ((hD.take _).mono G xx.gr).mono G k3.gr, by omega, ?_, ?_, ?_, fun v2 H2 x4 ok2 d2 => ?_⟩
    · rw [lt1]
      exact Nat.le_trans b1 (Nat.pow_le_pow_right (by decide) (by omega))
    · omega
    · rw [lt1]
      exact G.keep k3 ok1
    refine ⟨by show 1 ≤ sizeLine; decide, fun p3 hp3 => ?_⟩
    have e1 : H2 p1 = some (.lst ys) := x4.lst (x3.lst hp1)
    have l1 := d1.len
    have gl := growT_len k' (ts.drop (splitN ts.length)) (old - splitN ts.length) (by rw [ld1]; exact b2)
    have kk : k' ≤ 1000 := by
      have := hr.dp
      have e0 : recursionLimit = 1000 := rfl
      omega
    refine ⟨p1, p3, ys, [v2], rfl, rfl, by rw [upd_ne (ne_of_none e1 hp3)]; exact e1, upd_same, ?_, fun p4 hp4 => ?_⟩
    · rw [l1]
      show _ + 1 ≤ _
      rw [sizeLine_eq]
      omega
    have x5 := (Ext.new (o := .lst [v2]) hp3).trans (Ext.new (o := .lst (ys ++ [v2])) hp4)
    have np4 := (((xx.trans x3).trans x4).free ((Ext.new (o := .lst [v2]) hp3).free hp4))
    refine q p4 _ _ (((xx.trans x3).trans x4).trans x5) np4 upd_same (G.keep ((Kp.new hp3).trans (Kp.new hp4)) ok2) ?_
    rw [growT_high (by omega) (by omega) (by omega)]
    exact (d1.mono G ((x3.trans x4).trans x5).gr).append (DenL.one (G.mono x5.gr d2))
theorem ok_growth_of {cc : Addr} {j : Nat} (T : Txt K mg cc) (A : SlA P w K mg base Fam) (C_split : Cal P w K mg base 1 "split" spSplit []) (C_top_of : ∀ k, Cal P w K mg base (k + j) "top_of" (spTop K Fam k) []) : ∀ k : Nat, Cal P w K mg base (k + j + 1) "growth_of" (spGrow K Fam k) []
  | 0 => by
    obtain ⟨f, fd, ps, ds, F, m, kp, b, v⟩ := (cal_no (P := P) (w := w) (base := base) T.d_growth_of (0 + j + 1)).ex
    exact ⟨f, fd, ps, ds, F.imp fun vs H Q E h => by obtain ⟨_, _, _, _, _, _, _, _, _, _, z, _⟩ := h; exact absurd rfl z, m, kp, b, v⟩
  | k + 1 => cal_mono (ok_growth_of1 T A C_split C_top_of (ok_growth_of T A C_split C_top_of k)) (by omega)
end

section
variable {P : Program} {w : World} {K : PySem.W.Frag} {mg : Str → Option Value} {base : Heap} {Fam : Sys → Prop}
theorem ok__law_growth1 {cc : Addr} {k j : Nat} (T : Txt K mg cc) (A : SlA P w K mg base Fam) (C__law_split : Cal P w K mg base 1 "_law_split" spSplit []) (C__law_top : ∀ k, Cal P w K mg base (k + j) "_law_top" (spTop K Fam k) []) (C__law_growth : Cal P w K mg base (k + j + 1) "_law_growth" (spGrow K Fam k) []) : Cal P w K mg base (k + j + 2) "_law_growth" (spGrow K Fam (k + 1)) [] := by
  have Z := T.Z
  have C__law_top := C__law_top (k + 1)
  refine cal_of T.d__law_growth sc__law_growth (fun vs H Q E h => ?_) (fun f cdv A' outer s H vs Q E hr h => ?_)
  · obtain ⟨S, a, xs, ts, old, r, _, rfl, _⟩ := h
    rfl
  obtain ⟨S, a, xs, ts, old, r, hF, rfl, hS, hD, _, hk, hl, ho, hok, q⟩ := h
  have hlen := hD.len
  have G := A.good hF
  refine ⟨_, (pss_cons (ps_if (pt_cmpR op_eq (pv 2) pe_int (nomark _)) (pss_one (ps_ret (pe_lst pa_nil))) pss_nil)
  (pss_cons (ps_if (pt_cmpR op_eq (pv 2) (pe_callB call_len_seq rfl Z.len PySem.boot_len (pa_cons (pv 1) pa_nil)) (nomark _)) (pss_one (ps_ret (pe_lst (pa_cons (pe_c C__law_top hr (by omega) rfl (pa_cons (pv 0) (pa_cons (pv 1) pa_nil))) pa_nil)))) pss_nil)
  (pss_cons (ps_set (i := 3) sc__law_growth.nd rfl (Or.inl rfl) (pe_c C__law_split hr (by omega) rfl (pa_cons (pe_callB call_len_seq rfl Z.len PySem.boot_len (pa_cons (pv 1) pa_nil)) pa_nil)))
  (pss_cons (ps_if (pt_cmpR op_le (pv 2) (pv 3) (nomark _)) (pss_one (ps_ret (pe_op op_cat (pe_c C__law_growth hr (by omega) rfl (pa_cons (pv 0) (pa_cons (pe_slice sl_list (pv 1) po_none (po_some (pv 3))) (pa_cons (pv 2) pa_nil)))) (pe_lst (pa_cons (pe_c C__law_top hr (by omega) rfl (pa_cons (pv 0) (pa_cons (pe_slice sl_list (pv 1) (po_some (pv 3)) po_none) pa_nil))) pa_nil))))) pss_nil)
  (pss_one (ps_ret (pe_op op_cat (pe_c C__law_growth hr (by omega) rfl (pa_cons (pv 0) (pa_cons (pe_slice sl_list (pv 1) (po_some (pv 3)) po_none) (pa_cons (pe_op op_sub (pv 2) (pv 3)) pa_nil)))) (pe_lst (pa_cons (pe_c C__law_top hr (by omega) rfl (pa_cons (pv 0) (pa_cons (pe_slice sl_list (pv 1) po_none (po_some (pv 3))) pa_nil))) pa_nil))))))))), ?_⟩
  -- from nothing
  refine ⟨_, rfl, rfl, _, rfl, ite2 (fun c => ?_) (fun c => ?_)⟩
  · have c' : (old : Int) = 0 := V.int.inj (of_decide_eq_true c)
    have e : old = 0 := by omega
    subst e
    refine ⟨Nat.zero_le _, fun p hp => ?_⟩
    refine q p [] _ (Ext.new hp) hp upd_same (G.less (G.keep (Kp.new hp) hok) (by omega)) ?_
    rw [growT_zero]
    exact DenL.nil
  have n0 : old ≠ 0 := fun z => c (decide_eq_true (by rw [z]; rfl))
  -- all of it
  refine ⟨_, rfl, _, rfl, a, _, rfl, .inl hS, rfl, _, rfl, ite2 (fun c => ?_) (fun c => ?_)⟩
  · have c' : (old : Int) = (xs.length : Int) := V.int.inj (of_decide_eq_true c)
    have e : old = ts.length := by omega
    subst e
    refine ⟨_, rfl, _, rfl, S, a, xs, ts, r, hF, rfl, hS, hD, by omega, hk, hl, hok, fun v H1 x1 ok1 d1 => ?_⟩
    refine ⟨by show 1 ≤ sizeLine; decide, fun p hp => ?_⟩
    refine q p [v] _ (x1.trans (Ext.new hp)) (x1.free hp) upd_same (G.keep (Kp.new hp) ok1) ?_
    rw [growT_all n0]
    exact DenL.one (G.mono (Kp.new hp).gr d1)
  have n1 : old ≠ ts.length := fun z => c (decide_eq_true (by rw [z, hlen] <;> rfl))
  have h2 : 2 ≤ ts.length := by omega
  have hsl := splitN_lt h2
  have hsp := splitN_pos ts.length
  have hk1 : ts.length ≤ 2 ^ k := hk
  obtain ⟨k', rfl⟩ : ∃ k', k = k' + 1 := by
    cases k with
    | zero => simp at hk1; omega
    | succ k' => exact ⟨k', rfl⟩
  obtain ⟨b1, b2⟩ := splitN_le_pow h2 hk1
  have hcs := costT_split h2
  have lg := Nat.log2_le_self ts.length
  refine ⟨_, rfl, a, _, rfl, .inl hS, ts.length, by rw [hlen] <;> rfl, h2, by omega, ?_⟩
  have lt1 : (ts.take (splitN ts.length)).length = splitN ts.length := by
    rw [List.length_take]
    omega
  have ld1 : (ts.drop (splitN ts.length)).length = ts.length - splitN ts.length := List.length_drop
  refine ⟨_, rfl, _, rfl, _, _, rfl, rfl, _, rfl, ite2 (fun c => ?_) (fun c => ?_)⟩
  · -- in the first part
    have c' : (old : Int) ≤ ((splitN ts.length : Nat) : Int) := of_decide_eq_true c
    refine ⟨_, rfl, _, rfl, _, rfl, ((splitN ts.length : Nat) : Int), rfl, a, _, rfl, hS, fun p hp => ?_⟩
    rw [cut_to]
    have x1 := Ext.new (o := .lst (xs.take (splitN ts.length))) hp
    have k1 := Kp.new (o := .lst (xs.take (splitN ts.length))) hp
    refine ⟨_, rfl, S, p, _, ts.take (splitN ts.length), old, r + costT (ts.length - splitN ts.length), hF, rfl, SqL.of upd_same, (hD.take _).mono G k1.gr, by omega, ?_, ?_, ?_, ?_, fun p1 ys H1 x2 np1 hp1 ok1 d1 => ?_⟩
    · rw [lt1]
      exact b1
    · omega
    · omega
    · rw [lt1]
      exact G.less (G.keep k1 hok) (by omega)
    have xx := x1.trans x2
    refine ⟨_, rfl, _, rfl, _, rfl, ((splitN ts.length : Nat) : Int), rfl, a, _, rfl, xx.seq hS, fun p2 hp2 => ?_⟩
    rw [cut_from]
    have x3 := Ext.new (o := .lst (xs.drop (splitN ts.length))) hp2
    have k3 := Kp.new (o := .lst (xs.drop (splitN ts.length))) hp2
    refine ⟨S, p2, _, ts.drop (splitN ts.length), r, hF, rfl, SqL.of upd_same, ((hD.drop _).mono G xx.gr).mono G k3.gr, by omega, ?_, ?_, ?_, fun v2 H2 x4 ok2 d2 => ?_⟩
    · rw [ld1]
      exact Nat.le_trans b2 (Nat.pow_le_pow_right (by decide) (by omega))
    · omega
    · rw [ld1]
      exact G.keep k3 ok1
    refine ⟨by show 1 ≤ sizeLine; decide, fun p3 hp3 => ?_⟩
    have e1 : H2 p1 = some (.lst ys) := x4.lst (x3.lst hp1)
    have l1 := d1.len
    have gl := growT_len k' (ts.take (splitN ts.length)) old (by rw [lt1]; exact b1)
    have kk : k' ≤ 1000 := by
      have := hr.dp
      have e0 : recursionLimit = 1000 := rfl
      omega
    refine ⟨p1, p3, ys, [v2], rfl, rfl, by rw [upd_ne (ne_of_none e1 hp3)]; exact e1, upd_same, ?_, fun p4 hp4 => ?_⟩
    · rw [l1]
      show _ + 1 ≤ _
      rw [sizeLine_eq]
      omega
    have x5 := (Ext.new (o := .lst [v2]) hp3).trans (Ext.new (o := .lst (ys ++ [v2])) hp4)
    have np4 := (((xx.trans x3).trans x4).free ((Ext.new (o := .lst [v2]) hp3).free hp4))
    refine q p4 _ _ (((xx.trans x3).trans x4).trans x5) np4 upd_same (G.keep ((Kp.new hp3).trans (Kp.new hp4)) ok2) ?_
    rw [growT_low (by omega) (by omega) (by omega)]
    exact (d1.mono G ((x3.trans x4).trans x5).gr).append (DenL.one (G.mono x5.gr d2))
  · -- in the rest
    have c' : ¬ (old : Int) ≤ ((splitN ts.length : Nat) : Int) := of_decide_eq_false (Bool.eq_false_iff.mpr c)
    refine ⟨_, rfl, _, rfl, _, rfl, ((splitN ts.length : Nat) : Int), rfl, a, _, rfl, hS, fun p hp => ?_⟩
    rw [cut_from]
    have x1 := Ext.new (o := .lst (xs.drop (splitN ts.length))) hp
    have k1 := Kp.new (o := .lst (xs.drop (splitN ts.length))) hp
    refine ⟨_, rfl, _, rfl, _, _, rfl, rfl, S, p, _, ts.drop (splitN ts.length), old - splitN ts.length, r + costT (splitN ts.length), hF, ?_, SqL.of upd_same, (hD.drop _).mono G k1.gr, by omega, ?_, ?_, ?_, ?_, fun p1 ys H1 x2 np1 hp1 ok1 d1 => ?_⟩
    · rw [show ((old - splitN ts.length : Nat) : Int) = (old : Int) - ((splitN ts.length : Nat) : Int) by omega]
      rfl
    · rw [ld1]
      exact b2
    · omega
    · omega
    · rw [ld1]
      exact G.less (G.keep k1 hok) (by omega)
    have xx := x1.trans x2
    refine ⟨_, rfl, _, rfl, _, rfl, ((splitN ts.length : Nat) : Int), rfl, a, _, rfl, xx.seq hS, fun p2 hp2 => ?_⟩
    rw [cut_to]
    have x3 := Ext.new (o := .lst (xs.take (splitN ts.length))) hp2
    have k3 := Kp.new (o := .lst (xs.take (splitN ts.length))) hp2
    refine ⟨S, p2, _, ts.take (splitN ts.length), r, hF, rfl, SqL.of upd_same, ((hD.take _).mono G xx.gr).mono G k3.gr, by omega, ?_, ?_, ?_, fun v2 H2 x4 ok2 d2 => ?_⟩
    · rw [lt1]
      exact Nat.le_trans b1 (Nat.pow_le_pow_right (by decide) (by omega))
    · omega
    · rw [lt1]
      exact G.keep k3 ok1
    refine ⟨by show 1 ≤ sizeLine; decide, fun p3 hp3 => ?_⟩
    have e1 : H2 p1 = some (.lst ys) := x4.lst (x3.lst hp1)
    have l1 := d1.len
    have gl := growT_len k' (ts.drop (splitN ts.length)) (old - splitN ts.length) (by rw [ld1]; exact b2)
    have kk : k' ≤ 1000 := by
      have := hr.dp
      have e0 : recursionLimit = 1000 := rfl
      omega
    refine ⟨p1, p3, ys, [v2], rfl, rfl, by rw [upd_ne (ne_of_none e1 hp3)]; exact e1, upd_same, ?_, fun p4 hp4 => ?_⟩
    · rw [l1]
      show _ + 1 ≤ _
      rw [sizeLine_eq]
      omega
    have x5 := (Ext.new (o := .lst [v2]) hp3).trans (Ext.new (o := .lst (ys ++ [v2])) hp4)
    have np4 := (((xx.trans x3).trans x4).free ((Ext.new (o := .lst [v2]) hp3).free hp4))
    refine q p4 _ _ (((xx.trans x3).trans x4).trans x5) np4 upd_same (G.keep ((Kp.new hp3).trans (Kp.new hp4)) ok2) ?_
    rw [growT_high (by omega) (by omega) (by omega)]
    exact (d1.mono G ((x3.trans x4).trans x5).gr).append (DenL.one (G.mono x5.gr d2))
theorem ok__law_growth {cc : Addr} {j : Nat} (T : Txt K mg cc) (A : SlA P w K mg base Fam) (C__law_split : Cal P w K mg base 1 "_law_split" spSplit []) (C__law_top : ∀ k, Cal P w K mg base (k + j) "_law_top" (spTop K Fam k) []) : ∀ k : Nat, Cal P w K mg base (k + j + 1) "_law_growth" (spGrow K Fam k) []
  | 0 => by
    obtain ⟨f, fd, ps, ds, F, m, kp, b, v⟩ := (cal_no (P := P) (w := w) (base := base) T.d__law_growth (0 + j + 1)).ex
    exact ⟨f, fd, ps, ds, F.imp fun vs H Q E h => by obtain ⟨_, _, _, _, _, _, _, _, _, _, z, _⟩ := h; exact absurd rfl z, m, kp, b, v⟩
  | k + 1 => cal_mono (ok__law_growth1 T A C__law_split C__law_top (ok__law_growth T A C__law_split C__law_top k)) (by omega)
end

/-! ### what is told apart -/
/-- alike in kind, so that equal values tell equal terms -/
def cmpT : Tm → Tm → Prop
  | .int _, .int _ => True
  | .str _, .str _ => True
  | .sl m a b, .sl m' a' b' => m ≠ m' ∨ (cmpT a a' ∧ cmpT b b')
  | _, _ => False
structure Sys.Inj (K : PySem.W.Frag) (S : Sys) : Prop where
  inj : ∀ {H : Hp} {r : Nat} {v v' : V} {t t' : Tm}, S.ok H r → S.den H v t → S.den H v' t' → cmpT t t' → ∃ d d', Dp K H v d ∧ Dp K H v' d' ∧ d.canLay0 = true ∧ d'.canLay0 = true ∧ d.depth ≤ t.dep ∧ d'.depth ≤ t'.dep ∧ PyData.eqv d d' = decide (t = t')
theorem eqv_int (i j : Int) : PyData.eqv (.int i) (.int j) = decide (i = j) := by
  rw [PyData.eqv]
  first | rfl | simp [BEq.beq]
theorem eqv_str (x y : Str) : PyData.eqv (.str x) (.str y) = decide (x = y) := by
  rw [PyData.eqv]
  first | rfl | simp [BEq.beq]
theorem eqvP : ∀ t t' : Tm, PyData.eqv (datP t) (datP t') = decide (t = t')
  | .int i, .int j => by
    show PyData.eqv (.int i) (.int j) = _
    rw [eqv_int]
    by_cases h : i = j
    · rw [h]; simp
    · rw [decide_eq_false h, decide_eq_false (fun z => h (Tm.int.inj z))]
  | .str i, .str j => by
    show PyData.eqv (.str i) (.str j) = _
    rw [eqv_str]
    by_cases h : i = j
    · rw [h]; simp
    · rw [decide_eq_false h, decide_eq_false (fun z => h (Tm.str.inj z))]
  | .sl m a b, .sl m' a' b' => by
    show PyData.eqv (.tuple [.str m, datP a, datP b]) (.tuple [.str m', datP a', datP b']) = _
    rw [PyData.eqv, PyData.eqvAll, PyData.eqvAll, PyData.eqvAll, PyData.eqvAll, eqv_str, eqvP a a', eqvP b b']
    by_cases h1 : m = m' <;> by_cases h2 : a = a' <;> by_cases h3 : b = b' <;> simp [h1, h2, h3]
  | .int _, .str _ => rfl
  | .str _, .int _ => rfl
  | .int _, .sl _ _ _ => rfl
  | .sl _ _ _, .int _ => rfl
  | .str _, .sl _ _ _ => rfl
  | .sl _ _ _, .str _ => rfl
theorem eqvT : ∀ t t' : Tm, PyData.eqv (datT t) (datT t') = decide (t = t')
  | .int i, .int j => by
    show PyData.eqv (.int i) (.int j) = _
    rw [eqv_int]
    by_cases h : i = j
    · rw [h]; simp
    · rw [decide_eq_false h, decide_eq_false (fun z => h (Tm.int.inj z))]
  | .str i, .str j => by
    show PyData.eqv (.str i) (.str j) = _
    rw [eqv_str]
    by_cases h : i = j
    · rw [h]; simp
    · rw [decide_eq_false h, decide_eq_false (fun z => h (Tm.str.inj z))]
  | .sl m a b, .sl m' a' b' => by
    show PyData.eqv (.tuple [.str "seal of", datT b, datT a, .str m]) (.tuple [.str "seal of", datT b', datT a', .str m']) = _
    rw [PyData.eqv, PyData.eqvAll, PyData.eqvAll, PyData.eqvAll, PyData.eqvAll, PyData.eqvAll, eqv_str, eqv_str, eqvT a a', eqvT b b']
    by_cases h1 : m = m' <;> by_cases h2 : a = a' <;> by_cases h3 : b = b' <;> simp [h1, h2, h3]
  | .int _, .str _ => rfl
  | .str _, .int _ => rfl
  | .int _, .sl _ _ _ => rfl
  | .sl _ _ _, .int _ => rfl
  | .str _, .sl _ _ _ => rfl
  | .sl _ _ _, .str _ => rfl
theorem DenN.inj {ks : List (List Key)} {k : Key} {t : Tm} (h : DenN (tab ks) k t) : ∀ {t'}, DenN (tab ks) k t' → cmpT t t' → t = t' := by
  induction h with
  | int i =>
    intro t' h' c
    cases h' with
    | int => rfl
    | sl _ _ _ => exact c.elim
  | str x h =>
    intro t' h' c
    cases h'
    rfl
  | @sl m ka kb a b n ha hb hv iha ihb =>
    intro t' h' c
    cases h' with
    | int => exact c.elim
    | @sl m' ka' kb' a' b' _ ha' hb' hv' =>
      obtain ⟨i, e1, g1⟩ := tab_at hv
      obtain ⟨j, e2, g2⟩ := tab_at hv'
      have e3 := V.int.inj (e1.symm.trans e2)
      have e4 : i = j := by omega
      subst e4
      rw [g1] at g2
      have g3 := Option.some.inj g2
      have g4 : m = m' := by
        have := (List.cons.inj g3).1
        exact Sum.inr.inj this
      have g5 : ka = ka' := (List.cons.inj (List.cons.inj g3).2).1
      have g6 : kb = kb' := (List.cons.inj (List.cons.inj (List.cons.inj g3).2).2).1
      subst g4 g5 g6
      rcases c with c | ⟨c1, c2⟩
      · exact absurd rfl c
      · rw [iha ha' c1, ihb hb' c2]
theorem DenN.apart {ks : List (List Key)} {K : PySem.W.Frag} {H : Hp} {k k' : Key} {t t' : Tm} (h : DenN (tab ks) k t) (h' : DenN (tab ks) k' t') (c : cmpT t t') : ∃ d d', Dp K H (kV k) d ∧ Dp K H (kV k') d' ∧ d.canLay0 = true ∧ d'.canLay0 = true ∧ d.depth ≤ t.dep ∧ d'.depth ≤ t'.dep ∧ PyData.eqv d d' = decide (t = t') := by
  have key : decide (k = k') = decide (t = t') := by
    by_cases e : k = k'
    · subst e
      rw [h.inj h' c]
      simp
    · rw [decide_eq_false e, decide_eq_false]
      rintro rfl
      exact e (h.fn h')
  rw [← key]
  cases h with
  | int i =>
    cases h' with
    | int j => exact ⟨_, _, .int _, .int _, rfl, rfl, Nat.zero_le _, Nat.zero_le _, by rw [eqv_int]; by_cases e : i = j <;> simp [e]⟩
    | str y hy => exact c.elim
    | sl _ _ _ => exact c.elim
  | str x hx =>
    cases h' with
    | int j => exact c.elim
    | str y hy => exact ⟨_, _, .str _, .str _, hx, hy, Nat.zero_le _, Nat.zero_le _, by rw [eqv_str]; by_cases e : x = y <;> simp [e]⟩
    | sl _ _ _ => exact c.elim
  | @sl _ _ _ _ _ n _ _ _ =>
    cases h' with
    | int j => exact c.elim
    | str y hy => exact c.elim
    | @sl _ _ _ _ _ n' _ _ _ => exact ⟨_, _, .int _, .int _, rfl, rfl, Nat.zero_le _, Nat.zero_le _, by rw [eqv_int]; by_cases e : n = n' <;> simp [e]⟩
theorem inj3 {K : PySem.W.Frag} {mg : Str → Option Value} {S : Sys} (h : Fam3 mg S) : S.Inj K := by
  rcases h with ⟨f, _, rfl⟩ | ⟨f, _, rfl⟩ | ⟨N, rfl⟩
  · exact ⟨fun _ h h' _ => ⟨_, _, h.dp.1, h'.dp.1, (DenP.dp (K := K) h).2.1, (DenP.dp (K := K) h').2.1, (DenP.dp (K := K) h).2.2, (DenP.dp (K := K) h').2.2, eqvP _ _⟩⟩
  · exact ⟨fun _ h h' _ => ⟨_, _, h.dt.1, h'.dt.1, (DenP.dt (K := K) h).2.1, (DenP.dt (K := K) h').2.1, (DenP.dt (K := K) h).2.2, (DenP.dt (K := K) h').2.2, eqvT _ _⟩⟩
  · refine ⟨fun ok h h' c => ?_⟩
    obtain ⟨ks, hd, _⟩ := ok.dict
    obtain ⟨kvs, k, e1, g, rfl⟩ := h
    obtain ⟨kvs', k', e1', g', rfl⟩ := h'
    rw [hd] at e1 e1'
    cases e1
    cases e1'
    exact g.apart g' c
/-- rows told apart -/
theorem DenL.apart {K : PySem.W.Frag} {S : Sys} (I : S.Inj K) {H : Hp} {r n : Nat} (ok : S.ok H r) : ∀ {vs us : List V} {ts rs : List Tm}, DenL S H vs ts → DenL S H us rs → (∀ t ∈ ts, ∀ u ∈ rs, cmpT t u) → (∀ t ∈ ts, t.dep ≤ n) → (∀ t ∈ rs, t.dep ≤ n) →
    (∀ t ∈ ts, cmpT t t) → (∀ t ∈ rs, cmpT t t) → ∃ ds es, DpAll K H vs ds ∧ DpAll K H us es ∧ PyData.canLayAll0 ds = true ∧ PyData.canLayAll0 es = true ∧ PyData.depthAll ds ≤ n ∧ PyData.depthAll es ≤ n ∧ PyData.eqvAll ds es = decide (ts = rs)
  | vs, us, [], [], h, h', _, _, _, _, _ => by
    have e1 : vs = [] := List.eq_nil_of_length_eq_zero h.len
    have e2 : us = [] := List.eq_nil_of_length_eq_zero h'.len
    subst e1 e2
    exact ⟨[], [], .nil, .nil, rfl, rfl, Nat.zero_le _, Nat.zero_le _, by rw [PyData.eqvAll]; rfl⟩
  | [], _, t :: ts, _, h, _, _, _, _, _, _ => absurd h.len (by simp)
  | _, [], _, u :: rs, _, h', _, _, _, _, _ => absurd h'.len (by simp)
  | v :: vs, us, t :: ts, [], h, h', c, hd, hd', ct, cu => by
    have e2 : us = [] := List.eq_nil_of_length_eq_zero h'.len
    subst e2
    have t1 : DenL S H vs ts := h.drop 1
    obtain ⟨d, _, a1, _, a3, _, a4, _, _⟩ := I.inj ok (h.at_ 0 v t rfl rfl) (h.at_ 0 v t rfl rfl) (ct t List.mem_cons_self)
    obtain ⟨ds, es, b1, b2, b3, b4, b5, b6, b7⟩ := DenL.apart I ok t1 h' (fun t ht u hu => c t (List.mem_cons_of_mem _ ht) u hu) (fun t ht => hd t (List.mem_cons_of_mem _ ht)) hd' (fun t ht => ct t (List.mem_cons_of_mem _ ht)) cu
    cases b2
    refine ⟨d :: ds, [], .cons a1 b1, .nil, by rw [PyData.canLayAll0, a3, b3]; rfl, rfl, ?_, Nat.zero_le _, by rw [PyData.eqvAll]; first | rfl | simp⟩
    have := hd t List.mem_cons_self
    show max d.depth (PyData.depthAll ds) ≤ n
    omega
  | vs, u :: us, [], w :: rs, h, h', c, hd, hd', ct, cu => by
    have e2 : vs = [] := List.eq_nil_of_length_eq_zero h.len
    subst e2
    have t1 : DenL S H us rs := h'.drop 1
    obtain ⟨d, _, a1, _, a3, _, a4, _, _⟩ := I.inj ok (h'.at_ 0 u w rfl rfl) (h'.at_ 0 u w rfl rfl) (cu w List.mem_cons_self)
    obtain ⟨ds, es, b1, b2, b3, b4, b5, b6, b7⟩ := DenL.apart I ok h t1 (fun t ht u hu => c t ht u (List.mem_cons_of_mem _ hu)) hd (fun t ht => hd' t (List.mem_cons_of_mem _ ht)) ct (fun t ht => cu t (List.mem_cons_of_mem _ ht))
    cases b1
    refine ⟨[], d :: es, .nil, .cons a1 b2, rfl, by rw [PyData.canLayAll0, a3, b4]; rfl, Nat.zero_le _, ?_, by rw [PyData.eqvAll]; first | rfl | simp⟩
    have := hd' w List.mem_cons_self
    show max d.depth (PyData.depthAll es) ≤ n
    omega
  | v :: vs, u :: us, t :: ts, w :: rs, h, h', c, hd, hd', ct, cu => by
    have t1 : DenL S H vs ts := h.drop 1
    have t2 : DenL S H us rs := h'.drop 1
    obtain ⟨d, e, a1, a2, a3, a4, a5, a6, a7⟩ := I.inj ok (h.at_ 0 v t rfl rfl) (h'.at_ 0 u w rfl rfl) (c t List.mem_cons_self w List.mem_cons_self)
    obtain ⟨ds, es, b1, b2, b3, b4, b5, b6, b7⟩ := DenL.apart I ok t1 t2 (fun t ht u hu => c t (List.mem_cons_of_mem _ ht) u (List.mem_cons_of_mem _ hu)) (fun t ht => hd t (List.mem_cons_of_mem _ ht)) (fun t ht => hd' t (List.mem_cons_of_mem _ ht)) (fun t ht => ct t (List.mem_cons_of_mem _ ht)) (fun t ht => cu t (List.mem_cons_of_mem _ ht))
    refine ⟨d :: ds, e :: es, .cons a1 b1, .cons a2 b2, by rw [PyData.canLayAll0, a3, b3]; rfl, by rw [PyData.canLayAll0, a4, b4]; rfl, ?_, ?_, ?_⟩
    · have := hd t List.mem_cons_self
      show max d.depth (PyData.depthAll ds) ≤ n
      omega
    · have := hd' w List.mem_cons_self
      show max e.depth (PyData.depthAll es) ≤ n
      omega
    · rw [PyData.eqvAll, a7, b7]
      by_cases h1 : t = w <;> by_cases h2 : ts = rs <;> simp [h1, h2]
termination_by vs us ts rs => ts.length + rs.length
decreasing_by
  all_goals (simp; try omega)
/-! ### well-made tops of leaves -/
inductive WS : Tm → Prop
  | leaf (x : Str) (i : Int) : WS (.sl "leaf" (.str x) (.int i))
  | non : WS nonT
  | pair {a b : Tm} (ha : WS a) (hb : WS b) : WS (pairT a b)
theorem WS.cmp {a : Tm} (h : WS a) : ∀ {b}, WS b → cmpT a b := by
  induction h with
  | leaf x i =>
    intro b hb
    cases hb with
    | leaf y j => exact .inr ⟨True.intro, True.intro⟩
    | non => exact .inl (by decide +kernel)
    | pair _ _ => exact .inl (by decide +kernel)
  | non =>
    intro b hb
    cases hb with
    | leaf y j => exact .inl (by decide +kernel)
    | non => exact .inr ⟨True.intro, True.intro⟩
    | pair _ _ => exact .inl (by decide +kernel)
  | pair _ _ iha ihb =>
    intro b hb
    cases hb with
    | leaf y j => exact .inl (by decide +kernel)
    | non => exact .inl (by decide +kernel)
    | pair ha' hb' => exact .inr ⟨iha ha', ihb hb'⟩
theorem topT_ws {ts : List Tm} (h : ∀ t ∈ ts, WS t) : WS (topT ts) := by
  by_cases h2 : ts.length < 2
  · match ts, h2 with
    | [], _ => rw [topT_nil]; exact .non
    | [t], _ => rw [topT_one]; exact h t List.mem_cons_self
    | t :: u :: r, h2 => exact absurd h2 (by simp)
  · have hs := splitN_lt (n := ts.length) (by omega)
    have hs0 := splitN_pos ts.length
    rw [topT_more (by omega)]
    exact .pair (topT_ws fun t ht => h t (List.mem_of_mem_take ht)) (topT_ws fun t ht => h t (List.mem_of_mem_drop ht))
termination_by ts.length
decreasing_by
  · rw [List.length_take]; omega
  · rw [List.length_drop]; omega

/-! ### a leaf comes to the top by the right path alone -/
theorem pairT_inj {a b c d : Tm} (h : pairT a b = pairT c d) : a = c ∧ b = d := by
  unfold pairT at h
  exact ⟨(Tm.sl.inj h).2.1, (Tm.sl.inj h).2.2⟩
theorem last_split {α : Type} {l : List α} {d : α} (h : l.length ≠ 0) : l = l.dropLast ++ [l.getLastD d] := by
  rcases List.eq_nil_or_concat l with e | ⟨l', x, e⟩
  · rw [e] at h
    exact absurd rfl h
  · rw [e, List.concat_eq_append, getLastD_concat, List.dropLast_concat]
theorem rise_inj (L : Tm) (us : List Tm) (place : Nat) (ps : List Tm) (h : place < us.length) (hl : ps.length = plen place us.length) : riseT L (sidesT place us.length ps) = topT us ↔ (L = us.getD place nonT ∧ ps = pathT us place) := by
  by_cases h2 : us.length < 2
  · rw [plen_one h2] at hl
    rw [sidesT_one h2, topT_single (by omega), pathT_one h2, show place = 0 by omega, List.eq_nil_of_length_eq_zero hl]
    show L = _ ↔ _
    simp
  · have hs := splitN_lt (n := us.length) (by omega)
    have hs0 := splitN_pos us.length
    have e1 : (us.take (splitN us.length)).length = splitN us.length := by
      rw [List.length_take]
      omega
    have e2 : (us.drop (splitN us.length)).length = us.length - splitN us.length := List.length_drop
    by_cases hp : place < splitN us.length
    · rw [plen_low (by omega) hp] at hl
      have hps := last_split (l := ps) (d := nonT) (by omega)
      have ih := rise_inj L (us.take (splitN us.length)) place ps.dropLast (by omega) (by rw [List.length_dropLast, e1]; omega)
      rw [e1] at ih
      have eg : (us.take (splitN us.length)).getD place nonT = us.getD place nonT := by
        rw [List.getD_eq_getElem?_getD, List.getD_eq_getElem?_getD, List.getElem?_take_of_lt hp]
      rw [eg] at ih
      rw [sidesT_low (by omega) hp, riseT_cons, topT_more (ts := us) (by omega), pathT_low (by omega) hp]
      show pairT _ _ = pairT _ _ ↔ _
      constructor
      · intro q
        obtain ⟨q1, q2⟩ := pairT_inj q
        obtain ⟨q3, q4⟩ := ih.mp q1
        refine ⟨q3, ?_⟩
        rw [hps, q4]
        exact congrArg (fun z => pathT (us.take (splitN us.length)) place ++ [z]) q2
      · rintro ⟨q1, q2⟩
        have q3 : ps.dropLast = pathT (us.take (splitN us.length)) place := by rw [q2, List.dropLast_concat]
        have q4 : ps.getLastD nonT = topT (us.drop (splitN us.length)) := by rw [q2, getLastD_concat]
        rw [ih.mpr ⟨q1, q3⟩, q4]
    · rw [plen_high (by omega) hp] at hl
      have hps := last_split (l := ps) (d := nonT) (by omega)
      have ih := rise_inj L (us.drop (splitN us.length)) (place - splitN us.length) ps.dropLast (by omega) (by rw [List.length_dropLast, e2]; omega)
      rw [e2] at ih
      have eg : (us.drop (splitN us.length)).getD (place - splitN us.length) nonT = us.getD place nonT := by
        rw [List.getD_eq_getElem?_getD, List.getD_eq_getElem?_getD, List.getElem?_drop, show splitN us.length + (place - splitN us.length) = place by omega]
      rw [eg] at ih
      rw [sidesT_high (by omega) hp, riseT_cons, topT_more (ts := us) (by omega), pathT_high (by omega) hp]
      show pairT _ _ = pairT _ _ ↔ _
      constructor
      · intro q
        obtain ⟨q1, q2⟩ := pairT_inj q
        obtain ⟨q3, q4⟩ := ih.mp q2
        refine ⟨q3, ?_⟩
        rw [hps, q4]
        exact congrArg (fun z => pathT (us.drop (splitN us.length)) (place - splitN us.length) ++ [z]) q1
      · rintro ⟨q1, q2⟩
        have q3 : ps.dropLast = pathT (us.drop (splitN us.length)) (place - splitN us.length) := by rw [q2, List.dropLast_concat]
        have q4 : ps.getLastD nonT = topT (us.take (splitN us.length)) := by rw [q2, getLastD_concat]
        rw [ih.mpr ⟨q1, q3⟩, q4]
termination_by us.length
decreasing_by
  · rw [List.length_take]; omega
  · rw [List.length_drop]; omega
theorem riseT_ws {L : Tm} {ss : List (Tm × Bool)} (hL : WS L) (h : ∀ s ∈ ss, WS s.1) : WS (riseT L ss) := by
  induction ss with
  | nil => exact hL
  | cons s ss ih =>
    have i := ih fun s hs => h s (List.mem_cons_of_mem _ hs)
    have j := h s List.mem_cons_self
    rw [riseT_cons]
    unfold stepT
    split
    · exact .pair i j
    · exact .pair j i
theorem riseT_dep {L : Tm} {ss : List (Tm × Bool)} {n : Nat} (hL : L.dep ≤ n) (h : ∀ s ∈ ss, s.1.dep ≤ n) : (riseT L ss).dep ≤ n + ss.length := by
  induction ss with
  | nil => exact hL
  | cons s ss ih =>
    have i := ih fun s hs => h s (List.mem_cons_of_mem _ hs)
    have j := h s List.mem_cons_self
    rw [riseT_cons, List.length_cons]
    unfold stepT
    split
    · show max _ _ + 1 ≤ _
      omega
    · show max _ _ + 1 ≤ _
      omega
theorem sidesT_mem {place n : Nat} {ps : List Tm} (hl : ps.length = plen place n) : ∀ s ∈ sidesT place n ps, s.1 ∈ ps := by
  by_cases h2 : n < 2
  · rw [sidesT_one h2]
    intro s hs
    cases hs
  · have hs := splitN_lt (n := n) (by omega)
    have hs0 := splitN_pos n
    have lastin : ps.length ≠ 0 → ps.getLastD nonT ∈ ps := fun z => by
      have := last_split (l := ps) (d := nonT) z
      rw [this]
      rw [getLastD_concat]
      exact List.mem_append_right _ (List.mem_singleton.mpr rfl)
    by_cases hp : place < splitN n
    · rw [plen_low (by omega) hp] at hl
      rw [sidesT_low (by omega) hp]
      intro s hs
      rcases List.mem_cons.mp hs with e | e
      · rw [e]
        exact lastin (by omega)
      · exact List.dropLast_subset _ (sidesT_mem (by rw [List.length_dropLast]; omega) s e)
    · rw [plen_high (by omega) hp] at hl
      rw [sidesT_high (by omega) hp]
      intro s hs
      rcases List.mem_cons.mp hs with e | e
      · rw [e]
        exact lastin (by omega)
      · exact List.dropLast_subset _ (sidesT_mem (by rw [List.length_dropLast]; omega) s e)
termination_by n

/-! ### a growth comes to both tops -/
def glen (old n : Nat) : Nat :=
  if h : old < n ∧ 0 < old then if old ≤ splitN n then glen old (splitN n) + 1 else glen (old - splitN n) (n - splitN n) + 1 else 1
termination_by n
decreasing_by
  · exact splitN_lt (by omega)
  · have := splitN_pos n
    omega
theorem glen_all {n : Nat} : glen n n = 1 := by rw [glen, dif_neg (by omega)]
theorem glen_low {old n : Nat} (h0 : 0 < old) (h1 : old < n) (h : old ≤ splitN n) : glen old n = glen old (splitN n) + 1 := by rw [glen, dif_pos ⟨h1, h0⟩, if_pos h]
theorem glen_high {old n : Nat} (h0 : 0 < old) (h1 : old < n) (h : ¬ old ≤ splitN n) : glen old n = glen (old - splitN n) (n - splitN n) + 1 := by rw [glen, dif_pos ⟨h1, h0⟩, if_neg h]
theorem glen_le : ∀ (k old n : Nat), n ≤ 2 ^ k → glen old n ≤ k + 1
  | k, old, n, h => by
    by_cases h2 : old < n ∧ 0 < old
    · obtain ⟨h1, h0⟩ := h2
      cases k with
      | zero => simp at h; omega
      | succ k =>
        obtain ⟨a, b⟩ := splitN_le_pow (show 2 ≤ n by omega) h
        by_cases hp : old ≤ splitN n
        · rw [glen_low h0 h1 hp]
          have := glen_le k old (splitN n) a
          omega
        · rw [glen_high h0 h1 hp]
          have := glen_le k (old - splitN n) (n - splitN n) b
          omega
    · rw [glen, dif_neg h2]
      omega
theorem glen_pos (old n : Nat) : 0 < glen old n := by
  rw [glen]
  split
  · split <;> omega
  · omega
def regT (old n : Nat) (ps : List Tm) : Tm × Tm :=
  if h : old < n ∧ 0 < old then
    if old ≤ splitN n then ((regT old (splitN n) ps.dropLast).1, pairT (regT old (splitN n) ps.dropLast).2 (ps.getLastD nonT))
    else (pairT (ps.getLastD nonT) (regT (old - splitN n) (n - splitN n) ps.dropLast).1, pairT (ps.getLastD nonT) (regT (old - splitN n) (n - splitN n) ps.dropLast).2)
  else (ps.getLastD nonT, ps.getLastD nonT)
termination_by n
decreasing_by
  all_goals first | exact splitN_lt (by omega) | (have := splitN_pos n; omega)
theorem regT_all {n : Nat} {ps : List Tm} : regT n n ps = (ps.getLastD nonT, ps.getLastD nonT) := by rw [regT, dif_neg (by omega)]
theorem regT_low {old n : Nat} {ps : List Tm} (h0 : 0 < old) (h1 : old < n) (h : old ≤ splitN n) : regT old n ps = ((regT old (splitN n) ps.dropLast).1, pairT (regT old (splitN n) ps.dropLast).2 (ps.getLastD nonT)) := by
  rw [regT, dif_pos ⟨h1, h0⟩, if_pos h]
theorem regT_high {old n : Nat} {ps : List Tm} (h0 : 0 < old) (h1 : old < n) (h : ¬ old ≤ splitN n) : regT old n ps = (pairT (ps.getLastD nonT) (regT (old - splitN n) (n - splitN n) ps.dropLast).1, pairT (ps.getLastD nonT) (regT (old - splitN n) (n - splitN n) ps.dropLast).2) := by
  rw [regT, dif_pos ⟨h1, h0⟩, if_neg h]
theorem growT_glen {us : List Tm} {old : Nat} (h0 : 0 < old) (h1 : old ≤ us.length) : (growT us old).length = glen old us.length := by
  by_cases e : old = us.length
  · subst e
    rw [growT_all (by omega), glen_all]
    rfl
  · have hs := splitN_lt (n := us.length) (by omega)
    have hs0 := splitN_pos us.length
    have e1 : (us.take (splitN us.length)).length = splitN us.length := by
      rw [List.length_take]
      omega
    have e2 : (us.drop (splitN us.length)).length = us.length - splitN us.length := List.length_drop
    by_cases hp : old ≤ splitN us.length
    · rw [growT_low h0 (by omega) hp, glen_low h0 (by omega) hp, List.length_append, growT_glen h0 (by omega), e1]
      rfl
    · rw [growT_high h0 (by omega) hp, glen_high h0 (by omega) hp, List.length_append, growT_glen (by omega) (by omega), e2]
      rfl
termination_by us.length
decreasing_by
  · rw [List.length_take]; omega
  · rw [List.length_drop]; omega
/-- by the right growth: both tops -/
theorem reg_grow {us : List Tm} {old : Nat} (h0 : 0 < old) (h1 : old ≤ us.length) : regT old us.length (growT us old) = (topT (us.take old), topT us) := by
  by_cases e : old = us.length
  · subst e
    rw [growT_all (by omega), regT_all, List.take_length]
    rfl
  · have hs := splitN_lt (n := us.length) (by omega)
    have hs0 := splitN_pos us.length
    have hg := splitN_ge (n := us.length) (by omega)
    have e1 : (us.take (splitN us.length)).length = splitN us.length := by
      rw [List.length_take]
      omega
    have e2 : (us.drop (splitN us.length)).length = us.length - splitN us.length := List.length_drop
    by_cases hp : old ≤ splitN us.length
    · rw [growT_low h0 (by omega) hp, regT_low h0 (by omega) hp, List.dropLast_concat, getLastD_concat]
      have ih := reg_grow (us := us.take (splitN us.length)) h0 (by omega)
      rw [e1, List.take_take, Nat.min_eq_left hp] at ih
      rw [ih, topT_more (ts := us) (by omega)]
    · rw [growT_high h0 (by omega) hp, regT_high h0 (by omega) hp, List.dropLast_concat, getLastD_concat]
      have ih := reg_grow (us := us.drop (splitN us.length)) (old := old - splitN us.length) (by omega) (by omega)
      rw [e2] at ih
      have lo : (us.take old).length = old := by
        rw [List.length_take]
        omega
      have so : splitN old = splitN us.length := splitN_of (i := (us.length - 1).log2) (by show splitN us.length < old; omega) (by show old ≤ 2 * splitN us.length; omega)
      rw [ih, topT_more (ts := us) (by omega), topT_more (ts := us.take old) (by omega), lo, so, List.take_take, Nat.min_eq_left (by omega), List.drop_take]
termination_by us.length
decreasing_by
  · rw [List.length_take]; omega
  · rw [List.length_drop]; omega
/-- the new top is the row's by the right growth alone -/
theorem reg_inj (us : List Tm) (old : Nat) (ps : List Tm) (h0 : 0 < old) (h1 : old ≤ us.length) (hl : ps.length = glen old us.length) (h : (regT old us.length ps).2 = topT us) : ps = growT us old := by
  have hps := last_split (l := ps) (d := nonT) (by have := glen_pos old us.length; omega)
  by_cases e : old = us.length
  · subst e
    rw [growT_all (by omega)]
    rw [regT_all] at h
    rw [glen_all] at hl
    have : ps.dropLast = [] := List.eq_nil_of_length_eq_zero (by rw [List.length_dropLast]; omega)
    rw [hps, this]
    exact congrArg (fun z => [z]) h
  · have hs := splitN_lt (n := us.length) (by omega)
    have hs0 := splitN_pos us.length
    have e1 : (us.take (splitN us.length)).length = splitN us.length := by
      rw [List.length_take]
      omega
    have e2 : (us.drop (splitN us.length)).length = us.length - splitN us.length := List.length_drop
    by_cases hp : old ≤ splitN us.length
    · rw [regT_low h0 (by omega) hp, topT_more (ts := us) (by omega)] at h
      rw [glen_low h0 (by omega) hp] at hl
      obtain ⟨q1, q2⟩ := pairT_inj h
      have ih := reg_inj (us.take (splitN us.length)) old ps.dropLast h0 (by omega) (by rw [List.length_dropLast, e1]; omega) (by rw [e1]; exact q1)
      rw [growT_low h0 (by omega) hp, ← ih, ← q2]
      exact hps
    · rw [regT_high h0 (by omega) hp, topT_more (ts := us) (by omega)] at h
      rw [glen_high h0 (by omega) hp] at hl
      obtain ⟨q1, q2⟩ := pairT_inj h
      have ih := reg_inj (us.drop (splitN us.length)) (old - splitN us.length) ps.dropLast (by omega) (by omega) (by rw [List.length_dropLast, e2]; omega) (by rw [e2]; exact q2)
      rw [growT_high h0 (by omega) hp, ← ih, ← q1]
      exact hps
termination_by us.length
decreasing_by
  · rw [List.length_take]; omega
  · rw [List.length_drop]; omega
theorem reg_ws {old n : Nat} {ps : List Tm} (hl : ps.length = glen old n) (h : ∀ t ∈ ps, WS t) : WS (regT old n ps).1 ∧ WS (regT old n ps).2 := by
  have hin : ps.getLastD nonT ∈ ps := by
    have := last_split (l := ps) (d := nonT) (by have := glen_pos old n; omega)
    rw [this, getLastD_concat]
    exact List.mem_append_right _ (List.mem_singleton.mpr rfl)
  have hd : ∀ t ∈ ps.dropLast, WS t := fun t ht => h t (List.dropLast_subset _ ht)
  by_cases e : old < n ∧ 0 < old
  · obtain ⟨h1, h0⟩ := e
    have hs := splitN_lt (n := n) (by omega)
    have hs0 := splitN_pos n
    by_cases hp : old ≤ splitN n
    · rw [glen_low h0 h1 hp] at hl
      rw [regT_low h0 h1 hp]
      obtain ⟨a, b⟩ := reg_ws (old := old) (n := splitN n) (ps := ps.dropLast) (by rw [List.length_dropLast]; omega) hd
      exact ⟨a, .pair b (h _ hin)⟩
    · rw [glen_high h0 h1 hp] at hl
      rw [regT_high h0 h1 hp]
      obtain ⟨a, b⟩ := reg_ws (old := old - splitN n) (n := n - splitN n) (ps := ps.dropLast) (by rw [List.length_dropLast]; omega) hd
      exact ⟨.pair (h _ hin) a, .pair (h _ hin) b⟩
  · rw [regT, dif_neg e]
    exact ⟨h _ hin, h _ hin⟩
termination_by n
theorem reg_dep {d old n : Nat} {ps : List Tm} (hl : ps.length = glen old n) (h : ∀ t ∈ ps, t.dep ≤ d) : (regT old n ps).1.dep ≤ d + ps.length ∧ (regT old n ps).2.dep ≤ d + ps.length := by
  have hin : ps.getLastD nonT ∈ ps := by
    have := last_split (l := ps) (d := nonT) (by have := glen_pos old n; omega)
    rw [this, getLastD_concat]
    exact List.mem_append_right _ (List.mem_singleton.mpr rfl)
  have hd : ∀ t ∈ ps.dropLast, t.dep ≤ d := fun t ht => h t (List.dropLast_subset _ ht)
  have hi := h _ hin
  by_cases e : old < n ∧ 0 < old
  · obtain ⟨h1, h0⟩ := e
    have hs := splitN_lt (n := n) (by omega)
    have hs0 := splitN_pos n
    by_cases hp : old ≤ splitN n
    · rw [glen_low h0 h1 hp] at hl
      rw [regT_low h0 h1 hp]
      obtain ⟨a, b⟩ := reg_dep (d := d) (old := old) (n := splitN n) (ps := ps.dropLast) (by rw [List.length_dropLast]; omega) hd
      rw [List.length_dropLast] at a b
      exact ⟨Nat.le_trans a (by omega), by show max _ _ + 1 ≤ _; omega⟩
    · rw [glen_high h0 h1 hp] at hl
      rw [regT_high h0 h1 hp]
      obtain ⟨a, b⟩ := reg_dep (d := d) (old := old - splitN n) (n := n - splitN n) (ps := ps.dropLast) (by rw [List.length_dropLast]; omega) hd
      rw [List.length_dropLast] at a b
      exact ⟨by show max _ _ + 1 ≤ _; omega, by show max _ _ + 1 ≤ _; omega⟩
  · rw [regT, dif_neg e]
    exact ⟨Nat.le_trans hi (by omega), Nat.le_trans hi (by omega)⟩
termination_by n

/-! ### list(reversed(a list)) -/
section
variable {prog : Program} {w : World} {A : Around} {E : Value → Shared → Prop} {s : Shared}
theorem list_rev {it l : Addr} {items : Array Value} {Q : Value → Shared → Prop} (hh : A.handled = none) (hit : s.heap.IsRevIter it l ((items.size : Int) - 1)) (hl : s.heap.IsList l items) (hne : l ≠ it) (hn : items.size ≤ sizeLine)
    (hQ : ∀ (h' : Heap) (tk : Nat) (acc : Array Value) (c : Nat), (∀ b o, b ≠ it → s.heap.get? b = some o → h'.get? b = some o) → h'.get? s.heap.objs.size = some { cls := .type "list", dict := none, data := .seq acc c, slots := #[] } → ItemsOf (fun i v => items[items.size - 1 - i]? = some v) acc items.size → Q (.ref s.heap.objs.size) { s with heap := h', toks := tk }) :
    wpAny (model prog w) A (call (.type "list") [.ref it]) Q E s := by
  have W := (Walks.listRev (prog := prog) (w := w) (A := A.in1.in1) hh it l hne items).toS
  obtain ⟨oi, hoi, _⟩ := id hit
  obtain ⟨ol, hol, _⟩ := id hl
  have hSi : s.heap.objs.size ≠ it := Nat.ne_of_gt (Heap.lt_size hoi)
  have hSl : s.heap.objs.size ≠ l := Nat.ne_of_gt (Heap.lt_size hol)
  have hSf : s.heap.objs.size ∉ [it, l] := by simp only [List.mem_cons, List.not_mem_nil, or_false, not_or]; exact ⟨hSi, hSl⟩
  refine callType_codes (Q₁ := fun obj s₁ => obj = .ref s.heap.objs.size ∧ s₁ = { s with heap := s.heap.push { cls := .type "list", data := .seq #[] } }) F.called_list (F.typeCall_list_1 _) F.entry_list_init
    (code_list_new _ ⟨rfl, rfl⟩) fun obj s₁ h₁ => ?_
  obtain ⟨rfl, rfl⟩ := h₁
  have hS : (s.heap.push { cls := .type "list", data := .seq #[] }).get? s.heap.objs.size = some { cls := .type "list", data := .seq #[] } := Heap.get?_push_size _ rfl
  refine ⟨⟨_, hS, rfl⟩, F.args_list_init_2 _ _, ?_⟩
  show wpAny _ A.in1.in1 (do let old ← Builtin.List.listItems (.ref s.heap.objs.size); Builtin.List.listUpdate (.ref s.heap.objs.size) (fun _ => #[]); letGo old.toList.reverse; Builtin.List.listExtendWith (.ref s.heap.objs.size) (.ref it) .none) _ _ _
  refine wpAny_bind ?_
  unfold Builtin.List.listItems
  refine wpAny_bind (wpAny_seqItems hS rfl (wpAny_pure ?_))
  show wpAny _ A.in1.in1 (updateSeq s.heap.objs.size (fun _ => #[]) >>= fun _ => letGo (#[] : Array Value).toList.reverse >>= fun _ => Builtin.List.listExtendWith (.ref s.heap.objs.size) (.ref it) .none) _ _ _
  refine wpAny_bind (wpAny_updateSeq hS rfl ?_)
  have hS2 := Heap.get?_update_self (Obj.mapSeq (fun _ => (#[] : Array Value))) hS rfl
  refine wpAny_bind (wpAny_letGo ?_)
  have up : ∀ (h : Heap) (f : Obj → Obj), (∀ b o, s.heap.get? b = some o → h.get? b = some o) → ∀ b o, s.heap.get? b = some o → (h.update s.heap.objs.size f).get? b = some o := fun h f q b o e =>
    (Heap.get?_update_other _ _ (Ne.symm (Nat.ne_of_lt (Heap.lt_size e)))).trans (q b o e)
  have k1 : ∀ b o, s.heap.get? b = some o → (s.heap.push { cls := .type "list", data := .seq #[] }).get? b = some o := fun b o e => Heap.get?_push_of_some _ e
  have k2 := up _ (Obj.mapSeq (fun _ => (#[] : Array Value))) k1
  generalize ((s.heap.push { cls := .type "list", data := .seq #[] }).update s.heap.objs.size (Obj.mapSeq (fun _ => (#[] : Array Value)))) = h2 at hS2 k2 ⊢
  have hit1 : h2.IsRevIter it l ((items.size : Int) - 1) := hit.at fun o e => k2 _ _ e
  have hl1 : h2.IsList l items := by
    obtain ⟨o, ho, q⟩ := id hl
    exact ⟨o, k2 _ _ ho, q⟩
  have hT : ({ s with heap := h2 } : Shared).TypeIs (.ref it) "list_reverseiterator" := Heap.IsRevIter.typeIs (s := { s with heap := h2 }) hit1
  have h1 : Builtin.List.listSameRef (.ref s.heap.objs.size) (.ref it) = false := by simp [Builtin.List.listSameRef, hSi]
  unfold Builtin.List.listExtendWith
  refine wpAny_bind (wpAny_typeOf hT ?_)
  rw [if_neg (by rw [h1]; decide)]
  refine wpAny_bind (wpAny_pyIter_revIter (s := { s with heap := h2 }) hit1 ?_)
  refine wpAny_bind (wpAny_holding ?_)
  unfold Builtin.List.listLengthHint
  refine wpAny_bind (wpAny_specialOf hT RT.nolen_lri ?_)
  show wpAny _ A.in1.in1 (specialOf (Value.ref it) (Str.ofString "__length_hint__") >>= _) _ _ _
  refine wpAny_bind (wpAny_specialOf hT RT.hint_lri ?_)
  generalize hid : ("list_reverseiterator.__length_hint__" : String) = id0
  wp_delta
  rw [show splitId id0 = some ("list_reverseiterator", "__length_hint__") from by subst hid; decide +kernel]
  subst hid
  refine wpAny_bind (wpAny_isInstance (b := true) hT (by rw [isSubtype_type]; kernel_rfl) ?_)
  refine wpAny_pure ?_
  rw [if_neg (by decide)]
  have e0 : ((items.size : Nat) : Int) - 1 - ((0 : Nat) : Int) = (items.size : Int) - 1 := by omega
  refine wpAny_pure ⟨plainId_quiet F.plain_extend_loop _, codeAny_extend_loopS W hn _ hSf _ items.size 0 _ _ _ rfl (Nat.zero_le _) ⟨Nat.zero_le _, by rw [e0]; exact hit1, hl1⟩ hS2 (ItemsOf.nil _) fun s' acc' c' hm hS' hacc => ?_⟩
  rw [Moved.eq_with hm]
  refine ⟨rfl, hQ s'.heap s'.toks acc' c' (fun b o hb e => hm.heap b o (fun hmem => ?_) (k2 _ _ e)) hS' hacc⟩
  rcases List.mem_cons.mp hmem with e' | hmem
  · exact absurd (Heap.lt_size e) (by rw [e']; exact Nat.lt_irrefl _)
  · exact hb (List.mem_singleton.mp hmem)
end
section
variable {X : Cx}
def tLstRev (K : PySem.W.Frag) (te : TE) : TE := fun σ H Q => te σ H fun v H1 => ∃ (a : Addr) (xs : List V), v = .ref a ∧ SqL K H1 a xs ∧ ∀ q, H1 q = none → Q (.ref q) (upd H1 q (.lst xs.reverse))
theorem pe_lstRev {e : Expr} {te : TE} {p p2 pos pos2 : Pos} (hc : X.calm = true) (hg : Gl X "list") (hm : X.mg "list" = none) (hg2 : Gl X "reversed") (hm2 : X.mg "reversed" = none) (he : PE X e te)
    (hs : starEach [e] X.env = (false, eval e X.env) :: starEach [] X.env := by rfl)
    (hs2 : starEach [.Call (.Name "reversed" p2) [e] [] pos2] X.env = (false, eval (.Call (.Name "reversed" p2) [e] [] pos2) X.env) :: starEach [] X.env := by rfl) :
    PE X (.Call (.Name "list" p) [.Call (.Name "reversed" p2) [e] [] pos2] [] pos) (tLstRev X.K te) := by
  refine ⟨fun pins s σ H Q I h => ?_⟩
  refine Call_ (ld_blt I hg hm boot_list (PyProof.Rows.callWith_type1 (args_cons (Call_ (ld_blt I hg2 hm2 PyProof.Rows.boot_reversed (PyProof.Rows.callWith_type1 (args_cons (thn (he.run pins s σ H _ I h) fun u s1 ⟨v, H1, I1, r1, q1⟩ => args_nil ?_) hs) hs rfl))) hs2) hs2 rfl))
  obtain ⟨a, xs, ev, hq, q⟩ := q1
  subst ev
  obtain rfl : u = Value.ref a := r1
  obtain ⟨its, rv, p', hz⟩ := I1.list hq
  refine call_reversed_list p'.isList (args_nil ?_)
  have hl := p'.isList
  obtain ⟨ol, hol, _⟩ := id hl
  have hne : a ≠ s1.heap.objs.size := Nat.ne_of_lt (Heap.lt_size hol)
  have hn : its.toArray.size ≤ sizeLine := by rw [List.size_toArray, ← rv.length]; exact hz
  refine list_rev (s := { s1 with heap := s1.heap.push (revObj a ((its.toArray.size : Int) - 1)) }) (I1.ok.hd hc) ⟨_, Heap.get?_push_size _ rfl, rfl, rfl⟩ (hl.push _) hne hn fun h' tk acc c hk hS hi => ?_
  have ext : ∀ b o, s1.heap.get? b = some o → h'.get? b = some o := fun b o e => hk b o (Nat.ne_of_lt (Heap.lt_size e)) (Heap.get?_push_of_some _ e)
  refine ⟨.ref _, upd H1 (s1.heap.push (revObj a ((its.toArray.size : Int) - 1))).objs.size (.lst xs.reverse), I1.laid (t' := tk) ext (Nat.le_of_lt (by simp [Heap.push])) (show ObjOk X.prog X.w _ _ _ (.lst xs.reverse) from ⟨by rw [List.length_reverse]; exact hz, acc.toList, c, RT.vals_rev rv hi, ?_⟩), rfl, q _ (I1.hok.fresh (Nat.le_of_lt (by simp [Heap.push])))⟩
  exact hS
end

/-! ### methods that may raise -/
structure MetR (P : Program) (w : World) (K : PySem.W.Frag) (mg : Str → Option Value) (base : Heap) (k : Nat) (C : Addr) (m : Str) (sp : Sp) : Prop where
  ex : ∃ (f : Addr) (fd : FuncData) (ps : List Str), Cls K C ∧ Meth K C m f ∧ FnOk P w K mg base (L2.CX P w) k f fd ps sp ∧ Binds K fd ps []
theorem metR_of {P : Program} {w : World} {K : PySem.W.Frag} {mg : Str → Option Value} {base : Heap} {C : Addr} {m qual : Str} {st : Stmt} {N ps : List Str} {k : Nat} {sp : Sp} (c : Cls K C) (D : MetX K C m qual st ps) (S : FnScope N ps (defScope st)) (len : ∀ vs H Q E, sp vs H Q E → vs.length = ps.length)
    (hbody : ∀ (f : Addr) (cdv : Value) (A : Around) (outer : List Env) (s : Shared) (H : Hp) (vs : List V) (Q : VK) (E : XK), Room k (A.deeper (envOfC qual (defScope st) s.heap.objs.size f cdv)) → sp vs H Q E →
      ∃ t, PSs (cxOf (L2.CX P w) P w K mg base N qual (defScope st) f cdv A outer s H E) (defBody st) t ∧ t { nx := fun _ H' => Q .non H', rt := Q } (start N vs) H) : MetR P w K mg base (k + 1) C m sp := by
  obtain ⟨f, fd, F, me, b⟩ := D.ex
  exact ⟨f, fd, ps, c, me, F.okX S len (hbody f), .all b⟩
def tMethX (C : Addr) (m : Str) (sp : Sp) (E : L2.St → XK) (ta : TE) (t : TA) : TE := fun σ H Q => ta σ H fun x H1 => ∃ a dx fs, x = .ref a ∧ H1 a = some (.ins C dx fs) ∧ fs.lookup m = none ∧ t σ H1 fun vs H2 => sp (x :: vs) H2 Q (E σ)
section
variable {X : Cx} {k j : Nat} {C : Addr} {m : Str} {sp : Sp} {pos apos : Pos} {e o : Expr} {es : List Expr} {ta : TE} {t : TA} {W : WX}
theorem pe_mtx {pl : Sem Bool} (c : MetR X.prog X.w X.K X.mg X.base k C m sp) (tk : Takes X W) (hr : Room j X.A) (hk : k ≤ j) (he : PE X o ta) (ha : PA X (e :: es) t)
    (hst : starEach (e :: es) X.env = (false, eval e X.env) :: starEach es X.env := by rfl) (hpl : (backTo pos (starEach es X.env)).any (·.1) = false := by rfl)
    (ht : eval (.Call (.Attribute o m apos) (e :: es) [] pos) X.env = (do
      let ov ← eval o X.env
      standAt apos.atName
      let (f, first) ← holding [ov] (getMethod ov m pl)
      callWith pos f first (backTo pos (starEach (e :: es) X.env)) (backToKw pos (keywordEach [] X.env))) := by rfl) :
    PE X (.Call (.Attribute o m apos) (e :: es) [] pos) (tMethX C m sp (WE W) ta t) := by
  obtain ⟨f, fd, ps, hc, hm, F, b⟩ := c.ex
  refine ⟨fun pins s σ H Q I h => ?_⟩
  refine PySem.W.methodCall_KW (pl := pl) (thn (he.run pins s σ H _ I h) fun u s1 ⟨x, H1, I1, rx, a, dx, fs, ex, ea, l, q⟩ => ?_) ht
  subst ex
  obtain rfl : u = Value.ref a := rx
  refine getmeth_ok I1 ea hc hm l ?_
  refine PySem.W.callWith_K (first := [.ref a]) (h₀ := X.base) I.ok.mod.kin hm.kp (thn (ha.run pos pins s1 σ H1 _ I1 q) fun us s2 ⟨vs, H2, I2, r, q2⟩ => ⟨I2.kIn, ?_⟩) hst hpl
  exact run_fnS (us := .ref a :: us) (vs := .ref a :: vs) F (hr.mono hk) b (passAt tk σ) I2 (.cons rfl r) q2
end

/-! ### numbers and words drawn -/
section
variable {P : Program} {w : World} {K : PySem.W.Frag} {mg : Str → Option Value} {base : Heap}
def spDraw : Sp := fun vs H Q _ => ∃ (c k m : Int), vs = [.int c, .int k, .int m] ∧ 0 ≤ k ∧ k < 1000000 ∧ 0 < m ∧ ∀ (z : Int) (H' : Hp), 0 ≤ z → z < m → Same H H' → Q (.int z) H'
theorem prime_pos : ∀ i : Nat, i < 16 → ∃ z : Int, 0 < z ∧ ([.int 1000003, .int 1000033, .int 1000037, .int 1000039, .int 1000081, .int 1000099, .int 1000117, .int 1000121, .int 1000133, .int 1000151, .int 1000159, .int 1000171, .int 1000183, .int 1000187, .int 1000193, .int 1000199] : List V)[i]? = some (V.int z)
  | 0, _ => ⟨_, by decide, rfl⟩
  | 1, _ => ⟨_, by decide, rfl⟩
  | 2, _ => ⟨_, by decide, rfl⟩
  | 3, _ => ⟨_, by decide, rfl⟩
  | 4, _ => ⟨_, by decide, rfl⟩
  | 5, _ => ⟨_, by decide, rfl⟩
  | 6, _ => ⟨_, by decide, rfl⟩
  | 7, _ => ⟨_, by decide, rfl⟩
  | 8, _ => ⟨_, by decide, rfl⟩
  | 9, _ => ⟨_, by decide, rfl⟩
  | 10, _ => ⟨_, by decide, rfl⟩
  | 11, _ => ⟨_, by decide, rfl⟩
  | 12, _ => ⟨_, by decide, rfl⟩
  | 13, _ => ⟨_, by decide, rfl⟩
  | 14, _ => ⟨_, by decide, rfl⟩
  | 15, _ => ⟨_, by decide, rfl⟩
  | n + 16, h => absurd h (by omega)
theorem ok_draw {cc : Addr} (T : Txt K mg cc) : Cal P w K mg base 1 "_law_draw" spDraw [] := by
  have Z := T.Z
  refine cal_of T.d__law_draw sc__law_draw (fun vs H Q E h => ?_) (fun f cdv A outer s H vs Q E hr h => ?_)
  · obtain ⟨c, k, m, rfl, _⟩ := h
    rfl
  obtain ⟨c, k, m, rfl, k0, k1, m0, q⟩ := h
  refine ⟨_, (pss_cons (ps_set (i := 3) sc__law_draw.nd rfl (Or.inl rfl) (pe_tup (pa_cons pe_int (pa_cons pe_int (pa_cons pe_int (pa_cons pe_int (pa_cons pe_int (pa_cons pe_int (pa_cons pe_int (pa_cons pe_int (pa_cons pe_int (pa_cons pe_int (pa_cons pe_int (pa_cons pe_int (pa_cons pe_int (pa_cons pe_int (pa_cons pe_int (pa_cons pe_int pa_nil))))))))))))))))))
  (pss_one (ps_ret (pe_op op_mod (pe_op op_mod (pe_op op_add (pe_op op_mul (pv 0) pe_int) (pe_op op_mul (pv 1) pe_int)) (pe_ix ix_tup (pv 3) (pe_op op_mod (pv 1) pe_int) (fun _ _ => rfl))) (pv 2))))), ?_⟩
  refine ⟨by show 16 ≤ sizeLine; decide, fun p hp => ?_⟩
  obtain ⟨i, hi⟩ := Int.eq_ofNat_of_zero_le (Int.emod_nonneg k (show (16 : Int) ≠ 0 by decide))
  have hi16 : i < 16 := by
    have := Int.emod_lt_of_pos k (show (0 : Int) < 16 by decide)
    omega
  obtain ⟨z, hz, hzi⟩ := prime_pos i hi16
  refine ⟨_, rfl, _, _, rfl, rfl, .inr ⟨by decide, by decide⟩, _, rfl, _, _, rfl, rfl, .inr ⟨by decide, by decide⟩, _, _, rfl, rfl, _, rfl, _, rfl, _, 16, rfl, rfl, (by show (0 : Int) < 16; decide), p, _, _, V.int z, rfl, rfl, SqT.of upd_same, by rw [hi]; exact atI_nat hzi, ?_⟩
  refine ⟨_, _, rfl, rfl, hz, _, rfl, _, _, rfl, rfl, m0, ?_⟩
  exact q _ _ (Int.emod_nonneg _ (by omega)) (Int.emod_lt_of_pos _ m0) (same_upd hp)
end

section
variable {P : Program} {w : World} {K : PySem.W.Frag} {mg : Str → Option Value} {base : Heap}
def someT : Str := " !\"#$&'()*+,-./0123456789:;<=>?@ABCDEFGHIJKLMNOPQRSTUVWXYZ[\\]^_`abcdefghijklmnopqrstuvwxyz{|}~"
theorem some_len : 0 < someT.length ∧ someT.length ≤ 100 ∧ someT.length = someT.cps.toList.length := by decide +kernel
theorem some_ok : (someT.cps.toList.all fun c => txtOk ⟨#[c]⟩) = true := by decide +kernel
theorem some_at {z : Int} (h0 : 0 ≤ z) (h1 : z < (someT.length : Int)) : ∃ c, atI someT.cps.toList z = some c ∧ txtOk ⟨#[c]⟩ = true := by
  obtain ⟨n, rfl⟩ := Int.eq_ofNat_of_zero_le h0
  have hl := some_len.2.2
  have hn : n < someT.cps.toList.length := by omega
  exact ⟨_, atI_nat (List.getElem?_eq_getElem hn), List.all_eq_true.mp some_ok _ (List.getElem_mem hn)⟩
def spWord : Sp := fun vs H Q _ => ∃ (c : Int), vs = [.int c] ∧ ∀ (x : Str) (H' : Hp), txtOk x = true → x.length ≤ 10 → Same H H' → Q (.str x) H'
theorem same_mut {H H' : Hp} {p : Addr} {o : HO} (e : Same H H') (h : H p = none) : Same H (upd H' p o) := fun a u ha => by
  rw [upd_ne (ne_of_none ha h)]
  exact e a u ha
theorem txtOk_app {x y : Str} (h : txtOk x = true) (h' : txtOk y = true) : txtOk (x ++ y) = true := by
  have e : (x ++ y).cps = x.cps ++ y.cps := rfl
  unfold txtOk PySem.PyData.strOk at *
  rw [e, Array.all_append, h, h']
  rfl
theorem str_app_len (x y : Str) : (x ++ y).length = x.length + y.length := by
  show (x.cps ++ y.cps).size = x.cps.size + y.cps.size
  rw [Array.size_append]
theorem dp_strs {K : PySem.W.Frag} {H : Hp} : ∀ ys : List Str, (∀ y ∈ ys, txtOk y = true) → ∃ ds, DpAll K H (ys.map V.str) ds ∧ PyData.canLayAll0 ds = true ∧ PyData.depthAll ds = 0 ∧ PyData.eqv (.list ds) (.list []) = decide (ys = [])
  | [], _ => ⟨[], .nil, rfl, rfl, rfl⟩
  | y :: ys, h => by
    obtain ⟨ds, a, b, c, _⟩ := dp_strs ys fun z hz => h z (List.mem_cons_of_mem _ hz)
    refine ⟨.str y :: ds, .cons (.str y) a, ?_, ?_, rfl⟩
    · rw [PyData.canLayAll0, b, show (PyData.str y).canLay0 = true from h y List.mem_cons_self]
      rfl
    · show max 0 (PyData.depthAll ds) = 0
      omega
theorem join_ok : ∀ ys : List Str, (∀ y ∈ ys, txtOk y = true ∧ y.length = 1) → txtOk (Txt.join "" ys) = true ∧ (Txt.join "" ys).length ≤ ys.length := by
  intro ys h
  rw [TL.join_eq]
  induction ys with
  | nil => exact ⟨by decide +kernel, by decide +kernel⟩
  | cons y ys ih =>
    obtain ⟨h1, h2⟩ := h y List.mem_cons_self
    obtain ⟨i1, i2⟩ := ih fun z hz => h z (List.mem_cons_of_mem _ hz)
    cases ys with
    | nil => exact ⟨h1, Nat.le_of_eq h2⟩
    | cons z r =>
      have e : Str.join "" (y :: z :: r) = y ++ ("" : Str) ++ Str.join "" (z :: r) := rfl
      rw [e]
      refine ⟨txtOk_app (txtOk_app h1 (by decide +kernel)) i1, ?_⟩
      have l1 : (y ++ ("" : Str) ++ Str.join "" (z :: r)).length = y.length + ("" : Str).length + (Str.join "" (z :: r)).length := by
        rw [str_app_len, str_app_len]
      have l0 : ("" : Str).length = 0 := rfl
      rw [l1, h2, l0, List.length_cons]
      omega
theorem ok_word {cc : Addr} (T : Txt K mg cc) : Cal P w K mg base 2 "_law_word" spWord [] := by
  have Z := T.Z
  have C__law_draw := ok_draw (P := P) (w := w) (base := base) T
  refine cal_of T.d__law_word sc__law_word (fun vs H Q E h => ?_) (fun f cdv A' outer s H vs Q E hr h => ?_)
  · obtain ⟨c, rfl, _⟩ := h
    rfl
  obtain ⟨c, rfl, q⟩ := h
  refine ⟨_, (pss_cons (ps_set (i := 1) sc__law_word.nd rfl (Or.inr rfl) pe_str)
  (pss_cons (ps_set (i := 2) sc__law_word.nd rfl (Or.inr rfl) (pe_callB call_len_str rfl Z.len PySem.boot_len (pa_cons (pv 1) pa_nil)))
  (pss_cons (ps_setLc (i := 3) (own := [("_law_k", 4)]) (g := gName 4) (tt := tYes) rfl sc__law_word.nd rfl rfl (sw_true rfl rfl rfl (by decide +kernel)) (pi_range1 rfl Z.range (pa_cons (pe_c C__law_draw hr (by omega) rfl (pa_cons (pv 0) (pa_cons pe_int (pa_cons pe_int pa_nil)))) pa_nil)) (blkOk_by (N := N__law_word) (sc := defScope s__law_word) (by decide +kernel)) (fun _ _ _ _ _ => (pg_name (i := 4) sc__law_word.nd rfl (Or.inl rfl))) (fun _ _ _ _ _ => pts_nil) (fun _ _ _ _ _ => (pe_ix ix_str (pv 1) (pe_c C__law_draw hr (by omega) rfl (pa_cons (pv 0) (pa_cons (pe_op op_add pe_int (pe_op op_mod (pv 4) pe_int)) (pa_cons (pv 2) pa_nil)))) (fun _ _ => rfl))))
  (Evl.pss_cut (ps_if (PW.pt (pw_and (pt_cmpR (op_neD hr.units) (pv 3) (pe_lst pa_nil) (nomark _)) (pw_and1 (pt_cmpR op_eq (pe_c C__law_draw hr (by omega) rfl (pa_cons (pv 0) (pa_cons pe_int (pa_cons pe_int pa_nil)))) pe_int (nomark _))))) (pss_cons (ps_setLc (i := 3) (own := [("_law_sign", 5)]) (g := gName 5) (tt := tYes) rfl sc__law_word.nd rfl rfl (sw_true rfl rfl rfl (by decide +kernel)) (pi_list (pv 3)) (blkOk_by (N := N__law_word) (sc := defScope s__law_word) (by decide +kernel)) (fun _ _ _ _ _ => (pg_name (i := 5) sc__law_word.nd rfl (Or.inl rfl))) (fun _ _ _ _ _ => pts_nil) (fun _ _ _ _ _ => pe_str))
  (pss_one (ps_asg (pe_ix ix_str (pv 1) (pe_c C__law_draw hr (by omega) rfl (pa_cons (pv 0) (pa_cons pe_int (pa_cons (pv 2) pa_nil)))) (fun _ _ => rfl)) (pg_sub (pv 3) (pe_c C__law_draw hr (by omega) rfl (pa_cons (pv 0) (pa_cons pe_int (pa_cons (pe_callB call_len_seq rfl Z.len PySem.boot_len (pa_cons (pv 3) pa_nil)) pa_nil)))) set_list)))) pss_nil)
  (pss_one (ps_ret (pe_join pe_str (pv 3)))))))), ?_⟩
  show tSeq _ _ _ _ _
  refine ⟨V.str someT, rfl, someT, rfl, by have := some_len.2.1; rw [sizeLine_eq]; omega, ?_⟩
  refine ⟨_, rfl, c, 13, 6, rfl, by decide, by decide, by decide, fun z H1 z0 z1 s1 => ?_⟩
  refine ⟨z, rfl, by omega, by omega, fun D nD => ?_⟩
  refine lc_range (fun i H' => ∃ ys : List Str, ys.length = i ∧ Same H1 H' ∧ H' D = some (.lst (ys.map V.str)) ∧ ∀ y ∈ ys, txtOk y = true ∧ y.length = 1) ⟨[], rfl, same_upd nD, upd_same, fun _ h => by cases h⟩ ?_ ?_
  · rintro i H' hi ⟨ys, rfl, s2, hD, hy⟩
    refine ⟨rfl, V.str someT, rfl, _, rfl, _, rfl, _, 4, rfl, rfl, (by show (0 : Int) < 4; decide), _, _, rfl, rfl, _, rfl, c, _, (someT.length : Int), rfl, ?_, ?_, ?_, fun z' H2 z0' z1' s3 => ?_⟩
    · have := Int.emod_nonneg (0 + (ys.length : Int)) (show (4 : Int) ≠ 0 by decide)
      omega
    · have := Int.emod_lt_of_pos (0 + (ys.length : Int)) (show (0 : Int) < 4 by decide)
      omega
    · have := some_len.1
      omega
    obtain ⟨ch, hch, och⟩ := some_at z0' z1'
    refine ⟨someT, z', ch, rfl, rfl, by have := some_len.2.1; rw [sizeLine_eq]; omega, hch, ys.map V.str, s3 _ _ hD, by rw [List.length_map, sizeLine_eq]; omega, ys ++ [⟨#[ch]⟩], by simp, same_mut (s2.trans s3) nD, by rw [upd_same, List.map_append]; rfl, fun y hy' => ?_⟩
    rcases List.mem_append.mp hy' with h | h
    · exact hy y h
    · rw [List.mem_singleton.mp h]
      exact ⟨och, rfl⟩
  · rintro H2 ⟨ys, hyl, s2, hD, hy⟩
    have hy6 : ys.length ≤ 6 := by omega
    refine ⟨fun σ H' => ∃ (D : Addr) (ys : List Str) (y4 y5 : Option V), σ = [some (.int c), some (.str someT), some (.int (someT.length : Int)), some (.ref D), y4, y5] ∧ Same H H' ∧ H' D = some (.lst (ys.map V.str)) ∧ ys.length ≤ 6 ∧ ∀ y ∈ ys, txtOk y = true ∧ y.length = 1, ?_, ?_⟩
    · refine ⟨_, rfl, by show 0 ≤ sizeLine; decide, fun p hp => ?_⟩
      have hD3 : upd H2 p (.lst []) D = some (.lst (ys.map V.str)) := by rw [upd_ne (ne_of_none hD hp)]; exact hD
      have s3 := (s1.trans s2).trans (same_upd (o := .lst []) hp)
      obtain ⟨ds, d1, d2, d3, d4⟩ := dp_strs (K := K) (H := upd H2 p (.lst [])) ys fun y h => (hy y h).1
      refine ⟨.list ds, .list [], .lst (SqL.of hD3) d1, .lst (SqL.of upd_same) .nil, shaped_of d2 (by show PyData.depthAll ds + 1 ≤ 64; omega), by decide +kernel, _, rfl, ?_⟩
      rw [d4]
      generalize upd H2 p (.lst []) = H3 at hD3 s3 ⊢
      by_cases e : ys = []
      · rw [decide_eq_true e]
        exact ⟨D, ys, _, _, rfl, s3, hD3, hy6, hy⟩
      · rw [decide_eq_false e]
        refine iteT ?_
        refine ⟨_, rfl, c, 14, 3, rfl, by decide, by decide, by decide, fun z3 H4 _ _ s4 => ?_⟩
        have hD4 := s4 _ _ hD3
        refine ⟨rfl, _, rfl, ite2 (fun _ => ?_) (fun _ => ⟨D, ys, _, _, rfl, s3.trans s4, hD4, hy6, hy⟩)⟩
        refine ⟨_, rfl, D, rfl, ⟨_, SqL.of hD4⟩, fun D2 nD2 => ?_⟩
        refine lc_list (K := K) (a := D) (xs := ys.map V.str) (fun i H' => Same H4 H' ∧ H' D2 = some (.lst ((List.replicate i ("a" : Str)).map V.str))) ⟨same_upd nD2, upd_same⟩ (fun i H' _ ⟨s, _⟩ => SqL.of (s _ _ hD4)) ?_ ?_
        · rintro i y H' hi ⟨s5, hD5⟩
          have hlt := (List.getElem?_eq_some_iff.mp hi).1
          rw [List.length_map] at hlt
          refine ⟨rfl, _, hD5, by rw [List.length_map, List.length_replicate, sizeLine_eq]; omega, same_mut s5 nD2, ?_⟩
          rw [upd_same, List.replicate_succ', List.map_append]
          rfl
        · rintro H5 ⟨s5, hD5⟩
          rw [List.length_map] at hD5
          refine ⟨V.str someT, rfl, _, rfl, _, rfl, c, 12, (someT.length : Int), rfl, by decide, by decide, by have := some_len.1; omega, fun z5 H6 z50 z51 s6 => ?_⟩
          obtain ⟨ch, hch, och⟩ := some_at z50 z51
          refine ⟨someT, z5, ch, rfl, rfl, by have := some_len.2.1; rw [sizeLine_eq]; omega, hch, ?_⟩
          have hD6 := s6 _ _ hD5
          have ep : 0 < ys.length := List.length_pos_iff.mpr e
          refine ⟨_, rfl, _, rfl, _, rfl, D2, _, rfl, .inl (SqL.of hD6), c, 15, _, rfl, by decide, by decide, ?_, fun z6 H7 z60 z61 s7 => ?_⟩
          · rw [List.length_map, List.length_replicate]
            omega
          rw [List.length_map, List.length_replicate] at z61
          have hD7 := s7 _ _ hD6
          obtain ⟨j, rfl⟩ := Int.eq_ofNat_of_zero_le z60
          refine ⟨D2, _, _, j, rfl, rfl, hD7, ?_, ?_⟩
          · exact Evl.ixN_nat (by rw [List.length_map, List.length_replicate]; omega)
          refine ⟨D2, (List.replicate ys.length ("a" : Str)).set j ⟨#[ch]⟩, _, _, rfl, ?_, ?_, ?_, ?_⟩
          · exact same_mut (((s3.trans s4).trans (s5.trans s6)).trans s7) (Same.free (s3.trans s4) nD2)
          · rw [upd_same, List.map_set]
          · rw [List.length_set, List.length_replicate]
            omega
          · intro y hy'
            rcases List.mem_or_eq_of_mem_set hy' with h | h
            · rw [List.eq_of_mem_replicate h]
              exact ⟨by decide +kernel, rfl⟩
            · rw [h]
              exact ⟨och, rfl⟩
    rintro σ H3 ⟨D, ys, y4, y5, rfl, s3, hD3, hyl3, hy3⟩
    obtain ⟨j1, j2⟩ := join_ok ys hy3
    refine ⟨⟨"", rfl⟩, _, rfl, "", D, ys, rfl, rfl, .inl (SqL.of hD3), ?_, q _ _ j1 (by omega) s3⟩
    have e1 : ∀ l : List Str, (∀ y ∈ l, txtOk y = true ∧ y.length = 1) → (l.map (·.length)).sum = l.length := fun l h => by
      induction l with
      | nil => rfl
      | cons y l ih => rw [List.map_cons, List.sum_cons, ih fun z hz => h z (List.mem_cons_of_mem _ hz), (h y List.mem_cons_self).2, List.length_cons, Nat.add_comm]
    rw [e1 ys hy3]
    show ys.length + ys.length * 0 ≤ _
    omega
end

/-! ### heaps where one instance may change -/
structure ExtO (p : Addr) (H H' : Hp) : Prop where
  keep : ∀ a o, a ≠ p → H a = some o → (∀ kvs, o ≠ .dT kvs) → H' a = some o
  grow : ∀ a kvs, H a = some (.dT kvs) → ∃ more, H' a = some (.dT (kvs ++ more))
  gr : Gr H H'
theorem Ext.o {p : Addr} {H H' : Hp} (e : Ext H H') : ExtO p H H' := ⟨fun a o _ h n => e.keep a o h n, e.grow, e.gr⟩
theorem ExtO.trans {p : Addr} {H H1 H2 : Hp} (a : ExtO p H H1) (b : ExtO p H1 H2) : ExtO p H H2 := by
  refine ⟨fun x o q e n => b.keep x o q (a.keep x o q e n) n, fun x kvs e => ?_, a.gr.trans b.gr⟩
  obtain ⟨m1, e1⟩ := a.grow x kvs e
  obtain ⟨m2, e2⟩ := b.grow x _ e1
  exact ⟨m1 ++ m2, by rw [e2, List.append_assoc]⟩
theorem ExtO.put {p C dx : Addr} {H : Hp} {fs : List (Str × V)} {o : HO} (h : H p = some (.ins C dx fs)) : ExtO p H (upd H p o) := by
  refine ⟨fun a u q e _ => by rw [upd_ne q]; exact e, fun a kvs e => ⟨[], ?_⟩, (Kp.ins h).gr⟩
  rw [List.append_nil, upd_ne]
  · exact e
  · rintro rfl
    rw [h] at e
    cases e
theorem ExtO.lst {p a : Addr} {H H' : Hp} {xs : List V} (e : ExtO p H H') (q : a ≠ p) (h : H a = some (.lst xs)) : H' a = some (.lst xs) := e.keep _ _ q h fun _ z => nomatch z
theorem ExtO.ins {p a C dx : Addr} {H H' : Hp} {fs : List (Str × V)} (e : ExtO p H H') (q : a ≠ p) (h : H a = some (.ins C dx fs)) : H' a = some (.ins C dx fs) := e.keep _ _ q h fun _ z => nomatch z
/-- the instance was made behind H -/
theorem ExtO.ext {p : Addr} {H H1 H' : Hp} (e : ExtO p H1 H') (x : Ext H H1) (hp : H p = none) : Ext H H' := by
  refine ⟨fun a o h n => e.keep a o (ne_of_none h hp) (x.keep a o h n) n, fun a kvs h => ?_⟩
  obtain ⟨m1, e1⟩ := x.grow a kvs h
  obtain ⟨m2, e2⟩ := e.grow a _ e1
  exact ⟨m1 ++ m2, by rw [e2, List.append_assoc]⟩

/-! ### a leaf and a path come to a top, or BadPaper -/
/-- no list by its type, and none equal to the empty list -/
structure Odd (K : PySem.W.Frag) (H : Hp) (v : V) : Prop where
  ty : ∃ t, TyX K H v t ∧ PySem.W.kitOne K t (.type "list") = some false
  ne : ∃ d, Dp K H v d ∧ SeqAt.shaped d = true ∧ PyData.eqv d (.list []) = false
def spLast (K : PySem.W.Frag) (mg : Str → Option Value) : Sp := fun vs H Q E => ∃ v, vs = [v] ∧
  ((∃ a ys, v = .ref a ∧ H a = some (.lst ys) ∧ (∀ y, ys.getLast? = some y → Q y H) ∧ (ys = [] → ∀ C, mg "BadPaper" = some (.ref C) → E (.ref C) none H)) ∨
   ((∃ t, TyX K H v t ∧ PySem.W.kitOne K t (.type "list") = some false) ∧ ∀ C, mg "BadPaper" = some (.ref C) → E (.ref C) none H))
/-- the sides, as they are kept -/
structure SideL (S : Sys) (H : Hp) (vs : List V) (ss : List (Tm × Bool)) : Prop where
  len : vs.length = ss.length
  at_ : ∀ (i : Nat) (v : V) (s : Tm × Bool), vs[i]? = some v → ss[i]? = some s → ∃ q u, v = .ref q ∧ H q = some (.tup [u, .bl s.2]) ∧ S.den H u s.1
theorem SideL.nil {S : Sys} {H : Hp} : SideL S H [] [] := ⟨rfl, fun i v t a _ => by simp at a⟩
theorem SideL.mono {K : PySem.W.Frag} {S : Sys} (G : S.Good K) {H H' : Hp} {vs : List V} {ss : List (Tm × Bool)} (e : Gr H H') (h : SideL S H vs ss) : SideL S H' vs ss := by
  refine ⟨h.len, fun i v s a b => ?_⟩
  obtain ⟨q, u, rfl, h1, h2⟩ := h.at_ i v s a b
  exact ⟨q, u, rfl, e.keep _ _ h1 True.intro (fun _ z => nomatch z), G.mono e h2⟩
theorem SideL.snoc {S : Sys} {H : Hp} {vs : List V} {ss : List (Tm × Bool)} {q : Addr} {u : V} {s : Tm × Bool} (h : SideL S H vs ss) (hq : H q = some (.tup [u, .bl s.2])) (hu : S.den H u s.1) : SideL S H (vs ++ [.ref q]) (ss ++ [s]) := by
  refine ⟨by rw [List.length_append, List.length_append, h.len]; rfl, fun i v t a b => ?_⟩
  have hl := h.len
  by_cases c : i < vs.length
  · rw [List.getElem?_append_left c] at a
    rw [List.getElem?_append_left (by omega)] at b
    exact h.at_ i v t a b
  · rw [List.getElem?_append_right (by omega)] at a b
    rw [← hl] at b
    cases hj : i - vs.length with
    | zero =>
      rw [hj] at a b
      cases a
      cases b
      exact ⟨q, u, rfl, hq, hu⟩
    | succ j =>
      rw [hj] at a
      simp at a
theorem getLast_at {α : Type} {l : List α} {x : α} (h : l.getLast? = some x) : l[l.length - 1]? = some x := by
  rw [← h, List.getLast?_eq_getElem?]
section
variable {P : Program} {w : World} {K : PySem.W.Frag} {mg : Str → Option Value} {base : Heap} {Fam : Sys → Prop}
theorem ok_last {cc : Addr} (T : Txt K mg cc) : CalX P w K mg base 1 "last_of" (spLast K mg) := by
  have Z := T.Z
  obtain ⟨C_BadPaper, g_BadPaper, F_BadPaper⟩ := T.x_BadPaper.ex
  refine calX_of T.d_last_of sc_last_of (fun vs H Q E h => ?_) (fun f cdv A' outer s H vs Q E hr h => ?_)
  · obtain ⟨v, rfl, _⟩ := h
    rfl
  obtain ⟨v, rfl, h⟩ := h
  refine ⟨_, (pss_cons (ps_if (PW.pt (pw_or (pt_not (pt_val (pe_callB call_isi rfl Z.isinstance (by decide +kernel) (pa_cons (pv 0) (pa_cons (pe_bltn (v := .ty "list") rfl Z.list (by decide +kernel) rfl) pa_nil))))) (pw_or1 (pt_cmpR op_eq (pe_callB call_len_seq rfl Z.len PySem.boot_len (pa_cons (pv 0) pa_nil)) pe_int (nomark _))))) (pss_one (ps_raiseX F_BadPaper g_BadPaper rfl (takes_of rfl rfl rfl rfl) rfl)) pss_nil)
  (pss_one (ps_ret (pe_ix ix_list (pv 0) (pe_op op_sub (pe_callB call_len_seq rfl Z.len PySem.boot_len (pa_cons (pv 0) pa_nil)) pe_int) (fun _ _ => rfl))))), ?_⟩
  rcases h with ⟨a, ys, rfl, ha, q1, q2⟩ | ⟨⟨t, hty, hk⟩, q⟩
  · refine ⟨_, rfl, .ref a, .ty "list", _, _, true, rfl, .ty "list", .base (.lst ha), kit_ty (by decide +kernel), true, rfl, ?_⟩
    refine ⟨_, rfl, a, ys, rfl, .inl (SqL.of ha), rfl, _, rfl, ite2 (fun c => ?_) (fun c => ?_)⟩
    · have c' : (ys.length : Int) = 0 := V.int.inj (of_decide_eq_true c)
      exact q2 (List.eq_nil_of_length_eq_zero (by omega)) _ g_BadPaper
    · have c' : ys.length ≠ 0 := fun z => c (decide_eq_true (by rw [z] <;> rfl))
      obtain ⟨y, hy⟩ : ∃ y, ys.getLast? = some y := by
        cases hl : ys.getLast? with
        | none => rw [List.getLast?_eq_none_iff] at hl; rw [hl] at c'; exact absurd rfl c'
        | some y => exact ⟨y, rfl⟩
      refine ⟨_, rfl, _, rfl, a, ys, rfl, .inl (SqL.of ha), _, 1, rfl, rfl, a, ys, _, y, rfl, rfl, SqL.of ha, ?_, q1 y hy⟩
      rw [show (ys.length : Int) - 1 = ((ys.length - 1 : Nat) : Int) by omega, atI_nat]
      exact getLast_at hy
  · exact ⟨_, rfl, v, .ty "list", _, _, false, rfl, .ty "list", hty, hk, false, rfl, q _ g_BadPaper⟩
theorem splitN_log {n L : Nat} (h : 2 ≤ n) (hl : n.log2 ≤ L) : (splitN n).log2 ≤ L ∧ (n - splitN n).log2 ≤ L := by
  have h1 := splitN_lt h
  have h2 := splitN_pos n
  refine ⟨?_, ?_⟩
  · have h3 : splitN n < 2 ^ (L + 1) := Nat.lt_trans h1 ((Nat.log2_lt (by omega)).mp (by omega))
    exact Nat.le_of_lt_succ ((Nat.log2_lt (by omega)).mpr h3)
  · by_cases e : n - splitN n = 0
    · rw [e]; exact Nat.zero_le _
    · have h3 : n - splitN n < 2 ^ (L + 1) := Nat.lt_of_le_of_lt (Nat.sub_le _ _) ((Nat.log2_lt (by omega)).mp (by omega))
      exact Nat.le_of_lt_succ ((Nat.log2_lt e).mpr h3)
theorem eqv_cons_nil {d : PyData} {ds : List PyData} : PyData.eqv (.list (d :: ds)) (.list []) = false := rfl
theorem DenL.odd {S : Sys} (G : S.Good K) {H : Hp} {a p : Addr} {ys : List V} {ts : List Tm} (ha : SqL K H a ys) (hp : SqL K H p []) (h : DenL S H ys ts) (hd : ∀ t ∈ ts, t.dep ≤ 60) :
    ∃ d e, Dp K H (.ref a) d ∧ Dp K H (.ref p) e ∧ SeqAt.shaped d = true ∧ SeqAt.shaped e = true ∧ PyData.eqv d e = decide (ts.length = 0) := by
  obtain ⟨ds, a1, b, c, e⟩ := DenL.same G h h hd
  have c' : (PyData.list ds).canLay0 = true := c
  refine ⟨.list ds, .list [], .lst ha a1, .lst hp .nil, shaped_of c' (by show PyData.depthAll ds + 1 ≤ 64; omega), by decide +kernel, ?_⟩
  cases a1 with
  | nil =>
    rw [decide_eq_true (show ts.length = 0 from h.len.symm)]
    rfl
  | cons _ _ =>
    rw [decide_eq_false (show ts.length ≠ 0 from fun z => by rw [← h.len] at z; cases z), eqv_cons_nil]
end

/-! ### regrown -/
def gsides (old n : Nat) (ps : List Tm) : List (Tm × Bool) :=
  if h : old < n ∧ 0 < old then
    if old ≤ splitN n then (ps.getLastD nonT, true) :: gsides old (splitN n) ps.dropLast
    else (ps.getLastD nonT, false) :: gsides (old - splitN n) (n - splitN n) ps.dropLast
  else []
termination_by n
decreasing_by
  all_goals first | exact splitN_lt (by omega) | (have := splitN_pos n; omega)
def gb (old n : Nat) (ps : List Tm) : Tm :=
  if h : old < n ∧ 0 < old then
    if old ≤ splitN n then gb old (splitN n) ps.dropLast
    else gb (old - splitN n) (n - splitN n) ps.dropLast
  else ps.getLastD nonT
termination_by n
decreasing_by
  all_goals first | exact splitN_lt (by omega) | (have := splitN_pos n; omega)
theorem gs_all {n : Nat} {ps : List Tm} : gsides n n ps = [] ∧ gb n n ps = ps.getLastD nonT := ⟨by rw [gsides, dif_neg (by omega)], by rw [gb, dif_neg (by omega)]⟩
theorem gs_low {old n : Nat} {ps : List Tm} (h0 : 0 < old) (h1 : old < n) (h : old ≤ splitN n) : gsides old n ps = (ps.getLastD nonT, true) :: gsides old (splitN n) ps.dropLast ∧ gb old n ps = gb old (splitN n) ps.dropLast :=
  ⟨by rw [gsides, dif_pos ⟨h1, h0⟩, if_pos h], by rw [gb, dif_pos ⟨h1, h0⟩, if_pos h]⟩
theorem gs_high {old n : Nat} {ps : List Tm} (h0 : 0 < old) (h1 : old < n) (h : ¬ old ≤ splitN n) : gsides old n ps = (ps.getLastD nonT, false) :: gsides (old - splitN n) (n - splitN n) ps.dropLast ∧ gb old n ps = gb (old - splitN n) (n - splitN n) ps.dropLast :=
  ⟨by rw [gsides, dif_pos ⟨h1, h0⟩, if_neg h], by rw [gb, dif_pos ⟨h1, h0⟩, if_neg h]⟩
def stepO (s : Tm × Bool) (t : Tm) : Tm := if s.2 = true then t else pairT s.1 t
theorem regT_fold (old n : Nat) (ps : List Tm) : regT old n ps = ((gsides old n ps).foldr stepO (gb old n ps), (gsides old n ps).foldr stepT (gb old n ps)) := by
  by_cases e : old < n ∧ 0 < old
  · obtain ⟨h1, h0⟩ := e
    have hs := splitN_lt (n := n) (by omega)
    have hs0 := splitN_pos n
    by_cases hp : old ≤ splitN n
    · rw [regT_low h0 h1 hp, (gs_low h0 h1 hp).1, (gs_low h0 h1 hp).2, regT_fold old (splitN n)]
      rfl
    · rw [regT_high h0 h1 hp, (gs_high h0 h1 hp).1, (gs_high h0 h1 hp).2, regT_fold (old - splitN n) (n - splitN n)]
      rfl
  · rw [regT, dif_neg e, gsides, dif_neg e, gb, dif_neg e]
    rfl
termination_by n
theorem gsides_len {old n : Nat} (ps : List Tm) : (gsides old n ps).length + 1 = glen old n := by
  by_cases e : old < n ∧ 0 < old
  · obtain ⟨h1, h0⟩ := e
    have hs := splitN_lt (n := n) (by omega)
    have hs0 := splitN_pos n
    by_cases hp : old ≤ splitN n
    · rw [(gs_low h0 h1 hp).1, glen_low h0 h1 hp, List.length_cons, gsides_len]
    · rw [(gs_high h0 h1 hp).1, glen_high h0 h1 hp, List.length_cons, gsides_len]
  · rw [gsides, dif_neg e, glen, dif_neg e]
    rfl
termination_by n
def spRegrown (K : PySem.W.Frag) (mg : Str → Option Value) (Fam : Sys → Prop) : Sp := fun vs H Q E => ∃ (S : Sys) (old n : Nat) (v : V) (r : Nat), Fam S ∧ vs = [.ref S.f, .int (old : Int), .int (n : Int), v] ∧ 0 < old ∧ old ≤ n ∧ n ≤ 1000 ∧ S.ok H (r + 2 * glen old n) ∧
  ((∃ a ys ts, v = .ref a ∧ H a = some (.lst ys) ∧ DenL S H ys ts ∧ ts.length ≤ 100000 ∧
      (ts.length = glen old n → ∀ q va vb H', Ext H H' → S.ok H' r → H' q = some (.tup [va, vb]) → S.den H' va (regT old n ts).1 → S.den H' vb (regT old n ts).2 → Q (.ref q) H') ∧
      (ts.length ≠ glen old n → ∀ C H', mg "BadPaper" = some (.ref C) → Ext H H' → S.ok H' r → E (.ref C) none H')) ∨
   ((∃ t, TyX K H v t ∧ PySem.W.kitOne K t (.type "list") = some false) ∧ ∀ C H', mg "BadPaper" = some (.ref C) → Ext H H' → S.ok H' r → E (.ref C) none H'))
section
variable {P : Program} {w : World} {K : PySem.W.Frag} {mg : Str → Option Value} {base : Heap} {Fam : Sys → Prop}
theorem ok_regrown {cc : Addr} (T : Txt K mg cc) (A : SlA P w K mg base Fam) (C_last_of : CalX P w K mg base 1 "last_of" (spLast K mg)) (C_split : Cal P w K mg base 1 "split" spSplit []) (C_pair_seal : Cal P w K mg base 2 "pair_seal" (spPair Fam) []) : CalX P w K mg base 3 "regrown" (spRegrown K mg Fam) := by
  have Z := T.Z
  obtain ⟨C_BadPaper, g_BadPaper, F_BadPaper⟩ := T.x_BadPaper.ex
  refine calX_of T.d_regrown sc_regrown (fun vs H Q E h => ?_) (fun f cdv A' outer s H vs Q E hr h => ?_)
  · obtain ⟨S, old, n, v, r, _, rfl, _⟩ := h
    rfl
  obtain ⟨S, old, n, v, r, hF, rfl, ho0, hon, hn, hok, h⟩ := h
  have G := A.good hF
  have e16 : sizeLine = 16777216 := sizeLine_eq
  refine ⟨_, (pss_cons (ps_set (i := 4) sc_regrown.nd rfl (Or.inl rfl) (pe_cx C_last_of (takes_of rfl rfl rfl rfl) hr (by omega) rfl (pa_cons (pv 3) pa_nil)))
  (pss_cons (ps_par (i := 5) (j := 6) rfl sc_regrown.nd rfl rfl (by decide) rfl rfl (pa_cons (pe_slice sl_list (pv 3) po_none (po_some (pe_op op_sub (pe_callB call_len_seq rfl Z.len PySem.boot_len (pa_cons (pv 3) pa_nil)) pe_int))) (pa_cons (pe_lst pa_nil) pa_nil)) (by rfl))
  (pss_cons (ps_while (passes_of rfl) (pt_cmpR op_ne (pv 1) (pv 2) (nomark _)) (pss_cons (ps_set (i := 7) sc_regrown.nd rfl (Or.inl rfl) (pe_c C_split hr (by omega) rfl (pa_cons (pv 2) pa_nil)))
  (pss_cons (ps_expr (pe_bm PySem.F.plainAttrs_list PySem.F.slot_list_append PySem.F.type_list_append mt_append (pv 6) (pa_cons (pe_tup (pa_cons (pv 4) (pa_cons (pe_cmpR op_le (pv 1) (pv 7) (nomark _)) pa_nil))) pa_nil)))
  (pss_cons (ps_if (pt_cmpR op_le (pv 1) (pv 7) (nomark _)) (pss_one (ps_set (i := 2) sc_regrown.nd rfl (Or.inl rfl) (pv 7))) (pss_one (ps_par (i := 1) (j := 2) rfl sc_regrown.nd rfl rfl (by decide) rfl rfl (pa_cons (pe_op op_sub (pv 1) (pv 7)) (pa_cons (pe_op op_sub (pv 2) (pv 7)) pa_nil)) (by rfl))))
  (pss_cons (ps_set (i := 4) sc_regrown.nd rfl (Or.inl rfl) (pe_cx C_last_of (takes_of rfl rfl rfl rfl) hr (by omega) rfl (pa_cons (pv 5) pa_nil)))
  (pss_one (ps_set (i := 5) sc_regrown.nd rfl (Or.inl rfl) (pe_slice sl_list (pv 5) po_none (po_some (pe_op op_sub (pe_callB call_len_seq rfl Z.len PySem.boot_len (pa_cons (pv 5) pa_nil)) pe_int))))))))))
  (pss_cons (ps_if (pt_cmpR op_gt (pe_callB call_len_seq rfl Z.len PySem.boot_len (pa_cons (pv 5) pa_nil)) pe_int (nomark _)) (pss_one (ps_raiseX F_BadPaper g_BadPaper rfl (takes_of rfl rfl rfl rfl) rfl)) pss_nil)
  (pss_cons (ps_par (i := 8) (j := 9) rfl sc_regrown.nd rfl rfl (by decide) rfl rfl (pa_cons (pv 4) (pa_cons (pv 4) pa_nil)) (by rfl))
  (pss_cons (ps_for (passes_of rfl) rfl (pi_list (pe_revL (pv 6))) (pg_tup rfl (pgs_cons (pg_name (i := 4) sc_regrown.nd rfl (Or.inl rfl)) (pgs_cons (pg_name (i := 10) sc_regrown.nd rfl (Or.inl rfl)) pgs_nil))) (pss_cons (ps_if (pt_not (pt_val (pv 10))) (pss_one (ps_set (i := 8) sc_regrown.nd rfl (Or.inl rfl) (pe_c C_pair_seal hr (by omega) rfl (pa_cons (pv 0) (pa_cons (pv 4) (pa_cons (pv 8) pa_nil)))))) pss_nil)
  (pss_one (ps_set (i := 9) sc_regrown.nd rfl (Or.inl rfl) (pe_ifExp (pt_val (pv 10)) (pe_c C_pair_seal hr (by omega) rfl (pa_cons (pv 0) (pa_cons (pv 9) (pa_cons (pv 4) pa_nil)))) (pe_c C_pair_seal hr (by omega) rfl (pa_cons (pv 0) (pa_cons (pv 4) (pa_cons (pv 9) pa_nil)))))))))
  (pss_one (ps_ret (pe_tup (pa_cons (pv 8) (pa_cons (pv 9) pa_nil))))))))))), ?_⟩
  rcases h with ⟨a, ys, ts, rfl, ha, hd, hl, q1, q2⟩ | ⟨o, q⟩
  case inr => exact ⟨_, rfl, v, rfl, .inr ⟨o, fun C hC => q C H hC (Ext.refl _) (G.less hok (by omega))⟩⟩
  have hlen := hd.len
  refine ⟨_, rfl, .ref a, rfl, .inl ⟨a, ys, rfl, ha, fun y hy => ?_, fun e C hC => q2 ?_ C H hC (Ext.refl _) (G.less hok (by omega))⟩⟩
  case refine_2 =>
    have := glen_pos old n
    rw [e] at hlen
    rw [← hlen]
    show 0 ≠ _
    omega
  have hy' := getLast_at hy
  have hyl := (List.getElem?_eq_some_iff.mp hy').1
  obtain ⟨t, ht⟩ : ∃ t, ts[ys.length - 1]? = some t := ⟨ts[ys.length - 1]'(by omega), List.getElem?_eq_getElem _⟩
  have hyt := hd.at_ _ _ _ hy' ht
  have el : ts.getLastD nonT = t := by
    rw [List.getLastD_eq_getLast?, List.getLast?_eq_getElem?, ← hlen, ht]
    rfl
  have hts := last_split (l := ts) (d := nonT) (by omega)
  rw [el] at hts
  refine ⟨_, rfl, _, rfl, a, ys, rfl, .inl (SqL.of ha), _, 1, rfl, rfl, ((ys.length - 1 : Nat) : Int), by rw [show ((ys.length - 1 : Nat) : Int) = (ys.length : Int) - 1 by omega], a, ys, rfl, SqL.of ha, fun p1 np1 => ?_⟩
  rw [cut_to]
  have x1 := Ext.new (o := .lst (ys.take (ys.length - 1))) np1
  have k1 := Kp.new (o := .lst (ys.take (ys.length - 1))) np1
  refine ⟨by show 0 ≤ sizeLine; decide, fun p np => ⟨_, _, rfl, ?_⟩⟩
  have x2 := x1.trans (Ext.new (o := .lst []) np)
  have k2 := k1.trans (Kp.new (o := .lst []) np)
  have np0 := x1.free np
  have np1p : p1 ≠ p := ne_of_none upd_same np
  have hp1 : upd (upd H p1 (.lst (ys.take (ys.length - 1)))) p (.lst []) p1 = some (.lst (ys.take (ys.length - 1))) := by rw [upd_ne np1p]; exact upd_same
  have hpp : upd (upd H p1 (.lst (ys.take (ys.length - 1)))) p (.lst []) p = some (.lst []) := upd_same
  have hd1 : DenL S (upd (upd H p1 (.lst (ys.take (ys.length - 1)))) p (.lst [])) (ys.take (ys.length - 1)) ts.dropLast := by
    have := (hd.take (ts.length - 1)).mono G k2.gr
    rwa [show ts.take (ts.length - 1) = ts.dropLast from List.dropLast_eq_take.symm, ← hlen] at this
  have ok2 := G.keep k2 hok
  have hyt2 := G.mono k2.gr hyt
  generalize upd (upd H p1 (.lst (ys.take (ys.length - 1)))) p (.lst []) = H2 at x2 k2 hp1 hpp hd1 ok2 hyt2 ⊢
  refine ⟨fun m σ H' => ∃ (old' n' : Nat) (lv : V) (lt : Tm) (b : Addr) (us : List V) (ts' : List Tm) (ss : List (Tm × Bool)) (ssv : List V) (y7 : Option V), n' = m ∧ σ = [some (.ref S.f), some (.int (old' : Int)), some (.int (n' : Int)), some (.ref a), some lv, some (.ref b), some (.ref p), y7, none, none, none] ∧
    Ext H H' ∧ S.ok H' (r + 2 * glen old n) ∧ H' p = some (.lst ssv) ∧ SideL S H' ssv ss ∧ H' b = some (.lst us) ∧ b ≠ p ∧ DenL S H' us ts' ∧ S.den H' lv lt ∧ 0 < old' ∧ old' ≤ n' ∧ n' ≤ n ∧
    ts'.length + 1 + ss.length = ts.length ∧ glen old' n' + ss.length = glen old n ∧ ss ++ gsides old' n' (ts' ++ [lt]) = gsides old n ts ∧ gb old' n' (ts' ++ [lt]) = gb old n ts, ⟨_, old, n, y, t, p1, _, ts.dropLast, [], [], none, rfl, rfl, x2, ok2, hpp, .nil, hp1, np1p, hd1, hyt2, ho0, hon, Nat.le_refl _, ?_, rfl, ?_, ?_⟩, ?_⟩
  · rw [List.length_dropLast]
    show _ + 1 + 0 = _
    omega
  · rw [← hts]
    rfl
  · rw [← hts]
  rintro m σ H3 ⟨old', n', lv, lt, b, us, ts', ss, ssv, y7, rfl, rfl, x3, ok3, hp3, hss, hb, hbp, hd3, hlv, ho', hon', hnn, hc1, hc2, hc3, hc4⟩
  have hsl := hss.len
  have hul := hd3.len
  have glb := glen_le 10 old n (by show n ≤ 1024; omega)
  refine ⟨_, rfl, _, rfl, rfl, _, rfl, ?_⟩
  by_cases heq : old' = n'
  · subst heq
    rw [decide_eq_true rfl]
    refine iteF ?_
    refine ⟨_, rfl, b, us, rfl, .inl (SqL.of hb), _, 0, rfl, rfl, _, rfl, ite2 (fun c => ?_) (fun c => ?_)⟩
    · have c' : (0 : Int) < (us.length : Int) := of_decide_eq_true c
      refine q2 ?_ _ _ g_BadPaper x3 (G.less ok3 (by omega))
      rw [glen_all] at hc2
      omega
    have c' : ¬ (0 : Int) < (us.length : Int) := of_decide_eq_false (Bool.eq_false_iff.mpr c)
    have tsz : ts' = [] := List.eq_nil_of_length_eq_zero (by omega)
    subst tsz
    rw [glen_all] at hc2
    rw [gs_all.1, List.append_nil] at hc3
    rw [gs_all.2] at hc4
    have elt : lt = gb old n ts := hc4
    have hl2 : ts.length = glen old n := by
      have : ([] : List Tm).length = 0 := rfl
      omega
    refine ⟨_, rfl, _, rfl, _, _, rfl, ?_⟩
    refine ⟨_, rfl, p, ssv, rfl, SqL.of hp3, fun p4 np4 => ⟨p4, rfl, ⟨_, SqL.of upd_same⟩, ?_⟩⟩
    have x4 := x3.trans (Ext.new (o := .lst ssv.reverse) np4)
    have k4 := Kp.new (o := .lst ssv.reverse) np4
    have hp4 : upd H3 p4 (.lst ssv.reverse) p4 = some (.lst ssv.reverse) := upd_same
    have ok4 := G.keep k4 ok3
    have hss4 := hss.mono G k4.gr
    have hlv4 := G.mono k4.gr hlv
    generalize upd H3 p4 (.lst ssv.reverse) = H4 at x4 hp4 ok4 hss4 hlv4 ⊢
    refine for_list (K := K) (a := p4) (xs := ssv.reverse) (fun i σ H' => ∃ (u1 u2 : V) (z4 z10 : Option V), σ = [some (.ref S.f), some (.int (old' : Int)), some (.int (old' : Int)), some (.ref a), z4, some (.ref b), some (.ref p), y7, some u1, some u2, z10] ∧ Ext H4 H' ∧ S.ok H' (r + 2 * (ss.length - i)) ∧ S.den H' u1 ((ss.drop (ss.length - i)).foldr stepO lt) ∧ S.den H' u2 ((ss.drop (ss.length - i)).foldr stepT lt))
      ⟨lv, lv, _, _, rfl, Ext.refl _, G.less ok4 (by omega), by rw [Nat.sub_zero, List.drop_length]; exact hlv4, by rw [Nat.sub_zero, List.drop_length]; exact hlv4⟩ (fun i σ H' _ ⟨_, _, _, _, _, x, _⟩ => SqL.of (x.lst hp4)) ?_ ?_
    · rintro i y2 σ H' hi ⟨u1, u2, z4, z10, rfl, x, ok, hu1, hu2⟩
      have hlt := (List.getElem?_eq_some_iff.mp hi).1
      rw [List.length_reverse] at hlt
      rw [List.getElem?_reverse hlt] at hi
      have hj : ssv.length - 1 - i < ss.length := by omega
      obtain ⟨q, aa, rfl, hq, haa⟩ := (hss4.mono G x.gr).at_ _ y2 (ss[ssv.length - 1 - i]) hi (List.getElem?_eq_getElem hj)
      have ed : ss.drop (ss.length - (i + 1)) = ss[ssv.length - 1 - i] :: ss.drop (ss.length - i) := by
        rw [show ss.length - (i + 1) = ssv.length - 1 - i by omega, List.drop_eq_getElem_cons hj, show ssv.length - 1 - i + 1 = ss.length - i by omega]
      refine ⟨q, _, rfl, SqT.of hq, rfl, ?_⟩
      rw [ed, List.foldr_cons, List.foldr_cons]
      generalize ss[ssv.length - 1 - i] = sd at hq haa ⊢
      obtain ⟨st, sb⟩ := sd
      refine ⟨_, _, rfl, _, _, rfl, rfl, ?_⟩
      refine ⟨_, rfl, _, rfl, ?_⟩
      cases sb with
      | true =>
        refine iteF ?_
        refine ⟨_, rfl, _, rfl, iteT ?_⟩
        refine ⟨_, rfl, _, rfl, _, rfl, S, u2, aa, _, _, r + 2 * (ss.length - (i + 1)), hF, rfl, G.less ok (by omega), hu2, haa, fun v' H'' x' ok' d' => ?_⟩
        exact ⟨u1, v', _, _, rfl, x.trans x', ok', G.mono x'.gr hu1, d'⟩
      | false =>
        refine iteT ?_
        refine ⟨_, rfl, _, rfl, _, rfl, S, aa, u1, _, _, r + 2 * (ss.length - (i + 1)) + 1, hF, rfl, G.less ok (by omega), haa, hu1, fun v1 H5 x5 ok5 d5 => ?_⟩
        refine ⟨_, rfl, _, rfl, iteF ?_⟩
        refine ⟨_, rfl, _, rfl, _, rfl, S, aa, u2, _, _, r + 2 * (ss.length - (i + 1)), hF, rfl, ok5, G.mono x5.gr haa, G.mono x5.gr hu2, fun v' H'' x' ok' d' => ?_⟩
        exact ⟨v1, v', _, _, rfl, (x.trans x5).trans x', ok', G.mono x'.gr d5, d'⟩
    · rintro σ H6 ⟨u1, u2, z4, z10, rfl, x6, ok6, hu1, hu2⟩
      rw [List.length_reverse, hsl, Nat.sub_self, List.drop_zero] at hu1 hu2
      refine ⟨_, rfl, _, rfl, by show 2 ≤ sizeLine; decide, fun q nq => ?_⟩
      have e6 := Ext.new (o := .tup [u1, u2]) nq
      refine q1 hl2 q u1 u2 _ ((x4.trans x6).trans e6) (G.less (G.keep (Kp.new nq) ok6) (by omega)) upd_same ?_ ?_
      · rw [regT_fold, ← hc3, ← elt]
        exact G.mono e6.gr hu1
      · rw [regT_fold, ← hc3, ← elt]
        exact G.mono e6.gr hu2
  · rw [decide_eq_false (show ¬ V.int (old' : Int) = V.int (n' : Int) from fun z => heq (by have := V.int.inj z; omega))]
    refine iteT ?_
    have h2 : 2 ≤ n' := by omega
    have hs1 := splitN_lt h2
    have hs2 := splitN_pos n'
    refine ⟨_, fun σ' H' h => h, ?_⟩
    refine ⟨_, rfl, n', rfl, h2, Nat.le_trans (Nat.log2_le_self _) (by omega), ?_⟩
    refine ⟨_, rfl, .inl ⟨rfl, _, SqL.of hp3⟩, _, rfl, _, rfl, _, rfl, _, _, rfl, rfl, by show 2 ≤ sizeLine; decide, fun q hq => ?_⟩
    have npq : q ≠ p := fun z => by rw [z, hp3] at hq; cases hq
    have nqb : q ≠ b := fun z => by rw [z, hb] at hq; cases hq
    have u1 := Ext.new (o := .tup [lv, .bl (decide ((old' : Int) ≤ ((splitN n' : Nat) : Int)))]) hq
    have j1 := Kp.new (o := .tup [lv, .bl (decide ((old' : Int) ≤ ((splitN n' : Nat) : Int)))]) hq
    have hp4 := u1.lst hp3
    have hq4 : upd H3 q (.tup [lv, .bl (decide ((old' : Int) ≤ ((splitN n' : Nat) : Int)))]) q = some (.tup [lv, .bl (decide ((old' : Int) ≤ ((splitN n' : Nat) : Int)))]) := upd_same
    have hb4 := u1.lst hb
    generalize upd H3 q (.tup [lv, .bl (decide ((old' : Int) ≤ ((splitN n' : Nat) : Int)))]) = H4 at u1 j1 hp4 hq4 hb4 ⊢
    refine ⟨p, ssv, _, rfl, rfl, hp4, by rw [hsl, e16]; omega, ?_⟩
    have k5 := j1.trans (Kp.lst (o := .lst (ssv ++ [.ref q])) hp4)
    have x5 := (x3.trans u1).mut (o := .lst (ssv ++ [.ref q])) np0
    have hp5 : upd H4 p (.lst (ssv ++ [.ref q])) p = some (.lst (ssv ++ [.ref q])) := upd_same
    have hq5 : upd H4 p (.lst (ssv ++ [.ref q])) q = some (.tup [lv, .bl (decide ((old' : Int) ≤ ((splitN n' : Nat) : Int)))]) := by rw [upd_ne npq]; exact hq4
    have hb5 : upd H4 p (.lst (ssv ++ [.ref q])) b = some (.lst us) := by rw [upd_ne hbp]; exact hb4
    generalize upd H4 p (.lst (ssv ++ [.ref q])) = H5 at k5 x5 hp5 hq5 hb5 ⊢
    have ok5 := G.keep k5 ok3
    have hd5 := hd3.mono G k5.gr
    -- the next one, or none
    have nx : ∀ R : VK, (∀ y t, us.getLast? = some y → ts'.getLast? = some t → S.den H5 y t → R y H5) → spLast K mg [.ref b] H5 R (fun cls d H' => E cls d H') := fun R hR => by
      refine ⟨.ref b, rfl, .inl ⟨b, us, rfl, hb5, fun y hy => ?_, fun e C hC => q2 ?_ C H5 hC x5 (G.less ok5 (by omega))⟩⟩
      · have hy' := getLast_at hy
        have hyl := (List.getElem?_eq_some_iff.mp hy').1
        obtain ⟨t, ht⟩ : ∃ t, ts'[us.length - 1]? = some t := ⟨ts'[us.length - 1]'(by omega), List.getElem?_eq_getElem _⟩
        exact hR y t hy (by rw [List.getLast?_eq_getElem?, ← hul, ht]) (hd5.at_ _ _ _ hy' ht)
      · rw [e] at hul
        have hul' : ts'.length = 0 := hul.symm
        have : 2 ≤ glen old' n' := by
          by_cases hp : old' ≤ splitN n'
          · rw [glen_low ho' (by omega) hp]
            have := glen_pos old' (splitN n')
            omega
          · rw [glen_high ho' (by omega) hp]
            have := glen_pos (old' - splitN n') (n' - splitN n')
            omega
        omega
    refine ⟨_, rfl, _, rfl, _, _, rfl, rfl, _, rfl, ite2 (fun c2 => ?_) (fun c2 => ?_)⟩
    · have c2' : (old' : Int) ≤ ((splitN n' : Nat) : Int) := of_decide_eq_true c2
      have hp : old' ≤ splitN n' := by omega
      have g1 := gs_low (ps := ts' ++ [lt]) ho' (by omega) hp
      rw [List.dropLast_concat, getLastD_concat] at g1
      have g2 := glen_low ho' (by omega) hp
      refine ⟨_, rfl, ?_⟩
      refine ⟨_, rfl, nx _ fun y2 t2 hy2 ht2 hyt2 => ?_⟩
      have ht2' := getLast_at ht2
      have htl := (List.getElem?_eq_some_iff.mp ht2').1
      refine ⟨_, rfl, _, rfl, b, us, rfl, .inl (SqL.of hb5), _, 1, rfl, rfl, ((us.length - 1 : Nat) : Int), by rw [show ((us.length - 1 : Nat) : Int) = (us.length : Int) - 1 by omega], b, us, rfl, SqL.of hb5, fun p6 np6 => ?_⟩
      rw [cut_to]
      have x6 := Ext.new (o := .lst (us.take (us.length - 1))) np6
      have k6 := Kp.new (o := .lst (us.take (us.length - 1))) np6
      have ht4 : ts' = ts'.dropLast ++ [t2] := by
        have := last_split (l := ts') (d := nonT) (by omega)
        rwa [List.getLastD_eq_getLast?, ht2] at this
      have np6p : p6 ≠ p := fun z => by rw [z, hp5] at np6; cases np6
      refine ⟨splitN n', hs1, old', splitN n', y2, t2, p6, us.take (us.length - 1), ts'.dropLast, ss ++ [(lt, true)], ssv ++ [.ref q], _, rfl, rfl, x5.trans x6, G.keep k6 ok5, x6.lst hp5, ((hss.mono G k5.gr).snoc (by rw [hq5, decide_eq_true c2']) (G.mono k5.gr hlv)).mono G k6.gr, upd_same, np6p, ?_, G.mono k6.gr hyt2, ho', hp, by omega, ?_, ?_, ?_, ?_⟩
      · have := (hd5.take (ts'.length - 1)).mono G k6.gr
        rwa [show ts'.take (ts'.length - 1) = ts'.dropLast from List.dropLast_eq_take.symm, ← hul] at this
      · rw [List.length_dropLast, List.length_append]
        show _ + 1 + (_ + 1) = _
        omega
      · rw [List.length_append]
        show _ + (_ + 1) = _
        omega
      · rw [← hc3, g1.1, ← ht4, List.append_assoc]
        rfl
      · rw [← hc4, g1.2, ← ht4]
    · have c2' : ¬ (old' : Int) ≤ ((splitN n' : Nat) : Int) := of_decide_eq_false (Bool.eq_false_iff.mpr c2)
      have hp : ¬ old' ≤ splitN n' := by omega
      have g1 := gs_high (ps := ts' ++ [lt]) ho' (by omega) hp
      rw [List.dropLast_concat, getLastD_concat] at g1
      have g2 := glen_high ho' (by omega) hp
      refine ⟨_, rfl, _, rfl, _, _, rfl, rfl, _, rfl, _, rfl, _, _, rfl, rfl, _, _, rfl, ?_⟩
      refine ⟨_, rfl, nx _ fun y2 t2 hy2 ht2 hyt2 => ?_⟩
      have ht2' := getLast_at ht2
      have htl := (List.getElem?_eq_some_iff.mp ht2').1
      refine ⟨_, rfl, _, rfl, b, us, rfl, .inl (SqL.of hb5), _, 1, rfl, rfl, ((us.length - 1 : Nat) : Int), by rw [show ((us.length - 1 : Nat) : Int) = (us.length : Int) - 1 by omega], b, us, rfl, SqL.of hb5, fun p6 np6 => ?_⟩
      rw [cut_to]
      have x6 := Ext.new (o := .lst (us.take (us.length - 1))) np6
      have k6 := Kp.new (o := .lst (us.take (us.length - 1))) np6
      have ht4 : ts' = ts'.dropLast ++ [t2] := by
        have := last_split (l := ts') (d := nonT) (by omega)
        rwa [List.getLastD_eq_getLast?, ht2] at this
      have np6p : p6 ≠ p := fun z => by rw [z, hp5] at np6; cases np6
      refine ⟨n' - splitN n', by omega, old' - splitN n', n' - splitN n', y2, t2, p6, us.take (us.length - 1), ts'.dropLast, ss ++ [(lt, false)], ssv ++ [.ref q], some (.int ((splitN n' : Nat) : Int)), rfl, ?_, x5.trans x6, G.keep k6 ok5, x6.lst hp5, ((hss.mono G k5.gr).snoc (by rw [hq5, decide_eq_false c2']) (G.mono k5.gr hlv)).mono G k6.gr, upd_same, np6p, ?_, G.mono k6.gr hyt2, by omega, by omega, by omega, ?_, ?_, ?_, ?_⟩
      · rw [show ((old' - splitN n' : Nat) : Int) = (old' : Int) - ((splitN n' : Nat) : Int) by omega, show ((n' - splitN n' : Nat) : Int) = (n' : Int) - ((splitN n' : Nat) : Int) by omega]
        rfl
      · have := (hd5.take (ts'.length - 1)).mono G k6.gr
        rwa [show ts'.take (ts'.length - 1) = ts'.dropLast from List.dropLast_eq_take.symm, ← hul] at this
      · rw [List.length_dropLast, List.length_append]
        show _ + 1 + (_ + 1) = _
        omega
      · rw [List.length_append]
        show _ + (_ + 1) = _
        omega
      · rw [← hc3, g1.1, ← ht4, List.append_assoc]
        rfl
      · rw [← hc4, g1.2, ← ht4]
end

/-! ### the program's other seals -/
section
variable {P : Program} {w : World} {K : PySem.W.Frag} {mg : Str → Option Value} {base : Heap} {Fam : Sys → Prop}
def spMark (m : Str) (Fam : Sys → Prop) : Sp := fun vs H Q _ => ∃ (S : Sys) (va vb : V) (a b : Tm) (r : Nat), Fam S ∧ vs = [.ref S.f, va, vb] ∧ S.ok H (r + 1) ∧ S.den H va a ∧ S.den H vb b ∧ ∀ v H', Ext H H' → S.ok H' r → S.den H' v (.sl m a b) → Q v H'
theorem ok_book_seal {cc : Addr} (T : Txt K mg cc) (A : SlA P w K mg base Fam) : Cal P w K mg base 2 "book_seal" (spMark "book" Fam) [] := by
  refine cal_of T.d_book_seal sc_book_seal (fun vs H Q E h => ?_) (fun f cdv A' outer s H vs Q E hr h => ?_)
  · obtain ⟨S, va, vb, a, b, r, _, rfl, _⟩ := h
    rfl
  obtain ⟨S, va, vb, a, b, r, hF, rfl, hok, ha, hb, q⟩ := h
  refine ⟨_, (pss_one (ps_ret (pe_sl (i := 0) A.held hr (by omega) rfl (by first | exact Or.inl rfl | exact Or.inr (Or.inl rfl) | exact Or.inr (Or.inr rfl)) (pa_cons pe_str (pa_cons (pv 1) (pa_cons (pv 2) pa_nil)))))), ?_⟩
  exact ⟨S, _, hF, rfl, hok, _, rfl, _, rfl, r, "book", a, b, _, _, rfl, by decide +kernel, hok, ha, hb, fun v H' e ok d => q v H' e ok d⟩
end

/-- a paper: a row of tops, or no list -/
def Pap (K : PySem.W.Frag) (S : Sys) (H : Hp) (v : V) : Option (List Tm) → Prop
  | none => ∀ H', Ext H H' → Odd K H' v
  | some ps => ∃ a ys, v = .ref a ∧ H a = some (.lst ys) ∧ DenL S H ys ps ∧ ps.length ≤ 100 ∧ ∀ t ∈ ps, WS t ∧ t.dep ≤ 20
theorem Pap.ext {K : PySem.W.Frag} {S : Sys} (G : S.Good K) {H H' : Hp} {v : V} {p : Option (List Tm)} (h : Pap K S H v p) (e : Ext H H') : Pap K S H' v p := by
  cases p with
  | none => exact fun H2 e2 => h H2 (e.trans e2)
  | some ps =>
    obtain ⟨a, ys, rfl, ha, hd, hl, hp⟩ := h
    exact ⟨a, ys, rfl, e.lst ha, hd.mono G e.gr, hl, hp⟩

/-! ### a claim of a growth -/
def emptyT : Tm := .sl "book" (.int 0) nonT
def judgeG (old : Int) (n : Nat) (said ht : Tm) (paper : Option (List Tm)) : Bool :=
  if old = 0 then decide (said = emptyT ∧ paper = some [] ∧ (0 < n ∨ ht = emptyT)) else
    match paper with
    | none => false
    | some ps => decide (0 < old ∧ old ≤ (n : Int) ∧ ps.length = glen old.toNat n ∧ Tm.sl "book" (.int old) (regT old.toNat n ps).1 = said ∧ Tm.sl "book" (.int (n : Int)) (regT old.toNat n ps).2 = ht)
def BkT (t : Tm) : Prop := ∃ m Y, t = .sl "book" (.int m) Y ∧ WS Y ∧ Y.dep ≤ 40
theorem BkT.cmp {a b : Tm} (h : BkT a) (h' : BkT b) : cmpT a b := by
  obtain ⟨m, Y, rfl, hY, _⟩ := h
  obtain ⟨m', Y', rfl, hY', _⟩ := h'
  exact .inr ⟨True.intro, hY.cmp hY'⟩
theorem BkT.dep {a : Tm} (h : BkT a) : a.dep ≤ 60 := by
  obtain ⟨m, Y, rfl, _, hd⟩ := h
  show max 0 Y.dep + 1 ≤ 60
  omega
theorem empty_bk : BkT emptyT := ⟨0, nonT, rfl, .non, by decide⟩
theorem bk_apart {K : PySem.W.Frag} {S : Sys} (I : S.Inj K) {H : Hp} {r : Nat} (ok : S.ok H r) {v v' : V} {t t' : Tm} (h : S.den H v t) (h' : S.den H v' t') (b : BkT t) (b' : BkT t') :
    ∃ d d', Dp K H v d ∧ Dp K H v' d' ∧ SeqAt.shaped d = true ∧ SeqAt.shaped d' = true ∧ PyData.eqv d d' = decide (t = t') := by
  obtain ⟨d, d', e1, e2, e3, e4, e5, e6, e7⟩ := I.inj ok h h' (b.cmp b')
  have := b.dep
  have := b'.dep
  exact ⟨d, d', e1, e2, shaped_of e3 (by omega), shaped_of e4 (by omega), e7⟩
def grF (old : Int) (bv : V) : List (Str × V) := [("old", .int old), ("before", bv)]
theorem grF_old (old : Int) (bv : V) : (grF old bv).lookup ("old" : Str) = some (.int old) := by kernel_rfl
theorem grF_before (old : Int) (bv : V) : (grF old bv).lookup ("before" : Str) = some bv := by kernel_rfl
theorem grF_no (old : Int) (bv : V) : (grF old bv).lookup ("judged" : Str) = none ∧ (grF old bv).lookup ("shown" : Str) = none := ⟨by kernel_rfl, by kernel_rfl⟩
theorem grF_mk (old : Int) (bv : V) : putF "before" bv (putF "old" (.int old) []) = grF old bv := by kernel_rfl
section
variable {P : Program} {w : World} {K : PySem.W.Frag} {mg : Str → Option Value} {base : Heap} {Fam : Sys → Prop} {C : Addr}
def spGrInit (C : Addr) : Sp := fun vs H Q _ => ∃ (p dx : Addr) (old : Int) (bv : V), vs = [.ref p, .int old, bv] ∧ H p = some (.ins C dx []) ∧ ∀ H', ExtO p H H' → Kp H H' → H' p = some (.ins C dx (grF old bv)) → Q .non H'
theorem ok_grinit (KS : K_Grows K mg C) : Mak P w K mg base 1 "Grows" C (spGrInit C) [] := by
  refine mak_of KS.mgC KS.made sc_Grows___init__ (fun vs H Q E h => ?_) (fun f cdv A' outer s H vs Q E hr h => ?_)
  · obtain ⟨p, dx, old, bv, rfl, _⟩ := h
    rfl
  obtain ⟨p, dx, old, bv, rfl, hp, q⟩ := h
  refine ⟨_, (pss_cons (ps_fld (pv 0) (pv 1) rfl)
  (pss_one (ps_fld (pv 0) (pv 2) rfl))), ?_⟩
  refine ⟨_, rfl, _, rfl, p, C, dx, _, rfl, hp, KS.cl, KS.n_old, by show 0 < 1000; decide, ?_⟩
  refine ⟨_, rfl, _, rfl, p, C, dx, _, rfl, upd_same, KS.cl, KS.n_before, by show 1 < 1000; decide, ?_⟩
  refine q _ ((ExtO.put hp).trans (ExtO.put upd_same)) ((Kp.ins hp).trans (Kp.ins upd_same)) ?_
  rw [upd_same, grF_mk]
def spShownG (K : PySem.W.Frag) (mg : Str → Option Value) (C : Addr) (Fam : Sys → Prop) : Sp := fun vs H Q E => ∃ (S : Sys) (p dx : Addr) (old : Int) (bv : V) (said : Tm) (n : Nat) (ht : Tm) (head v : V) (paper : Option (List Tm)) (r : Nat), Fam S ∧ vs = [.ref p, .ref S.f, .int (n : Int), head, v] ∧ H p = some (.ins C dx (grF old bv)) ∧ S.den H bv said ∧ BkT said ∧ n ≤ 1000 ∧
  S.den H head ht ∧ BkT ht ∧ Pap K S H v paper ∧ S.ok H (r + 60) ∧
  (∀ H', Ext H H' → S.ok H' r → Q (.bl (judgeG old n said ht paper)) H') ∧
  (judgeG old n said ht paper = false → ∀ D H', mg "BadPaper" = some (.ref D) → Ext H H' → S.ok H' r → E (.ref D) none H')
theorem ok_shownG {cc : Addr} (T : Txt K mg cc) (A : SlA P w K mg base Fam) (I3 : ∀ {S}, Fam S → S.Inj K) (KS : K_Grows K mg C) : MetR P w K mg base 4 C "shown" (spShownG K mg C Fam) := by
  have Z := T.Z
  have C_none_seal := ok_none_seal T A
  have C_book_seal := ok_book_seal T A
  have C_regrown := ok_regrown T A (ok_last T) (ok_split T) (ok_pair_seal T A)
  refine metR_of KS.cl KS.m_shown sc_Grows_shown (fun vs H Q E h => ?_) (fun f cdv A' outer s H vs Q E hr h => ?_)
  · obtain ⟨S, p, dx, old, bv, said, n, ht, head, v, paper, r, _, rfl, _⟩ := h
    rfl
  obtain ⟨S, p, dx, old, bv, said, n, ht, head, v, paper, r, hF, rfl, hp, hbv, hsaid, hn, hhead, hht, hpap, hok, q1, q2⟩ := h
  have G := A.good hF
  refine ⟨_, (pss_cons (ps_if (pt_cmpR op_eq (pe_fld (pv 0) rfl) pe_int (nomark _)) (pss_cons (ps_set (i := 5) sc_Grows_shown.nd rfl (Or.inl rfl) (pe_c C_book_seal hr (by omega) rfl (pa_cons (pv 1) (pa_cons pe_int (pa_cons (pe_c C_none_seal hr (by omega) rfl (pa_cons (pv 1) pa_nil)) pa_nil)))))
  (pss_one (ps_ret (pe_and (pe_cmpR (op_eqD hr.units) (pe_fld (pv 0) rfl) (pv 5) (nomark _)) (pe_and (pe_cmpR (op_eqD hr.units) (pv 4) (pe_lst pa_nil) (nomark _)) (pe_one (pe_or (pe_cmpR op_gt (pv 2) pe_int (nomark _)) (pe_one (pe_and (pe_cmpR op_eq (pv 2) pe_int (nomark _)) (pe_one (pe_cmpR (op_eqD hr.units) (pv 3) (pv 5) (nomark _)))))))))))) pss_nil)
  (pss_cons (ps_if (pt_not (pt_chain op_lt op_le pe_int (pe_fld (pv 0) rfl) (pv 2))) (pss_one (ps_ret pe_bl)) pss_nil)
  (pss_cons (ps_set (i := 6) sc_Grows_shown.nd rfl (Or.inl rfl) (pe_cx C_regrown (takes_of rfl rfl rfl rfl) hr (by omega) rfl (pa_cons (pv 1) (pa_cons (pe_fld (pv 0) rfl) (pa_cons (pv 2) (pa_cons (pv 4) pa_nil))))))
  (pss_one (ps_ret (pe_and (pe_cmpR (op_eqD hr.units) (pe_c C_book_seal hr (by omega) rfl (pa_cons (pv 1) (pa_cons (pe_fld (pv 0) rfl) (pa_cons (pe_ix ix_tup (pv 6) pe_int (fun _ _ => rfl)) pa_nil)))) (pe_fld (pv 0) rfl) (nomark _)) (pe_one (pe_cmpR (op_eqD hr.units) (pe_c C_book_seal hr (by omega) rfl (pa_cons (pv 1) (pa_cons (pv 2) (pa_cons (pe_ix ix_tup (pv 6) pe_int (fun _ _ => rfl)) pa_nil)))) (pv 3) (nomark _))))))))), ?_⟩
  refine ⟨_, rfl, p, C, dx, _, _, rfl, hp, KS.cl, KS.n_old, grF_old _ _, rfl, _, rfl, ite2 (fun c => ?_) (fun c => ?_)⟩
  · have c' : old = 0 := V.int.inj (of_decide_eq_true c)
    subst c'
    have ej : judgeG 0 n said ht paper = decide (said = emptyT ∧ paper = some [] ∧ (0 < n ∨ ht = emptyT)) := by
      unfold judgeG
      rw [if_pos rfl]
    rw [ej] at q1
    refine ⟨_, rfl, _, rfl, S, r + 59, hF, rfl, hok, fun v0 H1 x1 ok1 d1 => ?_⟩
    refine ⟨S, .int 0, v0, .int 0, nonT, r + 58, hF, rfl, ok1, G.int _ ok1, d1, fun ve H2 x2' ok2 de => ?_⟩
    have x2 := x1.trans x2'
    obtain ⟨d, d', a1, a2, a3, a4, a5⟩ := bk_apart (I3 hF) ok2 (G.mono x2.gr hbv) de hsaid empty_bk
    refine ⟨_, rfl, p, C, dx, _, _, rfl, x2.ins hp, KS.cl, KS.n_before, grF_before _ _, _, rfl, d, d', a1, a2, a3, a4, _, rfl, ?_⟩
    rw [a5]
    refine ite2 (fun b1 => ?_) (fun b1 => ?_)
    · have b1' : said = emptyT := of_decide_eq_true b1
      refine ⟨_, rfl, by show 0 ≤ sizeLine; decide, fun q3 nq3 => ?_⟩
      have u3 := Ext.new (o := .lst []) nq3
      have x3 := x2.trans u3
      have ok3 := G.keep (Kp.new (o := .lst []) nq3) ok2
      have hq3 : upd H2 q3 (.lst []) q3 = some (.lst []) := upd_same
      generalize upd H2 q3 (.lst []) = H3 at u3 x3 ok3 hq3 ⊢
      have hpp : ∃ d e, Dp K H3 v d ∧ Dp K H3 (.ref q3) e ∧ SeqAt.shaped d = true ∧ SeqAt.shaped e = true ∧ PyData.eqv d e = decide (paper = some []) := by
        cases paper with
        | none =>
          obtain ⟨d, h1, h2, h3⟩ := (hpap H3 x3).ne
          exact ⟨d, .list [], h1, .lst (SqL.of hq3) .nil, h2, by decide +kernel, by rw [h3]; rfl⟩
        | some ps =>
          obtain ⟨a, ys, rfl, ha, hd, hl, hps⟩ := hpap
          obtain ⟨d, e, b1, b2, b3, b4, b5⟩ := (hd.mono G x3.gr).odd (K := K) G (a := a) (p := q3) (SqL.of (x3.lst ha)) (SqL.of hq3) fun t ht => Nat.le_trans (hps t ht).2 (by decide)
          refine ⟨d, e, b1, b2, b3, b4, ?_⟩
          rw [b5]
          exact decide_eq_decide.mpr ⟨fun h => by rw [List.eq_nil_of_length_eq_zero h], fun h => by rw [Option.some.inj h]; rfl⟩
      obtain ⟨d3, e3, g1, g2, g3, g4, g5⟩ := hpp
      refine ⟨d3, e3, g1, g2, g3, g4, _, rfl, ?_⟩
      rw [g5]
      refine ite2 (fun b2 => ?_) (fun b2 => ?_)
      · have b2' : paper = some [] := of_decide_eq_true b2
        refine ⟨_, rfl, _, 0, rfl, rfl, _, rfl, ite2 (fun b3 => ?_) (fun b3 => ?_)⟩
        · have b3' : (0 : Int) < (n : Int) := of_decide_eq_true b3
          have := q1 H3 x3 (G.less ok3 (by omega))
          rw [decide_eq_true (show said = emptyT ∧ paper = some [] ∧ (0 < n ∨ ht = emptyT) from ⟨b1', b2', .inl (by omega)⟩)] at this
          exact this
        · have b3' : ¬ (0 : Int) < (n : Int) := of_decide_eq_false (Bool.eq_false_iff.mpr b3)
          have n0 : n = 0 := by omega
          refine ⟨_, rfl, rfl, _, rfl, ?_⟩
          rw [decide_eq_true (show V.int (n : Int) = V.int 0 by rw [n0]; rfl)]
          refine iteT ?_
          obtain ⟨d4, e4, h1, h2, h3, h4, h5⟩ := bk_apart (I3 hF) ok3 (G.mono x3.gr hhead) (G.mono u3.gr de) hht empty_bk
          refine ⟨_, rfl, _, rfl, d4, e4, h1, h2, h3, h4, ?_⟩
          rw [h5]
          have := q1 H3 x3 (G.less ok3 (by omega))
          rw [show decide (said = emptyT ∧ paper = some [] ∧ (0 < n ∨ ht = emptyT)) = decide (ht = emptyT) from decide_eq_decide.mpr ⟨fun h => h.2.2.resolve_left (by omega), fun h => ⟨b1', b2', .inr h⟩⟩] at this
          exact this
      · have b2' : ¬ paper = some [] := of_decide_eq_false (Bool.eq_false_iff.mpr b2)
        have := q1 H3 x3 (G.less ok3 (by omega))
        rw [decide_eq_false (show ¬ (said = emptyT ∧ paper = some [] ∧ (0 < n ∨ ht = emptyT)) from fun h => b2' h.2.1)] at this
        exact this
    · have b1' : ¬ said = emptyT := of_decide_eq_false (Bool.eq_false_iff.mpr b1)
      have := q1 H2 x2 (G.less ok2 (by omega))
      rw [decide_eq_false (show ¬ (said = emptyT ∧ paper = some [] ∧ (0 < n ∨ ht = emptyT)) from fun h => b1' h.1)] at this
      exact this
  · have c' : ¬ old = 0 := fun z => c (decide_eq_true (by rw [z]))
    have bad : ¬ (0 < old ∧ old ≤ (n : Int)) → judgeG old n said ht paper = false := fun z => by
      unfold judgeG
      rw [if_neg c']
      cases paper with
      | none => rfl
      | some ps => exact decide_eq_false fun h => z ⟨h.1, h.2.1⟩
    refine ⟨_, rfl, p, C, dx, _, _, rfl, hp, KS.cl, KS.n_old, grF_old _ _, _, _, rfl, rfl, _, rfl, ite2 (fun c1 => ?_) (fun c1 => ?_)⟩
    · have c1' : (0 : Int) < old := of_decide_eq_true c1
      refine ⟨_, rfl, _, _, rfl, rfl, _, rfl, ?_⟩
      by_cases c2 : old ≤ (n : Int)
      · rw [decide_eq_true c2]
        refine iteF ?_
        obtain ⟨o, rfl⟩ := Int.eq_ofNat_of_zero_le (show 0 ≤ old by omega)
        have gl := glen_le 10 o n (by show n ≤ 1024; omega)
        refine ⟨_, rfl, _, rfl, p, C, dx, _, _, rfl, hp, KS.cl, KS.n_old, grF_old _ _, _, rfl, _, rfl, S, o, n, v, r + 30, hF, rfl, by omega, by omega, hn, G.less hok (by omega), ?_⟩
        cases paper with
        | none => exact .inr ⟨(hpap H (Ext.refl _)).ty, fun D H' hD e ok => q2 (by unfold judgeG; rw [if_neg c']) D H' hD e (G.less ok (by omega))⟩
        | some ps =>
          obtain ⟨a, ys, rfl, ha, hd, hl, hps⟩ := hpap
          have ej : judgeG ((o : Nat) : Int) n said ht (some ps) = decide (0 < ((o : Nat) : Int) ∧ ((o : Nat) : Int) ≤ (n : Int) ∧ ps.length = glen o n ∧ Tm.sl "book" (.int ((o : Nat) : Int)) (regT o n ps).1 = said ∧ Tm.sl "book" (.int (n : Int)) (regT o n ps).2 = ht) := by
            unfold judgeG
            rw [if_neg c']
            rfl
          rw [ej] at q1 q2
          refine .inl ⟨a, ys, ps, rfl, ha, hd, by omega, fun hlen qb va vb H2 x2 ok2 hqb dva dvb => ?_, fun hlen D H' hD e ok => q2 (decide_eq_false fun h => hlen h.2.2.1) D H' hD e (G.less ok (by omega))⟩
          obtain ⟨w1, w2⟩ := reg_ws hlen fun t ht => (hps t ht).1
          obtain ⟨e1, e2⟩ := reg_dep (d := 20) hlen fun t ht => (hps t ht).2
          refine ⟨_, rfl, _, rfl, p, C, dx, _, _, rfl, x2.ins hp, KS.cl, KS.n_old, grF_old _ _, _, rfl, qb, _, 0, va, rfl, rfl, SqT.of hqb, rfl, S, _, va, .int ((o : Nat) : Int), _, r + 29, hF, rfl, ok2, G.int _ ok2, dva, fun u1 H3 x3 ok3 du1 => ?_⟩
          have x23 := x2.trans x3
          have bk1 : BkT (.sl "book" (.int ((o : Nat) : Int)) (regT o n ps).1) := ⟨_, _, rfl, w1, by omega⟩
          have bk2 : BkT (.sl "book" (.int (n : Int)) (regT o n ps).2) := ⟨_, _, rfl, w2, by omega⟩
          obtain ⟨d3, e3, g1, g2, g3, g4, g5⟩ := bk_apart (I3 hF) ok3 du1 (G.mono x23.gr hbv) bk1 hsaid
          refine ⟨_, rfl, p, C, dx, _, _, rfl, x23.ins hp, KS.cl, KS.n_before, grF_before _ _, d3, e3, g1, g2, g3, g4, _, rfl, ?_⟩
          rw [g5]
          refine ite2 (fun b1 => ?_) (fun b1 => ?_)
          · have b1' := of_decide_eq_true b1
            refine ⟨_, rfl, _, rfl, _, rfl, qb, _, 1, vb, rfl, rfl, SqT.of (x3.tup hqb), rfl, S, _, vb, .int (n : Int), _, r + 28, hF, rfl, ok3, G.int _ ok3, G.mono x3.gr dvb, fun u2 H4 x4 ok4 du2 => ?_⟩
            have x24 := x23.trans x4
            obtain ⟨d4, e4, h1, h2, h3, h4, h5⟩ := bk_apart (I3 hF) ok4 du2 (G.mono x24.gr hhead) bk2 hht
            refine ⟨_, rfl, d4, e4, h1, h2, h3, h4, ?_⟩
            rw [h5]
            have := q1 H4 x24 (G.less ok4 (by omega))
            rw [show decide (0 < ((o : Nat) : Int) ∧ ((o : Nat) : Int) ≤ (n : Int) ∧ ps.length = glen o n ∧ Tm.sl "book" (.int ((o : Nat) : Int)) (regT o n ps).1 = said ∧ Tm.sl "book" (.int (n : Int)) (regT o n ps).2 = ht) = decide (Tm.sl "book" (.int (n : Int)) (regT o n ps).2 = ht) from decide_eq_decide.mpr ⟨fun h => h.2.2.2.2, fun h => ⟨c1', c2, hlen, b1', h⟩⟩] at this
            exact this
          · have b1' := of_decide_eq_false (Bool.eq_false_iff.mpr b1)
            have := q1 H3 x23 (G.less ok3 (by omega))
            rw [decide_eq_false (show ¬ (0 < ((o : Nat) : Int) ∧ ((o : Nat) : Int) ≤ (n : Int) ∧ ps.length = glen o n ∧ Tm.sl "book" (.int ((o : Nat) : Int)) (regT o n ps).1 = said ∧ Tm.sl "book" (.int (n : Int)) (regT o n ps).2 = ht) from fun h => b1' h.2.2.2.1)] at this
            exact this
      · rw [decide_eq_false c2]
        refine iteT ?_
        have := q1 H (Ext.refl _) (G.less hok (by omega))
        rw [bad fun z => c2 z.2] at this
        exact this
    · have c1' : ¬ (0 : Int) < old := of_decide_eq_false (Bool.eq_false_iff.mpr c1)
      refine ⟨_, rfl, iteT ?_⟩
      have := q1 H (Ext.refl _) (G.less hok (by omega))
      rw [bad fun z => c1' z.1] at this
      exact this
def spJudgedG (K : PySem.W.Frag) (C : Addr) (Fam : Sys → Prop) : Sp := fun vs H Q _ => ∃ (S : Sys) (p dx : Addr) (old : Int) (bv : V) (said : Tm) (n : Nat) (ht : Tm) (head v : V) (paper : Option (List Tm)) (r : Nat), Fam S ∧ vs = [.ref p, .ref S.f, .int (n : Int), head, v] ∧ H p = some (.ins C dx (grF old bv)) ∧ S.den H bv said ∧ BkT said ∧ n ≤ 1000 ∧
  S.den H head ht ∧ BkT ht ∧ Pap K S H v paper ∧ S.ok H (r + 60) ∧ (∀ H', Ext H H' → S.ok H' r → Q (.bl (judgeG old n said ht paper)) H')
theorem ok_judgedG {cc : Addr} (T : Txt K mg cc) (A : SlA P w K mg base Fam) (I3 : ∀ {S}, Fam S → S.Inj K) (KS : K_Grows K mg C) : Met P w K mg base 5 C "judged" (spJudgedG K C Fam) [] := by
  obtain ⟨C_BadPaper, g_BadPaper, F_BadPaper⟩ := T.x_BadPaper.ex
  have M_shown := ok_shownG T A I3 KS
  refine met_of KS.cl KS.m_judged sc_Claim_judged (fun vs H Q E h => ?_) (fun f cdv A' outer s H vs Q E hr h => ?_)
  · obtain ⟨S, p, dx, old, bv, said, n, ht, head, v, paper, r, _, rfl, _⟩ := h
    rfl
  obtain ⟨S, p, dx, old, bv, said, n, ht, head, v, paper, r, hF, rfl, hp, hbv, hsaid, hn, hhead, hht, hpap, hok, q⟩ := h
  refine ⟨_, (pss_one (ps_try_onlyE (pss_one (ps_ret (pv 5))) rfl rfl ⟨rfl, by decide, .inl g_BadPaper⟩ takes0 (fun W pn xe tk po => (pss_one (ps_set (i := 5) sc_Claim_judged.nd rfl (Or.inl rfl) (pe_mtx M_shown tk hr (by omega) (pv 0) (pa_cons (pv 1) (pa_cons (pv 2) (pa_cons (pv 3) (pa_cons (pv 4) pa_nil)))))))) (fun a oe cls d pn hz hf => (pss_when (P := cls = .ref C_BadPaper ∧ d = none) fun hsu => (pss_one (ps_ret pe_bl)))))), ?_⟩
  refine ⟨_, rfl, p, dx, _, rfl, hp, (grF_no _ _).2, _, rfl, _, rfl, _, rfl, _, rfl, S, p, dx, old, bv, said, n, ht, head, v, paper, r, hF, rfl, hp, hbv, hsaid, hn, hhead, hht, hpap, hok, fun H' e ok => ⟨_, rfl, q H' e ok⟩, fun hj D H' hD e ok => ?_⟩
  rw [g_BadPaper] at hD
  cases hD
  refine ⟨true, F_BadPaper.eP, fun _ p2 hp2 => ⟨⟨rfl, rfl⟩, ?_⟩, fun z => nomatch z⟩
  have := q H' e ok
  rw [hj] at this
  exact this
end

/-! ### a follower -/
def fwF (f : Addr) (n : Int) (hv : V) : List (Str × V) := [("seal", .ref f), ("count", .int n), ("newest", hv)]
theorem fwF_seal (f : Addr) (n : Int) (hv : V) : (fwF f n hv).lookup ("seal" : Str) = some (.ref f) := by kernel_rfl
theorem fwF_count (f : Addr) (n : Int) (hv : V) : (fwF f n hv).lookup ("count" : Str) = some (.int n) := by kernel_rfl
theorem fwF_newest (f : Addr) (n : Int) (hv : V) : (fwF f n hv).lookup ("newest" : Str) = some hv := by kernel_rfl
theorem fwF_no (f : Addr) (n : Int) (hv : V) : (fwF f n hv).lookup ("take" : Str) = none ∧ (fwF f n hv).lookup ("judge" : Str) = none ∧ (fwF f n hv).lookup ("size" : Str) = none ∧ (fwF f n hv).lookup ("head" : Str) = none := ⟨by kernel_rfl, by kernel_rfl, by kernel_rfl, by kernel_rfl⟩
theorem fwF_mk (f : Addr) (n : Int) (hv : V) : putF "newest" hv (putF "count" (.int n) (putF "seal" (.ref f) [])) = fwF f n hv := by kernel_rfl
theorem fwF_pc (f : Addr) (n m : Int) (hv : V) : putF "count" (.int m) (fwF f n hv) = fwF f m hv := by kernel_rfl
theorem fwF_pn (f : Addr) (n : Int) (hv w : V) : putF "newest" w (fwF f n hv) = fwF f n w := by kernel_rfl
section
variable {P : Program} {w : World} {K : PySem.W.Frag} {mg : Str → Option Value} {base : Heap} {Fam : Sys → Prop} {C CG : Addr}
def spFwInit (C : Addr) (Fam : Sys → Prop) : Sp := fun vs H Q _ => ∃ (S : Sys) (p dx : Addr) (r : Nat), Fam S ∧ vs = [.ref p, .ref S.f] ∧ H p = some (.ins C dx []) ∧ S.ok H (r + 2) ∧ ∀ H' hv, ExtO p H H' → S.ok H' r → H' p = some (.ins C dx (fwF S.f 0 hv)) → S.den H' hv emptyT → Q .non H'
theorem ok_fwinit {cc : Addr} (T : Txt K mg cc) (A : SlA P w K mg base Fam) (KF : K_Follower K mg C) : Mak P w K mg base 3 "Follower" C (spFwInit C Fam) [] := by
  have C_none_seal := ok_none_seal T A
  have C_book_seal := ok_book_seal T A
  refine mak_of KF.mgC KF.made sc_Follower___init__ (fun vs H Q E h => ?_) (fun f cdv A' outer s H vs Q E hr h => ?_)
  · obtain ⟨S, p, dx, r, _, rfl, _⟩ := h
    rfl
  obtain ⟨S, p, dx, r, hF, rfl, hp, hok, q⟩ := h
  have G := A.good hF
  refine ⟨_, (pss_cons (ps_fld (pv 0) (pv 1) rfl)
  (pss_cons (ps_fld (pv 0) pe_int rfl)
  (pss_one (ps_fld (pv 0) (pe_c C_book_seal hr (by omega) rfl (pa_cons (pv 1) (pa_cons pe_int (pa_cons (pe_c C_none_seal hr (by omega) rfl (pa_cons (pv 1) pa_nil)) pa_nil)))) rfl)))), ?_⟩
  refine ⟨_, rfl, _, rfl, p, C, dx, _, rfl, hp, KF.cl, KF.n_seal, by show 0 < 1000; decide, ?_⟩
  have x1 := ExtO.put (o := .ins C dx (putF "seal" (.ref S.f) [])) hp
  have k1 := Kp.ins (o := .ins C dx (putF "seal" (.ref S.f) [])) hp
  have h1 : upd H p (.ins C dx (putF "seal" (.ref S.f) [])) p = some (.ins C dx (putF "seal" (.ref S.f) [])) := upd_same
  generalize upd H p (.ins C dx (putF "seal" (.ref S.f) [])) = H1 at x1 k1 h1 ⊢
  refine ⟨_, rfl, p, C, dx, _, rfl, h1, KF.cl, KF.n_count, by show 1 < 1000; decide, ?_⟩
  have x2 := x1.trans (ExtO.put (o := .ins C dx (putF "count" (.int 0) (putF "seal" (.ref S.f) []))) h1)
  have k2 := k1.trans (Kp.ins (o := .ins C dx (putF "count" (.int 0) (putF "seal" (.ref S.f) []))) h1)
  have h2 : upd H1 p (.ins C dx (putF "count" (.int 0) (putF "seal" (.ref S.f) []))) p = some (.ins C dx (putF "count" (.int 0) (putF "seal" (.ref S.f) []))) := upd_same
  generalize upd H1 p (.ins C dx (putF "count" (.int 0) (putF "seal" (.ref S.f) []))) = H2 at x2 k2 h2 ⊢
  have ok2 := G.keep k2 hok
  refine ⟨_, rfl, _, rfl, S, r + 1, hF, rfl, ok2, fun v0 H3 x3 ok3 d3 => ?_⟩
  refine ⟨S, .int 0, v0, .int 0, nonT, r, hF, rfl, ok3, G.int _ ok3, d3, fun ve H4 x4 ok4 d4 => ?_⟩
  have h4 := (x3.trans x4).ins h2
  refine ⟨_, rfl, p, C, dx, _, rfl, h4, KF.cl, KF.n_newest, by show 2 < 1000; decide, ?_⟩
  have k5 := Kp.ins (o := .ins C dx (putF "newest" ve (putF "count" (.int 0) (putF "seal" (.ref S.f) [])))) h4
  refine q _ ve ((x2.trans (x3.trans x4).o).trans (ExtO.put h4)) (G.keep k5 ok4) ?_ (G.mono k5.gr d4)
  rw [upd_same, fwF_mk]
def takeB (cnt n : Nat) (t0 ht : Tm) (paper : Option (List Tm)) : Bool := decide (cnt ≤ n) && judgeG (cnt : Int) n t0 ht paper
def spFwTake (K : PySem.W.Frag) (C : Addr) (Fam : Sys → Prop) : Sp := fun vs H Q _ => ∃ (S : Sys) (p dx : Addr) (cnt : Nat) (hv : V) (t0 : Tm) (n : Nat) (head : V) (ht : Tm) (v : V) (paper : Option (List Tm)) (r : Nat), Fam S ∧ vs = [.ref p, .int (n : Int), head, v] ∧ H p = some (.ins C dx (fwF S.f (cnt : Int) hv)) ∧ S.den H hv t0 ∧ BkT t0 ∧ n ≤ 1000 ∧
  S.den H head ht ∧ BkT ht ∧ Pap K S H v paper ∧ S.ok H (r + 60) ∧ ∀ H', ExtO p H H' → S.ok H' r → H' p = some (.ins C dx (if takeB cnt n t0 ht paper = true then fwF S.f (n : Int) head else fwF S.f (cnt : Int) hv)) → Q (.bl (takeB cnt n t0 ht paper)) H'
theorem ok_fwtake {cc : Addr} (T : Txt K mg cc) (A : SlA P w K mg base Fam) (I3 : ∀ {S}, Fam S → S.Inj K) (KF : K_Follower K mg C) (KG : K_Grows K mg CG) : Met P w K mg base 6 C "take" (spFwTake K C Fam) [] := by
  have C_Grows := ok_grinit (P := P) (w := w) (base := base) KG
  have M_judged := ok_judgedG T A I3 KG
  refine met_of KF.cl KF.m_take sc_Follower_take (fun vs H Q E h => ?_) (fun f cdv A' outer s H vs Q E hr h => ?_)
  · obtain ⟨S, p, dx, cnt, hv, t0, n, head, ht, v, paper, r, _, rfl, _⟩ := h
    rfl
  obtain ⟨S, p, dx, cnt, hv, t0, n, head, ht, v, paper, r, hF, rfl, hp, hhv, ht0, hn, hhead, hht, hpap, hok, q⟩ := h
  have G := A.good hF
  refine ⟨_, (pss_cons (ps_set (i := 4) sc_Follower_take.nd rfl (Or.inl rfl) (pe_mk C_Grows hr (by omega) rfl (pa_cons (pe_fld (pv 0) rfl) (pa_cons (pe_fld (pv 0) rfl) pa_nil))))
  (pss_cons (ps_if (PW.pt (pw_or (pt_cmpR op_lt (pv 1) (pe_fld (pv 0) rfl) (nomark _)) (pw_or1 (pt_not (pt_val (pe_mt M_judged hr (by omega) (pv 4) (pa_cons (pe_fld (pv 0) rfl) (pa_cons (pv 1) (pa_cons (pv 2) (pa_cons (pv 3) pa_nil)))))))))) (pss_one (ps_ret pe_bl)) pss_nil)
  (pss_cons (ps_fld (pv 0) (pv 1) rfl)
  (pss_cons (ps_fld (pv 0) (pv 2) rfl)
  (pss_one (ps_ret pe_bl)))))), ?_⟩
  refine ⟨_, rfl, p, C, dx, _, _, rfl, hp, KF.cl, KF.n_count, fwF_count _ _ _, _, rfl, p, C, dx, _, _, rfl, hp, KF.cl, KF.n_newest, fwF_newest _ _ _, fun gp gdx ngp ngdx nex => ?_⟩
  have y1 : Ext H (upd (upd H gdx (.own gp)) gp (.ins CG gdx [])) := (Ext.new ngdx).trans (Ext.new (by rw [upd_ne nex.symm]; exact ngp))
  have ky1 : Kp H (upd (upd H gdx (.own gp)) gp (.ins CG gdx [])) := (Kp.new ngdx).trans (Kp.new (show upd H gdx (.own gp) gp = none by rw [upd_ne nex.symm]; exact ngp))
  refine ⟨gp, gdx, (cnt : Int), hv, rfl, upd_same, fun H1 xo kp hg => ⟨rfl, ?_⟩⟩
  have x1 := xo.ext y1 ngp
  have ok1 := G.keep (ky1.trans kp) hok
  have hp1 := x1.ins hp
  refine ⟨_, rfl, _, rfl, p, C, dx, _, _, rfl, hp1, KF.cl, KF.n_count, fwF_count _ _ _, _, _, rfl, rfl, _, rfl, ite2 (fun c => ?_) (fun c => ?_)⟩
  · have c' : (n : Int) < (cnt : Int) := of_decide_eq_true c
    have tb : takeB cnt n t0 ht paper = false := by
      unfold takeB
      rw [decide_eq_false (show ¬ cnt ≤ n by omega)]
      rfl
    refine iteT ?_
    have := q H1 x1.o (G.less ok1 (by omega)) (by rw [tb]; exact hp1)
    rw [tb] at this
    exact this
  · have c' : ¬ (n : Int) < (cnt : Int) := of_decide_eq_false (Bool.eq_false_iff.mpr c)
    have tb : takeB cnt n t0 ht paper = judgeG (cnt : Int) n t0 ht paper := by
      unfold takeB
      rw [decide_eq_true (show cnt ≤ n by omega)]
      rfl
    rw [tb] at q
    refine ⟨_, rfl, gp, gdx, _, rfl, hg, (grF_no _ _).1, _, rfl, p, C, dx, _, _, rfl, hp1, KF.cl, KF.n_seal, fwF_seal _ _ _, _, rfl, _, rfl, _, rfl, S, gp, gdx, (cnt : Int), hv, t0, n, ht, head, v, paper, r, hF, rfl, hg, G.mono x1.gr hhv, ht0, hn, G.mono x1.gr hhead, hht, hpap.ext G x1, ok1, fun H2 x2 ok2 => ?_⟩
    have hp2 := x2.ins hp1
    have x12 := x1.trans x2
    refine ⟨_, rfl, ?_⟩
    cases hb : judgeG (cnt : Int) n t0 ht paper with
    | false =>
      rw [hb] at q
      refine iteT ?_
      exact q H2 x12.o ok2 hp2
    | true =>
      rw [hb] at q
      refine iteF ?_
      refine ⟨_, rfl, _, rfl, p, C, dx, _, rfl, hp2, KF.cl, KF.n_count, by show 3 < 1000; decide, ?_⟩
      rw [fwF_pc]
      have x3 := ExtO.put (o := .ins C dx (fwF S.f (n : Int) hv)) hp2
      have k3 := Kp.ins (o := .ins C dx (fwF S.f (n : Int) hv)) hp2
      refine ⟨_, rfl, _, rfl, p, C, dx, _, rfl, upd_same, KF.cl, KF.n_newest, by show 3 < 1000; decide, ?_⟩
      rw [fwF_pn]
      exact q _ ((x12.o.trans x3).trans (ExtO.put upd_same)) (G.keep (k3.trans (Kp.ins upd_same)) ok2) upd_same
def spFwJudge (K : PySem.W.Frag) (C CG : Addr) (Fam : Sys → Prop) : Sp := fun vs H Q _ => ∃ (S : Sys) (p dx g gdx : Addr) (n : Nat) (hv : V) (t0 : Tm) (old : Int) (bv : V) (said : Tm) (v : V) (paper : Option (List Tm)) (r : Nat), Fam S ∧ vs = [.ref p, .ref g, v] ∧ H p = some (.ins C dx (fwF S.f (n : Int) hv)) ∧ S.den H hv t0 ∧ BkT t0 ∧ n ≤ 1000 ∧
  H g = some (.ins CG gdx (grF old bv)) ∧ S.den H bv said ∧ BkT said ∧ Pap K S H v paper ∧ S.ok H (r + 60) ∧ ∀ H', Ext H H' → S.ok H' r → Q (.bl (judgeG old n said t0 paper)) H'
theorem ok_fwjudge {cc : Addr} (T : Txt K mg cc) (A : SlA P w K mg base Fam) (I3 : ∀ {S}, Fam S → S.Inj K) (KF : K_Follower K mg C) (KG : K_Grows K mg CG) : Met P w K mg base 6 C "judge" (spFwJudge K C CG Fam) [] := by
  have M_judged := ok_judgedG T A I3 KG
  refine met_of KF.cl KF.m_judge sc_Follower_judge (fun vs H Q E h => ?_) (fun f cdv A' outer s H vs Q E hr h => ?_)
  · obtain ⟨S, p, dx, g, gdx, n, hv, t0, old, bv, said, v, paper, r, _, rfl, _⟩ := h
    rfl
  obtain ⟨S, p, dx, g, gdx, n, hv, t0, old, bv, said, v, paper, r, hF, rfl, hp, hhv, ht0, hn, hg, hbv, hsaid, hpap, hok, q⟩ := h
  refine ⟨_, (pss_one (ps_ret (pe_mt M_judged hr (by omega) (pv 1) (pa_cons (pe_fld (pv 0) rfl) (pa_cons (pe_fld (pv 0) rfl) (pa_cons (pe_fld (pv 0) rfl) (pa_cons (pv 2) pa_nil))))))), ?_⟩
  refine ⟨_, rfl, g, gdx, _, rfl, hg, (grF_no _ _).1, _, rfl, p, C, dx, _, _, rfl, hp, KF.cl, KF.n_seal, fwF_seal _ _ _, _, rfl, p, C, dx, _, _, rfl, hp, KF.cl, KF.n_count, fwF_count _ _ _, _, rfl, p, C, dx, _, _, rfl, hp, KF.cl, KF.n_newest, fwF_newest _ _ _, _, rfl, S, g, gdx, old, bv, said, n, t0, hv, v, paper, r, hF, rfl, hg, hbv, hsaid, hn, hhv, ht0, hpap, hok, q⟩
end

/-! ### papers bent -/
section
variable {P : Program} {w : World} {K : PySem.W.Frag} {mg : Str → Option Value} {base : Heap} {Fam : Sys → Prop}
def OkT (t : Tm) : Prop := WS t ∧ t.dep ≤ 20
theorem odd_tup {S : Sys} (G : S.Good K) {H : Hp} {q : Addr} {ys : List V} {ps : List Tm} (hq : H q = some (.tup ys)) (hd : DenL S H ys ps) (hp : ∀ t ∈ ps, OkT t) : ∀ H', Ext H H' → Odd K H' (.ref q) := by
  intro H' e
  have ht' := e.tup hq
  refine ⟨⟨.type "tuple", .base (.tup ht'), kit_ty (by decide +kernel)⟩, ?_⟩
  have hdx := hd.mono G e.gr
  obtain ⟨ds, m1, _, m3, m4⟩ := DenL.same (K := K) (n := 20) G hdx hdx fun t ht => (hp t ht).2
  exact ⟨.tuple ds, .tup (SqT.of ht') m1, shaped_of m3 (by show PyData.depthAll ds + 1 ≤ 64; omega), rfl⟩
theorem odd_non {H : Hp} : ∀ H', Ext H H' → Odd K H' .non := fun _ _ => ⟨⟨_, .base .non, kit_ty (by decide +kernel)⟩, .none, .non, by decide +kernel, rfl⟩
theorem odd_str {H : Hp} : ∀ H', Ext H H' → Odd K H' (.str "ab") := fun _ _ => ⟨⟨_, .base (.str _), kit_ty (by decide +kernel)⟩, .str "ab", .str _, by decide +kernel, rfl⟩
theorem odd_int {H : Hp} : ∀ H', Ext H H' → Odd K H' (.int 5) := fun _ _ => ⟨⟨_, .base (.int _), kit_ty (by decide +kernel)⟩, .int 5, .int _, by decide +kernel, rfl⟩
theorem four_at {v0 v1 v2 v3 : V} {z : Int} (h0 : 0 ≤ z) (h1 : z < 4) : ∃ v, atI [v0, v1, v2, v3] z = some v ∧ (v = v0 ∨ v = v1 ∨ v = v2 ∨ v = v3) := by
  have : z = 0 ∨ z = 1 ∨ z = 2 ∨ z = 3 := by omega
  rcases this with rfl | rfl | rfl | rfl
  · exact ⟨v0, rfl, .inl rfl⟩
  · exact ⟨v1, rfl, .inr (.inl rfl)⟩
  · exact ⟨v2, rfl, .inr (.inr (.inl rfl))⟩
  · exact ⟨v3, rfl, .inr (.inr (.inr rfl))⟩
theorem DenL.at_mem {S : Sys} {H : Hp} {xs : List V} {ts : List Tm} (h : DenL S H xs ts) {i : Int} (h0 : 0 ≤ i) (h1 : i < (ts.length : Int)) : ∃ v t, atI xs i = some v ∧ S.den H v t ∧ t ∈ ts := by
  obtain ⟨n, rfl⟩ := Int.eq_ofNat_of_zero_le h0
  have hn : n < ts.length := by omega
  obtain ⟨v, e, d⟩ := h.get hn
  exact ⟨v, _, atI_nat e, d, List.getElem_mem hn⟩
theorem DenL.reverse {S : Sys} {H : Hp} {vs : List V} {ts : List Tm} (h : DenL S H vs ts) : DenL S H vs.reverse ts.reverse := by
  have hl := h.len
  refine ⟨by rw [List.length_reverse, List.length_reverse, hl], fun i v t a b => ?_⟩
  have hi : i < vs.length := by
    have := (List.getElem?_eq_some_iff.mp a).1
    rwa [List.length_reverse] at this
  rw [List.getElem?_reverse hi] at a
  rw [List.getElem?_reverse (by omega), ← hl] at b
  exact h.at_ _ v t a b
end

section
variable {P : Program} {w : World} {K : PySem.W.Frag} {mg : Str → Option Value} {base : Heap} {Fam : Sys → Prop}
def spBent (K : PySem.W.Frag) (Fam : Sys → Prop) : Sp := fun vs H Q _ => ∃ (S : Sys) (a : Addr) (ys : List V) (ps : List Tm) (b o : Int) (r : Nat), Fam S ∧ vs = [.ref S.f, .ref a, .int b, .int o] ∧ H a = some (.lst ys) ∧ DenL S H ys ps ∧ ps.length ≤ 20 ∧ (∀ t ∈ ps, WS t ∧ t.dep ≤ 19) ∧ 0 ≤ o ∧ S.ok H (r + 2) ∧
  ∀ v paper H', Ext H H' → S.ok H' r → Pap K S H' v paper → Q v H'
theorem ok_bent {cc : Addr} (T : Txt K mg cc) (A : SlA P w K mg base Fam) : Cal P w K mg base 2 "_law_bent" (spBent K Fam) [] := by
  have Z := T.Z
  refine cal_of T.d__law_bent sc__law_bent (fun vs H Q E h => ?_) (fun f cdv A' outer s H vs Q E hr h => ?_)
  · obtain ⟨S, a, ys, ps, b, o, r, _, rfl, _⟩ := h
    rfl
  obtain ⟨S, a, ys, ps, b, o, r, hF, rfl, ha, hd, hl, hps', ho, hok, q⟩ := h
  have hps : ∀ t ∈ ps, OkT t := fun t ht => ⟨(hps' t ht).1, Nat.le_trans (hps' t ht).2 (by decide)⟩
  have G := A.good hF
  have hyl := hd.len
  have e16 : sizeLine = 16777216 := sizeLine_eq
  refine ⟨_, (Evl.pss_cut (ps_if (PW.pt (pw_and (pt_cmpR op_eq (pv 2) pe_int (nomark _)) (pw_and1 (pt_cmpR (op_neD hr.units) (pv 1) (pe_lst pa_nil) (nomark _))))) (pss_cons (ps_set (i := 4) sc__law_bent.nd rfl (Or.inl rfl) (pe_op op_mod (pv 3) (pe_callB call_len_seq rfl Z.len PySem.boot_len (pa_cons (pv 1) pa_nil))))
  (pss_one (ps_ret (pe_op op_cat (pe_op op_cat (pe_slice sl_list (pv 1) po_none (po_some (pv 4))) (pe_lst (pa_cons (pe_sl (i := 0) A.held hr (by omega) rfl (by first | exact Or.inl rfl | exact Or.inr (Or.inl rfl) | exact Or.inr (Or.inr rfl)) (pa_cons pe_str (pa_cons (pe_ix ix_list (pv 1) (pv 4) (fun _ _ => rfl)) (pa_cons (pe_ix ix_list (pv 1) (pv 4) (fun _ _ => rfl)) pa_nil)))) pa_nil))) (pe_slice sl_list (pv 1) (po_some (pe_op op_add (pv 4) pe_int)) po_none))))) pss_nil)
  (pss_cons (ps_if (pt_cmpR op_eq (pv 2) pe_int (nomark _)) (pss_one (ps_ret (pe_slice sl_list (pv 1) (po_some pe_int) po_none))) pss_nil)
  (pss_cons (ps_if (pt_cmpR op_eq (pv 2) pe_int (nomark _)) (pss_one (ps_ret (pe_op op_cat (pv 1) (pe_lst (pa_cons (pe_sl (i := 0) A.held hr (by omega) rfl (by first | exact Or.inl rfl | exact Or.inr (Or.inl rfl) | exact Or.inr (Or.inr rfl)) (pa_cons pe_str (pa_cons pe_int (pa_cons pe_int pa_nil)))) pa_nil))))) pss_nil)
  (pss_cons (ps_if (pt_cmpR op_eq (pv 2) pe_int (nomark _)) (pss_one (ps_ret (pe_lstRev rfl rfl Z.list rfl Z.reversed (pv 1)))) pss_nil)
  (pss_cons (ps_if (pt_cmpR op_eq (pv 2) pe_int (nomark _)) (pss_one (ps_ret (pe_ix ix_tup (pe_tup (pa_cons (pe_callTy call_tuple_of rfl Z.tuple (by decide +kernel) (pa_cons (pv 1) pa_nil)) (pa_cons pe_non (pa_cons pe_str (pa_cons pe_int pa_nil))))) (pe_op op_mod (pv 3) pe_int) (fun _ _ => rfl)))) pss_nil)
  (pss_cons (ps_if (pt_cmpR op_eq (pv 2) pe_int (nomark _)) (pss_one (ps_ret (pe_slice sl_list (pv 1) po_none (po_some (pe_op op_sub (pe_callB call_len_seq rfl Z.len PySem.boot_len (pa_cons (pv 1) pa_nil)) pe_int))))) pss_nil)
  (pss_cons (ps_if (pt_cmpR op_eq (pv 2) pe_int (nomark _)) (pss_one (ps_ret (pe_op op_cat (pe_lst (pa_cons (pe_sl (i := 0) A.held hr (by omega) rfl (by first | exact Or.inl rfl | exact Or.inr (Or.inl rfl) | exact Or.inr (Or.inr rfl)) (pa_cons pe_str (pa_cons pe_int (pa_cons pe_int pa_nil)))) pa_nil)) (pv 1)))) pss_nil)
  (pss_one (ps_ret (pe_callTy call_list_of rfl Z.list (by decide +kernel) (pa_cons (pv 1) pa_nil))))))))))), ?_⟩
  refine ⟨fun σ H' => ∃ y4, σ = [some (.ref S.f), some (.ref a), some (.int b), some (.int o), y4] ∧ Ext H H' ∧ S.ok H' (r + 2), ?_, ?_⟩
  · refine ⟨_, rfl, rfl, _, rfl, ite2 (fun _ => ?_) (fun _ => ⟨none, rfl, Ext.refl _, hok⟩)⟩
    refine ⟨_, rfl, by show 0 ≤ sizeLine; decide, fun p hp => ?_⟩
    have u0 := Ext.new (o := .lst []) hp
    obtain ⟨d, e, a1, a2, a3, a4, a5⟩ := (hd.mono G u0.gr).odd (K := K) G (a := a) (p := p) (SqL.of (u0.lst ha)) (SqL.of upd_same) fun t ht => Nat.le_trans (hps t ht).2 (by decide)
    refine ⟨d, e, a1, a2, a3, a4, _, rfl, ?_⟩
    rw [a5]
    have x2 := u0
    have ok2 := G.keep (Kp.new (o := .lst []) hp) hok
    generalize upd H p (.lst []) = H2 at x2 ok2 u0 ⊢
    by_cases hz : ps.length = 0
    · rw [decide_eq_true hz]
      exact ⟨none, rfl, x2, ok2⟩
    rw [decide_eq_false hz]
    refine iteT ?_
    have ha2 := x2.lst ha
    have hd2 := hd.mono G x2.gr
    have hl0 : (0 : Int) < (ys.length : Int) := by omega
    obtain ⟨at', hat⟩ := Int.eq_ofNat_of_zero_le (Int.emod_nonneg o (show (ys.length : Int) ≠ 0 by omega))
    have hat2 := Int.emod_lt_of_pos o hl0
    obtain ⟨nv, nt, hn, hdn, hmn⟩ := hd2.at_mem (i := o % (ys.length : Int)) (Int.emod_nonneg _ (by omega)) (by omega)
    refine ⟨_, rfl, _, rfl, a, ys, rfl, .inl (SqL.of ha2), _, _, rfl, rfl, hl0, ?_⟩
    refine ⟨_, rfl, _, rfl, ((at' : Nat) : Int), by show V.int (o % (ys.length : Int)) = _; rw [hat], a, ys, rfl, SqL.of ha2, fun p1 np1 => ?_⟩
    rw [cut_to]
    have u1 := x2.trans (Ext.new (o := .lst (ys.take at')) np1)
    have k1 := Kp.new (o := .lst (ys.take at')) np1
    have okk := G.keep k1 ok2
    have ha3 := u1.lst ha
    refine ⟨S, r + 2, hF, rfl, okk, _, rfl, _, rfl, a, ys, _, nv, rfl, rfl, SqL.of ha3, hn, _, rfl, _, rfl, a, ys, _, nv, rfl, rfl, SqL.of ha3, hn, r + 1, "pair", nt, nt, _, _, rfl, by decide +kernel, okk, G.mono k1.gr hdn, G.mono k1.gr hdn, fun pv H3 x3 ok3 dp => ⟨by show 1 ≤ sizeLine; decide, fun p2 np2 => ?_⟩⟩
    have h12 : upd H3 p2 (.lst [pv]) p1 = some (.lst (ys.take at')) := (x3.trans (Ext.new np2)).lst upd_same
    have u2 := (u1.trans x3).trans (Ext.new (o := .lst [pv]) np2)
    have k2 := Kp.new (o := .lst [pv]) np2
    have lt1 : (ys.take at').length ≤ 20 := by rw [List.length_take]; omega
    refine ⟨p1, p2, _, _, rfl, rfl, h12, upd_same, by rw [e16]; show _ + 1 ≤ _; omega, fun p3 np3 => ?_⟩
    have u3 := u2.trans (Ext.new (o := .lst (ys.take at' ++ [pv])) np3)
    have k3 := k2.trans (Kp.new (o := .lst (ys.take at' ++ [pv])) np3)
    have h33 : upd (upd H3 p2 (.lst [pv])) p3 (.lst (ys.take at' ++ [pv])) p3 = some (.lst (ys.take at' ++ [pv])) := upd_same
    generalize upd (upd H3 p2 (.lst [pv])) p3 (.lst (ys.take at' ++ [pv])) = H4 at u3 k3 h33 ⊢
    have e1 : (at' : Int) + 1 = ((at' + 1 : Nat) : Int) := by omega
    refine ⟨_, rfl, _, rfl, _, 1, rfl, rfl, ((at' + 1 : Nat) : Int), by show V.int (o % (ys.length : Int) + 1) = _; rw [hat, ← e1], a, ys, rfl, SqL.of (u3.lst ha), fun p4 np4 => ?_⟩
    rw [cut_from]
    have u4 := u3.trans (Ext.new (o := .lst (ys.drop (at' + 1))) np4)
    have k4 := k3.trans (Kp.new (o := .lst (ys.drop (at' + 1))) np4)
    have lt2 : (ys.drop (at' + 1)).length ≤ 20 := by rw [List.length_drop]; omega
    refine ⟨p3, p4, _, _, rfl, rfl, by rw [upd_ne (ne_of_none h33 np4)]; exact h33, upd_same, by rw [List.length_append, e16]; show _ + 1 + _ ≤ _; omega, fun p5 np5 => ?_⟩
    have u5 := u4.trans (Ext.new (o := .lst (ys.take at' ++ [pv] ++ ys.drop (at' + 1))) np5)
    have k5 := k4.trans (Kp.new (o := .lst (ys.take at' ++ [pv] ++ ys.drop (at' + 1))) np5)
    have hd3 := (hd2.mono G k1.gr).mono G x3.gr
    have dd : DenL S H3 (ys.take at' ++ [pv] ++ ys.drop (at' + 1)) (ps.take at' ++ [pairT nt nt] ++ ps.drop (at' + 1)) := ((hd3.take _).append (DenL.one dp)).append (hd3.drop _)
    refine q _ (some (ps.take at' ++ [pairT nt nt] ++ ps.drop (at' + 1))) _ u5 (G.less (G.keep k5 ok3) (by omega)) ⟨p5, _, rfl, upd_same, dd.mono G k5.gr, ?_, fun t ht => ?_⟩
    · rw [List.length_append, List.length_append, List.length_take, List.length_drop]
      show _ + 1 + _ ≤ 100
      omega
    · rcases List.mem_append.mp ht with h | h
      · rcases List.mem_append.mp h with h | h
        · exact hps t (List.mem_of_mem_take h)
        · rw [List.mem_singleton.mp h]
          have := hps' _ hmn
          exact ⟨.pair this.1 this.1, by show max nt.dep nt.dep + 1 ≤ 20; omega⟩
      · exact hps t (List.mem_of_mem_drop h)
  rintro σ H1 ⟨y4, rfl, x1, ok1⟩
  have ha1 := x1.lst ha
  have hd1 := hd.mono G x1.gr
  -- one left out
  refine ⟨_, rfl, rfl, _, rfl, ite2 (fun _ => ?_) (fun _ => ?_)⟩
  · refine ⟨_, rfl, 1, rfl, a, ys, rfl, SqL.of ha1, fun p1 np1 => ?_⟩
    rw [show (1 : Int) = ((1 : Nat) : Int) from rfl, cut_from]
    have k1 := Kp.new (o := .lst (ys.drop 1)) np1
    exact q _ (some (ps.drop 1)) _ (x1.trans (Ext.new np1)) (G.less (G.keep k1 ok1) (by omega)) ⟨p1, _, rfl, upd_same, (hd1.drop _).mono G k1.gr, by rw [List.length_drop]; omega, fun t ht => hps t (List.mem_of_mem_drop ht)⟩
  -- one behind
  refine ⟨_, rfl, rfl, _, rfl, ite2 (fun _ => ?_) (fun _ => ?_)⟩
  · refine ⟨_, rfl, S, r + 2, hF, rfl, ok1, r + 1, "none", .int 0, .int 0, _, _, rfl, by decide +kernel, ok1, G.int _ ok1, G.int _ ok1, fun nv H2 x2 ok2 dn => ⟨by show 1 ≤ sizeLine; decide, fun p2 np2 => ?_⟩⟩
    have u2 := (x1.trans x2).trans (Ext.new (o := .lst [nv]) np2)
    have k2 := Kp.new (o := .lst [nv]) np2
    refine ⟨a, p2, _, _, rfl, rfl, u2.lst ha, upd_same, by rw [e16]; show _ + 1 ≤ _; omega, fun p3 np3 => ?_⟩
    have k3 := k2.trans (Kp.new (o := .lst (ys ++ [nv])) np3)
    have dd : DenL S H2 (ys ++ [nv]) (ps ++ [nonT]) := (hd1.mono G x2.gr).append (DenL.one dn)
    refine q _ (some (ps ++ [nonT])) _ (u2.trans (Ext.new np3)) (G.less (G.keep k3 ok2) (by omega)) ⟨p3, _, rfl, upd_same, dd.mono G k3.gr, by rw [List.length_append]; show _ + 1 ≤ 100; omega, fun t ht => ?_⟩
    rcases List.mem_append.mp ht with h | h
    · exact hps t h
    · rw [List.mem_singleton.mp h]
      exact ⟨.non, by decide⟩
  -- turned round
  refine ⟨_, rfl, rfl, _, rfl, ite2 (fun _ => ?_) (fun _ => ?_)⟩
  · refine ⟨_, rfl, a, ys, rfl, SqL.of ha1, fun p1 np1 => ?_⟩
    have k1 := Kp.new (o := .lst ys.reverse) np1
    exact q _ (some ps.reverse) _ (x1.trans (Ext.new np1)) (G.less (G.keep k1 ok1) (by omega)) ⟨p1, _, rfl, upd_same, (hd1.reverse).mono G k1.gr, by rw [List.length_reverse]; omega, fun t ht => hps t (List.mem_reverse.mp ht)⟩
  -- no list
  refine ⟨_, rfl, rfl, _, rfl, ite2 (fun _ => ?_) (fun _ => ?_)⟩
  · refine ⟨_, rfl, a, ys, rfl, .inl ⟨SqL.of ha1, fun p1 np1 => ⟨by show 4 ≤ sizeLine; decide, fun p2 np2 => ?_⟩⟩⟩
    have u1 := Ext.new (o := .tup ys) np1
    have k1 := Kp.new (o := .tup ys) np1
    have u2 := u1.trans (Ext.new (o := .tup [.ref p1, .non, .str "ab", .int 5]) np2)
    have k2 := k1.trans (Kp.new (o := .tup [.ref p1, .non, .str "ab", .int 5]) np2)
    obtain ⟨v, hv, hvv⟩ := four_at (v0 := .ref p1) (v1 := .non) (v2 := .str "ab") (v3 := .int 5) (Int.emod_nonneg o (show (4 : Int) ≠ 0 by decide)) (Int.emod_lt_of_pos o (by decide))
    refine ⟨_, rfl, _, 4, rfl, rfl, by show (0 : Int) < 4; decide, p2, _, _, v, rfl, rfl, SqT.of upd_same, hv, ?_⟩
    refine q _ none _ (x1.trans u2) (G.less (G.keep k2 ok1) (by omega)) ?_
    rcases hvv with rfl | rfl | rfl | rfl
    · exact odd_tup G (by rw [upd_ne (ne_of_none upd_same np2)]; exact upd_same) (hd1.mono G k2.gr) hps
    · exact odd_non
    · exact odd_str
    · exact odd_int
  -- the last left out
  refine ⟨_, rfl, rfl, _, rfl, ite2 (fun _ => ?_) (fun _ => ?_)⟩
  · by_cases hz : ys.length = 0
    · refine ⟨_, rfl, _, rfl, a, ys, rfl, .inl (SqL.of ha1), _, 1, rfl, rfl, _, rfl, a, ys, rfl, SqL.of ha1, fun p1 np1 => ?_⟩
      have ey : ys = [] := List.eq_nil_of_length_eq_zero hz
      subst ey
      have ep : ps = [] := List.eq_nil_of_length_eq_zero (by omega)
      subst ep
      have ec : ∀ z, cutV ([] : List V) none (some z) = [] := fun z => by
        unfold cutV
        rw [List.drop_nil, List.take_nil]
      rw [ec]
      exact q _ (some []) _ (x1.trans (Ext.new np1)) (G.less (G.keep (Kp.new np1) ok1) (by omega)) ⟨p1, _, rfl, upd_same, DenL.nil, by decide, fun _ h => by cases h⟩
    · have e1 : (ys.length : Int) - 1 = ((ys.length - 1 : Nat) : Int) := by omega
      refine ⟨_, rfl, _, rfl, a, ys, rfl, .inl (SqL.of ha1), _, 1, rfl, rfl, ((ys.length - 1 : Nat) : Int), by rw [← e1], a, ys, rfl, SqL.of ha1, fun p1 np1 => ?_⟩
      rw [cut_to]
      have k1 := Kp.new (o := .lst (ys.take (ys.length - 1))) np1
      exact q _ (some (ps.take (ys.length - 1))) _ (x1.trans (Ext.new np1)) (G.less (G.keep k1 ok1) (by omega)) ⟨p1, _, rfl, upd_same, (hd1.take _).mono G k1.gr, by rw [List.length_take]; omega, fun t ht => hps t (List.mem_of_mem_take ht)⟩
  -- one ahead
  refine ⟨_, rfl, rfl, _, rfl, ite2 (fun _ => ?_) (fun _ => ?_)⟩
  · refine ⟨S, r + 2, hF, rfl, ok1, r + 1, "none", .int 0, .int 0, _, _, rfl, by decide +kernel, ok1, G.int _ ok1, G.int _ ok1, fun nv H2 x2 ok2 dn => ⟨by show 1 ≤ sizeLine; decide, fun p2 np2 => ?_⟩⟩
    have u2 := (x1.trans x2).trans (Ext.new (o := .lst [nv]) np2)
    have k2 := Kp.new (o := .lst [nv]) np2
    refine ⟨_, rfl, p2, a, _, _, rfl, rfl, upd_same, u2.lst ha, by rw [e16]; show 1 + _ ≤ _; omega, fun p3 np3 => ?_⟩
    have k3 := k2.trans (Kp.new (o := .lst ([nv] ++ ys)) np3)
    have dd : DenL S H2 ([nv] ++ ys) ([nonT] ++ ps) := (DenL.one dn).append (hd1.mono G x2.gr)
    refine q _ (some ([nonT] ++ ps)) _ (u2.trans (Ext.new np3)) (G.less (G.keep k3 ok2) (by omega)) ⟨p3, _, rfl, upd_same, dd.mono G k3.gr, by rw [List.length_append]; show 1 + _ ≤ 100; omega, fun t ht => ?_⟩
    rcases List.mem_append.mp ht with h | h
    · rw [List.mem_singleton.mp h]
      exact ⟨.non, by decide⟩
    · exact hps t h
  refine ⟨_, rfl, a, ys, rfl, .inl (SqL.of ha1), fun p1 np1 => ?_⟩
  have k1 := Kp.new (o := .lst ys) np1
  exact q _ (some ps) _ (x1.trans (Ext.new np1)) (G.less (G.keep k1 ok1) (by omega)) ⟨p1, _, rfl, upd_same, hd1.mono G k1.gr, by omega, hps⟩
/-! ### heads -/
def headT (ts : List Tm) (n : Nat) : Tm := .sl "book" (.int (n : Int)) (topT (ts.take n))
def spHead (K : PySem.W.Frag) (Fam : Sys → Prop) : Sp := fun vs H Q _ => ∃ (S : Sys) (a : Addr) (ys : List V) (ts : List Tm) (n r : Nat), Fam S ∧ vs = [.ref S.f, .ref a, .int (n : Int)] ∧ SqL K H a ys ∧ DenL S H ys ts ∧ ts.length ≤ 100 ∧ n ≤ ts.length ∧ S.ok H (r + 102) ∧ ∀ v H', Ext H H' → S.ok H' r → S.den H' v (headT ts n) → Q v H'
theorem ok_head {cc : Addr} (T : Txt K mg cc) (A : SlA P w K mg base Fam) : Cal P w K mg base 13 "_law_head" (spHead K Fam) [] := by
  have C__law_top := ok_law_top T A 10
  refine cal_of T.d__law_head sc__law_head (fun vs H Q E h => ?_) (fun f cdv A' outer s H vs Q E hr h => ?_)
  · obtain ⟨S, a, ys, ts, n, r, _, rfl, _⟩ := h
    rfl
  obtain ⟨S, a, ys, ts, n, r, hF, rfl, hS, hd, hl, hn, hok, q⟩ := h
  have G := A.good hF
  have hyl := hd.len
  refine ⟨_, (pss_one (ps_ret (pe_sl (i := 0) A.held hr (by omega) rfl (by first | exact Or.inl rfl | exact Or.inr (Or.inl rfl) | exact Or.inr (Or.inr rfl)) (pa_cons pe_str (pa_cons (pv 2) (pa_cons (pe_c C__law_top hr (by omega) rfl (pa_cons (pv 0) (pa_cons (pe_slice sl_list (pv 1) po_none (po_some (pv 2))) pa_nil))) pa_nil)))))), ?_⟩
  have cT := costT_le n
  have lt : (ts.take n).length = n := by rw [List.length_take]; omega
  refine ⟨S, r + 102, hF, rfl, hok, _, rfl, _, rfl, _, rfl, _, rfl, ((n : Nat) : Int), rfl, a, ys, rfl, hS, fun p np => ?_⟩
  rw [cut_to]
  have u := Ext.new (o := .lst (ys.take n)) np
  refine ⟨S, p, _, ts.take n, r + 1, hF, rfl, SqL.of upd_same, (hd.take _).mono G u.gr, by decide, by rw [lt]; show _ ≤ 512; omega, by omega, G.less (G.keep (Kp.new np) hok) (by rw [lt]; omega), fun vt H2 x2 ok2 dt => ?_⟩
  exact ⟨r, "book", .int (n : Int), topT (ts.take n), _, _, rfl, by decide +kernel, ok2, G.int _ ok2, dt, fun v H3 x3 ok3 d3 => q v H3 ((u.trans x2).trans x3) ok3 d3⟩
end

/-! ### the law's claims of growths -/
theorem dueG (ts : List Tm) (old : Int) (said : Tm) (n m : Nat) (hn : n ≤ ts.length) (hm : m ≤ ts.length) (paper : Option (List Tm)) (h0 : old ≠ 0) :
    judgeG old n said (headT ts m) paper = decide (m = n ∧ 0 < old ∧ old ≤ (n : Int) ∧ paper = some (growT (ts.take n) old.toNat) ∧ said = headT ts old.toNat) := by
  unfold judgeG
  rw [if_neg h0]
  cases paper with
  | none =>
    symm
    exact decide_eq_false fun h => nomatch h.2.2.2.1
  | some ps =>
    show decide _ = decide _
    refine decide_eq_decide.mpr ?_
    have lu : (ts.take n).length = n := by
      rw [List.length_take]
      omega
    constructor
    · rintro ⟨g0, g1, g2, g3, g4⟩
      have e1 : n = m := by
        have := Tm.int.inj (Tm.sl.inj g4).2.1
        omega
      have e2 := (Tm.sl.inj g4).2.2
      rw [← e1] at e2
      have ho : 0 < old.toNat := by omega
      have r := reg_inj (ts.take n) old.toNat ps ho (by omega) (by rw [lu]; exact g2) (by rw [lu]; exact e2)
      refine ⟨e1.symm, g0, g1, by rw [r], ?_⟩
      have rg := reg_grow (us := ts.take n) (old := old.toNat) ho (by omega)
      rw [lu, ← r] at rg
      rw [← g3, rg, List.take_take, Nat.min_eq_left (by omega)]
      unfold headT
      rw [Int.toNat_of_nonneg (by omega)]
    · rintro ⟨rfl, g0, g1, g2, g3⟩
      have ho : 0 < old.toNat := by omega
      have g4 := Option.some.inj g2
      have rg := reg_grow (us := ts.take m) (old := old.toNat) ho (by omega)
      rw [lu, ← g4, List.take_take, Nat.min_eq_left (by omega)] at rg
      refine ⟨g0, g1, ?_, ?_, ?_⟩
      · rw [g4, growT_glen ho (by omega), lu]
      · rw [g3, rg]
        unfold headT
        rw [Int.toNat_of_nonneg (by omega)]
      · rw [rg]
        rfl
theorem kp_same {H H' : Hp} (s : Same H H') : Kp H H' := fun a o h _ => s a o h
theorem mm_nat (x : Int) (c : Nat) : ∃ k : Nat, k ≤ c ∧ (if (if (c : Int) < x then (c : Int) else x) > 0 then (if (c : Int) < x then (c : Int) else x) else 0) = (k : Int) := by
  by_cases h1 : (c : Int) < x
  · rw [if_pos h1]
    by_cases h2 : (c : Int) > 0
    · exact ⟨c, Nat.le_refl _, by rw [if_pos h2]⟩
    · exact ⟨0, Nat.zero_le _, by rw [if_neg h2]; rfl⟩
  · rw [if_neg h1]
    by_cases h2 : x > 0
    · exact ⟨x.toNat, by omega, by rw [if_pos h2]; omega⟩
    · exact ⟨0, Nat.zero_le _, by rw [if_neg h2]; rfl⟩
theorem min_nat (a b : Nat) : ∃ k : Nat, k ≤ a ∧ k ≤ b ∧ (if (b : Int) < (a : Int) then (b : Int) else (a : Int)) = (k : Int) := by
  by_cases h : (b : Int) < (a : Int)
  · exact ⟨b, by omega, Nat.le_refl _, by rw [if_pos h]⟩
  · exact ⟨a, Nat.le_refl _, by omega, by rw [if_neg h]⟩
structure RowL (S : Sys) (H : Hp) (D : Addr) (ys : List V) (ts : List Tm) : Prop where
  at_ : H D = some (.lst ys)
  den : DenL S H ys ts
  ok : ∀ t ∈ ts, WS t ∧ t.dep ≤ 1
theorem RowL.ext {K : PySem.W.Frag} {S : Sys} (G : S.Good K) {H H' : Hp} {D : Addr} {ys : List V} {ts : List Tm} (h : RowL S H D ys ts) (e : Ext H H') : RowL S H' D ys ts := ⟨e.lst h.at_, h.den.mono G e.gr, h.ok⟩
theorem head_bk {ts : List Tm} (hok : ∀ t ∈ ts, WS t ∧ t.dep ≤ 1) (hl : ts.length ≤ 100) (n : Nat) : BkT (headT ts n) :=
  ⟨_, _, rfl, topT_ws fun t ht => (hok t (List.mem_of_mem_take ht)).1, Nat.le_trans (topT_dep (d := 1) 7 _ (by rw [List.length_take]; show _ ≤ 128; omega) fun t ht => (hok t (List.mem_of_mem_take ht)).2) (by decide)⟩
theorem grow_ok {ts : List Tm} (hok : ∀ t ∈ ts, WS t ∧ t.dep ≤ 1) (hl : ts.length ≤ 100) (n old : Nat) : ∀ t ∈ growT (ts.take n) old, WS t ∧ t.dep ≤ 19 :=
  growT_mem fun us hu hlu => by
    have hm : ∀ t ∈ us, t ∈ ts := fun t ht => List.mem_of_mem_take (hu t ht)
    rw [List.length_take] at hlu
    exact ⟨topT_ws fun t ht => (hok t (hm t ht)).1, Nat.le_trans (topT_dep (d := 1) 7 us (by show _ ≤ 128; omega) fun t ht => (hok t (hm t ht)).2) (by decide)⟩
section
variable {P : Program} {w : World} {K : PySem.W.Frag} {mg : Str → Option Value} {base : Heap} {Fam : Sys → Prop} {C CF : Addr}
def spOne (K : PySem.W.Frag) (Fam : Sys → Prop) : Sp := fun vs H Q _ => ∃ (S : Sys) (cell : Int) (D D2 : Addr) (ys zs : List V) (ts us : List Tm) (r : Nat), Fam S ∧ vs = [.ref S.f, .int cell, .ref D, .ref D2] ∧ RowL S H D ys ts ∧ RowL S H D2 zs us ∧ us.length = ts.length ∧ ts.length ≤ 100 ∧ S.ok H (r + 3000) ∧ ∀ H', Ext H H' → S.ok H' r → Q (.bl true) H'
theorem ok_one {cc : Addr} (T : Txt K mg cc) (A : SlA P w K mg base Fam) (I3 : ∀ {S}, Fam S → S.Inj K) (KG : K_Grows K mg C) (KF : K_Follower K mg CF) : Cal P w K mg base 16 "_law_one" (spOne K Fam) [] := by
  have Z := T.Z
  have C__law_draw := ok_draw (P := P) (w := w) (base := base) T
  have C_growth_of := ok_growth_of T A (ok_split T) (ok_top_of T A) 10
  have C__law_growth := ok__law_growth T A (ok_law_split T) (ok_law_top T A) 10
  have C__law_bent := ok_bent T A
  have C__law_head := ok_head T A
  have C_Grows := ok_grinit (P := P) (w := w) (base := base) KG
  have M_judged := ok_judgedG T A I3 KG
  have C_Follower := ok_fwinit T A KF
  have M_take := ok_fwtake T A I3 KF KG
  have M_judge := ok_fwjudge T A I3 KF KG
  obtain ⟨C_Claim, g_Claim⟩ := T.g_Claim
  refine cal_of T.d__law_one sc__law_one (fun vs H Q E h => ?_) (fun f cdv A' outer s H vs Q E' hr h => ?_)
  · obtain ⟨S, cell, D, D2, ys, zs, ts, us, r, _, rfl, _⟩ := h
    rfl
  obtain ⟨S, cell, D, D2, ys, zs, ts, us, r, hF, rfl, hR, hR2, hlu, hl, hok, q⟩ := h
  have G := A.good hF
  have hyl := hR.den.len
  refine ⟨_, (pss_cons (ps_set (i := 4) sc__law_one.nd rfl (Or.inl rfl) (pe_callB call_len_seq rfl Z.len PySem.boot_len (pa_cons (pv 2) pa_nil)))
  (pss_cons (ps_set (i := 5) sc__law_one.nd rfl (Or.inl rfl) (pe_c C__law_draw hr (by omega) rfl (pa_cons (pv 1) (pa_cons pe_int (pa_cons (pe_op op_add (pv 4) pe_int) pa_nil)))))
  (Evl.pss_cut (ps_set (i := 6) sc__law_one.nd rfl (Or.inl rfl) (pe_ifExp (pt_cmpR op_eq (pe_c C__law_draw hr (by omega) rfl (pa_cons (pv 1) (pa_cons pe_int (pa_cons pe_int pa_nil)))) pe_int (nomark _)) (pe_c C__law_draw hr (by omega) rfl (pa_cons (pv 1) (pa_cons pe_int (pa_cons (pe_op op_add (pv 4) pe_int) pa_nil)))) (pv 5)))
  (pss_cons (ps_set (i := 7) sc__law_one.nd rfl (Or.inl rfl) (pe_op op_sub (pe_c C__law_draw hr (by omega) rfl (pa_cons (pv 1) (pa_cons pe_int (pa_cons (pe_op op_add (pv 4) pe_int) pa_nil)))) pe_int))
  (Evl.pss_cut (ps_set (i := 8) sc__law_one.nd rfl (Or.inl rfl) (pe_ifExp (pt_cmpR op_eq (pe_c C__law_draw hr (by omega) rfl (pa_cons (pv 1) (pa_cons pe_int (pa_cons pe_int pa_nil)))) pe_int (nomark _)) (pv 3) (pv 2)))
  (Evl.pss_cut (ps_set (i := 9) sc__law_one.nd rfl (Or.inl rfl) (pe_ifExp (pt_cmpR op_gt (pe_c C__law_draw hr (by omega) rfl (pa_cons (pv 1) (pa_cons pe_int (pa_cons pe_int pa_nil)))) pe_int (nomark _)) (pv 7) (pe_c C__law_draw hr (by omega) rfl (pa_cons (pv 1) (pa_cons pe_int (pa_cons (pe_op op_add (pv 4) pe_int) pa_nil))))))
  (Evl.pss_cut (ps_set (i := 10) sc__law_one.nd rfl (Or.inl rfl) (pe_ifExp (pt_cmpR op_gt (pe_c C__law_draw hr (by omega) rfl (pa_cons (pv 1) (pa_cons pe_int (pa_cons pe_int pa_nil)))) pe_int (nomark _)) (pe_callB (call_max2 rfl) rfl Z.max (by decide +kernel) (pa_cons pe_int (pa_cons (pe_callB (call_min2 rfl) rfl Z.min (by decide +kernel) (pa_cons (pv 7) (pa_cons (pv 5) pa_nil))) pa_nil))) (pe_c C__law_draw hr (by omega) rfl (pa_cons (pv 1) (pa_cons pe_int (pa_cons (pe_op op_add (pv 5) pe_int) pa_nil))))))
  (Evl.pss_cut (ps_set (i := 11) sc__law_one.nd rfl (Or.inl rfl) (pe_ifExp (pt_cmpR op_eq (pe_c C__law_draw hr (by omega) rfl (pa_cons (pv 1) (pa_cons pe_int (pa_cons pe_int pa_nil)))) pe_int (nomark _)) (pv 5) (pv 6)))
  (pss_cons (ps_set (i := 12) sc__law_one.nd rfl (Or.inl rfl) (pe_c C__law_bent hr (by omega) rfl (pa_cons (pv 0) (pa_cons (pe_c C_growth_of hr (by omega) rfl (pa_cons (pv 0) (pa_cons (pe_slice sl_list (pv 2) po_none (po_some (pv 11))) (pa_cons (pe_callB (call_min2 rfl) rfl Z.min (by decide +kernel) (pa_cons (pv 10) (pa_cons (pv 11) pa_nil))) pa_nil)))) (pa_cons (pe_c C__law_draw hr (by omega) rfl (pa_cons (pv 1) (pa_cons pe_int (pa_cons pe_int pa_nil)))) (pa_cons (pe_op op_mod (pv 1) pe_int) pa_nil))))))
  (pss_cons (ps_set (i := 13) sc__law_one.nd rfl (Or.inl rfl) (pe_c C__law_head hr (by omega) rfl (pa_cons (pv 0) (pa_cons (pv 8) (pa_cons (pe_callB (call_max2 rfl) rfl Z.max (by decide +kernel) (pa_cons pe_int (pa_cons (pe_callB (call_min2 rfl) rfl Z.min (by decide +kernel) (pa_cons (pv 9) (pa_cons (pv 4) pa_nil))) pa_nil))) pa_nil)))))
  (pss_cons (ps_set (i := 14) sc__law_one.nd rfl (Or.inl rfl) (pe_c C__law_head hr (by omega) rfl (pa_cons (pv 0) (pa_cons (pv 2) (pa_cons (pv 6) pa_nil)))))
  (pss_cons (ps_set (i := 15) sc__law_one.nd rfl (Or.inl rfl) (pe_mk C_Grows hr (by omega) rfl (pa_cons (pv 7) (pa_cons (pv 13) pa_nil))))
  (pss_cons (ps_set (i := 16) sc__law_one.nd rfl (Or.inl rfl) (pe_mt M_judged hr (by omega) (pv 15) (pa_cons (pv 0) (pa_cons (pv 5) (pa_cons (pv 14) (pa_cons (pv 12) pa_nil))))))
  (pss_cons (ps_set (i := 17) sc__law_one.nd rfl (Or.inl rfl) (pe_mk C_Follower hr (by omega) rfl (pa_cons (pv 0) pa_nil)))
  (Evl.pss_cut (ps_if (pt_cmpR op_gt (pv 5) pe_int (nomark _)) (pss_one (ps_if (PW.pt (pw_or (pt_not (pt_val (pe_mt M_take hr (by omega) (pv 17) (pa_cons (pv 5) (pa_cons (pv 14) (pa_cons (pe_lst pa_nil) pa_nil)))))) (pw_or1 (pt_cmpR op_ne (pe_mt M_judge hr (by omega) (pv 17) (pa_cons (pv 15) (pa_cons (pv 12) pa_nil))) (pv 16) (nomark _))))) (pss_one (ps_ret pe_bl)) pss_nil)) pss_nil)
  (pss_cons (ps_if (pt_not (pt_val (pe_callB call_isi rfl Z.isinstance (by decide +kernel) (pa_cons (pv 15) (pa_cons (pe_glob (v := .ref C_Claim) rfl g_Claim rfl) pa_nil))))) (pss_one (ps_ret pe_bl)) pss_nil)
  (Evl.pss_cut (ps_set (i := 18) sc__law_one.nd rfl (Or.inl rfl) (pe_and (pe_cmpR op_eq (pv 6) (pv 5) (nomark _)) (pe_and (pe_chain op_lt op_le pe_int (pv 7) (pv 5)) (pe_one (pe_callB call_isi rfl Z.isinstance (by decide +kernel) (pa_cons (pv 12) (pa_cons (pe_bltn (v := .ty "list") rfl Z.list (by decide +kernel) rfl) pa_nil)))))))
  (Evl.pss_cut (ps_if (pt_val (pv 18)) (pss_one (ps_set (i := 18) sc__law_one.nd rfl (Or.inl rfl) (pe_and (pe_cmpR (op_eqD hr.units) (pv 13) (pe_c C__law_head hr (by omega) rfl (pa_cons (pv 0) (pa_cons (pv 2) (pa_cons (pv 7) pa_nil)))) (nomark _)) (pe_one (pe_cmpR (op_eqD hr.units) (pv 12) (pe_c C__law_growth hr (by omega) rfl (pa_cons (pv 0) (pa_cons (pe_slice sl_list (pv 2) po_none (po_some (pv 5))) (pa_cons (pv 7) pa_nil)))) (nomark _)))))) pss_nil)
  (Evl.pss_cut (ps_if (pt_cmpR op_eq (pv 7) pe_int (nomark _)) (pss_one (ps_set (i := 18) sc__law_one.nd rfl (Or.inl rfl) (pe_and (pe_cmpR (op_eqD hr.units) (pv 13) (pe_c C__law_head hr (by omega) rfl (pa_cons (pv 0) (pa_cons (pv 2) (pa_cons pe_int pa_nil)))) (nomark _)) (pe_and (pe_cmpR (op_eqD hr.units) (pv 12) (pe_lst pa_nil) (nomark _)) (pe_one (pe_or (pe_cmpR op_gt (pv 5) pe_int (nomark _)) (pe_one (pe_cmpR (op_eqD hr.units) (pv 14) (pv 13) (nomark _))))))))) pss_nil)
  (pss_cons (ps_if (pt_chain op_lt op_le pe_int (pv 7) (pv 5)) (pss_cons (ps_set (i := 19) sc__law_one.nd rfl (Or.inl rfl) (pe_c C__law_growth hr (by omega) rfl (pa_cons (pv 0) (pa_cons (pe_slice sl_list (pv 2) po_none (po_some (pv 5))) (pa_cons (pv 7) pa_nil)))))
  (Evl.pss_cut (ps_set (i := 20) sc__law_one.nd rfl (Or.inl rfl) (pe_and (pe_cmpR op_eq (pv 6) (pv 5) (nomark _)) (pe_one (pe_cmpR (op_eqD hr.units) (pv 13) (pe_c C__law_head hr (by omega) rfl (pa_cons (pv 0) (pa_cons (pv 2) (pa_cons (pv 7) pa_nil)))) (nomark _)))))
  (pss_one (ps_if (PW.pt (pw_or (pt_cmpR op_ne (pe_mt M_judged hr (by omega) (pv 15) (pa_cons (pv 0) (pa_cons (pv 5) (pa_cons (pv 14) (pa_cons (pv 19) pa_nil))))) (pv 20) (nomark _)) (pw_or1 (pt_cmpR op_ne (pe_mt M_judged hr (by omega) (pv 15) (pa_cons (pv 0) (pa_cons (pv 5) (pa_cons (pv 14) (pa_cons (pv 12) pa_nil))))) (pv 18) (nomark _))))) (pss_one (ps_ret pe_bl)) pss_nil)))) pss_nil)
  (pss_one (ps_ret (pe_and (pe_callB call_isi rfl Z.isinstance (by decide +kernel) (pa_cons (pv 16) (pa_cons (pe_bltn (v := .ty "bool") rfl Z.bool (by decide +kernel) rfl) pa_nil))) (pe_one (pe_cmpR op_eq (pv 16) (pv 18) (nomark _)))))))))))))))))))))))))), ?_⟩
  refine ⟨_, rfl, D, ys, rfl, .inl (SqL.of hR.at_), ?_⟩
  refine ⟨_, rfl, _, rfl, _, 1, rfl, rfl, cell, 0, _, rfl, by decide, by decide, by omega, fun z1 H1 z10 z11 s1 => ?_⟩
  obtain ⟨n, rfl⟩ := Int.eq_ofNat_of_zero_le z10
  have hn : n ≤ ts.length := by omega
  have x1 := Ext.of_same s1
  have ok1 := G.keep (kp_same s1) hok
  -- held
  refine ⟨fun σ H' => ∃ m : Nat, σ = [some (.ref S.f), some (.int cell), some (.ref D), some (.ref D2), some (.int (ys.length : Int)), some (.int (n : Int)), some (.int (m : Int)), none, none, none, none, none, none, none, none, none, none, none, none, none, none] ∧ Ext H H' ∧ S.ok H' (r + 3000) ∧ m ≤ ts.length, ?_, ?_⟩
  · refine ⟨_, rfl, cell, 2, 6, rfl, by decide, by decide, by decide, fun z2 H2 _ _ s2 => ?_⟩
    have x2 := x1.trans (Ext.of_same s2)
    have ok2 := G.keep (kp_same s2) ok1
    refine ⟨rfl, _, rfl, ite2 (fun _ => ?_) (fun _ => ⟨_, rfl, n, rfl, x2, ok2, hn⟩)⟩
    refine ⟨_, rfl, _, rfl, _, 1, rfl, rfl, cell, 1, _, rfl, by decide, by decide, by omega, fun z3 H3 z30 z31 s3 => ?_⟩
    obtain ⟨m, rfl⟩ := Int.eq_ofNat_of_zero_le z30
    exact ⟨m, rfl, x2.trans (Ext.of_same s3), G.keep (kp_same s3) ok2, by omega⟩
  rintro σ H2 ⟨m, rfl, x2, ok2, hm⟩
  clear x1 ok1 s1 z10 z11
  -- old
  refine ⟨_, rfl, _, rfl, _, 4, rfl, rfl, cell, 3, _, rfl, by decide, by decide, by omega, fun z3 H3 z30 z31 s3 => ?_⟩
  refine ⟨_, 2, rfl, rfl, ?_⟩
  have x3 := x2.trans (Ext.of_same s3)
  have ok3 := G.keep (kp_same s3) ok2
  obtain ⟨old, hold⟩ : ∃ old, old = z3 - 2 := ⟨_, rfl⟩
  -- rows
  refine ⟨fun σ H' => ∃ (Dr : Addr) (yr : List V) (tr : List Tm), σ = [some (.ref S.f), some (.int cell), some (.ref D), some (.ref D2), some (.int (ys.length : Int)), some (.int (n : Int)), some (.int (m : Int)), some (.int old), some (.ref Dr), none, none, none, none, none, none, none, none, none, none, none, none] ∧ Ext H H' ∧ S.ok H' (r + 3000) ∧ RowL S H Dr yr tr ∧ tr.length = ts.length, ?_, ?_⟩
  · refine ⟨_, rfl, cell, 4, 3, rfl, by decide, by decide, by decide, fun z4 H4 _ _ s4 => ?_⟩
    have x4 := x3.trans (Ext.of_same s4)
    have ok4 := G.keep (kp_same s4) ok3
    refine ⟨rfl, _, rfl, ite2 (fun _ => ⟨_, rfl, D2, zs, us, ?_, x4, ok4, hR2, hlu⟩) (fun _ => ⟨_, rfl, D, ys, ts, ?_, x4, ok4, hR, rfl⟩)⟩
    · rw [hold]
      rfl
    · rw [hold]
      rfl
  rintro σ H4 ⟨Dr, yr, tr, rfl, x4, ok4, hRr, hlr⟩
  clear x3 ok3 s3 z30 z31 hold
  -- before
  refine ⟨fun σ H' => ∃ bf : Int, σ = [some (.ref S.f), some (.int cell), some (.ref D), some (.ref D2), some (.int (ys.length : Int)), some (.int (n : Int)), some (.int (m : Int)), some (.int old), some (.ref Dr), some (.int bf), none, none, none, none, none, none, none, none, none, none, none] ∧ Ext H H' ∧ S.ok H' (r + 3000), ?_, ?_⟩
  · refine ⟨_, rfl, cell, 5, 5, rfl, by decide, by decide, by decide, fun z5 H5 _ _ s5 => ?_⟩
    have x5 := x4.trans (Ext.of_same s5)
    have ok5 := G.keep (kp_same s5) ok4
    refine ⟨_, _, rfl, rfl, _, rfl, ite2 (fun _ => ⟨_, rfl, old, rfl, x5, ok5⟩) (fun _ => ?_)⟩
    exact ⟨_, rfl, _, rfl, _, 1, rfl, rfl, cell, 6, _, rfl, by decide, by decide, by omega, fun z6 H6 _ _ s6 => ⟨z6, rfl, x5.trans (Ext.of_same s6), G.keep (kp_same s6) ok5⟩⟩
  rintro σ H5 ⟨bf, rfl, x5, ok5⟩
  clear x4 ok4
  -- near
  refine ⟨fun σ H' => ∃ near : Nat, σ = [some (.ref S.f), some (.int cell), some (.ref D), some (.ref D2), some (.int (ys.length : Int)), some (.int (n : Int)), some (.int (m : Int)), some (.int old), some (.ref Dr), some (.int bf), some (.int (near : Int)), none, none, none, none, none, none, none, none, none, none] ∧ Ext H H' ∧ S.ok H' (r + 3000), ?_, ?_⟩
  · refine ⟨_, rfl, cell, 7, 4, rfl, by decide, by decide, by decide, fun z6 H6 _ _ s6 => ?_⟩
    have x6 := x5.trans (Ext.of_same s6)
    have ok6 := G.keep (kp_same s6) ok5
    refine ⟨_, _, rfl, rfl, _, rfl, ite2 (fun _ => ?_) (fun _ => ?_)⟩
    · obtain ⟨k, _, hk⟩ := mm_nat old n
      refine ⟨_, rfl, _, rfl, _, _, rfl, _, _, rfl, k, ?_, x6, ok6⟩
      rw [← hk]
      rfl
    · refine ⟨_, rfl, _, rfl, _, 1, rfl, rfl, cell, 8, _, rfl, by decide, by decide, by omega, fun z7 H7 z70 _ s7 => ?_⟩
      obtain ⟨k, rfl⟩ := Int.eq_ofNat_of_zero_le z70
      exact ⟨k, rfl, x6.trans (Ext.of_same s7), G.keep (kp_same s7) ok6⟩
  rintro σ H6 ⟨near, rfl, x6, ok6⟩
  clear x5 ok5
  -- rows of
  refine ⟨fun σ H' => ∃ ro : Nat, σ = [some (.ref S.f), some (.int cell), some (.ref D), some (.ref D2), some (.int (ys.length : Int)), some (.int (n : Int)), some (.int (m : Int)), some (.int old), some (.ref Dr), some (.int bf), some (.int (near : Int)), some (.int (ro : Int)), none, none, none, none, none, none, none, none, none] ∧ Ext H H' ∧ S.ok H' (r + 3000) ∧ ro ≤ ts.length, ?_, ?_⟩
  · refine ⟨_, rfl, cell, 11, 2, rfl, by decide, by decide, by decide, fun z7 H7 _ _ s7 => ?_⟩
    have x7 := x6.trans (Ext.of_same s7)
    have ok7 := G.keep (kp_same s7) ok6
    exact ⟨rfl, _, rfl, ite2 (fun _ => ⟨_, rfl, n, rfl, x7, ok7, hn⟩) (fun _ => ⟨_, rfl, m, rfl, x7, ok7, hm⟩)⟩
  rintro σ H7 ⟨ro, rfl, x7, ok7, hro⟩
  clear x6 ok6
  have hR7 := hR.ext G x7
  have cro := costT_le ro
  have cn := costT_le n
  have ltr : (ts.take ro).length = ro := by rw [List.length_take]; omega
  have ltn : (ts.take n).length = n := by rw [List.length_take]; omega
  -- the paper
  obtain ⟨nr, hnr1, hnr2, hnr⟩ := min_nat near ro
  refine ⟨_, rfl, _, rfl, _, rfl, _, rfl, ((ro : Nat) : Int), rfl, D, ys, rfl, SqL.of hR7.at_, fun p8 np8 => ?_⟩
  rw [cut_to]
  have u8 := Ext.new (o := .lst (ys.take ro)) np8
  refine ⟨_, rfl, _, rfl, _, _, rfl, S, p8, _, ts.take ro, nr, r + 2800, hF, ?_, SqL.of upd_same, (hR7.den.take _).mono G u8.gr, by decide, by rw [ltr]; show _ ≤ 512; omega, by omega, by omega, G.less (G.keep (Kp.new np8) ok7) (by rw [ltr]; omega), fun pa pys H9 x9' npa hpa ok9 hdp => ?_⟩
  · rw [← hnr]
    rfl
  have x9 := (x7.trans u8).trans x9'
  have gl := growT_len 7 (ts.take ro) nr (by rw [ltr]; show ro ≤ 128; omega)
  refine ⟨_, rfl, cell, 9, 14, rfl, by decide, by decide, by decide, fun zb Hb zb0 zb1 sb => ?_⟩
  refine ⟨_, rfl, _, 9, rfl, rfl, by show (0 : Int) < 9; decide, ?_⟩
  refine ⟨S, pa, pys, growT (ts.take ro) nr, zb, cell % 9, r + 2700, hF, rfl, sb _ _ hpa, hdp.mono G (kp_same sb).gr, by omega, grow_ok hR.ok hl ro nr, Int.emod_nonneg _ (by decide), G.less (G.keep (kp_same sb) ok9) (by omega), fun v paper H10 x10' ok10 hpap => ?_⟩
  have x10 := (x9.trans (Ext.of_same sb)).trans x10'
  clear x9 x9' u8 x10' ok9 hdp hpa npa ok7 x7 hR7
  -- said
  obtain ⟨b, hb, hbe⟩ := mm_nat bf ts.length
  have hR10 := hR.ext G x10
  have hRr10 := hRr.ext G x10
  refine ⟨_, rfl, _, rfl, _, rfl, _, rfl, _, _, rfl, _, _, rfl, S, Dr, yr, tr, b, r + 2500, hF, ?_, SqL.of hRr10.at_, hRr10.den, by omega, by omega, G.less ok10 (by omega), fun sv H11 x11' ok11 dsv => ?_⟩
  · rw [← hbe, ← hyl]
    rfl
  have x11 := x10.trans x11'
  have hR11 := hR.ext G x11
  refine ⟨_, rfl, _, rfl, _, rfl, S, D, ys, ts, m, r + 2300, hF, rfl, SqL.of hR11.at_, hR11.den, hl, hm, G.less ok11 (by omega), fun hv H12 x12' ok12 dhv => ?_⟩
  have x12 := x11.trans x12'
  have x1012 := x11'.trans x12'
  have hpap12 := hpap.ext G x1012
  have dsv12 := G.mono x12'.gr dsv
  have bs : BkT (headT tr b) := head_bk hRr.ok (by omega) b
  have bh : BkT (headT ts m) := head_bk hR.ok hl m
  obtain ⟨said, hsaid⟩ : ∃ said, said = headT tr b := ⟨_, rfl⟩
  rw [← hsaid] at dsv12 bs
  clear hpap dsv x1012 x11 x11' x10 ok10 ok11 hR10 hRr10 hR11 x12'
  -- the claim
  refine ⟨_, rfl, _, rfl, fun gp gdx ngp ngdx nex => ?_⟩
  have y1 : Ext H12 (upd (upd H12 gdx (.own gp)) gp (.ins C gdx [])) := (Ext.new ngdx).trans (Ext.new (by rw [upd_ne nex.symm]; exact ngp))
  have ky1 : Kp H12 (upd (upd H12 gdx (.own gp)) gp (.ins C gdx [])) := (Kp.new ngdx).trans (Kp.new (show upd H12 gdx (.own gp) gp = none by rw [upd_ne nex.symm]; exact ngp))
  refine ⟨gp, gdx, old, sv, rfl, upd_same, fun H13 xo kp hg => ⟨rfl, ?_⟩⟩
  have x13' := xo.ext y1 ngp
  have x13 := x12.trans x13'
  have ok13 := G.keep (ky1.trans kp) ok12
  have hpap13 := hpap12.ext G x13'
  have dsv13 := G.mono x13'.gr dsv12
  have dhv13 := G.mono x13'.gr dhv
  clear y1 ky1 xo kp hpap12 dsv12 dhv x13' ok12 x12
  refine ⟨_, rfl, gp, gdx, _, rfl, hg, (grF_no _ _).1, _, rfl, _, rfl, _, rfl, _, rfl, S, gp, gdx, old, sv, said, n, headT ts m, hv, v, paper, r + 2200, hF, rfl, hg, dsv13, bs, by omega, dhv13, bh, hpap13, G.less ok13 (by omega), fun H14 x14' ok14 => ?_⟩
  have x14 := x13.trans x14'
  have hg14 := x14'.ins hg
  have hpap14 := hpap13.ext G x14'
  have dsv14 := G.mono x14'.gr dsv13
  have dhv14 := G.mono x14'.gr dhv13
  clear hpap13 dsv13 dhv13 x14' ok13 x13 hg
  -- a follower
  refine ⟨_, rfl, fun fp fdx nfp nfdx nfx => ?_⟩
  have y2 : Ext H14 (upd (upd H14 fdx (.own fp)) fp (.ins CF fdx [])) := (Ext.new nfdx).trans (Ext.new (by rw [upd_ne nfx.symm]; exact nfp))
  have ky2 : Kp H14 (upd (upd H14 fdx (.own fp)) fp (.ins CF fdx [])) := (Kp.new nfdx).trans (Kp.new (show upd H14 fdx (.own fp) fp = none by rw [upd_ne nfx.symm]; exact nfp))
  refine ⟨S, fp, fdx, r + 2190, hF, rfl, upd_same, G.less (G.keep ky2 ok14) (by omega), fun H15 ev xo15 ok15 hfp15 dev => ⟨rfl, ?_⟩⟩
  refine ⟨fun σ H' => σ = [some (.ref S.f), some (.int cell), some (.ref D), some (.ref D2), some (.int (ys.length : Int)), some (.int (n : Int)), some (.int (m : Int)), some (.int old), some (.ref Dr), some (.int bf), some (.int (near : Int)), some (.int (ro : Int)), some v, some sv, some hv, some (.ref gp), some (.bl (judgeG old n said (headT ts m) paper)), some (.ref fp), none, none, none] ∧ Ext H14 H' ∧ S.ok H' (r + 2000), ?_, ?_⟩
  · refine ⟨_, rfl, _, 0, rfl, rfl, _, rfl, ite2 (fun c => ?_) (fun _ => ⟨rfl, xo15.ext y2 nfp, G.less ok15 (by omega)⟩)⟩
    have c' : (0 : Int) < (n : Int) := of_decide_eq_true c
    have tb : takeB 0 n emptyT (headT ts m) (some []) = true := by
      unfold takeB judgeG
      rw [decide_eq_true (Nat.zero_le n), if_pos (show ((0 : Nat) : Int) = 0 from rfl), decide_eq_true (show emptyT = emptyT ∧ (some [] : Option (List Tm)) = some [] ∧ (0 < n ∨ headT ts m = emptyT) from ⟨rfl, rfl, .inl (by omega)⟩)]
      rfl
    have x15 := xo15.ext y2 nfp
    refine ⟨_, rfl, fp, fdx, _, rfl, hfp15, (fwF_no _ _ _).1, _, rfl, _, rfl, by show 0 ≤ sizeLine; decide, fun q9 nq9 => ?_⟩
    have u9 := Ext.new (o := .lst []) nq9
    refine ⟨S, fp, fdx, 0, ev, emptyT, n, hv, headT ts m, .ref q9, some [], r + 2100, hF, rfl, u9.ins hfp15, G.mono u9.gr dev, empty_bk, by omega, G.mono (x15.trans u9).gr dhv14, bh, ⟨q9, [], rfl, upd_same, DenL.nil, by decide, fun _ h => by cases h⟩, G.less (G.keep (Kp.new nq9) ok15) (by omega), fun H16 xo16 ok16 hfp16 => ?_⟩
    rw [tb] at hfp16 ⊢
    rw [if_pos rfl] at hfp16
    refine ⟨_, rfl, iteF ?_⟩
    have x16 := ((xo15.trans u9.o).trans xo16).ext y2 nfp
    have hg16 := x16.ins hg14
    refine ⟨_, rfl, fp, fdx, _, rfl, hfp16, (fwF_no _ _ _).2.1, _, rfl, _, rfl, S, fp, fdx, gp, gdx, n, hv, headT ts m, old, sv, said, v, paper, r + 2000, hF, rfl, hfp16, G.mono x16.gr dhv14, bh, by omega, hg16, G.mono x16.gr dsv14, bs, hpap14.ext G x16, G.less ok16 (by omega), fun H17 x17 ok17 => ?_⟩
    refine ⟨_, rfl, rfl, _, rfl, ?_⟩
    rw [decide_eq_true rfl]
    exact iteF ⟨rfl, x16.trans x17, ok17⟩
  rintro σ H16 ⟨rfl, x16', ok16⟩
  have x16 := x14.trans x16'
  have hg16 := x16'.ins hg14
  have hpap16 := hpap14.ext G x16'
  have dsv16 := G.mono x16'.gr dsv14
  have dhv16 := G.mono x16'.gr dhv14
  have hR16 := hR.ext G x16
  clear x16' hpap14 dsv14 dhv14 hg14 x14 ok14 y2 ky2 xo15 ok15 hfp15 dev
  refine ⟨_, rfl, .ref gp, .ref C_Claim, _, _, true, rfl, .own C_Claim, .base (.ins hg16 KG.cl KG.ia_ KG.in_ KG.it_ KG.im_), T.q_Grows_Claim _ _ KG.mgC g_Claim, true, rfl, iteF ?_⟩
  -- what is due, at first
  refine ⟨fun σ H' => σ = [some (.ref S.f), some (.int cell), some (.ref D), some (.ref D2), some (.int (ys.length : Int)), some (.int (n : Int)), some (.int (m : Int)), some (.int old), some (.ref Dr), some (.int bf), some (.int (near : Int)), some (.int (ro : Int)), some v, some sv, some hv, some (.ref gp), some (.bl (judgeG old n said (headT ts m) paper)), some (.ref fp), some (.bl (decide (m = n ∧ 0 < old ∧ old ≤ (n : Int) ∧ paper.isSome = true))), none, none] ∧ H16 = H', ?_, ?_⟩
  · have no : ¬ (m = n ∧ 0 < old ∧ old ≤ (n : Int) ∧ paper.isSome = true) → some (V.bl false) = some (V.bl (decide (m = n ∧ 0 < old ∧ old ≤ (n : Int) ∧ paper.isSome = true))) := fun h => by rw [decide_eq_false h]
    have put : ∀ z, z = some (V.bl (decide (m = n ∧ 0 < old ∧ old ≤ (n : Int) ∧ paper.isSome = true))) → [some (V.ref S.f), some (.int cell), some (.ref D), some (.ref D2), some (.int (ys.length : Int)), some (.int (n : Int)), some (.int (m : Int)), some (.int old), some (.ref Dr), some (.int bf), some (.int (near : Int)), some (.int (ro : Int)), some v, some sv, some hv, some (.ref gp), some (.bl (judgeG old n said (headT ts m) paper)), some (.ref fp), z, none, none] = [some (.ref S.f), some (.int cell), some (.ref D), some (.ref D2), some (.int (ys.length : Int)), some (.int (n : Int)), some (.int (m : Int)), some (.int old), some (.ref Dr), some (.int bf), some (.int (near : Int)), some (.int (ro : Int)), some v, some sv, some hv, some (.ref gp), some (.bl (judgeG old n said (headT ts m) paper)), some (.ref fp), some (.bl (decide (m = n ∧ 0 < old ∧ old ≤ (n : Int) ∧ paper.isSome = true))), none, none] := fun z h => by rw [h]
    refine ⟨_, rfl, _, rfl, rfl, _, rfl, ite2 (fun c1 => ?_) (fun c1 => ?_)⟩
    · have c1' : m = n := by
        have := V.int.inj (of_decide_eq_true c1)
        omega
      refine ⟨_, rfl, _, _, rfl, rfl, _, rfl, ite2 (fun c2 => ?_) (fun c2 => ?_)⟩
      · have c2' : (0 : Int) < old := of_decide_eq_true c2
        refine ⟨_, rfl, _, _, rfl, rfl, _, rfl, ite2 (fun c3 => ?_) (fun c3 => ?_)⟩
        · have c3' : old ≤ (n : Int) := of_decide_eq_true c3
          cases paper with
          | none =>
            obtain ⟨ty, hty, hk⟩ := (hpap16 H16 (Ext.refl _)).ty
            exact ⟨_, rfl, v, .ty "list", _, _, false, rfl, .ty "list", hty, hk, put _ (no fun h => nomatch h.2.2.2), rfl⟩
          | some ps9 =>
            obtain ⟨a9, ys9, rfl, ha9, hd9, hl9, hp9⟩ := hpap16
            refine ⟨_, rfl, .ref a9, .ty "list", _, _, true, rfl, .ty "list", .base (.lst ha9), kit_ty (by decide +kernel), put _ ?_, rfl⟩
            rw [decide_eq_true (show m = n ∧ 0 < old ∧ old ≤ (n : Int) ∧ (some ps9).isSome = true from ⟨c1', c2', c3', rfl⟩)]
        · exact ⟨put _ (no fun h => of_decide_eq_false (Bool.eq_false_iff.mpr c3) h.2.2.1), rfl⟩
      · exact ⟨_, rfl, iteF ⟨put _ (no fun h => of_decide_eq_false (Bool.eq_false_iff.mpr c2) h.2.1), rfl⟩⟩
    · exact ⟨put _ (no fun h => c1 (decide_eq_true (by rw [h.1]))), rfl⟩
  rintro σ H' ⟨rfl, rfl⟩
  -- of heads and growths
  have growc : ∀ (H' : Hp) (a9 : Addr) (ys9 : List V) (ps9 : List Tm) (b9 : Addr) (zs9 : List V) (o : Nat), S.ok H' r → H' a9 = some (.lst ys9) → DenL S H' ys9 ps9 → (∀ t ∈ ps9, WS t ∧ t.dep ≤ 20) → H' b9 = some (.lst zs9) → DenL S H' zs9 (growT (ts.take n) o) → ∃ d d', Dp K H' (.ref a9) d ∧ Dp K H' (.ref b9) d' ∧ SeqAt.shaped d = true ∧ SeqAt.shaped d' = true ∧ PyData.eqv d d' = decide (ps9 = growT (ts.take n) o) := fun H' a9 ys9 ps9 b9 zs9 o ok ha hd9 hp hb hz => by
    have go := grow_ok hR.ok hl n o
    obtain ⟨ds, es', b1, b2, b3, b4, b5, b6, b7⟩ := DenL.apart (n := 20) (I3 hF) ok hd9 hz (fun t ht u hu => (hp t ht).1.cmp (go u hu).1) (fun t ht => (hp t ht).2) (fun t ht => Nat.le_trans (go t ht).2 (by decide)) (fun t ht => (hp t ht).1.cmp (hp t ht).1) (fun t ht => (go t ht).1.cmp (go t ht).1)
    exact ⟨.list ds, .list es', .lst (SqL.of ha) b1, .lst (SqL.of hb) b2, shaped_of b3 (by show PyData.depthAll ds + 1 ≤ 64; omega), shaped_of b4 (by show PyData.depthAll es' + 1 ≤ 64; omega), by rw [PyData.eqv]; exact b7⟩
  have put : ∀ z z', z = z' → [some (V.ref S.f), some (.int cell), some (.ref D), some (.ref D2), some (.int (ys.length : Int)), some (.int (n : Int)), some (.int (m : Int)), some (.int old), some (.ref Dr), some (.int bf), some (.int (near : Int)), some (.int (ro : Int)), some v, some sv, some hv, some (.ref gp), some (.bl (judgeG old n said (headT ts m) paper)), some (.ref fp), some (.bl z), none, none] = [some (.ref S.f), some (.int cell), some (.ref D), some (.ref D2), some (.int (ys.length : Int)), some (.int (n : Int)), some (.int (m : Int)), some (.int old), some (.ref Dr), some (.int bf), some (.int (near : Int)), some (.int (ro : Int)), some v, some sv, some hv, some (.ref gp), some (.bl (judgeG old n said (headT ts m) paper)), some (.ref fp), some (.bl z'), none, none] := fun z z' h => by rw [h]
  refine ⟨fun σ H' => σ = [some (.ref S.f), some (.int cell), some (.ref D), some (.ref D2), some (.int (ys.length : Int)), some (.int (n : Int)), some (.int (m : Int)), some (.int old), some (.ref Dr), some (.int bf), some (.int (near : Int)), some (.int (ro : Int)), some v, some sv, some hv, some (.ref gp), some (.bl (judgeG old n said (headT ts m) paper)), some (.ref fp), some (.bl (decide (m = n ∧ 0 < old ∧ old ≤ (n : Int) ∧ paper = some (growT (ts.take n) old.toNat) ∧ said = headT ts old.toNat))), none, none] ∧ Ext H16 H' ∧ S.ok H' (r + 1300), ?_, ?_⟩
  · refine ⟨_, rfl, _, rfl, ite2 (fun c => ?_) (fun c => ?_)⟩
    · obtain ⟨g1, g2, g3, g4⟩ := of_decide_eq_true c
      cases paper with
      | none => exact nomatch g4
      | some ps9 =>
        obtain ⟨a9, ys9, rfl, ha9, hd9, hl9, hp9⟩ := hpap16
        obtain ⟨o, rfl⟩ := Int.eq_ofNat_of_zero_le (show 0 ≤ old by omega)
        rw [Int.toNat_natCast]
        refine ⟨_, rfl, _, rfl, _, rfl, _, rfl, S, D, ys, ts, o, r + 1500, hF, rfl, SqL.of hR16.at_, hR16.den, hl, by omega, G.less ok16 (by omega), fun v2 H17 x17 ok17 d2 => ?_⟩
        obtain ⟨d, d', f1, f2, f3, f4, f5⟩ := bk_apart (I3 hF) ok17 (G.mono x17.gr dsv16) d2 bs (head_bk hR.ok hl o)
        refine ⟨d, d', f1, f2, f3, f4, _, rfl, ?_⟩
        rw [f5]
        refine ite2 (fun b1 => ?_) (fun b1 => ?_)
        · have b1' : said = headT ts o := of_decide_eq_true b1
          have hR17 := hR16.ext G x17
          refine ⟨_, rfl, _, rfl, _, rfl, _, rfl, ((n : Nat) : Int), rfl, D, ys, rfl, SqL.of hR17.at_, fun p18 np18 => ?_⟩
          rw [cut_to]
          have u18 := Ext.new (o := .lst (ys.take n)) np18
          refine ⟨_, rfl, S, p18, _, ts.take n, o, r + 1300, hF, rfl, SqL.of upd_same, (hR17.den.take _).mono G u18.gr, by decide, by rw [ltn]; show _ ≤ 512; omega, by omega, by omega, G.less (G.keep (Kp.new np18) ok17) (by rw [ltn]; omega), fun pb pbs H18 x18' npb hpb ok18 hdb => ?_⟩
          have x18 := (x17.trans u18).trans x18'
          obtain ⟨d, d', b1, b2, b3, b4, b5⟩ := growc H18 a9 ys9 ps9 pb pbs o (G.less ok18 (by omega)) (x18.lst ha9) (hd9.mono G x18.gr) hp9 hpb hdb
          refine ⟨d, d', b1, b2, b3, b4, ?_⟩
          rw [b5]
          exact ⟨put _ _ (decide_eq_decide.mpr ⟨fun h => ⟨g1, g2, g3, by rw [h], b1'⟩, fun h => Option.some.inj h.2.2.2.1⟩), x18, ok18⟩
        · have b1' : ¬ said = headT ts o := of_decide_eq_false (Bool.eq_false_iff.mpr b1)
          exact ⟨put _ _ (decide_eq_false fun h => b1' h.2.2.2.2).symm, x17, G.less ok17 (by omega)⟩
    · have nd : ¬ (m = n ∧ 0 < old ∧ old ≤ (n : Int) ∧ paper.isSome = true) := of_decide_eq_false (Bool.eq_false_iff.mpr c)
      refine ⟨put _ _ ?_, Ext.refl _, G.less ok16 (by omega)⟩
      rw [decide_eq_false nd]
      exact (decide_eq_false fun h => nd ⟨h.1, h.2.1, h.2.2.1, by rw [h.2.2.2.1]; rfl⟩).symm
  rintro σ H17 ⟨rfl, x17, ok17⟩
  have e0 : headT ts 0 = emptyT := by
    unfold headT
    rw [List.take_zero, topT_nil]
    rfl
  refine ⟨fun σ H' => σ = [some (.ref S.f), some (.int cell), some (.ref D), some (.ref D2), some (.int (ys.length : Int)), some (.int (n : Int)), some (.int (m : Int)), some (.int old), some (.ref Dr), some (.int bf), some (.int (near : Int)), some (.int (ro : Int)), some v, some sv, some hv, some (.ref gp), some (.bl (judgeG old n said (headT ts m) paper)), some (.ref fp), some (.bl (judgeG old n said (headT ts m) paper)), none, none] ∧ Ext H16 H' ∧ S.ok H' (r + 1000), ?_, ?_⟩
  · refine ⟨_, rfl, rfl, _, rfl, ite2 (fun c => ?_) (fun c => ?_)⟩
    · have c' : old = 0 := V.int.inj (of_decide_eq_true c)
      have ej : judgeG old n said (headT ts m) paper = decide (said = emptyT ∧ paper = some [] ∧ (0 < n ∨ headT ts m = emptyT)) := by
        unfold judgeG
        rw [if_pos c']
      rw [ej] at put ⊢
      have hR17 := hR16.ext G x17
      refine ⟨_, rfl, _, rfl, _, rfl, S, D, ys, ts, 0, r + 1100, hF, rfl, SqL.of hR17.at_, hR17.den, hl, by omega, G.less ok17 (by omega), fun v2 H18 x18' ok18 d2 => ?_⟩
      have x18 := x17.trans x18'
      rw [e0] at d2
      obtain ⟨d, d', f1, f2, f3, f4, f5⟩ := bk_apart (I3 hF) ok18 (G.mono x18.gr dsv16) d2 bs empty_bk
      refine ⟨d, d', f1, f2, f3, f4, _, rfl, ?_⟩
      rw [f5]
      refine ite2 (fun b1 => ?_) (fun b1 => ?_)
      · have b1' : said = emptyT := of_decide_eq_true b1
        refine ⟨_, rfl, by show 0 ≤ sizeLine; decide, fun q3 nq3 => ?_⟩
        have u3 := Ext.new (o := .lst []) nq3
        have x3 := x18.trans u3
        have ok3 := G.keep (Kp.new (o := .lst []) nq3) ok18
        have hq3 : upd H18 q3 (.lst []) q3 = some (.lst []) := upd_same
        generalize upd H18 q3 (.lst []) = H3 at u3 x3 ok3 hq3 ⊢
        have hpp : ∃ d e, Dp K H3 v d ∧ Dp K H3 (.ref q3) e ∧ SeqAt.shaped d = true ∧ SeqAt.shaped e = true ∧ PyData.eqv d e = decide (paper = some []) := by
          cases paper with
          | none =>
            obtain ⟨d, h1, h2, h3⟩ := (hpap16 H3 x3).ne
            exact ⟨d, .list [], h1, .lst (SqL.of hq3) .nil, h2, by decide +kernel, by rw [h3]; rfl⟩
          | some ps =>
            obtain ⟨a, ys2, rfl, ha, hd, hl2, hps⟩ := hpap16
            obtain ⟨d, e, b1, b2, b3, b4, b5⟩ := (hd.mono G x3.gr).odd (K := K) G (a := a) (p := q3) (SqL.of (x3.lst ha)) (SqL.of hq3) fun t ht => Nat.le_trans (hps t ht).2 (by decide)
            refine ⟨d, e, b1, b2, b3, b4, ?_⟩
            rw [b5]
            exact decide_eq_decide.mpr ⟨fun h => by rw [List.eq_nil_of_length_eq_zero h], fun h => by rw [Option.some.inj h]; rfl⟩
        obtain ⟨d3, e3, g1, g2, g3, g4, g5⟩ := hpp
        refine ⟨d3, e3, g1, g2, g3, g4, _, rfl, ?_⟩
        rw [g5]
        refine ite2 (fun b2 => ?_) (fun b2 => ?_)
        · have b2' : paper = some [] := of_decide_eq_true b2
          refine ⟨_, rfl, _, 0, rfl, rfl, _, rfl, ite2 (fun b3 => ?_) (fun b3 => ?_)⟩
          · have b3' : (0 : Int) < (n : Int) := of_decide_eq_true b3
            exact ⟨put _ _ (decide_eq_true (show said = emptyT ∧ paper = some [] ∧ (0 < n ∨ headT ts m = emptyT) from ⟨b1', b2', .inl (by omega)⟩)).symm, x3, G.less ok3 (by omega)⟩
          · have b3' : ¬ (0 : Int) < (n : Int) := of_decide_eq_false (Bool.eq_false_iff.mpr b3)
            obtain ⟨d4, e4, h1, h2, h3, h4, h5⟩ := bk_apart (I3 hF) ok3 (G.mono x3.gr dhv16) (G.mono x3.gr dsv16) bh bs
            refine ⟨_, rfl, _, rfl, d4, e4, h1, h2, h3, h4, ?_⟩
            rw [h5]
            exact ⟨put _ _ (decide_eq_decide.mpr ⟨fun h => ⟨b1', b2', .inr (by rw [h, b1'])⟩, fun h => by rw [h.2.2.resolve_left (by omega), b1']⟩), x3, G.less ok3 (by omega)⟩
        · have b2' : ¬ paper = some [] := of_decide_eq_false (Bool.eq_false_iff.mpr b2)
          exact ⟨put _ _ (decide_eq_false fun h => b2' h.2.1).symm, x3, G.less ok3 (by omega)⟩
      · have b1' : ¬ said = emptyT := of_decide_eq_false (Bool.eq_false_iff.mpr b1)
        exact ⟨put _ _ (decide_eq_false fun h => b1' h.1).symm, x18, G.less ok18 (by omega)⟩
    · have c' : ¬ old = 0 := fun z => c (decide_eq_true (by rw [z]))
      exact ⟨put _ _ (dueG ts old said n m hn hm paper c').symm, x17, G.less ok17 (by omega)⟩
  clear x17 ok17
  clear H17
  rintro σ H17 ⟨rfl, x17, ok17⟩
  have fin : ∀ H', Ext H17 H' → S.ok H' r → Q (.bl true) H' := fun H' e ok => q H' ((x16.trans x17).trans e) ok
  have okr := G.less ok17 (show r ≤ r + 1000 by omega)
  refine ⟨_, rfl, _, _, rfl, rfl, _, rfl, ite2 (fun c2 => ?_) (fun _ => ⟨_, rfl, iteF ?_⟩)⟩
  case refine_2 =>
    refine ⟨_, rfl, .bl _, .ty "bool", _, _, true, rfl, .ty "bool", .base (.bl _), kit_ty (by decide +kernel), _, rfl, iteT ⟨_, rfl, _, rfl, rfl, ?_⟩⟩
    rw [decide_eq_true rfl]
    exact fin _ (Ext.refl _) okr
  have c2' : (0 : Int) < old := of_decide_eq_true c2
  refine ⟨_, rfl, _, _, rfl, rfl, _, rfl, ite2 (fun c3 => ?_) (fun _ => ?_)⟩
  case refine_2 =>
    refine ⟨_, rfl, .bl _, .ty "bool", _, _, true, rfl, .ty "bool", .base (.bl _), kit_ty (by decide +kernel), _, rfl, iteT ⟨_, rfl, _, rfl, rfl, ?_⟩⟩
    rw [decide_eq_true rfl]
    exact fin _ (Ext.refl _) okr
  have c3' : old ≤ (n : Int) := of_decide_eq_true c3
  obtain ⟨o, rfl⟩ := Int.eq_ofNat_of_zero_le (show 0 ≤ old by omega)
  have hR17 := hR16.ext G x17
  refine ⟨_, rfl, _, rfl, _, rfl, ((n : Nat) : Int), rfl, D, ys, rfl, SqL.of hR17.at_, fun p18 np18 => ?_⟩
  rw [cut_to]
  have u18 := Ext.new (o := .lst (ys.take n)) np18
  refine ⟨_, rfl, S, p18, _, ts.take n, o, r + 800, hF, rfl, SqL.of upd_same, (hR17.den.take _).mono G u18.gr, by decide, by rw [ltn]; show _ ≤ 512; omega, by omega, by omega, G.less (G.keep (Kp.new np18) ok17) (by rw [ltn]; omega), fun pr prs H18 x18' npr hpr ok18 hdr => ?_⟩
  have x18 := u18.trans x18'
  refine ⟨fun σ H' => σ = [some (.ref S.f), some (.int cell), some (.ref D), some (.ref D2), some (.int (ys.length : Int)), some (.int (n : Int)), some (.int (m : Int)), some (.int (o : Int)), some (.ref Dr), some (.int bf), some (.int (near : Int)), some (.int (ro : Int)), some v, some sv, some hv, some (.ref gp), some (.bl (judgeG (o : Int) n said (headT ts m) paper)), some (.ref fp), some (.bl (judgeG (o : Int) n said (headT ts m) paper)), some (.ref pr), some (.bl (decide (m = n ∧ said = headT ts o)))] ∧ Ext H18 H' ∧ S.ok H' (r + 600), ?_, ?_⟩
  · have putg : ∀ z z', z = z' → [some (V.ref S.f), some (.int cell), some (.ref D), some (.ref D2), some (.int (ys.length : Int)), some (.int (n : Int)), some (.int (m : Int)), some (.int (o : Int)), some (.ref Dr), some (.int bf), some (.int (near : Int)), some (.int (ro : Int)), some v, some sv, some hv, some (.ref gp), some (.bl (judgeG (o : Int) n said (headT ts m) paper)), some (.ref fp), some (.bl (judgeG (o : Int) n said (headT ts m) paper)), some (.ref pr), some (.bl z)] = [some (.ref S.f), some (.int cell), some (.ref D), some (.ref D2), some (.int (ys.length : Int)), some (.int (n : Int)), some (.int (m : Int)), some (.int (o : Int)), some (.ref Dr), some (.int bf), some (.int (near : Int)), some (.int (ro : Int)), some v, some sv, some hv, some (.ref gp), some (.bl (judgeG (o : Int) n said (headT ts m) paper)), some (.ref fp), some (.bl (judgeG (o : Int) n said (headT ts m) paper)), some (.ref pr), some (.bl z')] := fun z z' h => by rw [h]
    refine ⟨_, rfl, _, rfl, rfl, _, rfl, ite2 (fun c1 => ?_) (fun c1 => ?_)⟩
    · have c1' : m = n := by
        have := V.int.inj (of_decide_eq_true c1)
        omega
      have hR18 := hR17.ext G x18
      refine ⟨_, rfl, _, rfl, _, rfl, _, rfl, S, D, ys, ts, o, r + 600, hF, rfl, SqL.of hR18.at_, hR18.den, hl, by omega, G.less ok18 (by omega), fun v2 H19 x19 ok19 d2 => ?_⟩
      obtain ⟨d, d', f1, f2, f3, f4, f5⟩ := bk_apart (I3 hF) ok19 (G.mono ((x17.trans x18).trans x19).gr dsv16) d2 bs (head_bk hR.ok hl o)
      refine ⟨d, d', f1, f2, f3, f4, ?_⟩
      rw [f5]
      exact ⟨putg _ _ (decide_eq_decide.mpr ⟨fun h => ⟨c1', h⟩, fun h => h.2⟩), x19, ok19⟩
    · exact ⟨putg _ _ (decide_eq_false fun h => c1 (decide_eq_true (by rw [h.1]))).symm, Ext.refl _, G.less ok18 (by omega)⟩
  rintro σ H19 ⟨rfl, x19, ok19⟩
  have xA := (x17.trans x18).trans x19
  have hg19 := xA.ins hg16
  have go := grow_ok hR.ok hl n o
  have gl2 := growT_len 7 (ts.take n) o (by rw [ltn]; show n ≤ 128; omega)
  refine ⟨_, rfl, gp, gdx, _, rfl, hg19, (grF_no _ _).1, _, rfl, _, rfl, _, rfl, _, rfl, S, gp, gdx, (o : Int), sv, said, n, headT ts m, hv, .ref pr, some (growT (ts.take n) o), r + 500, hF, rfl, hg19, G.mono xA.gr dsv16, bs, by omega, G.mono xA.gr dhv16, bh, ⟨pr, prs, rfl, x19.lst hpr, hdr.mono G x19.gr, by omega, fun t ht => ⟨(go t ht).1, Nat.le_trans (go t ht).2 (by decide)⟩⟩, G.less ok19 (by omega), fun H20 x20 ok20 => ?_⟩
  have eqg : judgeG (o : Int) n said (headT ts m) (some (growT (ts.take n) o)) = decide (m = n ∧ said = headT ts o) := by
    rw [dueG ts (o : Int) said n m hn hm _ (by omega)]
    rw [Int.toNat_natCast]
    exact decide_eq_decide.mpr ⟨fun h => ⟨h.1, h.2.2.2.2⟩, fun h => ⟨h.1, c2', c3', rfl, h.2⟩⟩
  rw [eqg]
  refine ⟨_, rfl, rfl, _, rfl, ?_⟩
  rw [decide_eq_true rfl]
  refine iteF ?_
  have xB := xA.trans x20
  refine ⟨_, rfl, gp, gdx, _, rfl, x20.ins hg19, (grF_no _ _).1, _, rfl, _, rfl, _, rfl, _, rfl, S, gp, gdx, (o : Int), sv, said, n, headT ts m, hv, v, paper, r + 400, hF, rfl, x20.ins hg19, G.mono xB.gr dsv16, bs, by omega, G.mono xB.gr dhv16, bh, hpap16.ext G xB, G.less ok20 (by omega), fun H21 x21 ok21 => ?_⟩
  refine ⟨_, rfl, rfl, _, rfl, ?_⟩
  rw [decide_eq_true rfl]
  refine iteF ?_
  refine ⟨_, rfl, .bl _, .ty "bool", _, _, true, rfl, .ty "bool", .base (.bl _), kit_ty (by decide +kernel), _, rfl, iteT ⟨_, rfl, _, rfl, rfl, ?_⟩⟩
  rw [decide_eq_true rfl]
  exact fin _ (((x18.trans x19).trans x20).trans x21) (G.less ok21 (by omega))
end

section
variable {P : Program} {w : World} {K : PySem.W.Frag} {mg : Str → Option Value}
theorem ok_law {fa cc PT : Addr} (T : Txt K mg cc) (hfa : mg "law" = some (.ref fa)) : ∃ fd : FuncData, (∀ (s : Shared) (v : Value), BindsTo s fd ⟨[v], []⟩ [("_law_script", v)]) ∧ ∀ base : Heap, K.In base → base.Ns mainGlobals mg → LamX.TabB base mg cc PT → FnOk P w K mg base L2.CX0 20 fa fd ["_law_script"] (spLaw K PT) := by
  have Z := T.Z
  obtain ⟨CG, KG⟩ := T.k_Grows
  obtain ⟨CF, KF⟩ := T.k_Follower
  refine law_fnT T.d_law hfa sc_law (fun vs H Q E h => ?_) (fun base TB f cdv A' outer s H vs Q E hr h => ?_)
  · obtain ⟨a, ns, rfl, _⟩ := h
    rfl
  obtain ⟨a, ns, rfl, hS, hlen, hPT, q⟩ := h
  have A := sla3 (P := P) (w := w) (base := base) T
  have C__law_seal_by := ok_seal_by (P := P) (w := w) T TB
  have C__law_cell_at := ok_cell_at (P := P) (w := w) (base := base) T
  have C__law_word := ok_word (P := P) (w := w) (base := base) T
  have C__law_draw := ok_draw (P := P) (w := w) (base := base) T
  have C__law_one := ok_one T A (fun {S} h => inj3 h) KG KF
  refine ⟨_, (pss_cons (ps_set (i := 0) sc_law.nd rfl (Or.inl rfl) (pe_slice sl_list (pv 0) po_none (po_some pe_int)))
  (pss_cons (ps_set (i := 1) sc_law.nd rfl (Or.inr rfl) (pe_c C__law_seal_by hr (by omega) rfl (pa_cons (pv 0) pa_nil)))
  (pss_cons (ps_set (i := 2) sc_law.nd rfl (Or.inl rfl) (pe_op op_add pe_int (pe_op op_mod (pe_c C__law_cell_at hr (by omega) rfl (pa_cons (pv 0) (pa_cons pe_int pa_nil))) pe_int)))
  (Evl.pss_cut (ps_if (pt_cmpR op_eq (pe_op op_mod (pe_op op_fdiv (pe_c C__law_cell_at hr (by omega) rfl (pa_cons (pv 0) (pa_cons pe_int pa_nil))) pe_int) pe_int) pe_int (nomark _)) (pss_one (ps_set (i := 2) sc_law.nd rfl (Or.inl rfl) (pe_op op_add (pv 2) pe_int))) pss_nil)
  (pss_cons (ps_set (i := 3) sc_law.nd rfl (Or.inr rfl) (pe_c C__law_cell_at hr (by omega) rfl (pa_cons (pv 0) (pa_cons pe_int pa_nil))))
  (pss_cons (ps_setLc (i := 4) (own := [("_law_k", 8)]) (g := gName 8) (tt := tYes) rfl sc_law.nd rfl rfl (sw_true rfl rfl rfl (by decide +kernel)) (pi_range1 rfl Z.range (pa_cons (pv 2) pa_nil)) (blkOk_by (N := N_law) (sc := defScope s_law) (by decide +kernel)) (fun _ _ _ _ _ => (pg_name (i := 8) sc_law.nd rfl (Or.inl rfl))) (fun _ _ _ _ _ => pts_nil) (fun _ _ _ _ _ => (pe_sl (i := 1) A.held hr (by omega) rfl (by first | exact Or.inl rfl | exact Or.inr (Or.inl rfl) | exact Or.inr (Or.inr rfl)) (pa_cons pe_str (pa_cons (pe_c C__law_word hr (by omega) rfl (pa_cons (pe_op op_add (pv 3) (pe_op op_mul pe_int (pe_op op_fdiv (pv 8) pe_int))) pa_nil)) (pa_cons pe_int pa_nil))))))
  (pss_cons (ps_set (i := 5) sc_law.nd rfl (Or.inl rfl) (pe_c C__law_draw hr (by omega) rfl (pa_cons (pv 3) (pa_cons pe_int (pa_cons (pv 2) pa_nil)))))
  (pss_cons (ps_set (i := 6) sc_law.nd rfl (Or.inl rfl) (pe_op op_cat (pe_slice sl_list (pv 4) po_none (po_some (pv 5))) (pe_lc (own := [("_law_k", 8)]) (g := gName 8) (tt := tYes) rfl sc_law.nd (pi_range2 rfl Z.range (pa_cons (pv 5) (pa_cons (pv 2) pa_nil))) (blkOk_by (N := N_law) (sc := defScope s_law) (by decide +kernel)) (fun _ _ _ _ _ => (pg_name (i := 8) sc_law.nd rfl (Or.inl rfl))) (fun _ _ _ _ _ => pts_nil) (fun _ _ _ _ _ => (pe_sl (i := 1) A.held hr (by omega) rfl (by first | exact Or.inl rfl | exact Or.inr (Or.inl rfl) | exact Or.inr (Or.inr rfl)) (pa_cons pe_str (pa_cons (pe_op op_add_str (pe_c C__law_word hr (by omega) rfl (pa_cons (pe_op op_add (pe_op op_add (pv 3) pe_int) (pe_op op_mul pe_int (pv 8))) pa_nil)) pe_str) (pa_cons pe_int pa_nil))))))))
  (pss_cons (ps_for PassesOwn.never rfl (pi_range1 rfl Z.range (pa_cons (pe_ifExp (pt_cmpR op_gt (pv 2) pe_int (nomark _)) (pe_callB (call_min2 rfl) rfl Z.min (by decide +kernel) (pa_cons (pe_callB call_len_seq rfl Z.len PySem.boot_len (pa_cons (pv 0) pa_nil)) (pa_cons pe_int pa_nil))) (pe_callB call_len_seq rfl Z.len PySem.boot_len (pa_cons (pv 0) pa_nil))) pa_nil)) (pg_name (i := 7) sc_law.nd rfl (Or.inl rfl)) (pss_one (ps_if (pt_not (pt_val (pe_c C__law_one hr (by omega) rfl (pa_cons (pv 1) (pa_cons (pe_op op_add (pe_ix ix_list (pv 0) (pv 7) (fun _ _ => rfl)) (pe_op op_mul pe_int (pv 7))) (pa_cons (pv 4) (pa_cons (pv 6) pa_nil))))))) (pss_one (ps_ret pe_bl)) pss_nil)))
  (pss_one (ps_ret pe_bl))))))))))), ?_⟩
  refine ⟨.ref a, rfl, 63, rfl, a, _, rfl, hS, fun c nc => ?_⟩
  rw [take63 hlen]
  refine ⟨_, rfl, c, ns, rfl, SqL.of upd_same, by rw [upd_ne (ne_of_none hPT nc)]; exact hPT, fun S H1 hF x1 ok1 => ?_⟩
  have G := A.good hF
  have hc1 : H1 c = some (.lst (ns.map V.int)) := x1 _ _ upd_same fun _ z => nomatch z
  have e16 : sizeLine = 16777216 := sizeLine_eq
  have ok1' := G.less ok1 (show 16000000 ≤ sizeLine by omega)
  -- how many
  refine ⟨_, rfl, c, ns, 0, rfl, SqL.of hc1, by decide, _, 12, rfl, rfl, by show (0 : Int) < 12; decide, _, _, rfl, rfl, ?_⟩
  obtain ⟨n0, hn0⟩ := Int.eq_ofNat_of_zero_le (Int.emod_nonneg (cell ns 0) (show (12 : Int) ≠ 0 by decide))
  have hn12 := Int.emod_lt_of_pos (cell ns 0) (show (0 : Int) < 12 by decide)
  refine ⟨fun σ H' => ∃ N : Nat, σ = [some (.ref c), some (.ref S.f), some (.int (N : Int)), none, none, none, none, none, none] ∧ 0 < N ∧ N ≤ 80 ∧ H1 = H', ?_, ?_⟩
  · refine ⟨_, rfl, c, ns, 0, rfl, SqL.of hc1, by decide, _, 12, rfl, rfl, ⟨by decide, by decide⟩, _, 5, rfl, rfl, by show (0 : Int) < 5; decide, rfl, _, rfl, ite2 (fun _ => ?_) (fun _ => ?_)⟩
    · refine ⟨_, rfl, _, _, rfl, rfl, n0 + 61, ?_, by omega, by omega, rfl⟩
      rw [show ((n0 + 61 : Nat) : Int) = 1 + cell ns 0 % 12 + 60 by omega]
      rfl
    · refine ⟨n0 + 1, ?_, by omega, by omega, rfl⟩
      rw [show ((n0 + 1 : Nat) : Int) = 1 + cell ns 0 % 12 by omega]
      rfl
  rintro σ H' ⟨N, rfl, hN0, hN, rfl⟩
  refine ⟨_, rfl, c, ns, 1, rfl, SqL.of hc1, by decide, ?_⟩
  -- the leaves
  refine ⟨_, rfl, (N : Int), rfl, by omega, by omega, fun D nD => ?_⟩
  rw [Int.toNat_natCast]
  refine lc_range (fun i H' => ∃ ys ts, ts.length = i ∧ Ext H1 H' ∧ RowL S H' D ys ts ∧ S.ok H' (16000000 - i)) ⟨[], [], rfl, Ext.new nD, ⟨upd_same, DenL.nil, fun _ h => by cases h⟩, G.keep (Kp.new nD) ok1'⟩ ?_ ?_
  · rintro i H' hi ⟨ys, ts, rfl, x, hR, ok⟩
    refine ⟨rfl, S, _, hF, rfl, ok, _, rfl, _, rfl, _, 2, rfl, rfl, ⟨by decide, by decide⟩, _, _, rfl, rfl, .inl ⟨by decide, by decide⟩, _, _, rfl, rfl, _, rfl, fun w0 H2 w1 w2 s2 => ?_⟩
    have ok2 := G.keep (kp_same s2) ok
    have hR2 := hR.ext G (Ext.of_same s2)
    refine ⟨15999999 - ts.length, "leaf", .str w0, .int 0, _, _, rfl, by decide +kernel, G.less ok2 (by omega), G.str _ ok2 w1, G.int _ ok2, fun v H3 x3 ok3 d3 => ?_⟩
    have hR3 := hR2.ext G x3
    have hyl := hR3.den.len
    have k4 := Kp.lst (o := .lst (ys ++ [v])) hR3.at_
    refine ⟨ys, hR3.at_, by rw [hyl, e16]; omega, ys ++ [v], ts ++ [.sl "leaf" (.str w0) (.int 0)], by simp, ((x.trans (Ext.of_same s2)).trans x3).mut nD, ⟨upd_same, (hR3.den.mono G k4.gr).append (DenL.one (G.mono k4.gr d3)), fun t ht => ?_⟩, G.less (G.keep k4 ok3) (by omega)⟩
    rcases List.mem_append.mp ht with h | h
    · exact hR.ok t h
    · rw [List.mem_singleton.mp h]
      exact ⟨.leaf _ _, by show max 0 0 + 1 ≤ 1; decide⟩
  rintro H3 ⟨ys, ts, htl, x3, hR3, ok3⟩
  have hyl := hR3.den.len
  -- where the others part
  refine ⟨_, rfl, _, rfl, _, 11, _, rfl, by decide, by decide, by omega, fun z4 H4 z40 z41 s4 => ?_⟩
  obtain ⟨ap, rfl⟩ := Int.eq_ofNat_of_zero_le z40
  have hap : ap < N := by omega
  have hR4 := hR3.ext G (Ext.of_same s4)
  have ok4 := G.keep (kp_same s4) ok3
  refine ⟨_, rfl, _, rfl, ((ap : Nat) : Int), rfl, D, ys, rfl, SqL.of hR4.at_, fun p5 np5 => ?_⟩
  rw [cut_to]
  have u5 := Ext.new (o := .lst (ys.take ap)) np5
  have hp5 : upd H4 p5 (.lst (ys.take ap)) p5 = some (.lst (ys.take ap)) := upd_same
  have ok5 := G.less (G.keep (Kp.new (o := .lst (ys.take ap)) np5) ok4) (show 15999900 ≤ 16000000 - N by omega)
  have hR5 := hR4.ext G u5
  have x5 := (x3.trans (Ext.of_same s4)).trans u5
  have dd5 := (hR4.den.take ap).mono G u5.gr
  generalize upd H4 p5 (.lst (ys.take ap)) = H5 at u5 hp5 ok5 hR5 x5 dd5 ⊢
  refine ⟨_, rfl, _, rfl, (ap : Int), (N : Int), rfl, ⟨by omega, by omega, by omega, by omega⟩, fun D2 nD2 => ?_⟩
  rw [show ((N : Int) - (ap : Int)).toNat = N - ap by omega]
  refine lc_range (fun i H' => ∃ zs us, us.length = i ∧ Ext H5 H' ∧ RowL S H' D2 zs us ∧ S.ok H' (15999900 - i)) ⟨[], [], rfl, Ext.new nD2, ⟨upd_same, DenL.nil, fun _ h => by cases h⟩, G.keep (Kp.new nD2) ok5⟩ ?_ ?_
  · rintro i H' hi ⟨zs, us, rfl, x, hR, ok⟩
    refine ⟨rfl, S, _, hF, rfl, ok, _, rfl, _, 7, rfl, rfl, _, rfl, _, _, rfl, rfl, .inl ⟨by decide, by decide⟩, _, _, rfl, rfl, _, rfl, fun w0 H2 w1 w2 s2 => ?_⟩
    have ok2 := G.keep (kp_same s2) ok
    have hR2 := hR.ext G (Ext.of_same s2)
    refine ⟨w0, "x", rfl, rfl, by show w0.length + 1 ≤ _; rw [e16]; omega, ?_⟩
    refine ⟨15999899 - us.length, "leaf", .str (w0 ++ "x"), .int 0, _, _, rfl, by decide +kernel, G.less ok2 (by omega), G.str _ ok2 (txtOk_app w1 (by decide +kernel)), G.int _ ok2, fun v H3 x3 ok3 d3 => ?_⟩
    have hR3 := hR2.ext G x3
    have hyl := hR3.den.len
    have k4 := Kp.lst (o := .lst (zs ++ [v])) hR3.at_
    refine ⟨zs, hR3.at_, by rw [hyl, e16]; omega, zs ++ [v], us ++ [.sl "leaf" (.str (w0 ++ "x")) (.int 0)], by simp, ((x.trans (Ext.of_same s2)).trans x3).mut nD2, ⟨upd_same, (hR3.den.mono G k4.gr).append (DenL.one (G.mono k4.gr d3)), fun t ht => ?_⟩, G.less (G.keep k4 ok3) (by omega)⟩
    rcases List.mem_append.mp ht with h | h
    · exact hR.ok t h
    · rw [List.mem_singleton.mp h]
      exact ⟨.leaf _ _, by show max 0 0 + 1 ≤ 1; decide⟩
  rintro H6 ⟨zs, us, hul, x6, hR6, ok6⟩
  have hzl := hR6.den.len
  have lt5 : (ys.take ap).length = ap := by rw [List.length_take]; omega
  refine ⟨p5, D2, _, _, rfl, rfl, x6.lst hp5, hR6.at_, by rw [lt5, hzl, e16]; omega, fun D3 nD3 => ?_⟩
  have u7 := Ext.new (o := .lst (ys.take ap ++ zs)) nD3
  have ok7 := G.less (G.keep (Kp.new (o := .lst (ys.take ap ++ zs)) nD3) ok6) (show 15000000 ≤ 15999900 - (N - ap) by omega)
  have x7 := (x5.trans x6).trans u7
  have hRa := (hR5.ext G x6).ext G u7
  have hRb : RowL S (upd H6 D3 (.lst (ys.take ap ++ zs))) D3 (ys.take ap ++ zs) (ts.take ap ++ us) := ⟨upd_same, (((dd5.mono G x6.gr).append hR6.den).mono G u7.gr), fun t ht => by
    rcases List.mem_append.mp ht with h | h
    · exact hR3.ok t (List.mem_of_mem_take h)
    · exact hR6.ok t h⟩
  have hlu : (ts.take ap ++ us).length = ts.length := by
    rw [List.length_append, List.length_take]
    omega
  have hc7 := x7.lst hc1
  generalize upd H6 D3 (.lst (ys.take ap ++ zs)) = H7 at u7 ok7 x7 hRa hRb hc7 ⊢
  refine ⟨_, rfl, _, 12, rfl, rfl, _, rfl, ite2 (fun _ => ?_) (fun _ => ?_)⟩
  · refine ⟨_, rfl, c, _, rfl, .inl (SqL.of hc7), _, 9, rfl, ?_⟩
    obtain ⟨L, hL, eL⟩ : ∃ L : Nat, L ≤ ns.length ∧ (if (9 : Int) < ((ns.map V.int).length : Int) then (9 : Int) else ((ns.map V.int).length : Int)) = (L : Int) := by
      rw [List.length_map]
      by_cases h9 : (9 : Int) < (ns.length : Int)
      · exact ⟨9, by omega, by rw [if_pos h9]; rfl⟩
      · exact ⟨ns.length, by omega, by rw [if_neg h9]⟩
    refine ⟨(L : Int), by rw [eL], by omega, by omega, ?_⟩
    rw [Int.toNat_natCast]
    refine for_range (fun i σ H' => ∃ y7, σ = [some (.ref c), some (.ref S.f), some (.int (N : Int)), some (.int (cell ns 1)), some (.ref D), some (.int (ap : Int)), some (.ref D3), y7, none] ∧ Ext H7 H' ∧ S.ok H' (15000000 - i * 4000)) ⟨none, rfl, Ext.refl _, ok7⟩ ?_ ?_
    · rintro i σ H' hi ⟨y6, rfl, x, ok⟩
      rw [Int.zero_add]
      have hin : i < ns.length := by omega
      obtain ⟨z0, hz0⟩ : ∃ z0 : Int, (ns.map V.int)[i]? = some (.int z0) := ⟨_, by rw [List.getElem?_map, List.getElem?_eq_getElem hin]; rfl⟩
      refine ⟨_, rfl, _, rfl, _, rfl, c, _, _, _, rfl, rfl, SqL.of (x.lst hc7), atI_nat hz0, _, rfl, _, _, rfl, rfl, .inl ⟨by decide, by decide⟩, _, _, rfl, rfl, _, rfl, _, rfl, S, _, D, D3, ys, ys.take ap ++ zs, ts, ts.take ap ++ us, 15000000 - (i + 1) * 4000, hF, rfl, hRa.ext G x, hRb.ext G x, hlu, by omega, G.less ok (by omega), fun H2 x2 ok2 => ?_⟩
      exact ⟨_, rfl, iteF ⟨_, rfl, x.trans x2, ok2⟩⟩
    · rintro σ H' ⟨y6, rfl, x, ok⟩
      exact q _
  · refine ⟨_, rfl, c, _, rfl, .inl (SqL.of hc7), (ns.length : Int), by rw [List.length_map], by omega, by omega, ?_⟩
    rw [Int.toNat_natCast]
    refine for_range (fun i σ H' => ∃ y7, σ = [some (.ref c), some (.ref S.f), some (.int (N : Int)), some (.int (cell ns 1)), some (.ref D), some (.int (ap : Int)), some (.ref D3), y7, none] ∧ Ext H7 H' ∧ S.ok H' (15000000 - i * 4000)) ⟨none, rfl, Ext.refl _, ok7⟩ ?_ ?_
    · rintro i σ H' hin ⟨y6, rfl, x, ok⟩
      rw [Int.zero_add]
      obtain ⟨z0, hz0⟩ : ∃ z0 : Int, (ns.map V.int)[i]? = some (.int z0) := ⟨_, by rw [List.getElem?_map, List.getElem?_eq_getElem hin]; rfl⟩
      refine ⟨_, rfl, _, rfl, _, rfl, c, _, _, _, rfl, rfl, SqL.of (x.lst hc7), atI_nat hz0, _, rfl, _, _, rfl, rfl, .inl ⟨by decide, by decide⟩, _, _, rfl, rfl, _, rfl, _, rfl, S, _, D, D3, ys, ys.take ap ++ zs, ts, ts.take ap ++ us, 15000000 - (i + 1) * 4000, hF, rfl, hRa.ext G x, hRb.ext G x, hlu, by omega, G.less ok (by omega), fun H2 x2 ok2 => ?_⟩
      exact ⟨_, rfl, iteF ⟨_, rfl, x.trans x2, ok2⟩⟩
    · rintro σ H' ⟨y6, rfl, x, ok⟩
      exact q _
end

end My
open PySem PySem.W PyProof.Rows
set_option maxHeartbeats 0 in
theorem PySem.Challenge.cw_growbook_k06_growths_judged_holds : PySem.Challenge.rw_growbook_k06_growths_judged.Holds := by
  w_on; o_law; k_head; (case hw => w_witness2)
  k_fill
  refine LamX.walk_ofTs (l := PySem.Challenge.rw_growbook_k06_growths_judged) (n := 63) (k := 20) (x := "_law_script") (CX := fun _ => L2.CX0) rfl (by decide) rfl ⟨rfl, by decide, by decide⟩ (fun w h Y => PySem.W.km_in_of Y) ?F (fun _ _ _ _ _ h => h)
  case F =>
    intro w mg fa h Y KX G hmg
    have hT := PySem.W.km_tabs_of Y
    refine My.law_end (c := ?c) KX hT (by kernel_rfl) ?hcode (My.ok_law ?T hmg)
    case T =>
      refine' My.txt_mk KX G ?a0 ?l0 ?c0 ?k0 ?a1 ?l1 ?c1 ?k1 ?a2 ?l2 ?c2 ?k2 ?a3 ?l3 ?c3 ?k3 ?a4 ?l4 ?c4 ?k4 ?a5 ?l5 ?c5 ?k5 ?a6 ?l6 ?c6 ?k6 ?a7 ?l7 ?c7 ?k7 ?a8 ?l8 ?c8 ?k8 ?a9 ?l9 ?c9 ?k9 ?a10 ?l10 ?c10 ?k10 ?a11 ?l11 ?c11 ?k11 ?a12 ?l12 ?c12 ?k12 ?a13 ?l13 ?c13 ?k13 ?a14 ?l14 ?c14 ?k14 ?a15 ?l15 ?c15 ?k15 ?a16 ?l16 ?c16 ?k16 ?a17 ?l17 ?c17 ?k17 ?a18 ?l18 ?c18 ?k18 ?a19 ?l19 ?c19 ?k19 ?a20 ?l20 ?c20 ?k20 ?a21 ?l21 ?c21 ?k21 ?z_len ?z_isinstance ?z_int ?z_bool ?z_list ?z_range ?z_tuple ?z_reversed ?z_min ?z_max ?g_BadPaper ?xP_BadPaper ?kP_BadPaper ?bP_BadPaper ?tP_BadPaper ?hg_BadPaper ?hk_BadPaper ?hd_BadPaper ?ha_BadPaper ?hn_BadPaper ?ht_BadPaper ?hm_BadPaper ?ex_BadPaper ?g_Claim ?g_Grows ?pg_Grows ?hd_Grows ?po_Grows ?sa_Grows ?n_Grows_old ?n_Grows_before ?ia_Grows ?in_Grows ?it_Grows ?im_Grows ?aGrows0 ?iGrows0 ?lGrows0 ?cGrows0 ?kGrows0 ?mk_Grows ?kc_Grows ?aGrows1 ?iGrows1 ?lGrows1 ?cGrows1 ?kGrows1 ?aGrows2 ?iGrows2 ?lGrows2 ?cGrows2 ?kGrows2 ?g_Follower ?pg_Follower ?hd_Follower ?po_Follower ?sa_Follower ?n_Follower_seal ?n_Follower_count ?n_Follower_newest ?ia_Follower ?in_Follower ?it_Follower ?im_Follower ?aFollower0 ?iFollower0 ?lFollower0 ?cFollower0 ?kFollower0 ?mk_Follower ?kc_Follower ?aFollower1 ?iFollower1 ?lFollower1 ?cFollower1 ?kFollower1 ?aFollower2 ?iFollower2 ?lFollower2 ?cFollower2 ?kFollower2 ?aFollower3 ?iFollower3 ?lFollower3 ?cFollower3 ?kFollower3 ?aFollower4 ?iFollower4 ?lFollower4 ?cFollower4 ?kFollower4 ?q_Grows_Claim
      (case a0 => k_is)
      (case l0 => k_is)
      (case c0 => k_is)
      (case k0 => k_is)
      (case a1 => k_is)
      (case l1 => k_is)
      (case c1 => k_is)
      (case k1 => k_is)
      (case a2 => k_is)
      (case l2 => k_is)
      (case c2 => k_is)
      (case k2 => k_is)
      (case a3 => k_is)
      (case l3 => k_is)
      (case c3 => k_is)
      (case k3 => k_is)
      (case a4 => k_is)
      (case l4 => k_is)
      (case c4 => k_is)
      (case k4 => k_is)
      (case a5 => k_is)
      (case l5 => k_is)
      (case c5 => k_is)
      (case k5 => k_is)
      (case a6 => k_is)
      (case l6 => k_is)
      (case c6 => k_is)
      (case k6 => k_is)
      (case a7 => k_is)
      (case l7 => k_is)
      (case c7 => k_is)
      (case k7 => k_is)
      (case a8 => k_is)
      (case l8 => k_is)
      (case c8 => k_is)
      (case k8 => k_is)
      (case a9 => k_is)
      (case l9 => k_is)
      (case c9 => k_is)
      (case k9 => k_is)
      (case a10 => k_is)
      (case l10 => k_is)
      (case c10 => k_is)
      (case k10 => k_is)
      (case a11 => k_is)
      (case l11 => k_is)
      (case c11 => k_is)
      (case k11 => k_is)
      (case a12 => k_is)
      (case l12 => k_is)
      (case c12 => k_is)
      (case k12 => k_is)
      (case a13 => k_is)
      (case l13 => k_is)
      (case c13 => k_is)
      (case k13 => k_is)
      (case a14 => k_is)
      (case l14 => k_is)
      (case c14 => k_is)
      (case k14 => k_is)
      (case a15 => k_is)
      (case l15 => k_is)
      (case c15 => k_is)
      (case k15 => k_is)
      (case a16 => k_is)
      (case l16 => k_is)
      (case c16 => k_is)
      (case k16 => k_is)
      (case a17 => k_is)
      (case l17 => k_is)
      (case c17 => k_is)
      (case k17 => k_is)
      (case a18 => k_is)
      (case l18 => k_is)
      (case c18 => k_is)
      (case k18 => k_is)
      (case a19 => k_is)
      (case l19 => k_is)
      (case c19 => k_is)
      (case k19 => k_is)
      (case a20 => k_is)
      (case l20 => k_is)
      (case c20 => k_is)
      (case k20 => k_is)
      (case a21 => k_is)
      (case l21 => k_is)
      (case c21 => k_is)
      (case k21 => k_is)
      (case z_len => k_is)
      (case z_isinstance => k_is)
      (case z_int => k_is)
      (case z_bool => k_is)
      (case z_list => k_is)
      (case z_range => k_is)
      (case z_tuple => k_is)
      (case z_reversed => k_is)
      (case z_min => k_is)
      (case z_max => k_is)
      (case g_BadPaper => k_is)
      (case xP_BadPaper => k_exc)
      (case kP_BadPaper => k_is)
      (case bP_BadPaper => k_is)
      (case tP_BadPaper => k_is)
      (case hg_BadPaper => k_is)
      (case hk_BadPaper => k_is)
      (case hd_BadPaper => k_is)
      (case ha_BadPaper => k_is)
      (case hn_BadPaper => k_is)
      (case ht_BadPaper => k_is)
      (case hm_BadPaper => k_is)
      (case ex_BadPaper => kernel_rfl)
      (case g_Claim => k_is)
      (case g_Grows => k_is)
      (case pg_Grows => k_is)
      (case hd_Grows => k_is)
      (case po_Grows => k_is)
      (case sa_Grows => k_is)
      (case n_Grows_old => k_is)
      (case n_Grows_before => k_is)
      (case ia_Grows => k_is)
      (case in_Grows => k_is)
      (case it_Grows => k_is)
      (case im_Grows => k_is)
      (case aGrows0 => k_is)
      (case iGrows0 => k_is)
      (case lGrows0 => k_is)
      (case cGrows0 => k_is)
      (case kGrows0 => k_is)
      (case mk_Grows => k_is)
      (case kc_Grows => k_is)
      (case aGrows1 => k_is)
      (case iGrows1 => k_is)
      (case lGrows1 => k_is)
      (case cGrows1 => k_is)
      (case kGrows1 => k_is)
      (case aGrows2 => k_is)
      (case iGrows2 => k_is)
      (case lGrows2 => k_is)
      (case cGrows2 => k_is)
      (case kGrows2 => k_is)
      (case g_Follower => k_is)
      (case pg_Follower => k_is)
      (case hd_Follower => k_is)
      (case po_Follower => k_is)
      (case sa_Follower => k_is)
      (case n_Follower_seal => k_is)
      (case n_Follower_count => k_is)
      (case n_Follower_newest => k_is)
      (case ia_Follower => k_is)
      (case in_Follower => k_is)
      (case it_Follower => k_is)
      (case im_Follower => k_is)
      (case aFollower0 => k_is)
      (case iFollower0 => k_is)
      (case lFollower0 => k_is)
      (case cFollower0 => k_is)
      (case kFollower0 => k_is)
      (case mk_Follower => k_is)
      (case kc_Follower => k_is)
      (case aFollower1 => k_is)
      (case iFollower1 => k_is)
      (case lFollower1 => k_is)
      (case cFollower1 => k_is)
      (case kFollower1 => k_is)
      (case aFollower2 => k_is)
      (case iFollower2 => k_is)
      (case lFollower2 => k_is)
      (case cFollower2 => k_is)
      (case kFollower2 => k_is)
      (case aFollower3 => k_is)
      (case iFollower3 => k_is)
      (case lFollower3 => k_is)
      (case cFollower3 => k_is)
      (case kFollower3 => k_is)
      (case aFollower4 => k_is)
      (case iFollower4 => k_is)
      (case lFollower4 => k_is)
      (case cFollower4 => k_is)
      (case kFollower4 => k_is)
      (case q_Grows_Claim => kernel_rfl)
    case hcode => kernel_rfl
#print axioms PySem.Challenge.cw_growbook_k06_growths_judged_holds

