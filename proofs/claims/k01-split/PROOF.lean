import PyProof.Rows.All
import Wide.All
import OpenK.AllK
import Wide.FinOn
import HandS.ForMost
import HandS.WideBits
import HandS.IsInst
import HandS.Codes
import HandS.Evl
import PySem.Challenge.RW_growbook_k01_split
set_option Elab.async false
set_option linter.all false
set_option maxRecDepth 100000
set_option maxHeartbeats 4000000
namespace My
open PySem PySem.Spec PyProof.Rows L2
/-! ### the text by places -/
def topS (i : Nat) : Stmt := PySem.Challenge.pw_growbook_k01_split.main.body.getD i (.Pass ⟨0, 0, 0, 0⟩)
abbrev s_split : Stmt := topS 1
abbrev N_split : List Str := ["size"]
theorem sc_split : FnScope ["size"] ["size"] (defScope s_split) := ⟨rfl, rfl, rfl, by decide +kernel, rfl, by decide +kernel, by decide +kernel⟩
abbrev s_law : Stmt := topS 3
abbrev N_law : List Str := ["_law_script", "_law_cell", "_law_size", "_law_found"]
theorem sc_law : FnScope ["_law_script", "_law_cell", "_law_size", "_law_found"] ["_law_script"] (defScope s_law) := ⟨rfl, rfl, rfl, by decide +kernel, rfl, by decide +kernel, by decide +kernel⟩
open C8 (Cal Met Mak CalAt pe_c pe_mk pe_mt pe_mt0)
/-! ### a def of the module -/
structure DefX (K : PySem.W.Frag) (mg : Str → Option Value) (x : Str) (st : Stmt) (ps : List Str) : Prop where
  ex : ∃ (f : Addr) (fd : FuncData), L2.Fun K x x st f fd ∧ mg x = some (.ref f) ∧ ∀ us : List Value, us.length = ps.length → bindArgs fd ⟨us, []⟩ = pure (ps.zip us)
theorem cal_of {P : Program} {w : World} {K : PySem.W.Frag} {mg : Str → Option Value} {base : Heap} {x : Str} {st : Stmt} {N ps : List Str} {k : Nat} {sp : Sp} (D : DefX K mg x st ps) (S : FnScope N ps (defScope st)) (len : ∀ vs H Q E, sp vs H Q E → vs.length = ps.length)
    (hbody : ∀ (f : Addr) (cdv : Value) (A : Around) (outer : List Env) (s : Shared) (H : Hp) (vs : List V) (Q : VK) (E : XK), Room k (A.deeper (envOfC x (defScope st) s.heap.objs.size f cdv)) → sp vs H Q E →
      ∃ t, PSs (cxOf L2.CX0 P w K mg base N x (defScope st) f cdv A outer s H E).nox (defBody st) t ∧ t { nx := fun _ H' => Q .non H', rt := Q } (start N vs) H) : Cal P w K mg base (k + 1) x sp [] := by
  obtain ⟨f, fd, F, m, b⟩ := D.ex
  exact ⟨f, fd, ps, [], F.ok S len (hbody f), m, F.kp, .all b, .nil⟩
/-- the law's own def, for the end -/
theorem law_fn {P : Program} {w : World} {K : PySem.W.Frag} {mg : Str → Option Value} {x p : Str} {st : Stmt} {N : List Str} {k : Nat} {sp : Sp} {fa : Addr} (D : DefX K mg x st [p]) (hfa : mg x = some (.ref fa)) (S : FnScope N [p] (defScope st)) (len : ∀ vs H Q E, sp vs H Q E → vs.length = 1)
    (hbody : ∀ (base : Heap) (f : Addr) (cdv : Value) (A : Around) (outer : List Env) (s : Shared) (H : Hp) (vs : List V) (Q : VK) (E : XK), Room k (A.deeper (envOfC x (defScope st) s.heap.objs.size f cdv)) → sp vs H Q E →
      ∃ t, PSs (cxOf L2.CX0 P w K mg base N x (defScope st) f cdv A outer s H E).nox (defBody st) t ∧ t { nx := fun _ H' => Q .non H', rt := Q } (start N vs) H) :
    ∃ fd : FuncData, (∀ (s : Shared) (v : Value), BindsTo s fd ⟨[v], []⟩ [(p, v)]) ∧ ∀ base : Heap, K.In base → base.Ns mainGlobals mg → FnOk P w K mg base L2.CX0 (k + 1) fa fd [p] sp := by
  obtain ⟨f, fd, F, m, b⟩ := D.ex
  have e := hfa.symm.trans m
  cases e
  exact ⟨fd, fun s v => .of_eq (b [v] rfl), fun base _ _ => F.ok S len (hbody base fa)⟩
theorem cut_to (xs : List V) (n : Nat) : cutV xs none (some (n : Int)) = xs.take n := by
  unfold cutV
  rw [HT.sIx_none, HT.sIx_nat, List.drop_zero, Nat.sub_zero]
  by_cases h : n ≤ xs.length
  · rw [Nat.min_eq_left h]
  · rw [Nat.min_eq_right (by omega), List.take_length, List.take_of_length_le (by omega)]
theorem cut_from (xs : List V) (n : Nat) : cutV xs (some (n : Int)) none = xs.drop n := by
  unfold cutV
  rw [HT.sIx_none, HT.sIx_nat]
  by_cases h : n ≤ xs.length
  · rw [Nat.min_eq_left h, List.take_of_length_le (by rw [List.length_drop]; omega)]
  · rw [Nat.min_eq_right (by omega), List.drop_length, List.drop_eq_nil_of_le (by omega), List.take_nil]
theorem take63 {ns : List Int} (h : ns.length ≤ 63) : cutV (ns.map V.int) none (some 63) = ns.map V.int := by
  rw [show (63 : Int) = ((63 : Nat) : Int) from rfl, cut_to, List.take_of_length_le (by rw [List.length_map]; exact h)]
theorem small {n : Nat} (h : n ≤ 1000) : n ≤ sizeLine := Nat.le_of_lt (small1000 h)
theorem same_upd {H : Hp} {p : Addr} {o : HO} (h : H p = none) : Same H (upd H p o) := fun b x e => by
  rw [upd_ne (ne_of_none e h)]
  exact e

structure Zs (mg : Str → Option Value) : Prop where
  isinstance : mg "isinstance" = none
  int : mg "int" = none
  bool : mg "bool" = none
structure Txt (K : PySem.W.Frag) (mg : Str → Option Value) : Prop where
  d_split : DefX K mg "split" s_split ["size"]
  d_law : DefX K mg "law" s_law ["_law_script"]
  Z : Zs mg
theorem txt_mk {K : PySem.W.Frag} {h : Heap} {mg : Str → Option Value} (X : K.In h) (G : h.Ns mainGlobals mg) {f0 f1 : Addr} {od0 an0 od1 an1 : Option Addr} {sl0 sl1 : Array (Option Value)} {oc0 kV0 dc0 pm0 cd0 ct0 oc1 kV1 dc1 pm1 cd1 ct1 : Value}
    (a0 : PySem.W.nsIn K mainGlobals "split" = some (some (.ref f0))) (l0 : K.lookup f0 = some ⟨oc0, od0, .func (PySem.W.fnOf "split" "split" (defArgs s_split) (defBody s_split) (defScope s_split) .none kV0 dc0 pm0 an0 cd0 ct0), sl0⟩) (c0 : PySem.W.codeIn K cd0 "split" = true) (k0 : PySem.W.keepIn K (.ref f0) = true)
    (a1 : PySem.W.nsIn K mainGlobals "law" = some (some (.ref f1))) (l1 : K.lookup f1 = some ⟨oc1, od1, .func (PySem.W.fnOf "law" "law" (defArgs s_law) (defBody s_law) (defScope s_law) .none kV1 dc1 pm1 an1 cd1 ct1), sl1⟩) (c1 : PySem.W.codeIn K cd1 "law" = true) (k1 : PySem.W.keepIn K (.ref f1) = true)
    (z_isinstance : PySem.W.nsIn K mainGlobals "isinstance" = some none)
    (z_int : PySem.W.nsIn K mainGlobals "int" = some none)
    (z_bool : PySem.W.nsIn K mainGlobals "bool" = some none)
    : Txt K mg := by
  exact ⟨⟨⟨_, _, fun_mk (st := s_split) l0 c0 k0, PySem.W.mg_of X G a0, fun us hl => match us, hl with | [_], _ => rfl⟩⟩,
    ⟨⟨_, _, fun_mk (st := s_law) l1 c1 k1, PySem.W.mg_of X G a1, fun us hl => match us, hl with | [_], _ => rfl⟩⟩, ⟨PySem.W.mg_none_of X G z_isinstance, PySem.W.mg_none_of X G z_int, PySem.W.mg_none_of X G z_bool⟩⟩
/-! ### the mathematics -/
/-- halved without a rest down to one -/
def Pow2 (n : Int) : Prop := ∃ k : Nat, n = 2 ^ k
theorem two_pos (k : Nat) : (0 : Int) < 2 ^ k := by
  induction k with
  | zero => decide
  | succ k ih => rw [Int.pow_succ]; omega
theorem Pow2.half {n : Int} (h : Pow2 n) (h1 : 1 < n) : n % 2 = 0 ∧ Pow2 (n / 2) := by
  obtain ⟨k, rfl⟩ := h
  cases k with
  | zero => exact absurd h1 (by decide)
  | succ k =>
    rw [Int.pow_succ]
    refine ⟨by omega, k, ?_⟩
    omega
theorem bits_split {n : Int} (h : 2 ≤ n) (h2 : n < 2 ^ 41) : ∃ j : Nat, ((Builtin.Int.intBits (n - 1) : Nat) : Int) - 1 = (j : Int) ∧ j ≤ 1000 ∧ (2 : Int) ^ j < n ∧ n ≤ 2 * 2 ^ j := by
  obtain ⟨m, e⟩ := Int.eq_ofNat_of_zero_le (show 0 ≤ n - 1 by omega)
  have m0 : m ≠ 0 := by omega
  have hm : m < 2 ^ 41 := by
    have e41 : (2 : Int) ^ 41 = ((2 ^ 41 : Nat) : Int) := by decide
    omega
  refine ⟨m.log2, ?_, ?_, ?_, ?_⟩
  · rw [e]
    unfold Builtin.Int.intBits
    have e1 : ((m : Int) == 0) = false := by
      rw [beq_eq_false_iff_ne]
      omega
    rw [e1]
    show (((m : Int).natAbs.log2 + 1 : Nat) : Int) - 1 = _
    rw [Int.natAbs_natCast]
    omega
  · have := (Nat.log2_lt m0).mpr hm
    omega
  · have q := Nat.log2_self_le m0
    have q2 : ((2 ^ m.log2 : Nat) : Int) ≤ (m : Int) := by omega
    rw [Int.natCast_pow] at q2
    have e3 : ((2 : Nat) : Int) = 2 := rfl
    rw [e3] at q2
    omega
  · have q : m < 2 ^ (m.log2 + 1) := Nat.lt_log2_self
    have q2 : (m : Int) < ((2 ^ (m.log2 + 1) : Nat) : Int) := by omega
    rw [Int.natCast_pow] at q2
    have e3 : ((2 : Nat) : Int) = 2 := rfl
    rw [e3, Int.pow_succ] at q2
    omega
section
variable {P : Program} {w : World} {K : PySem.W.Frag} {mg : Str → Option Value} {base : Heap}
def spSplit : Sp := fun vs H Q _ => ∃ n : Int, vs = [.int n] ∧ 2 ≤ n ∧ n < 2 ^ 41 ∧ ∀ f, Pow2 f → 0 < f → f < n → n ≤ 2 * f → Q (.int f) H
theorem ok_split (T : Txt K mg) : Cal P w K mg base 1 "split" spSplit [] := by
  refine cal_of T.d_split sc_split (fun vs H Q E h => ?_) (fun f cdv A outer s H vs Q E hr h => ?_)
  · obtain ⟨n, rfl, _⟩ := h
    rfl
  obtain ⟨n, rfl, h1, h2, q⟩ := h
  refine ⟨_, (pss_one (ps_ret (pe_op op_shl pe_int (pe_op op_sub (pe_bits (pe_op op_sub (pv 0) pe_int)) pe_int)))), ?_⟩
  obtain ⟨j, ej, hj, a1, a2⟩ := bits_split h1 h2
  refine ⟨_, rfl, n, 1, rfl, rfl, n - 1, rfl, _, 1, rfl, rfl, 1, _, rfl, rfl, ?_, ?_⟩
  · rw [ej]
    exact ⟨by omega, by omega, by decide⟩
  · rw [ej]
    show Q (.int (1 * 2 ^ ((j : Int)).toNat)) H
    rw [Int.toNat_natCast, Int.one_mul]
    exact q _ ⟨j, rfl⟩ (two_pos j) a1 a2
def spLaw (K : PySem.W.Frag) : Sp := fun vs H Q _ => ∃ (a : Addr) (ns : List Int), vs = [.ref a] ∧ SqL K H a (ns.map V.int) ∧ ns.length ≤ 63 ∧ ∀ H', Q (.bl true) H'
theorem ok_law {fa : Addr} (T : Txt K mg) (hfa : mg "law" = some (.ref fa)) : ∃ fd : FuncData, (∀ (s : Shared) (v : Value), BindsTo s fd ⟨[v], []⟩ [("_law_script", v)]) ∧ ∀ base : Heap, K.In base → base.Ns mainGlobals mg → FnOk P w K mg base CX0 2 fa fd ["_law_script"] (spLaw K) := by
  have Z := T.Z
  refine law_fn T.d_law hfa sc_law (fun vs H Q E h => ?_) (fun base f cdv A outer s H vs Q E hr h => ?_)
  · obtain ⟨a, ns, rfl, _⟩ := h
    rfl
  obtain ⟨a, ns, rfl, hS, hlen, q⟩ := h
  have C_split : Cal P w K mg base 1 "split" spSplit [] := ok_split T
  refine ⟨_, (pss_cons (ps_set (i := 0) sc_law.nd rfl (Or.inl rfl) (pe_slice sl_list (pv 0) po_none (po_some pe_int)))
  (pss_cons (ps_for PassesOwn.never rfl (pi_list (pe_op op_cat (pv 0) (pe_lst (pa_cons pe_int pa_nil)))) (pg_name (i := 1) sc_law.nd rfl (Or.inl rfl)) (pss_cons (ps_set (i := 2) sc_law.nd rfl (Or.inl rfl) (pe_op op_add pe_int (pe_op op_mod (pv 1) pe_int)))
  (Evl.pss_cut (ps_if (pt_cmpR op_eq (pe_op op_mod (pe_op op_fdiv (pv 1) pe_int) pe_int) pe_int (nomark _)) (pss_one (ps_set (i := 2) sc_law.nd rfl (Or.inl rfl) (pe_op op_add pe_int (pe_op op_mod (pv 1) (pe_op op_sub (pe_op op_shl pe_int pe_int) pe_int))))) pss_nil)
  (pss_cons (ps_set (i := 3) sc_law.nd rfl (Or.inl rfl) (pe_c C_split hr (by decide) rfl (pa_cons (pv 2) pa_nil)))
  (pss_cons (ps_if (PW.pt (pw_or (pt_not (pt_val (pe_callB call_isi rfl Z.isinstance (by decide +kernel) (pa_cons (pv 3) (pa_cons (pe_bltn (v := .ty "int") rfl Z.int (by decide +kernel) rfl) pa_nil))))) (pw_or (pt_val (pe_callB call_isi rfl Z.isinstance (by decide +kernel) (pa_cons (pv 3) (pa_cons (pe_bltn (v := .ty "bool") rfl Z.bool (by decide +kernel) rfl) pa_nil)))) (pw_or1 (pt_cmpR op_lt (pv 3) pe_int (nomark _)))))) (pss_one (ps_ret pe_bl)) pss_nil)
  (pss_cons (ps_if (PW.pt (pw_or (pt_cmpR op_ge (pv 3) (pv 2) (nomark _)) (pw_or1 (pt_cmpR op_lt (pe_op op_mul pe_int (pv 3)) (pv 2) (nomark _))))) (pss_one (ps_ret pe_bl)) pss_nil)
  (pss_one (ps_while PassesOwn.never (pt_cmpR op_gt (pv 3) pe_int (nomark _)) (pss_cons (ps_if (pt_cmpR op_eq (pe_op op_mod (pv 3) pe_int) pe_int (nomark _)) (pss_one (ps_ret pe_bl)) pss_nil)
  (pss_one (ps_set (i := 3) sc_law.nd rfl (Or.inl rfl) (pe_op op_fdiv (pv 3) pe_int))))))))))))
  (pss_one (ps_ret pe_bl)))), ?_⟩
  refine ⟨.ref a, rfl, 63, rfl, a, _, rfl, hS, fun c nc => ?_⟩
  rw [take63 hlen]
  have s1 : Same H (upd H c (.lst (ns.map V.int))) := same_upd nc
  refine ⟨.ref c, rfl, by show 1 ≤ sizeLine; decide, fun d nd => ?_⟩
  have ncd : c ≠ d := ne_of_none (o := .lst (ns.map V.int)) upd_same nd
  refine ⟨c, d, _, _, rfl, rfl, by rw [upd_ne ncd]; exact upd_same, upd_same, by rw [List.length_map]; exact small (by show ns.length + 1 ≤ 1000; omega), fun e ne => ?_⟩
  refine ⟨e, rfl, ⟨_, SqL.of upd_same⟩, ?_⟩
  have hE : SqL K (upd (upd (upd H c (.lst (ns.map V.int))) d (.lst [V.int 0])) e (.lst (ns.map V.int ++ [V.int 0]))) e (ns.map V.int ++ [V.int 0]) := SqL.of upd_same
  generalize upd (upd (upd H c (.lst (ns.map V.int))) d (.lst [V.int 0])) e (.lst (ns.map V.int ++ [V.int 0])) = HH at hE
  refine for_list (K := K) (a := e) (xs := ns.map V.int ++ [.int 0]) (fun i σ H' => ∃ y1 y2 y3, σ = [some (.ref c), y1, y2, y3] ∧ H' = HH) ⟨none, none, none, rfl, rfl⟩
    (fun i σ H' _ ⟨_, _, _, _, eH⟩ => by rw [eH]; exact hE) ?_ (fun σ H' _ => q _)
  rintro i y σ H' hi ⟨y1, y2, y3, rfl, rfl⟩
  obtain ⟨z, rfl⟩ : ∃ z, y = V.int z := by
    have hm : y ∈ ns.map V.int ++ [V.int 0] := List.mem_of_getElem? hi
    rcases List.mem_append.mp hm with hm | hm
    · obtain ⟨z, _, e⟩ := List.mem_map.mp hm
      exact ⟨z, e.symm⟩
    · exact ⟨0, List.mem_singleton.mp hm⟩
  refine ⟨_, rfl, z, 299, rfl, rfl, (by show (0 : Int) < 299; decide), 2, _, rfl, rfl, ?_⟩
  refine ⟨fun σ H'' => ∃ n : Int, 2 ≤ n ∧ n < 2 ^ 41 ∧ σ = [some (.ref c), some (.int z), some (.int n), y3] ∧ H'' = H', ?_, ?_⟩
  · refine ⟨_, rfl, z, 299, rfl, rfl, ⟨by decide, by decide⟩, _, 3, rfl, rfl, (by show (0 : Int) < 3; decide), rfl, _, rfl, ite2 (fun _ => ?_) (fun _ => ?_)⟩
    · refine ⟨_, rfl, 1, 40, rfl, rfl, ⟨by decide, by decide, by decide⟩, _, 1, rfl, rfl, z, _, rfl, rfl, (by show (0 : Int) < 1 * 2 ^ 40 - 1; decide), 2, _, rfl, rfl, ?_⟩
      refine ⟨2 + z % (1 * 2 ^ (40 : Int).toNat - 1), ?_, ?_, rfl, rfl⟩
      · have := Int.emod_nonneg z (show (1 * 2 ^ (40 : Int).toNat - 1 : Int) ≠ 0 by decide)
        omega
      · have := Int.emod_lt_of_pos z (show (0 : Int) < 1 * 2 ^ (40 : Int).toNat - 1 by decide)
        have e1 : (1 * 2 ^ (40 : Int).toNat - 1 : Int) = 1099511627775 := by decide
        rw [e1] at this ⊢
        have e2 : (2 : Int) ^ 41 = 2199023255552 := by decide
        omega
    · refine ⟨2 + z % 299, by omega, ?_, rfl, rfl⟩
      have e2 : (2 : Int) ^ 41 = 2199023255552 := by decide
      omega
  rintro σ H'' ⟨n, n2, n41, rfl, rfl⟩
  -- found = split(size)
  refine ⟨_, rfl, n, rfl, n2, n41, fun f pf f0 f1 f2 => ?_⟩
  -- the first look
  refine ⟨_, rfl, .int f, .ty "int", _, _, true, rfl, .ty "int", .base (.int f), kit_ty (by decide +kernel), true, rfl, ?_⟩
  refine ⟨_, rfl, .int f, .ty "bool", _, _, false, rfl, .ty "bool", .base (.int f), kit_ty (by decide +kernel), false, rfl, ?_⟩
  refine ⟨_, rfl, _, _, rfl, rfl, _, rfl, ?_⟩
  rw [decide_eq_false (show ¬ f < 1 by omega)]
  -- the second look
  refine ⟨_, rfl, _, rfl, _, _, rfl, rfl, _, rfl, ?_⟩
  rw [decide_eq_false (show ¬ n ≤ f by omega)]
  refine ⟨_, rfl, _, _, rfl, rfl, .inl ⟨by decide, by decide⟩, _, rfl, _, _, rfl, rfl, _, rfl, ?_⟩
  rw [decide_eq_false (show ¬ 2 * f < n by omega)]
  -- the halving
  refine ⟨fun m σ H' => ∃ g : Int, m = g.toNat ∧ Pow2 g ∧ 0 < g ∧ σ = [some (.ref c), some (.int z), some (.int n), some (.int g)] ∧ H' = H'', ⟨_, f, rfl, pf, f0, rfl, rfl⟩, ?_⟩
  rintro m σ H' ⟨g, rfl, pg, g0, rfl, rfl⟩
  refine ⟨_, rfl, _, _, rfl, rfl, _, rfl, ite2 (fun c1 => ?_) (fun _ => ⟨_, _, _, rfl, rfl⟩)⟩
  have g1 : 1 < g := of_decide_eq_true c1
  obtain ⟨h2, h3⟩ := pg.half g1
  refine ⟨fun σ' H'' => ∃ g' : Int, g'.toNat < g.toNat ∧ Pow2 g' ∧ 0 < g' ∧ σ' = [some (.ref c), some (.int z), some (.int n), some (.int g')] ∧ H'' = H', fun σ' H'' ⟨g', a, b, d, e, eh⟩ => ⟨_, a, g', rfl, b, d, e, eh⟩, ?_⟩
  refine ⟨_, rfl, g, 2, rfl, rfl, (by show (0 : Int) < 2; decide), rfl, _, rfl, ?_⟩
  rw [decide_eq_false (show ¬ V.int (g % 2) = V.int 1 from fun z => by injection z with z; omega)]
  refine ⟨_, rfl, g, 2, rfl, rfl, ⟨by decide, by decide⟩, g / 2, by omega, h3, by omega, rfl, rfl⟩
end
end My
open PySem PySem.W PyProof.Rows
set_option maxHeartbeats 0 in
theorem PySem.Challenge.cw_growbook_k01_split_holds : PySem.Challenge.rw_growbook_k01_split.Holds := by
  w_on; o_law; k_head; (case hw => w_witness2)
  k_fill
  refine L2.walk_of (l := PySem.Challenge.rw_growbook_k01_split) (n := 63) (k := 2) (x := "_law_script") (CX := fun _ => L2.CX0) (sp := fun w => My.spLaw _) rfl (by decide) rfl ⟨rfl, by decide, by decide⟩ (fun w h Y => PySem.W.kIn_of Y) ?F (fun _ _ a ns hl _ hS => ⟨a, ns, rfl, hS, hl, fun _ => rfl⟩) (fun _ _ _ _ _ h => h)
  case F =>
    intro w mg fa h KX G hmg
    refine My.ok_law ?T hmg
    refine' My.txt_mk KX G ?a0 ?l0 ?c0 ?k0 ?a1 ?l1 ?c1 ?k1 ?z_isinstance ?z_int ?z_bool
    (case a0 => k_is)
    (case l0 => k_is)
    (case c0 => k_is)
    (case k0 => k_is)
    (case a1 => k_is)
    (case l1 => k_is)
    (case c1 => k_is)
    (case k1 => k_is)
    (case z_isinstance => k_is)
    (case z_int => k_is)
    (case z_bool => k_is)
#print axioms PySem.Challenge.cw_growbook_k01_split_holds
