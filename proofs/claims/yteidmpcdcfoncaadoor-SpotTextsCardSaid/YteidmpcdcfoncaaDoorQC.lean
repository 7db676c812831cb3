/- Contracts of functions that the laws of this seat reach, and plain laws of what they compute. No condition beyond each statement's own. -/
import Derived.Test.YteidmpcdcfoncaaDoorQB
set_option linter.unusedVariables false
set_option linter.unusedSimpArgs false
section
/- Spots: the laws. -/
namespace Go.AE
open Go.Proofs
set_option maxRecDepth 20000
set_option maxHeartbeats 8000000
set_option linter.unusedSimpArgs false
theorem c11 : Value.complex .f64 4607182418800017408 4607182418800017408 = .complex .f64 (fw 4) (fw 4) := by rw [show fw 4 = 4607182418800017408 by decide]
theorem c10 : Value.complex .f64 4607182418800017408 0 = .complex .f64 (fw 4) (fw 0) := by rw [show fw 0 = 0 by decide, show fw 4 = 4607182418800017408 by decide]
theorem c03 : Value.complex .f64 0 4613937818241073152 = .complex .f64 (fw 0) (fw 12) := by rw [show fw 0 = 0 by decide, show fw 12 = 4613937818241073152 by decide]
theorem c27 : Value.complex .f64 4611686018427387904 4619567317775286272 = .complex .f64 (fw 8) (fw 28) := by rw [show fw 8 = 4611686018427387904 by decide, show fw 28 = 4619567317775286272 by decide]
theorem c2A : Value.complex .f64 4611686018427387904 4621819117588971520 = .complex .f64 (fw 8) (fw 40) := by rw [show fw 8 = 4611686018427387904 by decide, show fw 40 = 4621819117588971520 by decide]
theorem c30 : Value.complex .f64 4613937818241073152 0 = .complex .f64 (fw 12) (fw 0) := by rw [show fw 0 = 0 by decide, show fw 12 = 4613937818241073152 by decide]
theorem f05 : Value.float .f64 4602678819172646912 = .float .f64 (fw 2) := by rw [show fw 2 = 4602678819172646912 by decide]
theorem f025 : Value.float .f64 4598175219545276416 = .float .f64 (fw 1) := by rw [show fw 1 = 4598175219545276416 by decide]
theorem eqff (a : Int) (h1 : -9007199254740992 < a) (h2 : a < 9007199254740992) : (ford (fw a) (fw a) == some .eq) = true := by
  have h : small53 a := by unfold small53; omega
  rw [eq_fw h h, decide_eq_true rfl]
instance (s : List UInt8) (k : Nat) (p q : Int) : Decidable (atS s k p q) := inferInstanceAs (Decidable (_ ∧ _))
theorem ssmall_spec : Spec Tryd.prog 8 [] (Bv true) := by
  have p1 := place_yes [97, 98, 13, 10, 99] 4 4 (by decide) (by decide) (by decide) 5 (by decide) (by decide) (by decide)
  have p2 := place_no [97, 98] 4 0 (by decide) (by decide) (by decide) (fun j hj => by
    have : j = 0 ∨ j = 1 ∨ j = 2 := by simp only [List.length_cons, List.length_nil] at hj; omega
    rcases this with rfl | rfl | rfl <;> decide)
  have o1 : Spec Tryd.prog 13 [Sv [97, 98, 13, 10, 99], I64 5] (Cv 4 4) := by
    have h := of_spec [97, 98, 13, 10, 99] 5 (by decide)
    have e : spot [97, 98, 13, 10, 99] (clampN 5 5) = (1, 1) := by decide
    rw [show ([97, 98, 13, 10, 99] : List UInt8).length = 5 from rfl, e] at h; exact h
  have o2 : Spec Tryd.prog 13 [Sv [97, 98, 13, 10, 99], I64 3] (Cv 0 12) := by
    have h := of_spec [97, 98, 13, 10, 99] 3 (by decide)
    have e : spot [97, 98, 13, 10, 99] (clampN 3 5) = (0, 3) := by decide
    rw [show ([97, 98, 13, 10, 99] : List UInt8).length = 5 from rfl, e] at h; exact h
  have o3 : Spec Tryd.prog 13 [Sv [97, 98], I64 (-4)] (Cv 0 0) := by
    have h := of_spec [97, 98] (-4) (by decide)
    have e : spot [97, 98] (clampN (-4) 2) = (0, 0) := by decide
    rw [show ([97, 98] : List UInt8).length = 2 from rfl, e] at h; exact h
  have t1 : Spec Tryd.prog 17 [Cv 4 4] (Sv [50, 58, 50]) := by
    have h := text_spec 4 4 (by decide) (by decide)
    rw [show txt (whn 4 + 1) (whn 4 + 1) = [50, 58, 50] by decide +kernel] at h; exact h
  have s1 : Spec Tryd.prog 11 [Cv 8 28, Sv [97, 10, 98]] (Cv 8 40) := by
    have h := step_spec 8 28 [97, 10, 98] (by decide) (by decide) (by decide)
    rw [show stp [97, 10, 98] (whn 8) (whn 28) = (2, 10) by decide] at h; exact h
  have s2 : Spec Tryd.prog 11 [Cv 8 28, Sv [13, 10]] (Cv 12 0) := by
    have h := step_spec 8 28 [13, 10] (by decide) (by decide) (by decide)
    rw [show stp [13, 10] (whn 8) (whn 28) = (3, 0) by decide] at h; exact h
  have l1 : Spec Tryd.prog 15 [Sv [13, 10, 13, 10]] (I64 2) := by
    have h := lines_spec [13, 10, 13, 10] (by decide)
    rw [show lines [13, 10, 13, 10] = 2 by decide] at h; exact h
  refine spec_mk (z := false) (ts := [.tmp 0]) ok1 Tryd.func8 rfl rfl (by decide +kernel) (by simp [Tryd.ntmps8]) rfl ?_
  repeat' first | refine WE_fit (p1) ?_ ?_ | refine WE_fit (p2) ?_ ?_ | refine WE_fit (o1) ?_ ?_ | refine WE_fit (o2) ?_ ?_ | refine WE_fit (o3) ?_ ?_ | refine WE_fit (t1) ?_ ?_ | refine WE_fit (s1) ?_ ?_ | refine WE_fit (s2) ?_ ?_ | refine WE_fit (l1) ?_ ?_ | simp (maxSteps := 4000000) (disch := omega) only [bunL, bunD, bun, ↓WG_true, ↓WG_false, labelOf, findLabel, ↓reduceIte, imp, shift, killO, hasId, unown, names, plainR, below, noF, isF, lendObs, lendOb, kindOk, ren, givL, updM, backO, renO, belowM, seval, -Int.reduceToNat, B3, B4, B9, B23, bunN, Int.reduceToNat, List.map_nil, List.nil_append, FO_some, CO_some, BI_fadd, BI_fsub, BI_feql, BI_fneq, BI_flss, BI_fleq, BI_fgtr, BI_fgeq, BI_cadd, BI_ceql, BI_cneq, FI_i64, CV_i2f, CV_f2i, CW_i2f, CW_f2i, wopC_real, wopC_imag, wopC_cplx, qopC_real, qopC_imag, qopC_cplx, pureOp_real, pureOp_imag, pureOp_cplx, RE_c, IM_c, CX_f, B2_flt, B2_cpx, wopC_assign_flt, wopC_assign_cpx, f0, f1, fM, c00, c04, c11, c10, c03, c27, c2A, c30, f05, f025, eqff] | exact NK_no _ | refine NK_cl _ _ ?_ | exact Cln.cl | refine clean_tup _ ?_ | refine cleans_cons _ _ ?_ ?_ | refine DR_q _ ?_ | (refine Fk.fk ?_ ?_ <;> intro hg <;> (try simp only [hg]) <;> (try simp only [bunB] at hg) <;> try (exfalso; first | omega | exact Bool.noConfusion hg | exact hg trivial)) | refine And.intro (by omega) ?_ | omega
  all_goals trace_state
theorem clampN_id {k n : Nat} (h : k ≤ n) : clampN (k : Int) n = k := by unfold clampN; rw [if_neg (by omega), if_neg (by omega)]; omega
theorem of_at (s : List UInt8) (k : Nat) (hs : s.length ≤ 1000000) (hk : k ≤ s.length) : Spec Tryd.prog 13 [Sv s, I64 k] (spv (spot s k)) := by
  have h := of_spec s k hs
  rw [clampN_id hk] at h; exact h
theorem atS_self (s : List UInt8) (k : Nat) : atS s k (4 * ((spot s k).1 : Int)) (4 * ((spot s k).2 : Int)) := ⟨rfl, rfl⟩
theorem atS_ne {s : List UInt8} {j k : Nat} (hj : j ≠ k) (h1 : j ≤ s.length) (h2 : k ≤ s.length) : ¬ atS s j (4 * ((spot s k).1 : Int)) (4 * ((spot s k).2 : Int)) := fun h => by
  have := spot_ne hj h1 h2
  apply this
  have a := h.1
  have b := h.2
  exact Prod.ext (by omega) (by omega)
theorem place_at (s : List UInt8) (k : Nat) (hs : s.length ≤ 1000000) (hk : k ≤ s.length) : Spec Tryd.prog 9 [Sv s, spv (spot s k)] (.tup [I64 k, Bv true]) := by
  have hb := spot_bound s k
  exact place_yes s _ _ (sm (by omega)) (sm (by omega)) hs k hk (atS_self s k) fun j hj => atS_ne (by omega) (by omega) hk
theorem sback_spec (s : List UInt8) (k j : Int) (hs : s.length ≤ 9223372036854775807) (k0 : -9223372036854775808 ≤ k) (k1 : k ≤ 9223372036854775807) (j0 : -9223372036854775808 ≤ j) (j1 : j ≤ 9223372036854775807) :
    Spec Tryd.prog 4 [Sv s, I64 k, I64 j] (Bv true) := by
  by_cases h : s.length ≤ 300 ∧ 0 ≤ k ∧ k ≤ s.length ∧ k < j ∧ j ≤ s.length
  · obtain ⟨h1, h2, h3, h4, h5⟩ := h
    obtain ⟨K, rfl⟩ : ∃ K : Nat, k = K := ⟨k.toNat, by omega⟩
    obtain ⟨J, rfl⟩ : ∃ J : Nat, j = J := ⟨j.toNat, by omega⟩
    have o1 := of_at s K (by omega) (by omega)
    have o2 := of_at s J (by omega) (by omega)
    have p1 := place_at s K (by omega) (by omega)
    have p2 := place_at s J (by omega) (by omega)
    have bk := spot_bound s K
    have bj := spot_bound s J
    have hl := spot_lt (s := s) (j := K) (k := J) (by omega) (by omega)
    generalize spot s K = a at *
    generalize spot s J = b at *
    obtain ⟨a1, a2⟩ := a
    obtain ⟨b1, b2⟩ := b
    replace bk : a1 ≤ s.length ∧ a2 ≤ s.length := bk
    replace bj : b1 ≤ s.length ∧ b2 ≤ s.length := bj
    replace hl : a1 < b1 ∨ a1 = b1 ∧ a2 < b2 := hl
    have g1 := gt_fw (a := 4 * (b1 : Int)) (b := 4 * (a1 : Int)) (sm (by omega)) (sm (by omega))
    have g2 := eq_fw (a := 4 * (b1 : Int)) (b := 4 * (a1 : Int)) (sm (by omega)) (sm (by omega))
    have g3 := gt_fw (a := 4 * (b2 : Int)) (b := 4 * (a2 : Int)) (sm (by omega)) (sm (by omega))
    refine spec_mk (z := false) (ts := [.tmp 6]) ok1 Tryd.func4 rfl rfl (by decide +kernel) (by simp [Tryd.ntmps4]) rfl ?_
    rcases hl with hl | ⟨hl, hl2⟩
    · rw [decide_eq_true (show 4 * (a1 : Int) < 4 * (b1 : Int) by omega)] at g1
      repeat' first | refine WE_fit (ssmall_spec) ?_ ?_ | refine WE_fit (o1) ?_ ?_ | refine WE_fit (o2) ?_ ?_ | refine WE_fit (p1) ?_ ?_ | refine WE_fit (p2) ?_ ?_ | simp (maxSteps := 4000000) (disch := omega) only [bunL, bunD, bun, ↓WG_true, ↓WG_false, labelOf, findLabel, ↓reduceIte, imp, shift, killO, hasId, unown, names, plainR, below, noF, isF, lendObs, lendOb, kindOk, ren, givL, updM, backO, renO, belowM, seval, -Int.reduceToNat, g1, B3, B4, B9, B23, B24, bunN, Int.reduceToNat, List.map_nil, List.nil_append, FO_some, CO_some, BI_fadd, BI_fsub, BI_feql, BI_fneq, BI_flss, BI_fleq, BI_fgtr, BI_fgeq, BI_cadd, BI_ceql, BI_cneq, FI_i64, CV_i2f, CV_f2i, CW_i2f, CW_f2i, wopC_real, wopC_imag, wopC_cplx, qopC_real, qopC_imag, qopC_cplx, pureOp_real, pureOp_imag, pureOp_cplx, RE_c, IM_c, CX_f, B2_flt, B2_cpx, wopC_assign_flt, wopC_assign_cpx, f0, f1, fM, c00, c04, c11, c10, c03, c27, c2A, c30, f05, f025, eqff] | exact NK_no _ | refine NK_cl _ _ ?_ | exact Cln.cl | refine clean_tup _ ?_ | refine cleans_cons _ _ ?_ ?_ | refine DR_q _ ?_ | (refine Fk.fk ?_ ?_ <;> intro hg <;> (try simp only [hg]) <;> (try simp only [bunB] at hg) <;> try (exfalso; first | omega | exact Bool.noConfusion hg | exact hg trivial)) | refine And.intro (by omega) ?_ | omega
      all_goals first | omega | trace_state
    · rw [decide_eq_false (show ¬ 4 * (a1 : Int) < 4 * (b1 : Int) by omega)] at g1
      rw [decide_eq_true (show 4 * (b1 : Int) = 4 * (a1 : Int) by omega)] at g2
      rw [decide_eq_true (show 4 * (a2 : Int) < 4 * (b2 : Int) by omega)] at g3
      repeat' first | refine WE_fit (ssmall_spec) ?_ ?_ | refine WE_fit (o1) ?_ ?_ | refine WE_fit (o2) ?_ ?_ | refine WE_fit (p1) ?_ ?_ | refine WE_fit (p2) ?_ ?_ | simp (maxSteps := 4000000) (disch := omega) only [bunL, bunD, bun, ↓WG_true, ↓WG_false, labelOf, findLabel, ↓reduceIte, imp, shift, killO, hasId, unown, names, plainR, below, noF, isF, lendObs, lendOb, kindOk, ren, givL, updM, backO, renO, belowM, seval, -Int.reduceToNat, g1, g2, g3, B3, B4, B9, B23, B24, bunN, Int.reduceToNat, List.map_nil, List.nil_append, FO_some, CO_some, BI_fadd, BI_fsub, BI_feql, BI_fneq, BI_flss, BI_fleq, BI_fgtr, BI_fgeq, BI_cadd, BI_ceql, BI_cneq, FI_i64, CV_i2f, CV_f2i, CW_i2f, CW_f2i, wopC_real, wopC_imag, wopC_cplx, qopC_real, qopC_imag, qopC_cplx, pureOp_real, pureOp_imag, pureOp_cplx, RE_c, IM_c, CX_f, B2_flt, B2_cpx, wopC_assign_flt, wopC_assign_cpx, f0, f1, fM, c00, c04, c11, c10, c03, c27, c2A, c30, f05, f025, eqff] | exact NK_no _ | refine NK_cl _ _ ?_ | exact Cln.cl | refine clean_tup _ ?_ | refine cleans_cons _ _ ?_ ?_ | refine DR_q _ ?_ | (refine Fk.fk ?_ ?_ <;> intro hg <;> (try simp only [hg]) <;> (try simp only [bunB] at hg) <;> try (exfalso; first | omega | exact Bool.noConfusion hg | exact hg trivial)) | refine And.intro (by omega) ?_ | omega
      all_goals first | omega | trace_state
  · refine spec_mk (z := false) (ts := [.tmp 6]) ok1 Tryd.func4 rfl rfl (by decide +kernel) (by simp [Tryd.ntmps4]) rfl ?_
    repeat' first | refine WE_fit (ssmall_spec) ?_ ?_ | simp (maxSteps := 4000000) (disch := omega) only [bunL, bunD, bun, ↓WG_true, ↓WG_false, labelOf, findLabel, ↓reduceIte, imp, shift, killO, hasId, unown, names, plainR, below, noF, isF, lendObs, lendOb, kindOk, ren, givL, updM, backO, renO, belowM, seval, -Int.reduceToNat, B3, B4, B9, B23, B24, bunN, Int.reduceToNat, List.map_nil, List.nil_append, FO_some, CO_some, BI_fadd, BI_fsub, BI_feql, BI_fneq, BI_flss, BI_fleq, BI_fgtr, BI_fgeq, BI_cadd, BI_ceql, BI_cneq, FI_i64, CV_i2f, CV_f2i, CW_i2f, CW_f2i, wopC_real, wopC_imag, wopC_cplx, qopC_real, qopC_imag, qopC_cplx, pureOp_real, pureOp_imag, pureOp_cplx, RE_c, IM_c, CX_f, B2_flt, B2_cpx, wopC_assign_flt, wopC_assign_cpx, f0, f1, fM, c00, c04, c11, c10, c03, c27, c2A, c30, f05, f025, eqff] | exact NK_no _ | refine NK_cl _ _ ?_ | exact Cln.cl | refine clean_tup _ ?_ | refine cleans_cons _ _ ?_ ?_ | refine DR_q _ ?_ | (refine Fk.fk ?_ ?_ <;> intro hg <;> (try simp only [hg]) <;> (try simp only [bunB] at hg) <;> try (exfalso; first | omega | exact Bool.noConfusion hg | exact hg trivial)) | refine And.intro (by omega) ?_ | omega
    all_goals first | omega | trace_state
theorem whn4 {n : Nat} (h : n ≤ 1099511627776) : whn (4 * (n : Int)) = n := by
  unfold whn wh
  split
  · omega
  · split <;> omega
theorem sparts_spec (a b : List UInt8) (l c : Int) (ha : a.length ≤ 9223372036854775807) (hb : b.length ≤ 9223372036854775807) (l0 : 0 ≤ l) (l1 : l ≤ 65535) (c0 : 0 ≤ c) (c1 : c ≤ 65535) :
    Spec Tryd.prog 5 [Sv a, Sv b, .v (.int .u16 l), .v (.int .u16 c)] (Bv true) := by
  obtain ⟨l, rfl⟩ : ∃ K : Nat, l = K := ⟨l.toNat, by omega⟩
  obtain ⟨c, rfl⟩ : ∃ K : Nat, c = K := ⟨c.toNat, by omega⟩
  by_cases h : a.length ≤ 300 ∧ b.length ≤ 300
  · have nl : ((a.length : Int) - 1).toNat = a.length - 1 := by omega
    by_cases hc : 0 < a.length ∧ (a.getD (a.length - 1) 0).toNat = 13 ∧ 0 < b.length ∧ (b.getD 0 0).toNat = 10
    · refine spec_mk (z := false) (ts := [.tmp 8]) ok1 Tryd.func5 rfl rfl (by decide +kernel) (by simp [Tryd.ntmps5]) rfl ?_
      obtain ⟨x1, x2, x3, x4⟩ := hc
      repeat' first | refine WE_fit (ssmall_spec) ?_ ?_ | simp (maxSteps := 4000000) (disch := omega) only [bunL, bunD, bun, ↓WG_true, ↓WG_false, labelOf, findLabel, ↓reduceIte, imp, shift, killO, hasId, unown, names, plainR, below, noF, isF, lendObs, lendOb, kindOk, ren, givL, updM, backO, renO, belowM, seval, -Int.reduceToNat, nl, Int.toNat_zero, B3, B4, B5, B9, B23, B24, B33, bunN, Int.reduceToNat, List.map_nil, List.nil_append, FO_some, CO_some, BI_fadd, BI_fsub, BI_feql, BI_fneq, BI_flss, BI_fleq, BI_fgtr, BI_fgeq, BI_cadd, BI_ceql, BI_cneq, FI_i64, CV_i2f, CV_f2i, CW_i2f, CW_f2i, wopC_real, wopC_imag, wopC_cplx, qopC_real, qopC_imag, qopC_cplx, pureOp_real, pureOp_imag, pureOp_cplx, RE_c, IM_c, CX_f, B2_flt, B2_cpx, wopC_assign_flt, wopC_assign_cpx, f0, f1, fM, c00, c04, c11, c10, c03, c27, c2A, c30, f05, f025, eqff] | exact NK_no _ | refine NK_cl _ _ ?_ | exact Cln.cl | refine clean_tup _ ?_ | refine cleans_cons _ _ ?_ ?_ | refine DR_q _ ?_ | (refine Fk.fk ?_ ?_ <;> intro hg <;> (try simp only [hg]) <;> (try simp only [bunB] at hg) <;> try (exfalso; first | omega | exact Bool.noConfusion hg | exact hg trivial)) | refine And.intro (by omega) ?_ | omega
      all_goals first | omega | trace_state
    · have i1 := nat_fw (n := (l : Int)) (by omega) (by omega)
      have i2 := nat_fw (n := (c : Int)) (by omega) (by omega)
      have s1 := step_spec (4 * (l : Int)) (4 * (c : Int)) a (sm (by omega)) (sm (by omega)) (by omega)
      rw [whn4 (by omega), whn4 (by omega)] at s1
      have sb := stp_bound a l c
      have s2 := step_spec (4 * ((stp a l c).1 : Int)) (4 * ((stp a l c).2 : Int)) b (sm (by omega)) (sm (by omega)) (by omega)
      rw [whn4 (by omega), whn4 (by omega)] at s2
      have s3 := step_spec (4 * (l : Int)) (4 * (c : Int)) (a ++ b) (sm (by omega)) (sm (by omega)) (by simp; omega)
      rw [whn4 (by omega), whn4 (by omega)] at s3
      have hap := stp_append a l c b (fun t u h1 h2 => hc (by
        subst h1; subst h2
        refine ⟨by simp, ?_, by simp, rfl⟩
        rw [List.length_append, List.length_cons, List.length_nil]
        simp [List.getD]))
      rw [hap] at s3
      have b2 := stp_bound b (stp a l c).1 (stp a l c).2
      have hln := stp_lines a l c
      have li := lines_spec a (by omega)
      have lb := stp_bound a 0 0
      replace lb : lines a ≤ 0 + a.length := lb.1
      have i3 := nat_fw (n := (lines a : Int)) (by omega) (by omega)
      have a1 := add_fw (a := 4 * (l : Int)) (b := 4 * (lines a : Int)) (c := 4 * ((stp a l c).1 : Int)) (by omega) (sm (by omega)) (sm (by omega)) (sm (by omega))
      generalize stp b (stp a l c).1 (stp a l c).2 = y at *
      generalize stp a l c = x at *
      refine spec_mk (z := false) (ts := [.tmp 8]) ok1 Tryd.func5 rfl rfl (by decide +kernel) (by simp [Tryd.ntmps5]) rfl ?_
      have hca : 0 < a.length → (a.getD (a.length - 1) 0).toNat = 13 → 0 < b.length → (b.getD 0 0).toNat = 10 → False := fun x1 x2 x3 x4 => hc ⟨x1, x2, x3, x4⟩
      repeat' first | refine WE_fit (ssmall_spec) ?_ ?_ | refine WE_fit (s1) ?_ ?_ | refine WE_fit (s2) ?_ ?_ | refine WE_fit (s3) ?_ ?_ | refine WE_fit (li) ?_ ?_ | simp (maxSteps := 4000000) (disch := omega) only [bunL, bunD, bun, ↓WG_true, ↓WG_false, labelOf, findLabel, ↓reduceIte, imp, shift, killO, hasId, unown, names, plainR, below, noF, isF, lendObs, lendOb, kindOk, ren, givL, updM, backO, renO, belowM, seval, -Int.reduceToNat, nl, i1, i2, i3, a1, Int.toNat_zero, B3, B4, B5, B9, B23, B24, B33, bunN, Int.reduceToNat, List.map_nil, List.nil_append, FO_some, CO_some, BI_fadd, BI_fsub, BI_feql, BI_fneq, BI_flss, BI_fleq, BI_fgtr, BI_fgeq, BI_cadd, BI_ceql, BI_cneq, FI_i64, CV_i2f, CV_f2i, CW_i2f, CW_f2i, wopC_real, wopC_imag, wopC_cplx, qopC_real, qopC_imag, qopC_cplx, pureOp_real, pureOp_imag, pureOp_cplx, RE_c, IM_c, CX_f, B2_flt, B2_cpx, wopC_assign_flt, wopC_assign_cpx, f0, f1, fM, c00, c04, c11, c10, c03, c27, c2A, c30, f05, f025, eqff] | exact NK_no _ | refine NK_cl _ _ ?_ | exact Cln.cl | refine clean_tup _ ?_ | refine cleans_cons _ _ ?_ ?_ | refine DR_q _ ?_ | (refine Fk.fk ?_ ?_ <;> intro hg <;> (try simp only [hg]) <;> (try simp only [bunB] at hg) <;> try (exfalso; first | omega | exact Bool.noConfusion hg | exact hg trivial)) | refine And.intro (by omega) ?_ | omega
      all_goals first | omega | (exfalso; apply hca <;> omega) | trace_state
  · refine spec_mk (z := false) (ts := [.tmp 8]) ok1 Tryd.func5 rfl rfl (by decide +kernel) (by simp [Tryd.ntmps5]) rfl ?_
    repeat' first | refine WE_fit (ssmall_spec) ?_ ?_ | simp (maxSteps := 4000000) (disch := omega) only [bunL, bunD, bun, ↓WG_true, ↓WG_false, labelOf, findLabel, ↓reduceIte, imp, shift, killO, hasId, unown, names, plainR, below, noF, isF, lendObs, lendOb, kindOk, ren, givL, updM, backO, renO, belowM, seval, -Int.reduceToNat, B3, B4, B5, B9, B23, B24, B33, bunN, Int.reduceToNat, List.map_nil, List.nil_append, FO_some, CO_some, BI_fadd, BI_fsub, BI_feql, BI_fneq, BI_flss, BI_fleq, BI_fgtr, BI_fgeq, BI_cadd, BI_ceql, BI_cneq, FI_i64, CV_i2f, CV_f2i, CW_i2f, CW_f2i, wopC_real, wopC_imag, wopC_cplx, qopC_real, qopC_imag, qopC_cplx, pureOp_real, pureOp_imag, pureOp_cplx, RE_c, IM_c, CX_f, B2_flt, B2_cpx, wopC_assign_flt, wopC_assign_cpx, f0, f1, fM, c00, c04, c11, c10, c03, c27, c2A, c30, f05, f025, eqff] | exact NK_no _ | refine NK_cl _ _ ?_ | exact Cln.cl | refine clean_tup _ ?_ | refine cleans_cons _ _ ?_ ?_ | refine DR_q _ ?_ | (refine Fk.fk ?_ ?_ <;> intro hg <;> (try simp only [hg]) <;> (try simp only [bunB] at hg) <;> try (exfalso; first | omega | exact Bool.noConfusion hg | exact hg trivial)) | refine And.intro (by omega) ?_ | omega
    all_goals first | omega | trace_state
theorem splain_spec (s : List UInt8) (k : Int) (hs : s.length ≤ 9223372036854775807) (k0 : -9223372036854775808 ≤ k) (k1 : k ≤ 9223372036854775807) :
    Spec Tryd.prog 6 [Sv s, I64 k] (Bv true) := by
  by_cases h : s.length ≤ 300
  · have li := lines_spec s (by omega)
    by_cases hl : lines s = 0
    · rw [hl] at li
      by_cases hk : 0 ≤ k ∧ k ≤ s.length
      · obtain ⟨K, rfl⟩ : ∃ K : Nat, k = K := ⟨k.toNat, by omega⟩
        have o1 := of_at s K (by omega) (by omega)
        rw [plain_spot hl (by omega)] at o1
        have i1 := nat_fw (n := (K : Int)) (by omega) (by omega)
        have p1 := place_yes s 0 (4 * (K : Int)) (by decide) (sm (by omega)) (by omega) K (by omega) (by unfold atS; rw [plain_spot hl (by omega)]; exact ⟨rfl, rfl⟩) (fun j hj => by unfold atS; rw [plain_spot hl (by omega)]; rintro ⟨_, h2⟩; replace h2 : 4 * (j : Int) = 4 * (K : Int) := h2; omega)
        have p2 := place_no s 4 0 (by decide) (by decide) (by omega) (fun j hj => by unfold atS; rw [plain_spot hl (by omega)]; rintro ⟨h1, _⟩; replace h1 : 4 * ((0 : Nat) : Int) = 4 := h1; omega)
        have o2 : Spec Tryd.prog 13 [Sv s, I64 K] (Cv 0 (4 * (K : Int))) := o1
        clear o1
        refine spec_mk (z := false) (ts := [.tmp 4]) ok1 Tryd.func6 rfl rfl (by decide +kernel) (by simp [Tryd.ntmps6]) rfl ?_
        repeat' first | refine WE_fit (ssmall_spec) ?_ ?_ | refine WE_fit (li) ?_ ?_ | refine WE_fit (o2) ?_ ?_ | refine WE_fit (p1) ?_ ?_ | refine WE_fit (p2) ?_ ?_ | simp (maxSteps := 4000000) (disch := omega) only [bunL, bunD, bun, ↓WG_true, ↓WG_false, labelOf, findLabel, ↓reduceIte, imp, shift, killO, hasId, unown, names, plainR, below, noF, isF, lendObs, lendOb, kindOk, ren, givL, updM, backO, renO, belowM, seval, -Int.reduceToNat, i1, B3, B4, B9, B23, B24, bunN, Int.reduceToNat, List.map_nil, List.nil_append, FO_some, CO_some, BI_fadd, BI_fsub, BI_feql, BI_fneq, BI_flss, BI_fleq, BI_fgtr, BI_fgeq, BI_cadd, BI_ceql, BI_cneq, FI_i64, CV_i2f, CV_f2i, CW_i2f, CW_f2i, wopC_real, wopC_imag, wopC_cplx, qopC_real, qopC_imag, qopC_cplx, pureOp_real, pureOp_imag, pureOp_cplx, RE_c, IM_c, CX_f, B2_flt, B2_cpx, wopC_assign_flt, wopC_assign_cpx, f0, f1, fM, c00, c04, c11, c10, c03, c27, c2A, c30, f05, f025, eqff] | exact NK_no _ | refine NK_cl _ _ ?_ | exact Cln.cl | refine clean_tup _ ?_ | refine cleans_cons _ _ ?_ ?_ | refine DR_q _ ?_ | (refine Fk.fk ?_ ?_ <;> intro hg <;> (try simp only [hg]) <;> (try simp only [bunB] at hg) <;> try (exfalso; first | omega | exact Bool.noConfusion hg | exact hg trivial)) | refine And.intro (by omega) ?_ | omega
        all_goals first | omega | trace_state
      · refine spec_mk (z := false) (ts := [.tmp 4]) ok1 Tryd.func6 rfl rfl (by decide +kernel) (by simp [Tryd.ntmps6]) rfl ?_
        repeat' first | refine WE_fit (ssmall_spec) ?_ ?_ | refine WE_fit (li) ?_ ?_ | simp (maxSteps := 4000000) (disch := omega) only [bunL, bunD, bun, ↓WG_true, ↓WG_false, labelOf, findLabel, ↓reduceIte, imp, shift, killO, hasId, unown, names, plainR, below, noF, isF, lendObs, lendOb, kindOk, ren, givL, updM, backO, renO, belowM, seval, -Int.reduceToNat, B3, B4, B9, B23, B24, bunN, Int.reduceToNat, List.map_nil, List.nil_append, FO_some, CO_some, BI_fadd, BI_fsub, BI_feql, BI_fneq, BI_flss, BI_fleq, BI_fgtr, BI_fgeq, BI_cadd, BI_ceql, BI_cneq, FI_i64, CV_i2f, CV_f2i, CW_i2f, CW_f2i, wopC_real, wopC_imag, wopC_cplx, qopC_real, qopC_imag, qopC_cplx, pureOp_real, pureOp_imag, pureOp_cplx, RE_c, IM_c, CX_f, B2_flt, B2_cpx, wopC_assign_flt, wopC_assign_cpx, f0, f1, fM, c00, c04, c11, c10, c03, c27, c2A, c30, f05, f025, eqff] | exact NK_no _ | refine NK_cl _ _ ?_ | exact Cln.cl | refine clean_tup _ ?_ | refine cleans_cons _ _ ?_ ?_ | refine DR_q _ ?_ | (refine Fk.fk ?_ ?_ <;> intro hg <;> (try simp only [hg]) <;> (try simp only [bunB] at hg) <;> try (exfalso; first | omega | exact Bool.noConfusion hg | exact hg trivial)) | refine And.intro (by omega) ?_ | omega
        all_goals first | omega | trace_state
    · have l0 : 0 < lines s := by omega
      refine spec_mk (z := false) (ts := [.tmp 4]) ok1 Tryd.func6 rfl rfl (by decide +kernel) (by simp [Tryd.ntmps6]) rfl ?_
      repeat' first | refine WE_fit (ssmall_spec) ?_ ?_ | refine WE_fit (li) ?_ ?_ | simp (maxSteps := 4000000) (disch := omega) only [bunL, bunD, bun, ↓WG_true, ↓WG_false, labelOf, findLabel, ↓reduceIte, imp, shift, killO, hasId, unown, names, plainR, below, noF, isF, lendObs, lendOb, kindOk, ren, givL, updM, backO, renO, belowM, seval, -Int.reduceToNat, B3, B4, B9, B23, B24, bunN, Int.reduceToNat, List.map_nil, List.nil_append, FO_some, CO_some, BI_fadd, BI_fsub, BI_feql, BI_fneq, BI_flss, BI_fleq, BI_fgtr, BI_fgeq, BI_cadd, BI_ceql, BI_cneq, FI_i64, CV_i2f, CV_f2i, CW_i2f, CW_f2i, wopC_real, wopC_imag, wopC_cplx, qopC_real, qopC_imag, qopC_cplx, pureOp_real, pureOp_imag, pureOp_cplx, RE_c, IM_c, CX_f, B2_flt, B2_cpx, wopC_assign_flt, wopC_assign_cpx, f0, f1, fM, c00, c04, c11, c10, c03, c27, c2A, c30, f05, f025, eqff] | exact NK_no _ | refine NK_cl _ _ ?_ | exact Cln.cl | refine clean_tup _ ?_ | refine cleans_cons _ _ ?_ ?_ | refine DR_q _ ?_ | (refine Fk.fk ?_ ?_ <;> intro hg <;> (try simp only [hg]) <;> (try simp only [bunB] at hg) <;> try (exfalso; first | omega | exact Bool.noConfusion hg | exact hg trivial)) | refine And.intro (by omega) ?_ | omega
      all_goals first | omega | trace_state
  · refine spec_mk (z := false) (ts := [.tmp 4]) ok1 Tryd.func6 rfl rfl (by decide +kernel) (by simp [Tryd.ntmps6]) rfl ?_
    repeat' first | refine WE_fit (ssmall_spec) ?_ ?_ | simp (maxSteps := 4000000) (disch := omega) only [bunL, bunD, bun, ↓WG_true, ↓WG_false, labelOf, findLabel, ↓reduceIte, imp, shift, killO, hasId, unown, names, plainR, below, noF, isF, lendObs, lendOb, kindOk, ren, givL, updM, backO, renO, belowM, seval, -Int.reduceToNat, B3, B4, B9, B23, B24, bunN, Int.reduceToNat, List.map_nil, List.nil_append, FO_some, CO_some, BI_fadd, BI_fsub, BI_feql, BI_fneq, BI_flss, BI_fleq, BI_fgtr, BI_fgeq, BI_cadd, BI_ceql, BI_cneq, FI_i64, CV_i2f, CV_f2i, CW_i2f, CW_f2i, wopC_real, wopC_imag, wopC_cplx, qopC_real, qopC_imag, qopC_cplx, pureOp_real, pureOp_imag, pureOp_cplx, RE_c, IM_c, CX_f, B2_flt, B2_cpx, wopC_assign_flt, wopC_assign_cpx, f0, f1, fM, c00, c04, c11, c10, c03, c27, c2A, c30, f05, f025, eqff] | exact NK_no _ | refine NK_cl _ _ ?_ | exact Cln.cl | refine clean_tup _ ?_ | refine cleans_cons _ _ ?_ ?_ | refine DR_q _ ?_ | (refine Fk.fk ?_ ?_ <;> intro hg <;> (try simp only [hg]) <;> (try simp only [bunB] at hg) <;> try (exfalso; first | omega | exact Bool.noConfusion hg | exact hg trivial)) | refine And.intro (by omega) ?_ | omega
    all_goals first | omega | trace_state
theorem text_at (s : List UInt8) (k : Nat) (hs : s.length ≤ 1000000) : Spec Tryd.prog 17 [spv (spot s k)] (Sv (txt ((spot s k).1 + 1) ((spot s k).2 + 1))) := by
  have hb := spot_bound s k
  have h := text_spec (4 * ((spot s k).1 : Int)) (4 * ((spot s k).2 : Int)) (sm (by omega)) (sm (by omega))
  rw [whn4 (by omega), whn4 (by omega)] at h
  exact h
theorem stexts_spec (s : List UInt8) (k j : Int) (hs : s.length ≤ 9223372036854775807) (k0 : -9223372036854775808 ≤ k) (k1 : k ≤ 9223372036854775807) (j0 : -9223372036854775808 ≤ j) (j1 : j ≤ 9223372036854775807) :
    Spec Tryd.prog 7 [Sv s, I64 k, I64 j] (Bv true) := by
  by_cases h : s.length ≤ 300 ∧ 0 ≤ k ∧ k ≤ s.length ∧ 0 ≤ j ∧ j ≤ s.length
  · obtain ⟨h1, h2, h3, h4, h5⟩ := h
    obtain ⟨K, rfl⟩ : ∃ K : Nat, k = K := ⟨k.toNat, by omega⟩
    obtain ⟨J, rfl⟩ : ∃ J : Nat, j = J := ⟨j.toNat, by omega⟩
    have o1 := of_at s K (by omega) (by omega)
    have o2 := of_at s J (by omega) (by omega)
    have t1 := text_at s K (by omega)
    have t2 := text_at s J (by omega)
    by_cases e : K = J
    · subst e
      refine spec_mk (z := false) (ts := [.tmp 6]) ok1 Tryd.func7 rfl rfl (by decide +kernel) (by simp [Tryd.ntmps7]) rfl ?_
      repeat' first | refine WE_fit (ssmall_spec) ?_ ?_ | refine WE_fit (o1) ?_ ?_ | refine WE_fit (t1) ?_ ?_ | simp (maxSteps := 4000000) (disch := omega) only [bunL, bunD, bun, ↓WG_true, ↓WG_false, labelOf, findLabel, ↓reduceIte, imp, shift, killO, hasId, unown, names, plainR, below, noF, isF, lendObs, lendOb, kindOk, ren, givL, updM, backO, renO, belowM, seval, -Int.reduceToNat, B3, B4, B9, B23, bunN, Int.reduceToNat, List.map_nil, List.nil_append, FO_some, CO_some, BI_fadd, BI_fsub, BI_feql, BI_fneq, BI_flss, BI_fleq, BI_fgtr, BI_fgeq, BI_cadd, BI_ceql, BI_cneq, FI_i64, CV_i2f, CV_f2i, CW_i2f, CW_f2i, wopC_real, wopC_imag, wopC_cplx, qopC_real, qopC_imag, qopC_cplx, pureOp_real, pureOp_imag, pureOp_cplx, RE_c, IM_c, CX_f, B2_flt, B2_cpx, wopC_assign_flt, wopC_assign_cpx, f0, f1, fM, c00, c04, c11, c10, c03, c27, c2A, c30, f05, f025, eqff] | exact NK_no _ | refine NK_cl _ _ ?_ | exact Cln.cl | refine clean_tup _ ?_ | refine cleans_cons _ _ ?_ ?_ | refine DR_q _ ?_ | (refine Fk.fk ?_ ?_ <;> intro hg <;> (try simp only [hg]) <;> (try simp only [bunB] at hg) <;> try (exfalso; first | omega | exact Bool.noConfusion hg | exact hg trivial)) | refine And.intro (by omega) ?_ | omega
      all_goals first | omega | trace_state
    · have hne : (txt ((spot s K).1 + 1) ((spot s K).2 + 1) == txt ((spot s J).1 + 1) ((spot s J).2 + 1)) = false := by
        rw [beq_eq_false_iff_ne]
        intro h
        have := txt_inj h
        exact spot_ne (s := s) e (by omega) (by omega) (Prod.ext (by omega) (by omega))
      have hkj : ((K : Int) == (J : Int)) = false := by rw [beq_eq_false_iff_ne]; omega
      generalize txt ((spot s K).1 + 1) ((spot s K).2 + 1) = X at *
      generalize txt ((spot s J).1 + 1) ((spot s J).2 + 1) = Y at *
      refine spec_mk (z := false) (ts := [.tmp 6]) ok1 Tryd.func7 rfl rfl (by decide +kernel) (by simp [Tryd.ntmps7]) rfl ?_
      repeat' first | refine WE_fit (ssmall_spec) ?_ ?_ | refine WE_fit (o1) ?_ ?_ | refine WE_fit (o2) ?_ ?_ | refine WE_fit (t1) ?_ ?_ | refine WE_fit (t2) ?_ ?_ | simp (maxSteps := 4000000) (disch := omega) only [bunL, bunD, bun, ↓WG_true, ↓WG_false, labelOf, findLabel, ↓reduceIte, imp, shift, killO, hasId, unown, names, plainR, below, noF, isF, lendObs, lendOb, kindOk, ren, givL, updM, backO, renO, belowM, seval, -Int.reduceToNat, hne, hkj, B3, B4, B9, B23, bunN, Int.reduceToNat, List.map_nil, List.nil_append, FO_some, CO_some, BI_fadd, BI_fsub, BI_feql, BI_fneq, BI_flss, BI_fleq, BI_fgtr, BI_fgeq, BI_cadd, BI_ceql, BI_cneq, FI_i64, CV_i2f, CV_f2i, CW_i2f, CW_f2i, wopC_real, wopC_imag, wopC_cplx, qopC_real, qopC_imag, qopC_cplx, pureOp_real, pureOp_imag, pureOp_cplx, RE_c, IM_c, CX_f, B2_flt, B2_cpx, wopC_assign_flt, wopC_assign_cpx, f0, f1, fM, c00, c04, c11, c10, c03, c27, c2A, c30, f05, f025, eqff] | exact NK_no _ | refine NK_cl _ _ ?_ | exact Cln.cl | refine clean_tup _ ?_ | refine cleans_cons _ _ ?_ ?_ | refine DR_q _ ?_ | (refine Fk.fk ?_ ?_ <;> intro hg <;> (try simp only [hg]) <;> (try simp only [bunB] at hg) <;> try (exfalso; first | omega | exact Bool.noConfusion hg | exact hg trivial)) | refine And.intro (by omega) ?_ | omega
      all_goals first | omega | trace_state
  · refine spec_mk (z := false) (ts := [.tmp 6]) ok1 Tryd.func7 rfl rfl (by decide +kernel) (by simp [Tryd.ntmps7]) rfl ?_
    repeat' first | refine WE_fit (ssmall_spec) ?_ ?_ | simp (maxSteps := 4000000) (disch := omega) only [bunL, bunD, bun, ↓WG_true, ↓WG_false, labelOf, findLabel, ↓reduceIte, imp, shift, killO, hasId, unown, names, plainR, below, noF, isF, lendObs, lendOb, kindOk, ren, givL, updM, backO, renO, belowM, seval, -Int.reduceToNat, B3, B4, B9, B23, bunN, Int.reduceToNat, List.map_nil, List.nil_append, FO_some, CO_some, BI_fadd, BI_fsub, BI_feql, BI_fneq, BI_flss, BI_fleq, BI_fgtr, BI_fgeq, BI_cadd, BI_ceql, BI_cneq, FI_i64, CV_i2f, CV_f2i, CW_i2f, CW_f2i, wopC_real, wopC_imag, wopC_cplx, qopC_real, qopC_imag, qopC_cplx, pureOp_real, pureOp_imag, pureOp_cplx, RE_c, IM_c, CX_f, B2_flt, B2_cpx, wopC_assign_flt, wopC_assign_cpx, f0, f1, fM, c00, c04, c11, c10, c03, c27, c2A, c30, f05, f025, eqff] | exact NK_no _ | refine NK_cl _ _ ?_ | exact Cln.cl | refine clean_tup _ ?_ | refine cleans_cons _ _ ?_ ?_ | refine DR_q _ ?_ | (refine Fk.fk ?_ ?_ <;> intro hg <;> (try simp only [hg]) <;> (try simp only [bunB] at hg) <;> try (exfalso; first | omega | exact Bool.noConfusion hg | exact hg trivial)) | refine And.intro (by omega) ?_ | omega
    all_goals first | omega | trace_state
theorem first_of (P : Nat → Prop) (n : Nat) : (∃ m, m ≤ n ∧ P m ∧ ∀ j, j < m → ¬ P j) ∨ ∀ j, j ≤ n → ¬ P j := by
  induction n with
  | zero =>
    by_cases h : P 0
    · exact .inl ⟨0, Nat.le_refl _, h, fun j hj => by omega⟩
    · exact .inr fun j hj => by obtain rfl : j = 0 := by omega
                                exact h
  | succ n ih =>
    rcases ih with ⟨m, h1, h2, h3⟩ | h
    · exact .inl ⟨m, by omega, h2, h3⟩
    · by_cases hp : P (n + 1)
      · exact .inl ⟨n + 1, Nat.le_refl _, hp, fun j hj => h j (by omega)⟩
      · refine .inr fun j hj => ?_
        by_cases e : j = n + 1
        · subst e; exact hp
        · exact h j (by omega)
theorem stells_spec (s : List UInt8) (k l c : Int) (hs : s.length ≤ 9223372036854775807) (k0 : -9223372036854775808 ≤ k) (k1 : k ≤ 9223372036854775807) (l0 : -9223372036854775808 ≤ l) (l1 : l ≤ 9223372036854775807) (c0 : -9223372036854775808 ≤ c) (c1 : c ≤ 9223372036854775807) :
    Spec Tryd.prog 3 [Sv s, I64 k, I64 l, I64 c] (Bv true) := by
  by_cases h : s.length ≤ 300 ∧ -5 ≤ l ∧ l ≤ 2199023255552 ∧ -5 ≤ c ∧ c ≤ 2199023255552
  · obtain ⟨h1, h2, h3, h4, h5⟩ := h
    have ml : small53 (4 * l) := by unfold small53; omega
    have mc : small53 (4 * c) := by unfold small53; omega
    have ml2 : small53 (4 * l + 2) := by unfold small53; omega
    have mc2 : small53 (4 * c - 1) := by unfold small53; omega
    have i1 := nat_fw (n := l) (by omega) (by omega)
    have i2 := nat_fw (n := c) (by omega) (by omega)
    have a1 := add_fw (a := 4 * l) (b := 2) (c := 4 * l + 2) rfl ml (by decide) ml2
    have a2 := sub_fw (a := 4 * c) (b := 1) (c := 4 * c - 1) rfl mc (by decide) mc2
    have s1 := step_spec (4 * l + 2) (4 * c - 1) s ml2 mc2 (by omega)
    have s2 := rstep_spec (4 * l + 2) (4 * c - 1) s ml2 mc2 (by omega)
    have o1 := of_spec s k (by omega)
    have o2 := rof_spec s k (by omega)
    have n1 := lines_spec s (by omega)
    have n2 := rlines_spec s (by omega)
    have t1 := text_spec (4 * l + 2) (4 * c - 1) ml2 mc2
    have t2 := rtext_spec (4 * l + 2) (4 * c - 1) ml2 mc2
    have bs := stp_bound s (whn (4 * l + 2)) (whn (4 * c - 1))
    have w1 := whn_bound (4 * l + 2)
    have w2 := whn_bound (4 * c - 1)
    have bo := spot_bound s (clampN k s.length)
    generalize stp s (whn (4 * l + 2)) (whn (4 * c - 1)) = X at *
    generalize spot s (clampN k s.length) = Y at *
    generalize txt (whn (4 * l + 2) + 1) (whn (4 * c - 1) + 1) = Z at *
    refine spec_mk (z := false) (ts := [.tmp 8]) ok1 Tryd.func3 rfl rfl (by decide +kernel) (by simp [Tryd.ntmps3]) rfl ?_
    rcases first_of (fun m => atS s m (4 * l) (4 * c)) s.length with ⟨m, m1, m2, m3⟩ | hno
    · have p1 := place_yes s (4 * l) (4 * c) ml mc (by omega) m m1 m2 m3
      have p2 := rplace_yes s (4 * l) (4 * c) ml mc (by omega) m m1 m2 m3
      repeat' first | refine WE_fit (ssmall_spec) ?_ ?_ | refine WE_fit (p1) ?_ ?_ | refine WE_fit (p2) ?_ ?_ | refine WE_fit (s1) ?_ ?_ | refine WE_fit (s2) ?_ ?_ | refine WE_fit (o1) ?_ ?_ | refine WE_fit (o2) ?_ ?_ | refine WE_fit (n1) ?_ ?_ | refine WE_fit (n2) ?_ ?_ | refine WE_fit (t1) ?_ ?_ | refine WE_fit (t2) ?_ ?_ | simp (maxSteps := 4000000) (disch := omega) only [bunL, bunD, bun, ↓WG_true, ↓WG_false, labelOf, findLabel, ↓reduceIte, imp, shift, killO, hasId, unown, names, plainR, below, noF, isF, lendObs, lendOb, kindOk, ren, givL, updM, backO, renO, belowM, seval, -Int.reduceToNat, i1, i2, a1, a2, B3, B4, B9, B23, B24, bunN, Int.reduceToNat, List.map_nil, List.nil_append, FO_some, CO_some, BI_fadd, BI_fsub, BI_feql, BI_fneq, BI_flss, BI_fleq, BI_fgtr, BI_fgeq, BI_cadd, BI_ceql, BI_cneq, FI_i64, CV_i2f, CV_f2i, CW_i2f, CW_f2i, wopC_real, wopC_imag, wopC_cplx, qopC_real, qopC_imag, qopC_cplx, pureOp_real, pureOp_imag, pureOp_cplx, RE_c, IM_c, CX_f, B2_flt, B2_cpx, wopC_assign_flt, wopC_assign_cpx, f0, f1, fM, c00, c04, c11, c10, c03, c27, c2A, c30, f05, f025, eqff] | exact NK_no _ | refine NK_cl _ _ ?_ | exact Cln.cl | refine clean_tup _ ?_ | refine cleans_cons _ _ ?_ ?_ | refine DR_q _ ?_ | (refine Fk.fk ?_ ?_ <;> intro hg <;> (try simp only [hg]) <;> (try simp only [bunB] at hg) <;> try (exfalso; first | omega | exact Bool.noConfusion hg | exact hg trivial)) | refine And.intro (by omega) ?_ | omega
      all_goals first | omega | trace_state
    · have p1 := place_no s (4 * l) (4 * c) ml mc (by omega) hno
      have p2 := rplace_no s (4 * l) (4 * c) ml mc (by omega) hno
      repeat' first | refine WE_fit (ssmall_spec) ?_ ?_ | refine WE_fit (p1) ?_ ?_ | refine WE_fit (p2) ?_ ?_ | refine WE_fit (s1) ?_ ?_ | refine WE_fit (s2) ?_ ?_ | refine WE_fit (o1) ?_ ?_ | refine WE_fit (o2) ?_ ?_ | refine WE_fit (n1) ?_ ?_ | refine WE_fit (n2) ?_ ?_ | refine WE_fit (t1) ?_ ?_ | refine WE_fit (t2) ?_ ?_ | simp (maxSteps := 4000000) (disch := omega) only [bunL, bunD, bun, ↓WG_true, ↓WG_false, labelOf, findLabel, ↓reduceIte, imp, shift, killO, hasId, unown, names, plainR, below, noF, isF, lendObs, lendOb, kindOk, ren, givL, updM, backO, renO, belowM, seval, -Int.reduceToNat, i1, i2, a1, a2, B3, B4, B9, B23, B24, bunN, Int.reduceToNat, List.map_nil, List.nil_append, FO_some, CO_some, BI_fadd, BI_fsub, BI_feql, BI_fneq, BI_flss, BI_fleq, BI_fgtr, BI_fgeq, BI_cadd, BI_ceql, BI_cneq, FI_i64, CV_i2f, CV_f2i, CW_i2f, CW_f2i, wopC_real, wopC_imag, wopC_cplx, qopC_real, qopC_imag, qopC_cplx, pureOp_real, pureOp_imag, pureOp_cplx, RE_c, IM_c, CX_f, B2_flt, B2_cpx, wopC_assign_flt, wopC_assign_cpx, f0, f1, fM, c00, c04, c11, c10, c03, c27, c2A, c30, f05, f025, eqff] | exact NK_no _ | refine NK_cl _ _ ?_ | exact Cln.cl | refine clean_tup _ ?_ | refine cleans_cons _ _ ?_ ?_ | refine DR_q _ ?_ | (refine Fk.fk ?_ ?_ <;> intro hg <;> (try simp only [hg]) <;> (try simp only [bunB] at hg) <;> try (exfalso; first | omega | exact Bool.noConfusion hg | exact hg trivial)) | refine And.intro (by omega) ?_ | omega
      all_goals first | omega | trace_state
  · refine spec_mk (z := false) (ts := [.tmp 8]) ok1 Tryd.func3 rfl rfl (by decide +kernel) (by simp [Tryd.ntmps3]) rfl ?_
    repeat' first | refine WE_fit (ssmall_spec) ?_ ?_ | simp (maxSteps := 4000000) (disch := omega) only [bunL, bunD, bun, ↓WG_true, ↓WG_false, labelOf, findLabel, ↓reduceIte, imp, shift, killO, hasId, unown, names, plainR, below, noF, isF, lendObs, lendOb, kindOk, ren, givL, updM, backO, renO, belowM, seval, -Int.reduceToNat, B3, B4, B9, B23, B24, bunN, Int.reduceToNat, List.map_nil, List.nil_append, FO_some, CO_some, BI_fadd, BI_fsub, BI_feql, BI_fneq, BI_flss, BI_fleq, BI_fgtr, BI_fgeq, BI_cadd, BI_ceql, BI_cneq, FI_i64, CV_i2f, CV_f2i, CW_i2f, CW_f2i, wopC_real, wopC_imag, wopC_cplx, qopC_real, qopC_imag, qopC_cplx, pureOp_real, pureOp_imag, pureOp_cplx, RE_c, IM_c, CX_f, B2_flt, B2_cpx, wopC_assign_flt, wopC_assign_cpx, f0, f1, fM, c00, c04, c11, c10, c03, c27, c2A, c30, f05, f025, eqff] | exact NK_no _ | refine NK_cl _ _ ?_ | exact Cln.cl | refine clean_tup _ ?_ | refine cleans_cons _ _ ?_ ?_ | refine DR_q _ ?_ | (refine Fk.fk ?_ ?_ <;> intro hg <;> (try simp only [hg]) <;> (try simp only [bunB] at hg) <;> try (exfalso; first | omega | exact Bool.noConfusion hg | exact hg trivial)) | refine And.intro (by omega) ?_ | omega
    all_goals first | omega | trace_state
end Go.AE
end
