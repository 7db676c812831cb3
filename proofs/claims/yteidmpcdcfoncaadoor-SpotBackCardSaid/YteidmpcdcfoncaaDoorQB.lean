/- Contracts of functions that the laws of this seat reach, and plain laws of what they compute. No condition beyond each statement's own. -/
import Derived.Test.YteidmpcdcfoncaaDoorQA
set_option linter.unusedVariables false
set_option linter.unusedSimpArgs false
section
/- Spots: places, texts. -/
namespace Go.AE
open Go.Proofs
set_option maxRecDepth 20000
set_option maxHeartbeats 8000000
set_option linter.unusedSimpArgs false
theorem c04 : Value.complex .f64 0 4607182418800017408 = .complex .f64 (fw 0) (fw 4) := by rw [show fw 0 = 0 by decide, show fw 4 = 4607182418800017408 by decide]
def atS (s : List UInt8) (k : Nat) (p q : Int) : Prop := 4 * ((spot s k).1 : Int) = p ∧ 4 * ((spot s k).2 : Int) = q
theorem spot_past (s : List UInt8) {k : Nat} (h : s.length ≤ k) : spot s k = spot s s.length := by
  unfold spot; rw [List.take_of_length_le h, List.take_length]
theorem at_eq (s : List UInt8) (k : Nat) (p q : Int) (hp : small53 p) (hq : small53 q) (hs : s.length ≤ 1000000) (h : atS s k p q) : (ford (fw (4 * ((spot s k).1 : Int))) (fw p) == some .eq && ford (fw (4 * ((spot s k).2 : Int))) (fw q) == some .eq) = true := by
  have hb := spot_bound s k
  rw [eq_fw (sm (by omega)) hp, eq_fw (sm (by omega)) hq, decide_eq_true h.1, decide_eq_true h.2]; rfl
theorem at_ne (s : List UInt8) (k : Nat) (p q : Int) (hp : small53 p) (hq : small53 q) (hs : s.length ≤ 1000000) (h : ¬ atS s k p q) : (ford (fw (4 * ((spot s k).1 : Int))) (fw p) == some .eq && ford (fw (4 * ((spot s k).2 : Int))) (fw q) == some .eq) = false := by
  have hb := spot_bound s k
  rw [eq_fw (sm (by omega)) hp, eq_fw (sm (by omega)) hq]
  rw [Bool.and_eq_false_iff]
  by_cases h1 : 4 * ((spot s k).1 : Int) = p
  · right; exact decide_eq_false fun h2 => h ⟨h1, h2⟩
  · left; exact decide_eq_false h1
theorem place_yes (s : List UInt8) (p q : Int) (hp : small53 p) (hq : small53 q) (hs : s.length ≤ 1000000) (m : Nat) (hm : m ≤ s.length) (hy : atS s m p q) (hn : ∀ j, j < m → ¬ atS s j p q) : Spec Tryd.prog 9 [Sv s, Cv p q] (.tup [I64 m, Bv true]) := by
  refine spec_mk (z := false) (ts := [.tmp 4, .tmp 5]) ok1 Tryd.func9 rfl rfl (by decide +kernel) (by simp [Tryd.ntmps9]) rfl ?_
  repeat' first | simp (maxSteps := 4000000) (disch := omega) only [bunL, bunD, bun, ↓WG_true, ↓WG_false, labelOf, findLabel, ↓reduceIte, imp, shift, killO, hasId, unown, names, plainR, below, noF, isF, lendObs, lendOb, kindOk, ren, givL, updM, backO, renO, belowM, seval, -Int.reduceToNat, B3, B4, B5, B9, B23, B24, bunN, Int.reduceToNat, List.map_nil, List.nil_append, FO_some, CO_some, BI_fadd, BI_fsub, BI_feql, BI_fneq, BI_flss, BI_fleq, BI_fgtr, BI_fgeq, BI_cadd, BI_ceql, BI_cneq, FI_i64, CV_i2f, CV_f2i, CW_i2f, CW_f2i, wopC_real, wopC_imag, wopC_cplx, qopC_real, qopC_imag, qopC_cplx, pureOp_real, pureOp_imag, pureOp_cplx, RE_c, IM_c, CX_f, B2_flt, B2_cpx, wopC_assign_flt, wopC_assign_cpx, f0, f1, fM, c00, c04] | refine DR_q _ ?_ | (refine Fk.fk ?_ ?_ <;> intro hg <;> (try simp only [hg]) <;> (try simp only [bunB] at hg) <;> try (exfalso; first | omega | exact Bool.noConfusion hg | exact hg trivial)) | refine And.intro (by omega) ?_ | omega
  refine LP_intro (fun k : Nat => ⟨[(0, Sv s), (1, Cv p q), (6, spv (spot s k)), (10, I64 ((s.length : Int) + 1)), (11, I64 k)], []⟩) (fun k => k ≤ m) (fun k => s.length + 1 - k) 0 (by simp) (by rw [spot_zero]; (simp (disch := omega) [wk, wkT, wkM, noF, isF, get, belowT, belowM, below, belows, I64, I32, Bv, U8, Sv, List.map_nil] <;> try omega)) ?_
  intro k hk
  replace hk : k ≤ m := hk
  have hb := spot_bound s k
  by_cases hkm : k = m
  · subst hkm
    have hye := at_eq s k p q hp hq hs hy
    repeat' first | simp (maxSteps := 4000000) (disch := omega) only [bunL, bunD, bun, ↓WG_true, ↓WG_false, labelOf, findLabel, ↓reduceIte, imp, shift, killO, hasId, unown, names, plainR, below, noF, isF, lendObs, lendOb, kindOk, ren, givL, updM, backO, renO, belowM, seval, -Int.reduceToNat, hye, B3, B4, B5, B9, B23, B24, bunN, Int.reduceToNat, List.map_nil, List.nil_append, FO_some, CO_some, BI_fadd, BI_fsub, BI_feql, BI_fneq, BI_flss, BI_fleq, BI_fgtr, BI_fgeq, BI_cadd, BI_ceql, BI_cneq, FI_i64, CV_i2f, CV_f2i, CW_i2f, CW_f2i, wopC_real, wopC_imag, wopC_cplx, qopC_real, qopC_imag, qopC_cplx, pureOp_real, pureOp_imag, pureOp_cplx, RE_c, IM_c, CX_f, B2_flt, B2_cpx, wopC_assign_flt, wopC_assign_cpx, f0, f1, fM, c00, c04] | refine DR_q _ ?_ | (refine Fk.fk ?_ ?_ <;> intro hg <;> (try simp only [hg]) <;> (try simp only [bunB] at hg) <;> try (exfalso; first | omega | exact Bool.noConfusion hg | exact hg trivial)) | refine And.intro (by omega) ?_ | omega
    all_goals first | omega | trace_state
  · have hne := at_ne s k p q hp hq hs (hn k (by omega))
    by_cases hkl : k = s.length
    · have e1 : spot s (k + 1) = spot s k := by rw [spot_past s (k := k + 1) (by omega), hkl]
      repeat' first | simp (maxSteps := 4000000) (disch := omega) only [bunL, bunD, bun, ↓WG_true, ↓WG_false, labelOf, findLabel, ↓reduceIte, imp, shift, killO, hasId, unown, names, plainR, below, noF, isF, lendObs, lendOb, kindOk, ren, givL, updM, backO, renO, belowM, seval, -Int.reduceToNat, hne, B3, B4, B5, B9, B23, B24, bunN, Int.reduceToNat, List.map_nil, List.nil_append, FO_some, CO_some, BI_fadd, BI_fsub, BI_feql, BI_fneq, BI_flss, BI_fleq, BI_fgtr, BI_fgeq, BI_cadd, BI_ceql, BI_cneq, FI_i64, CV_i2f, CV_f2i, CW_i2f, CW_f2i, wopC_real, wopC_imag, wopC_cplx, qopC_real, qopC_imag, qopC_cplx, pureOp_real, pureOp_imag, pureOp_cplx, RE_c, IM_c, CX_f, B2_flt, B2_cpx, wopC_assign_flt, wopC_assign_cpx, f0, f1, fM, c00, c04] | refine DR_q _ ?_ | (refine Fk.fk ?_ ?_ <;> intro hg <;> (try simp only [hg]) <;> (try simp only [bunB] at hg) <;> try (exfalso; first | omega | exact Bool.noConfusion hg | exact hg trivial)) | refine And.intro (by omega) ?_ | omega
      all_goals first | omega | skip
      all_goals refine ⟨k + 1, by omega, by omega, ?_⟩
      all_goals rw [e1]
      all_goals (simp (disch := omega) [wk, wkT, wkM, noF, isF, get, belowT, belowM, below, belows, I64, I32, Bv, U8, Sv, List.map_nil] <;> try omega)
    · have hlt : k < s.length := by omega
      have n1 : (([13, 10] : List UInt8).getD (1 : Int).toNat 0).toNat = 10 := rfl
      have n2 : (([13, 10] : List UInt8).getD (0 : Int).toNat 0).toNat = 13 := rfl
      have n3 : ((k : Int) - 1).toNat = k - 1 := by omega
      have kb : (([13, 10] : List UInt8).getD 1 0).toNat = 10 := rfl
      have kc : (([13, 10] : List UInt8).getD 0 0).toNat = 13 := rfl
      by_cases he : endB s k
      · have h10 : (s.getD k 0).toNat = 10 := by rw [he.1]; rfl
        have h13 : (s.getD (k - 1) 0).toNat = 13 := by rw [he.2.2]; rfl
        have hk0 := he.2.1
        have a1 := add_fw (a := 4 * ((spot s k).1 : Int)) (b := 4) (c := 4 * (((spot s k).1 + 1 : Nat) : Int)) (by omega) (sm (by omega)) (by decide) (sm (by omega))
        repeat' first | simp (maxSteps := 4000000) (disch := omega) only [bunL, bunD, bun, ↓WG_true, ↓WG_false, labelOf, findLabel, ↓reduceIte, imp, shift, killO, hasId, unown, names, plainR, below, noF, isF, lendObs, lendOb, kindOk, ren, givL, updM, backO, renO, belowM, seval, -Int.reduceToNat, hne, a1, n1, n2, n3, kb, kc, B3, B4, B5, B9, B23, B24, bunN, Int.reduceToNat, List.map_nil, List.nil_append, FO_some, CO_some, BI_fadd, BI_fsub, BI_feql, BI_fneq, BI_flss, BI_fleq, BI_fgtr, BI_fgeq, BI_cadd, BI_ceql, BI_cneq, FI_i64, CV_i2f, CV_f2i, CW_i2f, CW_f2i, wopC_real, wopC_imag, wopC_cplx, qopC_real, qopC_imag, qopC_cplx, pureOp_real, pureOp_imag, pureOp_cplx, RE_c, IM_c, CX_f, B2_flt, B2_cpx, wopC_assign_flt, wopC_assign_cpx, f0, f1, fM, c00, c04] | refine DR_q _ ?_ | (refine Fk.fk ?_ ?_ <;> intro hg <;> (try simp only [hg]) <;> (try simp only [bunB] at hg) <;> try (exfalso; first | omega | exact Bool.noConfusion hg | exact hg trivial)) | refine And.intro (by omega) ?_ | omega
        all_goals first | omega | skip
        refine ⟨k + 1, by omega, by omega, ?_⟩
        rw [spot_end hlt he]
        (simp (disch := omega) [wk, wkT, wkM, noF, isF, get, belowT, belowM, below, belows, I64, I32, Bv, U8, Sv, List.map_nil] <;> try omega)
      · have a1 := add_fw (a := 4 * ((spot s k).1 : Int)) (b := 0) (c := 4 * ((spot s k).1 : Int)) (by omega) (sm (by omega)) (by decide) (sm (by omega))
        have a2 := add_fw (a := 4 * ((spot s k).2 : Int)) (b := 4) (c := 4 * (((spot s k).2 + 1 : Nat) : Int)) (by omega) (sm (by omega)) (by decide) (sm (by omega))
        have hnx := spot_next hlt he
        have he2 : (s.getD k 0).toNat = 10 → 0 < k → (s.getD (k - 1) 0).toNat = 13 → False := fun x y z => he ⟨UInt8.toNat.inj x, y, UInt8.toNat.inj z⟩
        repeat' first | simp (maxSteps := 4000000) (disch := omega) only [bunL, bunD, bun, ↓WG_true, ↓WG_false, labelOf, findLabel, ↓reduceIte, imp, shift, killO, hasId, unown, names, plainR, below, noF, isF, lendObs, lendOb, kindOk, ren, givL, updM, backO, renO, belowM, seval, -Int.reduceToNat, hne, a1, a2, n1, n2, n3, kb, kc, B3, B4, B5, B9, B23, B24, bunN, Int.reduceToNat, List.map_nil, List.nil_append, FO_some, CO_some, BI_fadd, BI_fsub, BI_feql, BI_fneq, BI_flss, BI_fleq, BI_fgtr, BI_fgeq, BI_cadd, BI_ceql, BI_cneq, FI_i64, CV_i2f, CV_f2i, CW_i2f, CW_f2i, wopC_real, wopC_imag, wopC_cplx, qopC_real, qopC_imag, qopC_cplx, pureOp_real, pureOp_imag, pureOp_cplx, RE_c, IM_c, CX_f, B2_flt, B2_cpx, wopC_assign_flt, wopC_assign_cpx, f0, f1, fM, c00, c04] | refine DR_q _ ?_ | (refine Fk.fk ?_ ?_ <;> intro hg <;> (try simp only [hg]) <;> (try simp only [bunB] at hg) <;> try (exfalso; first | omega | exact Bool.noConfusion hg | exact hg trivial)) | refine And.intro (by omega) ?_ | omega
        all_goals first | omega | skip
        all_goals first | (exfalso; apply he2 <;> omega) | skip
        all_goals refine ⟨k + 1, by omega, by omega, ?_⟩
        all_goals rw [hnx]
        all_goals (simp (disch := omega) [wk, wkT, wkM, noF, isF, get, belowT, belowM, below, belows, I64, I32, Bv, U8, Sv, List.map_nil] <;> try omega)
theorem place_no (s : List UInt8) (p q : Int) (hp : small53 p) (hq : small53 q) (hs : s.length ≤ 1000000) (hn : ∀ j, j ≤ s.length → ¬ atS s j p q) : Spec Tryd.prog 9 [Sv s, Cv p q] (.tup [I64 0, Bv false]) := by
  refine spec_mk (z := false) (ts := [.tmp 4, .tmp 5]) ok1 Tryd.func9 rfl rfl (by decide +kernel) (by simp [Tryd.ntmps9]) rfl ?_
  repeat' first | simp (maxSteps := 4000000) (disch := omega) only [bunL, bunD, bun, ↓WG_true, ↓WG_false, labelOf, findLabel, ↓reduceIte, imp, shift, killO, hasId, unown, names, plainR, below, noF, isF, lendObs, lendOb, kindOk, ren, givL, updM, backO, renO, belowM, seval, -Int.reduceToNat, B3, B4, B5, B9, B23, B24, bunN, Int.reduceToNat, List.map_nil, List.nil_append, FO_some, CO_some, BI_fadd, BI_fsub, BI_feql, BI_fneq, BI_flss, BI_fleq, BI_fgtr, BI_fgeq, BI_cadd, BI_ceql, BI_cneq, FI_i64, CV_i2f, CV_f2i, CW_i2f, CW_f2i, wopC_real, wopC_imag, wopC_cplx, qopC_real, qopC_imag, qopC_cplx, pureOp_real, pureOp_imag, pureOp_cplx, RE_c, IM_c, CX_f, B2_flt, B2_cpx, wopC_assign_flt, wopC_assign_cpx, f0, f1, fM, c00, c04] | refine DR_q _ ?_ | (refine Fk.fk ?_ ?_ <;> intro hg <;> (try simp only [hg]) <;> (try simp only [bunB] at hg) <;> try (exfalso; first | omega | exact Bool.noConfusion hg | exact hg trivial)) | refine And.intro (by omega) ?_ | omega
  refine LP_intro (fun k : Nat => ⟨[(0, Sv s), (1, Cv p q), (6, spv (spot s k)), (10, I64 ((s.length : Int) + 1)), (11, I64 k)], []⟩) (fun k => k ≤ s.length + 1) (fun k => s.length + 1 - k) 0 (by simp) (by rw [spot_zero]; (simp (disch := omega) [wk, wkT, wkM, noF, isF, get, belowT, belowM, below, belows, I64, I32, Bv, U8, Sv, List.map_nil] <;> try omega)) ?_
  intro k hk
  replace hk : k ≤ s.length + 1 := hk
  have hb := spot_bound s k
  by_cases hkm : k = s.length + 1
  · subst hkm
    repeat' first | simp (maxSteps := 4000000) (disch := omega) only [bunL, bunD, bun, ↓WG_true, ↓WG_false, labelOf, findLabel, ↓reduceIte, imp, shift, killO, hasId, unown, names, plainR, below, noF, isF, lendObs, lendOb, kindOk, ren, givL, updM, backO, renO, belowM, seval, -Int.reduceToNat, B3, B4, B5, B9, B23, B24, bunN, Int.reduceToNat, List.map_nil, List.nil_append, FO_some, CO_some, BI_fadd, BI_fsub, BI_feql, BI_fneq, BI_flss, BI_fleq, BI_fgtr, BI_fgeq, BI_cadd, BI_ceql, BI_cneq, FI_i64, CV_i2f, CV_f2i, CW_i2f, CW_f2i, wopC_real, wopC_imag, wopC_cplx, qopC_real, qopC_imag, qopC_cplx, pureOp_real, pureOp_imag, pureOp_cplx, RE_c, IM_c, CX_f, B2_flt, B2_cpx, wopC_assign_flt, wopC_assign_cpx, f0, f1, fM, c00, c04] | refine DR_q _ ?_ | (refine Fk.fk ?_ ?_ <;> intro hg <;> (try simp only [hg]) <;> (try simp only [bunB] at hg) <;> try (exfalso; first | omega | exact Bool.noConfusion hg | exact hg trivial)) | refine And.intro (by omega) ?_ | omega
    all_goals first | omega | trace_state
  · have hne := at_ne s k p q hp hq hs (hn k (by omega))
    by_cases hkl : k = s.length
    · have e1 : spot s (k + 1) = spot s k := by rw [spot_past s (k := k + 1) (by omega), hkl]
      repeat' first | simp (maxSteps := 4000000) (disch := omega) only [bunL, bunD, bun, ↓WG_true, ↓WG_false, labelOf, findLabel, ↓reduceIte, imp, shift, killO, hasId, unown, names, plainR, below, noF, isF, lendObs, lendOb, kindOk, ren, givL, updM, backO, renO, belowM, seval, -Int.reduceToNat, hne, B3, B4, B5, B9, B23, B24, bunN, Int.reduceToNat, List.map_nil, List.nil_append, FO_some, CO_some, BI_fadd, BI_fsub, BI_feql, BI_fneq, BI_flss, BI_fleq, BI_fgtr, BI_fgeq, BI_cadd, BI_ceql, BI_cneq, FI_i64, CV_i2f, CV_f2i, CW_i2f, CW_f2i, wopC_real, wopC_imag, wopC_cplx, qopC_real, qopC_imag, qopC_cplx, pureOp_real, pureOp_imag, pureOp_cplx, RE_c, IM_c, CX_f, B2_flt, B2_cpx, wopC_assign_flt, wopC_assign_cpx, f0, f1, fM, c00, c04] | refine DR_q _ ?_ | (refine Fk.fk ?_ ?_ <;> intro hg <;> (try simp only [hg]) <;> (try simp only [bunB] at hg) <;> try (exfalso; first | omega | exact Bool.noConfusion hg | exact hg trivial)) | refine And.intro (by omega) ?_ | omega
      all_goals first | omega | skip
      all_goals refine ⟨k + 1, by omega, by omega, ?_⟩
      all_goals rw [e1]
      all_goals (simp (disch := omega) [wk, wkT, wkM, noF, isF, get, belowT, belowM, below, belows, I64, I32, Bv, U8, Sv, List.map_nil] <;> try omega)
    · have hlt : k < s.length := by omega
      have n1 : (([13, 10] : List UInt8).getD (1 : Int).toNat 0).toNat = 10 := rfl
      have n2 : (([13, 10] : List UInt8).getD (0 : Int).toNat 0).toNat = 13 := rfl
      have n3 : ((k : Int) - 1).toNat = k - 1 := by omega
      have kb : (([13, 10] : List UInt8).getD 1 0).toNat = 10 := rfl
      have kc : (([13, 10] : List UInt8).getD 0 0).toNat = 13 := rfl
      by_cases he : endB s k
      · have h10 : (s.getD k 0).toNat = 10 := by rw [he.1]; rfl
        have h13 : (s.getD (k - 1) 0).toNat = 13 := by rw [he.2.2]; rfl
        have hk0 := he.2.1
        have a1 := add_fw (a := 4 * ((spot s k).1 : Int)) (b := 4) (c := 4 * (((spot s k).1 + 1 : Nat) : Int)) (by omega) (sm (by omega)) (by decide) (sm (by omega))
        repeat' first | simp (maxSteps := 4000000) (disch := omega) only [bunL, bunD, bun, ↓WG_true, ↓WG_false, labelOf, findLabel, ↓reduceIte, imp, shift, killO, hasId, unown, names, plainR, below, noF, isF, lendObs, lendOb, kindOk, ren, givL, updM, backO, renO, belowM, seval, -Int.reduceToNat, hne, a1, n1, n2, n3, kb, kc, B3, B4, B5, B9, B23, B24, bunN, Int.reduceToNat, List.map_nil, List.nil_append, FO_some, CO_some, BI_fadd, BI_fsub, BI_feql, BI_fneq, BI_flss, BI_fleq, BI_fgtr, BI_fgeq, BI_cadd, BI_ceql, BI_cneq, FI_i64, CV_i2f, CV_f2i, CW_i2f, CW_f2i, wopC_real, wopC_imag, wopC_cplx, qopC_real, qopC_imag, qopC_cplx, pureOp_real, pureOp_imag, pureOp_cplx, RE_c, IM_c, CX_f, B2_flt, B2_cpx, wopC_assign_flt, wopC_assign_cpx, f0, f1, fM, c00, c04] | refine DR_q _ ?_ | (refine Fk.fk ?_ ?_ <;> intro hg <;> (try simp only [hg]) <;> (try simp only [bunB] at hg) <;> try (exfalso; first | omega | exact Bool.noConfusion hg | exact hg trivial)) | refine And.intro (by omega) ?_ | omega
        all_goals first | omega | skip
        refine ⟨k + 1, by omega, by omega, ?_⟩
        rw [spot_end hlt he]
        (simp (disch := omega) [wk, wkT, wkM, noF, isF, get, belowT, belowM, below, belows, I64, I32, Bv, U8, Sv, List.map_nil] <;> try omega)
      · have a1 := add_fw (a := 4 * ((spot s k).1 : Int)) (b := 0) (c := 4 * ((spot s k).1 : Int)) (by omega) (sm (by omega)) (by decide) (sm (by omega))
        have a2 := add_fw (a := 4 * ((spot s k).2 : Int)) (b := 4) (c := 4 * (((spot s k).2 + 1 : Nat) : Int)) (by omega) (sm (by omega)) (by decide) (sm (by omega))
        have hnx := spot_next hlt he
        have he2 : (s.getD k 0).toNat = 10 → 0 < k → (s.getD (k - 1) 0).toNat = 13 → False := fun x y z => he ⟨UInt8.toNat.inj x, y, UInt8.toNat.inj z⟩
        repeat' first | simp (maxSteps := 4000000) (disch := omega) only [bunL, bunD, bun, ↓WG_true, ↓WG_false, labelOf, findLabel, ↓reduceIte, imp, shift, killO, hasId, unown, names, plainR, below, noF, isF, lendObs, lendOb, kindOk, ren, givL, updM, backO, renO, belowM, seval, -Int.reduceToNat, hne, a1, a2, n1, n2, n3, kb, kc, B3, B4, B5, B9, B23, B24, bunN, Int.reduceToNat, List.map_nil, List.nil_append, FO_some, CO_some, BI_fadd, BI_fsub, BI_feql, BI_fneq, BI_flss, BI_fleq, BI_fgtr, BI_fgeq, BI_cadd, BI_ceql, BI_cneq, FI_i64, CV_i2f, CV_f2i, CW_i2f, CW_f2i, wopC_real, wopC_imag, wopC_cplx, qopC_real, qopC_imag, qopC_cplx, pureOp_real, pureOp_imag, pureOp_cplx, RE_c, IM_c, CX_f, B2_flt, B2_cpx, wopC_assign_flt, wopC_assign_cpx, f0, f1, fM, c00, c04] | refine DR_q _ ?_ | (refine Fk.fk ?_ ?_ <;> intro hg <;> (try simp only [hg]) <;> (try simp only [bunB] at hg) <;> try (exfalso; first | omega | exact Bool.noConfusion hg | exact hg trivial)) | refine And.intro (by omega) ?_ | omega
        all_goals first | omega | skip
        all_goals first | (exfalso; apply he2 <;> omega) | skip
        all_goals refine ⟨k + 1, by omega, by omega, ?_⟩
        all_goals rw [hnx]
        all_goals (simp (disch := omega) [wk, wkT, wkM, noF, isF, get, belowT, belowM, below, belows, I64, I32, Bv, U8, Sv, List.map_nil] <;> try omega)
theorem rplace_yes (s : List UInt8) (p q : Int) (hp : small53 p) (hq : small53 q) (hs : s.length ≤ 1000000) (m : Nat) (hm : m ≤ s.length) (hy : atS s m p q) (hn : ∀ j, j < m → ¬ atS s j p q) : Spec Tryd.prog 10 [Sv s, Cv p q] (.tup [I64 m, Bv true]) := by
  refine spec_mk (z := false) (ts := [.tmp 4, .tmp 5]) ok1 Tryd.func10 rfl rfl (by decide +kernel) (by simp [Tryd.ntmps10]) rfl ?_
  repeat' first | simp (maxSteps := 4000000) (disch := omega) only [bunL, bunD, bun, ↓WG_true, ↓WG_false, labelOf, findLabel, ↓reduceIte, imp, shift, killO, hasId, unown, names, plainR, below, noF, isF, lendObs, lendOb, kindOk, ren, givL, updM, backO, renO, belowM, seval, -Int.reduceToNat, B3, B4, B9, B23, bunN, Int.reduceToNat, List.map_nil, List.nil_append, FO_some, CO_some, BI_fadd, BI_fsub, BI_feql, BI_fneq, BI_flss, BI_fleq, BI_fgtr, BI_fgeq, BI_cadd, BI_ceql, BI_cneq, FI_i64, CV_i2f, CV_f2i, CW_i2f, CW_f2i, wopC_real, wopC_imag, wopC_cplx, qopC_real, qopC_imag, qopC_cplx, pureOp_real, pureOp_imag, pureOp_cplx, RE_c, IM_c, CX_f, B2_flt, B2_cpx, wopC_assign_flt, wopC_assign_cpx, f0, f1, fM, c00, c04] | refine DR_q _ ?_ | (refine Fk.fk ?_ ?_ <;> intro hg <;> (try simp only [hg]) <;> (try simp only [bunB] at hg) <;> try (exfalso; first | omega | exact Bool.noConfusion hg | exact hg trivial)) | refine And.intro (by omega) ?_ | omega
  refine LP_intro (fun k : Nat => ⟨[(0, Sv s), (1, Cv p q), (6, I64 k)], []⟩) (fun k => k ≤ m) (fun k => s.length + 1 - k) 0 (by simp) (by (simp (disch := omega) [wk, wkT, wkM, noF, isF, get, belowT, belowM, below, belows, I64, I32, Bv, U8, Sv, List.map_nil] <;> try omega)) ?_
  intro k hk
  replace hk : k ≤ m := hk
  have hb := spot_bound s k
  have ho := rof_spec s k hs
  have ek : clampN k s.length = k := by unfold clampN; rw [if_neg (by omega), if_neg (by omega)]; omega
  rw [ek] at ho
  by_cases hkm : k = m
  · subst hkm
    have hye := at_eq s k p q hp hq hs hy
    repeat' first | refine WE_fit (ho) ?_ ?_ | simp (maxSteps := 4000000) (disch := omega) only [bunL, bunD, bun, ↓WG_true, ↓WG_false, labelOf, findLabel, ↓reduceIte, imp, shift, killO, hasId, unown, names, plainR, below, noF, isF, lendObs, lendOb, kindOk, ren, givL, updM, backO, renO, belowM, seval, -Int.reduceToNat, hye, B3, B4, B9, B23, bunN, Int.reduceToNat, List.map_nil, List.nil_append, FO_some, CO_some, BI_fadd, BI_fsub, BI_feql, BI_fneq, BI_flss, BI_fleq, BI_fgtr, BI_fgeq, BI_cadd, BI_ceql, BI_cneq, FI_i64, CV_i2f, CV_f2i, CW_i2f, CW_f2i, wopC_real, wopC_imag, wopC_cplx, qopC_real, qopC_imag, qopC_cplx, pureOp_real, pureOp_imag, pureOp_cplx, RE_c, IM_c, CX_f, B2_flt, B2_cpx, wopC_assign_flt, wopC_assign_cpx, f0, f1, fM, c00, c04] | exact NK_no _ | refine NK_cl _ _ ?_ | exact Cln.cl | refine clean_tup _ ?_ | refine cleans_cons _ _ ?_ ?_ | refine DR_q _ ?_ | (refine Fk.fk ?_ ?_ <;> intro hg <;> (try simp only [hg]) <;> (try simp only [bunB] at hg) <;> try (exfalso; first | omega | exact Bool.noConfusion hg | exact hg trivial)) | refine And.intro (by omega) ?_ | omega
    all_goals first | omega | trace_state
  · have hne := at_ne s k p q hp hq hs (hn k (by omega))
    repeat' first | refine WE_fit (ho) ?_ ?_ | simp (maxSteps := 4000000) (disch := omega) only [bunL, bunD, bun, ↓WG_true, ↓WG_false, labelOf, findLabel, ↓reduceIte, imp, shift, killO, hasId, unown, names, plainR, below, noF, isF, lendObs, lendOb, kindOk, ren, givL, updM, backO, renO, belowM, seval, -Int.reduceToNat, hne, B3, B4, B9, B23, bunN, Int.reduceToNat, List.map_nil, List.nil_append, FO_some, CO_some, BI_fadd, BI_fsub, BI_feql, BI_fneq, BI_flss, BI_fleq, BI_fgtr, BI_fgeq, BI_cadd, BI_ceql, BI_cneq, FI_i64, CV_i2f, CV_f2i, CW_i2f, CW_f2i, wopC_real, wopC_imag, wopC_cplx, qopC_real, qopC_imag, qopC_cplx, pureOp_real, pureOp_imag, pureOp_cplx, RE_c, IM_c, CX_f, B2_flt, B2_cpx, wopC_assign_flt, wopC_assign_cpx, f0, f1, fM, c00, c04] | exact NK_no _ | refine NK_cl _ _ ?_ | exact Cln.cl | refine clean_tup _ ?_ | refine cleans_cons _ _ ?_ ?_ | refine DR_q _ ?_ | (refine Fk.fk ?_ ?_ <;> intro hg <;> (try simp only [hg]) <;> (try simp only [bunB] at hg) <;> try (exfalso; first | omega | exact Bool.noConfusion hg | exact hg trivial)) | refine And.intro (by omega) ?_ | omega
    all_goals first | omega | skip
    refine ⟨k + 1, by omega, by omega, (by simp [wk, wkT, wkM, noF, isF, get, belowT, belowM, below, belows, I64, I32, Bv, U8, Sv] <;> try omega)⟩
theorem rplace_no (s : List UInt8) (p q : Int) (hp : small53 p) (hq : small53 q) (hs : s.length ≤ 1000000) (hn : ∀ j, j ≤ s.length → ¬ atS s j p q) : Spec Tryd.prog 10 [Sv s, Cv p q] (.tup [I64 0, Bv false]) := by
  refine spec_mk (z := false) (ts := [.tmp 4, .tmp 5]) ok1 Tryd.func10 rfl rfl (by decide +kernel) (by simp [Tryd.ntmps10]) rfl ?_
  repeat' first | simp (maxSteps := 4000000) (disch := omega) only [bunL, bunD, bun, ↓WG_true, ↓WG_false, labelOf, findLabel, ↓reduceIte, imp, shift, killO, hasId, unown, names, plainR, below, noF, isF, lendObs, lendOb, kindOk, ren, givL, updM, backO, renO, belowM, seval, -Int.reduceToNat, B3, B4, B9, B23, bunN, Int.reduceToNat, List.map_nil, List.nil_append, FO_some, CO_some, BI_fadd, BI_fsub, BI_feql, BI_fneq, BI_flss, BI_fleq, BI_fgtr, BI_fgeq, BI_cadd, BI_ceql, BI_cneq, FI_i64, CV_i2f, CV_f2i, CW_i2f, CW_f2i, wopC_real, wopC_imag, wopC_cplx, qopC_real, qopC_imag, qopC_cplx, pureOp_real, pureOp_imag, pureOp_cplx, RE_c, IM_c, CX_f, B2_flt, B2_cpx, wopC_assign_flt, wopC_assign_cpx, f0, f1, fM, c00, c04] | refine DR_q _ ?_ | (refine Fk.fk ?_ ?_ <;> intro hg <;> (try simp only [hg]) <;> (try simp only [bunB] at hg) <;> try (exfalso; first | omega | exact Bool.noConfusion hg | exact hg trivial)) | refine And.intro (by omega) ?_ | omega
  refine LP_intro (fun k : Nat => ⟨[(0, Sv s), (1, Cv p q), (6, I64 k)], []⟩) (fun k => k ≤ s.length + 1) (fun k => s.length + 1 - k) 0 (by simp) (by (simp (disch := omega) [wk, wkT, wkM, noF, isF, get, belowT, belowM, below, belows, I64, I32, Bv, U8, Sv, List.map_nil] <;> try omega)) ?_
  intro k hk
  replace hk : k ≤ s.length + 1 := hk
  have hb := spot_bound s k
  have ho := rof_spec s k hs
  by_cases hkm : k = s.length + 1
  · subst hkm
    repeat' first | simp (maxSteps := 4000000) (disch := omega) only [bunL, bunD, bun, ↓WG_true, ↓WG_false, labelOf, findLabel, ↓reduceIte, imp, shift, killO, hasId, unown, names, plainR, below, noF, isF, lendObs, lendOb, kindOk, ren, givL, updM, backO, renO, belowM, seval, -Int.reduceToNat, B3, B4, B9, B23, bunN, Int.reduceToNat, List.map_nil, List.nil_append, FO_some, CO_some, BI_fadd, BI_fsub, BI_feql, BI_fneq, BI_flss, BI_fleq, BI_fgtr, BI_fgeq, BI_cadd, BI_ceql, BI_cneq, FI_i64, CV_i2f, CV_f2i, CW_i2f, CW_f2i, wopC_real, wopC_imag, wopC_cplx, qopC_real, qopC_imag, qopC_cplx, pureOp_real, pureOp_imag, pureOp_cplx, RE_c, IM_c, CX_f, B2_flt, B2_cpx, wopC_assign_flt, wopC_assign_cpx, f0, f1, fM, c00, c04] | refine DR_q _ ?_ | (refine Fk.fk ?_ ?_ <;> intro hg <;> (try simp only [hg]) <;> (try simp only [bunB] at hg) <;> try (exfalso; first | omega | exact Bool.noConfusion hg | exact hg trivial)) | refine And.intro (by omega) ?_ | omega
    all_goals first | omega | trace_state
  · have ek : clampN k s.length = k := by unfold clampN; rw [if_neg (by omega), if_neg (by omega)]; omega
    rw [ek] at ho
    have hne := at_ne s k p q hp hq hs (hn k (by omega))
    repeat' first | refine WE_fit (ho) ?_ ?_ | simp (maxSteps := 4000000) (disch := omega) only [bunL, bunD, bun, ↓WG_true, ↓WG_false, labelOf, findLabel, ↓reduceIte, imp, shift, killO, hasId, unown, names, plainR, below, noF, isF, lendObs, lendOb, kindOk, ren, givL, updM, backO, renO, belowM, seval, -Int.reduceToNat, hne, B3, B4, B9, B23, bunN, Int.reduceToNat, List.map_nil, List.nil_append, FO_some, CO_some, BI_fadd, BI_fsub, BI_feql, BI_fneq, BI_flss, BI_fleq, BI_fgtr, BI_fgeq, BI_cadd, BI_ceql, BI_cneq, FI_i64, CV_i2f, CV_f2i, CW_i2f, CW_f2i, wopC_real, wopC_imag, wopC_cplx, qopC_real, qopC_imag, qopC_cplx, pureOp_real, pureOp_imag, pureOp_cplx, RE_c, IM_c, CX_f, B2_flt, B2_cpx, wopC_assign_flt, wopC_assign_cpx, f0, f1, fM, c00, c04] | exact NK_no _ | refine NK_cl _ _ ?_ | exact Cln.cl | refine clean_tup _ ?_ | refine cleans_cons _ _ ?_ ?_ | refine DR_q _ ?_ | (refine Fk.fk ?_ ?_ <;> intro hg <;> (try simp only [hg]) <;> (try simp only [bunB] at hg) <;> try (exfalso; first | omega | exact Bool.noConfusion hg | exact hg trivial)) | refine And.intro (by omega) ?_ | omega
    all_goals first | omega | skip
    refine ⟨k + 1, by omega, by omega, (by simp [wk, wkT, wkM, noF, isF, get, belowT, belowM, below, belows, I64, I32, Bv, U8, Sv] <;> try omega)⟩
theorem dec13 {n : Nat} (h : n < 10000000000000) : (Lib.decDigits n).length ≤ 13 := by
  have e : (10 : Nat) ^ (12 + 1) = 10000000000000 := by decide
  exact dec_len 12 n (by rw [e]; exact h)
theorem itoa1 (n : Nat) (h : n ≤ 1099511627776) : Spec Tryd.prog 23 [I64 ((n : Int) + 1)] (Sv (Lib.decDigits (n + 1))) := by
  have h1 := itoa_spec ((n : Int) + 1) (by omega) (by omega)
  rw [show ((n : Int) + 1) = ((n + 1 : Nat) : Int) by omega, itoa_nat] at h1
  exact h1
theorem text_spec (p q : Int) (hp : small53 p) (hq : small53 q) : Spec Tryd.prog 17 [Cv p q] (Sv (txt (whn p + 1) (whn q + 1))) := by
  have h1 := trim_spec p q hp hq
  rw [whn_eq, whn_eq] at h1
  have b1 := whn_bound p
  have b2 := whn_bound q
  have i1 := itoa1 (whn p) b1
  have i2 := itoa1 (whn q) b2
  have f1 := int_fw (q := 4 * (whn p : Int)) (sm (by omega)) (by omega)
  have f2 := int_fw (q := 4 * (whn q : Int)) (sm (by omega)) (by omega)
  have d1 : 4 * (whn p : Int) / 4 = whn p := by omega
  have d2 : 4 * (whn q : Int) / 4 = whn q := by omega
  rw [d1] at f1
  rw [d2] at f2
  have l1 := dec13 (n := whn p + 1) (by omega)
  have l2 := dec13 (n := whn q + 1) (by omega)
  refine spec_mk (z := false) (ts := [.tmp 2]) ok1 Tryd.func17 rfl rfl (by decide +kernel) (by simp [Tryd.ntmps17]) rfl ?_
  unfold txt
  repeat' first | refine WE_fit (h1) ?_ ?_ | refine WE_fit (i1) ?_ ?_ | refine WE_fit (i2) ?_ ?_ | simp (maxSteps := 4000000) (disch := omega) only [bunL, bunD, bun, ↓WG_true, ↓WG_false, labelOf, findLabel, ↓reduceIte, imp, shift, killO, hasId, unown, names, plainR, below, noF, isF, lendObs, lendOb, kindOk, ren, givL, updM, backO, renO, belowM, seval, -Int.reduceToNat, f1, f2, List.length_append, List.length_cons, List.length_nil, B3, B9, B23, B24, bunN, Int.reduceToNat, List.map_nil, List.nil_append, FO_some, CO_some, BI_fadd, BI_fsub, BI_feql, BI_fneq, BI_flss, BI_fleq, BI_fgtr, BI_fgeq, BI_cadd, BI_ceql, BI_cneq, FI_i64, CV_i2f, CV_f2i, CW_i2f, CW_f2i, wopC_real, wopC_imag, wopC_cplx, qopC_real, qopC_imag, qopC_cplx, pureOp_real, pureOp_imag, pureOp_cplx, RE_c, IM_c, CX_f, B2_flt, B2_cpx, wopC_assign_flt, wopC_assign_cpx, f0, f1, fM, c00, c04] | exact NK_no _ | refine NK_cl _ _ ?_ | exact Cln.cl | refine clean_tup _ ?_ | refine cleans_cons _ _ ?_ ?_ | refine DR_q _ ?_ | (refine Fk.fk ?_ ?_ <;> intro hg <;> (try simp only [hg]) <;> (try simp only [bunB] at hg) <;> try (exfalso; first | omega | exact Bool.noConfusion hg | exact hg trivial)) | refine And.intro (by omega) ?_ | omega
  all_goals trace_state
theorem number_spec : ∀ n : Nat, n ≤ 1099511627777 → Spec Tryd.prog 24 [I64 n] (Sv (Lib.decDigits n)) := by
  intro n
  induction n using Nat.strongRecOn with
  | _ n ih =>
    intro hn
    refine spec_mk (z := false) (ts := [.tmp 2]) ok1 Tryd.func24 rfl rfl (by decide +kernel) (by simp [Tryd.ntmps24]) rfl ?_
    rw [Lib.decDigits]
    by_cases h : n < 10
    · rw [dif_pos h]
      have n1 : ((n : Int) + 1).toNat = n + 1 := by omega
      have n2 : (n : Int).toNat = n := by omega
      have e : (List.drop n (48 :: List.take n ([49, 50, 51, 52, 53, 54, 55, 56, 57] : List UInt8))) = [UInt8.ofNat (48 + n)] := by
        match n, h with
        | 0, _ | 1, _ | 2, _ | 3, _ | 4, _ | 5, _ | 6, _ | 7, _ | 8, _ | 9, _ => rfl
      repeat' first | simp (maxSteps := 4000000) (disch := omega) only [bunL, bunD, bun, ↓WG_true, ↓WG_false, labelOf, findLabel, ↓reduceIte, imp, shift, killO, hasId, unown, names, plainR, below, noF, isF, lendObs, lendOb, kindOk, ren, givL, updM, backO, renO, belowM, seval, -Int.reduceToNat, n1, n2, e, List.length_cons, List.length_nil, B3, B4, B9, bunN, Int.reduceToNat, List.map_nil, List.nil_append, FO_some, CO_some, BI_fadd, BI_fsub, BI_feql, BI_fneq, BI_flss, BI_fleq, BI_fgtr, BI_fgeq, BI_cadd, BI_ceql, BI_cneq, FI_i64, CV_i2f, CV_f2i, CW_i2f, CW_f2i, wopC_real, wopC_imag, wopC_cplx, qopC_real, qopC_imag, qopC_cplx, pureOp_real, pureOp_imag, pureOp_cplx, RE_c, IM_c, CX_f, B2_flt, B2_cpx, wopC_assign_flt, wopC_assign_cpx, f0, f1, fM, c00, c04] | refine DR_q _ ?_ | (refine Fk.fk ?_ ?_ <;> intro hg <;> (try simp only [hg]) <;> (try simp only [bunB] at hg) <;> try (exfalso; first | omega | exact Bool.noConfusion hg | exact hg trivial)) | refine And.intro (by omega) ?_ | omega
      all_goals first | omega | trace_state
    · rw [dif_neg h]
      have i1 := ih (n / 10) (by omega) (by omega)
      have i2 := ih (n % 10) (by omega) (by omega)
      have l1 := dec13 (n := n / 10) (by omega)
      have e1 : (n : Int).tdiv 10 = ((n / 10 : Nat) : Int) := by rw [Int.tdiv_eq_ediv_of_nonneg (by omega)]; omega
      have e2 : (n : Int).tmod 10 = ((n % 10 : Nat) : Int) := by rw [Int.tmod_eq_emod_of_nonneg (by omega)]; omega
      have e3 : Lib.decDigits (n % 10) = [UInt8.ofNat (48 + n % 10)] := by rw [Lib.decDigits, dif_pos (by omega)]
      rw [e3] at i2
      repeat' first | refine WE_fit (i1) ?_ ?_ | refine WE_fit (i2) ?_ ?_ | simp (maxSteps := 4000000) (disch := omega) only [bunL, bunD, bun, ↓WG_true, ↓WG_false, labelOf, findLabel, ↓reduceIte, imp, shift, killO, hasId, unown, names, plainR, below, noF, isF, lendObs, lendOb, kindOk, ren, givL, updM, backO, renO, belowM, seval, -Int.reduceToNat, e1, e2, List.length_cons, List.length_nil, B3, B4, B9, bunN, Int.reduceToNat, List.map_nil, List.nil_append, FO_some, CO_some, BI_fadd, BI_fsub, BI_feql, BI_fneq, BI_flss, BI_fleq, BI_fgtr, BI_fgeq, BI_cadd, BI_ceql, BI_cneq, FI_i64, CV_i2f, CV_f2i, CW_i2f, CW_f2i, wopC_real, wopC_imag, wopC_cplx, qopC_real, qopC_imag, qopC_cplx, pureOp_real, pureOp_imag, pureOp_cplx, RE_c, IM_c, CX_f, B2_flt, B2_cpx, wopC_assign_flt, wopC_assign_cpx, f0, f1, fM, c00, c04] | exact NK_no _ | refine NK_cl _ _ ?_ | exact Cln.cl | refine clean_tup _ ?_ | refine cleans_cons _ _ ?_ ?_ | refine DR_q _ ?_ | (refine Fk.fk ?_ ?_ <;> intro hg <;> (try simp only [hg]) <;> (try simp only [bunB] at hg) <;> try (exfalso; first | omega | exact Bool.noConfusion hg | exact hg trivial)) | refine And.intro (by omega) ?_ | omega
      all_goals first | omega | trace_state
theorem rtext_spec (p q : Int) (hp : small53 p) (hq : small53 q) : Spec Tryd.prog 18 [Cv p q] (Sv (txt (whn p + 1) (whn q + 1))) := by
  have h1 := part_spec p hp
  have h2 := part_spec q hq
  rw [whn_eq] at h1 h2
  have b1 := whn_bound p
  have b2 := whn_bound q
  have i1 := number_spec (whn p + 1) (by omega)
  have i2 := number_spec (whn q + 1) (by omega)
  rw [Int.natCast_add, show ((1 : Nat) : Int) = 1 from rfl] at i1 i2
  have l1 := dec13 (n := whn p + 1) (by omega)
  have l2 := dec13 (n := whn q + 1) (by omega)
  refine spec_mk (z := false) (ts := [.tmp 2]) ok1 Tryd.func18 rfl rfl (by decide +kernel) (by simp [Tryd.ntmps18]) rfl ?_
  unfold txt
  repeat' first | refine WE_fit (h1) ?_ ?_ | refine WE_fit (h2) ?_ ?_ | refine WE_fit (i1) ?_ ?_ | refine WE_fit (i2) ?_ ?_ | simp (maxSteps := 4000000) (disch := omega) only [bunL, bunD, bun, ↓WG_true, ↓WG_false, labelOf, findLabel, ↓reduceIte, imp, shift, killO, hasId, unown, names, plainR, below, noF, isF, lendObs, lendOb, kindOk, ren, givL, updM, backO, renO, belowM, seval, -Int.reduceToNat, List.length_append, List.length_cons, List.length_nil, B3, B9, B23, B24, bunN, Int.reduceToNat, List.map_nil, List.nil_append, FO_some, CO_some, BI_fadd, BI_fsub, BI_feql, BI_fneq, BI_flss, BI_fleq, BI_fgtr, BI_fgeq, BI_cadd, BI_ceql, BI_cneq, FI_i64, CV_i2f, CV_f2i, CW_i2f, CW_f2i, wopC_real, wopC_imag, wopC_cplx, qopC_real, qopC_imag, qopC_cplx, pureOp_real, pureOp_imag, pureOp_cplx, RE_c, IM_c, CX_f, B2_flt, B2_cpx, wopC_assign_flt, wopC_assign_cpx, f0, f1, fM, c00, c04] | exact NK_no _ | refine NK_cl _ _ ?_ | exact Cln.cl | refine clean_tup _ ?_ | refine cleans_cons _ _ ?_ ?_ | refine DR_q _ ?_ | (refine Fk.fk ?_ ?_ <;> intro hg <;> (try simp only [hg]) <;> (try simp only [bunB] at hg) <;> try (exfalso; first | omega | exact Bool.noConfusion hg | exact hg trivial)) | refine And.intro (by omega) ?_ | omega
  all_goals trace_state
end Go.AE
end
