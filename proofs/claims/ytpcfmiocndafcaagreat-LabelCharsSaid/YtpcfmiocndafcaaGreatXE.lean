/- Contracts of functions that the laws of this seat reach, and plain laws of what they compute. No condition beyond each statement's own. -/
import Derived.Test.YtpcfmiocndafcaaGreatK1
import Derived.Test.YtpcfmiocndafcaaGreatXA
import Derived.Test.YtpcfmiocndafcaaGreatU1
import Derived.Test.YtpcfmiocndafcaaGreatAERange
import Derived.Shelf.Abstract
set_option linter.unusedVariables false
set_option linter.unusedSimpArgs false
section
namespace Go.AE
open Go.Proofs
set_option maxRecDepth 20000
set_option linter.unusedSimpArgs false
def z11 (L : List Int) (k : Int) : List AV := [.sl 74 (ranges.flatMap z1s), .sl 10 (classes.flatMap z1q), .sl 11 (lowers.flatMap z1r), .mp (sM 42), .mp (pM 42), .sl L.length (L.map I32), I64 k]
def inI (r : Int) : Prop := -2147483648 ≤ r ∧ r ≤ 2147483647
theorem bn_bd {L : List Int} (hb : ∀ c ∈ L, inI c) (k d : Int) (hd : inI d) : -2147483648 ≤ bn L k d ∧ bn L k d ≤ 2147483647 := by
  unfold bn
  split
  · rename_i h
    refine hb _ ?_
    rw [List.getD, List.getElem?_eq_getElem (by omega)]; exact List.getElem_mem _
  · exact hd
theorem m1_in : inI (-1) := by unfold inI; omega
theorem z82 (L : List Int) (hL : L.length ≤ 1000) (k n : Int) (h : 0 ≤ k ∧ k ≤ 1000 ∧ -1100 ≤ n ∧ n ≤ 1100) : Spec Tryz.prog 131 [.ag (z11 L k), I64 n] (I32 (bn L (k + n) (-1))) := by
  refine z0g (z := false) (ts := [.tmp 4]) ok1 Tryz.func131 rfl rfl (by decide +kernel) (by simp [Tryz.ntmps131]) rfl ?_
  repeat' first | simp (maxSteps := 4000000) (disch := omega) only [bunL, bunD, bun, ↓z04, ↓z01, z02, findLabel, ↓reduceIte, imp, shift, z0b, z0a, unown, names, z07, below, noF, isF, z03, z09, z08, ren, givL, updM, z0c, renO, belowM, seval, -Int.reduceToNat, D114, bunN, tab, tabC, z11, z0k, z0r] | refine DR_q _ ?_ | (refine Fk.fk ?_ ?_ <;> intro hg <;> (try simp only [hg]) <;> (try simp only [bunB, arA, arB] at hg) <;> try (exfalso; first | omega | exact Bool.noConfusion hg | exact hg trivial)) | refine And.intro (by omega) ?_ | omega
  · rw [bn_lt _ (by omega)]
  · rw [bn_ge _ (by omega)]
  · unfold bn; rw [if_pos (by omega)]
theorem z4h (r : Int) : Spec Tryz.prog 107 [I32 r] (Bv (arA r)) := by
  refine z0g (z := false) (ts := [.tmp 2]) ok1 Tryz.func107 rfl rfl (by decide +kernel) (by simp [Tryz.ntmps107]) rfl ?_
  repeat' first | simp (maxSteps := 4000000) (disch := omega) only [bunL, bunD, bun, ↓z04, ↓z01, z02, findLabel, ↓reduceIte, imp, shift, z0b, z0a, unown, names, z07, below, noF, isF, z03, z09, z08, ren, givL, updM, z0c, renO, belowM, seval, -Int.reduceToNat, B4, B21, bunN, tab, tabC, z11, z0k, z0r] | refine DR_q _ ?_ | (refine Fk.fk ?_ ?_ <;> intro hg <;> (try simp only [hg]) <;> (try simp only [bunB, arA, arB] at hg) <;> try (exfalso; first | omega | exact Bool.noConfusion hg | exact hg trivial)) | refine And.intro (by omega) ?_ | omega
  all_goals (congr 2; first | rfl | (first | rw [Bool.eq_iff_iff] | skip); simp_all [arA, arB] <;> omega)
theorem z4k (r : Int) : Spec Tryz.prog 110 [I32 r] (Bv (arB r)) := by
  refine z0g (z := false) (ts := [.tmp 2]) ok1 Tryz.func110 rfl rfl (by decide +kernel) (by simp [Tryz.ntmps110]) rfl ?_
  repeat' first | simp (maxSteps := 4000000) (disch := omega) only [bunL, bunD, bun, ↓z04, ↓z01, z02, findLabel, ↓reduceIte, imp, shift, z0b, z0a, unown, names, z07, below, noF, isF, z03, z09, z08, ren, givL, updM, z0c, renO, belowM, seval, -Int.reduceToNat, B4, B21, bunN, tab, tabC, z11, z0k, z0r] | refine DR_q _ ?_ | (refine Fk.fk ?_ ?_ <;> intro hg <;> (try simp only [hg]) <;> (try simp only [bunB, arA, arB] at hg) <;> try (exfalso; first | omega | exact Bool.noConfusion hg | exact hg trivial)) | refine And.intro (by omega) ?_ | omega
  all_goals (congr 2; first | rfl | (first | rw [Bool.eq_iff_iff] | skip); simp_all [arA, arB] <;> omega)
theorem zvu (L : List Int) (hL : L.length ≤ 1000) (k : Nat) (hk : k < L.length) : Spec Tryz.prog 132 [.ag (z11 L k), I64 1] (I64 (jl (L.drop (k + 1)))) := by
  refine z0g (z := false) (ts := [.tmp 4]) ok1 Tryz.func132 rfl rfl (by decide +kernel) (by simp [Tryz.ntmps132]) rfl ?_
  repeat' first | simp (maxSteps := 4000000) (disch := omega) only [bunL, bunD, bun, ↓z04, ↓z01, z02, findLabel, ↓reduceIte, imp, shift, z0b, z0a, unown, names, z07, below, noF, isF, z03, z09, z08, ren, givL, updM, z0c, renO, belowM, seval, -Int.reduceToNat, D114, bunN, tab, tabC, z11, z0k, z0r] | refine DR_q _ ?_ | (refine Fk.fk ?_ ?_ <;> intro hg <;> (try simp only [hg]) <;> (try simp only [bunB, arA, arB] at hg) <;> try (exfalso; first | omega | exact Bool.noConfusion hg | exact hg trivial)) | refine And.intro (by omega) ?_ | omega
  refine z0m (fun i : Nat => ⟨[(0, .ag (z11 L k)), (1, I64 1), (2, .ptr 0 0), (4, I64 0), (5, I64 (1 + i))], [.row true 1 (z11 L k)]⟩) (fun i => k + 1 + i ≤ L.length ∧ jl (L.drop (k + 1)) = jl (L.drop (k + 1 + i))) (fun i => L.length - i) 0 ⟨by omega, rfl⟩ (by (simp (disch := omega) [wk, wkT, wkM, noF, isF, get, z0h, belowM, below, belows, I64, I32, Bv, U8, Sv, z11] <;> try omega)) ?_
  intro i ⟨hi, he⟩
  by_cases hlt : k + 1 + i < L.length
  · have hb : bn L (k + (1 + i)) (-1) = L.getD (k + 1 + i) 0 := by rw [show (k : Int) + (1 + i) = ((k + 1 + i : Nat) : Int) by omega, bn_in _ hlt]
    repeat' first | refine z06 (z82 _ hL _ _ (by omega)) ?_ ?_ | refine z06 (zai _) ?_ ?_ | simp (maxSteps := 4000000) (disch := omega) only [bunL, bunD, bun, ↓z04, ↓z01, z02, findLabel, ↓reduceIte, imp, shift, z0b, z0a, unown, names, z07, below, noF, isF, z03, z09, z08, ren, givL, updM, z0c, renO, belowM, seval, -Int.reduceToNat, hb, D114, bunN, tab, tabC, z11, z0k, z0r] | exact z0f _ | refine z0e _ _ ?_ | exact Cln.cl | refine z05 _ ?_ | refine z00 _ _ ?_ ?_ | refine DR_q _ ?_ | (refine Fk.fk ?_ ?_ <;> intro hg <;> (try simp only [hg]) <;> (try simp only [bunB, arA, arB] at hg) <;> try (exfalso; first | omega | exact Bool.noConfusion hg | exact hg trivial)) | refine And.intro (by omega) ?_ | omega
    · rw [he, jl_stop hlt (by assumption)]
    · refine ⟨i + 1, ⟨by omega, ?_⟩, by omega, by (simp (disch := omega) [wk, wkT, wkM, noF, isF, get, z0h, belowM, below, belows, I64, I32, Bv, U8, Sv, z11] <;> try omega)⟩
      rw [he, jl_skip hlt (by assumption)]; rfl
    · have := zte (c := L.getD (k + 1 + i) 0) (by omega)
      rw [he, jl_stop hlt (by omega), this]
  · have hb : bn L (k + (1 + i)) (-1) = -1 := bn_ge _ (by omega)
    repeat' first | refine z06 (z82 _ hL _ _ (by omega)) ?_ ?_ | refine z06 (zai _) ?_ ?_ | simp (maxSteps := 4000000) (disch := omega) only [bunL, bunD, bun, ↓z04, ↓z01, z02, findLabel, ↓reduceIte, imp, shift, z0b, z0a, unown, names, z07, below, noF, isF, z03, z09, z08, ren, givL, updM, z0c, renO, belowM, seval, -Int.reduceToNat, hb, D114, bunN, tab, tabC, z11, z0k, z0r] | exact z0f _ | refine z0e _ _ ?_ | exact Cln.cl | refine z05 _ ?_ | refine z00 _ _ ?_ ?_ | refine DR_q _ ?_ | (refine Fk.fk ?_ ?_ <;> intro hg <;> (try simp only [hg]) <;> (try simp only [bunB, arA, arB] at hg) <;> try (exfalso; first | omega | exact Bool.noConfusion hg | exact hg trivial)) | refine And.intro (by omega) ?_ | omega
    rw [he, jl_out (by omega)]
theorem zvt (L : List Int) (hL : L.length ≤ 1000) (k : Nat) (hk : k < L.length) : Spec Tryz.prog 132 [.ag (z11 L k), I64 (-1)] (I64 (jb L k)) := by
  refine z0g (z := false) (ts := [.tmp 4]) ok1 Tryz.func132 rfl rfl (by decide +kernel) (by simp [Tryz.ntmps132]) rfl ?_
  repeat' first | simp (maxSteps := 4000000) (disch := omega) only [bunL, bunD, bun, ↓z04, ↓z01, z02, findLabel, ↓reduceIte, imp, shift, z0b, z0a, unown, names, z07, below, noF, isF, z03, z09, z08, ren, givL, updM, z0c, renO, belowM, seval, -Int.reduceToNat, D114, bunN, tab, tabC, z11, z0k, z0r] | refine DR_q _ ?_ | (refine Fk.fk ?_ ?_ <;> intro hg <;> (try simp only [hg]) <;> (try simp only [bunB, arA, arB] at hg) <;> try (exfalso; first | omega | exact Bool.noConfusion hg | exact hg trivial)) | refine And.intro (by omega) ?_ | omega
  refine z0m (fun i : Nat => ⟨[(0, .ag (z11 L k)), (1, I64 (-1)), (2, .ptr 0 0), (4, I64 0), (5, I64 (-1 - i))], [.row true 1 (z11 L k)]⟩) (fun i => i ≤ k ∧ jb L k = jb L (k - i)) (fun i => L.length - i) 0 ⟨by omega, rfl⟩ (by (simp (disch := omega) [wk, wkT, wkM, noF, isF, get, z0h, belowM, below, belows, I64, I32, Bv, U8, Sv, z11] <;> try omega)) ?_
  intro i ⟨hi, he⟩
  by_cases hlt : i < k
  · have hb : bn L (k + (-1 - i)) (-1) = L.getD (k - i - 1) 0 := by rw [show (k : Int) + (-1 - i) = ((k - i - 1 : Nat) : Int) by omega, bn_in _ (by omega)]
    repeat' first | refine z06 (z82 _ hL _ _ (by omega)) ?_ ?_ | refine z06 (zai _) ?_ ?_ | simp (maxSteps := 4000000) (disch := omega) only [bunL, bunD, bun, ↓z04, ↓z01, z02, findLabel, ↓reduceIte, imp, shift, z0b, z0a, unown, names, z07, below, noF, isF, z03, z09, z08, ren, givL, updM, z0c, renO, belowM, seval, -Int.reduceToNat, hb, D114, bunN, tab, tabC, z11, z0k, z0r] | exact z0f _ | refine z0e _ _ ?_ | exact Cln.cl | refine z05 _ ?_ | refine z00 _ _ ?_ ?_ | refine DR_q _ ?_ | (refine Fk.fk ?_ ?_ <;> intro hg <;> (try simp only [hg]) <;> (try simp only [bunB, arA, arB] at hg) <;> try (exfalso; first | omega | exact Bool.noConfusion hg | exact hg trivial)) | refine And.intro (by omega) ?_ | omega
    · rw [he, ztd (by omega) (by assumption)]
    · refine ⟨i + 1, ⟨by omega, ?_⟩, by omega, by (simp (disch := omega) [wk, wkT, wkM, noF, isF, get, z0h, belowM, below, belows, I64, I32, Bv, U8, Sv, z11] <;> try omega)⟩
      rw [he, jb_skip' (by omega) (by assumption)]; rfl
    · have := zte (c := L.getD (k - i - 1) 0) (by omega)
      rw [he, ztd (by omega) (by omega), this]
  · have hb : bn L (k + (-1 - i)) (-1) = -1 := bn_lt _ (by omega)
    repeat' first | refine z06 (z82 _ hL _ _ (by omega)) ?_ ?_ | refine z06 (zai _) ?_ ?_ | simp (maxSteps := 4000000) (disch := omega) only [bunL, bunD, bun, ↓z04, ↓z01, z02, findLabel, ↓reduceIte, imp, shift, z0b, z0a, unown, names, z07, below, noF, isF, z03, z09, z08, ren, givL, updM, z0c, renO, belowM, seval, -Int.reduceToNat, hb, D114, bunN, tab, tabC, z11, z0k, z0r] | exact z0f _ | refine z0e _ _ ?_ | exact Cln.cl | refine z05 _ ?_ | refine z00 _ _ ?_ ?_ | refine DR_q _ ?_ | (refine Fk.fk ?_ ?_ <;> intro hg <;> (try simp only [hg]) <;> (try simp only [bunB, arA, arB] at hg) <;> try (exfalso; first | omega | exact Bool.noConfusion hg | exact hg trivial)) | refine And.intro (by omega) ?_ | omega
    rw [he, show k - i = 0 by omega]; rfl
theorem oneI_spec (L : List Int) (hL : L.length ≤ 1000) : Spec Tryz.prog 120 [.sl L.length (L.map I32), .fn 107 [] []] (I64 (idx L.length (L.findIdx arA))) := by
  refine z0g (z := false) (ts := [.tmp 4]) ok1 Tryz.func120 rfl rfl (by decide +kernel) (by simp [Tryz.ntmps120]) rfl ?_
  repeat' first | simp (maxSteps := 4000000) (disch := omega) only [bunL, bunD, bun, ↓z04, ↓z01, z02, findLabel, ↓reduceIte, imp, shift, z0b, z0a, unown, names, z07, below, noF, isF, z03, z09, z08, ren, givL, updM, z0c, renO, belowM, seval, -Int.reduceToNat, B3, B4, B21, B41, B66, bunN, tab, tabC, z11, z0k, z0r] | refine DR_q _ ?_ | (refine Fk.fk ?_ ?_ <;> intro hg <;> (try simp only [hg]) <;> (try simp only [bunB, arA, arB] at hg) <;> try (exfalso; first | omega | exact Bool.noConfusion hg | exact hg trivial)) | refine And.intro (by omega) ?_ | omega
  refine z0m (fun i : Nat => ⟨[(0, .sl L.length (L.map I32)), (1, .fn 107 [] []), (7, I64 L.length), (8, I64 i)], []⟩) (fun i => i ≤ L.length ∧ ∀ j, j < i → arA (L.getD j 0) = false) (fun i => L.length - i) 0 (by simp) (by (simp (disch := omega) [wk, wkT, wkM, noF, isF, get, z0h, belowM, below, belows, I64, I32, Bv, U8, Sv, z11] <;> try omega)) ?_
  intro i ⟨hi, hno⟩
  repeat' first | refine z06 (z4h _) ?_ ?_ | simp (maxSteps := 4000000) (disch := omega) only [bunL, bunD, bun, ↓z04, ↓z01, z02, findLabel, ↓reduceIte, imp, shift, z0b, z0a, unown, names, z07, below, noF, isF, z03, z09, z08, ren, givL, updM, z0c, renO, belowM, seval, -Int.reduceToNat, B3, B4, B21, B41, B66, bunN, tab, tabC, z11, z0k, z0r] | exact z0f _ | refine z0e _ _ ?_ | exact Cln.cl | refine z05 _ ?_ | refine z00 _ _ ?_ ?_ | refine DR_q _ ?_ | (refine Fk.fk ?_ ?_ <;> intro hg <;> (try simp only [hg]) <;> (try simp only [bunB, arA, arB] at hg) <;> try (exfalso; first | omega | exact Bool.noConfusion hg | exact hg trivial)) | refine And.intro (by omega) ?_ | omega
  · rw [zeg rfl hno (by omega) (by (first | assumption | (simp only [arA, arB, Bool.and_eq_true, Bool.and_eq_false_iff, decide_eq_true_eq, decide_eq_false_iff_not]; assumption)))]
  · exact ⟨i + 1, ⟨by omega, z8p hno (by (first | assumption | (simp only [arA, arB, Bool.and_eq_true, Bool.and_eq_false_iff, decide_eq_true_eq, decide_eq_false_iff_not]; assumption)))⟩, by omega, (by (simp (disch := omega) [wk, wkT, wkM, noF, isF, get, z0h, belowM, below, belows, I64, I32, Bv, U8, Sv, z11] <;> try omega))⟩
  · rw [zag rfl hno (by omega)]
theorem oneC_spec (L : List Int) (hL : L.length ≤ 1000) : Spec Tryz.prog 109 [.sl L.length (L.map I32), .fn 107 [] []] (Bv (L.any arA)) := by
  refine z0g (z := false) (ts := [.tmp 4]) ok1 Tryz.func109 rfl rfl (by decide +kernel) (by simp [Tryz.ntmps109]) rfl ?_
  repeat' first | refine z06 (oneI_spec L hL) ?_ ?_ | simp (maxSteps := 4000000) (disch := omega) only [bunL, bunD, bun, ↓z04, ↓z01, z02, findLabel, ↓reduceIte, imp, shift, z0b, z0a, unown, names, z07, below, noF, isF, z03, z09, z08, ren, givL, updM, z0c, renO, belowM, seval, -Int.reduceToNat, B3, B4, B21, B41, B66, bunN, tab, tabC, z11, z0k, z0r] | exact z0f _ | refine z0e _ _ ?_ | exact Cln.cl | refine z05 _ ?_ | refine z00 _ _ ?_ ?_ | refine DR_q _ ?_ | (refine Fk.fk ?_ ?_ <;> intro hg <;> (try simp only [hg]) <;> (try simp only [bunB, arA, arB] at hg) <;> try (exfalso; first | omega | exact Bool.noConfusion hg | exact hg trivial)) | refine And.intro (by omega) ?_ | omega
  rw [← zpd rfl]
theorem twoI_spec (L : List Int) (hL : L.length ≤ 1000) : Spec Tryz.prog 120 [.sl L.length (L.map I32), .fn 110 [] []] (I64 (idx L.length (L.findIdx arB))) := by
  refine z0g (z := false) (ts := [.tmp 4]) ok1 Tryz.func120 rfl rfl (by decide +kernel) (by simp [Tryz.ntmps120]) rfl ?_
  repeat' first | simp (maxSteps := 4000000) (disch := omega) only [bunL, bunD, bun, ↓z04, ↓z01, z02, findLabel, ↓reduceIte, imp, shift, z0b, z0a, unown, names, z07, below, noF, isF, z03, z09, z08, ren, givL, updM, z0c, renO, belowM, seval, -Int.reduceToNat, B3, B4, B21, B41, B66, bunN, tab, tabC, z11, z0k, z0r] | refine DR_q _ ?_ | (refine Fk.fk ?_ ?_ <;> intro hg <;> (try simp only [hg]) <;> (try simp only [bunB, arA, arB] at hg) <;> try (exfalso; first | omega | exact Bool.noConfusion hg | exact hg trivial)) | refine And.intro (by omega) ?_ | omega
  refine z0m (fun i : Nat => ⟨[(0, .sl L.length (L.map I32)), (1, .fn 110 [] []), (7, I64 L.length), (8, I64 i)], []⟩) (fun i => i ≤ L.length ∧ ∀ j, j < i → arB (L.getD j 0) = false) (fun i => L.length - i) 0 (by simp) (by (simp (disch := omega) [wk, wkT, wkM, noF, isF, get, z0h, belowM, below, belows, I64, I32, Bv, U8, Sv, z11] <;> try omega)) ?_
  intro i ⟨hi, hno⟩
  repeat' first | refine z06 (z4k _) ?_ ?_ | simp (maxSteps := 4000000) (disch := omega) only [bunL, bunD, bun, ↓z04, ↓z01, z02, findLabel, ↓reduceIte, imp, shift, z0b, z0a, unown, names, z07, below, noF, isF, z03, z09, z08, ren, givL, updM, z0c, renO, belowM, seval, -Int.reduceToNat, B3, B4, B21, B41, B66, bunN, tab, tabC, z11, z0k, z0r] | exact z0f _ | refine z0e _ _ ?_ | exact Cln.cl | refine z05 _ ?_ | refine z00 _ _ ?_ ?_ | refine DR_q _ ?_ | (refine Fk.fk ?_ ?_ <;> intro hg <;> (try simp only [hg]) <;> (try simp only [bunB, arA, arB] at hg) <;> try (exfalso; first | omega | exact Bool.noConfusion hg | exact hg trivial)) | refine And.intro (by omega) ?_ | omega
  · rw [zeg rfl hno (by omega) (by (first | assumption | (simp only [arA, arB, Bool.and_eq_true, Bool.and_eq_false_iff, decide_eq_true_eq, decide_eq_false_iff_not]; assumption)))]
  · exact ⟨i + 1, ⟨by omega, z8p hno (by (first | assumption | (simp only [arA, arB, Bool.and_eq_true, Bool.and_eq_false_iff, decide_eq_true_eq, decide_eq_false_iff_not]; assumption)))⟩, by omega, (by (simp (disch := omega) [wk, wkT, wkM, noF, isF, get, z0h, belowM, below, belows, I64, I32, Bv, U8, Sv, z11] <;> try omega))⟩
  · rw [zag rfl hno (by omega)]
theorem twoC_spec (L : List Int) (hL : L.length ≤ 1000) : Spec Tryz.prog 109 [.sl L.length (L.map I32), .fn 110 [] []] (Bv (L.any arB)) := by
  refine z0g (z := false) (ts := [.tmp 4]) ok1 Tryz.func109 rfl rfl (by decide +kernel) (by simp [Tryz.ntmps109]) rfl ?_
  repeat' first | refine z06 (twoI_spec L hL) ?_ ?_ | simp (maxSteps := 4000000) (disch := omega) only [bunL, bunD, bun, ↓z04, ↓z01, z02, findLabel, ↓reduceIte, imp, shift, z0b, z0a, unown, names, z07, below, noF, isF, z03, z09, z08, ren, givL, updM, z0c, renO, belowM, seval, -Int.reduceToNat, B3, B4, B21, B41, B66, bunN, tab, tabC, z11, z0k, z0r] | exact z0f _ | refine z0e _ _ ?_ | exact Cln.cl | refine z05 _ ?_ | refine z00 _ _ ?_ ?_ | refine DR_q _ ?_ | (refine Fk.fk ?_ ?_ <;> intro hg <;> (try simp only [hg]) <;> (try simp only [bunB, arA, arB] at hg) <;> try (exfalso; first | omega | exact Bool.noConfusion hg | exact hg trivial)) | refine And.intro (by omega) ?_ | omega
  rw [← zpd rfl]
theorem asnF_spec (L : List Int) (k c : Int) : Spec Tryz.prog 134 [I32 c, .cp (z11 L k)] (Bv (asn c)) := by
  refine z0g (z := false) (ts := [.tmp 3]) ok1 Tryz.func134 rfl rfl (by decide +kernel) (by simp [Tryz.ntmps134]) rfl ?_
  repeat' first | refine z06 (za1 _) ?_ ?_ | simp (maxSteps := 4000000) (disch := omega) only [bunL, bunD, bun, ↓z04, ↓z01, z02, findLabel, ↓reduceIte, imp, shift, z0b, z0a, unown, names, z07, below, noF, isF, z03, z09, z08, ren, givL, updM, z0c, renO, belowM, seval, -Int.reduceToNat, D114, bunN, tab, tabC, z11, z0k, z0r] | exact z0f _ | refine z0e _ _ ?_ | exact Cln.cl | refine z05 _ ?_ | refine z00 _ _ ?_ ?_ | refine DR_q _ ?_ | (refine Fk.fk ?_ ?_ <;> intro hg <;> (try simp only [hg]) <;> (try simp only [bunB, arA, arB] at hg) <;> try (exfalso; first | omega | exact Bool.noConfusion hg | exact hg trivial)) | refine And.intro (by omega) ?_ | omega
  all_goals (congr 2; unfold asn; simp_all)
theorem asnI_spec (L : List Int) (hL : L.length ≤ 1000) (M : List Int) (k : Int) : Spec Tryz.prog 120 [.sl L.length (L.map I32), .fn 134 [] [.cp (z11 M k)]] (I64 (idx L.length (L.findIdx asn))) := by
  refine z0g (z := false) (ts := [.tmp 4]) ok1 Tryz.func120 rfl rfl (by decide +kernel) (by simp [Tryz.ntmps120]) rfl ?_
  repeat' first | simp (maxSteps := 4000000) (disch := omega) only [bunL, bunD, bun, ↓z04, ↓z01, z02, findLabel, ↓reduceIte, imp, shift, z0b, z0a, unown, names, z07, below, noF, isF, z03, z09, z08, ren, givL, updM, z0c, renO, belowM, seval, -Int.reduceToNat, B3, B4, B21, B41, B66, bunN, tab, tabC, z11, z0k, z0r] | refine DR_q _ ?_ | (refine Fk.fk ?_ ?_ <;> intro hg <;> (try simp only [hg]) <;> (try simp only [bunB, arA, arB] at hg) <;> try (exfalso; first | omega | exact Bool.noConfusion hg | exact hg trivial)) | refine And.intro (by omega) ?_ | omega
  refine z0m (fun i : Nat => ⟨[(0, .sl L.length (L.map I32)), (1, .fn 134 [] [.cp (z11 M k)]), (7, I64 L.length), (8, I64 i)], []⟩) (fun i => i ≤ L.length ∧ ∀ j, j < i → asn (L.getD j 0) = false) (fun i => L.length - i) 0 (by simp) (by (simp (disch := omega) [wk, wkT, wkM, noF, isF, get, z0h, belowM, below, belows, I64, I32, Bv, U8, Sv, z11] <;> try omega)) ?_
  intro i ⟨hi, hno⟩
  repeat' first | refine z06 (asnF_spec _ _ _) ?_ ?_ | simp (maxSteps := 4000000) (disch := omega) only [bunL, bunD, bun, ↓z04, ↓z01, z02, findLabel, ↓reduceIte, imp, shift, z0b, z0a, unown, names, z07, below, noF, isF, z03, z09, z08, ren, givL, updM, z0c, renO, belowM, seval, -Int.reduceToNat, B3, B4, B21, B41, B66, bunN, tab, tabC, z11, z0k, z0r] | exact z0f _ | refine z0e _ _ ?_ | exact Cln.cl | refine z05 _ ?_ | refine z00 _ _ ?_ ?_ | refine DR_q _ ?_ | (refine Fk.fk ?_ ?_ <;> intro hg <;> (try simp only [hg]) <;> (try simp only [bunB, arA, arB] at hg) <;> try (exfalso; first | omega | exact Bool.noConfusion hg | exact hg trivial)) | refine And.intro (by omega) ?_ | omega
  · rw [zeg rfl hno (by omega) (by (first | assumption | (simp only [arA, arB, Bool.and_eq_true, Bool.and_eq_false_iff, decide_eq_true_eq, decide_eq_false_iff_not]; assumption)))]
  · exact ⟨i + 1, ⟨by omega, z8p hno (by (first | assumption | (simp only [arA, arB, Bool.and_eq_true, Bool.and_eq_false_iff, decide_eq_true_eq, decide_eq_false_iff_not]; assumption)))⟩, by omega, (by (simp (disch := omega) [wk, wkT, wkM, noF, isF, get, z0h, belowM, below, belows, I64, I32, Bv, U8, Sv, z11] <;> try omega))⟩
  · rw [zag rfl hno (by omega)]
theorem asnC_spec (L : List Int) (hL : L.length ≤ 1000) (M : List Int) (k : Int) : Spec Tryz.prog 109 [.sl L.length (L.map I32), .fn 134 [] [.cp (z11 M k)]] (Bv (L.any asn)) := by
  refine z0g (z := false) (ts := [.tmp 4]) ok1 Tryz.func109 rfl rfl (by decide +kernel) (by simp [Tryz.ntmps109]) rfl ?_
  repeat' first | refine z06 (asnI_spec L hL M k) ?_ ?_ | simp (maxSteps := 4000000) (disch := omega) only [bunL, bunD, bun, ↓z04, ↓z01, z02, findLabel, ↓reduceIte, imp, shift, z0b, z0a, unown, names, z07, below, noF, isF, z03, z09, z08, ren, givL, updM, z0c, renO, belowM, seval, -Int.reduceToNat, B3, B4, B21, B41, B66, bunN, tab, tabC, z11, z0k, z0r] | exact z0f _ | refine z0e _ _ ?_ | exact Cln.cl | refine z05 _ ?_ | refine z00 _ _ ?_ ?_ | refine DR_q _ ?_ | (refine Fk.fk ?_ ?_ <;> intro hg <;> (try simp only [hg]) <;> (try simp only [bunB, arA, arB] at hg) <;> try (exfalso; first | omega | exact Bool.noConfusion hg | exact hg trivial)) | refine And.intro (by omega) ?_ | omega
  rw [← zpd rfl]
theorem zls (L : List Int) (hL : L.length ≤ 1000) (hb : ∀ c ∈ L, inI c) (k : Nat) (hk : k < L.length) : Spec Tryz.prog 121 [.ag (z11 L k)] (Bv (deadB L k)) := by
  refine z0g (z := false) (ts := [.tmp 2]) ok1 Tryz.func121 rfl rfl (by decide +kernel) (by simp [Tryz.ntmps121]) rfl ?_
  have hbd := bn_bd hb (k + -1) (-1) m1_in
  repeat' first | refine z06 (z82 _ hL _ _ (by omega)) ?_ ?_ | refine z06 (z4q _ (by omega) (by omega)) ?_ ?_ | simp (maxSteps := 4000000) (disch := omega) only [bunL, bunD, bun, ↓z04, ↓z01, z02, findLabel, ↓reduceIte, imp, shift, z0b, z0a, unown, names, z07, below, noF, isF, z03, z09, z08, ren, givL, updM, z0c, renO, belowM, seval, -Int.reduceToNat, D114, bunN, tab, tabC, z11, z0k, z0r] | exact z0f _ | refine z0e _ _ ?_ | exact Cln.cl | refine z05 _ ?_ | refine z00 _ _ ?_ ?_ | refine DR_q _ ?_ | (refine Fk.fk ?_ ?_ <;> intro hg <;> (try simp only [hg]) <;> (try simp only [bunB, arA, arB] at hg) <;> try (exfalso; first | omega | exact Bool.noConfusion hg | exact hg trivial)) | refine And.intro (by omega) ?_ | omega
  rfl
theorem zv8 (L : List Int) (hL : L.length ≤ 1000) (hb : ∀ c ∈ L, inI c) (k : Nat) (hk : k < L.length) : Spec Tryz.prog 122 [.ag (z11 L k)] (Bv (boundB L k)) := by
  refine z0g (z := false) (ts := [.tmp 2]) ok1 Tryz.func122 rfl rfl (by decide +kernel) (by simp [Tryz.ntmps122]) rfl ?_
  repeat' first | refine z06 (zvu _ hL _ hk) ?_ ?_ | refine z06 (zvt _ hL _ hk) ?_ ?_ | refine z06 (zls _ hL hb _ hk) ?_ ?_ | simp (maxSteps := 4000000) (disch := omega) only [bunL, bunD, bun, ↓z04, ↓z01, z02, findLabel, ↓reduceIte, imp, shift, z0b, z0a, unown, names, z07, below, noF, isF, z03, z09, z08, ren, givL, updM, z0c, renO, belowM, seval, -Int.reduceToNat, D114, bunN, tab, tabC, z11, z0k, z0r] | exact z0f _ | refine z0e _ _ ?_ | exact Cln.cl | refine z05 _ ?_ | refine z00 _ _ ?_ ?_ | refine DR_q _ ?_ | (refine Fk.fk ?_ ?_ <;> intro hg <;> (try simp only [hg]) <;> (try simp only [bunB, arA, arB] at hg) <;> try (exfalso; first | omega | exact Bool.noConfusion hg | exact hg trivial)) | refine And.intro (by omega) ?_ | omega
  all_goals (congr 2; simp_all [boundB])
theorem zll (L : List Int) (hL : L.length ≤ 1000) (k : Nat) (hk : k < L.length) : Spec Tryz.prog 123 [.ag (z11 L k)] (Bv (betwB L k)) := by
  refine z0g (z := false) (ts := [.tmp 2]) ok1 Tryz.func123 rfl rfl (by decide +kernel) (by simp [Tryz.ntmps123]) rfl ?_
  have e : betwB L k = ((bn L (k + -1) (-1) == 108) && (bn L (k + 1) (-1) == 108)) := rfl
  repeat' first | refine z06 (z82 _ hL _ _ (by omega)) ?_ ?_ | simp (maxSteps := 4000000) (disch := omega) only [bunL, bunD, bun, ↓z04, ↓z01, z02, findLabel, ↓reduceIte, imp, shift, z0b, z0a, unown, names, z07, below, noF, isF, z03, z09, z08, ren, givL, updM, z0c, renO, belowM, seval, -Int.reduceToNat, D114, bunN, tab, tabC, z11, z0k, z0r] | exact z0f _ | refine z0e _ _ ?_ | exact Cln.cl | refine z05 _ ?_ | refine z00 _ _ ?_ ?_ | refine DR_q _ ?_ | (refine Fk.fk ?_ ?_ <;> intro hg <;> (try simp only [hg]) <;> (try simp only [bunB, arA, arB] at hg) <;> try (exfalso; first | omega | exact Bool.noConfusion hg | exact hg trivial)) | refine And.intro (by omega) ?_ | omega
  all_goals (congr 2; simp_all)
theorem zvq (L : List Int) (hL : L.length ≤ 1000) (k : Nat) (hk : k < L.length) : Spec Tryz.prog 124 [.ag (z11 L k)] (Bv (greekB L k)) := by
  refine z0g (z := false) (ts := [.tmp 2]) ok1 Tryz.func124 rfl rfl (by decide +kernel) (by simp [Tryz.ntmps124]) rfl ?_
  repeat' first | refine z06 (z82 _ hL _ _ (by omega)) ?_ ?_ | refine z06 (za1 _) ?_ ?_ | simp (maxSteps := 4000000) (disch := omega) only [bunL, bunD, bun, ↓z04, ↓z01, z02, findLabel, ↓reduceIte, imp, shift, z0b, z0a, unown, names, z07, below, noF, isF, z03, z09, z08, ren, givL, updM, z0c, renO, belowM, seval, -Int.reduceToNat, D114, bunN, tab, tabC, z11, z0k, z0r] | exact z0f _ | refine z0e _ _ ?_ | exact Cln.cl | refine z05 _ ?_ | refine z00 _ _ ?_ ?_ | refine DR_q _ ?_ | (refine Fk.fk ?_ ?_ <;> intro hg <;> (try simp only [hg]) <;> (try simp only [bunB, arA, arB] at hg) <;> try (exfalso; first | omega | exact Bool.noConfusion hg | exact hg trivial)) | refine And.intro (by omega) ?_ | omega
  rfl
theorem zpc (L : List Int) (hL : L.length ≤ 1000) (k : Nat) (hk : k < L.length) : Spec Tryz.prog 125 [.ag (z11 L k)] (Bv (hebB L k)) := by
  refine z0g (z := false) (ts := [.tmp 2]) ok1 Tryz.func125 rfl rfl (by decide +kernel) (by simp [Tryz.ntmps125]) rfl ?_
  repeat' first | refine z06 (z82 _ hL _ _ (by omega)) ?_ ?_ | refine z06 (za1 _) ?_ ?_ | simp (maxSteps := 4000000) (disch := omega) only [bunL, bunD, bun, ↓z04, ↓z01, z02, findLabel, ↓reduceIte, imp, shift, z0b, z0a, unown, names, z07, below, noF, isF, z03, z09, z08, ren, givL, updM, z0c, renO, belowM, seval, -Int.reduceToNat, D114, bunN, tab, tabC, z11, z0k, z0r] | exact z0f _ | refine z0e _ _ ?_ | exact Cln.cl | refine z05 _ ?_ | refine z00 _ _ ?_ ?_ | refine DR_q _ ?_ | (refine Fk.fk ?_ ?_ <;> intro hg <;> (try simp only [hg]) <;> (try simp only [bunB, arA, arB] at hg) <;> try (exfalso; first | omega | exact Bool.noConfusion hg | exact hg trivial)) | refine And.intro (by omega) ?_ | omega
  rfl
theorem zv4 (L : List Int) (hL : L.length ≤ 1000) (k : Nat) (hk : k < L.length) : Spec Tryz.prog 126 [.ag (z11 L k)] (Bv (L.any asn)) := by
  refine z0g (z := false) (ts := [.tmp 2]) ok1 Tryz.func126 rfl rfl (by decide +kernel) (by simp [Tryz.ntmps126]) rfl ?_
  repeat' first | refine z06 (asnC_spec L hL L k) ?_ ?_ | simp (maxSteps := 4000000) (disch := omega) only [bunL, bunD, bun, ↓z04, ↓z01, z02, findLabel, ↓reduceIte, imp, shift, z0b, z0a, unown, names, z07, below, noF, isF, z03, z09, z08, ren, givL, updM, z0c, renO, belowM, seval, -Int.reduceToNat, B66, D114, bunN, tab, tabC, z11, z0k, z0r] | exact z0f _ | refine z0e _ _ ?_ | exact Cln.cl | refine z05 _ ?_ | refine z00 _ _ ?_ ?_ | refine DR_q _ ?_ | (refine Fk.fk ?_ ?_ <;> intro hg <;> (try simp only [hg]) <;> (try simp only [bunB, arA, arB] at hg) <;> try (exfalso; first | omega | exact Bool.noConfusion hg | exact hg trivial)) | refine And.intro (by omega) ?_ | omega
theorem zwh (L : List Int) (hL : L.length ≤ 1000) (k : Int) : Spec Tryz.prog 108 [.ag (z11 L k)] (Bv (!L.any arB)) := by
  refine z0g (z := false) (ts := [.tmp 2]) ok1 Tryz.func108 rfl rfl (by decide +kernel) (by simp [Tryz.ntmps108]) rfl ?_
  repeat' first | refine z06 (twoC_spec L hL) ?_ ?_ | simp (maxSteps := 4000000) (disch := omega) only [bunL, bunD, bun, ↓z04, ↓z01, z02, findLabel, ↓reduceIte, imp, shift, z0b, z0a, unown, names, z07, below, noF, isF, z03, z09, z08, ren, givL, updM, z0c, renO, belowM, seval, -Int.reduceToNat, B66, D114, bunN, tab, tabC, z11, z0k, z0r] | exact z0f _ | refine z0e _ _ ?_ | exact Cln.cl | refine z05 _ ?_ | refine z00 _ _ ?_ ?_ | refine DR_q _ ?_ | (refine Fk.fk ?_ ?_ <;> intro hg <;> (try simp only [hg]) <;> (try simp only [bunB, arA, arB] at hg) <;> try (exfalso; first | omega | exact Bool.noConfusion hg | exact hg trivial)) | refine And.intro (by omega) ?_ | omega
theorem zwi (L : List Int) (hL : L.length ≤ 1000) (k : Int) : Spec Tryz.prog 111 [.ag (z11 L k)] (Bv (!L.any arA)) := by
  refine z0g (z := false) (ts := [.tmp 2]) ok1 Tryz.func111 rfl rfl (by decide +kernel) (by simp [Tryz.ntmps111]) rfl ?_
  repeat' first | refine z06 (oneC_spec L hL) ?_ ?_ | simp (maxSteps := 4000000) (disch := omega) only [bunL, bunD, bun, ↓z04, ↓z01, z02, findLabel, ↓reduceIte, imp, shift, z0b, z0a, unown, names, z07, below, noF, isF, z03, z09, z08, ren, givL, updM, z0c, renO, belowM, seval, -Int.reduceToNat, B66, D114, bunN, tab, tabC, z11, z0k, z0r] | exact z0f _ | refine z0e _ _ ?_ | exact Cln.cl | refine z05 _ ?_ | refine z00 _ _ ?_ ?_ | refine DR_q _ ?_ | (refine Fk.fk ?_ ?_ <;> intro hg <;> (try simp only [hg]) <;> (try simp only [bunB, arA, arB] at hg) <;> try (exfalso; first | omega | exact Bool.noConfusion hg | exact hg trivial)) | refine And.intro (by omega) ?_ | omega
end Go.AE
end
section
namespace Go.AE
open Go.Proofs
set_option maxRecDepth 20000
set_option linter.unusedSimpArgs false
def z7q : List (Value × AV) := [(.int .i32 8205, .fn 121 [] []), (.int .i32 8204, .fn 122 [] []), (.int .i32 183, .fn 123 [] []), (.int .i32 885, .fn 124 [] []), (.int .i32 1523, .fn 125 [] []), (.int .i32 1524, .fn 125 [] []), (.int .i32 12539, .fn 126 [] [])]
theorem z22 : (∀ e ∈ z7q, z1h C1 21 e.1 = true) = True := by
  simp only [eq_iff_iff, iff_true]
  intro e he
  simp only [z7q, List.mem_cons, List.not_mem_nil, or_false] at he
  rcases he with rfl | rfl | rfl | rfl | rfl | rfl | rfl <;> rfl
theorem z2u : Spec Tryz.prog 112 [] (.mp z7q) := by
  refine z0g (z := true) (ts := [.tmp 0]) ok1 Tryz.func112 rfl rfl (by decide +kernel) (by simp [Tryz.ntmps112]) rfl ?_
  repeat' first | simp (maxSteps := 4000000) (disch := omega) only [bunL, bunD, bun, ↓z04, ↓z01, z02, findLabel, ↓reduceIte, imp, shift, z0b, z0a, unown, names, z07, below, noF, isF, z03, z09, z08, ren, givL, updM, z0c, renO, belowM, seval, -Int.reduceToNat, mput, eqK, eq1, List.forall_mem_cons, List.not_mem_nil, false_implies, implies_true, D134, bunN, tab, tabC, z11, z0k, z0r, z22] | refine DR_q _ ?_ | (refine Fk.fk ?_ ?_ <;> intro hg <;> (try simp only [hg]) <;> (try simp only [bunB, arA, arB] at hg) <;> try (exfalso; first | omega | exact Bool.noConfusion hg | exact hg trivial)) | refine And.intro (by omega) ?_ | omega
  rfl
def ruleM : Rl → AV
  | .no => .v .nilFunc
  | .a => .fn 108 [] []
  | .b => .fn 111 [] []
  | .de => .fn 121 [] []
  | .bo => .fn 122 [] []
  | .be => .fn 123 [] []
  | .gr => .fn 124 [] []
  | .he => .fn 125 [] []
  | .as => .fn 126 [] []
def z5y (r : Int) : AV := ruleM (rl r)
theorem rget_no {r : Int} (h1 : r ≠ 8205) (h2 : r ≠ 8204) (h3 : r ≠ 183) (h4 : r ≠ 885) (h5 : r ≠ 1523) (h6 : r ≠ 1524) (h7 : r ≠ 12539) : mget (.int .i32 r) z7q = none := by
  have e1 := beq_eq_false_iff_ne.2 h1
  have e2 := beq_eq_false_iff_ne.2 h2
  have e3 := beq_eq_false_iff_ne.2 h3
  have e4 := beq_eq_false_iff_ne.2 h4
  have e5 := beq_eq_false_iff_ne.2 h5
  have e6 := beq_eq_false_iff_ne.2 h6
  have e7 := beq_eq_false_iff_ne.2 h7
  simp only [z7q, mget, eqK, eq1, e1, e2, e3, e4, e5, e6, e7]
theorem rule_spec (r : Int) : Spec Tryz.prog 90 [I32 r] (z5y r) := by
  refine z0g (z := false) (ts := [.tmp 2]) ok1 Tryz.func90 rfl rfl (by decide +kernel) (by simp [Tryz.ntmps90]) rfl ?_
  rcases zkv r with ⟨h, hr⟩ | ⟨h, h', hr⟩ | ⟨rfl, hr⟩ | ⟨rfl, hr⟩ | ⟨rfl, hr⟩ | ⟨rfl, hr⟩ | ⟨rfl, hr⟩ | ⟨rfl, hr⟩ | ⟨rfl, hr⟩ | ⟨⟨h, h', h1, h2, h3, h4, h5, h6, h7⟩, hr⟩
  · have hv : z5y r = .fn 108 [] [] := by unfold z5y; rw [hr]; rfl
    rw [hv]
    repeat' first | refine z06 (z4h _) ?_ ?_ | refine z06 (z4k _) ?_ ?_ | refine z06 (z2u) ?_ ?_ | simp (maxSteps := 4000000) (disch := omega) only [bunL, bunD, bun, ↓z04, ↓z01, z02, findLabel, ↓reduceIte, imp, shift, z0b, z0a, unown, names, z07, below, noF, isF, z03, z09, z08, ren, givL, updM, z0c, renO, belowM, seval, -Int.reduceToNat, h, B4, D134, bunN, tab, tabC, z11, z0k, z0r, z22] | exact z0f _ | refine z0e _ _ ?_ | exact Cln.cl | refine z05 _ ?_ | refine z00 _ _ ?_ ?_ | refine DR_q _ ?_ | (refine Fk.fk ?_ ?_ <;> intro hg <;> (try simp only [hg]) <;> (try simp only [bunB, arA, arB] at hg) <;> try (exfalso; first | omega | exact Bool.noConfusion hg | exact hg trivial)) | refine And.intro (by omega) ?_ | omega
  · have hv : z5y r = .fn 111 [] [] := by unfold z5y; rw [hr]; rfl
    rw [hv]
    repeat' first | refine z06 (z4h _) ?_ ?_ | refine z06 (z4k _) ?_ ?_ | refine z06 (z2u) ?_ ?_ | simp (maxSteps := 4000000) (disch := omega) only [bunL, bunD, bun, ↓z04, ↓z01, z02, findLabel, ↓reduceIte, imp, shift, z0b, z0a, unown, names, z07, below, noF, isF, z03, z09, z08, ren, givL, updM, z0c, renO, belowM, seval, -Int.reduceToNat, h, h', B4, D134, bunN, tab, tabC, z11, z0k, z0r, z22] | exact z0f _ | refine z0e _ _ ?_ | exact Cln.cl | refine z05 _ ?_ | refine z00 _ _ ?_ ?_ | refine DR_q _ ?_ | (refine Fk.fk ?_ ?_ <;> intro hg <;> (try simp only [hg]) <;> (try simp only [bunB, arA, arB] at hg) <;> try (exfalso; first | omega | exact Bool.noConfusion hg | exact hg trivial)) | refine And.intro (by omega) ?_ | omega
  · have h : arA 8205 = false := by decide
    have h' : arB 8205 = false := by decide
    have hm : mget (.int .i32 8205) z7q = some (.fn 121 [] []) := rfl
    have hv : z5y 8205 = .fn 121 [] [] := by unfold z5y; rw [hr]; rfl
    rw [hv]
    repeat' first | refine z06 (z4h _) ?_ ?_ | refine z06 (z4k _) ?_ ?_ | refine z06 (z2u) ?_ ?_ | simp (maxSteps := 4000000) (disch := omega) only [bunL, bunD, bun, ↓z04, ↓z01, z02, findLabel, ↓reduceIte, imp, shift, z0b, z0a, unown, names, z07, below, noF, isF, z03, z09, z08, ren, givL, updM, z0c, renO, belowM, seval, -Int.reduceToNat, h, h', hm, B4, D134, bunN, tab, tabC, z11, z0k, z0r, z22] | exact z0f _ | refine z0e _ _ ?_ | exact Cln.cl | refine z05 _ ?_ | refine z00 _ _ ?_ ?_ | refine DR_q _ ?_ | (refine Fk.fk ?_ ?_ <;> intro hg <;> (try simp only [hg]) <;> (try simp only [bunB, arA, arB] at hg) <;> try (exfalso; first | omega | exact Bool.noConfusion hg | exact hg trivial)) | refine And.intro (by omega) ?_ | omega
  · have h : arA 8204 = false := by decide
    have h' : arB 8204 = false := by decide
    have hm : mget (.int .i32 8204) z7q = some (.fn 122 [] []) := rfl
    have hv : z5y 8204 = .fn 122 [] [] := by unfold z5y; rw [hr]; rfl
    rw [hv]
    repeat' first | refine z06 (z4h _) ?_ ?_ | refine z06 (z4k _) ?_ ?_ | refine z06 (z2u) ?_ ?_ | simp (maxSteps := 4000000) (disch := omega) only [bunL, bunD, bun, ↓z04, ↓z01, z02, findLabel, ↓reduceIte, imp, shift, z0b, z0a, unown, names, z07, below, noF, isF, z03, z09, z08, ren, givL, updM, z0c, renO, belowM, seval, -Int.reduceToNat, h, h', hm, B4, D134, bunN, tab, tabC, z11, z0k, z0r, z22] | exact z0f _ | refine z0e _ _ ?_ | exact Cln.cl | refine z05 _ ?_ | refine z00 _ _ ?_ ?_ | refine DR_q _ ?_ | (refine Fk.fk ?_ ?_ <;> intro hg <;> (try simp only [hg]) <;> (try simp only [bunB, arA, arB] at hg) <;> try (exfalso; first | omega | exact Bool.noConfusion hg | exact hg trivial)) | refine And.intro (by omega) ?_ | omega
  · have h : arA 183 = false := by decide
    have h' : arB 183 = false := by decide
    have hm : mget (.int .i32 183) z7q = some (.fn 123 [] []) := rfl
    have hv : z5y 183 = .fn 123 [] [] := by unfold z5y; rw [hr]; rfl
    rw [hv]
    repeat' first | refine z06 (z4h _) ?_ ?_ | refine z06 (z4k _) ?_ ?_ | refine z06 (z2u) ?_ ?_ | simp (maxSteps := 4000000) (disch := omega) only [bunL, bunD, bun, ↓z04, ↓z01, z02, findLabel, ↓reduceIte, imp, shift, z0b, z0a, unown, names, z07, below, noF, isF, z03, z09, z08, ren, givL, updM, z0c, renO, belowM, seval, -Int.reduceToNat, h, h', hm, B4, D134, bunN, tab, tabC, z11, z0k, z0r, z22] | exact z0f _ | refine z0e _ _ ?_ | exact Cln.cl | refine z05 _ ?_ | refine z00 _ _ ?_ ?_ | refine DR_q _ ?_ | (refine Fk.fk ?_ ?_ <;> intro hg <;> (try simp only [hg]) <;> (try simp only [bunB, arA, arB] at hg) <;> try (exfalso; first | omega | exact Bool.noConfusion hg | exact hg trivial)) | refine And.intro (by omega) ?_ | omega
  · have h : arA 885 = false := by decide
    have h' : arB 885 = false := by decide
    have hm : mget (.int .i32 885) z7q = some (.fn 124 [] []) := rfl
    have hv : z5y 885 = .fn 124 [] [] := by unfold z5y; rw [hr]; rfl
    rw [hv]
    repeat' first | refine z06 (z4h _) ?_ ?_ | refine z06 (z4k _) ?_ ?_ | refine z06 (z2u) ?_ ?_ | simp (maxSteps := 4000000) (disch := omega) only [bunL, bunD, bun, ↓z04, ↓z01, z02, findLabel, ↓reduceIte, imp, shift, z0b, z0a, unown, names, z07, below, noF, isF, z03, z09, z08, ren, givL, updM, z0c, renO, belowM, seval, -Int.reduceToNat, h, h', hm, B4, D134, bunN, tab, tabC, z11, z0k, z0r, z22] | exact z0f _ | refine z0e _ _ ?_ | exact Cln.cl | refine z05 _ ?_ | refine z00 _ _ ?_ ?_ | refine DR_q _ ?_ | (refine Fk.fk ?_ ?_ <;> intro hg <;> (try simp only [hg]) <;> (try simp only [bunB, arA, arB] at hg) <;> try (exfalso; first | omega | exact Bool.noConfusion hg | exact hg trivial)) | refine And.intro (by omega) ?_ | omega
  · have h : arA 1523 = false := by decide
    have h' : arB 1523 = false := by decide
    have hm : mget (.int .i32 1523) z7q = some (.fn 125 [] []) := rfl
    have hv : z5y 1523 = .fn 125 [] [] := by unfold z5y; rw [hr]; rfl
    rw [hv]
    repeat' first | refine z06 (z4h _) ?_ ?_ | refine z06 (z4k _) ?_ ?_ | refine z06 (z2u) ?_ ?_ | simp (maxSteps := 4000000) (disch := omega) only [bunL, bunD, bun, ↓z04, ↓z01, z02, findLabel, ↓reduceIte, imp, shift, z0b, z0a, unown, names, z07, below, noF, isF, z03, z09, z08, ren, givL, updM, z0c, renO, belowM, seval, -Int.reduceToNat, h, h', hm, B4, D134, bunN, tab, tabC, z11, z0k, z0r, z22] | exact z0f _ | refine z0e _ _ ?_ | exact Cln.cl | refine z05 _ ?_ | refine z00 _ _ ?_ ?_ | refine DR_q _ ?_ | (refine Fk.fk ?_ ?_ <;> intro hg <;> (try simp only [hg]) <;> (try simp only [bunB, arA, arB] at hg) <;> try (exfalso; first | omega | exact Bool.noConfusion hg | exact hg trivial)) | refine And.intro (by omega) ?_ | omega
  · have h : arA 1524 = false := by decide
    have h' : arB 1524 = false := by decide
    have hm : mget (.int .i32 1524) z7q = some (.fn 125 [] []) := rfl
    have hv : z5y 1524 = .fn 125 [] [] := by unfold z5y; rw [hr]; rfl
    rw [hv]
    repeat' first | refine z06 (z4h _) ?_ ?_ | refine z06 (z4k _) ?_ ?_ | refine z06 (z2u) ?_ ?_ | simp (maxSteps := 4000000) (disch := omega) only [bunL, bunD, bun, ↓z04, ↓z01, z02, findLabel, ↓reduceIte, imp, shift, z0b, z0a, unown, names, z07, below, noF, isF, z03, z09, z08, ren, givL, updM, z0c, renO, belowM, seval, -Int.reduceToNat, h, h', hm, B4, D134, bunN, tab, tabC, z11, z0k, z0r, z22] | exact z0f _ | refine z0e _ _ ?_ | exact Cln.cl | refine z05 _ ?_ | refine z00 _ _ ?_ ?_ | refine DR_q _ ?_ | (refine Fk.fk ?_ ?_ <;> intro hg <;> (try simp only [hg]) <;> (try simp only [bunB, arA, arB] at hg) <;> try (exfalso; first | omega | exact Bool.noConfusion hg | exact hg trivial)) | refine And.intro (by omega) ?_ | omega
  · have h : arA 12539 = false := by decide
    have h' : arB 12539 = false := by decide
    have hm : mget (.int .i32 12539) z7q = some (.fn 126 [] []) := rfl
    have hv : z5y 12539 = .fn 126 [] [] := by unfold z5y; rw [hr]; rfl
    rw [hv]
    repeat' first | refine z06 (z4h _) ?_ ?_ | refine z06 (z4k _) ?_ ?_ | refine z06 (z2u) ?_ ?_ | simp (maxSteps := 4000000) (disch := omega) only [bunL, bunD, bun, ↓z04, ↓z01, z02, findLabel, ↓reduceIte, imp, shift, z0b, z0a, unown, names, z07, below, noF, isF, z03, z09, z08, ren, givL, updM, z0c, renO, belowM, seval, -Int.reduceToNat, h, h', hm, B4, D134, bunN, tab, tabC, z11, z0k, z0r, z22] | exact z0f _ | refine z0e _ _ ?_ | exact Cln.cl | refine z05 _ ?_ | refine z00 _ _ ?_ ?_ | refine DR_q _ ?_ | (refine Fk.fk ?_ ?_ <;> intro hg <;> (try simp only [hg]) <;> (try simp only [bunB, arA, arB] at hg) <;> try (exfalso; first | omega | exact Bool.noConfusion hg | exact hg trivial)) | refine And.intro (by omega) ?_ | omega
  · have hm := rget_no h1 h2 h3 h4 h5 h6 h7
    have hv : z5y r = .v .nilFunc := by unfold z5y; rw [hr]; rfl
    rw [hv]
    repeat' first | refine z06 (z4h _) ?_ ?_ | refine z06 (z4k _) ?_ ?_ | refine z06 (z2u) ?_ ?_ | simp (maxSteps := 4000000) (disch := omega) only [bunL, bunD, bun, ↓z04, ↓z01, z02, findLabel, ↓reduceIte, imp, shift, z0b, z0a, unown, names, z07, below, noF, isF, z03, z09, z08, ren, givL, updM, z0c, renO, belowM, seval, -Int.reduceToNat, h, h', hm, B4, D134, bunN, tab, tabC, z11, z0k, z0r, z22] | exact z0f _ | refine z0e _ _ ?_ | exact Cln.cl | refine z05 _ ?_ | refine z00 _ _ ?_ ?_ | refine DR_q _ ?_ | (refine Fk.fk ?_ ?_ <;> intro hg <;> (try simp only [hg]) <;> (try simp only [bunB, arA, arB] at hg) <;> try (exfalso; first | omega | exact Bool.noConfusion hg | exact hg trivial)) | refine And.intro (by omega) ?_ | omega
theorem need_spec (L : List Int) (hL : L.length ≤ 1000) (hb : ∀ c ∈ L, inI c) (k : Int) (h0 : -9223372036854775808 ≤ k) (h1 : k ≤ 9223372036854775807) : Spec Tryz.prog 68 [tab, .sl L.length (L.map I32), I64 k] (I64 (need L k)) := by
  refine z0g (z := false) (ts := [.tmp 6]) ok1 Tryz.func68 rfl rfl (by decide +kernel) (by simp [Tryz.ntmps68]) rfl ?_
  by_cases hk : 0 ≤ k ∧ k < L.length
  · obtain ⟨q, rfl⟩ : ∃ q : Nat, k = q := ⟨k.toNat, by omega⟩
    have hq : q < L.length := by omega
    cases hr : rl (L.getD q 0)
    all_goals
      have hv : z5y (L.getD q 0) = ruleM (rl (L.getD q 0)) := rfl
      rw [hr] at hv
      simp only [ruleM] at hv
      have hn : need L q = z6x L q := need_in hq
      unfold z6x at hn
      rw [hr] at hn
      repeat' first | refine z06 (rule_spec _) ?_ ?_ | refine z06 (zwh L hL _) ?_ ?_ | refine z06 (zwi L hL _) ?_ ?_ | refine z06 (zls L hL hb q hq) ?_ ?_ | refine z06 (zv8 L hL hb q hq) ?_ ?_ | refine z06 (zll L hL q hq) ?_ ?_ | refine z06 (zvq L hL q hq) ?_ ?_ | refine z06 (zpc L hL q hq) ?_ ?_ | refine z06 (zv4 L hL q hq) ?_ ?_ | simp (maxSteps := 4000000) (disch := omega) only [bunL, bunD, bun, ↓z04, ↓z01, z02, findLabel, ↓reduceIte, imp, shift, z0b, z0a, unown, names, z07, below, noF, isF, z03, z09, z08, ren, givL, updM, z0c, renO, belowM, seval, -Int.reduceToNat, hv, B111, D114, bunN, tab, tabC, z11, z0k, z0r, z22] | exact z0f _ | refine z0e _ _ ?_ | exact Cln.cl | refine z05 _ ?_ | refine z00 _ _ ?_ ?_ | refine DR_q _ ?_ | (refine Fk.fk ?_ ?_ <;> intro hg <;> (try simp only [hg]) <;> (try simp only [bunB, arA, arB] at hg) <;> try (exfalso; first | omega | exact Bool.noConfusion hg | exact hg trivial)) | refine And.intro (by omega) ?_ | omega
      all_goals (rw [hn]; simp_all [mets])
  · repeat' first | simp (maxSteps := 4000000) (disch := omega) only [bunL, bunD, bun, ↓z04, ↓z01, z02, findLabel, ↓reduceIte, imp, shift, z0b, z0a, unown, names, z07, below, noF, isF, z03, z09, z08, ren, givL, updM, z0c, renO, belowM, seval, -Int.reduceToNat, B111, D114, bunN, tab, tabC, z11, z0k, z0r, z22] | refine DR_q _ ?_ | (refine Fk.fk ?_ ?_ <;> intro hg <;> (try simp only [hg]) <;> (try simp only [bunB, arA, arB] at hg) <;> try (exfalso; first | omega | exact Bool.noConfusion hg | exact hg trivial)) | refine And.intro (by omega) ?_ | omega
    all_goals (rw [need_out (by omega)])
end Go.AE
end
namespace Go.AE
def endB : List Int → Int
  | [] => 0
  | c :: l => if bidi c = 6 then endB l else bidi c
def zd3 (L : List Int) : Int := endB L.reverse
theorem zlw {q : List Int} (h : ∀ c ∈ q, bidi c = 6) (l : List Int) : endB (q ++ l) = endB l := by
  induction q with
  | nil => rfl
  | cons c q ih => simp only [List.cons_append, endB]; rw [if_pos (h c (by simp)), ih fun c hc => h c (List.mem_cons_of_mem _ hc)]
end Go.AE
namespace Go.AE
def cn (L : List Int) (k : Int) : Int := (L.countP fun c => bidi c == k : Nat)
def cntC (L : List Int) : List AV := [I64 (cn L 0), I64 (cn L 1), I64 (cn L 2), I64 (cn L 3), I64 (cn L 4), I64 (cn L 5), I64 (cn L 6), I64 (cn L 7)]
theorem ran_bidi : (ranges.all fun x => decide (0 ≤ x.2.2.2.1) && decide (x.2.2.2.1 ≤ 7)) = true := by decide +kernel
theorem bidi_rng (c : Int) : 0 ≤ bidi c ∧ bidi c ≤ 7 := by
  unfold bidi ofR
  cases h : ranges.find? (z1j c) with
  | none => simp [z47]
  | some x =>
    have := List.all_eq_true.1 ran_bidi x (List.mem_of_find?_eq_some h)
    simpa using this
theorem zv6 (c : Int) : bidi c = 0 ∨ bidi c = 1 ∨ bidi c = 2 ∨ bidi c = 3 ∨ bidi c = 4 ∨ bidi c = 5 ∨ bidi c = 6 ∨ bidi c = 7 := by have := bidi_rng c; omega
theorem cn_nil (k : Int) : cn [] k = 0 := rfl
theorem cn_snoc (L : List Int) (c k : Int) : cn (L ++ [c]) k = cn L k + if bidi c = k then 1 else 0 := by
  unfold cn; rw [List.countP_append, List.countP_singleton]
  by_cases h : bidi c = k <;> simp [h]
theorem zlr (L : List Int) (k : Int) : 0 ≤ cn L k ∧ cn L k ≤ L.length := by
  unfold cn; exact ⟨by omega, by have := List.countP_le_length (p := fun c => bidi c == k) (l := L); omega⟩
theorem zhl (L : List Int) (k : Int) : (decide (cn L k > 0)) = L.any fun c => bidi c == k := by
  unfold cn
  rw [Bool.eq_iff_iff, decide_eq_true_eq, List.any_eq_true]
  constructor
  · intro h
    have : 0 < L.countP fun c => bidi c == k := by omega
    rw [List.countP_pos_iff] at this
    exact this
  · intro h
    have := List.countP_pos_iff.2 h
    omega
theorem cn_zero (L : List Int) (k : Int) : (cn L k == 0) = !L.any fun c => bidi c == k := by
  rw [← zhl]
  have := zlr L k
  rw [Bool.eq_iff_iff]; simp; omega
def rtl (c : Int) : Bool := bidi c == 2 || bidi c == 3 || bidi c == 5
def hasB (L : List Int) : Bool := L.any rtl
theorem hasB_cn (L : List Int) : (decide (cn L 2 + cn L 3 + cn L 5 > 0)) = hasB L := by
  have h2 := zlr L 2
  have h3 := zlr L 3
  have h5 := zlr L 5
  have e2 := zhl L 2
  have e3 := zhl L 3
  have e5 := zhl L 5
  have e : hasB L = ((L.any fun c => bidi c == 2) || (L.any fun c => bidi c == 3) || (L.any fun c => bidi c == 5)) := by
    unfold hasB
    rw [Bool.eq_iff_iff]
    simp only [List.any_eq_true, Bool.or_eq_true, rtl]
    constructor
    · rintro ⟨c, hc, (h | h) | h⟩
      · exact .inl (.inl ⟨c, hc, h⟩)
      · exact .inl (.inr ⟨c, hc, h⟩)
      · exact .inr ⟨c, hc, h⟩
    · rintro ((⟨c, hc, h⟩ | ⟨c, hc, h⟩) | ⟨c, hc, h⟩)
      · exact ⟨c, hc, .inl (.inl h)⟩
      · exact ⟨c, hc, .inl (.inr h)⟩
      · exact ⟨c, hc, .inr h⟩
  rw [e, ← e2, ← e3, ← e5, Bool.eq_iff_iff]
  simp; omega
def zns (L : List Int) : Int := match L with
  | [] => 0
  | c :: _ => if bidi c = 2 ∨ bidi c = 3 then 2 else if bidi c = 1 then 1 else 0
def zq2 (L : List Int) : Bool :=
  if zns L = 2 then (!L.any fun c => bidi c == 1) && ((zd3 L == 2) || (zd3 L == 3) || (zd3 L == 4) || (zd3 L == 5)) && !((L.any fun c => bidi c == 4) && (L.any fun c => bidi c == 5))
  else if zns L = 1 then !hasB L && ((zd3 L == 1) || (zd3 L == 4))
  else L.isEmpty
theorem zq8 (L : List Int) : zns L = 0 ∨ zns L = 1 ∨ zns L = 2 := by
  unfold zns; split
  · simp
  · split
    · simp
    · split <;> simp
theorem zwo {L : List Int} (h : 0 < L.length) : zns L = if bidi (L.getD 0 0) = 2 ∨ bidi (L.getD 0 0) = 3 then 2 else if bidi (L.getD 0 0) = 1 then 1 else 0 := by
  cases L with
  | nil => simp at h
  | cons c l => rfl
end Go.AE
section
namespace Go.AE
open Go.Proofs
set_option maxRecDepth 20000
set_option linter.unusedSimpArgs false
def bkL (L : List Int) : List (Int × Int) := (List.range L.length).map fun j : Nat => ((L.length : Int) - 1 - (j : Int), L.getD (L.length - 1 - j) 0)
def encB (x : Int × Int) : Array Value := #[.int .i64 x.1, .int .i32 x.2]
def KpF (F : Nat → Prop) (W W' : World) : Prop := ∀ b, F b → W'.heap[b]? = W.heap[b]?
theorem bkL_take {L : List Int} {j : Nat} (h : j < L.length) : (bkL L).take (j + 1) = (bkL L).take j ++ [((L.length : Int) - 1 - j, L.getD (L.length - 1 - j) 0)] := by
  unfold bkL; rw [List.take_add_one]; simp [h]
theorem bkL_all {L : List Int} : (bkL L).take L.length = bkL L := List.take_of_length_le (by simp [bkL])
def bkS (L : List Int) (yv p : Value) (j : Nat) : St := ⟨[(0, .v yv), (1, .v p), (3, I64 ((L.length : Int) - 1 - j))], []⟩
theorem bkS_wk {L : List Int} {yv p : Value} {j : Nat} {s : St} (h : wk s (bkS L yv p j)) : get s.t 0 = .v yv ∧ get s.t 1 = .v p ∧ get s.t 3 = I64 ((L.length : Int) - 1 - j) := by
  obtain ⟨h, _⟩ := h
  simp only [bkS, wkT, and_true] at h
  exact h
theorem zv5 (L : List Int) (hL : L.length ≤ 1000) (n : Nat) (w : World) (F : Nat → Prop) (hF : ∀ b, F b → b < w.heap.size) (p : Value) (hp : Rep w F [] (.cp [.sl L.length (L.map I32)]) p) :
    SeqStopsK (fr none) n Tryz.prog 113 #[p] encB (KpF F) (fun xs => xs = bkL L) (fun pre => pre <+: bkL L) L.length w := by
  skip
  intro l J Jx W hW hJ hJx hY h0
  have hFW : ∀ b, F b → b < W.heap.size := fun b hb => Nat.lt_of_lt_of_le (hF b hb) hW.size
  have same : ∀ W', (∀ b, F b → W'.heap[b]? = W.heap[b]?) → Rep W' F [] (.cp [.sl L.length (L.map I32)]) p := fun W' h => Rep.mono ⟨fun _ h => h, fun b hb => (h b hb).trans (hW.block b (hF b hb))⟩ (GSub.refl _) hp
  obtain ⟨yv, hyv⟩ : ∃ yv : Value, yv = .func (.yield l) #[] #[] := ⟨_, rfl⟩
  refine callsIn_of_wp Tryz.func113 rfl trivial ?_
  rw [show Tryz.f113.ntmps = 19 from Tryz.ntmps113]
  have hrel := zuf (N := 19) (ds := []) (args := [.v yv, .v p]) (vs := [yv, p]) hFW (.cons (.v _) (.cons (.v _) .nil)) (by simp)
  rw [show (#[Value.func (.yield l) #[] #[]] ++ #[p] : Array Value) = [yv, p].toArray by rw [hyv]; rfl]
  have grow : ∀ {w1 w2 : World} {s : List (Int × Int)}, Grow w1 w2 → J s w1 → J s w2 := fun h hj => hJ _ _ _ none hj ⟨h.os, h.tape, h.output, h.size, fun k hk _ => h.block k hk⟩ (fun r e => by cases e)
  have hinv : ∀ {V : z3q} {w0 w1 : World} {G1 : Gh} {F1 : Nat → Prop} {a1 : Act} {s1 : St} {j : Nat}, Rel 19 V w0 s1 G1 F1 a1 w1 → wk s1 (bkS L yv p j) → a1.defers = V.ds ∧ a1.tmps.size = 19 ∧ a1.tmps.getD 0 undef = yv ∧ a1.tmps.getD 1 undef = p ∧ a1.tmps.getD 3 undef = .int .i64 ((L.length : Int) - 1 - j) := by
    intro V w0 w1 G1 F1 a1 s1 j h hk
    obtain ⟨k0, k1, k3⟩ := bkS_wk hk
    exact ⟨h.defers, h.tsize, h.atv k0, h.atv k1, h.atv k3⟩
  have hrelj : ∀ {a1 : Act} {w1 : World} {j : Nat}, (∀ b, F b → w1.heap[b]? = W.heap[b]?) → a1.tmps.size = 19 → a1.tmps.getD 0 undef = yv → a1.tmps.getD 1 undef = p → a1.tmps.getD 3 undef = .int .i64 ((L.length : Int) - 1 - j) → Rel 19 ⟨F, [], [], a1.defers, none, fun _ => none⟩ w1 (bkS L yv p j) [] F a1 w1 := by
    intro a1 w1 j hs hn g0 g1 g3
    refine zug (fun b hb => ?_) hn fun k => ?_
    · have := hFW b hb
      have h1 := hs b hb
      rw [Array.getElem?_eq_getElem this] at h1
      exact (Array.getElem?_eq_some_iff.1 h1).1
    · simp only [bkS, get]
      split
      · rename_i e; subst e; rw [g0]; exact .v _
      split
      · rename_i e; subst e; rw [g1]; exact .v _
      split
      · rename_i e; subst e; rw [g3]; exact .v _
      exact .junk _
  refine wpIn_seq (wpIn_region_lit ?_)
  refine zms none n ok1 (t := 41) zjw rfl rfl rfl rfl hrel (by rw [hrel.atv (k := 1) (v := p) rfl]; exact same W (fun _ _ => rfl)) ?_
  intro a1 h1
  refine zkf none n ok1 (endQ (fun s => wk s (bkS L yv p 0)) (fun _ _ => False) (fun _ => False)) (by decide) h1 ?_ ?_
  · repeat' first | simp (maxSteps := 4000000) (disch := omega) only [bunL, bunD, bun, ↓z04, ↓z01, z02, findLabel, ↓reduceIte, imp, shift, z0b, z0a, unown, names, z07, below, noF, isF, z03, z09, z08, ren, givL, updM, z0c, renO, belowM, seval, -Int.reduceToNat, z1t, B3, B4, B21, B41, B136, bunN, z0k, z0r] | refine DR_q _ ?_ | (refine Fk.fk ?_ ?_ <;> intro hg <;> (try simp only [hg]) <;> (try simp only [bunB] at hg) <;> try (exfalso; first | omega | exact Bool.noConfusion hg | exact hg trivial)) | refine And.intro (by omega) ?_ | omega
    unfold bkS
    exact (by simp [wk, wkT, wkM, noF, isF, get, z0h, belowM, below, belows, I64, I32, Bv, U8, Sv] <;> try omega)
  rintro a2 w2 ⟨s2, G2, F2, hk2, h2⟩
  obtain ⟨d2, n2, g20, g21, g23⟩ := hinv h2 hk2
  have hgr := h2.grown
  refine wpIn_block (wpIn_loop (fun a w1 => ∃ j, j ≤ L.length ∧ a.defers = [] ∧ a.tmps.size = 19 ∧ a.tmps.getD 0 undef = yv ∧ a.tmps.getD 1 undef = p ∧ a.tmps.getD 3 undef = .int .i64 ((L.length : Int) - 1 - j) ∧ J ((bkL L).take j) w1 ∧ (∀ b, F b → w1.heap[b]? = W.heap[b]?))
    (fun a _ => match a.tmps.getD 3 undef with | .int _ x => (x + 1).toNat | _ => 0) ⟨0, by omega, d2, n2, g20, g21, by simpa using g23, grow hgr h0, fun b hb => hgr.block b (hFW b hb)⟩ ?_)
  rintro a3 w3 ⟨j, hj, d3, n3, g30, g31, g33, hj3, hs3⟩
  have h3 := hrelj hs3 n3 g30 g31 g33
  refine wpIn_seq (wpIn_mono (z27 none n ok1 _ (Q := endQ (fun s => j < L.length ∧ wk s (bkS L yv p j)) (fun i _ => i = 0 ∧ ¬ j < L.length) (fun _ => False)) rfl (by decide) h3 (AW.out ?_)) ?_)
  · unfold bkS
    by_cases hlt : j < L.length
    · repeat' first | simp (maxSteps := 4000000) (disch := omega) only [bunL, bunD, bun, ↓z04, ↓z01, z02, findLabel, ↓reduceIte, imp, shift, z0b, z0a, unown, names, z07, below, noF, isF, z03, z09, z08, ren, givL, updM, z0c, renO, belowM, seval, -Int.reduceToNat, z1t, zlx, hlt, B3, B4, B21, B41, B136, bunN, z0k, z0r] | refine DR_q _ ?_ | (refine Fk.fk ?_ ?_ <;> intro hg <;> (try simp only [hg]) <;> (try simp only [bunB] at hg) <;> try (exfalso; first | omega | exact Bool.noConfusion hg | exact hg trivial)) | refine And.intro (by omega) ?_ | omega
      exact (by simp [wk, wkT, wkM, noF, isF, get, z0h, belowM, below, belows, I64, I32, Bv, U8, Sv] <;> try omega)
    · repeat' first | simp (maxSteps := 4000000) (disch := omega) only [bunL, bunD, bun, ↓z04, ↓z01, z02, findLabel, ↓reduceIte, imp, shift, z0b, z0a, unown, names, z07, below, noF, isF, z03, z09, z08, ren, givL, updM, z0c, renO, belowM, seval, -Int.reduceToNat, z1t, zlx, hlt, B3, B4, B21, B41, B136, bunN, z0k, z0r] | refine DR_q _ ?_ | (refine Fk.fk ?_ ?_ <;> intro hg <;> (try simp only [hg]) <;> (try simp only [bunB] at hg) <;> try (exfalso; first | omega | exact Bool.noConfusion hg | exact hg trivial)) | refine And.intro (by omega) ?_ | omega
  rintro e a4 w4 ⟨s4, G4, F4, hq4, h4⟩
  have hg4 := h4.grown
  have hs4 : ∀ b, F b → w4.heap[b]? = W.heap[b]? := fun b hb => (hg4.block b (by
    have h1 := hs3 b hb
    rw [Array.getElem?_eq_getElem (hFW b hb)] at h1
    exact (Array.getElem?_eq_some_iff.1 h1).1)).trans (hs3 b hb)
  have hj4 := grow hg4 hj3
  cases e with
  | exit i =>
    obtain ⟨rfl, hge⟩ := hq4
    obtain rfl : j = L.length := by omega
    rw [bkL_all] at hj4
    exact ⟨h4.defers.trans d3, _, results_none rfl _ _ _, ⟨_, rfl⟩, .inl ⟨_, rfl, hj4⟩⟩
  | normal =>
    obtain ⟨hlt, hk4⟩ := hq4
    obtain ⟨d4, n4, g40, g41, g43⟩ := hinv h4 hk4
    have h5 := hrelj hs4 n4 g40 g41 g43
    refine wpIn_seq (wpIn_block (wpIn_seq (wpIn_region_lit ?_)))
    refine zkg none n 2 ok1 (endQ (fun s => wk s ⟨[(0, .v yv), (1, .v p), (3, I64 ((L.length : Int) - 1 - j)), (11, .v yv), (12, I64 ((L.length : Int) - 1 - j))], []⟩) (fun _ _ => False) (fun _ => False)) (by decide) h5 ?_ ?_
    · unfold bkS
      repeat' first | simp (maxSteps := 4000000) (disch := omega) only [bunL, bunD, bun, ↓z04, ↓z01, z02, findLabel, ↓reduceIte, imp, shift, z0b, z0a, unown, names, z07, below, noF, isF, z03, z09, z08, ren, givL, updM, z0c, renO, belowM, seval, -Int.reduceToNat, z1t, B3, B4, B21, B41, B136, bunN, z0k, z0r] | refine DR_q _ ?_ | (refine Fk.fk ?_ ?_ <;> intro hg <;> (try simp only [hg]) <;> (try simp only [bunB] at hg) <;> try (exfalso; first | omega | exact Bool.noConfusion hg | exact hg trivial)) | refine And.intro (by omega) ?_ | omega
      exact (by simp [wk, wkT, wkM, noF, isF, get, z0h, belowM, below, belows, I64, I32, Bv, U8, Sv] <;> try omega)
    rintro a6 w6 ⟨s6, G6, F6, hk6, h6⟩
    have hg6 := h6.grown
    have hlt6 : ∀ {b : Nat} {w1 : World}, (∀ b, F b → w1.heap[b]? = W.heap[b]?) → F b → b < w1.heap.size := fun {b w1} h hb => by
      have h1 := h b hb
      rw [Array.getElem?_eq_getElem (hFW b hb)] at h1
      exact (Array.getElem?_eq_some_iff.1 h1).1
    have hs6 : ∀ b, F b → w6.heap[b]? = W.heap[b]? := fun b hb => (hg6.block b (hlt6 hs4 hb)).trans (hs4 b hb)
    have hj6 := grow hg6 hj4
    have h6' := h6.weak hk6
    refine zms none n ok1 (t := 41) zjw rfl rfl rfl rfl h6' (by rw [h6'.atv (k := 1) (v := p) rfl]; exact Rep.mono ⟨h6.f0.1, fun _ _ => rfl⟩ (GSub.nil _) (same w6 hs6)) ?_
    intro a7 h7
    have hix : ((L.length : Int) - 1 - j).toNat = L.length - 1 - j := by omega
    refine zkg none n 3 ok1 (endQ (fun s => wk s ⟨[(0, .v yv), (1, .v p), (3, I64 ((L.length : Int) - 1 - j)), (11, .v yv), (12, I64 ((L.length : Int) - 1 - j)), (16, I32 (L.getD (L.length - 1 - j) 0))], []⟩) (fun _ _ => False) (fun _ => False)) (by decide) h7 ?_ ?_
    · repeat' first | simp (maxSteps := 4000000) (disch := omega) only [bunL, bunD, bun, ↓z04, ↓z01, z02, findLabel, ↓reduceIte, imp, shift, z0b, z0a, unown, names, z07, below, noF, isF, z03, z09, z08, ren, givL, updM, z0c, renO, belowM, seval, -Int.reduceToNat, z1t, hix, B3, B4, B21, B41, B136, bunN, z0k, z0r] | refine DR_q _ ?_ | (refine Fk.fk ?_ ?_ <;> intro hg <;> (try simp only [hg]) <;> (try simp only [bunB] at hg) <;> try (exfalso; first | omega | exact Bool.noConfusion hg | exact hg trivial)) | refine And.intro (by omega) ?_ | omega
      exact (by simp [wk, wkT, wkM, noF, isF, get, z0h, belowM, below, belows, I64, I32, Bv, U8, Sv] <;> try omega)
    rintro a8 w8 ⟨s8, G8, F8, hk8, h8⟩
    have h8' := h8.weak hk8
    have hg8 := h8.grown
    have hs8 : ∀ b, F b → w8.heap[b]? = W.heap[b]? := fun b hb => (hg8.block b (hlt6 hs4 hb)).trans (hs4 b hb)
    have hj8 := grow hg8 hj4
    have hargs : #[Operand.tmp 12, Operand.tmp 16].map a8.eval = encB ((L.length : Int) - 1 - j, L.getD (L.length - 1 - j) 0) := by
      have e1 := h8'.atv (k := 12) rfl
      have e2 := h8'.atv (k := 16) rfl
      simp only [encB, Act.eval, List.map_toArray, List.map_cons, List.map_nil, e1, e2]
    refine zw1 none n rfl rfl (l := l) ((h8'.atv (k := 11) rfl).trans hyv) hargs (hY _ _ w8 hj8 (by simp [bkL]; omega)) ?_
    have hbt := bkL_take hlt
    have hput : ∀ v, (a8.put (some 17) v).defers = [] ∧ (a8.put (some 17) v).tmps.size = 19 ∧ ∀ kv ∈ [(0, yv), (1, p), (3, Value.int .i64 ((L.length : Int) - 1 - j)), (17, v)], (a8.put (some 17) v).tmps.getD kv.1 undef = kv.2 := by
      intro v
      have h9 := h8'.putD (d := some 17) (x := .v v) (v := v) rfl (.v _)
      refine ⟨h9.defers.trans (d4.trans d3), h9.tsize, ?_⟩
      intro kv hkv
      simp only [List.mem_cons, List.not_mem_nil, or_false] at hkv
      rcases hkv with rfl | rfl | rfl | rfl <;> exact h9.atv rfl
    rintro e9 w9 (⟨rfl, hJ9, hk9⟩ | ⟨rfl, hJx9⟩)
    · refine ⟨_, rfl, ?_⟩
      obtain ⟨d9, n9, g9⟩ := hput (.bool true)
      have hs9 : ∀ b, F b → w9.heap[b]? = W.heap[b]? := fun b hb => (hk9 b hb).trans (hs8 b hb)
      have h9 := rel_vs (N := 19) _ (fun b hb => hlt6 hs9 hb) n9 g9
      refine zkf none n ok1 (endQ (fun s => wk s ⟨[(0, .v yv), (1, .v p), (3, I64 ((L.length : Int) - 1 - j)), (18, Bv false)], []⟩) (fun _ _ => False) (fun _ => False)) (by decide) h9 ?_ ?_
      · repeat' first | simp (maxSteps := 4000000) (disch := omega) only [bunL, bunD, bun, ↓z04, ↓z01, z02, findLabel, ↓reduceIte, imp, shift, z0b, z0a, unown, names, z07, below, noF, isF, z03, z09, z08, ren, givL, updM, z0c, renO, belowM, seval, -Int.reduceToNat, z1t, B3, B4, B21, B41, B136, bunN, z0k, z0r] | refine DR_q _ ?_ | (refine Fk.fk ?_ ?_ <;> intro hg <;> (try simp only [hg]) <;> (try simp only [bunB] at hg) <;> try (exfalso; first | omega | exact Bool.noConfusion hg | exact hg trivial)) | refine And.intro (by omega) ?_ | omega
        exact (by simp [wk, wkT, wkM, noF, isF, get, z0h, belowM, below, belows, I64, I32, Bv, U8, Sv] <;> try omega)
      rintro a10 w10 ⟨s10, G10, F10, hk10, h10⟩
      have h10' := h10.weak hk10
      have hg10 := h10.grown
      refine wpIn_cond_false (h10'.atv (k := 18) rfl) (wpIn_skip ?_)
      have hs10 : ∀ b, F b → w10.heap[b]? = W.heap[b]? := fun b hb => (hg10.block b (hlt6 hs9 hb)).trans (hs9 b hb)
      refine wpIn_mono (z27 none n ok1 _ (Q := endQ (fun s => wk s (bkS L yv p (j + 1))) (fun _ _ => False) (fun _ => False)) rfl (by decide) h10' (AW.out ?_)) ?_
      · repeat' first | simp (maxSteps := 4000000) (disch := omega) only [bunL, bunD, bun, ↓z04, ↓z01, z02, findLabel, ↓reduceIte, imp, shift, z0b, z0a, unown, names, z07, below, noF, isF, z03, z09, z08, ren, givL, updM, z0c, renO, belowM, seval, -Int.reduceToNat, z1t, B3, B4, B21, B41, B136, bunN, z0k, z0r] | refine DR_q _ ?_ | (refine Fk.fk ?_ ?_ <;> intro hg <;> (try simp only [hg]) <;> (try simp only [bunB] at hg) <;> try (exfalso; first | omega | exact Bool.noConfusion hg | exact hg trivial)) | refine And.intro (by omega) ?_ | omega
        unfold bkS
        exact (by simp [wk, wkT, wkM, noF, isF, get, z0h, belowM, below, belows, I64, I32, Bv, U8, Sv] <;> try omega)
      rintro e11 a11 w11 ⟨s11, G11, F11, hq11, h11⟩
      cases e11 with
      | normal =>
        obtain ⟨d11, n11, g110, g111, g113⟩ := hinv h11 hq11
        have hg11 := h11.grown
        refine ⟨⟨j + 1, by omega, d11.trans d9, n11, g110, g111, g113, ?_, fun b hb => (hg11.block b (hlt6 hs9 hb)).trans (hs9 b hb)⟩, ?_⟩
        · rw [hbt]; exact grow hg11 hJ9
        · show (match a11.tmps.getD 3 undef with | .int _ x => (x + 1).toNat | _ => 0) < (match a3.tmps.getD 3 undef with | .int _ x => (x + 1).toNat | _ => 0)
          rw [g113, g33]
          show ((L.length : Int) - 1 - ((j + 1 : Nat) : Int) + 1).toNat < ((L.length : Int) - 1 - j + 1).toNat
          omega
      | _ => exact hq11.elim
    · refine ⟨_, rfl, ?_⟩
      obtain ⟨d9, n9, g9⟩ := hput (.bool false)
      have hF9 : ∀ b, (fun _ : Nat => False) b → b < w9.heap.size := fun b h => h.elim
      have h9 := rel_vs (N := 19) _ hF9 n9 g9
      refine zkf none n ok1 (endQ (fun s => wk s ⟨[(18, Bv true)], []⟩) (fun _ _ => False) (fun _ => False)) (by decide) h9 ?_ ?_
      · repeat' first | simp (maxSteps := 4000000) (disch := omega) only [bunL, bunD, bun, ↓z04, ↓z01, z02, findLabel, ↓reduceIte, imp, shift, z0b, z0a, unown, names, z07, below, noF, isF, z03, z09, z08, ren, givL, updM, z0c, renO, belowM, seval, -Int.reduceToNat, z1t, B3, B4, B21, B41, B136, bunN, z0k, z0r] | refine DR_q _ ?_ | (refine Fk.fk ?_ ?_ <;> intro hg <;> (try simp only [hg]) <;> (try simp only [bunB] at hg) <;> try (exfalso; first | omega | exact Bool.noConfusion hg | exact hg trivial)) | refine And.intro (by omega) ?_ | omega
        exact (by simp [wk, wkT, wkM, noF, isF, get, z0h, belowM, below, belows, I64, I32, Bv, U8, Sv] <;> try omega)
      rintro a10 w10 ⟨s10, G10, F10, hk10, h10⟩
      have h10' := h10.weak hk10
      have hg10 := h10.grown
      refine wpIn_cond_true (h10'.atv (k := 18) rfl) (wpIn_ret ?_)
      refine ⟨h10.defers.trans d9, _, results_none rfl _ _ _, ⟨_, rfl⟩, .inr ⟨_, ?_, hJx _ _ _ none hJx9 ⟨hg10.os, hg10.tape, hg10.output, hg10.size, fun k hk _ => hg10.block k hk⟩ (fun r e => by cases e)⟩⟩
      · rw [← hbt]; exact List.take_prefix _ _
  | _ => exact hq4.elim
end Go.AE
end
section
namespace Go.AE
open Go.Proofs
set_option maxRecDepth 20000
set_option linter.unusedSimpArgs false
theorem bkL_snd (L : List Int) : (bkL L).map Prod.snd = L.reverse := by
  refine List.ext_getElem (by simp [bkL]) fun i h1 h2 => ?_
  simp only [bkL, List.map_map, List.getElem_map, List.getElem_range, Function.comp, List.getElem_reverse, List.getD]
  simp at h2
  rw [List.getElem?_eq_getElem (by omega)]
  rfl
theorem z52 (k : IntKind) (n : Int) : (Value.int k n).cells = [Value.int k n].toArray := rfl
theorem zjy (L : List Int) : Spec Tryz.prog 92 [.sl L.length (L.map I32)] (.fn 113 [] [.cp [.sl L.length (L.map I32)]]) := by
  refine z0g (z := true) (ts := [.tmp 2]) ok1 Tryz.func92 rfl rfl (by decide +kernel) (by simp [Tryz.ntmps92]) rfl ?_
  repeat' first | simp (maxSteps := 4000000) (disch := omega) only [bunL, bunD, bun, ↓z04, ↓z01, z02, findLabel, ↓reduceIte, imp, shift, z0b, z0a, unown, names, z07, below, noF, isF, z03, z09, z08, ren, givL, updM, z0c, renO, belowM, seval, -Int.reduceToNat, B21, B41, B115, B116, bunN, z0k, z0r, tab, tabC] | refine DR_q _ ?_ | (refine Fk.fk ?_ ?_ <;> intro hg <;> (try simp only [hg]) <;> (try simp only [bunB] at hg) <;> try (exfalso; first | omega | exact Bool.noConfusion hg | exact hg trivial)) | refine And.intro (by omega) ?_ | omega
def BLeft (w2 : World) (b o : Nat) (v : Value) (W : World) : Prop :=
  W.os = w2.os ∧ W.tape = w2.tape ∧ W.output = w2.output ∧ w2.heap.size ≤ W.heap.size ∧ (∀ k, k < w2.heap.size → k ≠ b → W.heap[k]? = w2.heap[k]?) ∧ z76 W b o [v]
theorem bleft_own {β : Type} {w2 : World} {b o : Nat} {v : β → Value} (hb : b < w2.heap.size) : OwnFrom w2.heap.size (fun (s : β) W => BLeft w2 b o (v s) W) := by
  rintro s A B row ⟨h1, h2, h3, h4, h5, h6⟩ hg hr
  have hk : ∀ k, k < w2.heap.size → B.heap[k]? = A.heap[k]? := fun k hk => hg.block k (by omega) (fun e => by have := (hr k e.symm).1; omega)
  exact ⟨hg.os.trans h1, hg.tape.trans h2, hg.output.trans h3, Nat.le_trans h4 hg.size, fun k hk' hne => (hk k hk').trans (h5 k hk' hne), h6.keepAt (hk b hb)⟩
theorem end_spec (L : List Int) (hL : L.length ≤ 1000) : Spec Tryz.prog 70 [tab, .sl L.length (L.map I32)] (I64 (zd3 L)) := by
  skip
  refine ⟨⟨_, Tryz.func70, rfl, by decide +kernel⟩, fun w F vs hF hr => ?_⟩
  refine (callsIn_wide (n := 10)).1 ?_
  show CallsIn (fr none) 10 _ _ _ _ _
  refine callsIn_of_wp_marks Tryz.func70 rfl trivial ?_
  rw [show Tryz.f70.ntmps = 18 from Tryz.ntmps70]
  have hrel := zuf (N := 18) (ds := []) hF hr (by simp)
  refine wpIn_seq (wpIn_mono (z27 none 10 ok1 _ (Q := endQ (fun s => wk s ⟨[(1, .sl L.length (L.map I32)), (2, .ptr 0 0), (4, .ptr 1 0)], [.row true 1 (tabC (sM 42) (pM 42)), .row true 1 [I64 0]]⟩) (fun _ _ => False) (fun _ => False)) rfl (by decide) hrel (AW.out ?_)) ?_)
  · repeat' first | simp (maxSteps := 4000000) (disch := omega) only [bunL, bunD, bun, ↓z04, ↓z01, z02, findLabel, ↓reduceIte, imp, shift, z0b, z0a, unown, names, z07, below, noF, isF, z03, z09, z08, ren, givL, updM, z0c, renO, belowM, seval, -Int.reduceToNat, z1t, z52, D29, B21, B41, B116, bunN, z0k, z0r, tab, tabC] | refine DR_q _ ?_ | (refine Fk.fk ?_ ?_ <;> intro hg <;> (try simp only [hg]) <;> (try simp only [bunB] at hg) <;> try (exfalso; first | omega | exact Bool.noConfusion hg | exact hg trivial)) | refine And.intro (by omega) ?_ | omega
    (simp (disch := omega) [wk, wkT, wkM, noF, isF, get, z0h, belowM, below, belows, I64, I32, Bv, U8, Sv, tab, tabC, Value.cells, Value.oneCell'] <;> try omega)
  rintro e1 a1 w1 ⟨s1, G1, F1, hq1, h1⟩
  cases e1 with
  | normal =>
    have h1' := h1.weak hq1
    refine wpIn_seq (wpIn_seq (wpIn_mono (z27 none 10 ok1 _ (Q := endQ (fun s => wk s ⟨[(2, .ptr 0 0), (4, .ptr 1 0), (9, .fn 113 [] [.cp [.sl L.length (L.map I32)]])], [.row true 1 (tabC (sM 42) (pM 42)), .row true 1 [I64 0]]⟩) (fun _ _ => False) (fun _ => False)) rfl (by decide) h1' (AW.out ?_)) ?_))
    · repeat' first | refine z06 (zjy L) ?_ ?_ | simp (maxSteps := 4000000) (disch := omega) only [bunL, bunD, bun, ↓z04, ↓z01, z02, findLabel, ↓reduceIte, imp, shift, z0b, z0a, unown, names, z07, below, noF, isF, z03, z09, z08, ren, givL, updM, z0c, renO, belowM, seval, -Int.reduceToNat, z1t, D29, B21, B41, B116, bunN, z0k, z0r, tab, tabC] | exact z0f _ | refine z0e _ _ ?_ | exact Cln.cl | refine z05 _ ?_ | refine z00 _ _ ?_ ?_ | refine DR_q _ ?_ | (refine Fk.fk ?_ ?_ <;> intro hg <;> (try simp only [hg]) <;> (try simp only [bunB] at hg) <;> try (exfalso; first | omega | exact Bool.noConfusion hg | exact hg trivial)) | refine And.intro (by omega) ?_ | omega
      all_goals first
        | ((simp (disch := omega) [wk, wkT, wkM, noF, isF, get, z0h, belowM, below, belows, I64, I32, Bv, U8, Sv, tab, tabC, Value.cells, Value.oneCell'] <;> try omega); done)
        | rfl
    rintro e2 a2 w2 ⟨s2, G2, F2, hq2, h2⟩
    cases e2 with
    | normal =>
      have h3 := h2.weak hq2
      obtain ⟨G, hG⟩ : ∃ G, G2.take 2 = G := ⟨_, rfl⟩
      simp only [List.length_cons, List.length_nil, Nat.zero_add, Nat.reduceAdd] at h3
      rw [hG] at h3
      -- the result's cell
      obtain ⟨L1, hL1, hp4⟩ := (show Rep w2 F2 G (.ptr 1 0) (a2.tmps.getD 4 undef) from h3.tm 4).ptr_inv
      rw [Nat.add_zero] at hp4
      obtain ⟨L1', vs1, e1, hrow, hrs⟩ := (show z2n w2 F2 G (some L1) (.row true 1 [I64 0]) from h3.ob 1 _ hL1)
      cases e1
      obtain ⟨hL1F, hL1w, hL1p⟩ := h3.live 1 L1 hL1
      have hL1n : w.heap.size ≤ L1.b := by
        rcases (show _ ∨ _ from hL1p) with h | h
        · exact h
        · simp at h
      have hvs : vs1 = [.int .i64 0] := by
        cases hrs with
        | cons h h' => cases h'; cases h; rfl
      subst hvs
      -- the iterator
      obtain ⟨p, h9, hp⟩ : ∃ p, a2.tmps.getD 9 undef = .func (.func 113) #[] #[p] ∧ Rep w2 F2 [] (.cp [.sl L.length (L.map I32)]) p := by
        have h := zmg h3 rfl (show Rep w2 F2 G (.fn 113 [] [.cp [.sl L.length (L.map I32)]]) (a2.tmps.getD 9 undef) from h3.tm 9)
        simp only [fz, fzs] at h
        cases hv : a2.tmps.getD 9 undef <;> rw [hv] at h <;> cases h
        rename_i h1 h2
        cases h1
        cases h2 with
        | cons h2 h4 => cases h4; exact ⟨_, rfl, h2⟩
      -- the table, to be read
      have h5 := h3.weak (s' := ⟨[(2, .ptr 0 0)], [.row true 1 (tabC (sM 42) (pM 42))]⟩) (by (simp (disch := omega) [wk, wkT, wkM, noF, isF, get, z0h, belowM, below, belows, I64, I32, Bv, U8, Sv, tab, tabC] <;> try omega))
      simp only [List.length_cons, List.length_nil, Nat.zero_add, Nat.reduceAdd] at h5
      have htb := zk8 h5 (show Rep w2 F2 (G.take 1) (.ptr 0 0) (a2.tmps.getD 2 undef) from h5.tm 2)
      simp only [fz, obj, tabC, List.map_cons, List.map_nil, fz1, List.drop_zero] at htb
      obtain ⟨FR, hFR⟩ : ∃ FR, Lent F2 (G.take 1) = FR := ⟨_, rfl⟩
      rw [hFR] at htb
      have hFRw : ∀ b, FR b → b < w2.heap.size := by
        intro b hb
        rw [← hFR] at hb
        rcases hb with hb | ⟨id, M, hM, rfl⟩
        · exact (h3.fb b hb).1
        · exact (h5.live id M hM).2.1
      have hF2w : ∀ b, F2 b → b < w2.heap.size := fun b hb => (h3.fb b hb).1
      have hgr2 := h3.grown
      have hd2 : a2.defers = [] := h3.defers
      -- the end of the function
      have fin : ∀ (v : Int) (D : Nat) (W : World), v = zd3 L → w2.heap.size ≤ D → BLeft w2 L1.b L1.o (.int .i64 v) W → W.heap[D]? = some (.deferred (some [])) →
          LeavesInM (fr none) 10 Tryz.prog Tryz.f70 a2.tmps (Post w F (I64 (zd3 L))) ({ target := .collected D, args := #[] } :: a2.defers) .returning W := by
        rintro v D W rfl hD ⟨b1, b2, b3, b4, b5, b6⟩ hK
        refine ⟨by simp, .inl ⟨D, _, rfl, run_takeDeferred hK, ?_⟩⟩
        rw [hd2]
        have hDl : D < W.heap.size := (Array.getElem?_eq_some_iff.1 hK).1
        have hne : L1.b ≠ D := by omega
        have h6 : z76 (W.putObj D (.deferred none)) L1.b L1.o [.int .i64 (zd3 L)] := b6.keepAt (World.putObj_heap_other hne)
        refine ⟨_, znm ok1 zlg rfl rfl hp4 h6, ?_⟩
        have hg := grownBy_putObj' W D (.deferred none)
        refine ⟨_, F, [], rfl, ⟨hg.os.trans (b1.trans hgr2.os), hg.tape.trans (b2.trans hgr2.tape), hg.output.trans (b3.trans hgr2.output), Nat.le_trans hgr2.size (Nat.le_trans b4 hg.size), fun k hk => ?_⟩, fun _ h => h, fun b hb => ⟨.inl hb, ?_⟩, .v _, ⟨rfl, by simp, by simp, by simp⟩, by simp⟩
        · have h0 := hgr2.size
          exact (World.putObj_heap_other (by omega)).trans ((b5 k (by omega) (by omega)).trans (hgr2.block k hk))
        · have h0 := hF b hb
          have h1 := hgr2.size
          have h2 := hg.size
          omega
      have hbelow : ∀ {W : World}, RowKit.Below w2.heap.size w2 W → z76 W L1.b L1.o [.int .i64 0] := fun hB => hrow.keepAt (hB.block _ hL1w)
      have hTm : ∀ x : Int × Int, ((#[10, 11].zip (encB x)).foldl (fun t (p, v) => t.setIfInBounds p v) a2.tmps).size = 18 ∧ ((#[10, 11].zip (encB x)).foldl (fun t (p, v) => t.setIfInBounds p v) a2.tmps).getD 2 undef = a2.tmps.getD 2 undef ∧
          ((#[10, 11].zip (encB x)).foldl (fun t (p, v) => t.setIfInBounds p v) a2.tmps).getD 4 undef = a2.tmps.getD 4 undef ∧ ((#[10, 11].zip (encB x)).foldl (fun t (p, v) => t.setIfInBounds p v) a2.tmps).getD 11 undef = .int .i32 x.2 := by
        intro x
        have hsz := h3.tsize
        have e : (#[10, 11].zip (encB x)).foldl (fun t (p, v) => t.setIfInBounds p v) a2.tmps = (a2.tmps.setIfInBounds 10 (.int .i64 x.1)).setIfInBounds 11 (.int .i32 x.2) := by
          simp [encB]
        rw [e]
        refine ⟨by simp [hsz], ?_, ?_, ?_⟩
        · simp [Array.getD_eq_getD_getElem?]
        · simp [Array.getD_eq_getD_getElem?]
        · simp [Array.getD_eq_getD_getElem?, hsz]
      refine wpIn_block (wpIn_rangeFunc_ownF (F := fr none) (n := 10) (w0 := w2) rfl (by decide) (gf := 113) (lb := #[p]) h9 trivial (enters_of Tryz.func113 (by kernel_rfl) rfl)
        (zv5 L hL 9 w2 F2 hF2w p hp) (fun h k b hb => (k b hb).trans (h b hb)) (fun W l o o' hl _ _ _ b hb => World.putObj_heap_other (by have := hF2w b hb; omega)) (RowKit.Below.refl _ _) (fun _ => rfl)
        (fun pre W => RowKit.Below w2.heap.size w2 W ∧ ∀ c ∈ pre, bidi c.2 = 6)
        (fun c pre W => c = .ret ∧ (∃ (q : List (Int × Int)) (x : Int × Int), pre = q ++ [x] ∧ (∀ c ∈ q, bidi c.2 = 6) ∧ bidi x.2 ≠ 6) ∧ BLeft w2 L1.b L1.o (.int .i64 (bidi ((pre.getLast?).getD (0, 0)).2)) W)
        (OwnFrom.and (ownFrom_below (Nat.le_refl _) (Nat.le_refl _)) (fun s W W' row hs _ _ => hs))
        (fun c => OwnFrom.and (fun s W W' row hs _ _ => hs) (OwnFrom.and (fun s W W' row hs _ _ => hs) (bleft_own hL1w)))
        ⟨RowKit.Below.refl _ _, by simp⟩ (fun x => ({ tmps := (#[10, 11].zip (encB x)).foldl (fun t (p, v) => t.setIfInBounds p v) a2.tmps, defers := [] } : Act).put (some 6) (.int .i32 x.2)) ?assign ?body ?done ?stop)
      case assign =>
        intro l x W K hK
        have hT := hTm x
        refine wpIn_region_lit (wpListIn_plain rfl fun K' hK' => ⟨fun _ _ => trivial, ?_⟩)
        rw [show ((fr none).inRound l) = fr (some l) from rfl, z71 (some l) _ _ (fun c e => by cases e)]
        have hv : (Act.eval ({ tmps := (#[10, 11].zip (encB x)).foldl (fun t (p, v) => t.setIfInBounds p v) a2.tmps, defers := [] } : Act) (.tmp 11)) = .int .i32 x.2 := hT.2.2.2
        simp only [execOp, hv]
        exact hK' _ _ hK
      case body =>
        rintro l pre x W ⟨hB, hpre⟩ hlen
        obtain ⟨q1, q2, q3, q4⟩ := hTm x
        obtain ⟨T, hT⟩ : ∃ T, (#[10, 11].zip (encB x)).foldl (fun t (p, v) => t.setIfInBounds p v) a2.tmps = T := ⟨_, rfl⟩
        rw [hT] at q1 q2 q3 q4 ⊢
        have hFRW : ∀ b, FR b → b < W.heap.size := fun b hb => Nat.lt_of_lt_of_le (hFRw b hb) hB.size
        have hsame : Same FR FR w2 W := ⟨fun _ h => h, fun b hb => hB.block b (hFRw b hb)⟩
        have hb0 : Rel 18 ⟨FR, [], [], [], none, fun _ => none⟩ W ⟨[(2, .cp (tabC (sM 42) (pM 42))), (4, .v (.pointer (some ⟨L1.b, L1.o, none⟩)))], []⟩ [] FR { tmps := T, defers := [] } W := by
          refine zug (a := { tmps := T, defers := [] }) hFRW q1 fun k => ?_
          simp only [get]
          split
          · rename_i e; subst e; show Rep W FR [] _ (T.getD 2 undef); rw [q2]; exact Rep.mono hsame (GSub.nil _) htb
          split
          · rename_i e; subst e; show Rep W FR [] _ (T.getD 4 undef); rw [q3, hp4]; exact .v _
          exact .junk _
        have h6 := hb0.putD (d := some 6) (x := I32 x.2) (v := .int .i32 x.2) rfl (.v _)
        show Code.wpIn (fr (some l)) 8 _ _ _ _ _
        refine wpIn_block (wpIn_seq (wpIn_mono (z27 (some l) 8 ok1 _ (Q := endQ (fun s => wk s ⟨[(4, .v (.pointer (some ⟨L1.b, L1.o, none⟩))), (7, I64 (bidi x.2))], []⟩) (fun _ _ => False) (fun _ => False)) rfl (by decide) h6 (AW.out ?_)) ?_))
        · repeat' first | refine z06 (z80 _) ?_ ?_ | simp (maxSteps := 4000000) (disch := omega) only [bunL, bunD, bun, ↓z04, ↓z01, z02, findLabel, ↓reduceIte, imp, shift, z0b, z0a, unown, names, z07, below, noF, isF, z03, z09, z08, ren, givL, updM, z0c, renO, belowM, seval, -Int.reduceToNat, z1t, D29, B21, B41, B116, bunN, z0k, z0r, tab, tabC] | exact z0f _ | refine z0e _ _ ?_ | exact Cln.cl | refine z05 _ ?_ | refine z00 _ _ ?_ ?_ | refine DR_q _ ?_ | (refine Fk.fk ?_ ?_ <;> intro hg <;> (try simp only [hg]) <;> (try simp only [bunB] at hg) <;> try (exfalso; first | omega | exact Bool.noConfusion hg | exact hg trivial)) | refine And.intro (by omega) ?_ | omega
          exact (by simp [wk, wkT, wkM, noF, isF, get, z0h, belowM, below, belows, I64, I32, Bv, U8, Sv] <;> try omega)
        rintro e3 a3 w3 ⟨s3, G3, F3, hq3, h7⟩
        cases e3 with
        | normal =>
          have h7' := h7.weak hq3
          refine wpIn_seq (wpIn_mono (z27 (some l) 8 ok1 _ (Q := endQ (fun s => wk s ⟨[(4, .v (.pointer (some ⟨L1.b, L1.o, none⟩))), (7, I64 (bidi x.2)), (16, Bv (bidi x.2 != 6))], []⟩) (fun _ _ => False) (fun _ => False)) rfl (by decide) h7' (AW.out ?_)) ?_)
          · repeat' first | simp (maxSteps := 4000000) (disch := omega) only [bunL, bunD, bun, ↓z04, ↓z01, z02, findLabel, ↓reduceIte, imp, shift, z0b, z0a, unown, names, z07, below, noF, isF, z03, z09, z08, ren, givL, updM, z0c, renO, belowM, seval, -Int.reduceToNat, z1t, D29, B21, B41, B116, bunN, z0k, z0r, tab, tabC] | refine DR_q _ ?_ | (refine Fk.fk ?_ ?_ <;> intro hg <;> (try simp only [hg]) <;> (try simp only [bunB] at hg) <;> try (exfalso; first | omega | exact Bool.noConfusion hg | exact hg trivial)) | refine And.intro (by omega) ?_ | omega
            exact (by simp [wk, wkT, wkM, noF, isF, get, z0h, belowM, below, belows, I64, I32, Bv, U8, Sv] <;> try omega)
          rintro e4 a4 w4 ⟨s4, G4, F4, hq4, h8⟩
          cases e4 with
          | normal =>
            have h8' := h8.weak hq4
            have hg8 := h8.grown
            have lt : ∀ {k : Nat} {o : Obj}, W.heap[k]? = some o → k < W.heap.size := fun h => (Array.getElem?_eq_some_iff.1 h).1
            by_cases hx : bidi x.2 = 6
            · refine wpIn_cond_false ((h8'.atv (k := 16) rfl).trans (by rw [hx]; rfl)) (wpIn_skip ?_)
              refine ⟨⟨hg8.size, fun k o hk _ => (hg8.block k (lt hk)).trans hk⟩, fun b hb => hg8.block b (Nat.lt_of_lt_of_le (hF2w b hb) hB.size), ⟨hg8.os.trans hB.os, hg8.tape.trans hB.tape, hg8.output.trans hB.output, Nat.le_trans hB.size hg8.size, fun k hk => (hg8.block k (Nat.lt_of_lt_of_le hk hB.size)).trans (hB.block k hk)⟩, fun c hc => ?_⟩
              rcases List.mem_append.1 hc with h | h
              · exact hpre c h
              · rw [List.mem_singleton.1 h]; exact hx
            · have hxb : (bidi x.2 != 6) = true := by simpa using hx
              refine wpIn_cond_true ((h8'.atv (k := 16) rfl).trans (by rw [hxb])) ?_
              refine wpIn_seq (wpIn_region_lit (zkg (some l) 8 1 ok1 (endQ (fun s => wk s ⟨[(4, .v (.pointer (some ⟨L1.b, L1.o, none⟩))), (17, I64 (bidi x.2))], []⟩) (fun _ _ => False) (fun _ => False)) (by decide) h8' ?_ ?_))
              · repeat' first | simp (maxSteps := 4000000) (disch := omega) only [bunL, bunD, bun, ↓z04, ↓z01, z02, findLabel, ↓reduceIte, imp, shift, z0b, z0a, unown, names, z07, below, noF, isF, z03, z09, z08, ren, givL, updM, z0c, renO, belowM, seval, -Int.reduceToNat, z1t, D29, B21, B41, B116, bunN, z0k, z0r, tab, tabC] | refine DR_q _ ?_ | (refine Fk.fk ?_ ?_ <;> intro hg <;> (try simp only [hg]) <;> (try simp only [bunB] at hg) <;> try (exfalso; first | omega | exact Bool.noConfusion hg | exact hg trivial)) | refine And.intro (by omega) ?_ | omega
                exact (by simp [wk, wkT, wkM, noF, isF, get, z0h, belowM, below, belows, I64, I32, Bv, U8, Sv] <;> try omega)
              rintro a5 w5 ⟨s5, G5, F5, hq5, h9'⟩
              have h10 := h9'.weak hq5
              have hg9 := h9'.grown
              have hr5 : z76 w5 L1.b L1.o [.int .i64 0] := (hbelow hB).keepAt (hg9.block _ (Nat.lt_of_lt_of_le hL1w hB.size))
              refine zib (some l) 8 ok1 (t := 3) zlg rfl rfl rfl rfl (h10.atv (k := 4) rfl) (x := .tmp 17) (h10.atv (k := 17) rfl) rfl rfl hr5 ?_
              intro w6 hW
              refine wpIn_ret ?_
              have hne : ∀ {k : Nat} {o : Obj}, W.heap[k]? = some o → o.isCells = false → k ≠ L1.b := by
                rintro k o hk ho rfl
                obtain ⟨c, e, fz, hc, _⟩ := hbelow hB
                rw [hc] at hk; cases hk; simp [Obj.isCells] at ho
              refine ⟨⟨by rw [hW.size]; exact hg9.size, fun k o hk ho => (hW.block k (hne hk ho)).trans ((hg9.block k (lt hk)).trans hk)⟩, rfl, ⟨pre, x, rfl, hpre, hx⟩, ?_⟩
              refine ⟨hW.os.trans (hg9.os.trans hB.os), hW.tape.trans (hg9.tape.trans hB.tape), hW.output.trans (hg9.output.trans hB.output), by rw [hW.size]; exact Nat.le_trans hB.size hg9.size, fun k hk hk' => (hW.block k hk').trans ((hg9.block k (Nat.lt_of_lt_of_le hk hB.size)).trans (hB.block k hk)), ?_⟩
              have := hW.row
              simpa using this
          | _ => exact hq4.elim
        | _ => exact hq3.elim
      case done =>
        rintro D xs W hD rfl ⟨hB, hall⟩ hK
        have hl0 : zd3 L = 0 := by
          have := zlw (q := L.reverse) (fun c hc => by
            rw [← bkL_snd] at hc
            obtain ⟨y, hy, rfl⟩ := List.mem_map.1 hc
            exact hall y hy) []
          rw [List.append_nil] at this
          exact this
        refine wpIn_seq (wpIn_region_lit (zib none 10 ok1 (t := 3) zlg rfl rfl rfl rfl (by exact hp4) (x := .const (.int .i64 0)) rfl rfl rfl (hbelow hB) ?_))
        intro W' hW
        refine wpIn_ret (fin 0 D W' hl0.symm hD ⟨hW.os.trans hB.os, hW.tape.trans hB.tape, hW.output.trans hB.output, by rw [hW.size]; exact hB.size, fun k hk hne => (hW.block k hne).trans (hB.block k hk), hW.row⟩ ((hW.block D (by omega)).trans hK))
      case stop =>
        rintro D c pre W hD hpre ⟨rfl, ⟨q, x, rfl, hq, hx⟩, hX⟩ hK
        refine wpIn_ret ?_
        simp only [List.getLast?_append, List.getLast?_singleton, Option.some_or, Option.getD_some] at hX
        refine fin (bidi x.2) D W ?_ hD hX hK
        obtain ⟨r, hr⟩ := hpre
        unfold zd3
        rw [← bkL_snd, ← hr, List.map_append, List.map_append, List.append_assoc, zlw (fun c hc => by
          obtain ⟨y, hy, rfl⟩ := List.mem_map.1 hc
          exact hq y hy)]
        simp only [List.map_cons, List.map_nil, List.cons_append, List.nil_append, endB]
        rw [if_neg hx]
    | _ => exact hq2.elim
  | _ => exact hq1.elim
end Go.AE
end
section
namespace Go.AE
open Go.Proofs
set_option maxRecDepth 20000
set_option linter.unusedSimpArgs false
theorem take_snoc {L : List Int} {i : Nat} (h : i < L.length) : L.take (i + 1) = L.take i ++ [L.getD i 0] := by
  rw [List.take_add_one]; simp [List.getD, h]
set_option maxHeartbeats 2000000 in
theorem zhm (L : List Int) (hL : L.length ≤ 1000) : Spec Tryz.prog 69 [tab, .sl L.length (L.map I32)] (.ag (cntC L)) := by
  refine z0g (z := false) (ts := [.cell 4 92]) ok1 Tryz.func69 rfl rfl (by decide +kernel) (by simp [Tryz.ntmps69]) rfl ?_
  repeat' first | simp (maxSteps := 4000000) (disch := omega) only [bunL, bunD, bun, ↓z04, ↓z01, z02, findLabel, ↓reduceIte, imp, shift, z0b, z0a, unown, names, z07, below, noF, isF, z03, z09, z08, ren, givL, updM, z0c, renO, belowM, seval, -Int.reduceToNat, D29, B21, B41, B3, B92, bunN, tab, tabC, cntC, z0k, z0r, z52, Int.reduceToNat] | refine DR_q _ ?_ | (refine Fk.fk ?_ ?_ <;> intro hg <;> (try simp only [hg]) <;> (try simp only [bunB] at hg) <;> try (exfalso; first | omega | exact Bool.noConfusion hg | exact hg trivial)) | refine And.intro (by omega) ?_ | omega
  refine z0m (fun i : Nat => ⟨[(2, .ptr 0 0), (4, .ptr 1 0), (5, .ptr 2 0), (8, .sl L.length (L.map I32)), (9, I64 L.length), (10, I64 i)], [.row true 1 (tabC (sM 42) (pM 42)), .row true 1 [I64 0, I64 0, I64 0, I64 0, I64 0, I64 0, I64 0, I64 0], .row true 1 (cntC (L.take i))]⟩) (fun i => i ≤ L.length) (fun i => L.length - i) 0 (by omega) (by (simp (disch := omega) [wk, wkT, wkM, noF, isF, get, z0h, belowM, below, belows, I64, I32, Bv, U8, Sv, tab, tabC, cntC, cn_nil] <;> try omega)) ?_
  intro i hi
  by_cases hlt : i < L.length
  · have hs := take_snoc hlt
    obtain ⟨c, hc⟩ : ∃ c, L.getD i 0 = c := ⟨_, rfl⟩
    rw [hc] at hs
    have hb : ∀ k, 0 ≤ cn (L.take i) k ∧ cn (L.take i) k ≤ 1000 := fun k => by
      have := zlr (L.take i) k
      have h2 : (L.take i).length ≤ 1000 := by rw [List.length_take]; omega
      omega
    have b0 := hb 0
    have b1 := hb 1
    have b2 := hb 2
    have b3 := hb 3
    have b4 := hb 4
    have b5 := hb 5
    have b6 := hb 6
    have b7 := hb 7
    rcases zv6 c with h | h | h | h | h | h | h | h
    all_goals
      repeat' first | refine z06 (z80 _) ?_ ?_ | simp (maxSteps := 4000000) (disch := omega) only [bunL, bunD, bun, ↓z04, ↓z01, z02, findLabel, ↓reduceIte, imp, shift, z0b, z0a, unown, names, z07, below, noF, isF, z03, z09, z08, ren, givL, updM, z0c, renO, belowM, seval, -Int.reduceToNat, hc, h, D29, B21, B41, B3, B92, bunN, tab, tabC, cntC, z0k, z0r, z52, Int.reduceToNat] | exact z0f _ | refine z0e _ _ ?_ | exact Cln.cl | refine z05 _ ?_ | refine z00 _ _ ?_ ?_ | refine DR_q _ ?_ | (refine Fk.fk ?_ ?_ <;> intro hg <;> (try simp only [hg]) <;> (try simp only [bunB] at hg) <;> try (exfalso; first | omega | exact Bool.noConfusion hg | exact hg trivial)) | refine And.intro (by omega) ?_ | omega
      refine ⟨i + 1, by omega, by omega, ?_⟩
      (simp (disch := omega) [wk, wkT, wkM, noF, isF, get, z0h, belowM, below, belows, I64, I32, Bv, U8, Sv, tab, tabC, cntC, hs, cn_snoc, h] <;> try omega)
  · obtain rfl : i = L.length := by omega
    repeat' first | refine z06 (z80 _) ?_ ?_ | simp (maxSteps := 4000000) (disch := omega) only [bunL, bunD, bun, ↓z04, ↓z01, z02, findLabel, ↓reduceIte, imp, shift, z0b, z0a, unown, names, z07, below, noF, isF, z03, z09, z08, ren, givL, updM, z0c, renO, belowM, seval, -Int.reduceToNat, List.take_length, D29, B21, B41, B3, B92, bunN, tab, tabC, cntC, z0k, z0r, z52, Int.reduceToNat] | exact z0f _ | refine z0e _ _ ?_ | exact Cln.cl | refine z05 _ ?_ | refine z00 _ _ ?_ ?_ | refine DR_q _ ?_ | (refine Fk.fk ?_ ?_ <;> intro hg <;> (try simp only [hg]) <;> (try simp only [bunB] at hg) <;> try (exfalso; first | omega | exact Bool.noConfusion hg | exact hg trivial)) | refine And.intro (by omega) ?_ | omega
theorem zta (L : List Int) (hL : L.length ≤ 1000) : Spec Tryz.prog 40 [tab, .sl L.length (L.map I32)] (Bv (hasB L)) := by
  refine z0g (z := false) (ts := [.tmp 4]) ok1 Tryz.func40 rfl rfl (by decide +kernel) (by simp [Tryz.ntmps40]) rfl ?_
  have h2 := zlr L 2
  have h3 := zlr L 3
  have h5 := zlr L 5
  repeat' first | refine z06 (zhm L hL) ?_ ?_ | simp (maxSteps := 4000000) (disch := omega) only [bunL, bunD, bun, ↓z04, ↓z01, z02, findLabel, ↓reduceIte, imp, shift, z0b, z0a, unown, names, z07, below, noF, isF, z03, z09, z08, ren, givL, updM, z0c, renO, belowM, seval, -Int.reduceToNat, D29, B21, B41, B3, B92, bunN, tab, tabC, cntC, z0k, z0r, z52, Int.reduceToNat] | exact z0f _ | refine z0e _ _ ?_ | exact Cln.cl | refine z05 _ ?_ | refine z00 _ _ ?_ ?_ | refine DR_q _ ?_ | (refine Fk.fk ?_ ?_ <;> intro hg <;> (try simp only [hg]) <;> (try simp only [bunB] at hg) <;> try (exfalso; first | omega | exact Bool.noConfusion hg | exact hg trivial)) | refine And.intro (by omega) ?_ | omega
  rw [← hasB_cn]
theorem side_spec (L : List Int) (hL : L.length ≤ 1000) : Spec Tryz.prog 71 [tab, .sl L.length (L.map I32)] (I64 (zns L)) := by
  refine z0g (z := false) (ts := [.tmp 4]) ok1 Tryz.func71 rfl rfl (by decide +kernel) (by simp [Tryz.ntmps71]) rfl ?_
  by_cases h0 : 0 < L.length
  · rw [zwo h0]
    repeat' first | refine z06 (z80 _) ?_ ?_ | simp (maxSteps := 4000000) (disch := omega) only [bunL, bunD, bun, ↓z04, ↓z01, z02, findLabel, ↓reduceIte, imp, shift, z0b, z0a, unown, names, z07, below, noF, isF, z03, z09, z08, ren, givL, updM, z0c, renO, belowM, seval, -Int.reduceToNat, D29, B21, B41, bunN, tab, tabC, cntC, z0k, z0r, z52, Int.reduceToNat] | exact z0f _ | refine z0e _ _ ?_ | exact Cln.cl | refine z05 _ ?_ | refine z00 _ _ ?_ ?_ | refine DR_q _ ?_ | (refine Fk.fk ?_ ?_ <;> intro hg <;> (try simp only [hg]) <;> (try simp only [bunB] at hg) <;> try (exfalso; first | omega | exact Bool.noConfusion hg | exact hg trivial)) | refine And.intro (by omega) ?_ | omega
    all_goals simp_all
  · have : L = [] := by cases L; rfl; simp at h0
    subst this
    repeat' first | refine z06 (z80 _) ?_ ?_ | simp (maxSteps := 4000000) (disch := omega) only [bunL, bunD, bun, ↓z04, ↓z01, z02, findLabel, ↓reduceIte, imp, shift, z0b, z0a, unown, names, z07, below, noF, isF, z03, z09, z08, ren, givL, updM, z0c, renO, belowM, seval, -Int.reduceToNat, D29, B21, B41, bunN, tab, tabC, cntC, z0k, z0r, z52, Int.reduceToNat] | exact z0f _ | refine z0e _ _ ?_ | exact Cln.cl | refine z05 _ ?_ | refine z00 _ _ ?_ ?_ | refine DR_q _ ?_ | (refine Fk.fk ?_ ?_ <;> intro hg <;> (try simp only [hg]) <;> (try simp only [bunB] at hg) <;> try (exfalso; first | omega | exact Bool.noConfusion hg | exact hg trivial)) | refine And.intro (by omega) ?_ | omega
    rfl
theorem zwj (L : List Int) (hL : L.length ≤ 1000) : Spec Tryz.prog 41 [tab, .sl L.length (L.map I32)] (Bv (zq2 L)) := by
  refine z0g (z := false) (ts := [.tmp 4]) ok1 Tryz.func41 rfl rfl (by decide +kernel) (by simp [Tryz.ntmps41]) rfl ?_
  have e1 := cn_zero L 1
  have e4 := zhl L 4
  have e5 := zhl L 5
  have hne : L.isEmpty = ((L.length : Int) == 0) := by cases L <;> simp <;> omega
  unfold zq2
  rcases zq8 L with h | h | h
  all_goals
    rw [h]
    repeat' first | refine z06 (zhm L hL) ?_ ?_ | refine z06 (end_spec L hL) ?_ ?_ | refine z06 (side_spec L hL) ?_ ?_ | refine z06 (zta L hL) ?_ ?_ | simp (maxSteps := 4000000) (disch := omega) only [bunL, bunD, bun, ↓z04, ↓z01, z02, findLabel, ↓reduceIte, imp, shift, z0b, z0a, unown, names, z07, below, noF, isF, z03, z09, z08, ren, givL, updM, z0c, renO, belowM, seval, -Int.reduceToNat, h, e1, e4, e5, D29, B21, B41, B3, B92, bunN, tab, tabC, cntC, z0k, z0r, z52, Int.reduceToNat] | exact z0f _ | refine z0e _ _ ?_ | exact Cln.cl | refine z05 _ ?_ | refine z00 _ _ ?_ ?_ | refine DR_q _ ?_ | (refine Fk.fk ?_ ?_ <;> intro hg <;> (try simp only [hg]) <;> (try simp only [bunB] at hg) <;> try (exfalso; first | omega | exact Bool.noConfusion hg | exact hg trivial)) | refine And.intro (by omega) ?_ | omega
    all_goals first
      | (simp_all; done)
      | skip
end Go.AE
end
