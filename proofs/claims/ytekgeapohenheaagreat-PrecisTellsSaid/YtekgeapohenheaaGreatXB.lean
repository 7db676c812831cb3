/- Contracts of functions that the laws of this seat reach, and plain laws of what they compute. No condition beyond each statement's own. -/
import Derived.Test.YtekgeapohenheaaGreatK1
import Derived.Test.YtekgeapohenheaaGreatXA
set_option linter.unusedVariables false
set_option linter.unusedSimpArgs false
section
/- Chapter 7: the program's functions, and the document's own. -/
namespace Go.AE
open Go.Proofs
set_option maxRecDepth 20000
set_option linter.unusedSimpArgs false
def spotC (L : List Int) (k : Int) : List AV := [.sl 74 (ranges.flatMap rangeC), .sl 10 (classes.flatMap classC), .sl 11 (lowers.flatMap lowerC), .mp (sM 42), .mp (pM 42), .sl L.length (L.map I32), I64 k]
def inI (r : Int) : Prop := -2147483648 ≤ r ∧ r ≤ 2147483647
theorem bn_bd {L : List Int} (hb : ∀ c ∈ L, inI c) (k d : Int) (hd : inI d) : -2147483648 ≤ bn L k d ∧ bn L k d ≤ 2147483647 := by
  unfold bn
  split
  · rename_i h
    refine hb _ ?_
    rw [List.getD, List.getElem?_eq_getElem (by omega)]; exact List.getElem_mem _
  · exact hd
theorem m1_in : inI (-1) := by unfold inI; omega
theorem z_in : inI 0 := by unfold inI; omega
theorem by_spec (L : List Int) (hL : L.length ≤ 1000) (k n : Int) (h : 0 ≤ k ∧ k ≤ 1000 ∧ -1100 ≤ n ∧ n ≤ 1100) : Spec Tryz.prog 134 [.ag (spotC L k), I64 n] (I32 (bn L (k + n) (-1))) := by
  refine spec_mk (z := false) (ts := [.tmp 4]) ok1 Tryz.func134 rfl rfl (by decide +kernel) (by simp [Tryz.ntmps134]) rfl ?_
  repeat' first | simp (maxSteps := 4000000) (disch := omega) only [bunL, bunD, bun, ↓WG_true, ↓WG_false, labelOf, findLabel, ↓reduceIte, imp, shift, killO, cond_true, cond_false, hasId, ne_eq, unown, names, plainR, below, noF, isF, lendObs, lendOb, kindOk, ren, givL, updM, backO, renO, belowM, seval, -Int.reduceToNat, D93, bunN, tab, tabC, spotC, nth_drop, nth_i32] | refine DR_q _ ?_ | (refine Fk.fk ?_ ?_ <;> intro hg <;> (try simp only [hg]) <;> (try simp only [bunB, ne_eq, arA, arB] at hg) <;> try (exfalso; first | omega | exact Bool.noConfusion hg | exact hg trivial)) | refine And.intro (by omega) ?_ | omega
  · rw [bn_lt _ (by omega)]
  · rw [bn_ge _ (by omega)]
  · unfold bn; rw [if_pos (by omega)]
theorem one_spec (r : Int) : Spec Tryz.prog 92 [I32 r] (Bv (arA r)) := by
  refine spec_mk (z := false) (ts := [.tmp 2]) ok1 Tryz.func92 rfl rfl (by decide +kernel) (by simp [Tryz.ntmps92]) rfl ?_
  repeat' first | simp (maxSteps := 4000000) (disch := omega) only [bunL, bunD, bun, ↓WG_true, ↓WG_false, labelOf, findLabel, ↓reduceIte, imp, shift, killO, cond_true, cond_false, hasId, ne_eq, unown, names, plainR, below, noF, isF, lendObs, lendOb, kindOk, ren, givL, updM, backO, renO, belowM, seval, -Int.reduceToNat, B4, B21, bunN, tab, tabC, spotC, nth_drop, nth_i32] | refine DR_q _ ?_ | (refine Fk.fk ?_ ?_ <;> intro hg <;> (try simp only [hg]) <;> (try simp only [bunB, ne_eq, arA, arB] at hg) <;> try (exfalso; first | omega | exact Bool.noConfusion hg | exact hg trivial)) | refine And.intro (by omega) ?_ | omega
  all_goals (congr 2; first | rfl | (first | rw [Bool.eq_iff_iff] | skip); simp_all [arA, arB] <;> omega)
theorem two_spec (r : Int) : Spec Tryz.prog 95 [I32 r] (Bv (arB r)) := by
  refine spec_mk (z := false) (ts := [.tmp 2]) ok1 Tryz.func95 rfl rfl (by decide +kernel) (by simp [Tryz.ntmps95]) rfl ?_
  repeat' first | simp (maxSteps := 4000000) (disch := omega) only [bunL, bunD, bun, ↓WG_true, ↓WG_false, labelOf, findLabel, ↓reduceIte, imp, shift, killO, cond_true, cond_false, hasId, ne_eq, unown, names, plainR, below, noF, isF, lendObs, lendOb, kindOk, ren, givL, updM, backO, renO, belowM, seval, -Int.reduceToNat, B4, B21, bunN, tab, tabC, spotC, nth_drop, nth_i32] | refine DR_q _ ?_ | (refine Fk.fk ?_ ?_ <;> intro hg <;> (try simp only [hg]) <;> (try simp only [bunB, ne_eq, arA, arB] at hg) <;> try (exfalso; first | omega | exact Bool.noConfusion hg | exact hg trivial)) | refine And.intro (by omega) ?_ | omega
  all_goals (congr 2; first | rfl | (first | rw [Bool.eq_iff_iff] | skip); simp_all [arA, arB] <;> omega)
theorem joinF_spec (L : List Int) (hL : L.length ≤ 1000) (k : Nat) (hk : k < L.length) : Spec Tryz.prog 135 [.ag (spotC L k), I64 1] (I64 (jl (L.drop (k + 1)))) := by
  refine spec_mk (z := false) (ts := [.tmp 4]) ok1 Tryz.func135 rfl rfl (by decide +kernel) (by simp [Tryz.ntmps135]) rfl ?_
  repeat' first | simp (maxSteps := 4000000) (disch := omega) only [bunL, bunD, bun, ↓WG_true, ↓WG_false, labelOf, findLabel, ↓reduceIte, imp, shift, killO, cond_true, cond_false, hasId, ne_eq, unown, names, plainR, below, noF, isF, lendObs, lendOb, kindOk, ren, givL, updM, backO, renO, belowM, seval, -Int.reduceToNat, D93, bunN, tab, tabC, spotC, nth_drop, nth_i32] | refine DR_q _ ?_ | (refine Fk.fk ?_ ?_ <;> intro hg <;> (try simp only [hg]) <;> (try simp only [bunB, ne_eq, arA, arB] at hg) <;> try (exfalso; first | omega | exact Bool.noConfusion hg | exact hg trivial)) | refine And.intro (by omega) ?_ | omega
  refine LP_intro (fun i : Nat => ⟨[(0, .ag (spotC L k)), (1, I64 1), (2, .ptr 0 0), (4, I64 0), (5, I64 (1 + i))], [.row true 1 (spotC L k)]⟩) (fun i => k + 1 + i ≤ L.length ∧ jl (L.drop (k + 1)) = jl (L.drop (k + 1 + i))) (fun i => L.length - i) 0 ⟨by omega, rfl⟩ (by (simp (disch := omega) [wk, wkT, wkM, noF, isF, get, belowT, belowM, below, belows, I64, I32, Bv, U8, Sv, spotC] <;> try omega)) ?_
  intro i ⟨hi, he⟩
  by_cases hlt : k + 1 + i < L.length
  · have hb : bn L (k + (1 + i)) (-1) = L.getD (k + 1 + i) 0 := by rw [show (k : Int) + (1 + i) = ((k + 1 + i : Nat) : Int) by omega, bn_in _ hlt]
    repeat' first | refine WE_fit (by_spec _ hL _ _ (by omega)) ?_ ?_ | refine WE_fit (join_spec _) ?_ ?_ | simp (maxSteps := 4000000) (disch := omega) only [bunL, bunD, bun, ↓WG_true, ↓WG_false, labelOf, findLabel, ↓reduceIte, imp, shift, killO, cond_true, cond_false, hasId, ne_eq, unown, names, plainR, below, noF, isF, lendObs, lendOb, kindOk, ren, givL, updM, backO, renO, belowM, seval, -Int.reduceToNat, hb, D93, bunN, tab, tabC, spotC, nth_drop, nth_i32] | exact NK_no _ | refine NK_cl _ _ ?_ | exact Cln.cl | refine clean_tup _ ?_ | refine cleans_cons _ _ ?_ ?_ | refine DR_q _ ?_ | (refine Fk.fk ?_ ?_ <;> intro hg <;> (try simp only [hg]) <;> (try simp only [bunB, ne_eq, arA, arB] at hg) <;> try (exfalso; first | omega | exact Bool.noConfusion hg | exact hg trivial)) | refine And.intro (by omega) ?_ | omega
    · rw [he, jl_stop hlt (by assumption)]
    · refine ⟨i + 1, ⟨by omega, ?_⟩, by omega, by (simp (disch := omega) [wk, wkT, wkM, noF, isF, get, belowT, belowM, below, belows, I64, I32, Bv, U8, Sv, spotC] <;> try omega)⟩
      rw [he, jl_skip hlt (by assumption)]; rfl
    · have := join_neg (c := L.getD (k + 1 + i) 0) (by omega)
      rw [he, jl_stop hlt (by omega), this]
  · have hb : bn L (k + (1 + i)) (-1) = -1 := bn_ge _ (by omega)
    repeat' first | refine WE_fit (by_spec _ hL _ _ (by omega)) ?_ ?_ | refine WE_fit (join_spec _) ?_ ?_ | simp (maxSteps := 4000000) (disch := omega) only [bunL, bunD, bun, ↓WG_true, ↓WG_false, labelOf, findLabel, ↓reduceIte, imp, shift, killO, cond_true, cond_false, hasId, ne_eq, unown, names, plainR, below, noF, isF, lendObs, lendOb, kindOk, ren, givL, updM, backO, renO, belowM, seval, -Int.reduceToNat, hb, D93, bunN, tab, tabC, spotC, nth_drop, nth_i32] | exact NK_no _ | refine NK_cl _ _ ?_ | exact Cln.cl | refine clean_tup _ ?_ | refine cleans_cons _ _ ?_ ?_ | refine DR_q _ ?_ | (refine Fk.fk ?_ ?_ <;> intro hg <;> (try simp only [hg]) <;> (try simp only [bunB, ne_eq, arA, arB] at hg) <;> try (exfalso; first | omega | exact Bool.noConfusion hg | exact hg trivial)) | refine And.intro (by omega) ?_ | omega
    rw [he, jl_out (by omega)]
theorem joinB_spec (L : List Int) (hL : L.length ≤ 1000) (k : Nat) (hk : k < L.length) : Spec Tryz.prog 135 [.ag (spotC L k), I64 (-1)] (I64 (jb L k)) := by
  refine spec_mk (z := false) (ts := [.tmp 4]) ok1 Tryz.func135 rfl rfl (by decide +kernel) (by simp [Tryz.ntmps135]) rfl ?_
  repeat' first | simp (maxSteps := 4000000) (disch := omega) only [bunL, bunD, bun, ↓WG_true, ↓WG_false, labelOf, findLabel, ↓reduceIte, imp, shift, killO, cond_true, cond_false, hasId, ne_eq, unown, names, plainR, below, noF, isF, lendObs, lendOb, kindOk, ren, givL, updM, backO, renO, belowM, seval, -Int.reduceToNat, D93, bunN, tab, tabC, spotC, nth_drop, nth_i32] | refine DR_q _ ?_ | (refine Fk.fk ?_ ?_ <;> intro hg <;> (try simp only [hg]) <;> (try simp only [bunB, ne_eq, arA, arB] at hg) <;> try (exfalso; first | omega | exact Bool.noConfusion hg | exact hg trivial)) | refine And.intro (by omega) ?_ | omega
  refine LP_intro (fun i : Nat => ⟨[(0, .ag (spotC L k)), (1, I64 (-1)), (2, .ptr 0 0), (4, I64 0), (5, I64 (-1 - i))], [.row true 1 (spotC L k)]⟩) (fun i => i ≤ k ∧ jb L k = jb L (k - i)) (fun i => L.length - i) 0 ⟨by omega, rfl⟩ (by (simp (disch := omega) [wk, wkT, wkM, noF, isF, get, belowT, belowM, below, belows, I64, I32, Bv, U8, Sv, spotC] <;> try omega)) ?_
  intro i ⟨hi, he⟩
  by_cases hlt : i < k
  · have hb : bn L (k + (-1 - i)) (-1) = L.getD (k - i - 1) 0 := by rw [show (k : Int) + (-1 - i) = ((k - i - 1 : Nat) : Int) by omega, bn_in _ (by omega)]
    repeat' first | refine WE_fit (by_spec _ hL _ _ (by omega)) ?_ ?_ | refine WE_fit (join_spec _) ?_ ?_ | simp (maxSteps := 4000000) (disch := omega) only [bunL, bunD, bun, ↓WG_true, ↓WG_false, labelOf, findLabel, ↓reduceIte, imp, shift, killO, cond_true, cond_false, hasId, ne_eq, unown, names, plainR, below, noF, isF, lendObs, lendOb, kindOk, ren, givL, updM, backO, renO, belowM, seval, -Int.reduceToNat, hb, D93, bunN, tab, tabC, spotC, nth_drop, nth_i32] | exact NK_no _ | refine NK_cl _ _ ?_ | exact Cln.cl | refine clean_tup _ ?_ | refine cleans_cons _ _ ?_ ?_ | refine DR_q _ ?_ | (refine Fk.fk ?_ ?_ <;> intro hg <;> (try simp only [hg]) <;> (try simp only [bunB, ne_eq, arA, arB] at hg) <;> try (exfalso; first | omega | exact Bool.noConfusion hg | exact hg trivial)) | refine And.intro (by omega) ?_ | omega
    · rw [he, jb_stop' (by omega) (by assumption)]
    · refine ⟨i + 1, ⟨by omega, ?_⟩, by omega, by (simp (disch := omega) [wk, wkT, wkM, noF, isF, get, belowT, belowM, below, belows, I64, I32, Bv, U8, Sv, spotC] <;> try omega)⟩
      rw [he, jb_skip' (by omega) (by assumption)]; rfl
    · have := join_neg (c := L.getD (k - i - 1) 0) (by omega)
      rw [he, jb_stop' (by omega) (by omega), this]
  · have hb : bn L (k + (-1 - i)) (-1) = -1 := bn_lt _ (by omega)
    repeat' first | refine WE_fit (by_spec _ hL _ _ (by omega)) ?_ ?_ | refine WE_fit (join_spec _) ?_ ?_ | simp (maxSteps := 4000000) (disch := omega) only [bunL, bunD, bun, ↓WG_true, ↓WG_false, labelOf, findLabel, ↓reduceIte, imp, shift, killO, cond_true, cond_false, hasId, ne_eq, unown, names, plainR, below, noF, isF, lendObs, lendOb, kindOk, ren, givL, updM, backO, renO, belowM, seval, -Int.reduceToNat, hb, D93, bunN, tab, tabC, spotC, nth_drop, nth_i32] | exact NK_no _ | refine NK_cl _ _ ?_ | exact Cln.cl | refine clean_tup _ ?_ | refine cleans_cons _ _ ?_ ?_ | refine DR_q _ ?_ | (refine Fk.fk ?_ ?_ <;> intro hg <;> (try simp only [hg]) <;> (try simp only [bunB, ne_eq, arA, arB] at hg) <;> try (exfalso; first | omega | exact Bool.noConfusion hg | exact hg trivial)) | refine And.intro (by omega) ?_ | omega
    rw [he, show k - i = 0 by omega]; rfl
theorem oneI_spec (L : List Int) (hL : L.length ≤ 1000) : Spec Tryz.prog 118 [.sl L.length (L.map I32), .fn 92 [] []] (I64 (idx L.length (L.findIdx arA))) := by
  refine spec_mk (z := false) (ts := [.tmp 4]) ok1 Tryz.func118 rfl rfl (by decide +kernel) (by simp [Tryz.ntmps118]) rfl ?_
  repeat' first | simp (maxSteps := 4000000) (disch := omega) only [bunL, bunD, bun, ↓WG_true, ↓WG_false, labelOf, findLabel, ↓reduceIte, imp, shift, killO, cond_true, cond_false, hasId, ne_eq, unown, names, plainR, below, noF, isF, lendObs, lendOb, kindOk, ren, givL, updM, backO, renO, belowM, seval, -Int.reduceToNat, B3, B4, B38, B21, B53, bunN, tab, tabC, spotC, nth_drop, nth_i32] | refine DR_q _ ?_ | (refine Fk.fk ?_ ?_ <;> intro hg <;> (try simp only [hg]) <;> (try simp only [bunB, ne_eq, arA, arB] at hg) <;> try (exfalso; first | omega | exact Bool.noConfusion hg | exact hg trivial)) | refine And.intro (by omega) ?_ | omega
  refine LP_intro (fun i : Nat => ⟨[(0, .sl L.length (L.map I32)), (1, .fn 92 [] []), (7, I64 L.length), (8, I64 i)], []⟩) (fun i => i ≤ L.length ∧ ∀ j, j < i → arA (L.getD j 0) = false) (fun i => L.length - i) 0 (by simp) (by (simp (disch := omega) [wk, wkT, wkM, noF, isF, get, belowT, belowM, below, belows, I64, I32, Bv, U8, Sv, spotC] <;> try omega)) ?_
  intro i ⟨hi, hno⟩
  repeat' first | refine WE_fit (one_spec _) ?_ ?_ | simp (maxSteps := 4000000) (disch := omega) only [bunL, bunD, bun, ↓WG_true, ↓WG_false, labelOf, findLabel, ↓reduceIte, imp, shift, killO, cond_true, cond_false, hasId, ne_eq, unown, names, plainR, below, noF, isF, lendObs, lendOb, kindOk, ren, givL, updM, backO, renO, belowM, seval, -Int.reduceToNat, B3, B4, B38, B21, B53, bunN, tab, tabC, spotC, nth_drop, nth_i32] | exact NK_no _ | refine NK_cl _ _ ?_ | exact Cln.cl | refine clean_tup _ ?_ | refine cleans_cons _ _ ?_ ?_ | refine DR_q _ ?_ | (refine Fk.fk ?_ ?_ <;> intro hg <;> (try simp only [hg]) <;> (try simp only [bunB, ne_eq, arA, arB] at hg) <;> try (exfalso; first | omega | exact Bool.noConfusion hg | exact hg trivial)) | refine And.intro (by omega) ?_ | omega
  · rw [idx_hit rfl hno (by omega) (by (first | assumption | (simp only [arA, arB, Bool.and_eq_true, Bool.and_eq_false_iff, decide_eq_true_eq, decide_eq_false_iff_not]; assumption)))]
  · exact ⟨i + 1, ⟨by omega, upto_succ hno (by (first | assumption | (simp only [arA, arB, Bool.and_eq_true, Bool.and_eq_false_iff, decide_eq_true_eq, decide_eq_false_iff_not]; assumption)))⟩, by omega, (by (simp (disch := omega) [wk, wkT, wkM, noF, isF, get, belowT, belowM, below, belows, I64, I32, Bv, U8, Sv, spotC] <;> try omega))⟩
  · rw [idx_miss rfl hno (by omega)]
theorem oneC_spec (L : List Int) (hL : L.length ≤ 1000) : Spec Tryz.prog 94 [.sl L.length (L.map I32), .fn 92 [] []] (Bv (L.any arA)) := by
  refine spec_mk (z := false) (ts := [.tmp 4]) ok1 Tryz.func94 rfl rfl (by decide +kernel) (by simp [Tryz.ntmps94]) rfl ?_
  repeat' first | refine WE_fit (oneI_spec L hL) ?_ ?_ | simp (maxSteps := 4000000) (disch := omega) only [bunL, bunD, bun, ↓WG_true, ↓WG_false, labelOf, findLabel, ↓reduceIte, imp, shift, killO, cond_true, cond_false, hasId, ne_eq, unown, names, plainR, below, noF, isF, lendObs, lendOb, kindOk, ren, givL, updM, backO, renO, belowM, seval, -Int.reduceToNat, B3, B4, B38, B21, B53, bunN, tab, tabC, spotC, nth_drop, nth_i32] | exact NK_no _ | refine NK_cl _ _ ?_ | exact Cln.cl | refine clean_tup _ ?_ | refine cleans_cons _ _ ?_ ?_ | refine DR_q _ ?_ | (refine Fk.fk ?_ ?_ <;> intro hg <;> (try simp only [hg]) <;> (try simp only [bunB, ne_eq, arA, arB] at hg) <;> try (exfalso; first | omega | exact Bool.noConfusion hg | exact hg trivial)) | refine And.intro (by omega) ?_ | omega
  rw [← idx_any rfl]
theorem twoI_spec (L : List Int) (hL : L.length ≤ 1000) : Spec Tryz.prog 118 [.sl L.length (L.map I32), .fn 95 [] []] (I64 (idx L.length (L.findIdx arB))) := by
  refine spec_mk (z := false) (ts := [.tmp 4]) ok1 Tryz.func118 rfl rfl (by decide +kernel) (by simp [Tryz.ntmps118]) rfl ?_
  repeat' first | simp (maxSteps := 4000000) (disch := omega) only [bunL, bunD, bun, ↓WG_true, ↓WG_false, labelOf, findLabel, ↓reduceIte, imp, shift, killO, cond_true, cond_false, hasId, ne_eq, unown, names, plainR, below, noF, isF, lendObs, lendOb, kindOk, ren, givL, updM, backO, renO, belowM, seval, -Int.reduceToNat, B3, B4, B38, B21, B53, bunN, tab, tabC, spotC, nth_drop, nth_i32] | refine DR_q _ ?_ | (refine Fk.fk ?_ ?_ <;> intro hg <;> (try simp only [hg]) <;> (try simp only [bunB, ne_eq, arA, arB] at hg) <;> try (exfalso; first | omega | exact Bool.noConfusion hg | exact hg trivial)) | refine And.intro (by omega) ?_ | omega
  refine LP_intro (fun i : Nat => ⟨[(0, .sl L.length (L.map I32)), (1, .fn 95 [] []), (7, I64 L.length), (8, I64 i)], []⟩) (fun i => i ≤ L.length ∧ ∀ j, j < i → arB (L.getD j 0) = false) (fun i => L.length - i) 0 (by simp) (by (simp (disch := omega) [wk, wkT, wkM, noF, isF, get, belowT, belowM, below, belows, I64, I32, Bv, U8, Sv, spotC] <;> try omega)) ?_
  intro i ⟨hi, hno⟩
  repeat' first | refine WE_fit (two_spec _) ?_ ?_ | simp (maxSteps := 4000000) (disch := omega) only [bunL, bunD, bun, ↓WG_true, ↓WG_false, labelOf, findLabel, ↓reduceIte, imp, shift, killO, cond_true, cond_false, hasId, ne_eq, unown, names, plainR, below, noF, isF, lendObs, lendOb, kindOk, ren, givL, updM, backO, renO, belowM, seval, -Int.reduceToNat, B3, B4, B38, B21, B53, bunN, tab, tabC, spotC, nth_drop, nth_i32] | exact NK_no _ | refine NK_cl _ _ ?_ | exact Cln.cl | refine clean_tup _ ?_ | refine cleans_cons _ _ ?_ ?_ | refine DR_q _ ?_ | (refine Fk.fk ?_ ?_ <;> intro hg <;> (try simp only [hg]) <;> (try simp only [bunB, ne_eq, arA, arB] at hg) <;> try (exfalso; first | omega | exact Bool.noConfusion hg | exact hg trivial)) | refine And.intro (by omega) ?_ | omega
  · rw [idx_hit rfl hno (by omega) (by (first | assumption | (simp only [arA, arB, Bool.and_eq_true, Bool.and_eq_false_iff, decide_eq_true_eq, decide_eq_false_iff_not]; assumption)))]
  · exact ⟨i + 1, ⟨by omega, upto_succ hno (by (first | assumption | (simp only [arA, arB, Bool.and_eq_true, Bool.and_eq_false_iff, decide_eq_true_eq, decide_eq_false_iff_not]; assumption)))⟩, by omega, (by (simp (disch := omega) [wk, wkT, wkM, noF, isF, get, belowT, belowM, below, belows, I64, I32, Bv, U8, Sv, spotC] <;> try omega))⟩
  · rw [idx_miss rfl hno (by omega)]
theorem twoC_spec (L : List Int) (hL : L.length ≤ 1000) : Spec Tryz.prog 94 [.sl L.length (L.map I32), .fn 95 [] []] (Bv (L.any arB)) := by
  refine spec_mk (z := false) (ts := [.tmp 4]) ok1 Tryz.func94 rfl rfl (by decide +kernel) (by simp [Tryz.ntmps94]) rfl ?_
  repeat' first | refine WE_fit (twoI_spec L hL) ?_ ?_ | simp (maxSteps := 4000000) (disch := omega) only [bunL, bunD, bun, ↓WG_true, ↓WG_false, labelOf, findLabel, ↓reduceIte, imp, shift, killO, cond_true, cond_false, hasId, ne_eq, unown, names, plainR, below, noF, isF, lendObs, lendOb, kindOk, ren, givL, updM, backO, renO, belowM, seval, -Int.reduceToNat, B3, B4, B38, B21, B53, bunN, tab, tabC, spotC, nth_drop, nth_i32] | exact NK_no _ | refine NK_cl _ _ ?_ | exact Cln.cl | refine clean_tup _ ?_ | refine cleans_cons _ _ ?_ ?_ | refine DR_q _ ?_ | (refine Fk.fk ?_ ?_ <;> intro hg <;> (try simp only [hg]) <;> (try simp only [bunB, ne_eq, arA, arB] at hg) <;> try (exfalso; first | omega | exact Bool.noConfusion hg | exact hg trivial)) | refine And.intro (by omega) ?_ | omega
  rw [← idx_any rfl]
theorem asnF_spec (L : List Int) (k c : Int) : Spec Tryz.prog 137 [I32 c, .cp (spotC L k)] (Bv (asn c)) := by
  refine spec_mk (z := false) (ts := [.tmp 3]) ok1 Tryz.func137 rfl rfl (by decide +kernel) (by simp [Tryz.ntmps137]) rfl ?_
  repeat' first | refine WE_fit (script_spec _) ?_ ?_ | simp (maxSteps := 4000000) (disch := omega) only [bunL, bunD, bun, ↓WG_true, ↓WG_false, labelOf, findLabel, ↓reduceIte, imp, shift, killO, cond_true, cond_false, hasId, ne_eq, unown, names, plainR, below, noF, isF, lendObs, lendOb, kindOk, ren, givL, updM, backO, renO, belowM, seval, -Int.reduceToNat, D93, bunN, tab, tabC, spotC, nth_drop, nth_i32] | exact NK_no _ | refine NK_cl _ _ ?_ | exact Cln.cl | refine clean_tup _ ?_ | refine cleans_cons _ _ ?_ ?_ | refine DR_q _ ?_ | (refine Fk.fk ?_ ?_ <;> intro hg <;> (try simp only [hg]) <;> (try simp only [bunB, ne_eq, arA, arB] at hg) <;> try (exfalso; first | omega | exact Bool.noConfusion hg | exact hg trivial)) | refine And.intro (by omega) ?_ | omega
  all_goals (congr 2; unfold asn; simp_all)
theorem asnI_spec (L : List Int) (hL : L.length ≤ 1000) (M : List Int) (k : Int) : Spec Tryz.prog 118 [.sl L.length (L.map I32), .fn 137 [] [.cp (spotC M k)]] (I64 (idx L.length (L.findIdx asn))) := by
  refine spec_mk (z := false) (ts := [.tmp 4]) ok1 Tryz.func118 rfl rfl (by decide +kernel) (by simp [Tryz.ntmps118]) rfl ?_
  repeat' first | simp (maxSteps := 4000000) (disch := omega) only [bunL, bunD, bun, ↓WG_true, ↓WG_false, labelOf, findLabel, ↓reduceIte, imp, shift, killO, cond_true, cond_false, hasId, ne_eq, unown, names, plainR, below, noF, isF, lendObs, lendOb, kindOk, ren, givL, updM, backO, renO, belowM, seval, -Int.reduceToNat, B3, B4, B38, B21, B53, bunN, tab, tabC, spotC, nth_drop, nth_i32] | refine DR_q _ ?_ | (refine Fk.fk ?_ ?_ <;> intro hg <;> (try simp only [hg]) <;> (try simp only [bunB, ne_eq, arA, arB] at hg) <;> try (exfalso; first | omega | exact Bool.noConfusion hg | exact hg trivial)) | refine And.intro (by omega) ?_ | omega
  refine LP_intro (fun i : Nat => ⟨[(0, .sl L.length (L.map I32)), (1, .fn 137 [] [.cp (spotC M k)]), (7, I64 L.length), (8, I64 i)], []⟩) (fun i => i ≤ L.length ∧ ∀ j, j < i → asn (L.getD j 0) = false) (fun i => L.length - i) 0 (by simp) (by (simp (disch := omega) [wk, wkT, wkM, noF, isF, get, belowT, belowM, below, belows, I64, I32, Bv, U8, Sv, spotC] <;> try omega)) ?_
  intro i ⟨hi, hno⟩
  repeat' first | refine WE_fit (asnF_spec _ _ _) ?_ ?_ | simp (maxSteps := 4000000) (disch := omega) only [bunL, bunD, bun, ↓WG_true, ↓WG_false, labelOf, findLabel, ↓reduceIte, imp, shift, killO, cond_true, cond_false, hasId, ne_eq, unown, names, plainR, below, noF, isF, lendObs, lendOb, kindOk, ren, givL, updM, backO, renO, belowM, seval, -Int.reduceToNat, B3, B4, B38, B21, B53, bunN, tab, tabC, spotC, nth_drop, nth_i32] | exact NK_no _ | refine NK_cl _ _ ?_ | exact Cln.cl | refine clean_tup _ ?_ | refine cleans_cons _ _ ?_ ?_ | refine DR_q _ ?_ | (refine Fk.fk ?_ ?_ <;> intro hg <;> (try simp only [hg]) <;> (try simp only [bunB, ne_eq, arA, arB] at hg) <;> try (exfalso; first | omega | exact Bool.noConfusion hg | exact hg trivial)) | refine And.intro (by omega) ?_ | omega
  · rw [idx_hit rfl hno (by omega) (by (first | assumption | (simp only [arA, arB, Bool.and_eq_true, Bool.and_eq_false_iff, decide_eq_true_eq, decide_eq_false_iff_not]; assumption)))]
  · exact ⟨i + 1, ⟨by omega, upto_succ hno (by (first | assumption | (simp only [arA, arB, Bool.and_eq_true, Bool.and_eq_false_iff, decide_eq_true_eq, decide_eq_false_iff_not]; assumption)))⟩, by omega, (by (simp (disch := omega) [wk, wkT, wkM, noF, isF, get, belowT, belowM, below, belows, I64, I32, Bv, U8, Sv, spotC] <;> try omega))⟩
  · rw [idx_miss rfl hno (by omega)]
theorem asnC_spec (L : List Int) (hL : L.length ≤ 1000) (M : List Int) (k : Int) : Spec Tryz.prog 94 [.sl L.length (L.map I32), .fn 137 [] [.cp (spotC M k)]] (Bv (L.any asn)) := by
  refine spec_mk (z := false) (ts := [.tmp 4]) ok1 Tryz.func94 rfl rfl (by decide +kernel) (by simp [Tryz.ntmps94]) rfl ?_
  repeat' first | refine WE_fit (asnI_spec L hL M k) ?_ ?_ | simp (maxSteps := 4000000) (disch := omega) only [bunL, bunD, bun, ↓WG_true, ↓WG_false, labelOf, findLabel, ↓reduceIte, imp, shift, killO, cond_true, cond_false, hasId, ne_eq, unown, names, plainR, below, noF, isF, lendObs, lendOb, kindOk, ren, givL, updM, backO, renO, belowM, seval, -Int.reduceToNat, B3, B4, B38, B21, B53, bunN, tab, tabC, spotC, nth_drop, nth_i32] | exact NK_no _ | refine NK_cl _ _ ?_ | exact Cln.cl | refine clean_tup _ ?_ | refine cleans_cons _ _ ?_ ?_ | refine DR_q _ ?_ | (refine Fk.fk ?_ ?_ <;> intro hg <;> (try simp only [hg]) <;> (try simp only [bunB, ne_eq, arA, arB] at hg) <;> try (exfalso; first | omega | exact Bool.noConfusion hg | exact hg trivial)) | refine And.intro (by omega) ?_ | omega
  rw [← idx_any rfl]
theorem dead_spec (L : List Int) (hL : L.length ≤ 1000) (hb : ∀ c ∈ L, inI c) (k : Nat) (hk : k < L.length) : Spec Tryz.prog 119 [.ag (spotC L k)] (Bv (deadB L k)) := by
  refine spec_mk (z := false) (ts := [.tmp 2]) ok1 Tryz.func119 rfl rfl (by decide +kernel) (by simp [Tryz.ntmps119]) rfl ?_
  have hbd := bn_bd hb (k + -1) (-1) m1_in
  repeat' first | refine WE_fit (by_spec _ hL _ _ (by omega)) ?_ ?_ | refine WE_fit (class_spec _ (by omega) (by omega)) ?_ ?_ | simp (maxSteps := 4000000) (disch := omega) only [bunL, bunD, bun, ↓WG_true, ↓WG_false, labelOf, findLabel, ↓reduceIte, imp, shift, killO, cond_true, cond_false, hasId, ne_eq, unown, names, plainR, below, noF, isF, lendObs, lendOb, kindOk, ren, givL, updM, backO, renO, belowM, seval, -Int.reduceToNat, D93, bunN, tab, tabC, spotC, nth_drop, nth_i32] | exact NK_no _ | refine NK_cl _ _ ?_ | exact Cln.cl | refine clean_tup _ ?_ | refine cleans_cons _ _ ?_ ?_ | refine DR_q _ ?_ | (refine Fk.fk ?_ ?_ <;> intro hg <;> (try simp only [hg]) <;> (try simp only [bunB, ne_eq, arA, arB] at hg) <;> try (exfalso; first | omega | exact Bool.noConfusion hg | exact hg trivial)) | refine And.intro (by omega) ?_ | omega
  rfl
theorem bound_spec (L : List Int) (hL : L.length ≤ 1000) (hb : ∀ c ∈ L, inI c) (k : Nat) (hk : k < L.length) : Spec Tryz.prog 120 [.ag (spotC L k)] (Bv (boundB L k)) := by
  refine spec_mk (z := false) (ts := [.tmp 2]) ok1 Tryz.func120 rfl rfl (by decide +kernel) (by simp [Tryz.ntmps120]) rfl ?_
  repeat' first | refine WE_fit (joinF_spec _ hL _ hk) ?_ ?_ | refine WE_fit (joinB_spec _ hL _ hk) ?_ ?_ | refine WE_fit (dead_spec _ hL hb _ hk) ?_ ?_ | simp (maxSteps := 4000000) (disch := omega) only [bunL, bunD, bun, ↓WG_true, ↓WG_false, labelOf, findLabel, ↓reduceIte, imp, shift, killO, cond_true, cond_false, hasId, ne_eq, unown, names, plainR, below, noF, isF, lendObs, lendOb, kindOk, ren, givL, updM, backO, renO, belowM, seval, -Int.reduceToNat, D93, bunN, tab, tabC, spotC, nth_drop, nth_i32] | exact NK_no _ | refine NK_cl _ _ ?_ | exact Cln.cl | refine clean_tup _ ?_ | refine cleans_cons _ _ ?_ ?_ | refine DR_q _ ?_ | (refine Fk.fk ?_ ?_ <;> intro hg <;> (try simp only [hg]) <;> (try simp only [bunB, ne_eq, arA, arB] at hg) <;> try (exfalso; first | omega | exact Bool.noConfusion hg | exact hg trivial)) | refine And.intro (by omega) ?_ | omega
  all_goals (congr 2; simp_all [boundB])
theorem between_spec (L : List Int) (hL : L.length ≤ 1000) (k : Nat) (hk : k < L.length) : Spec Tryz.prog 121 [.ag (spotC L k)] (Bv (betwB L k)) := by
  refine spec_mk (z := false) (ts := [.tmp 2]) ok1 Tryz.func121 rfl rfl (by decide +kernel) (by simp [Tryz.ntmps121]) rfl ?_
  have e : betwB L k = ((bn L (k + -1) (-1) == 108) && (bn L (k + 1) (-1) == 108)) := rfl
  repeat' first | refine WE_fit (by_spec _ hL _ _ (by omega)) ?_ ?_ | simp (maxSteps := 4000000) (disch := omega) only [bunL, bunD, bun, ↓WG_true, ↓WG_false, labelOf, findLabel, ↓reduceIte, imp, shift, killO, cond_true, cond_false, hasId, ne_eq, unown, names, plainR, below, noF, isF, lendObs, lendOb, kindOk, ren, givL, updM, backO, renO, belowM, seval, -Int.reduceToNat, D93, bunN, tab, tabC, spotC, nth_drop, nth_i32] | exact NK_no _ | refine NK_cl _ _ ?_ | exact Cln.cl | refine clean_tup _ ?_ | refine cleans_cons _ _ ?_ ?_ | refine DR_q _ ?_ | (refine Fk.fk ?_ ?_ <;> intro hg <;> (try simp only [hg]) <;> (try simp only [bunB, ne_eq, arA, arB] at hg) <;> try (exfalso; first | omega | exact Bool.noConfusion hg | exact hg trivial)) | refine And.intro (by omega) ?_ | omega
  all_goals (congr 2; simp_all)
theorem greek_spec (L : List Int) (hL : L.length ≤ 1000) (k : Nat) (hk : k < L.length) : Spec Tryz.prog 122 [.ag (spotC L k)] (Bv (greekB L k)) := by
  refine spec_mk (z := false) (ts := [.tmp 2]) ok1 Tryz.func122 rfl rfl (by decide +kernel) (by simp [Tryz.ntmps122]) rfl ?_
  repeat' first | refine WE_fit (by_spec _ hL _ _ (by omega)) ?_ ?_ | refine WE_fit (script_spec _) ?_ ?_ | simp (maxSteps := 4000000) (disch := omega) only [bunL, bunD, bun, ↓WG_true, ↓WG_false, labelOf, findLabel, ↓reduceIte, imp, shift, killO, cond_true, cond_false, hasId, ne_eq, unown, names, plainR, below, noF, isF, lendObs, lendOb, kindOk, ren, givL, updM, backO, renO, belowM, seval, -Int.reduceToNat, D93, bunN, tab, tabC, spotC, nth_drop, nth_i32] | exact NK_no _ | refine NK_cl _ _ ?_ | exact Cln.cl | refine clean_tup _ ?_ | refine cleans_cons _ _ ?_ ?_ | refine DR_q _ ?_ | (refine Fk.fk ?_ ?_ <;> intro hg <;> (try simp only [hg]) <;> (try simp only [bunB, ne_eq, arA, arB] at hg) <;> try (exfalso; first | omega | exact Bool.noConfusion hg | exact hg trivial)) | refine And.intro (by omega) ?_ | omega
  rfl
theorem hebrew_spec (L : List Int) (hL : L.length ≤ 1000) (k : Nat) (hk : k < L.length) : Spec Tryz.prog 123 [.ag (spotC L k)] (Bv (hebB L k)) := by
  refine spec_mk (z := false) (ts := [.tmp 2]) ok1 Tryz.func123 rfl rfl (by decide +kernel) (by simp [Tryz.ntmps123]) rfl ?_
  repeat' first | refine WE_fit (by_spec _ hL _ _ (by omega)) ?_ ?_ | refine WE_fit (script_spec _) ?_ ?_ | simp (maxSteps := 4000000) (disch := omega) only [bunL, bunD, bun, ↓WG_true, ↓WG_false, labelOf, findLabel, ↓reduceIte, imp, shift, killO, cond_true, cond_false, hasId, ne_eq, unown, names, plainR, below, noF, isF, lendObs, lendOb, kindOk, ren, givL, updM, backO, renO, belowM, seval, -Int.reduceToNat, D93, bunN, tab, tabC, spotC, nth_drop, nth_i32] | exact NK_no _ | refine NK_cl _ _ ?_ | exact Cln.cl | refine clean_tup _ ?_ | refine cleans_cons _ _ ?_ ?_ | refine DR_q _ ?_ | (refine Fk.fk ?_ ?_ <;> intro hg <;> (try simp only [hg]) <;> (try simp only [bunB, ne_eq, arA, arB] at hg) <;> try (exfalso; first | omega | exact Bool.noConfusion hg | exact hg trivial)) | refine And.intro (by omega) ?_ | omega
  rfl
theorem asian_spec (L : List Int) (hL : L.length ≤ 1000) (k : Nat) (hk : k < L.length) : Spec Tryz.prog 124 [.ag (spotC L k)] (Bv (L.any asn)) := by
  refine spec_mk (z := false) (ts := [.tmp 2]) ok1 Tryz.func124 rfl rfl (by decide +kernel) (by simp [Tryz.ntmps124]) rfl ?_
  repeat' first | refine WE_fit (asnC_spec L hL L k) ?_ ?_ | simp (maxSteps := 4000000) (disch := omega) only [bunL, bunD, bun, ↓WG_true, ↓WG_false, labelOf, findLabel, ↓reduceIte, imp, shift, killO, cond_true, cond_false, hasId, ne_eq, unown, names, plainR, below, noF, isF, lendObs, lendOb, kindOk, ren, givL, updM, backO, renO, belowM, seval, -Int.reduceToNat, B38, D93, bunN, tab, tabC, spotC, nth_drop, nth_i32] | exact NK_no _ | refine NK_cl _ _ ?_ | exact Cln.cl | refine clean_tup _ ?_ | refine cleans_cons _ _ ?_ ?_ | refine DR_q _ ?_ | (refine Fk.fk ?_ ?_ <;> intro hg <;> (try simp only [hg]) <;> (try simp only [bunB, ne_eq, arA, arB] at hg) <;> try (exfalso; first | omega | exact Bool.noConfusion hg | exact hg trivial)) | refine And.intro (by omega) ?_ | omega
theorem rule1_spec (L : List Int) (hL : L.length ≤ 1000) (k : Int) : Spec Tryz.prog 93 [.ag (spotC L k)] (Bv (!L.any arB)) := by
  refine spec_mk (z := false) (ts := [.tmp 2]) ok1 Tryz.func93 rfl rfl (by decide +kernel) (by simp [Tryz.ntmps93]) rfl ?_
  repeat' first | refine WE_fit (twoC_spec L hL) ?_ ?_ | simp (maxSteps := 4000000) (disch := omega) only [bunL, bunD, bun, ↓WG_true, ↓WG_false, labelOf, findLabel, ↓reduceIte, imp, shift, killO, cond_true, cond_false, hasId, ne_eq, unown, names, plainR, below, noF, isF, lendObs, lendOb, kindOk, ren, givL, updM, backO, renO, belowM, seval, -Int.reduceToNat, B38, D93, bunN, tab, tabC, spotC, nth_drop, nth_i32] | exact NK_no _ | refine NK_cl _ _ ?_ | exact Cln.cl | refine clean_tup _ ?_ | refine cleans_cons _ _ ?_ ?_ | refine DR_q _ ?_ | (refine Fk.fk ?_ ?_ <;> intro hg <;> (try simp only [hg]) <;> (try simp only [bunB, ne_eq, arA, arB] at hg) <;> try (exfalso; first | omega | exact Bool.noConfusion hg | exact hg trivial)) | refine And.intro (by omega) ?_ | omega
theorem rule2_spec (L : List Int) (hL : L.length ≤ 1000) (k : Int) : Spec Tryz.prog 96 [.ag (spotC L k)] (Bv (!L.any arA)) := by
  refine spec_mk (z := false) (ts := [.tmp 2]) ok1 Tryz.func96 rfl rfl (by decide +kernel) (by simp [Tryz.ntmps96]) rfl ?_
  repeat' first | refine WE_fit (oneC_spec L hL) ?_ ?_ | simp (maxSteps := 4000000) (disch := omega) only [bunL, bunD, bun, ↓WG_true, ↓WG_false, labelOf, findLabel, ↓reduceIte, imp, shift, killO, cond_true, cond_false, hasId, ne_eq, unown, names, plainR, below, noF, isF, lendObs, lendOb, kindOk, ren, givL, updM, backO, renO, belowM, seval, -Int.reduceToNat, B38, D93, bunN, tab, tabC, spotC, nth_drop, nth_i32] | exact NK_no _ | refine NK_cl _ _ ?_ | exact Cln.cl | refine clean_tup _ ?_ | refine cleans_cons _ _ ?_ ?_ | refine DR_q _ ?_ | (refine Fk.fk ?_ ?_ <;> intro hg <;> (try simp only [hg]) <;> (try simp only [bunB, ne_eq, arA, arB] at hg) <;> try (exfalso; first | omega | exact Bool.noConfusion hg | exact hg trivial)) | refine And.intro (by omega) ?_ | omega
end Go.AE
end
section
/- Chapter 7: what a character needs, and whether it has it. -/
namespace Go.AE
open Go.Proofs
set_option maxRecDepth 20000
set_option linter.unusedSimpArgs false
def rulesM : List (Value × AV) := [(.int .i32 8205, .fn 119 [] []), (.int .i32 8204, .fn 120 [] []), (.int .i32 183, .fn 121 [] []), (.int .i32 885, .fn 122 [] []), (.int .i32 1523, .fn 123 [] []), (.int .i32 1524, .fn 123 [] []), (.int .i32 12539, .fn 124 [] [])]
theorem rulesM_fit : (∀ e ∈ rulesM, fitsK C1 21 e.1 = true) = True := by
  simp only [eq_iff_iff, iff_true]
  intro e he
  simp only [rulesM, List.mem_cons, List.not_mem_nil, or_false] at he
  rcases he with rfl | rfl | rfl | rfl | rfl | rfl | rfl <;> rfl
theorem rules_spec : Spec Tryz.prog 97 [] (.mp rulesM) := by
  refine spec_mk (z := true) (ts := [.tmp 0]) ok1 Tryz.func97 rfl rfl (by decide +kernel) (by simp [Tryz.ntmps97]) rfl ?_
  repeat' first | simp (maxSteps := 4000000) (disch := omega) only [bunL, bunD, bun, ↓WG_true, ↓WG_false, labelOf, findLabel, ↓reduceIte, imp, shift, killO, cond_true, cond_false, hasId, ne_eq, unown, names, plainR, below, noF, isF, lendObs, lendOb, kindOk, ren, givL, updM, backO, renO, belowM, seval, -Int.reduceToNat, mput, eqK, eq1, List.forall_mem_cons, List.not_mem_nil, false_implies, implies_true, D115, bunN, tab, tabC, spotC, nth_drop, nth_i32, rulesM_fit] | refine DR_q _ ?_ | (refine Fk.fk ?_ ?_ <;> intro hg <;> (try simp only [hg]) <;> (try simp only [bunB, ne_eq, arA, arB] at hg) <;> try (exfalso; first | omega | exact Bool.noConfusion hg | exact hg trivial)) | refine And.intro (by omega) ?_ | omega
  rfl
def ruleM : Rl → AV
  | .no => .v .nilFunc
  | .a => .fn 93 [] []
  | .b => .fn 96 [] []
  | .de => .fn 119 [] []
  | .bo => .fn 120 [] []
  | .be => .fn 121 [] []
  | .gr => .fn 122 [] []
  | .he => .fn 123 [] []
  | .as => .fn 124 [] []
def ruleV (r : Int) : AV := ruleM (rl r)
theorem rget_no {r : Int} (h1 : r ≠ 8205) (h2 : r ≠ 8204) (h3 : r ≠ 183) (h4 : r ≠ 885) (h5 : r ≠ 1523) (h6 : r ≠ 1524) (h7 : r ≠ 12539) : mget (.int .i32 r) rulesM = none := by
  have e1 := beq_eq_false_iff_ne.2 h1
  have e2 := beq_eq_false_iff_ne.2 h2
  have e3 := beq_eq_false_iff_ne.2 h3
  have e4 := beq_eq_false_iff_ne.2 h4
  have e5 := beq_eq_false_iff_ne.2 h5
  have e6 := beq_eq_false_iff_ne.2 h6
  have e7 := beq_eq_false_iff_ne.2 h7
  simp only [rulesM, mget, eqK, eq1, e1, e2, e3, e4, e5, e6, e7]
theorem rule_spec (r : Int) : Spec Tryz.prog 67 [I32 r] (ruleV r) := by
  refine spec_mk (z := false) (ts := [.tmp 2]) ok1 Tryz.func67 rfl rfl (by decide +kernel) (by simp [Tryz.ntmps67]) rfl ?_
  rcases rl_cases r with ⟨h, hr⟩ | ⟨h, h', hr⟩ | ⟨rfl, hr⟩ | ⟨rfl, hr⟩ | ⟨rfl, hr⟩ | ⟨rfl, hr⟩ | ⟨rfl, hr⟩ | ⟨rfl, hr⟩ | ⟨rfl, hr⟩ | ⟨⟨h, h', h1, h2, h3, h4, h5, h6, h7⟩, hr⟩
  · have hv : ruleV r = .fn 93 [] [] := by unfold ruleV; rw [hr]; rfl
    rw [hv]
    repeat' first | refine WE_fit (one_spec _) ?_ ?_ | refine WE_fit (two_spec _) ?_ ?_ | refine WE_fit (rules_spec) ?_ ?_ | simp (maxSteps := 4000000) (disch := omega) only [bunL, bunD, bun, ↓WG_true, ↓WG_false, labelOf, findLabel, ↓reduceIte, imp, shift, killO, cond_true, cond_false, hasId, ne_eq, unown, names, plainR, below, noF, isF, lendObs, lendOb, kindOk, ren, givL, updM, backO, renO, belowM, seval, -Int.reduceToNat, h, B4, D115, bunN, tab, tabC, spotC, nth_drop, nth_i32, rulesM_fit] | exact NK_no _ | refine NK_cl _ _ ?_ | exact Cln.cl | refine clean_tup _ ?_ | refine cleans_cons _ _ ?_ ?_ | refine DR_q _ ?_ | (refine Fk.fk ?_ ?_ <;> intro hg <;> (try simp only [hg]) <;> (try simp only [bunB, ne_eq, arA, arB] at hg) <;> try (exfalso; first | omega | exact Bool.noConfusion hg | exact hg trivial)) | refine And.intro (by omega) ?_ | omega
  · have hv : ruleV r = .fn 96 [] [] := by unfold ruleV; rw [hr]; rfl
    rw [hv]
    repeat' first | refine WE_fit (one_spec _) ?_ ?_ | refine WE_fit (two_spec _) ?_ ?_ | refine WE_fit (rules_spec) ?_ ?_ | simp (maxSteps := 4000000) (disch := omega) only [bunL, bunD, bun, ↓WG_true, ↓WG_false, labelOf, findLabel, ↓reduceIte, imp, shift, killO, cond_true, cond_false, hasId, ne_eq, unown, names, plainR, below, noF, isF, lendObs, lendOb, kindOk, ren, givL, updM, backO, renO, belowM, seval, -Int.reduceToNat, h, h', B4, D115, bunN, tab, tabC, spotC, nth_drop, nth_i32, rulesM_fit] | exact NK_no _ | refine NK_cl _ _ ?_ | exact Cln.cl | refine clean_tup _ ?_ | refine cleans_cons _ _ ?_ ?_ | refine DR_q _ ?_ | (refine Fk.fk ?_ ?_ <;> intro hg <;> (try simp only [hg]) <;> (try simp only [bunB, ne_eq, arA, arB] at hg) <;> try (exfalso; first | omega | exact Bool.noConfusion hg | exact hg trivial)) | refine And.intro (by omega) ?_ | omega
  · have h : arA 8205 = false := by decide
    have h' : arB 8205 = false := by decide
    have hm : mget (.int .i32 8205) rulesM = some (.fn 119 [] []) := rfl
    have hv : ruleV 8205 = .fn 119 [] [] := by unfold ruleV; rw [hr]; rfl
    rw [hv]
    repeat' first | refine WE_fit (one_spec _) ?_ ?_ | refine WE_fit (two_spec _) ?_ ?_ | refine WE_fit (rules_spec) ?_ ?_ | simp (maxSteps := 4000000) (disch := omega) only [bunL, bunD, bun, ↓WG_true, ↓WG_false, labelOf, findLabel, ↓reduceIte, imp, shift, killO, cond_true, cond_false, hasId, ne_eq, unown, names, plainR, below, noF, isF, lendObs, lendOb, kindOk, ren, givL, updM, backO, renO, belowM, seval, -Int.reduceToNat, h, h', hm, B4, D115, bunN, tab, tabC, spotC, nth_drop, nth_i32, rulesM_fit] | exact NK_no _ | refine NK_cl _ _ ?_ | exact Cln.cl | refine clean_tup _ ?_ | refine cleans_cons _ _ ?_ ?_ | refine DR_q _ ?_ | (refine Fk.fk ?_ ?_ <;> intro hg <;> (try simp only [hg]) <;> (try simp only [bunB, ne_eq, arA, arB] at hg) <;> try (exfalso; first | omega | exact Bool.noConfusion hg | exact hg trivial)) | refine And.intro (by omega) ?_ | omega
  · have h : arA 8204 = false := by decide
    have h' : arB 8204 = false := by decide
    have hm : mget (.int .i32 8204) rulesM = some (.fn 120 [] []) := rfl
    have hv : ruleV 8204 = .fn 120 [] [] := by unfold ruleV; rw [hr]; rfl
    rw [hv]
    repeat' first | refine WE_fit (one_spec _) ?_ ?_ | refine WE_fit (two_spec _) ?_ ?_ | refine WE_fit (rules_spec) ?_ ?_ | simp (maxSteps := 4000000) (disch := omega) only [bunL, bunD, bun, ↓WG_true, ↓WG_false, labelOf, findLabel, ↓reduceIte, imp, shift, killO, cond_true, cond_false, hasId, ne_eq, unown, names, plainR, below, noF, isF, lendObs, lendOb, kindOk, ren, givL, updM, backO, renO, belowM, seval, -Int.reduceToNat, h, h', hm, B4, D115, bunN, tab, tabC, spotC, nth_drop, nth_i32, rulesM_fit] | exact NK_no _ | refine NK_cl _ _ ?_ | exact Cln.cl | refine clean_tup _ ?_ | refine cleans_cons _ _ ?_ ?_ | refine DR_q _ ?_ | (refine Fk.fk ?_ ?_ <;> intro hg <;> (try simp only [hg]) <;> (try simp only [bunB, ne_eq, arA, arB] at hg) <;> try (exfalso; first | omega | exact Bool.noConfusion hg | exact hg trivial)) | refine And.intro (by omega) ?_ | omega
  · have h : arA 183 = false := by decide
    have h' : arB 183 = false := by decide
    have hm : mget (.int .i32 183) rulesM = some (.fn 121 [] []) := rfl
    have hv : ruleV 183 = .fn 121 [] [] := by unfold ruleV; rw [hr]; rfl
    rw [hv]
    repeat' first | refine WE_fit (one_spec _) ?_ ?_ | refine WE_fit (two_spec _) ?_ ?_ | refine WE_fit (rules_spec) ?_ ?_ | simp (maxSteps := 4000000) (disch := omega) only [bunL, bunD, bun, ↓WG_true, ↓WG_false, labelOf, findLabel, ↓reduceIte, imp, shift, killO, cond_true, cond_false, hasId, ne_eq, unown, names, plainR, below, noF, isF, lendObs, lendOb, kindOk, ren, givL, updM, backO, renO, belowM, seval, -Int.reduceToNat, h, h', hm, B4, D115, bunN, tab, tabC, spotC, nth_drop, nth_i32, rulesM_fit] | exact NK_no _ | refine NK_cl _ _ ?_ | exact Cln.cl | refine clean_tup _ ?_ | refine cleans_cons _ _ ?_ ?_ | refine DR_q _ ?_ | (refine Fk.fk ?_ ?_ <;> intro hg <;> (try simp only [hg]) <;> (try simp only [bunB, ne_eq, arA, arB] at hg) <;> try (exfalso; first | omega | exact Bool.noConfusion hg | exact hg trivial)) | refine And.intro (by omega) ?_ | omega
  · have h : arA 885 = false := by decide
    have h' : arB 885 = false := by decide
    have hm : mget (.int .i32 885) rulesM = some (.fn 122 [] []) := rfl
    have hv : ruleV 885 = .fn 122 [] [] := by unfold ruleV; rw [hr]; rfl
    rw [hv]
    repeat' first | refine WE_fit (one_spec _) ?_ ?_ | refine WE_fit (two_spec _) ?_ ?_ | refine WE_fit (rules_spec) ?_ ?_ | simp (maxSteps := 4000000) (disch := omega) only [bunL, bunD, bun, ↓WG_true, ↓WG_false, labelOf, findLabel, ↓reduceIte, imp, shift, killO, cond_true, cond_false, hasId, ne_eq, unown, names, plainR, below, noF, isF, lendObs, lendOb, kindOk, ren, givL, updM, backO, renO, belowM, seval, -Int.reduceToNat, h, h', hm, B4, D115, bunN, tab, tabC, spotC, nth_drop, nth_i32, rulesM_fit] | exact NK_no _ | refine NK_cl _ _ ?_ | exact Cln.cl | refine clean_tup _ ?_ | refine cleans_cons _ _ ?_ ?_ | refine DR_q _ ?_ | (refine Fk.fk ?_ ?_ <;> intro hg <;> (try simp only [hg]) <;> (try simp only [bunB, ne_eq, arA, arB] at hg) <;> try (exfalso; first | omega | exact Bool.noConfusion hg | exact hg trivial)) | refine And.intro (by omega) ?_ | omega
  · have h : arA 1523 = false := by decide
    have h' : arB 1523 = false := by decide
    have hm : mget (.int .i32 1523) rulesM = some (.fn 123 [] []) := rfl
    have hv : ruleV 1523 = .fn 123 [] [] := by unfold ruleV; rw [hr]; rfl
    rw [hv]
    repeat' first | refine WE_fit (one_spec _) ?_ ?_ | refine WE_fit (two_spec _) ?_ ?_ | refine WE_fit (rules_spec) ?_ ?_ | simp (maxSteps := 4000000) (disch := omega) only [bunL, bunD, bun, ↓WG_true, ↓WG_false, labelOf, findLabel, ↓reduceIte, imp, shift, killO, cond_true, cond_false, hasId, ne_eq, unown, names, plainR, below, noF, isF, lendObs, lendOb, kindOk, ren, givL, updM, backO, renO, belowM, seval, -Int.reduceToNat, h, h', hm, B4, D115, bunN, tab, tabC, spotC, nth_drop, nth_i32, rulesM_fit] | exact NK_no _ | refine NK_cl _ _ ?_ | exact Cln.cl | refine clean_tup _ ?_ | refine cleans_cons _ _ ?_ ?_ | refine DR_q _ ?_ | (refine Fk.fk ?_ ?_ <;> intro hg <;> (try simp only [hg]) <;> (try simp only [bunB, ne_eq, arA, arB] at hg) <;> try (exfalso; first | omega | exact Bool.noConfusion hg | exact hg trivial)) | refine And.intro (by omega) ?_ | omega
  · have h : arA 1524 = false := by decide
    have h' : arB 1524 = false := by decide
    have hm : mget (.int .i32 1524) rulesM = some (.fn 123 [] []) := rfl
    have hv : ruleV 1524 = .fn 123 [] [] := by unfold ruleV; rw [hr]; rfl
    rw [hv]
    repeat' first | refine WE_fit (one_spec _) ?_ ?_ | refine WE_fit (two_spec _) ?_ ?_ | refine WE_fit (rules_spec) ?_ ?_ | simp (maxSteps := 4000000) (disch := omega) only [bunL, bunD, bun, ↓WG_true, ↓WG_false, labelOf, findLabel, ↓reduceIte, imp, shift, killO, cond_true, cond_false, hasId, ne_eq, unown, names, plainR, below, noF, isF, lendObs, lendOb, kindOk, ren, givL, updM, backO, renO, belowM, seval, -Int.reduceToNat, h, h', hm, B4, D115, bunN, tab, tabC, spotC, nth_drop, nth_i32, rulesM_fit] | exact NK_no _ | refine NK_cl _ _ ?_ | exact Cln.cl | refine clean_tup _ ?_ | refine cleans_cons _ _ ?_ ?_ | refine DR_q _ ?_ | (refine Fk.fk ?_ ?_ <;> intro hg <;> (try simp only [hg]) <;> (try simp only [bunB, ne_eq, arA, arB] at hg) <;> try (exfalso; first | omega | exact Bool.noConfusion hg | exact hg trivial)) | refine And.intro (by omega) ?_ | omega
  · have h : arA 12539 = false := by decide
    have h' : arB 12539 = false := by decide
    have hm : mget (.int .i32 12539) rulesM = some (.fn 124 [] []) := rfl
    have hv : ruleV 12539 = .fn 124 [] [] := by unfold ruleV; rw [hr]; rfl
    rw [hv]
    repeat' first | refine WE_fit (one_spec _) ?_ ?_ | refine WE_fit (two_spec _) ?_ ?_ | refine WE_fit (rules_spec) ?_ ?_ | simp (maxSteps := 4000000) (disch := omega) only [bunL, bunD, bun, ↓WG_true, ↓WG_false, labelOf, findLabel, ↓reduceIte, imp, shift, killO, cond_true, cond_false, hasId, ne_eq, unown, names, plainR, below, noF, isF, lendObs, lendOb, kindOk, ren, givL, updM, backO, renO, belowM, seval, -Int.reduceToNat, h, h', hm, B4, D115, bunN, tab, tabC, spotC, nth_drop, nth_i32, rulesM_fit] | exact NK_no _ | refine NK_cl _ _ ?_ | exact Cln.cl | refine clean_tup _ ?_ | refine cleans_cons _ _ ?_ ?_ | refine DR_q _ ?_ | (refine Fk.fk ?_ ?_ <;> intro hg <;> (try simp only [hg]) <;> (try simp only [bunB, ne_eq, arA, arB] at hg) <;> try (exfalso; first | omega | exact Bool.noConfusion hg | exact hg trivial)) | refine And.intro (by omega) ?_ | omega
  · have hm := rget_no h1 h2 h3 h4 h5 h6 h7
    have hv : ruleV r = .v .nilFunc := by unfold ruleV; rw [hr]; rfl
    rw [hv]
    repeat' first | refine WE_fit (one_spec _) ?_ ?_ | refine WE_fit (two_spec _) ?_ ?_ | refine WE_fit (rules_spec) ?_ ?_ | simp (maxSteps := 4000000) (disch := omega) only [bunL, bunD, bun, ↓WG_true, ↓WG_false, labelOf, findLabel, ↓reduceIte, imp, shift, killO, cond_true, cond_false, hasId, ne_eq, unown, names, plainR, below, noF, isF, lendObs, lendOb, kindOk, ren, givL, updM, backO, renO, belowM, seval, -Int.reduceToNat, h, h', hm, B4, D115, bunN, tab, tabC, spotC, nth_drop, nth_i32, rulesM_fit] | exact NK_no _ | refine NK_cl _ _ ?_ | exact Cln.cl | refine clean_tup _ ?_ | refine cleans_cons _ _ ?_ ?_ | refine DR_q _ ?_ | (refine Fk.fk ?_ ?_ <;> intro hg <;> (try simp only [hg]) <;> (try simp only [bunB, ne_eq, arA, arB] at hg) <;> try (exfalso; first | omega | exact Bool.noConfusion hg | exact hg trivial)) | refine And.intro (by omega) ?_ | omega
theorem need_spec (L : List Int) (hL : L.length ≤ 1000) (hb : ∀ c ∈ L, inI c) (k : Int) (h0 : -9223372036854775808 ≤ k) (h1 : k ≤ 9223372036854775807) : Spec Tryz.prog 28 [tab, .sl L.length (L.map I32), I64 k] (I64 (need L k)) := by
  refine spec_mk (z := false) (ts := [.tmp 6]) ok1 Tryz.func28 rfl rfl (by decide +kernel) (by simp [Tryz.ntmps28]) rfl ?_
  by_cases hk : 0 ≤ k ∧ k < L.length
  · obtain ⟨q, rfl⟩ : ∃ q : Nat, k = q := ⟨k.toNat, by omega⟩
    have hq : q < L.length := by omega
    cases hr : rl (L.getD q 0)
    all_goals
      have hv : ruleV (L.getD q 0) = ruleM (rl (L.getD q 0)) := rfl
      rw [hr] at hv
      simp only [ruleM] at hv
      have hn : need L q = needN L q := need_in hq
      unfold needN at hn
      rw [hr] at hn
      repeat' first | refine WE_fit (rule_spec _) ?_ ?_ | refine WE_fit (rule1_spec L hL _) ?_ ?_ | refine WE_fit (rule2_spec L hL _) ?_ ?_ | refine WE_fit (dead_spec L hL hb q hq) ?_ ?_ | refine WE_fit (bound_spec L hL hb q hq) ?_ ?_ | refine WE_fit (between_spec L hL q hq) ?_ ?_ | refine WE_fit (greek_spec L hL q hq) ?_ ?_ | refine WE_fit (hebrew_spec L hL q hq) ?_ ?_ | refine WE_fit (asian_spec L hL q hq) ?_ ?_ | simp (maxSteps := 4000000) (disch := omega) only [bunL, bunD, bun, ↓WG_true, ↓WG_false, labelOf, findLabel, ↓reduceIte, imp, shift, killO, cond_true, cond_false, hasId, ne_eq, unown, names, plainR, below, noF, isF, lendObs, lendOb, kindOk, ren, givL, updM, backO, renO, belowM, seval, -Int.reduceToNat, hv, B90, D93, bunN, tab, tabC, spotC, nth_drop, nth_i32, rulesM_fit] | exact NK_no _ | refine NK_cl _ _ ?_ | exact Cln.cl | refine clean_tup _ ?_ | refine cleans_cons _ _ ?_ ?_ | refine DR_q _ ?_ | (refine Fk.fk ?_ ?_ <;> intro hg <;> (try simp only [hg]) <;> (try simp only [bunB, ne_eq, arA, arB] at hg) <;> try (exfalso; first | omega | exact Bool.noConfusion hg | exact hg trivial)) | refine And.intro (by omega) ?_ | omega
      all_goals (rw [hn]; simp_all [mets])
  · repeat' first | simp (maxSteps := 4000000) (disch := omega) only [bunL, bunD, bun, ↓WG_true, ↓WG_false, labelOf, findLabel, ↓reduceIte, imp, shift, killO, cond_true, cond_false, hasId, ne_eq, unown, names, plainR, below, noF, isF, lendObs, lendOb, kindOk, ren, givL, updM, backO, renO, belowM, seval, -Int.reduceToNat, B90, D93, bunN, tab, tabC, spotC, nth_drop, nth_i32, rulesM_fit] | refine DR_q _ ?_ | (refine Fk.fk ?_ ?_ <;> intro hg <;> (try simp only [hg]) <;> (try simp only [bunB, ne_eq, arA, arB] at hg) <;> try (exfalso; first | omega | exact Bool.noConfusion hg | exact hg trivial)) | refine And.intro (by omega) ?_ | omega
    all_goals (rw [need_out (by omega)])
end Go.AE
end
section
/- Chapter 7: the document's own answers. -/
namespace Go.AE
open Go.Proofs
set_option maxRecDepth 20000
set_option linter.unusedSimpArgs false
theorem beside_spec (L : List Int) (hL : L.length ≤ 1000) (k : Int) : Spec Tryz.prog 99 [.sl L.length (L.map I32), I64 k] (I32 (bn L k 0)) := by
  refine spec_mk (z := false) (ts := [.tmp 4]) ok1 Tryz.func99 rfl rfl (by decide +kernel) (by simp [Tryz.ntmps99]) rfl ?_
  repeat' first | simp (maxSteps := 4000000) (disch := omega) only [bunL, bunD, bun, ↓WG_true, ↓WG_false, labelOf, findLabel, ↓reduceIte, imp, shift, killO, cond_true, cond_false, hasId, ne_eq, unown, names, plainR, below, noF, isF, lendObs, lendOb, kindOk, ren, givL, updM, backO, renO, belowM, seval, -Int.reduceToNat, B3, B4, B21, B53, bunN, tab, tabC, nth_drop, nth_i32] | refine DR_q _ ?_ | (refine Fk.fk ?_ ?_ <;> intro hg <;> (try simp only [hg]) <;> (try simp only [bunB, ne_eq, arA, arB] at hg) <;> try (exfalso; first | omega | exact Bool.noConfusion hg | exact hg trivial)) | refine And.intro (by omega) ?_ | omega
  · rw [bn_lt _ (by omega)]
  · rw [bn_ge _ (by omega)]
  · unfold bn; rw [if_pos (by omega)]
theorem rneeds_spec (r : Int) : Spec Tryz.prog 68 [I32 r] (Bv (needsB r)) := by
  refine spec_mk (z := false) (ts := [.tmp 2]) ok1 Tryz.func68 rfl rfl (by decide +kernel) (by simp [Tryz.ntmps68]) rfl ?_
  rcases rl_cases r with ⟨h, hr⟩ | ⟨h, h', hr⟩ | ⟨rfl, hr⟩ | ⟨rfl, hr⟩ | ⟨rfl, hr⟩ | ⟨rfl, hr⟩ | ⟨rfl, hr⟩ | ⟨rfl, hr⟩ | ⟨rfl, hr⟩ | ⟨⟨h, h', h1, h2, h3, h4, h5, h6, h7⟩, hr⟩
  all_goals
    try simp only [arA, Bool.and_eq_true, Bool.and_eq_false_iff, decide_eq_true_eq, decide_eq_false_iff_not] at h
    try simp only [arB, Bool.and_eq_true, Bool.and_eq_false_iff, decide_eq_true_eq, decide_eq_false_iff_not] at h'
    repeat' first | simp (maxSteps := 4000000) (disch := omega) only [bunL, bunD, bun, ↓WG_true, ↓WG_false, labelOf, findLabel, ↓reduceIte, imp, shift, killO, cond_true, cond_false, hasId, ne_eq, unown, names, plainR, below, noF, isF, lendObs, lendOb, kindOk, ren, givL, updM, backO, renO, belowM, seval, -Int.reduceToNat, B4, B21, bunN, tab, tabC, nth_drop, nth_i32] | refine DR_q _ ?_ | (refine Fk.fk ?_ ?_ <;> intro hg <;> (try simp only [hg]) <;> (try simp only [bunB, ne_eq, arA, arB] at hg) <;> try (exfalso; first | omega | exact Bool.noConfusion hg | exact hg trivial)) | refine And.intro (by omega) ?_ | omega
    all_goals (unfold needsB; rw [hr]; first | rfl | (congr 2; first | rfl | (rw [Bool.eq_iff_iff]; simp; omega) | (simp; omega)))
def pLH (lo hi r : Int) : Bool := decide (lo ≤ r) && decide (r ≤ hi)
theorem some_spec (L : List Int) (hL : L.length ≤ 1000) (lo hi : Int) : Spec Tryz.prog 103 [.sl L.length (L.map I32), I32 lo, I32 hi] (Bv (L.any (pLH lo hi))) := by
  refine spec_mk (z := false) (ts := [.tmp 6]) ok1 Tryz.func103 rfl rfl (by decide +kernel) (by simp [Tryz.ntmps103]) rfl ?_
  repeat' first | simp (maxSteps := 4000000) (disch := omega) only [bunL, bunD, bun, ↓WG_true, ↓WG_false, labelOf, findLabel, ↓reduceIte, imp, shift, killO, cond_true, cond_false, hasId, ne_eq, unown, names, plainR, below, noF, isF, lendObs, lendOb, kindOk, ren, givL, updM, backO, renO, belowM, seval, -Int.reduceToNat, B3, B4, B21, B53, bunN, tab, tabC, nth_drop, nth_i32] | refine DR_q _ ?_ | (refine Fk.fk ?_ ?_ <;> intro hg <;> (try simp only [hg]) <;> (try simp only [bunB, ne_eq, arA, arB] at hg) <;> try (exfalso; first | omega | exact Bool.noConfusion hg | exact hg trivial)) | refine And.intro (by omega) ?_ | omega
  refine LP_intro (fun i : Nat => ⟨[(0, .sl L.length (L.map I32)), (1, I32 lo), (2, I32 hi), (7, I64 i)], []⟩) (fun i => i ≤ L.length ∧ ∀ j, j < i → pLH lo hi (L.getD j 0) = false) (fun i => L.length - i) 0 (by simp) (by (simp (disch := omega) [wk, wkT, wkM, noF, isF, get, belowT, belowM, below, belows, I64, I32, Bv, U8, Sv, pLH] <;> try omega)) ?_
  intro i ⟨hi', hno⟩
  repeat' first | simp (maxSteps := 4000000) (disch := omega) only [bunL, bunD, bun, ↓WG_true, ↓WG_false, labelOf, findLabel, ↓reduceIte, imp, shift, killO, cond_true, cond_false, hasId, ne_eq, unown, names, plainR, below, noF, isF, lendObs, lendOb, kindOk, ren, givL, updM, backO, renO, belowM, seval, -Int.reduceToNat, B3, B4, B21, B53, bunN, tab, tabC, nth_drop, nth_i32] | refine DR_q _ ?_ | (refine Fk.fk ?_ ?_ <;> intro hg <;> (try simp only [hg]) <;> (try simp only [bunB, ne_eq, arA, arB] at hg) <;> try (exfalso; first | omega | exact Bool.noConfusion hg | exact hg trivial)) | refine And.intro (by omega) ?_ | omega
  · rw [any_at (i := i) (by omega) (by simp only [pLH, Bool.and_eq_true, decide_eq_true_eq]; omega)]
  · refine ⟨i + 1, ⟨by omega, upto_succ hno ?_⟩, by omega, by (simp (disch := omega) [wk, wkT, wkM, noF, isF, get, belowT, belowM, below, belows, I64, I32, Bv, U8, Sv, pLH] <;> try omega)⟩
    simp only [pLH, Bool.and_eq_false_iff, decide_eq_false_iff_not]; omega
  · refine ⟨i + 1, ⟨by omega, upto_succ hno ?_⟩, by omega, by (simp (disch := omega) [wk, wkT, wkM, noF, isF, get, belowT, belowM, below, belows, I64, I32, Bv, U8, Sv, pLH] <;> try omega)⟩
    simp only [pLH, Bool.and_eq_false_iff, decide_eq_false_iff_not]; omega
  · rw [any_no hno (by omega)]
theorem rasian_spec (L : List Int) (hL : L.length ≤ 1000) : Spec Tryz.prog 102 [.sl L.length (L.map I32)] (Bv (L.any asn)) := by
  refine spec_mk (z := false) (ts := [.tmp 2]) ok1 Tryz.func102 rfl rfl (by decide +kernel) (by simp [Tryz.ntmps102]) rfl ?_
  repeat' first | simp (maxSteps := 4000000) (disch := omega) only [bunL, bunD, bun, ↓WG_true, ↓WG_false, labelOf, findLabel, ↓reduceIte, imp, shift, killO, cond_true, cond_false, hasId, ne_eq, unown, names, plainR, below, noF, isF, lendObs, lendOb, kindOk, ren, givL, updM, backO, renO, belowM, seval, -Int.reduceToNat, B3, B4, B21, B53, bunN, tab, tabC, nth_drop, nth_i32] | refine DR_q _ ?_ | (refine Fk.fk ?_ ?_ <;> intro hg <;> (try simp only [hg]) <;> (try simp only [bunB, ne_eq, arA, arB] at hg) <;> try (exfalso; first | omega | exact Bool.noConfusion hg | exact hg trivial)) | refine And.intro (by omega) ?_ | omega
  refine LP_intro (fun i : Nat => ⟨[(0, .sl L.length (L.map I32)), (3, I64 i)], []⟩) (fun i => i ≤ L.length ∧ ∀ j, j < i → asn (L.getD j 0) = false) (fun i => L.length - i) 0 (by simp) (by (simp (disch := omega) [wk, wkT, wkM, noF, isF, get, belowT, belowM, below, belows, I64, I32, Bv, U8, Sv, asn] <;> try omega)) ?_
  intro i ⟨hi, hno⟩
  repeat' first | refine WE_fit (rscript_spec _) ?_ ?_ | simp (maxSteps := 4000000) (disch := omega) only [bunL, bunD, bun, ↓WG_true, ↓WG_false, labelOf, findLabel, ↓reduceIte, imp, shift, killO, cond_true, cond_false, hasId, ne_eq, unown, names, plainR, below, noF, isF, lendObs, lendOb, kindOk, ren, givL, updM, backO, renO, belowM, seval, -Int.reduceToNat, B3, B4, B21, B53, bunN, tab, tabC, nth_drop, nth_i32] | exact NK_no _ | refine NK_cl _ _ ?_ | exact Cln.cl | refine clean_tup _ ?_ | refine cleans_cons _ _ ?_ ?_ | refine DR_q _ ?_ | (refine Fk.fk ?_ ?_ <;> intro hg <;> (try simp only [hg]) <;> (try simp only [bunB, ne_eq, arA, arB] at hg) <;> try (exfalso; first | omega | exact Bool.noConfusion hg | exact hg trivial)) | refine And.intro (by omega) ?_ | omega
  · rw [any_at (i := i) (by omega) (by unfold asn; simp_all)]
  · rw [any_at (i := i) (by omega) (by unfold asn; simp_all)]
  · exact ⟨i + 1, ⟨by omega, upto_succ hno (by unfold asn; simp_all)⟩, by omega, by (simp (disch := omega) [wk, wkT, wkM, noF, isF, get, belowT, belowM, below, belows, I64, I32, Bv, U8, Sv, asn] <;> try omega)⟩
  · rw [any_no hno (by omega)]
theorem joined_spec (L : List Int) (hL : L.length ≤ 1000) (k : Nat) (hk : k < L.length) : Spec Tryz.prog 100 [.sl L.length (L.map I32), I64 k] (Bv ((jb L k == 1) && ((jl (L.drop (k + 1)) == 1) || (jl (L.drop (k + 1)) == 2)))) := by
  refine spec_mk (z := false) (ts := [.tmp 4]) ok1 Tryz.func100 rfl rfl (by decide +kernel) (by simp [Tryz.ntmps100]) rfl ?_
  repeat' first | simp (maxSteps := 4000000) (disch := omega) only [bunL, bunD, bun, ↓WG_true, ↓WG_false, labelOf, findLabel, ↓reduceIte, imp, shift, killO, cond_true, cond_false, hasId, ne_eq, unown, names, plainR, below, noF, isF, lendObs, lendOb, kindOk, ren, givL, updM, backO, renO, belowM, seval, -Int.reduceToNat, B3, B4, B21, B53, bunN, tab, tabC, nth_drop, nth_i32] | refine DR_q _ ?_ | (refine Fk.fk ?_ ?_ <;> intro hg <;> (try simp only [hg]) <;> (try simp only [bunB, ne_eq, arA, arB] at hg) <;> try (exfalso; first | omega | exact Bool.noConfusion hg | exact hg trivial)) | refine And.intro (by omega) ?_ | omega
  refine LP_intro (fun i : Nat => ⟨[(0, .sl L.length (L.map I32)), (1, I64 k), (5, I64 (k - 1 - i))], []⟩) (fun i => i ≤ k ∧ jb L k = jb L (k - i)) (fun i => L.length - i) 0 ⟨by omega, rfl⟩ (by (simp (disch := omega) [wk, wkT, wkM, noF, isF, get, belowT, belowM, below, belows, I64, I32, Bv, U8, Sv, asn] <;> try omega)) ?_
  intro i ⟨hi, he⟩
  have g2 : ∀ j : Nat, ((k : Int) + 1 + j).toNat = k + 1 + j := fun j => by omega
  repeat' first | refine WE_fit (rjoin1_spec _) ?_ ?_ | simp (maxSteps := 4000000) (disch := omega) only [bunL, bunD, bun, ↓WG_true, ↓WG_false, labelOf, findLabel, ↓reduceIte, imp, shift, killO, cond_true, cond_false, hasId, ne_eq, unown, names, plainR, below, noF, isF, lendObs, lendOb, kindOk, ren, givL, updM, backO, renO, belowM, seval, -Int.reduceToNat, B3, B4, B21, B53, bunN, tab, tabC, nth_drop, nth_i32] | exact NK_no _ | refine NK_cl _ _ ?_ | exact Cln.cl | refine clean_tup _ ?_ | refine cleans_cons _ _ ?_ ?_ | refine DR_q _ ?_ | (refine Fk.fk ?_ ?_ <;> intro hg <;> (try simp only [hg]) <;> (try simp only [bunB, ne_eq, arA, arB] at hg) <;> try (exfalso; first | omega | exact Bool.noConfusion hg | exact hg trivial)) | refine And.intro (by omega) ?_ | omega
  · refine ⟨i + 1, ⟨by omega, ?_⟩, by omega, by (simp (disch := omega) [wk, wkT, wkM, noF, isF, get, belowT, belowM, below, belows, I64, I32, Bv, U8, Sv, asn] <;> try omega)⟩
    rw [he, jb_skip' (by omega) (by rw [show k - i - 1 = ((k : Int) - 1 - i).toNat by omega]; assumption)]; rfl
  · have hj : jb L k = join (L.getD ((k : Int) - 1 - i).toNat 0) := by
      rw [he, jb_stop' (by omega) (by rw [show k - i - 1 = ((k : Int) - 1 - i).toNat by omega]; assumption), show k - i - 1 = ((k : Int) - 1 - i).toNat by omega]
    refine LP_intro (fun j : Nat => ⟨[(0, .sl L.length (L.map I32)), (5, I64 (k - 1 - i)), (6, I64 (k + 1 + j))], []⟩) (fun j => k + 1 + j ≤ L.length ∧ jl (L.drop (k + 1)) = jl (L.drop (k + 1 + j))) (fun j => L.length - j) 0 ⟨by omega, rfl⟩ (by (simp (disch := omega) [wk, wkT, wkM, noF, isF, get, belowT, belowM, below, belows, I64, I32, Bv, U8, Sv, asn] <;> try omega)) ?_
    intro j ⟨hjl, hje⟩
    repeat' first | refine WE_fit (rjoin1_spec _) ?_ ?_ | simp (maxSteps := 4000000) (disch := omega) only [bunL, bunD, bun, ↓WG_true, ↓WG_false, labelOf, findLabel, ↓reduceIte, imp, shift, killO, cond_true, cond_false, hasId, ne_eq, unown, names, plainR, below, noF, isF, lendObs, lendOb, kindOk, ren, givL, updM, backO, renO, belowM, seval, -Int.reduceToNat, g2, B3, B4, B21, B53, bunN, tab, tabC, nth_drop, nth_i32] | exact NK_no _ | refine NK_cl _ _ ?_ | exact Cln.cl | refine clean_tup _ ?_ | refine cleans_cons _ _ ?_ ?_ | refine DR_q _ ?_ | (refine Fk.fk ?_ ?_ <;> intro hg <;> (try simp only [hg]) <;> (try simp only [bunB, ne_eq, arA, arB] at hg) <;> try (exfalso; first | omega | exact Bool.noConfusion hg | exact hg trivial)) | refine And.intro (by omega) ?_ | omega
    · refine ⟨j + 1, ⟨by omega, ?_⟩, by omega, by (simp (disch := omega) [wk, wkT, wkM, noF, isF, get, belowT, belowM, below, belows, I64, I32, Bv, U8, Sv, asn] <;> try omega)⟩
      rw [hje, jl_skip (by omega) (by assumption)]; rfl
    all_goals (first
      | (have he2 := jl_stop (L := L) (k := k + 1 + j) (by omega) (by assumption); rw [hje, hj, he2]; simp_all; done)
      | (have he2 := jl_out (L := L) (k := k + 1 + j) (by omega); rw [hje, hj, he2]; simp_all; done))
  · have hj : jb L k = 0 := by rw [he, show k - i = 0 by omega]; rfl
    refine LP_intro (fun j : Nat => ⟨[(0, .sl L.length (L.map I32)), (5, I64 (k - 1 - i)), (6, I64 (k + 1 + j))], []⟩) (fun j => k + 1 + j ≤ L.length ∧ jl (L.drop (k + 1)) = jl (L.drop (k + 1 + j))) (fun j => L.length - j) 0 ⟨by omega, rfl⟩ (by (simp (disch := omega) [wk, wkT, wkM, noF, isF, get, belowT, belowM, below, belows, I64, I32, Bv, U8, Sv, asn] <;> try omega)) ?_
    intro j ⟨hjl, hje⟩
    repeat' first | refine WE_fit (rjoin1_spec _) ?_ ?_ | simp (maxSteps := 4000000) (disch := omega) only [bunL, bunD, bun, ↓WG_true, ↓WG_false, labelOf, findLabel, ↓reduceIte, imp, shift, killO, cond_true, cond_false, hasId, ne_eq, unown, names, plainR, below, noF, isF, lendObs, lendOb, kindOk, ren, givL, updM, backO, renO, belowM, seval, -Int.reduceToNat, g2, B3, B4, B21, B53, bunN, tab, tabC, nth_drop, nth_i32] | exact NK_no _ | refine NK_cl _ _ ?_ | exact Cln.cl | refine clean_tup _ ?_ | refine cleans_cons _ _ ?_ ?_ | refine DR_q _ ?_ | (refine Fk.fk ?_ ?_ <;> intro hg <;> (try simp only [hg]) <;> (try simp only [bunB, ne_eq, arA, arB] at hg) <;> try (exfalso; first | omega | exact Bool.noConfusion hg | exact hg trivial)) | refine And.intro (by omega) ?_ | omega
    · refine ⟨j + 1, ⟨by omega, ?_⟩, by omega, by (simp (disch := omega) [wk, wkT, wkM, noF, isF, get, belowT, belowM, below, belows, I64, I32, Bv, U8, Sv, asn] <;> try omega)⟩
      rw [hje, jl_skip (by omega) (by assumption)]; rfl
    all_goals (rw [hj]; simp; done)
theorem dead_ref {L : List Int} {k : Nat} (hk : k < L.length) : deadB L k = (decide ((k : Int) > 0) && (cls (bn L (k - 1) 0) == 9)) := by
  unfold deadB
  by_cases h : k = 0
  · subst h; rw [bn_lt _ (by omega), cls_m1]; simp
  · rw [show (k : Int) - 1 = ((k - 1 : Nat) : Int) by omega, bn_in _ (by omega), bn_in _ (by omega)]
    simp; intro; omega
theorem bn_d {L : List Int} {k : Int} (f : Int → Bool) (h1 : f (-1) = false) (h2 : f 0 = false) : f (bn L k (-1)) = f (bn L k 0) := by
  unfold bn; split
  · rfl
  · rw [h1, h2]
set_option maxHeartbeats 1000000 in
theorem met_spec (L : List Int) (hL : L.length ≤ 1000) (hb : ∀ c ∈ L, inI c) (k : Nat) (hk : k < L.length) (hn : rl (L.getD k 0) ≠ .no) : Spec Tryz.prog 69 [.sl L.length (L.map I32), I64 k] (Bv (mets L k (rl (L.getD k 0)))) := by
  refine spec_mk (z := false) (ts := [.tmp 4]) ok1 Tryz.func69 rfl rfl (by decide +kernel) (by simp [Tryz.ntmps69]) rfl ?_
  have hbd := bn_bd hb (k - 1) 0 z_in
  have hd := dead_ref hk
  have hbe : betwB L k = ((bn L (k - 1) 0 == 108) && (bn L (k + 1) 0 == 108)) := by unfold betwB; rw [bn_d (f := fun c => c == 108) rfl rfl, bn_d (k := (k : Int) + 1) (f := fun c => c == 108) rfl rfl]
  have hgr : greekB L k = (script (bn L (k + 1) 0) == 2) := by unfold greekB; rw [bn_d (f := fun c => script c == 2) (by rw [scr_m1]; rfl) (by rw [scr_0]; rfl)]
  have hhe : hebB L k = (script (bn L (k - 1) 0) == 4) := by unfold hebB; rw [bn_d (f := fun c => script c == 4) (by rw [scr_m1]; rfl) (by rw [scr_0]; rfl)]
  rcases rl_cases (L.getD k 0) with ⟨h, hr⟩ | ⟨h, h', hr⟩ | ⟨h, hr⟩ | ⟨h, hr⟩ | ⟨h, hr⟩ | ⟨h, hr⟩ | ⟨h, hr⟩ | ⟨h, hr⟩ | ⟨h, hr⟩ | ⟨_, hr⟩
  · rw [hr]
    simp only [arA, Bool.and_eq_true, decide_eq_true_eq] at h
    repeat' first | refine WE_fit (beside_spec L hL _) ?_ ?_ | refine WE_fit (rclass_spec _ (by omega) (by omega)) ?_ ?_ | refine WE_fit (some_spec L hL _ _) ?_ ?_ | simp (maxSteps := 4000000) (disch := omega) only [bunL, bunD, bun, ↓WG_true, ↓WG_false, labelOf, findLabel, ↓reduceIte, imp, shift, killO, cond_true, cond_false, hasId, ne_eq, unown, names, plainR, below, noF, isF, lendObs, lendOb, kindOk, ren, givL, updM, backO, renO, belowM, seval, -Int.reduceToNat, B3, B4, B21, B53, bunN, tab, tabC, nth_drop, nth_i32] | exact NK_no _ | refine NK_cl _ _ ?_ | exact Cln.cl | refine clean_tup _ ?_ | refine cleans_cons _ _ ?_ ?_ | refine DR_q _ ?_ | (refine Fk.fk ?_ ?_ <;> intro hg <;> (try simp only [hg]) <;> (try simp only [bunB, ne_eq, arA, arB] at hg) <;> try (exfalso; first | omega | exact Bool.noConfusion hg | exact hg trivial)) | refine And.intro (by omega) ?_ | omega
    all_goals rfl
  · rw [hr]
    simp only [arB, Bool.and_eq_true, decide_eq_true_eq] at h'
    repeat' first | refine WE_fit (beside_spec L hL _) ?_ ?_ | refine WE_fit (rclass_spec _ (by omega) (by omega)) ?_ ?_ | refine WE_fit (some_spec L hL _ _) ?_ ?_ | simp (maxSteps := 4000000) (disch := omega) only [bunL, bunD, bun, ↓WG_true, ↓WG_false, labelOf, findLabel, ↓reduceIte, imp, shift, killO, cond_true, cond_false, hasId, ne_eq, unown, names, plainR, below, noF, isF, lendObs, lendOb, kindOk, ren, givL, updM, backO, renO, belowM, seval, -Int.reduceToNat, B3, B4, B21, B53, bunN, tab, tabC, nth_drop, nth_i32] | exact NK_no _ | refine NK_cl _ _ ?_ | exact Cln.cl | refine clean_tup _ ?_ | refine cleans_cons _ _ ?_ ?_ | refine DR_q _ ?_ | (refine Fk.fk ?_ ?_ <;> intro hg <;> (try simp only [hg]) <;> (try simp only [bunB, ne_eq, arA, arB] at hg) <;> try (exfalso; first | omega | exact Bool.noConfusion hg | exact hg trivial)) | refine And.intro (by omega) ?_ | omega
    all_goals rfl
  · rw [hr]
    repeat' first | refine WE_fit (beside_spec L hL _) ?_ ?_ | refine WE_fit (rclass_spec _ (by omega) (by omega)) ?_ ?_ | refine WE_fit (rscript_spec _) ?_ ?_ | refine WE_fit (some_spec L hL _ _) ?_ ?_ | refine WE_fit (joined_spec L hL k hk) ?_ ?_ | refine WE_fit (rasian_spec L hL) ?_ ?_ | simp (maxSteps := 4000000) (disch := omega) only [bunL, bunD, bun, ↓WG_true, ↓WG_false, labelOf, findLabel, ↓reduceIte, imp, shift, killO, cond_true, cond_false, hasId, ne_eq, unown, names, plainR, below, noF, isF, lendObs, lendOb, kindOk, ren, givL, updM, backO, renO, belowM, seval, -Int.reduceToNat, h, B3, B4, B21, B53, bunN, tab, tabC, nth_drop, nth_i32] | exact NK_no _ | refine NK_cl _ _ ?_ | exact Cln.cl | refine clean_tup _ ?_ | refine cleans_cons _ _ ?_ ?_ | refine DR_q _ ?_ | (refine Fk.fk ?_ ?_ <;> intro hg <;> (try simp only [hg]) <;> (try simp only [bunB, ne_eq, arA, arB] at hg) <;> try (exfalso; first | omega | exact Bool.noConfusion hg | exact hg trivial)) | refine And.intro (by omega) ?_ | omega
    all_goals try simp only [mets, boundB, hd, hbe, hgr, hhe]
    all_goals (first | rfl | (congr 2; simp_all; done))
  · rw [hr]
    repeat' first | refine WE_fit (beside_spec L hL _) ?_ ?_ | refine WE_fit (rclass_spec _ (by omega) (by omega)) ?_ ?_ | refine WE_fit (rscript_spec _) ?_ ?_ | refine WE_fit (some_spec L hL _ _) ?_ ?_ | refine WE_fit (joined_spec L hL k hk) ?_ ?_ | refine WE_fit (rasian_spec L hL) ?_ ?_ | simp (maxSteps := 4000000) (disch := omega) only [bunL, bunD, bun, ↓WG_true, ↓WG_false, labelOf, findLabel, ↓reduceIte, imp, shift, killO, cond_true, cond_false, hasId, ne_eq, unown, names, plainR, below, noF, isF, lendObs, lendOb, kindOk, ren, givL, updM, backO, renO, belowM, seval, -Int.reduceToNat, h, B3, B4, B21, B53, bunN, tab, tabC, nth_drop, nth_i32] | exact NK_no _ | refine NK_cl _ _ ?_ | exact Cln.cl | refine clean_tup _ ?_ | refine cleans_cons _ _ ?_ ?_ | refine DR_q _ ?_ | (refine Fk.fk ?_ ?_ <;> intro hg <;> (try simp only [hg]) <;> (try simp only [bunB, ne_eq, arA, arB] at hg) <;> try (exfalso; first | omega | exact Bool.noConfusion hg | exact hg trivial)) | refine And.intro (by omega) ?_ | omega
    all_goals try simp only [mets, boundB, hd, hbe, hgr, hhe]
    all_goals (first | rfl | (congr 2; simp_all; done))
  · rw [hr]
    repeat' first | refine WE_fit (beside_spec L hL _) ?_ ?_ | refine WE_fit (rclass_spec _ (by omega) (by omega)) ?_ ?_ | refine WE_fit (rscript_spec _) ?_ ?_ | refine WE_fit (some_spec L hL _ _) ?_ ?_ | refine WE_fit (joined_spec L hL k hk) ?_ ?_ | refine WE_fit (rasian_spec L hL) ?_ ?_ | simp (maxSteps := 4000000) (disch := omega) only [bunL, bunD, bun, ↓WG_true, ↓WG_false, labelOf, findLabel, ↓reduceIte, imp, shift, killO, cond_true, cond_false, hasId, ne_eq, unown, names, plainR, below, noF, isF, lendObs, lendOb, kindOk, ren, givL, updM, backO, renO, belowM, seval, -Int.reduceToNat, h, B3, B4, B21, B53, bunN, tab, tabC, nth_drop, nth_i32] | exact NK_no _ | refine NK_cl _ _ ?_ | exact Cln.cl | refine clean_tup _ ?_ | refine cleans_cons _ _ ?_ ?_ | refine DR_q _ ?_ | (refine Fk.fk ?_ ?_ <;> intro hg <;> (try simp only [hg]) <;> (try simp only [bunB, ne_eq, arA, arB] at hg) <;> try (exfalso; first | omega | exact Bool.noConfusion hg | exact hg trivial)) | refine And.intro (by omega) ?_ | omega
    all_goals try simp only [mets, boundB, hd, hbe, hgr, hhe]
    all_goals (first | rfl | (congr 2; simp_all; done))
  · rw [hr]
    repeat' first | refine WE_fit (beside_spec L hL _) ?_ ?_ | refine WE_fit (rclass_spec _ (by omega) (by omega)) ?_ ?_ | refine WE_fit (rscript_spec _) ?_ ?_ | refine WE_fit (some_spec L hL _ _) ?_ ?_ | refine WE_fit (joined_spec L hL k hk) ?_ ?_ | refine WE_fit (rasian_spec L hL) ?_ ?_ | simp (maxSteps := 4000000) (disch := omega) only [bunL, bunD, bun, ↓WG_true, ↓WG_false, labelOf, findLabel, ↓reduceIte, imp, shift, killO, cond_true, cond_false, hasId, ne_eq, unown, names, plainR, below, noF, isF, lendObs, lendOb, kindOk, ren, givL, updM, backO, renO, belowM, seval, -Int.reduceToNat, h, B3, B4, B21, B53, bunN, tab, tabC, nth_drop, nth_i32] | exact NK_no _ | refine NK_cl _ _ ?_ | exact Cln.cl | refine clean_tup _ ?_ | refine cleans_cons _ _ ?_ ?_ | refine DR_q _ ?_ | (refine Fk.fk ?_ ?_ <;> intro hg <;> (try simp only [hg]) <;> (try simp only [bunB, ne_eq, arA, arB] at hg) <;> try (exfalso; first | omega | exact Bool.noConfusion hg | exact hg trivial)) | refine And.intro (by omega) ?_ | omega
    all_goals try simp only [mets, boundB, hd, hbe, hgr, hhe]
    all_goals (first | rfl | (congr 2; simp_all; done))
  · rw [hr]
    repeat' first | refine WE_fit (beside_spec L hL _) ?_ ?_ | refine WE_fit (rclass_spec _ (by omega) (by omega)) ?_ ?_ | refine WE_fit (rscript_spec _) ?_ ?_ | refine WE_fit (some_spec L hL _ _) ?_ ?_ | refine WE_fit (joined_spec L hL k hk) ?_ ?_ | refine WE_fit (rasian_spec L hL) ?_ ?_ | simp (maxSteps := 4000000) (disch := omega) only [bunL, bunD, bun, ↓WG_true, ↓WG_false, labelOf, findLabel, ↓reduceIte, imp, shift, killO, cond_true, cond_false, hasId, ne_eq, unown, names, plainR, below, noF, isF, lendObs, lendOb, kindOk, ren, givL, updM, backO, renO, belowM, seval, -Int.reduceToNat, h, B3, B4, B21, B53, bunN, tab, tabC, nth_drop, nth_i32] | exact NK_no _ | refine NK_cl _ _ ?_ | exact Cln.cl | refine clean_tup _ ?_ | refine cleans_cons _ _ ?_ ?_ | refine DR_q _ ?_ | (refine Fk.fk ?_ ?_ <;> intro hg <;> (try simp only [hg]) <;> (try simp only [bunB, ne_eq, arA, arB] at hg) <;> try (exfalso; first | omega | exact Bool.noConfusion hg | exact hg trivial)) | refine And.intro (by omega) ?_ | omega
    all_goals try simp only [mets, boundB, hd, hbe, hgr, hhe]
    all_goals (first | rfl | (congr 2; simp_all; done))
  · rw [hr]
    repeat' first | refine WE_fit (beside_spec L hL _) ?_ ?_ | refine WE_fit (rclass_spec _ (by omega) (by omega)) ?_ ?_ | refine WE_fit (rscript_spec _) ?_ ?_ | refine WE_fit (some_spec L hL _ _) ?_ ?_ | refine WE_fit (joined_spec L hL k hk) ?_ ?_ | refine WE_fit (rasian_spec L hL) ?_ ?_ | simp (maxSteps := 4000000) (disch := omega) only [bunL, bunD, bun, ↓WG_true, ↓WG_false, labelOf, findLabel, ↓reduceIte, imp, shift, killO, cond_true, cond_false, hasId, ne_eq, unown, names, plainR, below, noF, isF, lendObs, lendOb, kindOk, ren, givL, updM, backO, renO, belowM, seval, -Int.reduceToNat, h, B3, B4, B21, B53, bunN, tab, tabC, nth_drop, nth_i32] | exact NK_no _ | refine NK_cl _ _ ?_ | exact Cln.cl | refine clean_tup _ ?_ | refine cleans_cons _ _ ?_ ?_ | refine DR_q _ ?_ | (refine Fk.fk ?_ ?_ <;> intro hg <;> (try simp only [hg]) <;> (try simp only [bunB, ne_eq, arA, arB] at hg) <;> try (exfalso; first | omega | exact Bool.noConfusion hg | exact hg trivial)) | refine And.intro (by omega) ?_ | omega
    all_goals try simp only [mets, boundB, hd, hbe, hgr, hhe]
    all_goals (first | rfl | (congr 2; simp_all; done))
  · rw [hr]
    repeat' first | refine WE_fit (beside_spec L hL _) ?_ ?_ | refine WE_fit (rclass_spec _ (by omega) (by omega)) ?_ ?_ | refine WE_fit (rscript_spec _) ?_ ?_ | refine WE_fit (some_spec L hL _ _) ?_ ?_ | refine WE_fit (joined_spec L hL k hk) ?_ ?_ | refine WE_fit (rasian_spec L hL) ?_ ?_ | simp (maxSteps := 4000000) (disch := omega) only [bunL, bunD, bun, ↓WG_true, ↓WG_false, labelOf, findLabel, ↓reduceIte, imp, shift, killO, cond_true, cond_false, hasId, ne_eq, unown, names, plainR, below, noF, isF, lendObs, lendOb, kindOk, ren, givL, updM, backO, renO, belowM, seval, -Int.reduceToNat, h, B3, B4, B21, B53, bunN, tab, tabC, nth_drop, nth_i32] | exact NK_no _ | refine NK_cl _ _ ?_ | exact Cln.cl | refine clean_tup _ ?_ | refine cleans_cons _ _ ?_ ?_ | refine DR_q _ ?_ | (refine Fk.fk ?_ ?_ <;> intro hg <;> (try simp only [hg]) <;> (try simp only [bunB, ne_eq, arA, arB] at hg) <;> try (exfalso; first | omega | exact Bool.noConfusion hg | exact hg trivial)) | refine And.intro (by omega) ?_ | omega
    all_goals try simp only [mets, boundB, hd, hbe, hgr, hhe]
    all_goals (first | rfl | (congr 2; simp_all; done))
  · exact absurd hr hn
theorem rneed_spec (L : List Int) (hL : L.length ≤ 1000) (hb : ∀ c ∈ L, inI c) (k : Int) (h0 : -9223372036854775808 ≤ k) (h1 : k ≤ 9223372036854775807) : Spec Tryz.prog 29 [.sl L.length (L.map I32), I64 k] (I64 (need L k)) := by
  refine spec_mk (z := false) (ts := [.tmp 4]) ok1 Tryz.func29 rfl rfl (by decide +kernel) (by simp [Tryz.ntmps29]) rfl ?_
  by_cases hk : 0 ≤ k ∧ k < L.length
  · obtain ⟨q, rfl⟩ : ∃ q : Nat, k = q := ⟨k.toNat, by omega⟩
    have hq : q < L.length := by omega
    have hn : need L q = needN L q := need_in hq
    unfold needN at hn
    by_cases hr : rl (L.getD q 0) = .no
    · have e : needsB (L.getD q 0) = false := by unfold needsB; rw [hr]; rfl
      rw [if_pos hr] at hn
      repeat' first | refine WE_fit (rneeds_spec _) ?_ ?_ | simp (maxSteps := 4000000) (disch := omega) only [bunL, bunD, bun, ↓WG_true, ↓WG_false, labelOf, findLabel, ↓reduceIte, imp, shift, killO, cond_true, cond_false, hasId, ne_eq, unown, names, plainR, below, noF, isF, lendObs, lendOb, kindOk, ren, givL, updM, backO, renO, belowM, seval, -Int.reduceToNat, e, B3, B4, B21, B53, bunN, tab, tabC, nth_drop, nth_i32] | exact NK_no _ | refine NK_cl _ _ ?_ | exact Cln.cl | refine clean_tup _ ?_ | refine cleans_cons _ _ ?_ ?_ | refine DR_q _ ?_ | (refine Fk.fk ?_ ?_ <;> intro hg <;> (try simp only [hg]) <;> (try simp only [bunB, ne_eq, arA, arB] at hg) <;> try (exfalso; first | omega | exact Bool.noConfusion hg | exact hg trivial)) | refine And.intro (by omega) ?_ | omega
      all_goals (rw [hn])
    · have e : needsB (L.getD q 0) = true := by unfold needsB; simpa using hr
      rw [if_neg hr] at hn
      repeat' first | refine WE_fit (rneeds_spec _) ?_ ?_ | refine WE_fit (met_spec L hL hb q hq hr) ?_ ?_ | simp (maxSteps := 4000000) (disch := omega) only [bunL, bunD, bun, ↓WG_true, ↓WG_false, labelOf, findLabel, ↓reduceIte, imp, shift, killO, cond_true, cond_false, hasId, ne_eq, unown, names, plainR, below, noF, isF, lendObs, lendOb, kindOk, ren, givL, updM, backO, renO, belowM, seval, -Int.reduceToNat, e, B3, B4, B21, B53, bunN, tab, tabC, nth_drop, nth_i32] | exact NK_no _ | refine NK_cl _ _ ?_ | exact Cln.cl | refine clean_tup _ ?_ | refine cleans_cons _ _ ?_ ?_ | refine DR_q _ ?_ | (refine Fk.fk ?_ ?_ <;> intro hg <;> (try simp only [hg]) <;> (try simp only [bunB, ne_eq, arA, arB] at hg) <;> try (exfalso; first | omega | exact Bool.noConfusion hg | exact hg trivial)) | refine And.intro (by omega) ?_ | omega
      all_goals (rw [hn]; try simp_all)
  · repeat' first | simp (maxSteps := 4000000) (disch := omega) only [bunL, bunD, bun, ↓WG_true, ↓WG_false, labelOf, findLabel, ↓reduceIte, imp, shift, killO, cond_true, cond_false, hasId, ne_eq, unown, names, plainR, below, noF, isF, lendObs, lendOb, kindOk, ren, givL, updM, backO, renO, belowM, seval, -Int.reduceToNat, B3, B4, B21, B53, bunN, tab, tabC, nth_drop, nth_i32] | refine DR_q _ ?_ | (refine Fk.fk ?_ ?_ <;> intro hg <;> (try simp only [hg]) <;> (try simp only [bunB, ne_eq, arA, arB] at hg) <;> try (exfalso; first | omega | exact Bool.noConfusion hg | exact hg trivial)) | refine And.intro (by omega) ?_ | omega
    all_goals (rw [need_out (by omega)])
end Go.AE
end
