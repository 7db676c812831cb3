/- Contracts of functions that the laws of this seat reach, and plain laws of what they compute. No condition beyond each statement's own. -/
import Derived.Test.YtghocgbmbakfpaaSJ
set_option linter.unusedVariables false
set_option linter.unusedSimpArgs false
section
/- Fold: the document's, Alike, a small case; FoldSame, FoldSmall. -/
namespace Go.AE
open Go.Proofs
set_option maxRecDepth 20000
set_option maxHeartbeats 8000000
set_option linter.unusedSimpArgs false
theorem new_box4 : Spec Try.prog 9 [] (.ag tabBox) := new_spec
theorem rfold_spec (s : List UInt8) (hs : s.length ≤ 2500) : Spec Try.prog 11 [Sv s] (.tup [Sv (foldS s).1, Bv (foldS s).2]) := by
  have hl := runes_len s
  have hr := runes_right s
  have h1 := rwidth_spec (runes s).1 (by omega)
  have h2 := rlowers_spec ((runes s).1.map nar) (by rw [List.length_map]; omega)
  rw [map_lw, List.length_map] at h2
  have h3 := refString_spec ((runes s).1.map lw) (by rw [List.length_map]; omega)
  rw [List.length_map] at h3
  have hn := strS_len ((runes s).1.map lw)
  rw [List.length_map] at hn
  have hrr := runes_str (lw_strOk hr)
  have h4 := rform_spec' (strS ((runes s).1.map lw)) false true (by omega) (by rw [hrr]; simp; omega)
  have hk1 : List.take (runes s).1.length (((runes s).1.map nar).map I32) = ((runes s).1.map nar).map I32 := List.take_of_length_le (by simp)
  have hk2 : List.take (runes s).1.length (((runes s).1.map lw).map I32) = ((runes s).1.map lw).map I32 := List.take_of_length_le (by simp)
  refine spec_mk (z := false) (ts := [.tmp 2, .tmp 3]) ok1 Try.func11 rfl rfl (by decide +kernel) (by simp [Try.ntmps11]) rfl ?_
  rw [foldS_eq]
  generalize strS ((runes s).1.map lw) = Z at *
  generalize strOk ((runes s).1.map lw) = zo at *
  generalize hf : formS false true Z = fz at *
  clear hrr hn
  by_cases h0 : 0 ≤ (runes s).2
  · rw [if_pos h0]
    repeat' first | refine WE_fit (refRunes_spec s (by omega)) ?_ ?_ | simp (maxSteps := 4000000) (disch := omega) only [bunD, bun, ↓WG_true, ↓WG_false, labelOf, findLabel, Nat.reduceEqDiff, ↓reduceIte, imp, shift, killO, cond_true, cond_false, Nat.reduceBEq, hasId, Nat.reduceAdd, Nat.reduceMul, Nat.reduceSub, Nat.reduceLeDiff, reduceCtorEq, Int.reduceNe, Int.reduceLE, Int.reduceEq, ne_eq, Int.reducePow, Int.reduceAdd, Int.reduceSub, Int.reduceMul, unown, names, plainR, Int.reduceBEq, Int.reduceLT, Int.reduceGT, Int.reduceGE, Int.reduceBNe, below, noF, isF, lendObs, lendOb, kindOk, ren, givL, updM, backO, renO, belowM, B3, B4, B9, B21, B22, bunN, Int.reduceToNat, tbB2, List.map_nil, List.nil_append] | exact NK_no _ | refine NK_cl _ _ ?_ | exact clean_v _ | exact clean_u8 _ _ _ _ | exact clean_i32 _ _ _ _ | exact clean_str _ _ _ _ | refine clean_tup _ ?_ | refine clean_ag _ ?_ | exact cleans_nil | refine cleans_cons _ _ ?_ ?_ | refine DR_q _ ?_ | ((first | refine WG_mk ?_ ?_ | refine CD_mk ?_ ?_ | refine GD_mk ?_ ?_ | refine GQ_mk ?_ ?_ | refine PK_mk ?_ ?_) <;> intro hg <;> (try simp only [hg]) <;> (try simp only [bunB, ne_eq] at hg) <;> first | (exfalso; omega) | (exfalso; exact Bool.noConfusion hg) | (exfalso; exact hg trivial) | skip) | refine And.intro (by omega) ?_ | omega
    all_goals trace_state
  · rw [if_neg h0]
    repeat' first | refine WE_fit (refRunes_spec s (by omega)) ?_ ?_ | refine WE_fit (h1) ?_ ?_ | refine WE_fit (h2) ?_ ?_ | refine WE_fit (h3) ?_ ?_ | refine WE_fit (h4) ?_ ?_ | simp (maxSteps := 4000000) (disch := omega) only [bunD, bun, ↓WG_true, ↓WG_false, labelOf, findLabel, Nat.reduceEqDiff, ↓reduceIte, imp, shift, killO, cond_true, cond_false, Nat.reduceBEq, hasId, Nat.reduceAdd, Nat.reduceMul, Nat.reduceSub, Nat.reduceLeDiff, reduceCtorEq, Int.reduceNe, Int.reduceLE, Int.reduceEq, ne_eq, Int.reducePow, Int.reduceAdd, Int.reduceSub, Int.reduceMul, unown, names, plainR, Int.reduceBEq, Int.reduceLT, Int.reduceGT, Int.reduceGE, Int.reduceBNe, below, noF, isF, lendObs, lendOb, kindOk, ren, givL, updM, backO, renO, belowM, List.length_map, hk1, hk2, B3, B4, B9, B21, B22, bunN, Int.reduceToNat, tbB2, List.map_nil, List.nil_append] | exact NK_no _ | refine NK_cl _ _ ?_ | exact clean_v _ | exact clean_u8 _ _ _ _ | exact clean_i32 _ _ _ _ | exact clean_str _ _ _ _ | refine clean_tup _ ?_ | refine clean_ag _ ?_ | exact cleans_nil | refine cleans_cons _ _ ?_ ?_ | refine DR_q _ ?_ | ((first | refine WG_mk ?_ ?_ | refine CD_mk ?_ ?_ | refine GD_mk ?_ ?_ | refine GQ_mk ?_ ?_ | refine PK_mk ?_ ?_) <;> intro hg <;> (try simp only [hg]) <;> (try simp only [bunB, ne_eq] at hg) <;> first | (exfalso; omega) | (exfalso; exact Bool.noConfusion hg) | (exfalso; exact hg trivial) | skip) | refine And.intro (by omega) ?_ | omega
    all_goals trace_state
def alB (a b : List UInt8) : Bool := (foldS a).2 && (foldS b).2 && ((foldS a).1 == (foldS b).1)
theorem alike_spec' (a b : List UInt8) (ha : a.length ≤ 10000000) (hal : (runes a).1.length ≤ 10000) (hb : b.length ≤ 10000000) (hbl : (runes b).1.length ≤ 10000) : Spec Try.prog 17 [tab, Sv a, Sv b] (Bv (alB a b)) := by
  have h1 := fold_spec' a ha hal
  have h2 := fold_spec' b hb hbl
  rw [← tabBox_eq] at h1 h2 ⊢
  refine spec_mk (z := false) (ts := [.tmp 6]) ok1 Try.func17 rfl rfl (by decide +kernel) (by simp [Try.ntmps17]) rfl ?_
  unfold alB
  generalize foldS a = x at *
  generalize foldS b = y at *
  obtain ⟨x1, x2⟩ := x
  obtain ⟨y1, y2⟩ := y
  cases x2 <;> cases y2
  all_goals (repeat' first | refine WE_fit (h1) ?_ ?_ | refine WE_fit (h2) ?_ ?_ | simp (maxSteps := 4000000) (disch := omega) only [bunD, bun, ↓WG_true, ↓WG_false, labelOf, findLabel, Nat.reduceEqDiff, ↓reduceIte, imp, shift, killO, cond_true, cond_false, Nat.reduceBEq, hasId, Nat.reduceAdd, Nat.reduceMul, Nat.reduceSub, Nat.reduceLeDiff, reduceCtorEq, Int.reduceNe, Int.reduceLE, Int.reduceEq, ne_eq, Int.reducePow, Int.reduceAdd, Int.reduceSub, Int.reduceMul, unown, names, plainR, Int.reduceBEq, Int.reduceLT, Int.reduceGT, Int.reduceGE, Int.reduceBNe, below, noF, isF, lendObs, lendOb, kindOk, ren, givL, updM, backO, renO, belowM, B3, B4, B9, B21, B24, B25, B26, B27, B28, B30, B53, B55, B71, B74, B76, bunN, Int.reduceToNat, tbB2, List.map_nil, List.nil_append] | exact NK_no _ | refine NK_cl _ _ ?_ | exact clean_v _ | exact clean_u8 _ _ _ _ | exact clean_i32 _ _ _ _ | exact clean_str _ _ _ _ | refine clean_tup _ ?_ | refine clean_ag _ ?_ | exact cleans_nil | refine cleans_cons _ _ ?_ ?_ | refine DR_q _ ?_ | ((first | refine WG_mk ?_ ?_ | refine CD_mk ?_ ?_ | refine GD_mk ?_ ?_ | refine GQ_mk ?_ ?_ | refine PK_mk ?_ ?_) <;> intro hg <;> (try simp only [hg]) <;> (try simp only [bunB, ne_eq] at hg) <;> first | (exfalso; omega) | (exfalso; exact Bool.noConfusion hg) | (exfalso; exact hg trivial) | skip) | refine And.intro (by omega) ?_ | omega)
  all_goals trace_state
theorem fold_spec (s : List UInt8) (hs : s.length ≤ 10000) : Spec Try.prog 10 [tab, Sv s] (.tup [Sv (foldS s).1, Bv (foldS s).2]) := fold_spec' s (by omega) (rl_le hs)
theorem alike_spec (a b : List UInt8) (ha : a.length ≤ 10000) (hb : b.length ≤ 10000) : Spec Try.prog 17 [tab, Sv a, Sv b] (Bv (alB a b)) := alike_spec' a b (by omega) (rl_le ha) (by omega) (rl_le hb)
theorem small4_spec : Spec Try.prog 8 [] (Bv true) := by
  have c1 := fold_spec [239, 188, 161, 204, 136, 226, 132, 171, 66, 206, 145] (by decide)
  rw [show foldS [239, 188, 161, 204, 136, 226, 132, 171, 66, 206, 145] = ([195, 164, 195, 165, 98, 206, 177], true) by decide +kernel] at c1
  have c2 := fold_spec [195] (by decide)
  rw [show foldS [195] = ([], false) by decide +kernel] at c2
  have w1 := width_spec [65374, 65375, 65] (by decide) (by unfold okR; decide)
  rw [show ([65374, 65375, 65] : List Int).map nar = [126, 65375, 65] by decide +kernel] at w1
  have w2 := lowers_spec4 [65, 122, 66560] (by decide) (by unfold okR; decide)
  rw [show ([65, 122, 66560] : List Int).map low = [97, 122, 66600] by decide +kernel] at w2
  have p1 := plain_spec [65, 195, 90, 91] (by decide)
  rw [show plS [65, 195, 90, 91] = [97, 195, 122, 91] by decide +kernel] at p1
  have a1 := alike_spec [226, 132, 170] [107] (by decide) (by decide)
  rw [show alB [226, 132, 170] [107] = true by decide +kernel] at a1
  have a2 := alike_spec [97] [98] (by decide) (by decide)
  rw [show alB [97] [98] = false by decide +kernel] at a2
  have a3 := alike_spec [255] [255] (by decide) (by decide)
  rw [show alB [255] [255] = false by decide +kernel] at a3
  rw [← tabBox_eq] at c1 c2 w1 w2 a1 a2 a3
  simp only [List.map_cons, List.map_nil, List.length_cons, List.length_nil, Nat.zero_add, Nat.reduceAdd] at w1 w2
  refine spec_mk (z := false) (ts := [.tmp 0]) ok1 Try.func8 rfl rfl (by decide +kernel) (by simp [Try.ntmps8]) rfl ?_
  repeat' first | refine WE_fit (new_box4) ?_ ?_ | refine WE_fit (c1) ?_ ?_ | refine WE_fit (c2) ?_ ?_ | refine WE_fit (w1) ?_ ?_ | refine WE_fit (w2) ?_ ?_ | refine WE_fit (p1) ?_ ?_ | refine WE_fit (a1) ?_ ?_ | refine WE_fit (a2) ?_ ?_ | refine WE_fit (a3) ?_ ?_ | simp (maxSteps := 4000000) (disch := omega) only [bunD, bun, ↓WG_true, ↓WG_false, labelOf, findLabel, Nat.reduceEqDiff, ↓reduceIte, imp, shift, killO, cond_true, cond_false, Nat.reduceBEq, hasId, Nat.reduceAdd, Nat.reduceMul, Nat.reduceSub, Nat.reduceLeDiff, reduceCtorEq, Int.reduceNe, Int.reduceLE, Int.reduceEq, ne_eq, Int.reducePow, Int.reduceAdd, Int.reduceSub, Int.reduceMul, unown, names, plainR, Int.reduceBEq, Int.reduceLT, Int.reduceGT, Int.reduceGE, Int.reduceBNe, below, noF, isF, lendObs, lendOb, kindOk, ren, givL, updM, backO, renO, belowM, B3, B4, B9, B21, B22, B24, B25, B26, B27, B28, B30, B53, B55, B71, B74, B76, bunN, Int.reduceToNat, tbB2, List.map_nil, List.nil_append] | exact NK_no _ | refine NK_cl _ _ ?_ | exact clean_v _ | exact clean_u8 _ _ _ _ | exact clean_i32 _ _ _ _ | exact clean_str _ _ _ _ | refine clean_tup _ ?_ | refine clean_ag _ ?_ | exact cleans_nil | refine cleans_cons _ _ ?_ ?_ | refine DR_q _ ?_ | ((first | refine WG_mk ?_ ?_ | refine CD_mk ?_ ?_ | refine GD_mk ?_ ?_ | refine GQ_mk ?_ ?_ | refine PK_mk ?_ ?_) <;> intro hg <;> (try simp only [hg]) <;> (try simp only [bunB, ne_eq] at hg) <;> first | (exfalso; omega) | (exfalso; exact Bool.noConfusion hg) | (exfalso; exact hg trivial) | skip) | refine And.intro (by omega) ?_ | omega
  · exact clean_i32 _ _ _ [_, _, _]
  · exact clean_i32 _ _ _ [_, _, _]
theorem foldS_key {s : List UInt8} (hs : (runes s).1.length ≤ 2500) (h : ¬ 0 ≤ (runes s).2) : ∃ X, foldS s = (X, true) ∧ X.length ≤ 40000 ∧ runes X = (foldL (runes s).1, -1) ∧ (runes X).1.length ≤ 10000 ∧ foldS X = (X, true) ∧ formS false true X = (X, true) := by
  have h1 := foldL_len (runes s).1
  have h2 := strS_len (foldL (runes s).1)
  have e1 := foldS_foldS h
  have e2 := form_foldS h
  have h3 := runes_fold (s := s)
  rw [foldS_at h] at e1 e2
  exact ⟨strS (foldL (runes s).1), foldS_at h, by omega, h3, by rw [h3]; dsimp only; omega, e1, e2⟩
theorem foldSame_spec (s : List UInt8) : Spec Try.prog 5 [Sv s] (Bv true) := by
  refine spec_mk (z := false) (ts := [.tmp 2]) ok1 Try.func5 rfl rfl (by decide +kernel) (by simp [Try.ntmps5]) rfl ?_
  by_cases hs : s.length ≤ 200
  · have hl := runes_len s
    have c1 := fold_spec s (by omega)
    by_cases h0 : 0 ≤ (runes s).2
    · have e : foldS s = ([], false) := by unfold foldS; rw [if_pos h0]
      have a1 := alike_spec s s (by omega) (by omega)
      have e2 : alB s s = false := by unfold alB; rw [e]; rfl
      rw [e2] at a1
      rw [e] at c1
      rw [← tabBox_eq] at c1 a1
      repeat' first | refine WE_fit (small4_spec) ?_ ?_ | refine WE_fit (new_box4) ?_ ?_ | refine WE_fit (c1) ?_ ?_ | refine WE_fit (a1) ?_ ?_ | simp (maxSteps := 4000000) (disch := omega) only [bunD, bun, ↓WG_true, ↓WG_false, labelOf, findLabel, Nat.reduceEqDiff, ↓reduceIte, imp, shift, killO, cond_true, cond_false, Nat.reduceBEq, hasId, Nat.reduceAdd, Nat.reduceMul, Nat.reduceSub, Nat.reduceLeDiff, reduceCtorEq, Int.reduceNe, Int.reduceLE, Int.reduceEq, ne_eq, Int.reducePow, Int.reduceAdd, Int.reduceSub, Int.reduceMul, unown, names, plainR, Int.reduceBEq, Int.reduceLT, Int.reduceGT, Int.reduceGE, Int.reduceBNe, below, noF, isF, lendObs, lendOb, kindOk, ren, givL, updM, backO, renO, belowM, B3, B4, B9, B21, B24, B25, B26, B27, B28, B30, B53, B55, B71, B74, B76, bunN, Int.reduceToNat, tbB2, List.map_nil, List.nil_append] | exact NK_no _ | refine NK_cl _ _ ?_ | exact clean_v _ | exact clean_u8 _ _ _ _ | exact clean_i32 _ _ _ _ | exact clean_str _ _ _ _ | refine clean_tup _ ?_ | refine clean_ag _ ?_ | exact cleans_nil | refine cleans_cons _ _ ?_ ?_ | refine DR_q _ ?_ | ((first | refine WG_mk ?_ ?_ | refine CD_mk ?_ ?_ | refine GD_mk ?_ ?_ | refine GQ_mk ?_ ?_ | refine PK_mk ?_ ?_) <;> intro hg <;> (try simp only [hg]) <;> (try simp only [bunB, ne_eq] at hg) <;> first | (exfalso; omega) | (exfalso; exact Bool.noConfusion hg) | (exfalso; exact hg trivial) | skip) | refine And.intro (by omega) ?_ | omega
      all_goals trace_state
    · obtain ⟨X, x1, x2, x3, x4, x5, x6⟩ := foldS_key (s := s) (by omega) h0
      obtain ⟨D, d1, d2, d3, _⟩ := form_key (s := s) (by omega) h0 false false
      obtain ⟨C, e1, e2, e3, _⟩ := form_key (s := s) (by omega) h0 false true
      have fd := foldS_form h0 false
      have fc := foldS_form h0 true
      have n1 := nfd_spec s (by omega)
      have n2 := nfc_spec s (by omega)
      have y1 := fold_spec' X (by omega) x4
      have aC := alike_spec' s C (by omega) (by omega) e2 e3
      have aD := alike_spec' s D (by omega) (by omega) d2 d3
      have aX := alike_spec' s X (by omega) (by omega) (by omega) x4
      have iX := nis_spec' X (by omega) x4
      rw [d1, x1] at fd
      rw [e1, x1] at fc
      dsimp only at fd fc
      have bb : (X == X) = true := by simp
      rw [show alB s C = true by unfold alB; rw [x1, fc]; simp] at aC
      rw [show alB s D = true by unfold alB; rw [x1, fd]; simp] at aD
      rw [show alB s X = true by unfold alB; rw [x1, x5]; simp] at aX
      rw [show ((formS false true X).2 && ((formS false true X).1 == X)) = true by rw [x6]; simp] at iX
      rw [x1] at c1
      rw [x5] at y1
      rw [d1] at n1
      rw [e1] at n2
      rw [← tabBox_eq] at c1 n1 n2 y1 aC aD aX iX
      repeat' first | refine WE_fit (small4_spec) ?_ ?_ | refine WE_fit (new_box4) ?_ ?_ | refine WE_fit (c1) ?_ ?_ | refine WE_fit (y1) ?_ ?_ | refine WE_fit (n1) ?_ ?_ | refine WE_fit (n2) ?_ ?_ | refine WE_fit (aC) ?_ ?_ | refine WE_fit (aD) ?_ ?_ | refine WE_fit (aX) ?_ ?_ | refine WE_fit (iX) ?_ ?_ | simp (maxSteps := 4000000) (disch := omega) only [bunD, bun, ↓WG_true, ↓WG_false, labelOf, findLabel, Nat.reduceEqDiff, ↓reduceIte, imp, shift, killO, cond_true, cond_false, Nat.reduceBEq, hasId, Nat.reduceAdd, Nat.reduceMul, Nat.reduceSub, Nat.reduceLeDiff, reduceCtorEq, Int.reduceNe, Int.reduceLE, Int.reduceEq, ne_eq, Int.reducePow, Int.reduceAdd, Int.reduceSub, Int.reduceMul, unown, names, plainR, Int.reduceBEq, Int.reduceLT, Int.reduceGT, Int.reduceGE, Int.reduceBNe, below, noF, isF, lendObs, lendOb, kindOk, ren, givL, updM, backO, renO, belowM, B3, B4, B9, B21, B24, B25, B26, B27, B28, B30, B53, B55, B71, B74, B76, bunN, Int.reduceToNat, tbB2, List.map_nil, List.nil_append] | exact NK_no _ | refine NK_cl _ _ ?_ | exact clean_v _ | exact clean_u8 _ _ _ _ | exact clean_i32 _ _ _ _ | exact clean_str _ _ _ _ | refine clean_tup _ ?_ | refine clean_ag _ ?_ | exact cleans_nil | refine cleans_cons _ _ ?_ ?_ | refine DR_q _ ?_ | ((first | refine WG_mk ?_ ?_ | refine CD_mk ?_ ?_ | refine GD_mk ?_ ?_ | refine GQ_mk ?_ ?_ | refine PK_mk ?_ ?_) <;> intro hg <;> (try simp only [hg]) <;> (try simp only [bunB, ne_eq] at hg) <;> first | (exfalso; omega) | (exfalso; exact Bool.noConfusion hg) | (exfalso; exact hg trivial) | skip) | refine And.intro (by omega) ?_ | omega
      all_goals trace_state
  · repeat' first | refine WE_fit (small4_spec) ?_ ?_ | simp (maxSteps := 4000000) (disch := omega) only [bunD, bun, ↓WG_true, ↓WG_false, labelOf, findLabel, Nat.reduceEqDiff, ↓reduceIte, imp, shift, killO, cond_true, cond_false, Nat.reduceBEq, hasId, Nat.reduceAdd, Nat.reduceMul, Nat.reduceSub, Nat.reduceLeDiff, reduceCtorEq, Int.reduceNe, Int.reduceLE, Int.reduceEq, ne_eq, Int.reducePow, Int.reduceAdd, Int.reduceSub, Int.reduceMul, unown, names, plainR, Int.reduceBEq, Int.reduceLT, Int.reduceGT, Int.reduceGE, Int.reduceBNe, below, noF, isF, lendObs, lendOb, kindOk, ren, givL, updM, backO, renO, belowM, B3, B4, B9, B21, B24, B25, B26, B27, B28, B30, B53, B55, B71, B74, B76, bunN, Int.reduceToNat, tbB2, List.map_nil, List.nil_append] | exact NK_no _ | refine NK_cl _ _ ?_ | exact clean_v _ | exact clean_u8 _ _ _ _ | exact clean_i32 _ _ _ _ | exact clean_str _ _ _ _ | refine clean_tup _ ?_ | refine clean_ag _ ?_ | exact cleans_nil | refine cleans_cons _ _ ?_ ?_ | refine DR_q _ ?_ | ((first | refine WG_mk ?_ ?_ | refine CD_mk ?_ ?_ | refine GD_mk ?_ ?_ | refine GQ_mk ?_ ?_ | refine PK_mk ?_ ?_) <;> intro hg <;> (try simp only [hg]) <;> (try simp only [bunB, ne_eq] at hg) <;> first | (exfalso; omega) | (exfalso; exact Bool.noConfusion hg) | (exfalso; exact hg trivial) | skip) | refine And.intro (by omega) ?_ | omega
end Go.AE
end
section
/- Fold: FoldSmall, FoldPlain. -/
namespace Go.AE
open Go.Proofs
set_option maxRecDepth 20000
set_option maxHeartbeats 8000000
set_option linter.unusedSimpArgs false
theorem eight_asc {s : List UInt8} (h8 : ¬ 0 ≤ eight s) : ∀ c ∈ s, c.toNat < 128 := by
  have key : ∀ (s : List UInt8) (k : Nat), ¬ 0 ≤ eightF k s → ∀ c ∈ s, c.toNat < 128 := fun s => by
    induction s with
    | nil => intro k _ c hc; cases hc
    | cons b l ih =>
      intro k h c hc
      rw [eightF] at h
      split at h
      · omega
      · rcases List.mem_cons.1 hc with rfl | hc
        · omega
        · exact ih (k + 1) h c hc
  exact key s 0 h8
theorem plC_big (c : UInt8) : 128 ≤ (plC c).toNat ↔ 128 ≤ c.toNat := by
  by_cases h : 65 ≤ c.toNat ∧ c.toNat ≤ 90
  · rw [plC_yes h]; omega
  · rw [plC_no h]
theorem plC_idem (c : UInt8) : plC (plC c) = plC c := by
  by_cases h : 65 ≤ c.toNat ∧ c.toNat ≤ 90
  · exact plC_no (by rw [plC_yes h]; omega)
  · rw [plC_no h, plC_no h]
theorem plS_idem (s : List UInt8) : plS (plS s) = plS s := by unfold plS; rw [List.map_map]; congr 1; funext c; exact plC_idem c
theorem plS_eight (s : List UInt8) : eight (plS s) = eight s := by
  have key : ∀ (s : List UInt8) (k : Nat), eightF k (plS s) = eightF k s := fun s => by
    induction s with
    | nil => intro k; rfl
    | cons c s ih =>
      intro k
      show (if 128 ≤ (plC c).toNat then (k : Int) else eightF (k + 1) (plS s)) = _
      rw [eightF, ih]
      simp only [plC_big]
  exact key s 0
theorem lw_asc {c : UInt8} (h : c.toNat < 128) : lw (c.toNat : Int) = ((plC c).toNat : Int) := by
  have := List.all_eq_true.1 (show ((List.range 128).all fun n => decide (lw (n : Int) = if 65 ≤ n ∧ n ≤ 90 then (n : Int) + 32 else n)) = true by decide +kernel) c.toNat (by simp; omega)
  have e := of_decide_eq_true this
  rw [e]
  by_cases h : 65 ≤ c.toNat ∧ c.toNat ≤ 90
  · rw [if_pos h, plC_yes h]; omega
  · rw [if_neg h, plC_no h]
theorem plS_asc {s : List UInt8} (h : ∀ c ∈ s, c.toNat < 128) : ∀ c ∈ plS s, c.toNat < 128 := fun c hc => by
  obtain ⟨a, ha, rfl⟩ := List.mem_map.1 hc
  have := plC_big a
  have := h a ha
  omega
theorem asc_map_lw {s : List UInt8} (h : ∀ c ∈ s, c.toNat < 128) : (asc s).map lw = asc (plS s) := by
  induction s with
  | nil => rfl
  | cons c s ih =>
    show lw (c.toNat : Int) :: (asc s).map lw = ((plC c).toNat : Int) :: asc (plS s)
    rw [lw_asc (h c (by simp)), ih fun d hd => h d (List.mem_cons_of_mem _ hd)]
theorem formL_asc {s : List UInt8} (h : ∀ c ∈ s, c.toNat < 128) (soft join : Bool) : formL soft join (asc s) = asc s := by
  have ha := asc_mem h
  unfold formL
  rw [splt_asc ha, ord_asc ha, join_asc ha]
  split <;> rfl
theorem runes_asc {s : List UInt8} (h : ∀ c ∈ s, c.toNat < 128) : runes s = (asc s, -1) := runesF_asc _ _ _ (by omega) h
theorem foldS_asc {s : List UInt8} (h : ∀ c ∈ s, c.toNat < 128) : foldS s = (plS s, true) := by
  have hp := plS_asc h
  rw [foldS_at (by rw [runes_asc h]; dsimp only; omega), runes_asc h]
  dsimp only
  unfold foldL
  rw [asc_map_lw h, formL_asc hp, (str_asc hp).1]
theorem foldPlain_spec (s : List UInt8) : Spec Try.prog 6 [Sv s] (Bv true) := by
  refine spec_mk (z := false) (ts := [.tmp 2]) ok1 Try.func6 rfl rfl (by decide +kernel) (by simp [Try.ntmps6]) rfl ?_
  by_cases hs : s.length ≤ 300
  · have hlp : (plS s).length = s.length := by simp [plS]
    have p1 := plain_spec s (by omega)
    have p2 := plain_spec (plS s) (by omega)
    rw [plS_idem] at p2
    have e1 := utfEight_spec s (by omega)
    have e2 := utfEight_spec (plS s) (by omega)
    rw [plS_eight] at e2
    have bb : (plS s == plS s) = true := by simp
    by_cases h8 : 0 ≤ eight s
    · repeat' first | refine WE_fit (small4_spec) ?_ ?_ | refine WE_fit (p1) ?_ ?_ | refine WE_fit (p2) ?_ ?_ | refine WE_fit (e1) ?_ ?_ | refine WE_fit (e2) ?_ ?_ | simp (maxSteps := 4000000) (disch := omega) only [bunD, bun, ↓WG_true, ↓WG_false, labelOf, findLabel, Nat.reduceEqDiff, ↓reduceIte, imp, shift, killO, cond_true, cond_false, Nat.reduceBEq, hasId, Nat.reduceAdd, Nat.reduceMul, Nat.reduceSub, Nat.reduceLeDiff, reduceCtorEq, Int.reduceNe, Int.reduceLE, Int.reduceEq, ne_eq, Int.reducePow, Int.reduceAdd, Int.reduceSub, Int.reduceMul, unown, names, plainR, Int.reduceBEq, Int.reduceLT, Int.reduceGT, Int.reduceGE, Int.reduceBNe, below, noF, isF, lendObs, lendOb, kindOk, ren, givL, updM, backO, renO, belowM, hlp, B3, B4, B9, B21, B24, B25, B26, B27, B28, B30, B53, B55, B71, B74, B76, bunN, Int.reduceToNat, tbB2, List.map_nil, List.nil_append] | exact NK_no _ | refine NK_cl _ _ ?_ | exact clean_v _ | exact clean_u8 _ _ _ _ | exact clean_i32 _ _ _ _ | exact clean_str _ _ _ _ | refine clean_tup _ ?_ | refine clean_ag _ ?_ | exact cleans_nil | refine cleans_cons _ _ ?_ ?_ | refine DR_q _ ?_ | ((first | refine WG_mk ?_ ?_ | refine CD_mk ?_ ?_ | refine GD_mk ?_ ?_ | refine GQ_mk ?_ ?_ | refine PK_mk ?_ ?_) <;> intro hg <;> (try simp only [hg]) <;> (try simp only [bunB, ne_eq] at hg) <;> first | (exfalso; omega) | (exfalso; exact Bool.noConfusion hg) | (exfalso; exact hg trivial) | skip) | refine And.intro (by omega) ?_ | omega
      all_goals trace_state
    · have c1 := fold_spec s (by omega)
      rw [foldS_asc (eight_asc h8), ← tabBox_eq] at c1
      repeat' first | refine WE_fit (small4_spec) ?_ ?_ | refine WE_fit (new_box4) ?_ ?_ | refine WE_fit (p1) ?_ ?_ | refine WE_fit (p2) ?_ ?_ | refine WE_fit (e1) ?_ ?_ | refine WE_fit (e2) ?_ ?_ | refine WE_fit (c1) ?_ ?_ | simp (maxSteps := 4000000) (disch := omega) only [bunD, bun, ↓WG_true, ↓WG_false, labelOf, findLabel, Nat.reduceEqDiff, ↓reduceIte, imp, shift, killO, cond_true, cond_false, Nat.reduceBEq, hasId, Nat.reduceAdd, Nat.reduceMul, Nat.reduceSub, Nat.reduceLeDiff, reduceCtorEq, Int.reduceNe, Int.reduceLE, Int.reduceEq, ne_eq, Int.reducePow, Int.reduceAdd, Int.reduceSub, Int.reduceMul, unown, names, plainR, Int.reduceBEq, Int.reduceLT, Int.reduceGT, Int.reduceGE, Int.reduceBNe, below, noF, isF, lendObs, lendOb, kindOk, ren, givL, updM, backO, renO, belowM, hlp, B3, B4, B9, B21, B24, B25, B26, B27, B28, B30, B53, B55, B71, B74, B76, bunN, Int.reduceToNat, tbB2, List.map_nil, List.nil_append] | exact NK_no _ | refine NK_cl _ _ ?_ | exact clean_v _ | exact clean_u8 _ _ _ _ | exact clean_i32 _ _ _ _ | exact clean_str _ _ _ _ | refine clean_tup _ ?_ | refine clean_ag _ ?_ | exact cleans_nil | refine cleans_cons _ _ ?_ ?_ | refine DR_q _ ?_ | ((first | refine WG_mk ?_ ?_ | refine CD_mk ?_ ?_ | refine GD_mk ?_ ?_ | refine GQ_mk ?_ ?_ | refine PK_mk ?_ ?_) <;> intro hg <;> (try simp only [hg]) <;> (try simp only [bunB, ne_eq] at hg) <;> first | (exfalso; omega) | (exfalso; exact Bool.noConfusion hg) | (exfalso; exact hg trivial) | skip) | refine And.intro (by omega) ?_ | omega
      all_goals trace_state
  · repeat' first | refine WE_fit (small4_spec) ?_ ?_ | simp (maxSteps := 4000000) (disch := omega) only [bunD, bun, ↓WG_true, ↓WG_false, labelOf, findLabel, Nat.reduceEqDiff, ↓reduceIte, imp, shift, killO, cond_true, cond_false, Nat.reduceBEq, hasId, Nat.reduceAdd, Nat.reduceMul, Nat.reduceSub, Nat.reduceLeDiff, reduceCtorEq, Int.reduceNe, Int.reduceLE, Int.reduceEq, ne_eq, Int.reducePow, Int.reduceAdd, Int.reduceSub, Int.reduceMul, unown, names, plainR, Int.reduceBEq, Int.reduceLT, Int.reduceGT, Int.reduceGE, Int.reduceBNe, below, noF, isF, lendObs, lendOb, kindOk, ren, givL, updM, backO, renO, belowM, B3, B4, B9, B21, B24, B25, B26, B27, B28, B30, B53, B55, B71, B74, B76, bunN, Int.reduceToNat, tbB2, List.map_nil, List.nil_append] | exact NK_no _ | refine NK_cl _ _ ?_ | exact clean_v _ | exact clean_u8 _ _ _ _ | exact clean_i32 _ _ _ _ | exact clean_str _ _ _ _ | refine clean_tup _ ?_ | refine clean_ag _ ?_ | exact cleans_nil | refine cleans_cons _ _ ?_ ?_ | refine DR_q _ ?_ | ((first | refine WG_mk ?_ ?_ | refine CD_mk ?_ ?_ | refine GD_mk ?_ ?_ | refine GQ_mk ?_ ?_ | refine PK_mk ?_ ?_) <;> intro hg <;> (try simp only [hg]) <;> (try simp only [bunB, ne_eq] at hg) <;> first | (exfalso; omega) | (exfalso; exact Bool.noConfusion hg) | (exfalso; exact hg trivial) | skip) | refine And.intro (by omega) ?_ | omega
theorem foldSmall_spec (s : List UInt8) : Spec Try.prog 7 [Sv s] (Bv true) := by
  refine spec_mk (z := false) (ts := [.tmp 2]) ok1 Try.func7 rfl rfl (by decide +kernel) (by simp [Try.ntmps7]) rfl ?_
  by_cases hs : s.length ≤ 200
  · have hl := runes_len s
    have c1 := fold_spec s (by omega)
    obtain ⟨X, o, L, x1, x2, x3, x4⟩ : ∃ X o L, foldS s = (X, o) ∧ X.length ≤ 40000 ∧ runes X = (L, -1) ∧ ∀ r ∈ L, lw r = r := by
      by_cases h0 : 0 ≤ (runes s).2
      · exact ⟨[], false, [], by unfold foldS; rw [if_pos h0], by decide, rfl, by simp⟩
      · obtain ⟨X, x1, x2, x3, _⟩ := foldS_key (s := s) (by omega) h0
        exact ⟨X, true, _, x1, x2, x3, fx_fold _⟩
    have u1 := utfRunes_spec X (by omega)
    have ok := runes_ok X
    have hXl := runes_len X
    rw [x3] at u1 ok hXl
    dsimp only at u1 ok hXl
    rw [x1] at c1
    dsimp only at c1
    rw [← tabBox_eq] at c1
    cases o
    all_goals
      repeat' first | refine WE_fit (small4_spec) ?_ ?_ | refine WE_fit (new_box4) ?_ ?_ | refine WE_fit (c1) ?_ ?_ | refine WE_fit (u1) ?_ ?_ | simp (maxSteps := 4000000) (disch := omega) only [bunD, bun, ↓WG_true, ↓WG_false, labelOf, findLabel, Nat.reduceEqDiff, ↓reduceIte, imp, shift, killO, cond_true, cond_false, Nat.reduceBEq, hasId, Nat.reduceAdd, Nat.reduceMul, Nat.reduceSub, Nat.reduceLeDiff, reduceCtorEq, Int.reduceNe, Int.reduceLE, Int.reduceEq, ne_eq, Int.reducePow, Int.reduceAdd, Int.reduceSub, Int.reduceMul, unown, names, plainR, Int.reduceBEq, Int.reduceLT, Int.reduceGT, Int.reduceGE, Int.reduceBNe, below, noF, isF, lendObs, lendOb, kindOk, ren, givL, updM, backO, renO, belowM, B3, B4, B9, B21, B22, B24, B25, B26, B27, B28, B30, B53, B55, B71, B74, B76, bunN, Int.reduceToNat, tbB2, List.map_nil, List.nil_append] | exact NK_no _ | refine NK_cl _ _ ?_ | exact clean_v _ | exact clean_u8 _ _ _ _ | exact clean_i32 _ _ _ _ | exact clean_str _ _ _ _ | refine clean_tup _ ?_ | refine clean_ag _ ?_ | exact cleans_nil | refine cleans_cons _ _ ?_ ?_ | refine DR_q _ ?_ | ((first | refine WG_mk ?_ ?_ | refine CD_mk ?_ ?_ | refine GD_mk ?_ ?_ | refine GQ_mk ?_ ?_ | refine PK_mk ?_ ?_) <;> intro hg <;> (try simp only [hg]) <;> (try simp only [bunB, ne_eq] at hg) <;> first | (exfalso; omega) | (exfalso; exact Bool.noConfusion hg) | (exfalso; exact hg trivial) | skip) | refine And.intro (by omega) ?_ | omega
      refine LP_intro (fun i : Nat => ⟨[(3, Bv true), (4, .ptr 0 0), (7, .ref 1 0 L.length), (9, I64 i)], [.row true 1 tabBox, .arr 21 1 (L.map I32)]⟩) (fun i => i ≤ L.length) (fun i => L.length - i) 0 (by simp) (by (simp (disch := omega) [wk, wkT, wkM, noF, isF, get, belowT, belowM, below, belows, I64, I32, Bv, U8, Sv, tb_bel] <;> try omega)) ?_
      intro i hi
      by_cases hlt : i < L.length
      · have hm := fx_small (x4 (L.getD i 0) (by simp [List.getD, hlt]))
        have hw : ¬ (65281 ≤ L.getD i 0 ∧ L.getD i 0 ≤ 65374) := by simpa [wide] using hm.2
        have hc := hm.1
        have k1 := cat_spec (L.getD i 0)
        rw [← tabBox_eq] at k1
        repeat' first | refine WE_fit (k1) ?_ ?_ | simp (maxSteps := 4000000) (disch := omega) only [bunD, bun, ↓WG_true, ↓WG_false, labelOf, findLabel, Nat.reduceEqDiff, ↓reduceIte, imp, shift, killO, cond_true, cond_false, Nat.reduceBEq, hasId, Nat.reduceAdd, Nat.reduceMul, Nat.reduceSub, Nat.reduceLeDiff, reduceCtorEq, Int.reduceNe, Int.reduceLE, Int.reduceEq, ne_eq, Int.reducePow, Int.reduceAdd, Int.reduceSub, Int.reduceMul, unown, names, plainR, Int.reduceBEq, Int.reduceLT, Int.reduceGT, Int.reduceGE, Int.reduceBNe, below, noF, isF, lendObs, lendOb, kindOk, ren, givL, updM, backO, renO, belowM, B3, B4, B9, B21, B22, B24, B25, B26, B27, B28, B30, B53, B55, B71, B74, B76, bunN, Int.reduceToNat, tbB2, List.map_nil, List.nil_append] | exact NK_no _ | refine NK_cl _ _ ?_ | exact clean_v _ | exact clean_u8 _ _ _ _ | exact clean_i32 _ _ _ _ | exact clean_str _ _ _ _ | refine clean_tup _ ?_ | refine clean_ag _ ?_ | exact cleans_nil | refine cleans_cons _ _ ?_ ?_ | refine DR_q _ ?_ | ((first | refine WG_mk ?_ ?_ | refine CD_mk ?_ ?_ | refine GD_mk ?_ ?_ | refine GQ_mk ?_ ?_ | refine PK_mk ?_ ?_) <;> intro hg <;> (try simp only [hg]) <;> (try simp only [bunB, ne_eq] at hg) <;> first | (exfalso; omega) | (exfalso; exact Bool.noConfusion hg) | (exfalso; exact hg trivial) | skip) | refine And.intro (by omega) ?_ | omega
        all_goals exact ⟨i + 1, by omega, by omega, by (simp (disch := omega) [wk, wkT, wkM, noF, isF, get, belowT, belowM, below, belows, I64, I32, Bv, U8, Sv, tb_bel] <;> try omega)⟩
      · repeat' first | simp (maxSteps := 4000000) (disch := omega) only [bunD, bun, ↓WG_true, ↓WG_false, labelOf, findLabel, Nat.reduceEqDiff, ↓reduceIte, imp, shift, killO, cond_true, cond_false, Nat.reduceBEq, hasId, Nat.reduceAdd, Nat.reduceMul, Nat.reduceSub, Nat.reduceLeDiff, reduceCtorEq, Int.reduceNe, Int.reduceLE, Int.reduceEq, ne_eq, Int.reducePow, Int.reduceAdd, Int.reduceSub, Int.reduceMul, unown, names, plainR, Int.reduceBEq, Int.reduceLT, Int.reduceGT, Int.reduceGE, Int.reduceBNe, below, noF, isF, lendObs, lendOb, kindOk, ren, givL, updM, backO, renO, belowM, B3, B4, B9, B21, B22, B24, B25, B26, B27, B28, B30, B53, B55, B71, B74, B76, bunN, Int.reduceToNat, tbB2, List.map_nil, List.nil_append] | refine DR_q _ ?_ | ((first | refine WG_mk ?_ ?_ | refine CD_mk ?_ ?_ | refine GD_mk ?_ ?_ | refine GQ_mk ?_ ?_ | refine PK_mk ?_ ?_) <;> intro hg <;> (try simp only [hg]) <;> (try simp only [bunB, ne_eq] at hg) <;> first | (exfalso; omega) | (exfalso; exact Bool.noConfusion hg) | (exfalso; exact hg trivial) | skip) | refine And.intro (by omega) ?_ | omega
  · repeat' first | refine WE_fit (small4_spec) ?_ ?_ | simp (maxSteps := 4000000) (disch := omega) only [bunD, bun, ↓WG_true, ↓WG_false, labelOf, findLabel, Nat.reduceEqDiff, ↓reduceIte, imp, shift, killO, cond_true, cond_false, Nat.reduceBEq, hasId, Nat.reduceAdd, Nat.reduceMul, Nat.reduceSub, Nat.reduceLeDiff, reduceCtorEq, Int.reduceNe, Int.reduceLE, Int.reduceEq, ne_eq, Int.reducePow, Int.reduceAdd, Int.reduceSub, Int.reduceMul, unown, names, plainR, Int.reduceBEq, Int.reduceLT, Int.reduceGT, Int.reduceGE, Int.reduceBNe, below, noF, isF, lendObs, lendOb, kindOk, ren, givL, updM, backO, renO, belowM, B3, B4, B9, B21, B22, B24, B25, B26, B27, B28, B30, B53, B55, B71, B74, B76, bunN, Int.reduceToNat, tbB2, List.map_nil, List.nil_append] | exact NK_no _ | refine NK_cl _ _ ?_ | exact clean_v _ | exact clean_u8 _ _ _ _ | exact clean_i32 _ _ _ _ | exact clean_str _ _ _ _ | refine clean_tup _ ?_ | refine clean_ag _ ?_ | exact cleans_nil | refine cleans_cons _ _ ?_ ?_ | refine DR_q _ ?_ | ((first | refine WG_mk ?_ ?_ | refine CD_mk ?_ ?_ | refine GD_mk ?_ ?_ | refine GQ_mk ?_ ?_ | refine PK_mk ?_ ?_) <;> intro hg <;> (try simp only [hg]) <;> (try simp only [bunB, ne_eq] at hg) <;> first | (exfalso; omega) | (exfalso; exact Bool.noConfusion hg) | (exfalso; exact hg trivial) | skip) | refine And.intro (by omega) ?_ | omega
end Go.AE
end
section
/- Fold: FoldTells, FoldParts. -/
namespace Go.AE
open Go.Proofs
set_option maxRecDepth 20000
set_option maxHeartbeats 8000000
set_option linter.unusedSimpArgs false
theorem rep_set4 (A : List Int) (x : Int) (i : Nat) (h : i < A.length) : (List.replicate i x ++ A.drop i).set i x = List.replicate (i + 1) x ++ A.drop (i + 1) := by
  have hd : A.drop i = A.getD i 0 :: A.drop (i + 1) := by rw [List.drop_eq_getElem_cons h]; simp [List.getD, h]
  rw [hd, set_mid (by simp), List.replicate_succ']
  simp
theorem foldParts_spec (a b : List Int) (ha : ∀ r ∈ a, okR r) (hb : ∀ r ∈ b, okR r) : Spec Try.prog 4 [.sl a.length (a.map I32), .sl b.length (b.map I32)] (Bv true) := by
  refine spec_mk (z := false) (ts := [.tmp 4]) ok1 Try.func4 rfl rfl (by decide +kernel) (by simp [Try.ntmps4]) rfl ?_
  by_cases hl : a.length ≤ 100
  · by_cases hl2 : b.length ≤ 100
    · have w1 := width_spec a (by omega) ha
      have w2 := width_spec b (by omega) hb
      have v1 := lowers_spec4 a (by omega) ha
      have v2 := lowers_spec4 b (by omega) hb
      have hab : ∀ r ∈ a ++ b, okR r := fun r hr => by
        rcases List.mem_append.1 hr with h | h
        · exact ha r h
        · exact hb r h
      have w3 := width_spec (a ++ b) (by simp; omega) hab
      have v3 := lowers_spec4 (a ++ b) (by simp; omega) hab
      have s1 := same_spec ((a ++ b).map nar) ((a ++ b).map nar) (by simp; omega)
      have s2 := same_spec ((a ++ b).map low) ((a ++ b).map low) (by simp; omega)
      rw [decide_eq_true rfl] at s1 s2
      rw [List.map_append] at s1 s2 w3 v3
      simp only [List.map_append, List.length_append, List.length_map] at w3 v3 s1 s2
      rw [← tabBox_eq] at w1 w2 w3 v1 v2 v3
      have k1 : List.take a.length ((a.map nar).map I32) = (a.map nar).map I32 := List.take_of_length_le (by simp)
      have k2 : List.take b.length ((b.map nar).map I32) = (b.map nar).map I32 := List.take_of_length_le (by simp)
      have k3 : List.take a.length ((a.map low).map I32) = (a.map low).map I32 := List.take_of_length_le (by simp)
      have k4 : List.take b.length ((b.map low).map I32) = (b.map low).map I32 := List.take_of_length_le (by simp)
      have k5 : List.take b.length (b.map I32) = b.map I32 := List.take_of_length_le (by simp)
      have k7 : List.take (a.length + b.length) (a.map I32 ++ b.map I32) = a.map I32 ++ b.map I32 := List.take_of_length_le (by simp)
      have k8 : List.take (a.length + b.length) ((a.map nar).map I32 ++ (b.map nar).map I32) = (a.map nar).map I32 ++ (b.map nar).map I32 := List.take_of_length_le (by simp)
      have k9 : List.take (a.length + b.length) ((a.map low).map I32 ++ (b.map low).map I32) = (a.map low).map I32 ++ (b.map low).map I32 := List.take_of_length_le (by simp)
      have k6 : List.take a.length (a.map I32) = a.map I32 := List.take_of_length_le (by simp)
      repeat' first | refine WE_fit (small4_spec) ?_ ?_ | refine WE_fit (new_box4) ?_ ?_ | refine DR_p (.take 1 (.take 4 (.two 0 (.two 2 (.one 3 (.one 5 (.one 6 (.take 7 (.done))))) 3 (.one 2 (.one 5 (.one 6 (.take 7 (.done)))))) 3 (.one 0 (.one 2 (.one 5 (.one 6 (.take 7 (.done))))))))) _ (by decide +kernel) ?_ | refine DR_p (.take 1 (.take 4 (.two 0 (.two 2 (.one 3 (.one 5 (.one 6 (.take 7 (.done))))) 3 (.one 2 (.one 5 (.one 6 (.take 7 (.done)))))) 3 (.one 0 (.one 2 (.one 5 (.one 6 (.take 7 (.done))))))))) _ (by decide +kernel) ?_ | refine WE_fit (w1) ?_ ?_ | refine WE_fit (w2) ?_ ?_ | refine WE_fit (w3) ?_ ?_ | refine WE_fit (v1) ?_ ?_ | refine WE_fit (v2) ?_ ?_ | refine WE_fit (v3) ?_ ?_ | refine WE_fit (s1) ?_ ?_ | refine WE_fit (s2) ?_ ?_ | simp (maxSteps := 4000000) (disch := omega) only [bunD, bun, ↓WG_true, ↓WG_false, labelOf, findLabel, Nat.reduceEqDiff, ↓reduceIte, imp, shift, killO, cond_true, cond_false, Nat.reduceBEq, hasId, Nat.reduceAdd, Nat.reduceMul, Nat.reduceSub, Nat.reduceLeDiff, reduceCtorEq, Int.reduceNe, Int.reduceLE, Int.reduceEq, ne_eq, Int.reducePow, Int.reduceAdd, Int.reduceSub, Int.reduceMul, unown, names, plainR, Int.reduceBEq, Int.reduceLT, Int.reduceGT, Int.reduceGE, Int.reduceBNe, below, noF, isF, lendObs, lendOb, kindOk, ren, givL, updM, backO, renO, belowM, k1, k2, k3, k4, k5, k6, k7, k8, k9, List.length_map, List.map_append, List.length_append, B3, B4, B21, B22, B24, B25, B26, B27, B28, B30, B53, B55, B71, B74, B76, bunN, Int.reduceToNat, tbB2, List.map_nil, List.nil_append] | exact NK_no _ | refine NK_cl _ _ ?_ | exact clean_v _ | exact clean_u8 _ _ _ _ | exact clean_i32 _ _ _ _ | exact clean_str _ _ _ _ | refine clean_tup _ ?_ | refine clean_ag _ ?_ | exact cleans_nil | refine cleans_cons _ _ ?_ ?_ | refine DR_q _ ?_ | ((first | refine WG_mk ?_ ?_ | refine CD_mk ?_ ?_ | refine GD_mk ?_ ?_ | refine GQ_mk ?_ ?_ | refine PK_mk ?_ ?_) <;> intro hg <;> (try simp only [hg]) <;> (try simp only [bunB, ne_eq] at hg) <;> first | (exfalso; omega) | (exfalso; exact Bool.noConfusion hg) | (exfalso; exact hg trivial) | skip) | refine And.intro (by omega) ?_ | omega
      all_goals (repeat' refine And.intro ?_ ?_)
      all_goals (repeat' first | refine WE_fit (w1) ?_ ?_ | refine WE_fit (w2) ?_ ?_ | refine WE_fit (w3) ?_ ?_ | refine WE_fit (v1) ?_ ?_ | refine WE_fit (v2) ?_ ?_ | refine WE_fit (v3) ?_ ?_ | refine WE_fit (s1) ?_ ?_ | refine WE_fit (s2) ?_ ?_ | refine DR_p (.take 1 (.take 4 (.two 0 (.two 2 (.one 3 (.one 5 (.one 6 (.take 7 (.done))))) 3 (.one 2 (.one 5 (.one 6 (.take 7 (.done)))))) 3 (.one 0 (.one 2 (.one 5 (.one 6 (.take 7 (.done))))))))) _ (by decide +kernel) ?_ | refine DR_p (.take 1 (.take 4 (.two 0 (.two 2 (.one 3 (.one 5 (.one 6 (.take 7 (.done))))) 3 (.one 2 (.one 5 (.one 6 (.take 7 (.done)))))) 3 (.one 0 (.one 2 (.one 5 (.one 6 (.take 7 (.done))))))))) _ (by decide +kernel) ?_ | simp (maxSteps := 4000000) (disch := omega) only [bunD, bun, ↓WG_true, ↓WG_false, labelOf, findLabel, Nat.reduceEqDiff, ↓reduceIte, imp, shift, killO, cond_true, cond_false, Nat.reduceBEq, hasId, Nat.reduceAdd, Nat.reduceMul, Nat.reduceSub, Nat.reduceLeDiff, reduceCtorEq, Int.reduceNe, Int.reduceLE, Int.reduceEq, ne_eq, Int.reducePow, Int.reduceAdd, Int.reduceSub, Int.reduceMul, unown, names, plainR, Int.reduceBEq, Int.reduceLT, Int.reduceGT, Int.reduceGE, Int.reduceBNe, below, noF, isF, lendObs, lendOb, kindOk, ren, givL, updM, backO, renO, belowM, k1, k2, k3, k4, k5, k6, k7, k8, k9, List.length_map, List.map_append, List.length_append, B3, B4, B21, B22, B24, B25, B26, B27, B28, B30, B53, B55, B71, B74, B76, bunN, Int.reduceToNat, tbB2, List.map_nil, List.nil_append] | exact NK_no _ | refine NK_cl _ _ ?_ | exact clean_v _ | exact clean_u8 _ _ _ _ | exact clean_i32 _ _ _ _ | exact clean_str _ _ _ _ | refine clean_tup _ ?_ | refine clean_ag _ ?_ | exact cleans_nil | refine cleans_cons _ _ ?_ ?_ | refine DR_q _ ?_ | ((first | refine WG_mk ?_ ?_ | refine CD_mk ?_ ?_ | refine GD_mk ?_ ?_ | refine GQ_mk ?_ ?_ | refine PK_mk ?_ ?_) <;> intro hg <;> (try simp only [hg]) <;> (try simp only [bunB, ne_eq] at hg) <;> first | (exfalso; omega) | (exfalso; exact Bool.noConfusion hg) | (exfalso; exact hg trivial) | skip) | refine And.intro (by omega) ?_ | omega)
      all_goals (repeat' refine And.intro ?_ ?_)
      all_goals (repeat' first | refine WE_fit (w1) ?_ ?_ | refine WE_fit (w2) ?_ ?_ | refine WE_fit (w3) ?_ ?_ | refine WE_fit (v1) ?_ ?_ | refine WE_fit (v2) ?_ ?_ | refine WE_fit (v3) ?_ ?_ | refine WE_fit (s1) ?_ ?_ | refine WE_fit (s2) ?_ ?_ | refine DR_p (.take 1 (.take 4 (.two 0 (.two 2 (.one 3 (.one 5 (.one 6 (.take 7 (.done))))) 3 (.one 2 (.one 5 (.one 6 (.take 7 (.done)))))) 3 (.one 0 (.one 2 (.one 5 (.one 6 (.take 7 (.done))))))))) _ (by decide +kernel) ?_ | refine DR_p (.take 1 (.take 4 (.two 0 (.two 2 (.one 3 (.one 5 (.one 6 (.take 7 (.done))))) 3 (.one 2 (.one 5 (.one 6 (.take 7 (.done)))))) 3 (.one 0 (.one 2 (.one 5 (.one 6 (.take 7 (.done))))))))) _ (by decide +kernel) ?_ | simp (maxSteps := 4000000) (disch := omega) only [bunD, bun, ↓WG_true, ↓WG_false, labelOf, findLabel, Nat.reduceEqDiff, ↓reduceIte, imp, shift, killO, cond_true, cond_false, Nat.reduceBEq, hasId, Nat.reduceAdd, Nat.reduceMul, Nat.reduceSub, Nat.reduceLeDiff, reduceCtorEq, Int.reduceNe, Int.reduceLE, Int.reduceEq, ne_eq, Int.reducePow, Int.reduceAdd, Int.reduceSub, Int.reduceMul, unown, names, plainR, Int.reduceBEq, Int.reduceLT, Int.reduceGT, Int.reduceGE, Int.reduceBNe, below, noF, isF, lendObs, lendOb, kindOk, ren, givL, updM, backO, renO, belowM, k1, k2, k3, k4, k5, k6, k7, k8, k9, List.length_map, List.map_append, List.length_append, B3, B4, B21, B22, B24, B25, B26, B27, B28, B30, B53, B55, B71, B74, B76, bunN, Int.reduceToNat, tbB2, List.map_nil, List.nil_append] | exact NK_no _ | refine NK_cl _ _ ?_ | exact clean_v _ | exact clean_u8 _ _ _ _ | exact clean_i32 _ _ _ _ | exact clean_str _ _ _ _ | refine clean_tup _ ?_ | refine clean_ag _ ?_ | exact cleans_nil | refine cleans_cons _ _ ?_ ?_ | refine DR_q _ ?_ | ((first | refine WG_mk ?_ ?_ | refine CD_mk ?_ ?_ | refine GD_mk ?_ ?_ | refine GQ_mk ?_ ?_ | refine PK_mk ?_ ?_) <;> intro hg <;> (try simp only [hg]) <;> (try simp only [bunB, ne_eq] at hg) <;> first | (exfalso; omega) | (exfalso; exact Bool.noConfusion hg) | (exfalso; exact hg trivial) | skip) | refine And.intro (by omega) ?_ | omega)
      all_goals (repeat' refine And.intro ?_ ?_)
      all_goals (repeat' first | refine WE_fit (w1) ?_ ?_ | refine WE_fit (w2) ?_ ?_ | refine WE_fit (w3) ?_ ?_ | refine WE_fit (v1) ?_ ?_ | refine WE_fit (v2) ?_ ?_ | refine WE_fit (v3) ?_ ?_ | refine WE_fit (s1) ?_ ?_ | refine WE_fit (s2) ?_ ?_ | refine DR_p (.take 1 (.take 4 (.two 0 (.two 2 (.one 3 (.one 5 (.one 6 (.take 7 (.done))))) 3 (.one 2 (.one 5 (.one 6 (.take 7 (.done)))))) 3 (.one 0 (.one 2 (.one 5 (.one 6 (.take 7 (.done))))))))) _ (by decide +kernel) ?_ | refine DR_p (.take 1 (.take 4 (.two 0 (.two 2 (.one 3 (.one 5 (.one 6 (.take 7 (.done))))) 3 (.one 2 (.one 5 (.one 6 (.take 7 (.done)))))) 3 (.one 0 (.one 2 (.one 5 (.one 6 (.take 7 (.done))))))))) _ (by decide +kernel) ?_ | simp (maxSteps := 4000000) (disch := omega) only [bunD, bun, ↓WG_true, ↓WG_false, labelOf, findLabel, Nat.reduceEqDiff, ↓reduceIte, imp, shift, killO, cond_true, cond_false, Nat.reduceBEq, hasId, Nat.reduceAdd, Nat.reduceMul, Nat.reduceSub, Nat.reduceLeDiff, reduceCtorEq, Int.reduceNe, Int.reduceLE, Int.reduceEq, ne_eq, Int.reducePow, Int.reduceAdd, Int.reduceSub, Int.reduceMul, unown, names, plainR, Int.reduceBEq, Int.reduceLT, Int.reduceGT, Int.reduceGE, Int.reduceBNe, below, noF, isF, lendObs, lendOb, kindOk, ren, givL, updM, backO, renO, belowM, k1, k2, k3, k4, k5, k6, k7, k8, k9, List.length_map, List.map_append, List.length_append, B3, B4, B21, B22, B24, B25, B26, B27, B28, B30, B53, B55, B71, B74, B76, bunN, Int.reduceToNat, tbB2, List.map_nil, List.nil_append] | exact NK_no _ | refine NK_cl _ _ ?_ | exact clean_v _ | exact clean_u8 _ _ _ _ | exact clean_i32 _ _ _ _ | exact clean_str _ _ _ _ | refine clean_tup _ ?_ | refine clean_ag _ ?_ | exact cleans_nil | refine cleans_cons _ _ ?_ ?_ | refine DR_q _ ?_ | ((first | refine WG_mk ?_ ?_ | refine CD_mk ?_ ?_ | refine GD_mk ?_ ?_ | refine GQ_mk ?_ ?_ | refine PK_mk ?_ ?_) <;> intro hg <;> (try simp only [hg]) <;> (try simp only [bunB, ne_eq] at hg) <;> first | (exfalso; omega) | (exfalso; exact Bool.noConfusion hg) | (exfalso; exact hg trivial) | skip) | refine And.intro (by omega) ?_ | omega)
      all_goals (repeat' refine And.intro ?_ ?_)
      all_goals (repeat' first | refine WE_fit (w1) ?_ ?_ | refine WE_fit (w2) ?_ ?_ | refine WE_fit (w3) ?_ ?_ | refine WE_fit (v1) ?_ ?_ | refine WE_fit (v2) ?_ ?_ | refine WE_fit (v3) ?_ ?_ | refine WE_fit (s1) ?_ ?_ | refine WE_fit (s2) ?_ ?_ | refine DR_p (.take 1 (.take 4 (.two 0 (.two 2 (.one 3 (.one 5 (.one 6 (.take 7 (.done))))) 3 (.one 2 (.one 5 (.one 6 (.take 7 (.done)))))) 3 (.one 0 (.one 2 (.one 5 (.one 6 (.take 7 (.done))))))))) _ (by decide +kernel) ?_ | refine DR_p (.take 1 (.take 4 (.two 0 (.two 2 (.one 3 (.one 5 (.one 6 (.take 7 (.done))))) 3 (.one 2 (.one 5 (.one 6 (.take 7 (.done)))))) 3 (.one 0 (.one 2 (.one 5 (.one 6 (.take 7 (.done))))))))) _ (by decide +kernel) ?_ | simp (maxSteps := 4000000) (disch := omega) only [bunD, bun, ↓WG_true, ↓WG_false, labelOf, findLabel, Nat.reduceEqDiff, ↓reduceIte, imp, shift, killO, cond_true, cond_false, Nat.reduceBEq, hasId, Nat.reduceAdd, Nat.reduceMul, Nat.reduceSub, Nat.reduceLeDiff, reduceCtorEq, Int.reduceNe, Int.reduceLE, Int.reduceEq, ne_eq, Int.reducePow, Int.reduceAdd, Int.reduceSub, Int.reduceMul, unown, names, plainR, Int.reduceBEq, Int.reduceLT, Int.reduceGT, Int.reduceGE, Int.reduceBNe, below, noF, isF, lendObs, lendOb, kindOk, ren, givL, updM, backO, renO, belowM, k1, k2, k3, k4, k5, k6, k7, k8, k9, List.length_map, List.map_append, List.length_append, B3, B4, B21, B22, B24, B25, B26, B27, B28, B30, B53, B55, B71, B74, B76, bunN, Int.reduceToNat, tbB2, List.map_nil, List.nil_append] | exact NK_no _ | refine NK_cl _ _ ?_ | exact clean_v _ | exact clean_u8 _ _ _ _ | exact clean_i32 _ _ _ _ | exact clean_str _ _ _ _ | refine clean_tup _ ?_ | refine clean_ag _ ?_ | exact cleans_nil | refine cleans_cons _ _ ?_ ?_ | refine DR_q _ ?_ | ((first | refine WG_mk ?_ ?_ | refine CD_mk ?_ ?_ | refine GD_mk ?_ ?_ | refine GQ_mk ?_ ?_ | refine PK_mk ?_ ?_) <;> intro hg <;> (try simp only [hg]) <;> (try simp only [bunB, ne_eq] at hg) <;> first | (exfalso; omega) | (exfalso; exact Bool.noConfusion hg) | (exfalso; exact hg trivial) | skip) | refine And.intro (by omega) ?_ | omega)
      all_goals (rw [← List.map_append]; exact clean_i32 _ _ _ _)
    · repeat' first | refine WE_fit (small4_spec) ?_ ?_ | simp (maxSteps := 4000000) (disch := omega) only [bunD, bun, ↓WG_true, ↓WG_false, labelOf, findLabel, Nat.reduceEqDiff, ↓reduceIte, imp, shift, killO, cond_true, cond_false, Nat.reduceBEq, hasId, Nat.reduceAdd, Nat.reduceMul, Nat.reduceSub, Nat.reduceLeDiff, reduceCtorEq, Int.reduceNe, Int.reduceLE, Int.reduceEq, ne_eq, Int.reducePow, Int.reduceAdd, Int.reduceSub, Int.reduceMul, unown, names, plainR, Int.reduceBEq, Int.reduceLT, Int.reduceGT, Int.reduceGE, Int.reduceBNe, below, noF, isF, lendObs, lendOb, kindOk, ren, givL, updM, backO, renO, belowM, B3, B4, B21, B22, B24, B25, B26, B27, B28, B30, B53, B55, B71, B74, B76, bunN, Int.reduceToNat, tbB2, List.map_nil, List.nil_append] | exact NK_no _ | refine NK_cl _ _ ?_ | exact clean_v _ | exact clean_u8 _ _ _ _ | exact clean_i32 _ _ _ _ | exact clean_str _ _ _ _ | refine clean_tup _ ?_ | refine clean_ag _ ?_ | exact cleans_nil | refine cleans_cons _ _ ?_ ?_ | refine DR_q _ ?_ | ((first | refine WG_mk ?_ ?_ | refine CD_mk ?_ ?_ | refine GD_mk ?_ ?_ | refine GQ_mk ?_ ?_ | refine PK_mk ?_ ?_) <;> intro hg <;> (try simp only [hg]) <;> (try simp only [bunB, ne_eq] at hg) <;> first | (exfalso; omega) | (exfalso; exact Bool.noConfusion hg) | (exfalso; exact hg trivial) | skip) | refine And.intro (by omega) ?_ | omega
  · repeat' first | refine WE_fit (small4_spec) ?_ ?_ | simp (maxSteps := 4000000) (disch := omega) only [bunD, bun, ↓WG_true, ↓WG_false, labelOf, findLabel, Nat.reduceEqDiff, ↓reduceIte, imp, shift, killO, cond_true, cond_false, Nat.reduceBEq, hasId, Nat.reduceAdd, Nat.reduceMul, Nat.reduceSub, Nat.reduceLeDiff, reduceCtorEq, Int.reduceNe, Int.reduceLE, Int.reduceEq, ne_eq, Int.reducePow, Int.reduceAdd, Int.reduceSub, Int.reduceMul, unown, names, plainR, Int.reduceBEq, Int.reduceLT, Int.reduceGT, Int.reduceGE, Int.reduceBNe, below, noF, isF, lendObs, lendOb, kindOk, ren, givL, updM, backO, renO, belowM, B3, B4, B21, B22, B24, B25, B26, B27, B28, B30, B53, B55, B71, B74, B76, bunN, Int.reduceToNat, tbB2, List.map_nil, List.nil_append] | exact NK_no _ | refine NK_cl _ _ ?_ | exact clean_v _ | exact clean_u8 _ _ _ _ | exact clean_i32 _ _ _ _ | exact clean_str _ _ _ _ | refine clean_tup _ ?_ | refine clean_ag _ ?_ | exact cleans_nil | refine cleans_cons _ _ ?_ ?_ | refine DR_q _ ?_ | ((first | refine WG_mk ?_ ?_ | refine CD_mk ?_ ?_ | refine GD_mk ?_ ?_ | refine GQ_mk ?_ ?_ | refine PK_mk ?_ ?_) <;> intro hg <;> (try simp only [hg]) <;> (try simp only [bunB, ne_eq] at hg) <;> first | (exfalso; omega) | (exfalso; exact Bool.noConfusion hg) | (exfalso; exact hg trivial) | skip) | refine And.intro (by omega) ?_ | omega
theorem foldTells_spec (l : List Int) (s b : List UInt8) (hr : ∀ r ∈ l, okR r) : Spec Try.prog 3 [.sl l.length (l.map I32), Sv s, Sv b] (Bv true) := by
  refine spec_mk (z := false) (ts := [.tmp 6]) ok1 Try.func3 rfl rfl (by decide +kernel) (by simp [Try.ntmps3]) rfl ?_
  by_cases hl : l.length ≤ 150
  · by_cases hs : s.length ≤ 200
    · by_cases hb : b.length ≤ 200
      · have c1 := fold_spec s (by omega)
        have r1 := rfold_spec s (by omega)
        have r2 := rfold_spec b (by omega)
        have w1 := width_spec l (by omega) hr
        have v1 := lowers_spec4 l (by omega) hr
        have w2 := rwidth_spec l (by omega)
        have v2 := rlowers_spec l (by omega)
        have s1 := same_spec (l.map nar) (l.map nar) (by simp; omega)
        have s2 := same_spec (l.map low) (l.map low) (by simp; omega)
        rw [decide_eq_true rfl] at s1 s2
        rw [List.length_map] at s1 s2
        have a1 := alike_spec s b (by omega) (by omega)
        have p1 := plain_spec s (by omega)
        have p2 := rplain_spec s (by omega)
        have bb : (plS s == plS s) = true := by simp
        rw [← tabBox_eq] at c1 w1 v1 a1
        unfold alB at a1
        generalize foldS s = x at *
        generalize foldS b = y at *
        obtain ⟨x1, x2⟩ := x
        obtain ⟨y1, y2⟩ := y
        have bx : (x1 == x1) = true := by simp
        have k1 : List.take l.length ((l.map nar).map I32) = (l.map nar).map I32 := List.take_of_length_le (by simp)
        have k2 : List.take l.length ((l.map low).map I32) = (l.map low).map I32 := List.take_of_length_le (by simp)
        have hln : (l.map nar).length = l.length := List.length_map ..
        repeat' first | refine WE_fit (small4_spec) ?_ ?_ | refine WE_fit (new_box4) ?_ ?_ | refine WE_fit (c1) ?_ ?_ | refine WE_fit (r1) ?_ ?_ | refine WE_fit (r2) ?_ ?_ | refine WE_fit (w1) ?_ ?_ | refine WE_fit (v1) ?_ ?_ | refine WE_fit (w2) ?_ ?_ | refine WE_fit (v2) ?_ ?_ | refine WE_fit (s1) ?_ ?_ | refine WE_fit (s2) ?_ ?_ | simp (maxSteps := 4000000) (disch := omega) only [bunD, bun, ↓WG_true, ↓WG_false, labelOf, findLabel, Nat.reduceEqDiff, ↓reduceIte, imp, shift, killO, cond_true, cond_false, Nat.reduceBEq, hasId, Nat.reduceAdd, Nat.reduceMul, Nat.reduceSub, Nat.reduceLeDiff, reduceCtorEq, Int.reduceNe, Int.reduceLE, Int.reduceEq, ne_eq, Int.reducePow, Int.reduceAdd, Int.reduceSub, Int.reduceMul, unown, names, plainR, Int.reduceBEq, Int.reduceLT, Int.reduceGT, Int.reduceGE, Int.reduceBNe, below, noF, isF, lendObs, lendOb, kindOk, ren, givL, updM, backO, renO, belowM, List.length_map, k1, k2, B3, B4, B9, B21, B22, B24, B25, B26, B27, B28, B30, B53, B55, B71, B74, B76, bunN, Int.reduceToNat, tbB2, List.map_nil, List.nil_append] | exact NK_no _ | refine NK_cl _ _ ?_ | exact clean_v _ | exact clean_u8 _ _ _ _ | exact clean_i32 _ _ _ _ | exact clean_str _ _ _ _ | refine clean_tup _ ?_ | refine clean_ag _ ?_ | exact cleans_nil | refine cleans_cons _ _ ?_ ?_ | refine DR_q _ ?_ | ((first | refine WG_mk ?_ ?_ | refine CD_mk ?_ ?_ | refine GD_mk ?_ ?_ | refine GQ_mk ?_ ?_ | refine PK_mk ?_ ?_) <;> intro hg <;> (try simp only [hg]) <;> (try simp only [bunB, ne_eq] at hg) <;> first | (exfalso; omega) | (exfalso; exact Bool.noConfusion hg) | (exfalso; exact hg trivial) | skip) | refine And.intro (by omega) ?_ | omega
        refine LP_intro (fun i : Nat => ⟨[(0, .sl l.length (l.map I32)), (1, Sv s), (2, Sv b), (6, Bv false), (7, Bv true), (8, .ptr 0 0), (9, Sv x1), (10, Bv x2), (11, Sv x1), (12, Bv x2), (13, Sv y1), (14, Bv y2), (15, .ref 1 0 l.length), (16, .ref 2 0 l.length), (17, Bv true), (18, I64 i)], [.row true 1 tabBox, .arr 21 1 ((List.replicate i (-7 : Int) ++ (l.map nar).drop i).map I32), .arr 21 1 ((l.map low).map I32)]⟩) (fun i => i ≤ l.length) (fun i => l.length - i) 0 (by simp) (by (simp (disch := omega) [wk, wkT, wkM, noF, isF, get, belowT, belowM, below, belows, I64, I32, Bv, U8, Sv, List.replicate_zero, tb_bel] <;> try omega)) ?_
        intro i hi
        by_cases hlt : i < l.length
        · have hst := rep_set4 (l.map nar) (-7) i (by omega)
          have hll : (List.replicate i (-7 : Int) ++ (l.map nar).drop i).length = l.length := by simp; omega
          repeat' first | simp (maxSteps := 4000000) (disch := omega) only [bunD, bun, ↓WG_true, ↓WG_false, labelOf, findLabel, Nat.reduceEqDiff, ↓reduceIte, imp, shift, killO, cond_true, cond_false, Nat.reduceBEq, hasId, Nat.reduceAdd, Nat.reduceMul, Nat.reduceSub, Nat.reduceLeDiff, reduceCtorEq, Int.reduceNe, Int.reduceLE, Int.reduceEq, ne_eq, Int.reducePow, Int.reduceAdd, Int.reduceSub, Int.reduceMul, unown, names, plainR, Int.reduceBEq, Int.reduceLT, Int.reduceGT, Int.reduceGE, Int.reduceBNe, below, noF, isF, lendObs, lendOb, kindOk, ren, givL, updM, backO, renO, belowM, setNth_i32, hst, hll, B3, B4, B9, B21, B22, B24, B25, B26, B27, B28, B30, B53, B55, B71, B74, B76, bunN, Int.reduceToNat, tbB2, List.map_nil, List.nil_append] | refine DR_q _ ?_ | ((first | refine WG_mk ?_ ?_ | refine CD_mk ?_ ?_ | refine GD_mk ?_ ?_ | refine GQ_mk ?_ ?_ | refine PK_mk ?_ ?_) <;> intro hg <;> (try simp only [hg]) <;> (try simp only [bunB, ne_eq] at hg) <;> first | (exfalso; omega) | (exfalso; exact Bool.noConfusion hg) | (exfalso; exact hg trivial) | skip) | refine And.intro (by omega) ?_ | omega
          refine ⟨i + 1, by omega, by omega, ?_⟩
          (simp (disch := omega) [wk, wkT, wkM, noF, isF, get, belowT, belowM, below, belows, I64, I32, Bv, U8, Sv, tb_bel] <;> try omega)
        · cases x2 <;> cases y2
          all_goals
            repeat' first | refine WE_fit (v2) ?_ ?_ | refine WE_fit (s2) ?_ ?_ | refine WE_fit (a1) ?_ ?_ | refine WE_fit (p1) ?_ ?_ | refine WE_fit (p2) ?_ ?_ | simp (maxSteps := 4000000) (disch := omega) only [bunD, bun, ↓WG_true, ↓WG_false, labelOf, findLabel, Nat.reduceEqDiff, ↓reduceIte, imp, shift, killO, cond_true, cond_false, Nat.reduceBEq, hasId, Nat.reduceAdd, Nat.reduceMul, Nat.reduceSub, Nat.reduceLeDiff, reduceCtorEq, Int.reduceNe, Int.reduceLE, Int.reduceEq, ne_eq, Int.reducePow, Int.reduceAdd, Int.reduceSub, Int.reduceMul, unown, names, plainR, Int.reduceBEq, Int.reduceLT, Int.reduceGT, Int.reduceGE, Int.reduceBNe, below, noF, isF, lendObs, lendOb, kindOk, ren, givL, updM, backO, renO, belowM, List.length_map, k1, k2, B3, B4, B9, B21, B22, B24, B25, B26, B27, B28, B30, B53, B55, B71, B74, B76, bunN, Int.reduceToNat, tbB2, List.map_nil, List.nil_append] | exact NK_no _ | refine NK_cl _ _ ?_ | exact clean_v _ | exact clean_u8 _ _ _ _ | exact clean_i32 _ _ _ _ | exact clean_str _ _ _ _ | refine clean_tup _ ?_ | refine clean_ag _ ?_ | exact cleans_nil | refine cleans_cons _ _ ?_ ?_ | refine DR_q _ ?_ | ((first | refine WG_mk ?_ ?_ | refine CD_mk ?_ ?_ | refine GD_mk ?_ ?_ | refine GQ_mk ?_ ?_ | refine PK_mk ?_ ?_) <;> intro hg <;> (try simp only [hg]) <;> (try simp only [bunB, ne_eq] at hg) <;> first | (exfalso; omega) | (exfalso; exact Bool.noConfusion hg) | (exfalso; exact hg trivial) | skip) | refine And.intro (by omega) ?_ | omega
      · repeat' first | refine WE_fit (small4_spec) ?_ ?_ | simp (maxSteps := 4000000) (disch := omega) only [bunD, bun, ↓WG_true, ↓WG_false, labelOf, findLabel, Nat.reduceEqDiff, ↓reduceIte, imp, shift, killO, cond_true, cond_false, Nat.reduceBEq, hasId, Nat.reduceAdd, Nat.reduceMul, Nat.reduceSub, Nat.reduceLeDiff, reduceCtorEq, Int.reduceNe, Int.reduceLE, Int.reduceEq, ne_eq, Int.reducePow, Int.reduceAdd, Int.reduceSub, Int.reduceMul, unown, names, plainR, Int.reduceBEq, Int.reduceLT, Int.reduceGT, Int.reduceGE, Int.reduceBNe, below, noF, isF, lendObs, lendOb, kindOk, ren, givL, updM, backO, renO, belowM, B3, B4, B9, B21, B22, B24, B25, B26, B27, B28, B30, B53, B55, B71, B74, B76, bunN, Int.reduceToNat, tbB2, List.map_nil, List.nil_append] | exact NK_no _ | refine NK_cl _ _ ?_ | exact clean_v _ | exact clean_u8 _ _ _ _ | exact clean_i32 _ _ _ _ | exact clean_str _ _ _ _ | refine clean_tup _ ?_ | refine clean_ag _ ?_ | exact cleans_nil | refine cleans_cons _ _ ?_ ?_ | refine DR_q _ ?_ | ((first | refine WG_mk ?_ ?_ | refine CD_mk ?_ ?_ | refine GD_mk ?_ ?_ | refine GQ_mk ?_ ?_ | refine PK_mk ?_ ?_) <;> intro hg <;> (try simp only [hg]) <;> (try simp only [bunB, ne_eq] at hg) <;> first | (exfalso; omega) | (exfalso; exact Bool.noConfusion hg) | (exfalso; exact hg trivial) | skip) | refine And.intro (by omega) ?_ | omega
    · repeat' first | refine WE_fit (small4_spec) ?_ ?_ | simp (maxSteps := 4000000) (disch := omega) only [bunD, bun, ↓WG_true, ↓WG_false, labelOf, findLabel, Nat.reduceEqDiff, ↓reduceIte, imp, shift, killO, cond_true, cond_false, Nat.reduceBEq, hasId, Nat.reduceAdd, Nat.reduceMul, Nat.reduceSub, Nat.reduceLeDiff, reduceCtorEq, Int.reduceNe, Int.reduceLE, Int.reduceEq, ne_eq, Int.reducePow, Int.reduceAdd, Int.reduceSub, Int.reduceMul, unown, names, plainR, Int.reduceBEq, Int.reduceLT, Int.reduceGT, Int.reduceGE, Int.reduceBNe, below, noF, isF, lendObs, lendOb, kindOk, ren, givL, updM, backO, renO, belowM, B3, B4, B9, B21, B22, B24, B25, B26, B27, B28, B30, B53, B55, B71, B74, B76, bunN, Int.reduceToNat, tbB2, List.map_nil, List.nil_append] | exact NK_no _ | refine NK_cl _ _ ?_ | exact clean_v _ | exact clean_u8 _ _ _ _ | exact clean_i32 _ _ _ _ | exact clean_str _ _ _ _ | refine clean_tup _ ?_ | refine clean_ag _ ?_ | exact cleans_nil | refine cleans_cons _ _ ?_ ?_ | refine DR_q _ ?_ | ((first | refine WG_mk ?_ ?_ | refine CD_mk ?_ ?_ | refine GD_mk ?_ ?_ | refine GQ_mk ?_ ?_ | refine PK_mk ?_ ?_) <;> intro hg <;> (try simp only [hg]) <;> (try simp only [bunB, ne_eq] at hg) <;> first | (exfalso; omega) | (exfalso; exact Bool.noConfusion hg) | (exfalso; exact hg trivial) | skip) | refine And.intro (by omega) ?_ | omega
  · repeat' first | refine WE_fit (small4_spec) ?_ ?_ | simp (maxSteps := 4000000) (disch := omega) only [bunD, bun, ↓WG_true, ↓WG_false, labelOf, findLabel, Nat.reduceEqDiff, ↓reduceIte, imp, shift, killO, cond_true, cond_false, Nat.reduceBEq, hasId, Nat.reduceAdd, Nat.reduceMul, Nat.reduceSub, Nat.reduceLeDiff, reduceCtorEq, Int.reduceNe, Int.reduceLE, Int.reduceEq, ne_eq, Int.reducePow, Int.reduceAdd, Int.reduceSub, Int.reduceMul, unown, names, plainR, Int.reduceBEq, Int.reduceLT, Int.reduceGT, Int.reduceGE, Int.reduceBNe, below, noF, isF, lendObs, lendOb, kindOk, ren, givL, updM, backO, renO, belowM, B3, B4, B9, B21, B22, B24, B25, B26, B27, B28, B30, B53, B55, B71, B74, B76, bunN, Int.reduceToNat, tbB2, List.map_nil, List.nil_append] | exact NK_no _ | refine NK_cl _ _ ?_ | exact clean_v _ | exact clean_u8 _ _ _ _ | exact clean_i32 _ _ _ _ | exact clean_str _ _ _ _ | refine clean_tup _ ?_ | refine clean_ag _ ?_ | exact cleans_nil | refine cleans_cons _ _ ?_ ?_ | refine DR_q _ ?_ | ((first | refine WG_mk ?_ ?_ | refine CD_mk ?_ ?_ | refine GD_mk ?_ ?_ | refine GQ_mk ?_ ?_ | refine PK_mk ?_ ?_) <;> intro hg <;> (try simp only [hg]) <;> (try simp only [bunB, ne_eq] at hg) <;> first | (exfalso; omega) | (exfalso; exact Bool.noConfusion hg) | (exfalso; exact hg trivial) | skip) | refine And.intro (by omega) ?_ | omega
end Go.AE
end
