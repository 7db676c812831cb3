/- Contracts of functions that the laws of this seat reach, and plain laws of what they compute. No condition beyond each statement's own. -/
import Derived.Test.YtekgeapohenheaaSK
set_option linter.unusedVariables false
set_option linter.unusedSimpArgs false
section
/- Precis: Class, Name, Alike. -/
namespace Go.AE
open Go.Proofs
set_option maxRecDepth 20000
set_option maxHeartbeats 8000000
set_option linter.unusedSimpArgs false
theorem cells_sl0 : (Value.slice none 0 0).cells.toList = [Value.slice none 0 0] := rfl
theorem all_sl0 : ((Value.slice none 0 0).cells.all fun x => x.oneCell') = true := by decide +kernel
theorem any_take {p : Nat → Bool} {i n : Nat} (h : ∀ j, j < i → p j = false) (hi : i < n) (hp : p i = true) : (List.range n).any p = true := List.any_eq_true.2 ⟨i, List.mem_range.2 hi, hp⟩
theorem any_none {p : Nat → Bool} {n : Nat} (h : ∀ j, j < n → p j = false) : (List.range n).any p = false := by
  rw [List.any_eq_false]
  intro k hk
  rw [h k (List.mem_range.1 hk)]; simp
theorem cla_spec (s : List UInt8) (hs : s.length ≤ 10000000) (hl : (runes s).1.length ≤ 1000) : Spec Try.prog 11 [tab, Sv s] (I64 (claV s)) := by
  have hr := runes_ok s
  have hi : ∀ c ∈ (runes s).1, inI c := fun c hc => by have := hr c hc; unfold okR at this; unfold inI; omega
  have hb := badK_spec (runes s).1 hl hi
  have hu := utfRunes_spec s (by omega)
  rw [← tabBox_eq]
  refine spec_mk (z := false) (ts := [.tmp 4]) ok1 Try.func11 rfl rfl (by decide +kernel) (by simp [Try.ntmps11]) rfl ?_
  unfold claV
  generalize (runes s).1 = L at *
  generalize (runes s).2 = a at *
  by_cases h0 : 0 ≤ a
  · rw [if_pos h0]
    repeat' first | refine WE_fit (hu) ?_ ?_ | simp (maxSteps := 4000000) (disch := omega) only [bunD, bun, ↓WG_true, ↓WG_false, labelOf, findLabel, Nat.reduceEqDiff, ↓reduceIte, imp, shift, killO, cond_true, cond_false, Nat.reduceBEq, hasId, Nat.reduceAdd, Nat.reduceMul, Nat.reduceSub, Nat.reduceLeDiff, reduceCtorEq, Int.reduceNe, Int.reduceLE, Int.reduceEq, ne_eq, Int.reducePow, Int.reduceAdd, Int.reduceSub, Int.reduceMul, unown, names, plainR, Int.reduceBEq, Int.reduceLT, Int.reduceGT, Int.reduceGE, Int.reduceBNe, below, noF, isF, lendObs, lendOb, kindOk, ren, givL, updM, backO, renO, belowM, B3, B4, B9, B21, B23, B24, B25, B26, B27, B29, B31, B50, B52, B53, B60, B67, B69, B71, bunN, Int.reduceToNat, tbB2, List.map_nil, List.nil_append, splitC, cells_sl0, all_sl0, setNth_zero] | exact NK_no _ | refine NK_cl _ _ ?_ | exact clean_v _ | exact clean_u8 _ _ _ _ | exact clean_i32 _ _ _ _ | exact clean_str _ _ _ _ | refine clean_tup _ ?_ | refine clean_ag _ ?_ | exact cleans_nil | refine cleans_cons _ _ ?_ ?_ | refine DR_q _ ?_ | ((first | refine WG_mk ?_ ?_ | refine CD_mk ?_ ?_ | refine GD_mk ?_ ?_ | refine GQ_mk ?_ ?_ | refine PK_mk ?_ ?_) <;> intro hg <;> (try simp only [hg]) <;> (try simp only [bunB, ne_eq] at hg) <;> first | (exfalso; omega) | (exfalso; exact Bool.noConfusion hg) | (exfalso; exact hg trivial) | skip) | refine And.intro (by omega) ?_ | omega
  · rw [if_neg h0]
    by_cases h1 : L.length = 0
    · rw [if_pos h1]
      repeat' first | refine WE_fit (hu) ?_ ?_ | simp (maxSteps := 4000000) (disch := omega) only [bunD, bun, ↓WG_true, ↓WG_false, labelOf, findLabel, Nat.reduceEqDiff, ↓reduceIte, imp, shift, killO, cond_true, cond_false, Nat.reduceBEq, hasId, Nat.reduceAdd, Nat.reduceMul, Nat.reduceSub, Nat.reduceLeDiff, reduceCtorEq, Int.reduceNe, Int.reduceLE, Int.reduceEq, ne_eq, Int.reducePow, Int.reduceAdd, Int.reduceSub, Int.reduceMul, unown, names, plainR, Int.reduceBEq, Int.reduceLT, Int.reduceGT, Int.reduceGE, Int.reduceBNe, below, noF, isF, lendObs, lendOb, kindOk, ren, givL, updM, backO, renO, belowM, h1, B3, B4, B9, B21, B23, B24, B25, B26, B27, B29, B31, B50, B52, B53, B60, B67, B69, B71, bunN, Int.reduceToNat, tbB2, List.map_nil, List.nil_append, splitC, cells_sl0, all_sl0, setNth_zero] | exact NK_no _ | refine NK_cl _ _ ?_ | exact clean_v _ | exact clean_u8 _ _ _ _ | exact clean_i32 _ _ _ _ | exact clean_str _ _ _ _ | refine clean_tup _ ?_ | refine clean_ag _ ?_ | exact cleans_nil | refine cleans_cons _ _ ?_ ?_ | refine DR_q _ ?_ | ((first | refine WG_mk ?_ ?_ | refine CD_mk ?_ ?_ | refine GD_mk ?_ ?_ | refine GQ_mk ?_ ?_ | refine PK_mk ?_ ?_) <;> intro hg <;> (try simp only [hg]) <;> (try simp only [bunB, ne_eq] at hg) <;> first | (exfalso; omega) | (exfalso; exact Bool.noConfusion hg) | (exfalso; exact hg trivial) | skip) | refine And.intro (by omega) ?_ | omega
    · rw [if_neg h1]
      repeat' first | refine WE_fit (hu) ?_ ?_ | simp (maxSteps := 4000000) (disch := omega) only [bunD, bun, ↓WG_true, ↓WG_false, labelOf, findLabel, Nat.reduceEqDiff, ↓reduceIte, imp, shift, killO, cond_true, cond_false, Nat.reduceBEq, hasId, Nat.reduceAdd, Nat.reduceMul, Nat.reduceSub, Nat.reduceLeDiff, reduceCtorEq, Int.reduceNe, Int.reduceLE, Int.reduceEq, ne_eq, Int.reducePow, Int.reduceAdd, Int.reduceSub, Int.reduceMul, unown, names, plainR, Int.reduceBEq, Int.reduceLT, Int.reduceGT, Int.reduceGE, Int.reduceBNe, below, noF, isF, lendObs, lendOb, kindOk, ren, givL, updM, backO, renO, belowM, B3, B4, B9, B21, B23, B24, B25, B26, B27, B29, B31, B50, B52, B53, B60, B67, B69, B71, bunN, Int.reduceToNat, tbB2, List.map_nil, List.nil_append, splitC, cells_sl0, all_sl0, setNth_zero] | exact NK_no _ | refine NK_cl _ _ ?_ | exact clean_v _ | exact clean_u8 _ _ _ _ | exact clean_i32 _ _ _ _ | exact clean_str _ _ _ _ | refine clean_tup _ ?_ | refine clean_ag _ ?_ | exact cleans_nil | refine cleans_cons _ _ ?_ ?_ | refine DR_q _ ?_ | ((first | refine WG_mk ?_ ?_ | refine CD_mk ?_ ?_ | refine GD_mk ?_ ?_ | refine GQ_mk ?_ ?_ | refine PK_mk ?_ ?_) <;> intro hg <;> (try simp only [hg]) <;> (try simp only [bunB, ne_eq] at hg) <;> first | (exfalso; omega) | (exfalso; exact Bool.noConfusion hg) | (exfalso; exact hg trivial) | skip) | refine And.intro (by omega) ?_ | omega
      refine LP_intro (fun i : Nat => ⟨[(2, .ptr 0 0), (5, .ptr 2 0), (7, .fn 26 [] [.ptr 0 0, .ptr 2 0]), (23, I64 L.length), (24, I64 i)], [.row true 1 tabBox, .arr 21 1 (L.map I32), .row true 1 [.ref 1 0 L.length]]⟩) (fun i => i ≤ L.length ∧ ∀ j, j < i → badK L j = false) (fun i => L.length - i) 0 (by simp) (by (simp (disch := omega) [wk, wkT, wkM, noF, isF, get, belowT, belowM, below, belows, I64, I32, Bv, U8, Sv, tb_bel] <;> try omega)) ?_
      rintro i ⟨hi1, hi2⟩
      by_cases hlt : i < L.length
      · have hbi := hb i hlt
        cases hq : badK L i with
        | true =>
          rw [hq] at hbi
          have e : badL L = true := any_take hi2 hlt hq
          repeat' first | refine WE_fit (hbi) ?_ ?_ | simp (maxSteps := 4000000) (disch := omega) only [bunD, bun, ↓WG_true, ↓WG_false, labelOf, findLabel, Nat.reduceEqDiff, ↓reduceIte, imp, shift, killO, cond_true, cond_false, Nat.reduceBEq, hasId, Nat.reduceAdd, Nat.reduceMul, Nat.reduceSub, Nat.reduceLeDiff, reduceCtorEq, Int.reduceNe, Int.reduceLE, Int.reduceEq, ne_eq, Int.reducePow, Int.reduceAdd, Int.reduceSub, Int.reduceMul, unown, names, plainR, Int.reduceBEq, Int.reduceLT, Int.reduceGT, Int.reduceGE, Int.reduceBNe, below, noF, isF, lendObs, lendOb, kindOk, ren, givL, updM, backO, renO, belowM, e, B3, B4, B9, B21, B23, B24, B25, B26, B27, B29, B31, B50, B52, B53, B60, B67, B69, B71, bunN, Int.reduceToNat, tbB2, List.map_nil, List.nil_append, splitC, cells_sl0, all_sl0, setNth_zero] | exact NK_no _ | refine NK_cl _ _ ?_ | exact clean_v _ | exact clean_u8 _ _ _ _ | exact clean_i32 _ _ _ _ | exact clean_str _ _ _ _ | refine clean_tup _ ?_ | refine clean_ag _ ?_ | exact cleans_nil | refine cleans_cons _ _ ?_ ?_ | refine DR_q _ ?_ | ((first | refine WG_mk ?_ ?_ | refine CD_mk ?_ ?_ | refine GD_mk ?_ ?_ | refine GQ_mk ?_ ?_ | refine PK_mk ?_ ?_) <;> intro hg <;> (try simp only [hg]) <;> (try simp only [bunB, ne_eq] at hg) <;> first | (exfalso; omega) | (exfalso; exact Bool.noConfusion hg) | (exfalso; exact hg trivial) | skip) | refine And.intro (by omega) ?_ | omega
          all_goals trace_state
        | false =>
          rw [hq] at hbi
          repeat' first | refine WE_fit (hbi) ?_ ?_ | simp (maxSteps := 4000000) (disch := omega) only [bunD, bun, ↓WG_true, ↓WG_false, labelOf, findLabel, Nat.reduceEqDiff, ↓reduceIte, imp, shift, killO, cond_true, cond_false, Nat.reduceBEq, hasId, Nat.reduceAdd, Nat.reduceMul, Nat.reduceSub, Nat.reduceLeDiff, reduceCtorEq, Int.reduceNe, Int.reduceLE, Int.reduceEq, ne_eq, Int.reducePow, Int.reduceAdd, Int.reduceSub, Int.reduceMul, unown, names, plainR, Int.reduceBEq, Int.reduceLT, Int.reduceGT, Int.reduceGE, Int.reduceBNe, below, noF, isF, lendObs, lendOb, kindOk, ren, givL, updM, backO, renO, belowM, B3, B4, B9, B21, B23, B24, B25, B26, B27, B29, B31, B50, B52, B53, B60, B67, B69, B71, bunN, Int.reduceToNat, tbB2, List.map_nil, List.nil_append, splitC, cells_sl0, all_sl0, setNth_zero] | exact NK_no _ | refine NK_cl _ _ ?_ | exact clean_v _ | exact clean_u8 _ _ _ _ | exact clean_i32 _ _ _ _ | exact clean_str _ _ _ _ | refine clean_tup _ ?_ | refine clean_ag _ ?_ | exact cleans_nil | refine cleans_cons _ _ ?_ ?_ | refine DR_q _ ?_ | ((first | refine WG_mk ?_ ?_ | refine CD_mk ?_ ?_ | refine GD_mk ?_ ?_ | refine GQ_mk ?_ ?_ | refine PK_mk ?_ ?_) <;> intro hg <;> (try simp only [hg]) <;> (try simp only [bunB, ne_eq] at hg) <;> first | (exfalso; omega) | (exfalso; exact Bool.noConfusion hg) | (exfalso; exact hg trivial) | skip) | refine And.intro (by omega) ?_ | omega
          refine ⟨i + 1, ⟨by omega, fun j hj => ?_⟩, by omega, by (simp (disch := omega) [wk, wkT, wkM, noF, isF, get, belowT, belowM, below, belows, I64, I32, Bv, U8, Sv, tb_bel] <;> try omega)⟩
          by_cases hji : j = i
          · subst hji; exact hq
          · exact hi2 j (by omega)
      · have e : badL L = false := any_none fun j hj => hi2 j (by omega)
        repeat' first | refine WE_fit (hu) ?_ ?_ | simp (maxSteps := 4000000) (disch := omega) only [bunD, bun, ↓WG_true, ↓WG_false, labelOf, findLabel, Nat.reduceEqDiff, ↓reduceIte, imp, shift, killO, cond_true, cond_false, Nat.reduceBEq, hasId, Nat.reduceAdd, Nat.reduceMul, Nat.reduceSub, Nat.reduceLeDiff, reduceCtorEq, Int.reduceNe, Int.reduceLE, Int.reduceEq, ne_eq, Int.reducePow, Int.reduceAdd, Int.reduceSub, Int.reduceMul, unown, names, plainR, Int.reduceBEq, Int.reduceLT, Int.reduceGT, Int.reduceGE, Int.reduceBNe, below, noF, isF, lendObs, lendOb, kindOk, ren, givL, updM, backO, renO, belowM, e, B3, B4, B9, B21, B23, B24, B25, B26, B27, B29, B31, B50, B52, B53, B60, B67, B69, B71, bunN, Int.reduceToNat, tbB2, List.map_nil, List.nil_append, splitC, cells_sl0, all_sl0, setNth_zero] | exact NK_no _ | refine NK_cl _ _ ?_ | exact clean_v _ | exact clean_u8 _ _ _ _ | exact clean_i32 _ _ _ _ | exact clean_str _ _ _ _ | refine clean_tup _ ?_ | refine clean_ag _ ?_ | exact cleans_nil | refine cleans_cons _ _ ?_ ?_ | refine DR_q _ ?_ | ((first | refine WG_mk ?_ ?_ | refine CD_mk ?_ ?_ | refine GD_mk ?_ ?_ | refine GQ_mk ?_ ?_ | refine PK_mk ?_ ?_) <;> intro hg <;> (try simp only [hg]) <;> (try simp only [bunB, ne_eq] at hg) <;> first | (exfalso; omega) | (exfalso; exact Bool.noConfusion hg) | (exfalso; exact hg trivial) | skip) | refine And.intro (by omega) ?_ | omega
        all_goals trace_state
theorem nam_core (s X : List UInt8) (o : Bool) (hs : s.length ≤ 10000000) (hl : (runes s).1.length ≤ 10000) (e1 : foldS s = (X, o)) (e2 : X.length ≤ 10000000) (e3 : (runes X).1.length ≤ 1000) : Spec Try.prog 8 [tab, Sv s] (.tup [Sv (namV s).1, I64 (namV s).2]) := by
  have c1 := fold_spec' s hs hl
  have c2 := cla_spec X e2 e3
  have c3 := utfRunes_spec X (by omega)
  have c4 := has_spec (runes X).1 e3
  have c5 := rule_spec6 (runes X).1 e3
  unfold namV
  rw [e1] at c1 ⊢
  rw [← tabBox_eq] at c1 c2 c4 c5 ⊢
  refine spec_mk (z := false) (ts := [.tmp 4, .tmp 5]) ok1 Try.func8 rfl rfl (by decide +kernel) (by simp [Try.ntmps8]) rfl ?_
  unfold namR
  dsimp only at c1 ⊢
  generalize claV X = e at *
  generalize hasB (runes X).1 = b1 at *
  generalize ruleB (runes X).1 = b2 at *
  generalize (runes X).1 = L at *
  generalize (runes X).2 = a at *
  cases o with
  | false =>
    repeat' first | refine WE_fit (c1) ?_ ?_ | simp (maxSteps := 4000000) (disch := omega) only [bunD, bun, ↓WG_true, ↓WG_false, labelOf, findLabel, Nat.reduceEqDiff, ↓reduceIte, imp, shift, killO, cond_true, cond_false, Nat.reduceBEq, hasId, Nat.reduceAdd, Nat.reduceMul, Nat.reduceSub, Nat.reduceLeDiff, reduceCtorEq, Int.reduceNe, Int.reduceLE, Int.reduceEq, ne_eq, Int.reducePow, Int.reduceAdd, Int.reduceSub, Int.reduceMul, unown, names, plainR, Int.reduceBEq, Int.reduceLT, Int.reduceGT, Int.reduceGE, Int.reduceBNe, below, noF, isF, lendObs, lendOb, kindOk, ren, givL, updM, backO, renO, belowM, B3, B4, B9, B21, B23, B24, B25, B26, B27, B29, B31, B50, B52, B53, B67, B69, B71, bunN, Int.reduceToNat, tbB2, List.map_nil, List.nil_append, splitC, cells_sl0, all_sl0, setNth_zero] | exact NK_no _ | refine NK_cl _ _ ?_ | exact clean_v _ | exact clean_u8 _ _ _ _ | exact clean_i32 _ _ _ _ | exact clean_str _ _ _ _ | refine clean_tup _ ?_ | refine clean_ag _ ?_ | exact cleans_nil | refine cleans_cons _ _ ?_ ?_ | refine DR_q _ ?_ | ((first | refine WG_mk ?_ ?_ | refine CD_mk ?_ ?_ | refine GD_mk ?_ ?_ | refine GQ_mk ?_ ?_ | refine PK_mk ?_ ?_) <;> intro hg <;> (try simp only [hg]) <;> (try simp only [bunB, ne_eq] at hg) <;> first | (exfalso; omega) | (exfalso; exact Bool.noConfusion hg) | (exfalso; exact hg trivial) | skip) | refine And.intro (by omega) ?_ | omega
    all_goals trace_state
  | true =>
    by_cases he : e = 0
    · subst he
      cases b1 <;> cases b2
      all_goals
        simp only [ne_eq, not_true_eq_false, if_false, Bool.not_true, Bool.not_false, Bool.and_true, Bool.and_false, Bool.false_eq_true, if_true, Bool.true_eq_false, Bool.and_self]
        repeat' first | refine WE_fit (c1) ?_ ?_ | refine WE_fit (c2) ?_ ?_ | refine WE_fit (c3) ?_ ?_ | refine WE_fit (c4) ?_ ?_ | refine WE_fit (c5) ?_ ?_ | simp (maxSteps := 4000000) (disch := omega) only [bunD, bun, ↓WG_true, ↓WG_false, labelOf, findLabel, Nat.reduceEqDiff, ↓reduceIte, imp, shift, killO, cond_true, cond_false, Nat.reduceBEq, hasId, Nat.reduceAdd, Nat.reduceMul, Nat.reduceSub, Nat.reduceLeDiff, reduceCtorEq, Int.reduceNe, Int.reduceLE, Int.reduceEq, ne_eq, Int.reducePow, Int.reduceAdd, Int.reduceSub, Int.reduceMul, unown, names, plainR, Int.reduceBEq, Int.reduceLT, Int.reduceGT, Int.reduceGE, Int.reduceBNe, below, noF, isF, lendObs, lendOb, kindOk, ren, givL, updM, backO, renO, belowM, B3, B4, B9, B21, B23, B24, B25, B26, B27, B29, B31, B50, B52, B53, B67, B69, B71, bunN, Int.reduceToNat, tbB2, List.map_nil, List.nil_append, splitC, cells_sl0, all_sl0, setNth_zero] | exact NK_no _ | refine NK_cl _ _ ?_ | exact clean_v _ | exact clean_u8 _ _ _ _ | exact clean_i32 _ _ _ _ | exact clean_str _ _ _ _ | refine clean_tup _ ?_ | refine clean_ag _ ?_ | exact cleans_nil | refine cleans_cons _ _ ?_ ?_ | refine DR_q _ ?_ | ((first | refine WG_mk ?_ ?_ | refine CD_mk ?_ ?_ | refine GD_mk ?_ ?_ | refine GQ_mk ?_ ?_ | refine PK_mk ?_ ?_) <;> intro hg <;> (try simp only [hg]) <;> (try simp only [bunB, ne_eq] at hg) <;> first | (exfalso; omega) | (exfalso; exact Bool.noConfusion hg) | (exfalso; exact hg trivial) | skip) | refine And.intro (by omega) ?_ | omega
        all_goals trace_state
    · repeat' first | refine WE_fit (c1) ?_ ?_ | refine WE_fit (c2) ?_ ?_ | refine WE_fit (c3) ?_ ?_ | refine WE_fit (c4) ?_ ?_ | refine WE_fit (c5) ?_ ?_ | simp (maxSteps := 4000000) (disch := omega) only [bunD, bun, ↓WG_true, ↓WG_false, labelOf, findLabel, Nat.reduceEqDiff, ↓reduceIte, imp, shift, killO, cond_true, cond_false, Nat.reduceBEq, hasId, Nat.reduceAdd, Nat.reduceMul, Nat.reduceSub, Nat.reduceLeDiff, reduceCtorEq, Int.reduceNe, Int.reduceLE, Int.reduceEq, ne_eq, Int.reducePow, Int.reduceAdd, Int.reduceSub, Int.reduceMul, unown, names, plainR, Int.reduceBEq, Int.reduceLT, Int.reduceGT, Int.reduceGE, Int.reduceBNe, below, noF, isF, lendObs, lendOb, kindOk, ren, givL, updM, backO, renO, belowM, he, B3, B4, B9, B21, B23, B24, B25, B26, B27, B29, B31, B50, B52, B53, B67, B69, B71, bunN, Int.reduceToNat, tbB2, List.map_nil, List.nil_append, splitC, cells_sl0, all_sl0, setNth_zero] | exact NK_no _ | refine NK_cl _ _ ?_ | exact clean_v _ | exact clean_u8 _ _ _ _ | exact clean_i32 _ _ _ _ | exact clean_str _ _ _ _ | refine clean_tup _ ?_ | refine clean_ag _ ?_ | exact cleans_nil | refine cleans_cons _ _ ?_ ?_ | refine DR_q _ ?_ | ((first | refine WG_mk ?_ ?_ | refine CD_mk ?_ ?_ | refine GD_mk ?_ ?_ | refine GQ_mk ?_ ?_ | refine PK_mk ?_ ?_) <;> intro hg <;> (try simp only [hg]) <;> (try simp only [bunB, ne_eq] at hg) <;> first | (exfalso; omega) | (exfalso; exact Bool.noConfusion hg) | (exfalso; exact hg trivial) | skip) | refine And.intro (by omega) ?_ | omega
      all_goals trace_state
theorem nam_spec (s : List UInt8) (hs : s.length ≤ 10000000) (hl : (runes s).1.length ≤ 240) : Spec Try.prog 8 [tab, Sv s] (.tup [Sv (namV s).1, I64 (namV s).2]) := by
  obtain ⟨X, o, e1, e2, e3⟩ : ∃ X o, foldS s = (X, o) ∧ X.length ≤ 10000000 ∧ (runes X).1.length ≤ 1000 := by
    by_cases h0 : 0 ≤ (runes s).2
    · exact ⟨[], false, by unfold foldS; rw [if_pos h0], by decide, by decide⟩
    · have h1 := foldL_len (runes s).1
      have h2 := strS_len (foldL (runes s).1)
      have h3 := runes_fold (s := s)
      exact ⟨_, true, foldS_at h0, by omega, by rw [h3]; dsimp only; omega⟩
  exact nam_core s X o hs (by omega) e1 e2 e3
theorem nam_spec' (X : List UInt8) (hs : X.length ≤ 10000000) (hf : foldS X = (X, true)) (hl : (runes X).1.length ≤ 1000) : Spec Try.prog 8 [tab, Sv X] (.tup [Sv (namV X).1, I64 (namV X).2]) := nam_core X X true hs (by omega) hf hs hl
end Go.AE
end
section
/- Precis: the laws. -/
namespace Go.AE
open Go.Proofs
set_option maxRecDepth 20000
set_option maxHeartbeats 8000000
set_option linter.unusedSimpArgs false
theorem palike_spec' (a b : List UInt8) (ha : a.length ≤ 10000000) (hal : (runes a).1.length ≤ 240) (hb : b.length ≤ 10000000) (hf : foldS b = (b, true)) (hbl : (runes b).1.length ≤ 1000) : Spec Try.prog 10 [tab, Sv a, Sv b] (Bv (sameN a b)) := by
  have h1 := nam_spec a ha hal
  have h2 := nam_spec' b hb hf hbl
  rw [← tabBox_eq] at h1 h2 ⊢
  refine spec_mk (z := false) (ts := [.tmp 6]) ok1 Try.func10 rfl rfl (by decide +kernel) (by simp [Try.ntmps10]) rfl ?_
  unfold sameN
  generalize namV a = x at *
  generalize namV b = y at *
  obtain ⟨x1, x2⟩ := x
  obtain ⟨y1, y2⟩ := y
  dsimp only at h1 h2 ⊢
  by_cases e1 : x2 = 0 <;> by_cases e2 : y2 = 0
  · subst e1 e2
    repeat' first | refine WE_fit (h1) ?_ ?_ | refine WE_fit (h2) ?_ ?_ | simp (maxSteps := 4000000) (disch := omega) only [bunD, bun, ↓WG_true, ↓WG_false, labelOf, findLabel, Nat.reduceEqDiff, ↓reduceIte, imp, shift, killO, cond_true, cond_false, Nat.reduceBEq, hasId, Nat.reduceAdd, Nat.reduceMul, Nat.reduceSub, Nat.reduceLeDiff, reduceCtorEq, Int.reduceNe, Int.reduceLE, Int.reduceEq, ne_eq, Int.reducePow, Int.reduceAdd, Int.reduceSub, Int.reduceMul, unown, names, plainR, Int.reduceBEq, Int.reduceLT, Int.reduceGT, Int.reduceGE, Int.reduceBNe, below, noF, isF, lendObs, lendOb, kindOk, ren, givL, updM, backO, renO, belowM, B3, B4, B9, B21, B23, B24, B25, B26, B27, B29, B31, B50, B52, B67, B69, B71, bunN, Int.reduceToNat, tbB2, List.map_nil, List.nil_append, splitC] | exact NK_no _ | refine NK_cl _ _ ?_ | exact clean_v _ | exact clean_u8 _ _ _ _ | exact clean_i32 _ _ _ _ | exact clean_str _ _ _ _ | refine clean_tup _ ?_ | refine clean_ag _ ?_ | exact cleans_nil | refine cleans_cons _ _ ?_ ?_ | refine DR_q _ ?_ | ((first | refine WG_mk ?_ ?_ | refine CD_mk ?_ ?_ | refine GD_mk ?_ ?_ | refine GQ_mk ?_ ?_ | refine PK_mk ?_ ?_) <;> intro hg <;> (try simp only [hg]) <;> (try simp only [bunB, ne_eq] at hg) <;> first | (exfalso; omega) | (exfalso; exact Bool.noConfusion hg) | (exfalso; exact hg trivial) | skip) | refine And.intro (by omega) ?_ | omega
    all_goals simp
  · subst e1
    have e : (y2 == 0) = false := by simpa using e2
    repeat' first | refine WE_fit (h1) ?_ ?_ | refine WE_fit (h2) ?_ ?_ | simp (maxSteps := 4000000) (disch := omega) only [bunD, bun, ↓WG_true, ↓WG_false, labelOf, findLabel, Nat.reduceEqDiff, ↓reduceIte, imp, shift, killO, cond_true, cond_false, Nat.reduceBEq, hasId, Nat.reduceAdd, Nat.reduceMul, Nat.reduceSub, Nat.reduceLeDiff, reduceCtorEq, Int.reduceNe, Int.reduceLE, Int.reduceEq, ne_eq, Int.reducePow, Int.reduceAdd, Int.reduceSub, Int.reduceMul, unown, names, plainR, Int.reduceBEq, Int.reduceLT, Int.reduceGT, Int.reduceGE, Int.reduceBNe, below, noF, isF, lendObs, lendOb, kindOk, ren, givL, updM, backO, renO, belowM, e2, e, B3, B4, B9, B21, B23, B24, B25, B26, B27, B29, B31, B50, B52, B67, B69, B71, bunN, Int.reduceToNat, tbB2, List.map_nil, List.nil_append, splitC] | exact NK_no _ | refine NK_cl _ _ ?_ | exact clean_v _ | exact clean_u8 _ _ _ _ | exact clean_i32 _ _ _ _ | exact clean_str _ _ _ _ | refine clean_tup _ ?_ | refine clean_ag _ ?_ | exact cleans_nil | refine cleans_cons _ _ ?_ ?_ | refine DR_q _ ?_ | ((first | refine WG_mk ?_ ?_ | refine CD_mk ?_ ?_ | refine GD_mk ?_ ?_ | refine GQ_mk ?_ ?_ | refine PK_mk ?_ ?_) <;> intro hg <;> (try simp only [hg]) <;> (try simp only [bunB, ne_eq] at hg) <;> first | (exfalso; omega) | (exfalso; exact Bool.noConfusion hg) | (exfalso; exact hg trivial) | skip) | refine And.intro (by omega) ?_ | omega
    all_goals simp [e2]
  · subst e2
    have e : (x2 == 0) = false := by simpa using e1
    repeat' first | refine WE_fit (h1) ?_ ?_ | refine WE_fit (h2) ?_ ?_ | simp (maxSteps := 4000000) (disch := omega) only [bunD, bun, ↓WG_true, ↓WG_false, labelOf, findLabel, Nat.reduceEqDiff, ↓reduceIte, imp, shift, killO, cond_true, cond_false, Nat.reduceBEq, hasId, Nat.reduceAdd, Nat.reduceMul, Nat.reduceSub, Nat.reduceLeDiff, reduceCtorEq, Int.reduceNe, Int.reduceLE, Int.reduceEq, ne_eq, Int.reducePow, Int.reduceAdd, Int.reduceSub, Int.reduceMul, unown, names, plainR, Int.reduceBEq, Int.reduceLT, Int.reduceGT, Int.reduceGE, Int.reduceBNe, below, noF, isF, lendObs, lendOb, kindOk, ren, givL, updM, backO, renO, belowM, e1, e, B3, B4, B9, B21, B23, B24, B25, B26, B27, B29, B31, B50, B52, B67, B69, B71, bunN, Int.reduceToNat, tbB2, List.map_nil, List.nil_append, splitC] | exact NK_no _ | refine NK_cl _ _ ?_ | exact clean_v _ | exact clean_u8 _ _ _ _ | exact clean_i32 _ _ _ _ | exact clean_str _ _ _ _ | refine clean_tup _ ?_ | refine clean_ag _ ?_ | exact cleans_nil | refine cleans_cons _ _ ?_ ?_ | refine DR_q _ ?_ | ((first | refine WG_mk ?_ ?_ | refine CD_mk ?_ ?_ | refine GD_mk ?_ ?_ | refine GQ_mk ?_ ?_ | refine PK_mk ?_ ?_) <;> intro hg <;> (try simp only [hg]) <;> (try simp only [bunB, ne_eq] at hg) <;> first | (exfalso; omega) | (exfalso; exact Bool.noConfusion hg) | (exfalso; exact hg trivial) | skip) | refine And.intro (by omega) ?_ | omega
    all_goals simp [e1]
  · have e : (x2 == 0) = false := by simpa using e1
    repeat' first | refine WE_fit (h1) ?_ ?_ | refine WE_fit (h2) ?_ ?_ | simp (maxSteps := 4000000) (disch := omega) only [bunD, bun, ↓WG_true, ↓WG_false, labelOf, findLabel, Nat.reduceEqDiff, ↓reduceIte, imp, shift, killO, cond_true, cond_false, Nat.reduceBEq, hasId, Nat.reduceAdd, Nat.reduceMul, Nat.reduceSub, Nat.reduceLeDiff, reduceCtorEq, Int.reduceNe, Int.reduceLE, Int.reduceEq, ne_eq, Int.reducePow, Int.reduceAdd, Int.reduceSub, Int.reduceMul, unown, names, plainR, Int.reduceBEq, Int.reduceLT, Int.reduceGT, Int.reduceGE, Int.reduceBNe, below, noF, isF, lendObs, lendOb, kindOk, ren, givL, updM, backO, renO, belowM, e1, e, B3, B4, B9, B21, B23, B24, B25, B26, B27, B29, B31, B50, B52, B67, B69, B71, bunN, Int.reduceToNat, tbB2, List.map_nil, List.nil_append, splitC] | exact NK_no _ | refine NK_cl _ _ ?_ | exact clean_v _ | exact clean_u8 _ _ _ _ | exact clean_i32 _ _ _ _ | exact clean_str _ _ _ _ | refine clean_tup _ ?_ | refine clean_ag _ ?_ | exact cleans_nil | refine cleans_cons _ _ ?_ ?_ | refine DR_q _ ?_ | ((first | refine WG_mk ?_ ?_ | refine CD_mk ?_ ?_ | refine GD_mk ?_ ?_ | refine GQ_mk ?_ ?_ | refine PK_mk ?_ ?_) <;> intro hg <;> (try simp only [hg]) <;> (try simp only [bunB, ne_eq] at hg) <;> first | (exfalso; omega) | (exfalso; exact Bool.noConfusion hg) | (exfalso; exact hg trivial) | skip) | refine And.intro (by omega) ?_ | omega
    all_goals simp [e1]
theorem palike_spec (a b : List UInt8) (ha : a.length ≤ 10000000) (hal : (runes a).1.length ≤ 240) (hb : b.length ≤ 10000000) (hbl : (runes b).1.length ≤ 240) : Spec Try.prog 10 [tab, Sv a, Sv b] (Bv (sameN a b)) := by
  have h1 := nam_spec a ha hal
  have h2 := nam_spec b hb hbl
  rw [← tabBox_eq] at h1 h2 ⊢
  refine spec_mk (z := false) (ts := [.tmp 6]) ok1 Try.func10 rfl rfl (by decide +kernel) (by simp [Try.ntmps10]) rfl ?_
  unfold sameN
  generalize namV a = x at *
  generalize namV b = y at *
  obtain ⟨x1, x2⟩ := x
  obtain ⟨y1, y2⟩ := y
  dsimp only at h1 h2 ⊢
  by_cases e1 : x2 = 0 <;> by_cases e2 : y2 = 0
  · subst e1 e2
    repeat' first | refine WE_fit (h1) ?_ ?_ | refine WE_fit (h2) ?_ ?_ | simp (maxSteps := 4000000) (disch := omega) only [bunD, bun, ↓WG_true, ↓WG_false, labelOf, findLabel, Nat.reduceEqDiff, ↓reduceIte, imp, shift, killO, cond_true, cond_false, Nat.reduceBEq, hasId, Nat.reduceAdd, Nat.reduceMul, Nat.reduceSub, Nat.reduceLeDiff, reduceCtorEq, Int.reduceNe, Int.reduceLE, Int.reduceEq, ne_eq, Int.reducePow, Int.reduceAdd, Int.reduceSub, Int.reduceMul, unown, names, plainR, Int.reduceBEq, Int.reduceLT, Int.reduceGT, Int.reduceGE, Int.reduceBNe, below, noF, isF, lendObs, lendOb, kindOk, ren, givL, updM, backO, renO, belowM, B3, B4, B9, B21, B23, B24, B25, B26, B27, B29, B31, B50, B52, B67, B69, B71, bunN, Int.reduceToNat, tbB2, List.map_nil, List.nil_append, splitC] | exact NK_no _ | refine NK_cl _ _ ?_ | exact clean_v _ | exact clean_u8 _ _ _ _ | exact clean_i32 _ _ _ _ | exact clean_str _ _ _ _ | refine clean_tup _ ?_ | refine clean_ag _ ?_ | exact cleans_nil | refine cleans_cons _ _ ?_ ?_ | refine DR_q _ ?_ | ((first | refine WG_mk ?_ ?_ | refine CD_mk ?_ ?_ | refine GD_mk ?_ ?_ | refine GQ_mk ?_ ?_ | refine PK_mk ?_ ?_) <;> intro hg <;> (try simp only [hg]) <;> (try simp only [bunB, ne_eq] at hg) <;> first | (exfalso; omega) | (exfalso; exact Bool.noConfusion hg) | (exfalso; exact hg trivial) | skip) | refine And.intro (by omega) ?_ | omega
    all_goals simp
  · subst e1
    have e : (y2 == 0) = false := by simpa using e2
    repeat' first | refine WE_fit (h1) ?_ ?_ | refine WE_fit (h2) ?_ ?_ | simp (maxSteps := 4000000) (disch := omega) only [bunD, bun, ↓WG_true, ↓WG_false, labelOf, findLabel, Nat.reduceEqDiff, ↓reduceIte, imp, shift, killO, cond_true, cond_false, Nat.reduceBEq, hasId, Nat.reduceAdd, Nat.reduceMul, Nat.reduceSub, Nat.reduceLeDiff, reduceCtorEq, Int.reduceNe, Int.reduceLE, Int.reduceEq, ne_eq, Int.reducePow, Int.reduceAdd, Int.reduceSub, Int.reduceMul, unown, names, plainR, Int.reduceBEq, Int.reduceLT, Int.reduceGT, Int.reduceGE, Int.reduceBNe, below, noF, isF, lendObs, lendOb, kindOk, ren, givL, updM, backO, renO, belowM, e2, e, B3, B4, B9, B21, B23, B24, B25, B26, B27, B29, B31, B50, B52, B67, B69, B71, bunN, Int.reduceToNat, tbB2, List.map_nil, List.nil_append, splitC] | exact NK_no _ | refine NK_cl _ _ ?_ | exact clean_v _ | exact clean_u8 _ _ _ _ | exact clean_i32 _ _ _ _ | exact clean_str _ _ _ _ | refine clean_tup _ ?_ | refine clean_ag _ ?_ | exact cleans_nil | refine cleans_cons _ _ ?_ ?_ | refine DR_q _ ?_ | ((first | refine WG_mk ?_ ?_ | refine CD_mk ?_ ?_ | refine GD_mk ?_ ?_ | refine GQ_mk ?_ ?_ | refine PK_mk ?_ ?_) <;> intro hg <;> (try simp only [hg]) <;> (try simp only [bunB, ne_eq] at hg) <;> first | (exfalso; omega) | (exfalso; exact Bool.noConfusion hg) | (exfalso; exact hg trivial) | skip) | refine And.intro (by omega) ?_ | omega
    all_goals simp [e2]
  · subst e2
    have e : (x2 == 0) = false := by simpa using e1
    repeat' first | refine WE_fit (h1) ?_ ?_ | refine WE_fit (h2) ?_ ?_ | simp (maxSteps := 4000000) (disch := omega) only [bunD, bun, ↓WG_true, ↓WG_false, labelOf, findLabel, Nat.reduceEqDiff, ↓reduceIte, imp, shift, killO, cond_true, cond_false, Nat.reduceBEq, hasId, Nat.reduceAdd, Nat.reduceMul, Nat.reduceSub, Nat.reduceLeDiff, reduceCtorEq, Int.reduceNe, Int.reduceLE, Int.reduceEq, ne_eq, Int.reducePow, Int.reduceAdd, Int.reduceSub, Int.reduceMul, unown, names, plainR, Int.reduceBEq, Int.reduceLT, Int.reduceGT, Int.reduceGE, Int.reduceBNe, below, noF, isF, lendObs, lendOb, kindOk, ren, givL, updM, backO, renO, belowM, e1, e, B3, B4, B9, B21, B23, B24, B25, B26, B27, B29, B31, B50, B52, B67, B69, B71, bunN, Int.reduceToNat, tbB2, List.map_nil, List.nil_append, splitC] | exact NK_no _ | refine NK_cl _ _ ?_ | exact clean_v _ | exact clean_u8 _ _ _ _ | exact clean_i32 _ _ _ _ | exact clean_str _ _ _ _ | refine clean_tup _ ?_ | refine clean_ag _ ?_ | exact cleans_nil | refine cleans_cons _ _ ?_ ?_ | refine DR_q _ ?_ | ((first | refine WG_mk ?_ ?_ | refine CD_mk ?_ ?_ | refine GD_mk ?_ ?_ | refine GQ_mk ?_ ?_ | refine PK_mk ?_ ?_) <;> intro hg <;> (try simp only [hg]) <;> (try simp only [bunB, ne_eq] at hg) <;> first | (exfalso; omega) | (exfalso; exact Bool.noConfusion hg) | (exfalso; exact hg trivial) | skip) | refine And.intro (by omega) ?_ | omega
    all_goals simp [e1]
  · have e : (x2 == 0) = false := by simpa using e1
    repeat' first | refine WE_fit (h1) ?_ ?_ | refine WE_fit (h2) ?_ ?_ | simp (maxSteps := 4000000) (disch := omega) only [bunD, bun, ↓WG_true, ↓WG_false, labelOf, findLabel, Nat.reduceEqDiff, ↓reduceIte, imp, shift, killO, cond_true, cond_false, Nat.reduceBEq, hasId, Nat.reduceAdd, Nat.reduceMul, Nat.reduceSub, Nat.reduceLeDiff, reduceCtorEq, Int.reduceNe, Int.reduceLE, Int.reduceEq, ne_eq, Int.reducePow, Int.reduceAdd, Int.reduceSub, Int.reduceMul, unown, names, plainR, Int.reduceBEq, Int.reduceLT, Int.reduceGT, Int.reduceGE, Int.reduceBNe, below, noF, isF, lendObs, lendOb, kindOk, ren, givL, updM, backO, renO, belowM, e1, e, B3, B4, B9, B21, B23, B24, B25, B26, B27, B29, B31, B50, B52, B67, B69, B71, bunN, Int.reduceToNat, tbB2, List.map_nil, List.nil_append, splitC] | exact NK_no _ | refine NK_cl _ _ ?_ | exact clean_v _ | exact clean_u8 _ _ _ _ | exact clean_i32 _ _ _ _ | exact clean_str _ _ _ _ | refine clean_tup _ ?_ | refine clean_ag _ ?_ | exact cleans_nil | refine cleans_cons _ _ ?_ ?_ | refine DR_q _ ?_ | ((first | refine WG_mk ?_ ?_ | refine CD_mk ?_ ?_ | refine GD_mk ?_ ?_ | refine GQ_mk ?_ ?_ | refine PK_mk ?_ ?_) <;> intro hg <;> (try simp only [hg]) <;> (try simp only [bunB, ne_eq] at hg) <;> first | (exfalso; omega) | (exfalso; exact Bool.noConfusion hg) | (exfalso; exact hg trivial) | skip) | refine And.intro (by omega) ?_ | omega
    all_goals simp [e1]
theorem small10_spec : Spec Try.prog 6 [] (Bv true) := by
  have n1 := nam_spec [65, 110, 110, 46, 66, 239, 188, 161] (by decide) (by decide)
  rw [show namV [65, 110, 110, 46, 66, 239, 188, 161] = ([97, 110, 110, 46, 98, 97], 0) by decide +kernel] at n1
  have n2 := nam_spec [97, 32, 98] (by decide) (by decide)
  rw [show namV [97, 32, 98] = ([], 8) by decide +kernel] at n2
  have n3 := nam_spec [] (by decide) (by decide)
  rw [namV_nil] at n3
  have n4 := nam_spec [215, 144, 97] (by decide) (by decide)
  rw [show namV [215, 144, 97] = ([], 9) by decide +kernel] at n4
  have n5 := nam_spec [255] (by decide) (by decide)
  rw [show namV [255] = ([], 7) by decide +kernel] at n5
  have k1 := cla_spec [65, 195, 132] (by decide) (by decide)
  rw [show claV [65, 195, 132] = 0 by decide +kernel] at k1
  have k2 := cla_spec [239, 188, 161] (by decide) (by decide)
  rw [show claV [239, 188, 161] = 8 by decide +kernel] at k2
  have k3 := cla_spec [194, 183] (by decide) (by decide)
  rw [show claV [194, 183] = 8 by decide +kernel] at k3
  have a1 := palike_spec [65, 78, 78] [97, 110, 110] (by decide) (by decide) (by decide) (by decide)
  rw [show sameN [65, 78, 78] [97, 110, 110] = true by decide +kernel] at a1
  have a2 := palike_spec [97] [98] (by decide) (by decide) (by decide) (by decide)
  rw [show sameN [97] [98] = false by decide +kernel] at a2
  have p1 := pchar_spec 126
  rw [show pch 126 = true by decide +kernel] at p1
  have p2 := pchar_spec 32
  rw [show pch 32 = false by decide +kernel] at p2
  have p3 := pchar_spec 913
  rw [show pch 913 = true by decide +kernel] at p3
  have p4 := pchar_spec 8490
  rw [show pch 8490 = false by decide +kernel] at p4
  rw [← tabBox_eq] at n1 n2 n3 n4 n5 k1 k2 k3 a1 a2 p1 p2 p3 p4
  refine spec_mk (z := false) (ts := [.tmp 0]) ok1 Try.func6 rfl rfl (by decide +kernel) (by simp [Try.ntmps6]) rfl ?_
  repeat' first | refine WE_fit (new_box4) ?_ ?_ | refine WE_fit (n1) ?_ ?_ | refine WE_fit (n2) ?_ ?_ | refine WE_fit (n3) ?_ ?_ | refine WE_fit (n4) ?_ ?_ | refine WE_fit (n5) ?_ ?_ | refine WE_fit (k1) ?_ ?_ | refine WE_fit (k2) ?_ ?_ | refine WE_fit (k3) ?_ ?_ | refine WE_fit (a1) ?_ ?_ | refine WE_fit (a2) ?_ ?_ | refine WE_fit (p1) ?_ ?_ | refine WE_fit (p2) ?_ ?_ | refine WE_fit (p3) ?_ ?_ | refine WE_fit (p4) ?_ ?_ | simp (maxSteps := 4000000) (disch := omega) only [bunD, bun, ↓WG_true, ↓WG_false, labelOf, findLabel, Nat.reduceEqDiff, ↓reduceIte, imp, shift, killO, cond_true, cond_false, Nat.reduceBEq, hasId, Nat.reduceAdd, Nat.reduceMul, Nat.reduceSub, Nat.reduceLeDiff, reduceCtorEq, Int.reduceNe, Int.reduceLE, Int.reduceEq, ne_eq, Int.reducePow, Int.reduceAdd, Int.reduceSub, Int.reduceMul, unown, names, plainR, Int.reduceBEq, Int.reduceLT, Int.reduceGT, Int.reduceGE, Int.reduceBNe, below, noF, isF, lendObs, lendOb, kindOk, ren, givL, updM, backO, renO, belowM, B3, B4, B9, B21, B23, B24, B25, B26, B27, B29, B31, B50, B52, B67, B69, B71, bunN, Int.reduceToNat, tbB2, List.map_nil, List.nil_append, splitC] | exact NK_no _ | refine NK_cl _ _ ?_ | exact clean_v _ | exact clean_u8 _ _ _ _ | exact clean_i32 _ _ _ _ | exact clean_str _ _ _ _ | refine clean_tup _ ?_ | refine clean_ag _ ?_ | exact cleans_nil | refine cleans_cons _ _ ?_ ?_ | refine DR_q _ ?_ | ((first | refine WG_mk ?_ ?_ | refine CD_mk ?_ ?_ | refine GD_mk ?_ ?_ | refine GQ_mk ?_ ?_ | refine PK_mk ?_ ?_) <;> intro hg <;> (try simp only [hg]) <;> (try simp only [bunB, ne_eq] at hg) <;> first | (exfalso; omega) | (exfalso; exact Bool.noConfusion hg) | (exfalso; exact hg trivial) | skip) | refine And.intro (by omega) ?_ | omega
  all_goals trace_state
theorem precisBlank_spec (s : List UInt8) (a c : Int) (ha1 : a ≤ 9223372036854775807) (hc0 : 0 ≤ c) (hc1 : c ≤ 255) : Spec Try.prog 4 [Sv s, I64 a, .v (.int .u8 c)] (Bv true) := by
  obtain ⟨b, rfl⟩ : ∃ b : UInt8, c = (b.toNat : Int) := ⟨UInt8.ofNat c.toNat, by simp; omega⟩
  have hby : bytesOf [AV.v (Value.int .u8 (b.toNat : Int))] = some [b] := bytesOf_u8 [b]
  refine spec_mk (z := false) (ts := [.tmp 6]) ok1 Try.func4 rfl rfl (by decide +kernel) (by simp [Try.ntmps4]) rfl ?_
  by_cases hs : s.length ≤ 150
  · by_cases h0 : 0 ≤ a
    · by_cases h1 : a ≤ s.length
      · obtain ⟨p, rfl⟩ : ∃ p : Nat, a = p := ⟨a.toNat, by omega⟩
        by_cases hb : b.toNat ≤ 32 ∨ b.toNat = 127
        · have hln : (s.take p ++ [b] ++ s.drop p).length ≤ 151 := by simp; omega
          have hrl := runes_len (s.take p ++ [b] ++ s.drop p)
          have n1 := nam_spec (s.take p ++ [b] ++ s.drop p) (by omega) (by omega)
          have hv := blank_name (s := s.take p ++ [b] ++ s.drop p) (c := b) (by simp) hb
          have htl : (s.take p).length = p := by simp; omega
          rw [← tabBox_eq] at n1
          generalize hx : namV (s.take p ++ [b] ++ s.drop p) = x at *
          obtain ⟨x1, x2⟩ := x
          dsimp only at hv n1
          rcases hv with rfl | rfl
          all_goals
            rcases hb with hb | hb
            all_goals
              repeat' first | refine WE_fit (small10_spec) ?_ ?_ | refine WE_fit (new_box4) ?_ ?_ | refine WE_fit (n1) ?_ ?_ | refine DR_p (.take 1 (.take 2 (.take 3 (.take 4 (.take 8 (.take 9 (.take 10 (.two 0 (.one 5 (.one 6 (.take 7 (.take 11 (.one 12 (.take 13 (.two 14 (.take 16 (.one 15 (.take 17 (.done)))) 15 (.one 14 (.take 16 (.take 17 (.done))))))))))) 5 (.two 0 (.one 6 (.take 7 (.take 11 (.one 12 (.take 13 (.two 14 (.take 16 (.one 15 (.take 17 (.done)))) 15 (.one 14 (.take 16 (.take 17 (.done)))))))))) 6 (.take 7 (.take 11 (.one 0 (.one 12 (.take 13 (.two 14 (.take 16 (.one 15 (.take 17 (.done)))) 15 (.one 14 (.take 16 (.take 17 (.done))))))))))))))))))) _ (by decide +kernel) ?_ | simp (maxSteps := 4000000) (disch := omega) only [bunD, bun, ↓WG_true, ↓WG_false, labelOf, findLabel, Nat.reduceEqDiff, ↓reduceIte, imp, shift, killO, cond_true, cond_false, Nat.reduceBEq, hasId, Nat.reduceAdd, Nat.reduceMul, Nat.reduceSub, Nat.reduceLeDiff, reduceCtorEq, Int.reduceNe, Int.reduceLE, Int.reduceEq, ne_eq, Int.reducePow, Int.reduceAdd, Int.reduceSub, Int.reduceMul, unown, names, plainR, Int.reduceBEq, Int.reduceLT, Int.reduceGT, Int.reduceGE, Int.reduceBNe, below, noF, isF, lendObs, lendOb, kindOk, ren, givL, updM, backO, renO, belowM, hby, htl, B3, B4, B5, B9, B21, B23, B24, B25, B26, B27, B29, B31, B39, B50, B52, B67, B69, B71, bunN, Int.reduceToNat, tbB2, List.map_nil, List.nil_append, splitC] | exact NK_no _ | refine NK_cl _ _ ?_ | exact clean_v _ | exact clean_u8 _ _ _ _ | exact clean_i32 _ _ _ _ | exact clean_str _ _ _ _ | refine clean_tup _ ?_ | refine clean_ag _ ?_ | exact cleans_nil | refine cleans_cons _ _ ?_ ?_ | refine DR_q _ ?_ | ((first | refine WG_mk ?_ ?_ | refine CD_mk ?_ ?_ | refine GD_mk ?_ ?_ | refine GQ_mk ?_ ?_ | refine PK_mk ?_ ?_) <;> intro hg <;> (try simp only [hg]) <;> (try simp only [bunB, ne_eq] at hg) <;> first | (exfalso; omega) | (exfalso; exact Bool.noConfusion hg) | (exfalso; exact hg trivial) | skip) | refine And.intro (by omega) ?_ | omega
              all_goals (repeat' refine And.intro ?_ ?_)
              all_goals (repeat' first | refine WE_fit (n1) ?_ ?_ | simp (maxSteps := 4000000) (disch := omega) only [bunD, bun, ↓WG_true, ↓WG_false, labelOf, findLabel, Nat.reduceEqDiff, ↓reduceIte, imp, shift, killO, cond_true, cond_false, Nat.reduceBEq, hasId, Nat.reduceAdd, Nat.reduceMul, Nat.reduceSub, Nat.reduceLeDiff, reduceCtorEq, Int.reduceNe, Int.reduceLE, Int.reduceEq, ne_eq, Int.reducePow, Int.reduceAdd, Int.reduceSub, Int.reduceMul, unown, names, plainR, Int.reduceBEq, Int.reduceLT, Int.reduceGT, Int.reduceGE, Int.reduceBNe, below, noF, isF, lendObs, lendOb, kindOk, ren, givL, updM, backO, renO, belowM, hby, htl, B3, B4, B5, B9, B21, B23, B24, B25, B26, B27, B29, B31, B39, B50, B52, B67, B69, B71, bunN, Int.reduceToNat, tbB2, List.map_nil, List.nil_append, splitC] | exact NK_no _ | refine NK_cl _ _ ?_ | exact clean_v _ | exact clean_u8 _ _ _ _ | exact clean_i32 _ _ _ _ | exact clean_str _ _ _ _ | refine clean_tup _ ?_ | refine clean_ag _ ?_ | exact cleans_nil | refine cleans_cons _ _ ?_ ?_ | refine DR_q _ ?_ | ((first | refine WG_mk ?_ ?_ | refine CD_mk ?_ ?_ | refine GD_mk ?_ ?_ | refine GQ_mk ?_ ?_ | refine PK_mk ?_ ?_) <;> intro hg <;> (try simp only [hg]) <;> (try simp only [bunB, ne_eq] at hg) <;> first | (exfalso; omega) | (exfalso; exact Bool.noConfusion hg) | (exfalso; exact hg trivial) | skip) | refine And.intro (by omega) ?_ | omega)
              all_goals (repeat' refine And.intro ?_ ?_)
              all_goals (repeat' first | refine WE_fit (n1) ?_ ?_ | simp (maxSteps := 4000000) (disch := omega) only [bunD, bun, ↓WG_true, ↓WG_false, labelOf, findLabel, Nat.reduceEqDiff, ↓reduceIte, imp, shift, killO, cond_true, cond_false, Nat.reduceBEq, hasId, Nat.reduceAdd, Nat.reduceMul, Nat.reduceSub, Nat.reduceLeDiff, reduceCtorEq, Int.reduceNe, Int.reduceLE, Int.reduceEq, ne_eq, Int.reducePow, Int.reduceAdd, Int.reduceSub, Int.reduceMul, unown, names, plainR, Int.reduceBEq, Int.reduceLT, Int.reduceGT, Int.reduceGE, Int.reduceBNe, below, noF, isF, lendObs, lendOb, kindOk, ren, givL, updM, backO, renO, belowM, hby, htl, B3, B4, B5, B9, B21, B23, B24, B25, B26, B27, B29, B31, B39, B50, B52, B67, B69, B71, bunN, Int.reduceToNat, tbB2, List.map_nil, List.nil_append, splitC] | exact NK_no _ | refine NK_cl _ _ ?_ | exact clean_v _ | exact clean_u8 _ _ _ _ | exact clean_i32 _ _ _ _ | exact clean_str _ _ _ _ | refine clean_tup _ ?_ | refine clean_ag _ ?_ | exact cleans_nil | refine cleans_cons _ _ ?_ ?_ | refine DR_q _ ?_ | ((first | refine WG_mk ?_ ?_ | refine CD_mk ?_ ?_ | refine GD_mk ?_ ?_ | refine GQ_mk ?_ ?_ | refine PK_mk ?_ ?_) <;> intro hg <;> (try simp only [hg]) <;> (try simp only [bunB, ne_eq] at hg) <;> first | (exfalso; omega) | (exfalso; exact Bool.noConfusion hg) | (exfalso; exact hg trivial) | skip) | refine And.intro (by omega) ?_ | omega)
              all_goals trace_state
        · have hb1 : ¬ (b.toNat : Int) ≤ 32 := by omega
          have hb2 : ¬ (b.toNat : Int) = 127 := by omega
          repeat' first | refine WE_fit (small10_spec) ?_ ?_ | simp (maxSteps := 4000000) (disch := omega) only [bunD, bun, ↓WG_true, ↓WG_false, labelOf, findLabel, Nat.reduceEqDiff, ↓reduceIte, imp, shift, killO, cond_true, cond_false, Nat.reduceBEq, hasId, Nat.reduceAdd, Nat.reduceMul, Nat.reduceSub, Nat.reduceLeDiff, reduceCtorEq, Int.reduceNe, Int.reduceLE, Int.reduceEq, ne_eq, Int.reducePow, Int.reduceAdd, Int.reduceSub, Int.reduceMul, unown, names, plainR, Int.reduceBEq, Int.reduceLT, Int.reduceGT, Int.reduceGE, Int.reduceBNe, below, noF, isF, lendObs, lendOb, kindOk, ren, givL, updM, backO, renO, belowM, hb2, B3, B4, B5, B9, B21, B23, B24, B25, B26, B27, B29, B31, B39, B50, B52, B67, B69, B71, bunN, Int.reduceToNat, tbB2, List.map_nil, List.nil_append, splitC] | exact NK_no _ | refine NK_cl _ _ ?_ | exact clean_v _ | exact clean_u8 _ _ _ _ | exact clean_i32 _ _ _ _ | exact clean_str _ _ _ _ | refine clean_tup _ ?_ | refine clean_ag _ ?_ | exact cleans_nil | refine cleans_cons _ _ ?_ ?_ | refine DR_q _ ?_ | ((first | refine WG_mk ?_ ?_ | refine CD_mk ?_ ?_ | refine GD_mk ?_ ?_ | refine GQ_mk ?_ ?_ | refine PK_mk ?_ ?_) <;> intro hg <;> (try simp only [hg]) <;> (try simp only [bunB, ne_eq] at hg) <;> first | (exfalso; omega) | (exfalso; exact Bool.noConfusion hg) | (exfalso; exact hg trivial) | skip) | refine And.intro (by omega) ?_ | omega
          all_goals trace_state
      · repeat' first | refine WE_fit (small10_spec) ?_ ?_ | simp (maxSteps := 4000000) (disch := omega) only [bunD, bun, ↓WG_true, ↓WG_false, labelOf, findLabel, Nat.reduceEqDiff, ↓reduceIte, imp, shift, killO, cond_true, cond_false, Nat.reduceBEq, hasId, Nat.reduceAdd, Nat.reduceMul, Nat.reduceSub, Nat.reduceLeDiff, reduceCtorEq, Int.reduceNe, Int.reduceLE, Int.reduceEq, ne_eq, Int.reducePow, Int.reduceAdd, Int.reduceSub, Int.reduceMul, unown, names, plainR, Int.reduceBEq, Int.reduceLT, Int.reduceGT, Int.reduceGE, Int.reduceBNe, below, noF, isF, lendObs, lendOb, kindOk, ren, givL, updM, backO, renO, belowM, B3, B4, B5, B9, B21, B23, B24, B25, B26, B27, B29, B31, B39, B50, B52, B67, B69, B71, bunN, Int.reduceToNat, tbB2, List.map_nil, List.nil_append, splitC] | exact NK_no _ | refine NK_cl _ _ ?_ | exact clean_v _ | exact clean_u8 _ _ _ _ | exact clean_i32 _ _ _ _ | exact clean_str _ _ _ _ | refine clean_tup _ ?_ | refine clean_ag _ ?_ | exact cleans_nil | refine cleans_cons _ _ ?_ ?_ | refine DR_q _ ?_ | ((first | refine WG_mk ?_ ?_ | refine CD_mk ?_ ?_ | refine GD_mk ?_ ?_ | refine GQ_mk ?_ ?_ | refine PK_mk ?_ ?_) <;> intro hg <;> (try simp only [hg]) <;> (try simp only [bunB, ne_eq] at hg) <;> first | (exfalso; omega) | (exfalso; exact Bool.noConfusion hg) | (exfalso; exact hg trivial) | skip) | refine And.intro (by omega) ?_ | omega
    · repeat' first | refine WE_fit (small10_spec) ?_ ?_ | simp (maxSteps := 4000000) (disch := omega) only [bunD, bun, ↓WG_true, ↓WG_false, labelOf, findLabel, Nat.reduceEqDiff, ↓reduceIte, imp, shift, killO, cond_true, cond_false, Nat.reduceBEq, hasId, Nat.reduceAdd, Nat.reduceMul, Nat.reduceSub, Nat.reduceLeDiff, reduceCtorEq, Int.reduceNe, Int.reduceLE, Int.reduceEq, ne_eq, Int.reducePow, Int.reduceAdd, Int.reduceSub, Int.reduceMul, unown, names, plainR, Int.reduceBEq, Int.reduceLT, Int.reduceGT, Int.reduceGE, Int.reduceBNe, below, noF, isF, lendObs, lendOb, kindOk, ren, givL, updM, backO, renO, belowM, B3, B4, B5, B9, B21, B23, B24, B25, B26, B27, B29, B31, B39, B50, B52, B67, B69, B71, bunN, Int.reduceToNat, tbB2, List.map_nil, List.nil_append, splitC] | exact NK_no _ | refine NK_cl _ _ ?_ | exact clean_v _ | exact clean_u8 _ _ _ _ | exact clean_i32 _ _ _ _ | exact clean_str _ _ _ _ | refine clean_tup _ ?_ | refine clean_ag _ ?_ | exact cleans_nil | refine cleans_cons _ _ ?_ ?_ | refine DR_q _ ?_ | ((first | refine WG_mk ?_ ?_ | refine CD_mk ?_ ?_ | refine GD_mk ?_ ?_ | refine GQ_mk ?_ ?_ | refine PK_mk ?_ ?_) <;> intro hg <;> (try simp only [hg]) <;> (try simp only [bunB, ne_eq] at hg) <;> first | (exfalso; omega) | (exfalso; exact Bool.noConfusion hg) | (exfalso; exact hg trivial) | skip) | refine And.intro (by omega) ?_ | omega
  · repeat' first | refine WE_fit (small10_spec) ?_ ?_ | simp (maxSteps := 4000000) (disch := omega) only [bunD, bun, ↓WG_true, ↓WG_false, labelOf, findLabel, Nat.reduceEqDiff, ↓reduceIte, imp, shift, killO, cond_true, cond_false, Nat.reduceBEq, hasId, Nat.reduceAdd, Nat.reduceMul, Nat.reduceSub, Nat.reduceLeDiff, reduceCtorEq, Int.reduceNe, Int.reduceLE, Int.reduceEq, ne_eq, Int.reducePow, Int.reduceAdd, Int.reduceSub, Int.reduceMul, unown, names, plainR, Int.reduceBEq, Int.reduceLT, Int.reduceGT, Int.reduceGE, Int.reduceBNe, below, noF, isF, lendObs, lendOb, kindOk, ren, givL, updM, backO, renO, belowM, B3, B4, B5, B9, B21, B23, B24, B25, B26, B27, B29, B31, B39, B50, B52, B67, B69, B71, bunN, Int.reduceToNat, tbB2, List.map_nil, List.nil_append, splitC] | exact NK_no _ | refine NK_cl _ _ ?_ | exact clean_v _ | exact clean_u8 _ _ _ _ | exact clean_i32 _ _ _ _ | exact clean_str _ _ _ _ | refine clean_tup _ ?_ | refine clean_ag _ ?_ | exact cleans_nil | refine cleans_cons _ _ ?_ ?_ | refine DR_q _ ?_ | ((first | refine WG_mk ?_ ?_ | refine CD_mk ?_ ?_ | refine GD_mk ?_ ?_ | refine GQ_mk ?_ ?_ | refine PK_mk ?_ ?_) <;> intro hg <;> (try simp only [hg]) <;> (try simp only [bunB, ne_eq] at hg) <;> first | (exfalso; omega) | (exfalso; exact Bool.noConfusion hg) | (exfalso; exact hg trivial) | skip) | refine And.intro (by omega) ?_ | omega
theorem fold_key10 {s : List UInt8} (hs : (runes s).1.length ≤ 240) (h : ¬ 0 ≤ (runes s).2) : ∃ X, foldS s = (X, true) ∧ X.length ≤ 10000000 ∧ (runes X).1.length ≤ 1000 ∧ foldS X = (X, true) := by
  obtain ⟨X, x1, x2, x3, _, x5, _⟩ := foldS_key (s := s) (by omega) h
  have := foldL_len (runes s).1
  exact ⟨X, x1, by omega, by rw [x3]; dsimp only; omega, x5⟩
theorem precisBack_spec (s : List UInt8) : Spec Try.prog 3 [Sv s] (Bv true) := by
  refine spec_mk (z := false) (ts := [.tmp 2]) ok1 Try.func3 rfl rfl (by decide +kernel) (by simp [Try.ntmps3]) rfl ?_
  by_cases hs : s.length ≤ 150
  · have hl := runes_len s
    have c1 := fold_spec s (by omega)
    have n1 := nam_spec s (by omega) (by omega)
    by_cases h0 : 0 ≤ (runes s).2
    · have e : foldS s = ([], false) := by unfold foldS; rw [if_pos h0]
      have e2 : namV s = ([], 7) := by unfold namV; rw [e]; rfl
      have n2 := nam_spec [] (by decide) (by decide)
      rw [namV_nil] at n2
      rw [e] at c1
      rw [e2] at n1
      rw [← tabBox_eq] at c1 n1 n2
      repeat' first | refine WE_fit (small10_spec) ?_ ?_ | refine WE_fit (new_box4) ?_ ?_ | refine WE_fit (c1) ?_ ?_ | refine WE_fit (n1) ?_ ?_ | refine WE_fit (n2) ?_ ?_ | simp (maxSteps := 4000000) (disch := omega) only [bunD, bun, ↓WG_true, ↓WG_false, labelOf, findLabel, Nat.reduceEqDiff, ↓reduceIte, imp, shift, killO, cond_true, cond_false, Nat.reduceBEq, hasId, Nat.reduceAdd, Nat.reduceMul, Nat.reduceSub, Nat.reduceLeDiff, reduceCtorEq, Int.reduceNe, Int.reduceLE, Int.reduceEq, ne_eq, Int.reducePow, Int.reduceAdd, Int.reduceSub, Int.reduceMul, unown, names, plainR, Int.reduceBEq, Int.reduceLT, Int.reduceGT, Int.reduceGE, Int.reduceBNe, below, noF, isF, lendObs, lendOb, kindOk, ren, givL, updM, backO, renO, belowM, B3, B4, B9, B21, B23, B24, B25, B26, B27, B29, B31, B50, B52, B67, B69, B71, bunN, Int.reduceToNat, tbB2, List.map_nil, List.nil_append, splitC] | exact NK_no _ | refine NK_cl _ _ ?_ | exact clean_v _ | exact clean_u8 _ _ _ _ | exact clean_i32 _ _ _ _ | exact clean_str _ _ _ _ | refine clean_tup _ ?_ | refine clean_ag _ ?_ | exact cleans_nil | refine cleans_cons _ _ ?_ ?_ | refine DR_q _ ?_ | ((first | refine WG_mk ?_ ?_ | refine CD_mk ?_ ?_ | refine GD_mk ?_ ?_ | refine GQ_mk ?_ ?_ | refine PK_mk ?_ ?_) <;> intro hg <;> (try simp only [hg]) <;> (try simp only [bunB, ne_eq] at hg) <;> first | (exfalso; omega) | (exfalso; exact Bool.noConfusion hg) | (exfalso; exact hg trivial) | skip) | refine And.intro (by omega) ?_ | omega
      all_goals trace_state
    · obtain ⟨X, x1, x2, x3, x5⟩ := fold_key10 (s := s) (by omega) h0
      have xl : (runes X).1.length ≤ 1000 := x3
      have e1 : namV s = namR X := by unfold namV; rw [x1]; rfl
      have e2 : namV X = namR X := by unfold namV; rw [x5]; rfl
      have n2 := nam_spec' X x2 x5 x3
      rw [e1] at n1
      rw [e2] at n2
      rw [x1] at c1
      by_cases hz : (namR X).2 = 0
      · obtain ⟨hz1, hz2⟩ := namR_ok hz
        rw [hz1] at n1 n2
        have a1 := palike_spec' s X (by omega) (by omega) x2 x5 x3
        have k1 := cla_spec X x2 x3
        rw [hz2] at k1
        rw [show sameN s X = true by unfold sameN; rw [e1, e2, hz1]; simp] at a1
        have bb : (X == X) = true := by simp
        rw [← tabBox_eq] at c1 n1 n2 a1 k1
        repeat' first | refine WE_fit (small10_spec) ?_ ?_ | refine WE_fit (new_box4) ?_ ?_ | refine WE_fit (c1) ?_ ?_ | refine WE_fit (n1) ?_ ?_ | refine WE_fit (n2) ?_ ?_ | refine WE_fit (a1) ?_ ?_ | refine WE_fit (k1) ?_ ?_ | simp (maxSteps := 4000000) (disch := omega) only [bunD, bun, ↓WG_true, ↓WG_false, labelOf, findLabel, Nat.reduceEqDiff, ↓reduceIte, imp, shift, killO, cond_true, cond_false, Nat.reduceBEq, hasId, Nat.reduceAdd, Nat.reduceMul, Nat.reduceSub, Nat.reduceLeDiff, reduceCtorEq, Int.reduceNe, Int.reduceLE, Int.reduceEq, ne_eq, Int.reducePow, Int.reduceAdd, Int.reduceSub, Int.reduceMul, unown, names, plainR, Int.reduceBEq, Int.reduceLT, Int.reduceGT, Int.reduceGE, Int.reduceBNe, below, noF, isF, lendObs, lendOb, kindOk, ren, givL, updM, backO, renO, belowM, B3, B4, B9, B21, B23, B24, B25, B26, B27, B29, B31, B50, B52, B67, B69, B71, bunN, Int.reduceToNat, tbB2, List.map_nil, List.nil_append, splitC] | exact NK_no _ | refine NK_cl _ _ ?_ | exact clean_v _ | exact clean_u8 _ _ _ _ | exact clean_i32 _ _ _ _ | exact clean_str _ _ _ _ | refine clean_tup _ ?_ | refine clean_ag _ ?_ | exact cleans_nil | refine cleans_cons _ _ ?_ ?_ | refine DR_q _ ?_ | ((first | refine WG_mk ?_ ?_ | refine CD_mk ?_ ?_ | refine GD_mk ?_ ?_ | refine GQ_mk ?_ ?_ | refine PK_mk ?_ ?_) <;> intro hg <;> (try simp only [hg]) <;> (try simp only [bunB, ne_eq] at hg) <;> first | (exfalso; omega) | (exfalso; exact Bool.noConfusion hg) | (exfalso; exact hg trivial) | skip) | refine And.intro (by omega) ?_ | omega
        all_goals trace_state
      · have hz1 := namR_bad hz
        have n3 := nam_spec [] (by decide) (by decide)
        rw [namV_nil] at n3
        have a1 := palike_spec s s (by omega) (by omega) (by omega) (by omega)
        rw [show sameN s s = false by unfold sameN; rw [e1]; simp [hz]] at a1
        rw [hz1] at n1 n2
        rw [← tabBox_eq] at c1 n1 n2 n3 a1
        repeat' first | refine WE_fit (small10_spec) ?_ ?_ | refine WE_fit (new_box4) ?_ ?_ | refine WE_fit (c1) ?_ ?_ | refine WE_fit (n1) ?_ ?_ | refine WE_fit (n2) ?_ ?_ | refine WE_fit (n3) ?_ ?_ | refine WE_fit (a1) ?_ ?_ | simp (maxSteps := 4000000) (disch := omega) only [bunD, bun, ↓WG_true, ↓WG_false, labelOf, findLabel, Nat.reduceEqDiff, ↓reduceIte, imp, shift, killO, cond_true, cond_false, Nat.reduceBEq, hasId, Nat.reduceAdd, Nat.reduceMul, Nat.reduceSub, Nat.reduceLeDiff, reduceCtorEq, Int.reduceNe, Int.reduceLE, Int.reduceEq, ne_eq, Int.reducePow, Int.reduceAdd, Int.reduceSub, Int.reduceMul, unown, names, plainR, Int.reduceBEq, Int.reduceLT, Int.reduceGT, Int.reduceGE, Int.reduceBNe, below, noF, isF, lendObs, lendOb, kindOk, ren, givL, updM, backO, renO, belowM, hz, B3, B4, B9, B21, B23, B24, B25, B26, B27, B29, B31, B50, B52, B67, B69, B71, bunN, Int.reduceToNat, tbB2, List.map_nil, List.nil_append, splitC] | exact NK_no _ | refine NK_cl _ _ ?_ | exact clean_v _ | exact clean_u8 _ _ _ _ | exact clean_i32 _ _ _ _ | exact clean_str _ _ _ _ | refine clean_tup _ ?_ | refine clean_ag _ ?_ | exact cleans_nil | refine cleans_cons _ _ ?_ ?_ | refine DR_q _ ?_ | ((first | refine WG_mk ?_ ?_ | refine CD_mk ?_ ?_ | refine GD_mk ?_ ?_ | refine GQ_mk ?_ ?_ | refine PK_mk ?_ ?_) <;> intro hg <;> (try simp only [hg]) <;> (try simp only [bunB, ne_eq] at hg) <;> first | (exfalso; omega) | (exfalso; exact Bool.noConfusion hg) | (exfalso; exact hg trivial) | skip) | refine And.intro (by omega) ?_ | omega
        all_goals trace_state
  · repeat' first | refine WE_fit (small10_spec) ?_ ?_ | simp (maxSteps := 4000000) (disch := omega) only [bunD, bun, ↓WG_true, ↓WG_false, labelOf, findLabel, Nat.reduceEqDiff, ↓reduceIte, imp, shift, killO, cond_true, cond_false, Nat.reduceBEq, hasId, Nat.reduceAdd, Nat.reduceMul, Nat.reduceSub, Nat.reduceLeDiff, reduceCtorEq, Int.reduceNe, Int.reduceLE, Int.reduceEq, ne_eq, Int.reducePow, Int.reduceAdd, Int.reduceSub, Int.reduceMul, unown, names, plainR, Int.reduceBEq, Int.reduceLT, Int.reduceGT, Int.reduceGE, Int.reduceBNe, below, noF, isF, lendObs, lendOb, kindOk, ren, givL, updM, backO, renO, belowM, B3, B4, B9, B21, B23, B24, B25, B26, B27, B29, B31, B50, B52, B67, B69, B71, bunN, Int.reduceToNat, tbB2, List.map_nil, List.nil_append, splitC] | exact NK_no _ | refine NK_cl _ _ ?_ | exact clean_v _ | exact clean_u8 _ _ _ _ | exact clean_i32 _ _ _ _ | exact clean_str _ _ _ _ | refine clean_tup _ ?_ | refine clean_ag _ ?_ | exact cleans_nil | refine cleans_cons _ _ ?_ ?_ | refine DR_q _ ?_ | ((first | refine WG_mk ?_ ?_ | refine CD_mk ?_ ?_ | refine GD_mk ?_ ?_ | refine GQ_mk ?_ ?_ | refine PK_mk ?_ ?_) <;> intro hg <;> (try simp only [hg]) <;> (try simp only [bunB, ne_eq] at hg) <;> first | (exfalso; omega) | (exfalso; exact Bool.noConfusion hg) | (exfalso; exact hg trivial) | skip) | refine And.intro (by omega) ?_ | omega
end Go.AE
end
section
/- Precis: ASCII. -/
namespace Go.AE
open Go.Proofs
set_option maxRecDepth 20000
set_option maxHeartbeats 8000000
set_option linter.unusedSimpArgs false
theorem okA_pl (c : UInt8) : okA (plC c).toNat = okA c.toNat := by
  unfold okA
  by_cases h : 65 ≤ c.toNat ∧ c.toNat ≤ 90
  · rw [plC_yes h, Bool.eq_iff_iff]; simp; omega
  · rw [plC_no h]
theorem fine_pl (s : List UInt8) : fineS (plS s) = fineS s := by
  unfold fineS plS
  rw [List.all_map, List.length_map]
  congr 2
  funext c
  exact okA_pl c
theorem namV_asc {s : List UInt8} (h : ∀ c ∈ s, c.toNat < 128) : ((namV s).2 = 0 ↔ fineS s = true) ∧ (fineS s = true → (namV s).1 = plS s) := by
  have hp := plS_asc h
  have e : namV s = namR (plS s) := by unfold namV; rw [foldS_asc h]; rfl
  have hc := claV_asc hp
  rw [fine_pl] at hc
  have hh := asc_has hp
  rw [e]
  unfold namR
  rw [runes_asc10 hp]
  dsimp only
  rw [hh]
  by_cases h0 : claV (plS s) = 0
  · rw [if_neg (by simp [h0])]
    simp [hc.1 h0]
  · rw [if_pos h0]
    have hf : ¬ fineS s = true := fun hf => h0 (hc.2 hf)
    simp [h0, hf]
theorem precisPlain_spec (s : List UInt8) : Spec Try.prog 5 [Sv s] (Bv true) := by
  refine spec_mk (z := false) (ts := [.tmp 2]) ok1 Try.func5 rfl rfl (by decide +kernel) (by simp [Try.ntmps5]) rfl ?_
  by_cases hs : s.length ≤ 200
  · have e1 := utfEight_spec s (by omega)
    by_cases h8 : 0 ≤ eight s
    · repeat' first | refine WE_fit (small10_spec) ?_ ?_ | refine WE_fit (e1) ?_ ?_ | simp (maxSteps := 4000000) (disch := omega) only [bunD, bun, ↓WG_true, ↓WG_false, labelOf, findLabel, Nat.reduceEqDiff, ↓reduceIte, imp, shift, killO, cond_true, cond_false, Nat.reduceBEq, hasId, Nat.reduceAdd, Nat.reduceMul, Nat.reduceSub, Nat.reduceLeDiff, reduceCtorEq, Int.reduceNe, Int.reduceLE, Int.reduceEq, ne_eq, Int.reducePow, Int.reduceAdd, Int.reduceSub, Int.reduceMul, unown, names, plainR, Int.reduceBEq, Int.reduceLT, Int.reduceGT, Int.reduceGE, Int.reduceBNe, below, noF, isF, lendObs, lendOb, kindOk, ren, givL, updM, backO, renO, belowM, B3, B4, B5, B9, B21, B23, B24, B25, B26, B27, B29, B31, B50, B52, B67, B69, B71, bunN, Int.reduceToNat, tbB2, List.map_nil, List.nil_append, splitC] | exact NK_no _ | refine NK_cl _ _ ?_ | exact clean_v _ | exact clean_u8 _ _ _ _ | exact clean_i32 _ _ _ _ | exact clean_str _ _ _ _ | refine clean_tup _ ?_ | refine clean_ag _ ?_ | exact cleans_nil | refine cleans_cons _ _ ?_ ?_ | refine DR_q _ ?_ | ((first | refine WG_mk ?_ ?_ | refine CD_mk ?_ ?_ | refine GD_mk ?_ ?_ | refine GQ_mk ?_ ?_ | refine PK_mk ?_ ?_) <;> intro hg <;> (try simp only [hg]) <;> (try simp only [bunB, ne_eq] at hg) <;> first | (exfalso; omega) | (exfalso; exact Bool.noConfusion hg) | (exfalso; exact hg trivial) | skip) | refine And.intro (by omega) ?_ | omega
      all_goals trace_state
    · have ha := eight_asc h8
      have hl := runes_len s
      have hp := plS_asc ha
      have n1 := nam_core s (plS s) true (by omega) (by omega) (foldS_asc ha) (by simp [plS]; omega) (by rw [runes_asc10 hp]; simp [asc, plS]; omega)
      have k1 := cla_spec s (by omega) (by omega)
      have p1 := plain_spec s (by omega)
      obtain ⟨v1, v2⟩ := namV_asc ha
      have v3 := claV_asc ha
      rw [← tabBox_eq] at n1 k1
      generalize namV s = x at *
      generalize claV s = k at *
      obtain ⟨x1, x2⟩ := x
      dsimp only at v1 v2 n1
      repeat' first | refine WE_fit (small10_spec) ?_ ?_ | refine WE_fit (e1) ?_ ?_ | simp (maxSteps := 4000000) (disch := omega) only [bunD, bun, ↓WG_true, ↓WG_false, labelOf, findLabel, Nat.reduceEqDiff, ↓reduceIte, imp, shift, killO, cond_true, cond_false, Nat.reduceBEq, hasId, Nat.reduceAdd, Nat.reduceMul, Nat.reduceSub, Nat.reduceLeDiff, reduceCtorEq, Int.reduceNe, Int.reduceLE, Int.reduceEq, ne_eq, Int.reducePow, Int.reduceAdd, Int.reduceSub, Int.reduceMul, unown, names, plainR, Int.reduceBEq, Int.reduceLT, Int.reduceGT, Int.reduceGE, Int.reduceBNe, below, noF, isF, lendObs, lendOb, kindOk, ren, givL, updM, backO, renO, belowM, B3, B4, B5, B9, B21, B23, B24, B25, B26, B27, B29, B31, B50, B52, B67, B69, B71, bunN, Int.reduceToNat, tbB2, List.map_nil, List.nil_append, splitC] | exact NK_no _ | refine NK_cl _ _ ?_ | exact clean_v _ | exact clean_u8 _ _ _ _ | exact clean_i32 _ _ _ _ | exact clean_str _ _ _ _ | refine clean_tup _ ?_ | refine clean_ag _ ?_ | exact cleans_nil | refine cleans_cons _ _ ?_ ?_ | refine DR_q _ ?_ | ((first | refine WG_mk ?_ ?_ | refine CD_mk ?_ ?_ | refine GD_mk ?_ ?_ | refine GQ_mk ?_ ?_ | refine PK_mk ?_ ?_) <;> intro hg <;> (try simp only [hg]) <;> (try simp only [bunB, ne_eq] at hg) <;> first | (exfalso; omega) | (exfalso; exact Bool.noConfusion hg) | (exfalso; exact hg trivial) | skip) | refine And.intro (by omega) ?_ | omega
      refine LP_intro (fun i : Nat => ⟨[(0, Sv s), (3, Bv true), (4, Bv (decide (0 < s.length) && (s.take i).all fun c => okA c.toNat)), (5, I64 i)], []⟩) (fun i => i ≤ s.length) (fun i => s.length - i) 0 (by simp) (by (simp (disch := omega) [wk, wkT, wkM, noF, isF, get, belowT, belowM, below, belows, I64, I32, Bv, U8, Sv, List.take_zero] <;> try omega)) ?_
      intro i hi
      by_cases hlt : i < s.length
      · have ht : (s.take (i + 1)).all (fun c => okA c.toNat) = ((s.take i).all (fun c => okA c.toNat) && okA (s.getD i 0).toNat) := by rw [take_snocD s i 0 hlt, List.all_append]; simp
        have hc := u8_lt (s.getD i 0)
        cases hq : (decide (0 < s.length) && (s.take i).all fun c => okA c.toNat) with
        | false =>
          repeat' first | simp (maxSteps := 4000000) (disch := omega) only [bunD, bun, ↓WG_true, ↓WG_false, labelOf, findLabel, Nat.reduceEqDiff, ↓reduceIte, imp, shift, killO, cond_true, cond_false, Nat.reduceBEq, hasId, Nat.reduceAdd, Nat.reduceMul, Nat.reduceSub, Nat.reduceLeDiff, reduceCtorEq, Int.reduceNe, Int.reduceLE, Int.reduceEq, ne_eq, Int.reducePow, Int.reduceAdd, Int.reduceSub, Int.reduceMul, unown, names, plainR, Int.reduceBEq, Int.reduceLT, Int.reduceGT, Int.reduceGE, Int.reduceBNe, below, noF, isF, lendObs, lendOb, kindOk, ren, givL, updM, backO, renO, belowM, hq, B3, B4, B5, B9, B21, B23, B24, B25, B26, B27, B29, B31, B50, B52, B67, B69, B71, bunN, Int.reduceToNat, tbB2, List.map_nil, List.nil_append, splitC] | refine DR_q _ ?_ | ((first | refine WG_mk ?_ ?_ | refine CD_mk ?_ ?_ | refine GD_mk ?_ ?_ | refine GQ_mk ?_ ?_ | refine PK_mk ?_ ?_) <;> intro hg <;> (try simp only [hg]) <;> (try simp only [bunB, ne_eq] at hg) <;> first | (exfalso; omega) | (exfalso; exact Bool.noConfusion hg) | (exfalso; exact hg trivial) | skip) | refine And.intro (by omega) ?_ | omega
          refine ⟨i + 1, by omega, by omega, ?_⟩
          rw [ht, ← Bool.and_assoc, hq]
          (simp (disch := omega) [wk, wkT, wkM, noF, isF, get, belowT, belowM, below, belows, I64, I32, Bv, U8, Sv, Bool.false_and] <;> try omega)
        | true =>
          repeat' first | simp (maxSteps := 4000000) (disch := omega) only [bunD, bun, ↓WG_true, ↓WG_false, labelOf, findLabel, Nat.reduceEqDiff, ↓reduceIte, imp, shift, killO, cond_true, cond_false, Nat.reduceBEq, hasId, Nat.reduceAdd, Nat.reduceMul, Nat.reduceSub, Nat.reduceLeDiff, reduceCtorEq, Int.reduceNe, Int.reduceLE, Int.reduceEq, ne_eq, Int.reducePow, Int.reduceAdd, Int.reduceSub, Int.reduceMul, unown, names, plainR, Int.reduceBEq, Int.reduceLT, Int.reduceGT, Int.reduceGE, Int.reduceBNe, below, noF, isF, lendObs, lendOb, kindOk, ren, givL, updM, backO, renO, belowM, hq, B3, B4, B5, B9, B21, B23, B24, B25, B26, B27, B29, B31, B50, B52, B67, B69, B71, bunN, Int.reduceToNat, tbB2, List.map_nil, List.nil_append, splitC] | refine DR_q _ ?_ | ((first | refine WG_mk ?_ ?_ | refine CD_mk ?_ ?_ | refine GD_mk ?_ ?_ | refine GQ_mk ?_ ?_ | refine PK_mk ?_ ?_) <;> intro hg <;> (try simp only [hg]) <;> (try simp only [bunB, ne_eq] at hg) <;> first | (exfalso; omega) | (exfalso; exact Bool.noConfusion hg) | (exfalso; exact hg trivial) | skip) | refine And.intro (by omega) ?_ | omega
          all_goals
            refine ⟨i + 1, by omega, by omega, ?_⟩
            rw [ht, ← Bool.and_assoc, hq]
          all_goals
            by_cases hk1 : 32 < (s.getD i 0).toNat
            · have hk : okA (s.getD i 0).toNat = decide (((s.getD i 0).toNat : Int) < 127) := by unfold okA; rw [Bool.eq_iff_iff]; simp only [Bool.and_eq_true, decide_eq_true_eq]; omega
              rw [hk]
              first | (exfalso; omega) | ((simp (disch := omega) [wk, wkT, wkM, noF, isF, get, belowT, belowM, below, belows, I64, I32, Bv, U8, Sv, Bool.true_and] <;> try omega))
            · have hk : okA (s.getD i 0).toNat = false := by unfold okA; rw [Bool.and_eq_false_iff]; left; simp only [decide_eq_false_iff_not]; omega
              rw [hk]
              first | (exfalso; omega) | ((simp (disch := omega) [wk, wkT, wkM, noF, isF, get, belowT, belowM, below, belows, I64, I32, Bv, U8, Sv, Bool.and_false] <;> try omega))
      · have e : i = s.length := by omega
        subst e
        rw [List.take_length]
        have ef : (decide (0 < s.length) && s.all fun c => okA c.toNat) = fineS s := rfl
        rw [ef]
        cases hf : fineS s with
        | true =>
          have h2 := v1.2 hf
          have h3 := v2 hf
          have h4 := v3.2 hf
          subst h2 h3 h4
          repeat' first | refine WE_fit (new_box4) ?_ ?_ | refine WE_fit (n1) ?_ ?_ | refine WE_fit (k1) ?_ ?_ | refine WE_fit (p1) ?_ ?_ | simp (maxSteps := 4000000) (disch := omega) only [bunD, bun, ↓WG_true, ↓WG_false, labelOf, findLabel, Nat.reduceEqDiff, ↓reduceIte, imp, shift, killO, cond_true, cond_false, Nat.reduceBEq, hasId, Nat.reduceAdd, Nat.reduceMul, Nat.reduceSub, Nat.reduceLeDiff, reduceCtorEq, Int.reduceNe, Int.reduceLE, Int.reduceEq, ne_eq, Int.reducePow, Int.reduceAdd, Int.reduceSub, Int.reduceMul, unown, names, plainR, Int.reduceBEq, Int.reduceLT, Int.reduceGT, Int.reduceGE, Int.reduceBNe, below, noF, isF, lendObs, lendOb, kindOk, ren, givL, updM, backO, renO, belowM, B3, B4, B5, B9, B21, B23, B24, B25, B26, B27, B29, B31, B50, B52, B67, B69, B71, bunN, Int.reduceToNat, tbB2, List.map_nil, List.nil_append, splitC] | exact NK_no _ | refine NK_cl _ _ ?_ | exact clean_v _ | exact clean_u8 _ _ _ _ | exact clean_i32 _ _ _ _ | exact clean_str _ _ _ _ | refine clean_tup _ ?_ | refine clean_ag _ ?_ | exact cleans_nil | refine cleans_cons _ _ ?_ ?_ | refine DR_q _ ?_ | ((first | refine WG_mk ?_ ?_ | refine CD_mk ?_ ?_ | refine GD_mk ?_ ?_ | refine GQ_mk ?_ ?_ | refine PK_mk ?_ ?_) <;> intro hg <;> (try simp only [hg]) <;> (try simp only [bunB, ne_eq] at hg) <;> first | (exfalso; omega) | (exfalso; exact Bool.noConfusion hg) | (exfalso; exact hg trivial) | skip) | refine And.intro (by omega) ?_ | omega
          all_goals trace_state
        | false =>
          have h2 : ¬ x2 = 0 := fun h => by rw [v1.1 h] at hf; cases hf
          have h4 : ¬ k = 0 := fun h => by rw [v3.1 h] at hf; cases hf
          repeat' first | refine WE_fit (new_box4) ?_ ?_ | refine WE_fit (n1) ?_ ?_ | refine WE_fit (k1) ?_ ?_ | refine WE_fit (p1) ?_ ?_ | simp (maxSteps := 4000000) (disch := omega) only [bunD, bun, ↓WG_true, ↓WG_false, labelOf, findLabel, Nat.reduceEqDiff, ↓reduceIte, imp, shift, killO, cond_true, cond_false, Nat.reduceBEq, hasId, Nat.reduceAdd, Nat.reduceMul, Nat.reduceSub, Nat.reduceLeDiff, reduceCtorEq, Int.reduceNe, Int.reduceLE, Int.reduceEq, ne_eq, Int.reducePow, Int.reduceAdd, Int.reduceSub, Int.reduceMul, unown, names, plainR, Int.reduceBEq, Int.reduceLT, Int.reduceGT, Int.reduceGE, Int.reduceBNe, below, noF, isF, lendObs, lendOb, kindOk, ren, givL, updM, backO, renO, belowM, h2, h4, B3, B4, B5, B9, B21, B23, B24, B25, B26, B27, B29, B31, B50, B52, B67, B69, B71, bunN, Int.reduceToNat, tbB2, List.map_nil, List.nil_append, splitC] | exact NK_no _ | refine NK_cl _ _ ?_ | exact clean_v _ | exact clean_u8 _ _ _ _ | exact clean_i32 _ _ _ _ | exact clean_str _ _ _ _ | refine clean_tup _ ?_ | refine clean_ag _ ?_ | exact cleans_nil | refine cleans_cons _ _ ?_ ?_ | refine DR_q _ ?_ | ((first | refine WG_mk ?_ ?_ | refine CD_mk ?_ ?_ | refine GD_mk ?_ ?_ | refine GQ_mk ?_ ?_ | refine PK_mk ?_ ?_) <;> intro hg <;> (try simp only [hg]) <;> (try simp only [bunB, ne_eq] at hg) <;> first | (exfalso; omega) | (exfalso; exact Bool.noConfusion hg) | (exfalso; exact hg trivial) | skip) | refine And.intro (by omega) ?_ | omega
          all_goals trace_state
  · repeat' first | refine WE_fit (small10_spec) ?_ ?_ | simp (maxSteps := 4000000) (disch := omega) only [bunD, bun, ↓WG_true, ↓WG_false, labelOf, findLabel, Nat.reduceEqDiff, ↓reduceIte, imp, shift, killO, cond_true, cond_false, Nat.reduceBEq, hasId, Nat.reduceAdd, Nat.reduceMul, Nat.reduceSub, Nat.reduceLeDiff, reduceCtorEq, Int.reduceNe, Int.reduceLE, Int.reduceEq, ne_eq, Int.reducePow, Int.reduceAdd, Int.reduceSub, Int.reduceMul, unown, names, plainR, Int.reduceBEq, Int.reduceLT, Int.reduceGT, Int.reduceGE, Int.reduceBNe, below, noF, isF, lendObs, lendOb, kindOk, ren, givL, updM, backO, renO, belowM, B3, B4, B5, B9, B21, B23, B24, B25, B26, B27, B29, B31, B50, B52, B67, B69, B71, bunN, Int.reduceToNat, tbB2, List.map_nil, List.nil_append, splitC] | exact NK_no _ | refine NK_cl _ _ ?_ | exact clean_v _ | exact clean_u8 _ _ _ _ | exact clean_i32 _ _ _ _ | exact clean_str _ _ _ _ | refine clean_tup _ ?_ | refine clean_ag _ ?_ | exact cleans_nil | refine cleans_cons _ _ ?_ ?_ | refine DR_q _ ?_ | ((first | refine WG_mk ?_ ?_ | refine CD_mk ?_ ?_ | refine GD_mk ?_ ?_ | refine GQ_mk ?_ ?_ | refine PK_mk ?_ ?_) <;> intro hg <;> (try simp only [hg]) <;> (try simp only [bunB, ne_eq] at hg) <;> first | (exfalso; omega) | (exfalso; exact Bool.noConfusion hg) | (exfalso; exact hg trivial) | skip) | refine And.intro (by omega) ?_ | omega
end Go.AE
end
