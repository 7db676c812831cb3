/- Contracts of functions that the laws of this seat reach, and plain laws of what they compute. No condition beyond each statement's own. -/
import Derived.Test.YtpdnmlkilinjpaaSI
set_option linter.unusedVariables false
set_option linter.unusedSimpArgs false
section
/- The laws of chapter 3. -/
namespace Go.AE
open Go.Proofs
set_option maxRecDepth 20000
set_option maxHeartbeats 8000000
set_option linter.unusedSimpArgs false
theorem tb_imps (k : Nat) : imps k tabBox = (tabBox, []) := rfl
theorem tb_set (a b c d e : AV) : setCells [a, b, c, d, e] 0 tabBox = tabBox := rfl
theorem tb_shifts (k : Nat) : shifts k tabBox = tabBox := rfl
theorem new_box : Spec Try.prog 11 [] (.ag tabBox) := new_spec
theorem small3_spec : Spec Try.prog 9 [] (Bv true) := by
  have c1 := nfc_spec [97, 204, 163, 204, 136, 226, 132, 171, 225, 132, 128, 225, 133, 161, 225, 134, 168] (by decide)
  rw [show formS false true [97, 204, 163, 204, 136, 226, 132, 171, 225, 132, 128, 225, 133, 161, 225, 134, 168] = ([195, 164, 204, 163, 195, 133, 234, 176, 129], true) by decide +kernel, ← tabBox_eq] at c1
  have c2 := nfd_spec [225, 186, 164, 234, 176, 129, 224, 165, 152] (by decide)
  rw [show formS false false [225, 186, 164, 234, 176, 129, 224, 165, 152] = ([65, 204, 130, 204, 129, 225, 132, 128, 225, 133, 161, 225, 134, 168, 224, 164, 149, 224, 164, 188], true) by decide +kernel, ← tabBox_eq] at c2
  have c3 := nfkc_spec [239, 188, 161, 239, 172, 129, 194, 178] (by decide)
  rw [show formS true true [239, 188, 161, 239, 172, 129, 194, 178] = ([65, 102, 105, 50], true) by decide +kernel, ← tabBox_eq] at c3
  have c4 := nfc_spec [255] (by decide)
  rw [show formS false true [255] = ([], false) by decide +kernel, ← tabBox_eq] at c4
  have d1 := nis_spec [195, 164] (by decide)
  rw [show ((formS false true [195, 164]).2 && ((formS false true [195, 164]).1 == [195, 164])) = true by decide +kernel, ← tabBox_eq] at d1
  have d2 := nis_spec [97, 204, 136] (by decide)
  rw [show ((formS false true [97, 204, 136]).2 && ((formS false true [97, 204, 136]).1 == [97, 204, 136])) = false by decide +kernel, ← tabBox_eq] at d2
  have d3 := nis_spec [] (by decide)
  rw [show ((formS false true []).2 && ((formS false true []).1 == [])) = true by decide +kernel, ← tabBox_eq] at d3
  refine spec_mk (z := false) (ts := [.tmp 0]) ok1 Try.func9 rfl rfl (by decide +kernel) (by simp [Try.ntmps9]) rfl ?_
  repeat' first | refine WE_fit (new_box) ?_ ?_ | refine WE_fit (c1) ?_ ?_ | refine WE_fit (c2) ?_ ?_ | refine WE_fit (c3) ?_ ?_ | refine WE_fit (c4) ?_ ?_ | refine WE_fit (d1) ?_ ?_ | refine WE_fit (d2) ?_ ?_ | refine WE_fit (d3) ?_ ?_ | simp (maxSteps := 4000000) (disch := omega) only [bun, ↓WG_true, ↓WG_false, labelOf, findLabel, dstOf, get, put, putD, Nat.reduceEqDiff, ↓reduceIte, importS, imp, imps, shift, shifts, TI.agg, pushS, obj, setOb, killT, killM, killO, cond_true, cond_false, Nat.reduceBEq, killCs, hasId, hasIds, Nat.reduceAdd, Nat.reduceMul, Nat.reduceSub, Nat.reduceLeDiff, initT, reduceCtorEq, Int.reduceNe, Int.reduceLE, Int.reduceEq, ne_eq, Int.reducePow, Int.reduceAdd, Int.reduceSub, Int.reduceMul, I32, I64, Bv, U8, Sv, unown, unowns, names, namess, plainR, plainRs, Int.reduceBEq, Int.reduceLT, Int.reduceGT, Int.reduceGE, Int.reduceBNe, below, belows, noF, isF, nodupN, lendObs, lendOb, kindsOk, kindOk, rens, ren, renF, givL, killTs, killMs, updM, backO, renO, belowM, C1_ti3, C1_td3, C1_fit3, C1_ti4, C1_td4, C1_fit4, C1_ti9, C1_td9, C1_fit9, C1_ti21, C1_td21, C1_fit21, C1_ti25, C1_td25, C1_ti26, C1_td26, C1_ti27, C1_td27, C1_ti28, C1_td28, C1_ti29, C1_td29, C1_ti31, C1_td31, C1_fld31_0, C1_fld31_1, C1_fld31_2, C1_fld31_3, C1_fld31_4, C1_ti55, C1_td55, C1_fld55_0, C1_fld55_1, C1_fld55_2, C1_fld55_3, C1_fld55_4, C1_fit55, C1_ti57, C1_td57, C1_fld57_0, C1_fld57_1, C1_fit57, C1_ti70, C1_td70, C1_fld70_0, C1_fld70_1, C1_fld70_2, C1_fld70_3, C1_fit70, C1_ti75, C1_td75, C1_fld75_0, C1_fld75_1, C1_fld75_2, C1_fld75_3, C1_fld75_4, C1_fld75_5, C1_fit75, C1_ti77, C1_td77, C1_fld77_0, C1_fld77_1, C1_fld77_2, C1_fit77, bunN, tb_fzs, tb_bel, tb_names, tabBox_len, tb_one, tb_take, tb_has, tb_kill, tb_imps, tb_shifts, tb_set, List.map_nil, List.nil_append] | exact NK_no _ | refine NK_cl _ _ ?_ | exact clean_v _ | exact clean_u8 _ _ _ _ | exact clean_i32 _ _ _ _ | exact clean_str _ _ _ _ | refine clean_tup _ ?_ | refine clean_ag _ ?_ | exact cleans_nil | refine cleans_cons _ _ ?_ ?_ | refine DR_q _ ?_ | ((first | refine WG_mk ?_ ?_ | refine CD_mk ?_ ?_ | refine GD_mk ?_ ?_ | refine GQ_mk ?_ ?_ | refine PK_mk ?_ ?_) <;> intro hg <;> (try simp only [hg]) <;> (try simp only [bunB, ne_eq] at hg) <;> first | (exfalso; omega) | (exfalso; exact Bool.noConfusion hg) | (exfalso; exact hg trivial) | skip) | refine And.intro (by omega) ?_ | omega
  all_goals trace_state
theorem normForms_spec (s : List UInt8) : Spec Try.prog 5 [Sv s] (Bv true) := by
  refine spec_mk (z := false) (ts := [.tmp 2]) ok1 Try.func5 rfl rfl (by decide +kernel) (by simp [Try.ntmps5]) rfl ?_
  by_cases hs : s.length ≤ 200
  · have c1 := nfd_spec s (by omega)
    have c2 := nfc_spec s (by omega)
    have c3 := nfkd_spec s (by omega)
    have c4 := nfkc_spec s (by omega)
    have c5 := nis_spec s (by omega)
    rw [← tabBox_eq] at c1 c2 c3 c4 c5
    cases hf : (formS false true s).2 with
    | false =>
      repeat' first | refine WE_fit (small3_spec) ?_ ?_ | refine WE_fit (new_box) ?_ ?_ | refine WE_fit (c1) ?_ ?_ | refine WE_fit (c2) ?_ ?_ | refine WE_fit (c3) ?_ ?_ | refine WE_fit (c4) ?_ ?_ | refine WE_fit (c5) ?_ ?_ | refine WE_fit (rform_spec s _ _ (by omega)) ?_ ?_ | simp (maxSteps := 4000000) (disch := omega) only [bun, ↓WG_true, ↓WG_false, labelOf, findLabel, dstOf, get, put, putD, Nat.reduceEqDiff, ↓reduceIte, importS, imp, imps, shift, shifts, TI.agg, pushS, obj, setOb, killT, killM, killO, cond_true, cond_false, Nat.reduceBEq, killCs, hasId, hasIds, Nat.reduceAdd, Nat.reduceMul, Nat.reduceSub, Nat.reduceLeDiff, initT, reduceCtorEq, Int.reduceNe, Int.reduceLE, Int.reduceEq, ne_eq, Int.reducePow, Int.reduceAdd, Int.reduceSub, Int.reduceMul, I32, I64, Bv, U8, Sv, unown, unowns, names, namess, plainR, plainRs, Int.reduceBEq, Int.reduceLT, Int.reduceGT, Int.reduceGE, Int.reduceBNe, below, belows, noF, isF, nodupN, lendObs, lendOb, kindsOk, kindOk, rens, ren, renF, givL, killTs, killMs, updM, backO, renO, belowM, hf, C1_ti3, C1_td3, C1_fit3, C1_ti4, C1_td4, C1_fit4, C1_ti9, C1_td9, C1_fit9, C1_ti21, C1_td21, C1_fit21, C1_ti25, C1_td25, C1_ti26, C1_td26, C1_ti27, C1_td27, C1_ti28, C1_td28, C1_ti29, C1_td29, C1_ti31, C1_td31, C1_fld31_0, C1_fld31_1, C1_fld31_2, C1_fld31_3, C1_fld31_4, C1_ti55, C1_td55, C1_fld55_0, C1_fld55_1, C1_fld55_2, C1_fld55_3, C1_fld55_4, C1_fit55, C1_ti57, C1_td57, C1_fld57_0, C1_fld57_1, C1_fit57, C1_ti70, C1_td70, C1_fld70_0, C1_fld70_1, C1_fld70_2, C1_fld70_3, C1_fit70, C1_ti75, C1_td75, C1_fld75_0, C1_fld75_1, C1_fld75_2, C1_fld75_3, C1_fld75_4, C1_fld75_5, C1_fit75, C1_ti77, C1_td77, C1_fld77_0, C1_fld77_1, C1_fld77_2, C1_fit77, bunN, tb_fzs, tb_bel, tb_names, tabBox_len, tb_one, tb_take, tb_has, tb_kill, tb_imps, tb_shifts, tb_set, List.map_nil, List.nil_append] | exact NK_no _ | refine NK_cl _ _ ?_ | exact clean_v _ | exact clean_u8 _ _ _ _ | exact clean_i32 _ _ _ _ | exact clean_str _ _ _ _ | refine clean_tup _ ?_ | refine clean_ag _ ?_ | exact cleans_nil | refine cleans_cons _ _ ?_ ?_ | refine DR_q _ ?_ | ((first | refine WG_mk ?_ ?_ | refine CD_mk ?_ ?_ | refine GD_mk ?_ ?_ | refine GQ_mk ?_ ?_ | refine PK_mk ?_ ?_) <;> intro hg <;> (try simp only [hg]) <;> (try simp only [bunB, ne_eq] at hg) <;> first | (exfalso; omega) | (exfalso; exact Bool.noConfusion hg) | (exfalso; exact hg trivial) | skip) | refine And.intro (by omega) ?_ | omega
      all_goals trace_state
    | true =>
      repeat' first | refine WE_fit (small3_spec) ?_ ?_ | refine WE_fit (new_box) ?_ ?_ | refine WE_fit (c1) ?_ ?_ | refine WE_fit (c2) ?_ ?_ | refine WE_fit (c3) ?_ ?_ | refine WE_fit (c4) ?_ ?_ | refine WE_fit (c5) ?_ ?_ | refine WE_fit (rform_spec s _ _ (by omega)) ?_ ?_ | simp (maxSteps := 4000000) (disch := omega) only [bun, ↓WG_true, ↓WG_false, labelOf, findLabel, dstOf, get, put, putD, Nat.reduceEqDiff, ↓reduceIte, importS, imp, imps, shift, shifts, TI.agg, pushS, obj, setOb, killT, killM, killO, cond_true, cond_false, Nat.reduceBEq, killCs, hasId, hasIds, Nat.reduceAdd, Nat.reduceMul, Nat.reduceSub, Nat.reduceLeDiff, initT, reduceCtorEq, Int.reduceNe, Int.reduceLE, Int.reduceEq, ne_eq, Int.reducePow, Int.reduceAdd, Int.reduceSub, Int.reduceMul, I32, I64, Bv, U8, Sv, unown, unowns, names, namess, plainR, plainRs, Int.reduceBEq, Int.reduceLT, Int.reduceGT, Int.reduceGE, Int.reduceBNe, below, belows, noF, isF, nodupN, lendObs, lendOb, kindsOk, kindOk, rens, ren, renF, givL, killTs, killMs, updM, backO, renO, belowM, hf, C1_ti3, C1_td3, C1_fit3, C1_ti4, C1_td4, C1_fit4, C1_ti9, C1_td9, C1_fit9, C1_ti21, C1_td21, C1_fit21, C1_ti25, C1_td25, C1_ti26, C1_td26, C1_ti27, C1_td27, C1_ti28, C1_td28, C1_ti29, C1_td29, C1_ti31, C1_td31, C1_fld31_0, C1_fld31_1, C1_fld31_2, C1_fld31_3, C1_fld31_4, C1_ti55, C1_td55, C1_fld55_0, C1_fld55_1, C1_fld55_2, C1_fld55_3, C1_fld55_4, C1_fit55, C1_ti57, C1_td57, C1_fld57_0, C1_fld57_1, C1_fit57, C1_ti70, C1_td70, C1_fld70_0, C1_fld70_1, C1_fld70_2, C1_fld70_3, C1_fit70, C1_ti75, C1_td75, C1_fld75_0, C1_fld75_1, C1_fld75_2, C1_fld75_3, C1_fld75_4, C1_fld75_5, C1_fit75, C1_ti77, C1_td77, C1_fld77_0, C1_fld77_1, C1_fld77_2, C1_fit77, bunN, tb_fzs, tb_bel, tb_names, tabBox_len, tb_one, tb_take, tb_has, tb_kill, tb_imps, tb_shifts, tb_set, List.map_nil, List.nil_append] | exact NK_no _ | refine NK_cl _ _ ?_ | exact clean_v _ | exact clean_u8 _ _ _ _ | exact clean_i32 _ _ _ _ | exact clean_str _ _ _ _ | refine clean_tup _ ?_ | refine clean_ag _ ?_ | exact cleans_nil | refine cleans_cons _ _ ?_ ?_ | refine DR_q _ ?_ | ((first | refine WG_mk ?_ ?_ | refine CD_mk ?_ ?_ | refine GD_mk ?_ ?_ | refine GQ_mk ?_ ?_ | refine PK_mk ?_ ?_) <;> intro hg <;> (try simp only [hg]) <;> (try simp only [bunB, ne_eq] at hg) <;> first | (exfalso; omega) | (exfalso; exact Bool.noConfusion hg) | (exfalso; exact hg trivial) | skip) | refine And.intro (by omega) ?_ | omega
      all_goals trace_state
  · repeat' first | refine WE_fit (small3_spec) ?_ ?_ | simp (maxSteps := 4000000) (disch := omega) only [bun, ↓WG_true, ↓WG_false, labelOf, findLabel, dstOf, get, put, putD, Nat.reduceEqDiff, ↓reduceIte, importS, imp, imps, shift, shifts, TI.agg, pushS, obj, setOb, killT, killM, killO, cond_true, cond_false, Nat.reduceBEq, killCs, hasId, hasIds, Nat.reduceAdd, Nat.reduceMul, Nat.reduceSub, Nat.reduceLeDiff, initT, reduceCtorEq, Int.reduceNe, Int.reduceLE, Int.reduceEq, ne_eq, Int.reducePow, Int.reduceAdd, Int.reduceSub, Int.reduceMul, I32, I64, Bv, U8, Sv, unown, unowns, names, namess, plainR, plainRs, Int.reduceBEq, Int.reduceLT, Int.reduceGT, Int.reduceGE, Int.reduceBNe, below, belows, noF, isF, nodupN, lendObs, lendOb, kindsOk, kindOk, rens, ren, renF, givL, killTs, killMs, updM, backO, renO, belowM, C1_ti3, C1_td3, C1_fit3, C1_ti4, C1_td4, C1_fit4, C1_ti9, C1_td9, C1_fit9, C1_ti21, C1_td21, C1_fit21, C1_ti25, C1_td25, C1_ti26, C1_td26, C1_ti27, C1_td27, C1_ti28, C1_td28, C1_ti29, C1_td29, C1_ti31, C1_td31, C1_fld31_0, C1_fld31_1, C1_fld31_2, C1_fld31_3, C1_fld31_4, C1_ti55, C1_td55, C1_fld55_0, C1_fld55_1, C1_fld55_2, C1_fld55_3, C1_fld55_4, C1_fit55, C1_ti57, C1_td57, C1_fld57_0, C1_fld57_1, C1_fit57, C1_ti70, C1_td70, C1_fld70_0, C1_fld70_1, C1_fld70_2, C1_fld70_3, C1_fit70, C1_ti75, C1_td75, C1_fld75_0, C1_fld75_1, C1_fld75_2, C1_fld75_3, C1_fld75_4, C1_fld75_5, C1_fit75, C1_ti77, C1_td77, C1_fld77_0, C1_fld77_1, C1_fld77_2, C1_fit77, bunN, tb_fzs, tb_bel, tb_names, tabBox_len, tb_one, tb_take, tb_has, tb_kill, tb_imps, tb_shifts, tb_set, List.map_nil, List.nil_append] | exact NK_no _ | refine NK_cl _ _ ?_ | exact clean_v _ | exact clean_u8 _ _ _ _ | exact clean_i32 _ _ _ _ | exact clean_str _ _ _ _ | refine clean_tup _ ?_ | refine clean_ag _ ?_ | exact cleans_nil | refine cleans_cons _ _ ?_ ?_ | refine DR_q _ ?_ | ((first | refine WG_mk ?_ ?_ | refine CD_mk ?_ ?_ | refine GD_mk ?_ ?_ | refine GQ_mk ?_ ?_ | refine PK_mk ?_ ?_) <;> intro hg <;> (try simp only [hg]) <;> (try simp only [bunB, ne_eq] at hg) <;> first | (exfalso; omega) | (exfalso; exact Bool.noConfusion hg) | (exfalso; exact hg trivial) | skip) | refine And.intro (by omega) ?_ | omega
end Go.AE
end
section
/- More laws of chapter 3. -/
namespace Go.AE
open Go.Proofs
set_option maxRecDepth 20000
set_option maxHeartbeats 8000000
set_option linter.unusedSimpArgs false
theorem asc_chk : ((List.range 128).all fun n : Nat => decide (one1 false (n : Int) = [(n : Int)]) && decide (one1 true (n : Int) = [(n : Int)]) && decide (cls (n : Int) = 0)) = true := by decide +kernel
theorem asc_one {r : Int} (h : 0 ≤ r) (h' : r < 128) : (∀ soft, one1 soft r = [r]) ∧ cls r = 0 := by
  have := List.all_eq_true.1 asc_chk r.toNat (List.mem_range.2 (by omega))
  simp only [Bool.and_eq_true, decide_eq_true_eq] at this
  rw [show ((r.toNat : Nat) : Int) = r by omega] at this
  exact ⟨fun soft => by cases soft; exact this.1.1; exact this.1.2, this.2⟩
theorem few_spec (l : List Int) : Spec Try.prog 10 [.sl l.length (l.map I32)] (Bv (decide (l.length ≤ 120))) := by
  refine spec_mk (z := false) (ts := [.tmp 2]) ok1 Try.func10 rfl rfl (by decide +kernel) (by simp [Try.ntmps10]) rfl ?_
  repeat' first | simp (maxSteps := 4000000) (disch := omega) only [bun, ↓WG_true, ↓WG_false, labelOf, findLabel, dstOf, get, put, putD, Nat.reduceEqDiff, ↓reduceIte, importS, imp, imps, shift, shifts, TI.agg, pushS, obj, setOb, killT, killM, killO, cond_true, cond_false, Nat.reduceBEq, killCs, hasId, hasIds, Nat.reduceAdd, Nat.reduceMul, Nat.reduceSub, Nat.reduceLeDiff, initT, reduceCtorEq, Int.reduceNe, Int.reduceLE, Int.reduceEq, ne_eq, Int.reducePow, Int.reduceAdd, Int.reduceSub, Int.reduceMul, I32, I64, Bv, U8, Sv, unown, unowns, names, namess, plainR, plainRs, Int.reduceBEq, Int.reduceLT, Int.reduceGT, Int.reduceGE, Int.reduceBNe, below, belows, noF, isF, nodupN, lendObs, lendOb, kindsOk, kindOk, rens, ren, renF, givL, killTs, killMs, updM, backO, renO, belowM, C1_ti3, C1_td3, C1_fit3, C1_ti4, C1_td4, C1_fit4, C1_ti21, C1_td21, C1_fit21, C1_ti22, C1_td22, bunN, tb_fzs, tb_bel, tb_names, tabBox_len, tb_one, tb_take, tb_has, tb_kill, tb_imps, tb_shifts, tb_set, List.map_nil, List.nil_append] | refine DR_q _ ?_ | ((first | refine WG_mk ?_ ?_ | refine CD_mk ?_ ?_ | refine GD_mk ?_ ?_ | refine GQ_mk ?_ ?_ | refine PK_mk ?_ ?_) <;> intro hg <;> (try simp only [hg]) <;> (try simp only [bunB, ne_eq] at hg) <;> first | (exfalso; omega) | (exfalso; exact Bool.noConfusion hg) | (exfalso; exact hg trivial) | skip) | refine And.intro (by omega) ?_ | omega
  all_goals (congr 2; simp; omega)
def asc (s : List UInt8) : List Int := s.map fun c => (c.toNat : Int)
theorem one_asc (c : UInt8) (t : List UInt8) (h : c.toNat < 128) : one (c :: t) = some ((c.toNat : Int), 1) := by
  have hl : lead (c.toNat : Int) = (0, (c.toNat : Int)) := by unfold lead; rw [if_pos (by omega)]
  unfold one
  simp only [hl]
  have hr : rlen (c.toNat : Int) = 1 := by
    simp (disch := omega) [rlen, right]
    omega
  simp [foldB, hr]
theorem runesF_asc : ∀ (f : Nat) (s : List UInt8) (a : Int), s.length < f → (∀ c ∈ s, c.toNat < 128) → runesF f a s = (asc s, -1)
  | 0, _, _, h, _ => by omega
  | f + 1, [], _, _, _ => rfl
  | f + 1, c :: t, a, h, hc => by
    simp only [List.length_cons] at h
    rw [runesF, if_neg (by simp), one_asc c t (hc c (by simp))]
    simp only [runesN, List.drop_succ_cons, List.drop_zero]
    rw [runesF_asc f t _ (by omega) (fun d hd => hc d (by simp [hd]))]
    rfl
theorem pr_chk : (splits.all fun s => s.2.2.2.1 || s.2.2.2.2 || decide (128 ≤ s.2.2.1) || decide (s.2.2.1 = 0)) = true := by decide +kernel
theorem asc_mem {s : List UInt8} (h : ∀ c ∈ s, c.toNat < 128) : ∀ r ∈ asc s, 0 ≤ r ∧ r < 128 := fun r hr => by
  obtain ⟨c, hc, rfl⟩ := List.mem_map.1 hr
  have := h c hc
  omega
theorem splt_asc {soft : Bool} : ∀ {l : List Int}, (∀ r ∈ l, 0 ≤ r ∧ r < 128) → spltL soft l = l
  | [], _ => rfl
  | a :: l, h => by
    have := splt_asc (soft := soft) (l := l) (fun r hr => h r (by simp [hr]))
    unfold spltL at this ⊢
    rw [List.flatMap_cons, this, (asc_one (h a (by simp)).1 (h a (by simp)).2).1 soft]; rfl
theorem ord_asc : ∀ {l : List Int}, (∀ r ∈ l, 0 ≤ r ∧ r < 128) → ordL l = l
  | [], _ => rfl
  | a :: l, h => by
    have := ord_asc (l := l) (fun r hr => h r (by simp [hr]))
    unfold ordL at this ⊢
    rw [ordF, if_neg (by rw [(asc_one (h a (by simp)).1 (h a (by simp)).2).2]; omega), this]; rfl
theorem mk2_asc {b x : Int} (h0 : 0 ≤ x) (h1 : x < 128) : (mk2 b x).2 = false := by
  unfold mk2
  rw [if_neg (by omega), if_neg (by omega)]
  have hn : splits.find? (pairP b x) = none := by
    by_cases hx : x = 0
    · subst hx; exact pair_zero b
    · refine List.find?_eq_none.2 fun s hs hp => ?_
      have := List.all_eq_true.1 pr_chk s hs
      simp only [pairP, Bool.and_eq_true, Bool.not_eq_true', beq_iff_eq] at hp
      rw [hp.1.1.1, hp.1.1.2, hp.2] at this
      simp at this
      omega
  unfold pr
  rw [hn]; rfl
theorem join_asc {l : List Int} (h : ∀ r ∈ l, 0 ≤ r ∧ r < 128) : joinL l = l := by
  have key : ∀ (l : List Int) (s : JS), (∀ r ∈ l, 0 ≤ r ∧ r < 128) → (l.foldl jStep s).out = s.out ++ l := fun l => by
    induction l with
    | nil => intro s _; simp
    | cons x l ih =>
      intro s hl
      have hs : jStep s x = s.put x := by
        unfold jStep
        split
        · rfl
        · rw [mk2_asc (hl x (by simp)).1 (hl x (by simp)).2]
          split <;> simp
      rw [List.foldl_cons, ih _ (fun r hr => hl r (by simp [hr])), hs, put_out]; simp
  exact key l _ h
theorem str_asc {s : List UInt8} (h : ∀ c ∈ s, c.toNat < 128) : strS (asc s) = s ∧ strOk (asc s) = true := by
  have hok : strOk (asc s) = true := List.all_eq_true.2 fun r hr => by
    have := asc_mem h r hr
    exact (right_iff _).2 (by omega)
  refine ⟨?_, hok⟩
  unfold strS
  rw [if_pos hok]
  clear hok
  induction s with
  | nil => rfl
  | cons c t ih =>
    have hc := h c (by simp)
    have he : enc (c.toNat : Int) = [c] := by
      unfold enc
      rw [if_pos ((right_iff _).2 (by omega)), if_pos (by omega)]
      have : ofI (c.toNat : Int) = c := by
        apply UInt8.toNat.inj
        have := c.toNat_lt
        simp [ofI]
      rw [this]
    have := ih (fun d hd => h d (by simp [hd]))
    unfold asc at this ⊢
    rw [List.map_cons, List.flatMap_cons, he, this]; rfl
theorem form_asc {s : List UInt8} (h : ∀ c ∈ s, c.toNat < 128) (soft join : Bool) : formS soft join s = (s, true) := by
  have hr : runes s = (asc s, -1) := runesF_asc _ _ _ (by omega) h
  have ha := asc_mem h
  have hl : formL soft join (asc s) = asc s := by
    unfold formL
    rw [splt_asc ha, ord_asc ha, join_asc ha]
    split <;> rfl
  unfold formS
  rw [hr, if_neg (show ¬ (0 : Int) ≤ -1 by decide), hl, (str_asc h).1, (str_asc h).2]
theorem normPlain_spec (s : List UInt8) : Spec Try.prog 8 [Sv s] (Bv true) := by
  refine spec_mk (z := false) (ts := [.tmp 2]) ok1 Try.func8 rfl rfl (by decide +kernel) (by simp [Try.ntmps8]) rfl ?_
  by_cases hs : s.length ≤ 300
  · by_cases h8 : 0 ≤ eight s
    · repeat' first | refine WE_fit (small3_spec) ?_ ?_ | refine WE_fit (utfEight_spec s (by omega)) ?_ ?_ | simp (maxSteps := 4000000) (disch := omega) only [bun, ↓WG_true, ↓WG_false, labelOf, findLabel, dstOf, get, put, putD, Nat.reduceEqDiff, ↓reduceIte, importS, imp, imps, shift, shifts, TI.agg, pushS, obj, setOb, killT, killM, killO, cond_true, cond_false, Nat.reduceBEq, killCs, hasId, hasIds, Nat.reduceAdd, Nat.reduceMul, Nat.reduceSub, Nat.reduceLeDiff, initT, reduceCtorEq, Int.reduceNe, Int.reduceLE, Int.reduceEq, ne_eq, Int.reducePow, Int.reduceAdd, Int.reduceSub, Int.reduceMul, I32, I64, Bv, U8, Sv, unown, unowns, names, namess, plainR, plainRs, Int.reduceBEq, Int.reduceLT, Int.reduceGT, Int.reduceGE, Int.reduceBNe, below, belows, noF, isF, nodupN, lendObs, lendOb, kindsOk, kindOk, rens, ren, renF, givL, killTs, killMs, updM, backO, renO, belowM, C1_ti3, C1_td3, C1_fit3, C1_ti4, C1_td4, C1_fit4, C1_ti9, C1_td9, C1_fit9, C1_ti21, C1_td21, C1_fit21, C1_ti25, C1_td25, C1_ti26, C1_td26, C1_ti27, C1_td27, C1_ti28, C1_td28, C1_ti29, C1_td29, C1_ti31, C1_td31, C1_fld31_0, C1_fld31_1, C1_fld31_2, C1_fld31_3, C1_fld31_4, C1_ti55, C1_td55, C1_fld55_0, C1_fld55_1, C1_fld55_2, C1_fld55_3, C1_fld55_4, C1_fit55, C1_ti57, C1_td57, C1_fld57_0, C1_fld57_1, C1_fit57, C1_ti70, C1_td70, C1_fld70_0, C1_fld70_1, C1_fld70_2, C1_fld70_3, C1_fit70, C1_ti75, C1_td75, C1_fld75_0, C1_fld75_1, C1_fld75_2, C1_fld75_3, C1_fld75_4, C1_fld75_5, C1_fit75, C1_ti77, C1_td77, C1_fld77_0, C1_fld77_1, C1_fld77_2, C1_fit77, bunN, tb_fzs, tb_bel, tb_names, tabBox_len, tb_one, tb_take, tb_has, tb_kill, tb_imps, tb_shifts, tb_set, List.map_nil, List.nil_append] | exact NK_no _ | refine NK_cl _ _ ?_ | exact clean_v _ | exact clean_u8 _ _ _ _ | exact clean_i32 _ _ _ _ | exact clean_str _ _ _ _ | refine clean_tup _ ?_ | refine clean_ag _ ?_ | exact cleans_nil | refine cleans_cons _ _ ?_ ?_ | refine DR_q _ ?_ | ((first | refine WG_mk ?_ ?_ | refine CD_mk ?_ ?_ | refine GD_mk ?_ ?_ | refine GQ_mk ?_ ?_ | refine PK_mk ?_ ?_) <;> intro hg <;> (try simp only [hg]) <;> (try simp only [bunB, ne_eq] at hg) <;> first | (exfalso; omega) | (exfalso; exact Bool.noConfusion hg) | (exfalso; exact hg trivial) | skip) | refine And.intro (by omega) ?_ | omega
    · have hb : ∀ c ∈ s, c.toNat < 128 := by
        have key : ∀ (s : List UInt8) (k : Nat), ¬ 0 ≤ eightF k s → ∀ c ∈ s, c.toNat < 128 := fun s => by
          induction s with
          | nil => intro k _ c hc; cases hc
          | cons b l ih =>
            intro k h c hc
            rw [eightF] at h
            split at h
            · omega
            · rcases List.mem_cons.1 hc with rfl | hc
              · omega
              · exact ih (k + 1) h c hc
        exact key s 0 h8
      have c1 := nfd_spec s (by omega)
      have c4 := nfkc_spec s (by omega)
      have c5 := nis_spec s (by omega)
      rw [form_asc hb, ← tabBox_eq] at c1 c4 c5
      simp only [Bool.true_and, beq_self_eq_true] at c5
      repeat' first | refine WE_fit (small3_spec) ?_ ?_ | refine WE_fit (utfEight_spec s (by omega)) ?_ ?_ | refine WE_fit (new_box) ?_ ?_ | refine WE_fit (c1) ?_ ?_ | refine WE_fit (c4) ?_ ?_ | refine WE_fit (c5) ?_ ?_ | simp (maxSteps := 4000000) (disch := omega) only [bun, ↓WG_true, ↓WG_false, labelOf, findLabel, dstOf, get, put, putD, Nat.reduceEqDiff, ↓reduceIte, importS, imp, imps, shift, shifts, TI.agg, pushS, obj, setOb, killT, killM, killO, cond_true, cond_false, Nat.reduceBEq, killCs, hasId, hasIds, Nat.reduceAdd, Nat.reduceMul, Nat.reduceSub, Nat.reduceLeDiff, initT, reduceCtorEq, Int.reduceNe, Int.reduceLE, Int.reduceEq, ne_eq, Int.reducePow, Int.reduceAdd, Int.reduceSub, Int.reduceMul, I32, I64, Bv, U8, Sv, unown, unowns, names, namess, plainR, plainRs, Int.reduceBEq, Int.reduceLT, Int.reduceGT, Int.reduceGE, Int.reduceBNe, below, belows, noF, isF, nodupN, lendObs, lendOb, kindsOk, kindOk, rens, ren, renF, givL, killTs, killMs, updM, backO, renO, belowM, C1_ti3, C1_td3, C1_fit3, C1_ti4, C1_td4, C1_fit4, C1_ti9, C1_td9, C1_fit9, C1_ti21, C1_td21, C1_fit21, C1_ti25, C1_td25, C1_ti26, C1_td26, C1_ti27, C1_td27, C1_ti28, C1_td28, C1_ti29, C1_td29, C1_ti31, C1_td31, C1_fld31_0, C1_fld31_1, C1_fld31_2, C1_fld31_3, C1_fld31_4, C1_ti55, C1_td55, C1_fld55_0, C1_fld55_1, C1_fld55_2, C1_fld55_3, C1_fld55_4, C1_fit55, C1_ti57, C1_td57, C1_fld57_0, C1_fld57_1, C1_fit57, C1_ti70, C1_td70, C1_fld70_0, C1_fld70_1, C1_fld70_2, C1_fld70_3, C1_fit70, C1_ti75, C1_td75, C1_fld75_0, C1_fld75_1, C1_fld75_2, C1_fld75_3, C1_fld75_4, C1_fld75_5, C1_fit75, C1_ti77, C1_td77, C1_fld77_0, C1_fld77_1, C1_fld77_2, C1_fit77, bunN, tb_fzs, tb_bel, tb_names, tabBox_len, tb_one, tb_take, tb_has, tb_kill, tb_imps, tb_shifts, tb_set, List.map_nil, List.nil_append] | exact NK_no _ | refine NK_cl _ _ ?_ | exact clean_v _ | exact clean_u8 _ _ _ _ | exact clean_i32 _ _ _ _ | exact clean_str _ _ _ _ | refine clean_tup _ ?_ | refine clean_ag _ ?_ | exact cleans_nil | refine cleans_cons _ _ ?_ ?_ | refine DR_q _ ?_ | ((first | refine WG_mk ?_ ?_ | refine CD_mk ?_ ?_ | refine GD_mk ?_ ?_ | refine GQ_mk ?_ ?_ | refine PK_mk ?_ ?_) <;> intro hg <;> (try simp only [hg]) <;> (try simp only [bunB, ne_eq] at hg) <;> first | (exfalso; omega) | (exfalso; exact Bool.noConfusion hg) | (exfalso; exact hg trivial) | skip) | refine And.intro (by omega) ?_ | omega
  · repeat' first | refine WE_fit (small3_spec) ?_ ?_ | simp (maxSteps := 4000000) (disch := omega) only [bun, ↓WG_true, ↓WG_false, labelOf, findLabel, dstOf, get, put, putD, Nat.reduceEqDiff, ↓reduceIte, importS, imp, imps, shift, shifts, TI.agg, pushS, obj, setOb, killT, killM, killO, cond_true, cond_false, Nat.reduceBEq, killCs, hasId, hasIds, Nat.reduceAdd, Nat.reduceMul, Nat.reduceSub, Nat.reduceLeDiff, initT, reduceCtorEq, Int.reduceNe, Int.reduceLE, Int.reduceEq, ne_eq, Int.reducePow, Int.reduceAdd, Int.reduceSub, Int.reduceMul, I32, I64, Bv, U8, Sv, unown, unowns, names, namess, plainR, plainRs, Int.reduceBEq, Int.reduceLT, Int.reduceGT, Int.reduceGE, Int.reduceBNe, below, belows, noF, isF, nodupN, lendObs, lendOb, kindsOk, kindOk, rens, ren, renF, givL, killTs, killMs, updM, backO, renO, belowM, C1_ti3, C1_td3, C1_fit3, C1_ti4, C1_td4, C1_fit4, C1_ti9, C1_td9, C1_fit9, C1_ti21, C1_td21, C1_fit21, C1_ti25, C1_td25, C1_ti26, C1_td26, C1_ti27, C1_td27, C1_ti28, C1_td28, C1_ti29, C1_td29, C1_ti31, C1_td31, C1_fld31_0, C1_fld31_1, C1_fld31_2, C1_fld31_3, C1_fld31_4, C1_ti55, C1_td55, C1_fld55_0, C1_fld55_1, C1_fld55_2, C1_fld55_3, C1_fld55_4, C1_fit55, C1_ti57, C1_td57, C1_fld57_0, C1_fld57_1, C1_fit57, C1_ti70, C1_td70, C1_fld70_0, C1_fld70_1, C1_fld70_2, C1_fld70_3, C1_fit70, C1_ti75, C1_td75, C1_fld75_0, C1_fld75_1, C1_fld75_2, C1_fld75_3, C1_fld75_4, C1_fld75_5, C1_fit75, C1_ti77, C1_td77, C1_fld77_0, C1_fld77_1, C1_fld77_2, C1_fit77, bunN, tb_fzs, tb_bel, tb_names, tabBox_len, tb_one, tb_take, tb_has, tb_kill, tb_imps, tb_shifts, tb_set, List.map_nil, List.nil_append] | exact NK_no _ | refine NK_cl _ _ ?_ | exact clean_v _ | exact clean_u8 _ _ _ _ | exact clean_i32 _ _ _ _ | exact clean_str _ _ _ _ | refine clean_tup _ ?_ | refine clean_ag _ ?_ | exact cleans_nil | refine cleans_cons _ _ ?_ ?_ | refine DR_q _ ?_ | ((first | refine WG_mk ?_ ?_ | refine CD_mk ?_ ?_ | refine GD_mk ?_ ?_ | refine GQ_mk ?_ ?_ | refine PK_mk ?_ ?_) <;> intro hg <;> (try simp only [hg]) <;> (try simp only [bunB, ne_eq] at hg) <;> first | (exfalso; omega) | (exfalso; exact Bool.noConfusion hg) | (exfalso; exact hg trivial) | skip) | refine And.intro (by omega) ?_ | omega
end Go.AE
end
