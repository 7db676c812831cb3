/- Contracts of functions that the laws of this seat reach, and plain laws of what they compute. No condition beyond each statement's own. -/
import Derived.Test.YtfafkcnoinnokaaXG
import Derived.Test.YtfafkcnoinnokaaXF
set_option linter.unusedVariables false
set_option linter.unusedSimpArgs false
section
/- Chapter 6: letters, digits and dashes of ASCII. -/
namespace Go.AE
open Go.Proofs
set_option maxRecDepth 20000
set_option linter.unusedSimpArgs false
def ok6 (n : Nat) : Bool := (decide (97 ≤ n) && decide (n ≤ 122)) || (decide (65 ≤ n) && decide (n ≤ 90)) || (decide (48 ≤ n) && decide (n ≤ 57)) || n == 45
theorem ascii6 : ∀ n : Nat, n < 128 → ok6 n = true → (65 ≤ n → bidi n = 1) ∧ (n < 65 → n ≠ 45 → bidi n = 4) ∧ (n = 45 → bidi n = 7) := by decide +kernel
def bl (S : List UInt8) : List Int := S.map fun b => (b.toNat : Int)
theorem bl_len (S : List UInt8) : (bl S).length = S.length := by simp [bl]
theorem bl_get {S : List UInt8} {i : Nat} (h : i < S.length) : (bl S).getD i 0 = ((S.getD i 0).toNat : Int) := by simp [bl, List.getD, h]
theorem ok6_bidi {n : Nat} (h : ok6 n = true) : (65 ≤ n → bidi n = 1) ∧ (n < 65 → n ≠ 45 → bidi n = 4) ∧ (n = 45 → bidi n = 7) := by
  refine ascii6 n ?_ h
  simp [ok6] at h; omega
theorem plain6_law {S : List UInt8} (h : 0 < S.length) (ho : ∀ j, j < S.length → ok6 (S.getD j 0).toNat = true) :
    hasB (bl S) = false ∧ ruleB (bl S) = (decide (65 ≤ ((S.getD 0 0).toNat : Int)) && (((S.getD (S.length - 1) 0).toNat : Int) != 45)) := by
  have hval : ∀ j, j < S.length → bidi ((bl S).getD j 0) = 1 ∨ bidi ((bl S).getD j 0) = 4 ∨ bidi ((bl S).getD j 0) = 7 := by
    intro j hj
    obtain ⟨k1, k2, k3⟩ := ok6_bidi (ho j hj)
    rw [bl_get hj]
    by_cases h1 : 65 ≤ (S.getD j 0).toNat
    · exact .inl (k1 h1)
    · by_cases h2 : (S.getD j 0).toNat = 45
      · exact .inr (.inr (k3 h2))
      · exact .inr (.inl (k2 (by omega) h2))
  have hh : hasB (bl S) = false := by
    unfold hasB
    exact any_no (i := S.length) (fun j hj => by rcases hval j hj with e | e | e <;> simp only [rtl, e] <;> rfl) (by rw [bl_len]; omega)
  refine ⟨hh, ?_⟩
  have hl : lastB (bl S) = bidi ((bl S).getD (S.length - 1) 0) := by
    have e := take_snoc (L := bl S) (i := S.length - 1) (by rw [bl_len]; omega)
    rw [show S.length - 1 + 1 = (bl S).length by rw [bl_len]; omega, List.take_length] at e
    have e2 := lastB_snoc ((bl S).take (S.length - 1)) ((bl S).getD (S.length - 1) 0)
    rw [← e] at e2
    rw [e2, if_neg (by rcases hval (S.length - 1) (by omega) with e | e | e <;> omega)]
  have hs := sideB_cons (L := bl S) (by rw [bl_len]; exact h)
  obtain ⟨a1, a2, a3⟩ := ok6_bidi (ho 0 h)
  obtain ⟨z1, z2, z3⟩ := ok6_bidi (ho (S.length - 1) (by omega))
  rw [bl_get h] at hs
  rw [bl_get (by omega)] at hl
  unfold ruleB
  rw [hh, hl]
  by_cases h65 : 65 ≤ (S.getD 0 0).toNat
  · rw [a1 h65] at hs
    rw [show sideB (bl S) = 1 by rw [hs]; decide, if_neg (by decide), if_pos rfl]
    have e1 : decide (65 ≤ ((S.getD 0 0).toNat : Int)) = true := decide_eq_true (by omega)
    rw [e1]
    by_cases h45 : (S.getD (S.length - 1) 0).toNat = 45
    · rw [z3 h45, h45]; rfl
    · have e2 : (((S.getD (S.length - 1) 0).toNat : Int) != 45) = true := by
        rw [bne_iff_ne]; intro e; apply h45; omega
      rw [e2]
      by_cases hz : 65 ≤ (S.getD (S.length - 1) 0).toNat
      · rw [z1 hz]; rfl
      · rw [z2 (by omega) h45]; rfl
  · have hb : bidi ((S.getD 0 0).toNat : Int) = 4 ∨ bidi ((S.getD 0 0).toNat : Int) = 7 := by
      by_cases h2 : (S.getD 0 0).toNat = 45
      · exact .inr (a3 h2)
      · exact .inl (a2 (by omega) h2)
    have hs0 : sideB (bl S) = 0 := by rcases hb with e | e <;> (rw [hs, e]; decide)
    have e1 : decide (65 ≤ ((S.getD 0 0).toNat : Int)) = false := decide_eq_false (by omega)
    rw [hs0, if_neg (by decide), if_neg (by decide), e1]
    cases S with
    | nil => simp at h
    | cons b l => rfl
set_option maxHeartbeats 4000000 in
theorem bidiPlain_spec (S : List UInt8) : Spec Try.prog 6 [Sv S] (Bv true) := by
  refine spec_mk (z := false) (ts := [.tmp 2]) ok1 Try.func6 rfl rfl (by decide +kernel) (by simp [Try.ntmps6]) rfl ?_
  by_cases hL : 0 < S.length ∧ S.length ≤ 300
  · repeat' first | refine WE_fit (bsmall_spec) ?_ ?_ | refine WE_fit (new_spec) ?_ ?_ | simp (maxSteps := 4000000) (disch := omega) only [base, baseX, Option.getD_some, ↓WG_true, ↓WG_false, labelOf, findLabel, Option.isSome_some, Option.isSome_none, dstOf, get, put, putD, List.getElem?_cons_zero, List.getElem?_cons_succ, Option.bind_some, Nat.reduceEqDiff, ↓reduceIte, importS, imp, imps, shift, shifts, List.map_nil, List.map_cons, List.nil_append, List.append_nil, List.cons_append, List.length_nil, List.length_cons, true_and, and_true, TI.agg, Option.map_some, Option.map_none, pushS, obj, setOb, killT, killM, killO, cond_true, cond_false, beq_self_eq_true, Nat.reduceBEq, killCs, hasId, hasIds, List.drop_zero, List.take_succ_cons, List.take_zero, List.take_nil, List.drop_succ_cons, Nat.mul_one, Nat.one_mul, Nat.add_zero, Nat.zero_add, Nat.zero_mul, Int.toNat_natCast, Int.toNat_zero, Int.toNat_one, List.length_map, List.length_drop, List.length_append, Nat.reduceAdd, Nat.reduceMul, Nat.reduceSub, Nat.reduceLeDiff, Nat.lt_add_one, Nat.zero_lt_succ, Nat.succ_pos, decide_true, decide_false, Bool.and_true, Bool.true_and, Bool.and_false, Bool.false_and, Bool.or_true, Bool.true_or, Bool.or_false, Bool.false_or, Bool.not_true, Bool.not_false, beq_iff_eq, List.contains_nil, initT, List.all_cons, List.all_nil, List.toList_toArray, Int.ofNat_zero, reduceCtorEq, Int.reduceNe, Int.reduceLE, Int.reduceEq, ne_eq, not_false_eq_true, Int.reducePow, Int.toNat_of_nonneg, Int.reduceAdd, Int.reduceSub, Int.reduceMul, I32, I64, Bv, U8, Sv, unown, unowns, names, namess, Bool.or_self, Bool.true_beq, Bool.false_beq, plainR, plainRs, Int.cast_ofNat_Int, Int.reduceBEq, Int.reduceLT, Int.reduceGT, Int.reduceGE, Int.reduceBNe, List.append_eq, below, belows, List.all_toArray, C1_ti3, C1_td3, C1_fit3, C1_ti4, C1_td4, C1_fit4, C1_ti5, C1_td5, C1_fit5, C1_ti9, C1_td9, C1_fit9, C1_ti21, C1_td21, C1_fit21, C1_ti22, C1_td22, C1_ti24, C1_td24, C1_ti25, C1_td25, C1_ti26, C1_td26, C1_ti27, C1_td27, C1_ti28, C1_td28, C1_ti30, C1_td30, C1_fld30_0, C1_fld30_1, C1_fld30_2, C1_fld30_3, C1_fld30_4, C1_ti46, C1_td46, C1_fld46_0, C1_fld46_1, C1_fld46_2, C1_fld46_3, C1_fld46_4, C1_fit46, C1_ti48, C1_td48, C1_fld48_0, C1_fld48_1, C1_fit48, C1_ti56, C1_td56, C1_fld56_0, C1_fld56_1, C1_fld56_2, C1_fld56_3, C1_fld56_4, C1_fld56_5, C1_fit56, C1_ti59, C1_td59, C1_fld59_0, C1_fld59_1, C1_fld59_2, C1_fld59_3, C1_fit59, C1_ti61, C1_td61, C1_fld61_0, C1_fld61_1, C1_fld61_2, C1_fit61, Int.tdiv_eq_ediv_of_nonneg, Int.tmod_eq_emod_of_nonneg, Int.fdiv_eq_ediv_of_nonneg, tab, tabC, nth_drop, nth_i32, Int.reduceToNat] | exact NK_no _ | refine NK_cl _ _ ?_ | exact clean_v _ | exact clean_u8 _ _ _ _ | exact clean_i32 _ _ _ _ | exact clean_str _ _ _ _ | refine clean_tup _ ?_ | refine clean_ag _ ?_ | exact cleans_nil | refine cleans_cons _ _ ?_ ?_ | ((first | refine WG_mk (fun hg => ?_) (fun hg => ?_) | refine CD_mk (fun hg => ?_) (fun hg => ?_) | refine GD_mk (fun hg => ?_) (fun hg => ?_) | refine GQ_mk (fun hg => ?_) (fun hg => ?_) | refine PK_mk (fun hg => ?_) (fun hg => ?_)) <;> (try simp only [hg]) <;> (try simp only [decide_eq_true_eq, decide_eq_false_iff_not, Bool.not_eq_true', Bool.not_eq_false', Bool.not_eq_true, Bool.not_eq_false, Bool.and_eq_true, Bool.or_eq_true, Bool.and_eq_false_iff, Bool.or_eq_false_iff, beq_iff_eq, bne_iff_ne, ne_eq, beq_eq_false_iff_ne, bne_eq_false_iff_eq] at hg) <;> first | (exfalso; omega) | (exfalso; exact Bool.noConfusion hg) | (exfalso; exact hg trivial) | skip) | refine And.intro (by omega) ?_ | omega
    refine LP_intro (fun i : Nat => ⟨[(0, Sv S), (3, Bv true), (4, .ref 0 0 ((bl S).take i).length), (5, I64 i)], [.arr 21 1 (((bl S).take i).map I32)]⟩) (fun i => i ≤ S.length ∧ ∀ j, j < i → ok6 (S.getD j 0).toNat = true) (fun i => S.length - i) 0 (by simp) (by (simp (disch := omega) [wk, wkT, wkM, get, belowT, belowM, below, belows, I64, I32, Bv, U8, Sv, bl] <;> try omega)) ?_
    intro i ⟨hi, hno⟩
    have hlen : ((bl S).take i).length = i := by rw [List.length_take, bl_len]; omega
    by_cases hlt : i < S.length
    · have hs := take_snoc (L := bl S) (i := i) (by rw [bl_len]; exact hlt)
      rw [bl_get hlt] at hs
      have hstep : ok6 (S.getD i 0).toNat = true → ∀ j, j < i + 1 → ok6 (S.getD j 0).toNat = true := fun h j hj => by
        rcases Nat.lt_or_ge j i with h1 | h1
        · exact hno j h1
        · rw [show j = i by omega]; exact h
      obtain ⟨c, hc⟩ : ∃ c, S.getD i 0 = c := ⟨_, rfl⟩
      rw [hc] at hs hstep
      have hc8 := u8_lt c
      repeat' first | refine WE_fit (bsmall_spec) ?_ ?_ | refine WE_fit (new_spec) ?_ ?_ | simp (maxSteps := 4000000) (disch := omega) only [base, baseX, Option.getD_some, ↓WG_true, ↓WG_false, labelOf, findLabel, Option.isSome_some, Option.isSome_none, dstOf, get, put, putD, List.getElem?_cons_zero, List.getElem?_cons_succ, Option.bind_some, Nat.reduceEqDiff, ↓reduceIte, importS, imp, imps, shift, shifts, List.map_nil, List.map_cons, List.nil_append, List.append_nil, List.cons_append, List.length_nil, List.length_cons, true_and, and_true, TI.agg, Option.map_some, Option.map_none, pushS, obj, setOb, killT, killM, killO, cond_true, cond_false, beq_self_eq_true, Nat.reduceBEq, killCs, hasId, hasIds, List.drop_zero, List.take_succ_cons, List.take_zero, List.take_nil, List.drop_succ_cons, Nat.mul_one, Nat.one_mul, Nat.add_zero, Nat.zero_add, Nat.zero_mul, Int.toNat_natCast, Int.toNat_zero, Int.toNat_one, List.length_map, List.length_drop, List.length_append, Nat.reduceAdd, Nat.reduceMul, Nat.reduceSub, Nat.reduceLeDiff, Nat.lt_add_one, Nat.zero_lt_succ, Nat.succ_pos, decide_true, decide_false, Bool.and_true, Bool.true_and, Bool.and_false, Bool.false_and, Bool.or_true, Bool.true_or, Bool.or_false, Bool.false_or, Bool.not_true, Bool.not_false, beq_iff_eq, List.contains_nil, initT, List.all_cons, List.all_nil, List.toList_toArray, Int.ofNat_zero, reduceCtorEq, Int.reduceNe, Int.reduceLE, Int.reduceEq, ne_eq, not_false_eq_true, Int.reducePow, Int.toNat_of_nonneg, Int.reduceAdd, Int.reduceSub, Int.reduceMul, I32, I64, Bv, U8, Sv, unown, unowns, names, namess, Bool.or_self, Bool.true_beq, Bool.false_beq, plainR, plainRs, Int.cast_ofNat_Int, Int.reduceBEq, Int.reduceLT, Int.reduceGT, Int.reduceGE, Int.reduceBNe, List.append_eq, below, belows, List.all_toArray, hc, hlen, C1_ti3, C1_td3, C1_fit3, C1_ti4, C1_td4, C1_fit4, C1_ti5, C1_td5, C1_fit5, C1_ti9, C1_td9, C1_fit9, C1_ti21, C1_td21, C1_fit21, C1_ti22, C1_td22, C1_ti24, C1_td24, C1_ti25, C1_td25, C1_ti26, C1_td26, C1_ti27, C1_td27, C1_ti28, C1_td28, C1_ti30, C1_td30, C1_fld30_0, C1_fld30_1, C1_fld30_2, C1_fld30_3, C1_fld30_4, C1_ti46, C1_td46, C1_fld46_0, C1_fld46_1, C1_fld46_2, C1_fld46_3, C1_fld46_4, C1_fit46, C1_ti48, C1_td48, C1_fld48_0, C1_fld48_1, C1_fit48, C1_ti56, C1_td56, C1_fld56_0, C1_fld56_1, C1_fld56_2, C1_fld56_3, C1_fld56_4, C1_fld56_5, C1_fit56, C1_ti59, C1_td59, C1_fld59_0, C1_fld59_1, C1_fld59_2, C1_fld59_3, C1_fit59, C1_ti61, C1_td61, C1_fld61_0, C1_fld61_1, C1_fld61_2, C1_fit61, Int.tdiv_eq_ediv_of_nonneg, Int.tmod_eq_emod_of_nonneg, Int.fdiv_eq_ediv_of_nonneg, tab, tabC, nth_drop, nth_i32, Int.reduceToNat] | exact NK_no _ | refine NK_cl _ _ ?_ | exact clean_v _ | exact clean_u8 _ _ _ _ | exact clean_i32 _ _ _ _ | exact clean_str _ _ _ _ | refine clean_tup _ ?_ | refine clean_ag _ ?_ | exact cleans_nil | refine cleans_cons _ _ ?_ ?_ | ((first | refine WG_mk (fun hg => ?_) (fun hg => ?_) | refine CD_mk (fun hg => ?_) (fun hg => ?_) | refine GD_mk (fun hg => ?_) (fun hg => ?_) | refine GQ_mk (fun hg => ?_) (fun hg => ?_) | refine PK_mk (fun hg => ?_) (fun hg => ?_)) <;> (try simp only [hg]) <;> (try simp only [decide_eq_true_eq, decide_eq_false_iff_not, Bool.not_eq_true', Bool.not_eq_false', Bool.not_eq_true, Bool.not_eq_false, Bool.and_eq_true, Bool.or_eq_true, Bool.and_eq_false_iff, Bool.or_eq_false_iff, beq_iff_eq, bne_iff_ne, ne_eq, beq_eq_false_iff_ne, bne_eq_false_iff_eq] at hg) <;> first | (exfalso; omega) | (exfalso; exact Bool.noConfusion hg) | (exfalso; exact hg trivial) | skip) | refine And.intro (by omega) ?_ | omega
      all_goals
        refine ⟨i + 1, ⟨by omega, hstep ?_⟩, by omega, ?_⟩
        · simp only [ok6, Bool.or_eq_true, Bool.and_eq_true, decide_eq_true_eq, beq_iff_eq]; omega
        · (simp (disch := omega) [wk, wkT, wkM, get, belowT, belowM, below, belows, I64, I32, Bv, U8, Sv, hs, hlen] <;> try omega)
    · obtain rfl : i = S.length := by omega
      obtain ⟨k1, k2⟩ := plain6_law hL.1 hno
      have et : (bl S).take S.length = bl S := List.take_of_length_le (by rw [bl_len]; omega)
      have hm : (bl S).length ≤ 1000 := by rw [bl_len]; omega
      have hix : ((S.length : Int) - 1).toNat = S.length - 1 := by omega
      rw [et]
      repeat' first | refine WE_fit (new_spec) ?_ ?_ | refine WE_fit (rule_spec6 _ hm) ?_ ?_ | refine WE_fit (has_spec _ hm) ?_ ?_ | simp (maxSteps := 4000000) (disch := omega) only [base, baseX, Option.getD_some, ↓WG_true, ↓WG_false, labelOf, findLabel, Option.isSome_some, Option.isSome_none, dstOf, get, put, putD, List.getElem?_cons_zero, List.getElem?_cons_succ, Option.bind_some, Nat.reduceEqDiff, ↓reduceIte, importS, imp, imps, shift, shifts, List.map_nil, List.map_cons, List.nil_append, List.append_nil, List.cons_append, List.length_nil, List.length_cons, true_and, and_true, TI.agg, Option.map_some, Option.map_none, pushS, obj, setOb, killT, killM, killO, cond_true, cond_false, beq_self_eq_true, Nat.reduceBEq, killCs, hasId, hasIds, List.drop_zero, List.take_succ_cons, List.take_zero, List.take_nil, List.drop_succ_cons, Nat.mul_one, Nat.one_mul, Nat.add_zero, Nat.zero_add, Nat.zero_mul, Int.toNat_natCast, Int.toNat_zero, Int.toNat_one, List.length_map, List.length_drop, List.length_append, Nat.reduceAdd, Nat.reduceMul, Nat.reduceSub, Nat.reduceLeDiff, Nat.lt_add_one, Nat.zero_lt_succ, Nat.succ_pos, decide_true, decide_false, Bool.and_true, Bool.true_and, Bool.and_false, Bool.false_and, Bool.or_true, Bool.true_or, Bool.or_false, Bool.false_or, Bool.not_true, Bool.not_false, beq_iff_eq, List.contains_nil, initT, List.all_cons, List.all_nil, List.toList_toArray, Int.ofNat_zero, reduceCtorEq, Int.reduceNe, Int.reduceLE, Int.reduceEq, ne_eq, not_false_eq_true, Int.reducePow, Int.toNat_of_nonneg, Int.reduceAdd, Int.reduceSub, Int.reduceMul, I32, I64, Bv, U8, Sv, unown, unowns, names, namess, Bool.or_self, Bool.true_beq, Bool.false_beq, plainR, plainRs, Int.cast_ofNat_Int, Int.reduceBEq, Int.reduceLT, Int.reduceGT, Int.reduceGE, Int.reduceBNe, List.append_eq, below, belows, List.all_toArray, k1, k2, hix, C1_ti3, C1_td3, C1_fit3, C1_ti4, C1_td4, C1_fit4, C1_ti5, C1_td5, C1_fit5, C1_ti9, C1_td9, C1_fit9, C1_ti21, C1_td21, C1_fit21, C1_ti22, C1_td22, C1_ti24, C1_td24, C1_ti25, C1_td25, C1_ti26, C1_td26, C1_ti27, C1_td27, C1_ti28, C1_td28, C1_ti30, C1_td30, C1_fld30_0, C1_fld30_1, C1_fld30_2, C1_fld30_3, C1_fld30_4, C1_ti46, C1_td46, C1_fld46_0, C1_fld46_1, C1_fld46_2, C1_fld46_3, C1_fld46_4, C1_fit46, C1_ti48, C1_td48, C1_fld48_0, C1_fld48_1, C1_fit48, C1_ti56, C1_td56, C1_fld56_0, C1_fld56_1, C1_fld56_2, C1_fld56_3, C1_fld56_4, C1_fld56_5, C1_fit56, C1_ti59, C1_td59, C1_fld59_0, C1_fld59_1, C1_fld59_2, C1_fld59_3, C1_fit59, C1_ti61, C1_td61, C1_fld61_0, C1_fld61_1, C1_fld61_2, C1_fit61, Int.tdiv_eq_ediv_of_nonneg, Int.tmod_eq_emod_of_nonneg, Int.fdiv_eq_ediv_of_nonneg, tab, tabC, nth_drop, nth_i32, Int.reduceToNat] | exact NK_no _ | refine NK_cl _ _ ?_ | exact clean_v _ | exact clean_u8 _ _ _ _ | exact clean_i32 _ _ _ _ | exact clean_str _ _ _ _ | refine clean_tup _ ?_ | refine clean_ag _ ?_ | exact cleans_nil | refine cleans_cons _ _ ?_ ?_ | ((first | refine WG_mk (fun hg => ?_) (fun hg => ?_) | refine CD_mk (fun hg => ?_) (fun hg => ?_) | refine GD_mk (fun hg => ?_) (fun hg => ?_) | refine GQ_mk (fun hg => ?_) (fun hg => ?_) | refine PK_mk (fun hg => ?_) (fun hg => ?_)) <;> (try simp only [hg]) <;> (try simp only [decide_eq_true_eq, decide_eq_false_iff_not, Bool.not_eq_true', Bool.not_eq_false', Bool.not_eq_true, Bool.not_eq_false, Bool.and_eq_true, Bool.or_eq_true, Bool.and_eq_false_iff, Bool.or_eq_false_iff, beq_iff_eq, bne_iff_ne, ne_eq, beq_eq_false_iff_ne, bne_eq_false_iff_eq] at hg) <;> first | (exfalso; omega) | (exfalso; exact Bool.noConfusion hg) | (exfalso; exact hg trivial) | skip) | refine And.intro (by omega) ?_ | omega
  · repeat' first | refine WE_fit (bsmall_spec) ?_ ?_ | simp (maxSteps := 4000000) (disch := omega) only [base, baseX, Option.getD_some, ↓WG_true, ↓WG_false, labelOf, findLabel, Option.isSome_some, Option.isSome_none, dstOf, get, put, putD, List.getElem?_cons_zero, List.getElem?_cons_succ, Option.bind_some, Nat.reduceEqDiff, ↓reduceIte, importS, imp, imps, shift, shifts, List.map_nil, List.map_cons, List.nil_append, List.append_nil, List.cons_append, List.length_nil, List.length_cons, true_and, and_true, TI.agg, Option.map_some, Option.map_none, pushS, obj, setOb, killT, killM, killO, cond_true, cond_false, beq_self_eq_true, Nat.reduceBEq, killCs, hasId, hasIds, List.drop_zero, List.take_succ_cons, List.take_zero, List.take_nil, List.drop_succ_cons, Nat.mul_one, Nat.one_mul, Nat.add_zero, Nat.zero_add, Nat.zero_mul, Int.toNat_natCast, Int.toNat_zero, Int.toNat_one, List.length_map, List.length_drop, List.length_append, Nat.reduceAdd, Nat.reduceMul, Nat.reduceSub, Nat.reduceLeDiff, Nat.lt_add_one, Nat.zero_lt_succ, Nat.succ_pos, decide_true, decide_false, Bool.and_true, Bool.true_and, Bool.and_false, Bool.false_and, Bool.or_true, Bool.true_or, Bool.or_false, Bool.false_or, Bool.not_true, Bool.not_false, beq_iff_eq, List.contains_nil, initT, List.all_cons, List.all_nil, List.toList_toArray, Int.ofNat_zero, reduceCtorEq, Int.reduceNe, Int.reduceLE, Int.reduceEq, ne_eq, not_false_eq_true, Int.reducePow, Int.toNat_of_nonneg, Int.reduceAdd, Int.reduceSub, Int.reduceMul, I32, I64, Bv, U8, Sv, unown, unowns, names, namess, Bool.or_self, Bool.true_beq, Bool.false_beq, plainR, plainRs, Int.cast_ofNat_Int, Int.reduceBEq, Int.reduceLT, Int.reduceGT, Int.reduceGE, Int.reduceBNe, List.append_eq, below, belows, List.all_toArray, C1_ti3, C1_td3, C1_fit3, C1_ti4, C1_td4, C1_fit4, C1_ti5, C1_td5, C1_fit5, C1_ti9, C1_td9, C1_fit9, C1_ti21, C1_td21, C1_fit21, C1_ti22, C1_td22, C1_ti24, C1_td24, C1_ti25, C1_td25, C1_ti26, C1_td26, C1_ti27, C1_td27, C1_ti28, C1_td28, C1_ti30, C1_td30, C1_fld30_0, C1_fld30_1, C1_fld30_2, C1_fld30_3, C1_fld30_4, C1_ti46, C1_td46, C1_fld46_0, C1_fld46_1, C1_fld46_2, C1_fld46_3, C1_fld46_4, C1_fit46, C1_ti48, C1_td48, C1_fld48_0, C1_fld48_1, C1_fit48, C1_ti56, C1_td56, C1_fld56_0, C1_fld56_1, C1_fld56_2, C1_fld56_3, C1_fld56_4, C1_fld56_5, C1_fit56, C1_ti59, C1_td59, C1_fld59_0, C1_fld59_1, C1_fld59_2, C1_fld59_3, C1_fit59, C1_ti61, C1_td61, C1_fld61_0, C1_fld61_1, C1_fld61_2, C1_fit61, Int.tdiv_eq_ediv_of_nonneg, Int.tmod_eq_emod_of_nonneg, Int.fdiv_eq_ediv_of_nonneg, tab, tabC, nth_drop, nth_i32, Int.reduceToNat] | exact NK_no _ | refine NK_cl _ _ ?_ | exact clean_v _ | exact clean_u8 _ _ _ _ | exact clean_i32 _ _ _ _ | exact clean_str _ _ _ _ | refine clean_tup _ ?_ | refine clean_ag _ ?_ | exact cleans_nil | refine cleans_cons _ _ ?_ ?_ | ((first | refine WG_mk (fun hg => ?_) (fun hg => ?_) | refine CD_mk (fun hg => ?_) (fun hg => ?_) | refine GD_mk (fun hg => ?_) (fun hg => ?_) | refine GQ_mk (fun hg => ?_) (fun hg => ?_) | refine PK_mk (fun hg => ?_) (fun hg => ?_)) <;> (try simp only [hg]) <;> (try simp only [decide_eq_true_eq, decide_eq_false_iff_not, Bool.not_eq_true', Bool.not_eq_false', Bool.not_eq_true, Bool.not_eq_false, Bool.and_eq_true, Bool.or_eq_true, Bool.and_eq_false_iff, Bool.or_eq_false_iff, beq_iff_eq, bne_iff_ne, ne_eq, beq_eq_false_iff_ne, bne_eq_false_iff_eq] at hg) <;> first | (exfalso; omega) | (exfalso; exact Bool.noConfusion hg) | (exfalso; exact hg trivial) | skip) | refine And.intro (by omega) ?_ | omega
    all_goals (exfalso; omega)
end Go.AE
end
