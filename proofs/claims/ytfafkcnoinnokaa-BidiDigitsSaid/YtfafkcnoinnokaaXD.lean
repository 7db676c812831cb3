/- Contracts of functions that the laws of this seat reach, and plain laws of what they compute. No condition beyond each statement's own. -/
import Derived.Test.YtfafkcnoinnokaaXB
set_option linter.unusedVariables false
set_option linter.unusedSimpArgs false
section
/- Chapter 6: laws. -/
namespace Go.AE
open Go.Proofs
set_option maxRecDepth 20000
set_option linter.unusedSimpArgs false
theorem spec_nil2 {P : Program} {f : FuncId} {a r : AV} (h : Spec P f [a, .sl 0 []] r) : Spec P f [a, .v (.slice none 0 0)] r :=
  ⟨h.1, fun w F vs hF hr => h.2 w F vs hF (by
    cases hr with
    | cons h1 h2 =>
      cases h2 with
      | cons h2 h3 => cases h3; cases h2; exact .cons h1 (.cons .sl0 .nil))⟩
theorem bsmall_spec : Spec Try.prog 8 [] (Bv true) := by
  refine spec_mk (z := false) (ts := [.tmp 0]) ok1 Try.func8 rfl rfl (by decide +kernel) (by simp [Try.ntmps8]) rfl ?_
  have r0 : ruleB [] = true := by decide +kernel
  have r1 : ruleB [1488, 49] = true := by decide +kernel
  have r2 : ruleB [1488, 97] = false := by decide +kernel
  have r3 : ruleB [97, 45, 49, 769] = true := by decide +kernel
  have r4 : ruleB [97, 45] = false := by decide +kernel
  have r5 : ruleB [1575, 49, 1633] = false := by decide +kernel
  have r6 : ruleB [49] = false := by decide +kernel
  have a1 : hasB [97, 1633] = true := by decide +kernel
  have a2 : hasB [97] = false := by decide +kernel
  have s1 : sideB [1575] = 2 := by decide +kernel
  have s2 : sideB [] = 0 := by decide +kernel
  have n1 : lastB [97, 769] = 1 := by decide +kernel
  repeat' first | refine WE_fit (new_spec) ?_ ?_ | refine WE_fit (spec_nil2 (rule_spec6 [] (by decide))) ?_ ?_ | refine WE_fit (spec_nil2 (side_spec [] (by decide))) ?_ ?_ | refine WE_fit (rule_spec6 [1488, 49] (by decide)) ?_ ?_ | refine WE_fit (rule_spec6 [1488, 97] (by decide)) ?_ ?_ | refine WE_fit (rule_spec6 [97, 45, 49, 769] (by decide)) ?_ ?_ | refine WE_fit (rule_spec6 [97, 45] (by decide)) ?_ ?_ | refine WE_fit (rule_spec6 [1575, 49, 1633] (by decide)) ?_ ?_ | refine WE_fit (rule_spec6 [49] (by decide)) ?_ ?_ | refine WE_fit (has_spec [97, 1633] (by decide)) ?_ ?_ | refine WE_fit (has_spec [97] (by decide)) ?_ ?_ | refine WE_fit (side_spec [1575] (by decide)) ?_ ?_ | refine WE_fit (end_spec [97, 769] (by decide)) ?_ ?_ | simp (maxSteps := 4000000) (disch := omega) only [base, baseX, Option.getD_some, ↓WG_true, ↓WG_false, labelOf, findLabel, Option.isSome_some, Option.isSome_none, dstOf, get, put, putD, List.getElem?_cons_zero, List.getElem?_cons_succ, Option.bind_some, Nat.reduceEqDiff, ↓reduceIte, importS, imp, imps, shift, shifts, List.map_nil, List.map_cons, List.nil_append, List.append_nil, List.cons_append, List.length_nil, List.length_cons, true_and, and_true, TI.agg, Option.map_some, Option.map_none, pushS, obj, setOb, killT, killM, killO, cond_true, cond_false, beq_self_eq_true, Nat.reduceBEq, killCs, hasId, hasIds, List.drop_zero, List.take_succ_cons, List.take_zero, List.take_nil, List.drop_succ_cons, Nat.mul_one, Nat.one_mul, Nat.add_zero, Nat.zero_add, Nat.zero_mul, Int.toNat_natCast, Int.toNat_zero, Int.toNat_one, List.length_map, List.length_drop, List.length_append, Nat.reduceAdd, Nat.reduceMul, Nat.reduceSub, Nat.reduceLeDiff, Nat.lt_add_one, Nat.zero_lt_succ, Nat.succ_pos, decide_true, decide_false, Bool.and_true, Bool.true_and, Bool.and_false, Bool.false_and, Bool.or_true, Bool.true_or, Bool.or_false, Bool.false_or, Bool.not_true, Bool.not_false, beq_iff_eq, List.contains_nil, initT, List.all_cons, List.all_nil, List.toList_toArray, Int.ofNat_zero, reduceCtorEq, Int.reduceNe, Int.reduceLE, Int.reduceEq, ne_eq, not_false_eq_true, Int.reducePow, Int.toNat_of_nonneg, Int.reduceAdd, Int.reduceSub, Int.reduceMul, I32, I64, Bv, U8, Sv, unown, unowns, names, namess, Bool.or_self, Bool.true_beq, Bool.false_beq, plainR, plainRs, Int.cast_ofNat_Int, Int.reduceBEq, Int.reduceLT, Int.reduceGT, Int.reduceGE, Int.reduceBNe, List.append_eq, below, belows, List.all_toArray, r0, r1, r2, r3, r4, r5, r6, a1, a2, s1, s2, n1, C1_ti3, C1_td3, C1_fit3, C1_ti4, C1_td4, C1_fit4, C1_ti21, C1_td21, C1_fit21, C1_ti22, C1_td22, C1_ti24, C1_td24, C1_ti25, C1_td25, C1_ti26, C1_td26, C1_ti27, C1_td27, C1_ti28, C1_td28, C1_ti30, C1_td30, C1_fld30_0, C1_fld30_1, C1_fld30_2, C1_fld30_3, C1_fld30_4, C1_ti46, C1_td46, C1_fld46_0, C1_fld46_1, C1_fld46_2, C1_fld46_3, C1_fld46_4, C1_fit46, C1_ti48, C1_td48, C1_fld48_0, C1_fld48_1, C1_fit48, C1_ti56, C1_td56, C1_fld56_0, C1_fld56_1, C1_fld56_2, C1_fld56_3, C1_fld56_4, C1_fld56_5, C1_fit56, C1_ti59, C1_td59, C1_fld59_0, C1_fld59_1, C1_fld59_2, C1_fld59_3, C1_fit59, C1_ti61, C1_td61, C1_fld61_0, C1_fld61_1, C1_fld61_2, C1_fit61, Int.tdiv_eq_ediv_of_nonneg, Int.tmod_eq_emod_of_nonneg, Int.fdiv_eq_ediv_of_nonneg, tab, tabC, nth_drop, nth_i32, Int.reduceToNat] | exact NK_no _ | refine NK_cl _ _ ?_ | exact clean_v _ | exact clean_u8 _ _ _ _ | exact clean_i32 _ _ _ _ | exact clean_str _ _ _ _ | refine clean_tup _ ?_ | refine clean_ag _ ?_ | exact cleans_nil | refine cleans_cons _ _ ?_ ?_ | ((first | refine WG_mk (fun hg => ?_) (fun hg => ?_) | refine CD_mk (fun hg => ?_) (fun hg => ?_) | refine GD_mk (fun hg => ?_) (fun hg => ?_) | refine GQ_mk (fun hg => ?_) (fun hg => ?_) | refine PK_mk (fun hg => ?_) (fun hg => ?_)) <;> (try simp only [hg]) <;> (try simp only [decide_eq_true_eq, decide_eq_false_iff_not, Bool.not_eq_true', Bool.not_eq_false', Bool.not_eq_true, Bool.not_eq_false, Bool.and_eq_true, Bool.or_eq_true, Bool.and_eq_false_iff, Bool.or_eq_false_iff, beq_iff_eq, bne_iff_ne, ne_eq, beq_eq_false_iff_ne, bne_eq_false_iff_eq] at hg) <;> first | (exfalso; omega) | (exfalso; exact Bool.noConfusion hg) | (exfalso; exact hg trivial) | skip) | refine And.intro (by omega) ?_ | omega
/-! ### The plain laws -/
theorem sideB_app {L : List Int} (M : List Int) (h : 0 < L.length) : sideB (L ++ M) = sideB L := by
  cases L with
  | nil => simp at h
  | cons c l => rfl
theorem any_marks {p : Int → Bool} {L M : List Int} (hM : ∀ c ∈ M, p c = false) : (L ++ M).any p = L.any p := by
  rw [List.any_append, show M.any p = false by rw [List.any_eq_false]; intro c hc; rw [hM c hc]; simp]; simp
theorem lastB_marks {L M : List Int} (hM : ∀ c ∈ M, bidi c = 6) : lastB (L ++ M) = lastB L := by
  unfold lastB; rw [List.reverse_append, endB_skip]; intro c hc; exact hM c (by simpa using hc)
theorem marks_law {L M : List Int} (h : 0 < L.length) (hM : ∀ c ∈ M, bidi c = 6) : ruleB (L ++ M) = ruleB L ∧ lastB (L ++ M) = lastB L ∧ hasB (L ++ M) = hasB L := by
  have e1 : ∀ k : Int, k ≠ 6 → ((L ++ M).any fun c => bidi c == k) = L.any fun c => bidi c == k := fun k hk => any_marks fun c hc => by rw [hM c hc]; simpa using fun h => hk h.symm
  have e2 : hasB (L ++ M) = hasB L := any_marks fun c hc => by simp [rtl, hM c hc]
  have e3 := lastB_marks (L := L) hM
  refine ⟨?_, e3, e2⟩
  unfold ruleB
  rw [sideB_app M h, e1 1 (by decide), e1 4 (by decide), e1 5 (by decide), e2, e3, show (L ++ M).isEmpty = L.isEmpty by cases L <;> simp_all]
theorem sides_law {L : List Int} (h : 0 < L.length) (hr : ruleB L = true) : ((L.any fun c => bidi c == 1) != (L.any rtl)) = true ∧ L.getD 0 0 ≠ 45 ∧ L.getD (L.length - 1) 0 ≠ 45 := by
  have hd : bidi 45 = 7 := by decide +kernel
  have hside := sideB_cons h
  have hlast : L.getD (L.length - 1) 0 = 45 → lastB L = 7 := by
    intro he
    have e : L = L.take (L.length - 1) ++ [45] := by
      have := take_snoc (L := L) (i := L.length - 1) (by omega)
      rw [he, show L.length - 1 + 1 = L.length by omega, List.take_length] at this
      exact this
    rw [e, lastB_snoc, hd]; simp
  unfold ruleB at hr
  rcases sideB_cases L with hs | hs | hs
  · rw [if_neg (by omega), if_neg (by omega)] at hr
    cases L <;> simp_all
  · rw [if_neg (by omega), if_pos hs] at hr
    simp only [Bool.and_eq_true, Bool.not_eq_true', Bool.or_eq_true, beq_iff_eq] at hr
    have h1 : bidi (L.getD 0 0) = 1 := by
      rw [hs] at hside
      split at hside
      · omega
      · split at hside
        · assumption
        · omega
    refine ⟨?_, fun e => by rw [e, hd] at h1; omega, fun e => by have := hlast e; omega⟩
    rw [show L.any rtl = false from hr.1, any_at (p := fun c => bidi c == 1) h (by simpa using h1)]; rfl
  · rw [if_pos hs] at hr
    simp only [Bool.and_eq_true, Bool.not_eq_true', Bool.or_eq_true, beq_iff_eq] at hr
    have h1 : bidi (L.getD 0 0) = 2 ∨ bidi (L.getD 0 0) = 3 := by
      rw [hs] at hside
      split at hside
      · assumption
      · split at hside <;> omega
    refine ⟨?_, fun e => by rw [e, hd] at h1; omega, fun e => by have := hlast e; omega⟩
    rw [hr.1.1, any_at (p := rtl) h (by rcases h1 with h1 | h1 <;> simp only [rtl, h1] <;> rfl)]; rfl
theorem bidi_dig : ∀ d : Nat, d < 10 → bidi (48 + d) = 4 := by decide +kernel
theorem digits6_law {L : List Int} {c : Int} (h : 0 < L.length) (hc : bidi c = 4) (hr : ruleB L = true) : ruleB (L ++ [c]) = (!L.any fun c => bidi c == 5) ∧ sideB (L ++ [c]) = sideB L ∧ lastB (L ++ [c]) = 4 := by
  have e3 : lastB (L ++ [c]) = 4 := by rw [lastB_snoc, hc]; simp
  refine ⟨?_, sideB_app _ h, e3⟩
  have e2 : hasB (L ++ [c]) = hasB L := any_marks fun x hx => by rw [List.mem_singleton.1 hx]; simp [rtl, hc]
  have e1 : ((L ++ [c]).any fun c => bidi c == 1) = L.any fun c => bidi c == 1 := any_marks fun x hx => by rw [List.mem_singleton.1 hx, hc]; rfl
  have e5 : ((L ++ [c]).any fun c => bidi c == 5) = L.any fun c => bidi c == 5 := any_marks fun x hx => by rw [List.mem_singleton.1 hx, hc]; rfl
  have e4 : ((L ++ [c]).any fun c => bidi c == 4) = true := by rw [List.any_append]; simp [hc]
  unfold ruleB at hr ⊢
  rw [sideB_app _ h, e1, e5, e4, e2, e3]
  rcases sideB_cases L with hs | hs | hs
  · rw [if_neg (by omega), if_neg (by omega)] at hr
    cases L <;> simp_all
  · rw [if_neg (by omega), if_pos hs] at hr ⊢
    simp only [Bool.and_eq_true, Bool.not_eq_true', Bool.or_eq_true, beq_iff_eq] at hr
    have h5 : (L.any fun c => bidi c == 5) = false := by
      have := hr.1
      unfold hasB at this
      rw [List.any_eq_false] at this ⊢
      intro x hx
      have := this x hx
      simp [rtl] at this
      simp; omega
    rw [h5, hr.1]; rfl
  · rw [if_pos hs] at hr ⊢
    simp only [Bool.and_eq_true, Bool.not_eq_true'] at hr
    rw [hr.1.1]; simp
end Go.AE
end
