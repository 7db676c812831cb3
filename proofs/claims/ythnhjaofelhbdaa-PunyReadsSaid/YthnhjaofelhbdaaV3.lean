/- Contracts of functions that the laws of this seat reach, and plain laws of what they compute. No condition beyond each statement's own. -/
import Derived.Test.YthnhjaofelhbdaaV2
set_option linter.unusedVariables false
set_option linter.unusedSimpArgs false
section
/- Characters and their bytes: plain laws and contracts. -/
namespace Go.AE
open Go.Proofs
set_option maxRecDepth 10000
set_option linter.unusedSimpArgs false

theorem one_hit {s : List UInt8} {n : Nat} {x : Int} (hd : dec n s = x) (h1 : rlen x = n) (h2 : enc x = s.take n) (h0 : 1 ≤ n) :
    AV.tup [.v (.int .i32 x), .v (.int .i64 n)] = AV.tup [.v (.int .i32 ((one s).getD (0, 0)).1), .v (.int .i64 ((one s).getD (0, 0)).2)] := by
  subst hd
  rw [one_of h1 (by omega) h2]; rfl
theorem one_miss {s : List UInt8} {n : Nat} (hall : ∀ m : Nat, 0 < m → m < n → ¬ (rlen (dec m s) = m ∧ enc (dec m s) = s.take m)) (h : ¬ (rlen (dec n s) = n ∧ enc (dec n s) = s.take n)) :
    ∀ m : Nat, 0 < m → m < n + 1 → ¬ (rlen (dec m s) = m ∧ enc (dec m s) = s.take m) := by
  intro m h0 h1
  by_cases e : m = n
  · subst e; exact h
  · exact hall m h0 (by omega)
theorem one_miss_r {s : List UInt8} {n : Nat} {x : Int} (hb : ¬ rlen x = n) (hall : ∀ m : Nat, 0 < m → m < n → ¬ (rlen (dec m s) = m ∧ enc (dec m s) = s.take m)) (hd : dec n s = x) :
    ∀ m : Nat, 0 < m → m < n + 1 → ¬ (rlen (dec m s) = m ∧ enc (dec m s) = s.take m) := one_miss hall (by rw [hd]; exact fun h => hb h.1)
theorem one_miss_e {s : List UInt8} {n : Nat} {x : Int} (hb : ¬ enc x = s.take n) (hall : ∀ m : Nat, 0 < m → m < n → ¬ (rlen (dec m s) = m ∧ enc (dec m s) = s.take m)) (hd : dec n s = x) :
    ∀ m : Nat, 0 < m → m < n + 1 → ¬ (rlen (dec m s) = m ∧ enc (dec m s) = s.take m) := one_miss hall (by rw [hd]; exact fun h => hb h.2)

/-- The place of the first byte that is no ASCII. -/
def eightF : Nat → List UInt8 → Int
  | _, [] => -1
  | i, b :: l => if 128 ≤ b.toNat then i else eightF (i + 1) l
def eight (s : List UInt8) : Int := eightF 0 s
theorem eightF_hit {s : List UInt8} {i : Nat} (h : i < s.length) (hb : 128 ≤ (s.getD i 0).toNat) (ha : ∀ j, j < i → ¬ 128 ≤ (s.getD j 0).toNat) : eight s = i := by
  have key : ∀ (s : List UInt8) (i k : Nat), i < s.length → 128 ≤ (s.getD i 0).toNat → (∀ j, j < i → ¬ 128 ≤ (s.getD j 0).toNat) → eightF k s = (k + i : Nat) := by
    intro s
    induction s with
    | nil => intro i k h; simp at h
    | cons b l ih =>
      intro i k h hb ha
      cases i with
      | zero => simp only [eightF]; rw [if_pos (by simpa using hb)]; rfl
      | succ i =>
        simp only [eightF]
        rw [if_neg (by simpa using ha 0 (by omega)), ih i (k + 1) (by simpa using h) (by simpa using hb) (fun j hj => by simpa using ha (j + 1) (by omega))]
        congr 1; omega
  have := key s i 0 h hb ha
  simpa [eight] using this
theorem eightF_miss {s : List UInt8} (ha : ∀ j, j < s.length → ¬ 128 ≤ (s.getD j 0).toNat) : eight s = -1 := by
  have key : ∀ (s : List UInt8) (k : Nat), (∀ j, j < s.length → ¬ 128 ≤ (s.getD j 0).toNat) → eightF k s = -1 := by
    intro s
    induction s with
    | nil => intro k h; rfl
    | cons b l ih =>
      intro k ha
      simp only [eightF]
      rw [if_neg (by simpa using ha 0 (by simp)), ih (k + 1) (fun j hj => by simpa using ha (j + 1) (by simpa using hj))]
  exact key s 0 ha

theorem eight_next {s : List UInt8} {i : Nat} (ha : ∀ j, j < i → ¬ 128 ≤ (s.getD j 0).toNat) (h : ¬ 128 ≤ (s.getD i 0).toNat) : ∀ j, j < i + 1 → ¬ 128 ≤ (s.getD j 0).toNat := by
  intro j hj
  by_cases e : j = i
  · subst e; exact h
  · exact ha j (by omega)

theorem utfEight_spec (s : List UInt8) (hs : s.length ≤ 100000000) : Spec Try.prog 21 [Sv s] (I64 (eight s)) := by
  refine spec_mk (z := false) (ts := [.tmp 2]) ok1 Try.func21 rfl rfl (by decide +kernel) (by simp [Try.ntmps21]) rfl ?_
  repeat' first | simp (maxSteps := 4000000) (disch := omega) only [base, baseX, Option.getD_some, ↓WG_true, ↓WG_false, labelOf, findLabel, Option.isSome_some, Option.isSome_none, dstOf, get, put, putD, List.getElem?_cons_zero, List.getElem?_cons_succ, Option.bind_some, Nat.reduceEqDiff, ↓reduceIte, importS, imp, imps, shift, shifts, List.map_nil, List.map_cons, List.nil_append, List.append_nil, List.cons_append, List.length_nil, List.length_cons, true_and, and_true, TI.agg, Option.map_some, Option.map_none, pushS, obj, setOb, killT, killM, killO, cond_true, cond_false, beq_self_eq_true, Nat.reduceBEq, killCs, hasId, hasIds, List.drop_zero, List.take_succ_cons, List.take_zero, List.take_nil, List.drop_succ_cons, Nat.mul_one, Nat.one_mul, Nat.add_zero, Nat.zero_add, Nat.zero_mul, Int.toNat_natCast, Int.toNat_zero, Int.toNat_one, List.length_map, List.length_drop, List.length_append, Nat.reduceAdd, Nat.reduceMul, Nat.reduceSub, Nat.reduceLeDiff, Nat.lt_add_one, Nat.zero_lt_succ, Nat.succ_pos, decide_true, decide_false, Bool.and_true, Bool.true_and, Bool.and_false, Bool.false_and, Bool.or_true, Bool.true_or, Bool.or_false, Bool.false_or, Bool.not_true, Bool.not_false, beq_iff_eq, List.contains_nil, initT, List.all_cons, List.all_nil, List.toList_toArray, Int.ofNat_zero, reduceCtorEq, Int.reduceNe, Int.reduceLE, Int.reduceEq, ne_eq, not_false_eq_true, Int.reducePow, Int.toNat_of_nonneg, Int.reduceAdd, Int.reduceSub, Int.reduceMul, I32, I64, Bv, U8, Sv, unown, unowns, names, namess, Bool.or_self, Bool.true_beq, Bool.false_beq, plainR, plainRs, Int.cast_ofNat_Int, Int.reduceBEq, Int.reduceLT, Int.reduceGT, Int.reduceGE, Int.reduceBNe, List.append_eq, below, belows, List.all_toArray, LR_eq, retQL_ret, retQL_normal, expL_none, expL_one, expL_many, wkM_nil, wkM_cons, noF, isF, nodupN, lendObs, lendOb, kindsOk, kindOk, rens, ren, renF, givL, killTs, killMs, updM, backO, renO, List.contains_cons, belowM, PR_done, PR_take, PR_one, PR_two, OO_some, TO_some, take_move, take_assign, take_binOp, take_pick, take_unOp, take_index, take_slice0, take_slice1, take_slice2, take_slice3, kpl_eq, plain1_v, false_or, or_true, true_or, or_false, C1_ti3, C1_td3, C1_fit3, C1_ti4, C1_td4, C1_fit4, C1_ti5, C1_td5, C1_fit5, C1_ti9, C1_td9, C1_fit9, Int.tdiv_eq_ediv_of_nonneg, Int.tmod_eq_emod_of_nonneg, Int.fdiv_eq_ediv_of_nonneg, and63_32, and63_8, and31_8, and15_8, and7_8, min6_32, min12_32, min18_32, wrap8, wrap32, wrap64, Int.tdiv_eq_ediv_of_nonneg, Int.tmod_eq_emod_of_nonneg, Int.fdiv_eq_ediv_of_nonneg, or192, or224, or240, or128, or64_32, andnot63_8] | refine DR_q _ ?_ | ((first | refine WG_mk (fun hg => ?_) (fun hg => ?_) | refine CD_mk (fun hg => ?_) (fun hg => ?_) | refine GD_mk (fun hg => ?_) (fun hg => ?_) | refine GQ_mk (fun hg => ?_) (fun hg => ?_) | refine PK_mk (fun hg => ?_) (fun hg => ?_)) <;> (try simp only [hg]) <;> (try simp only [decide_eq_true_eq, decide_eq_false_iff_not, Bool.not_eq_true', Bool.not_eq_false', Bool.not_eq_true, Bool.not_eq_false, Bool.and_eq_true, Bool.or_eq_true, Bool.and_eq_false_iff, Bool.or_eq_false_iff, beq_iff_eq, bne_iff_ne, ne_eq, beq_eq_false_iff_ne, bne_eq_false_iff_eq, rlen0] at hg) <;> first | (exfalso; omega) | (exfalso; exact Bool.noConfusion hg) | (exfalso; exact hg trivial) | skip) | refine And.intro (by omega) ?_ | omega
  refine LP_intro (fun i : Nat => ⟨[(0, Sv s), (4, Sv s), (5, I64 s.length), (6, I64 i)], []⟩) (fun i => i ≤ s.length ∧ ∀ j, j < i → ¬ 128 ≤ (s.getD j 0).toNat) (fun i => s.length - i) 0 (by simp) (by simp [wk, wkT, wkM, noF, isF, get, belowT, belowM, below, belows, I64, I32, Bv, U8, Sv] <;> try omega) ?_
  rintro i ⟨hi, ha⟩
  repeat' first | simp (maxSteps := 4000000) (disch := omega) only [base, baseX, Option.getD_some, ↓WG_true, ↓WG_false, labelOf, findLabel, Option.isSome_some, Option.isSome_none, dstOf, get, put, putD, List.getElem?_cons_zero, List.getElem?_cons_succ, Option.bind_some, Nat.reduceEqDiff, ↓reduceIte, importS, imp, imps, shift, shifts, List.map_nil, List.map_cons, List.nil_append, List.append_nil, List.cons_append, List.length_nil, List.length_cons, true_and, and_true, TI.agg, Option.map_some, Option.map_none, pushS, obj, setOb, killT, killM, killO, cond_true, cond_false, beq_self_eq_true, Nat.reduceBEq, killCs, hasId, hasIds, List.drop_zero, List.take_succ_cons, List.take_zero, List.take_nil, List.drop_succ_cons, Nat.mul_one, Nat.one_mul, Nat.add_zero, Nat.zero_add, Nat.zero_mul, Int.toNat_natCast, Int.toNat_zero, Int.toNat_one, List.length_map, List.length_drop, List.length_append, Nat.reduceAdd, Nat.reduceMul, Nat.reduceSub, Nat.reduceLeDiff, Nat.lt_add_one, Nat.zero_lt_succ, Nat.succ_pos, decide_true, decide_false, Bool.and_true, Bool.true_and, Bool.and_false, Bool.false_and, Bool.or_true, Bool.true_or, Bool.or_false, Bool.false_or, Bool.not_true, Bool.not_false, beq_iff_eq, List.contains_nil, initT, List.all_cons, List.all_nil, List.toList_toArray, Int.ofNat_zero, reduceCtorEq, Int.reduceNe, Int.reduceLE, Int.reduceEq, ne_eq, not_false_eq_true, Int.reducePow, Int.toNat_of_nonneg, Int.reduceAdd, Int.reduceSub, Int.reduceMul, I32, I64, Bv, U8, Sv, unown, unowns, names, namess, Bool.or_self, Bool.true_beq, Bool.false_beq, plainR, plainRs, Int.cast_ofNat_Int, Int.reduceBEq, Int.reduceLT, Int.reduceGT, Int.reduceGE, Int.reduceBNe, List.append_eq, below, belows, List.all_toArray, LR_eq, retQL_ret, retQL_normal, expL_none, expL_one, expL_many, wkM_nil, wkM_cons, noF, isF, nodupN, lendObs, lendOb, kindsOk, kindOk, rens, ren, renF, givL, killTs, killMs, updM, backO, renO, List.contains_cons, belowM, PR_done, PR_take, PR_one, PR_two, OO_some, TO_some, take_move, take_assign, take_binOp, take_pick, take_unOp, take_index, take_slice0, take_slice1, take_slice2, take_slice3, kpl_eq, plain1_v, false_or, or_true, true_or, or_false, C1_ti3, C1_td3, C1_fit3, C1_ti4, C1_td4, C1_fit4, C1_ti5, C1_td5, C1_fit5, C1_ti9, C1_td9, C1_fit9, Int.tdiv_eq_ediv_of_nonneg, Int.tmod_eq_emod_of_nonneg, Int.fdiv_eq_ediv_of_nonneg, and63_32, and63_8, and31_8, and15_8, and7_8, min6_32, min12_32, min18_32, wrap8, wrap32, wrap64, Int.tdiv_eq_ediv_of_nonneg, Int.tmod_eq_emod_of_nonneg, Int.fdiv_eq_ediv_of_nonneg, or192, or224, or240, or128, or64_32, andnot63_8] | refine DR_q _ ?_ | ((first | refine WG_mk (fun hg => ?_) (fun hg => ?_) | refine CD_mk (fun hg => ?_) (fun hg => ?_) | refine GD_mk (fun hg => ?_) (fun hg => ?_) | refine GQ_mk (fun hg => ?_) (fun hg => ?_) | refine PK_mk (fun hg => ?_) (fun hg => ?_)) <;> (try simp only [hg]) <;> (try simp only [decide_eq_true_eq, decide_eq_false_iff_not, Bool.not_eq_true', Bool.not_eq_false', Bool.not_eq_true, Bool.not_eq_false, Bool.and_eq_true, Bool.or_eq_true, Bool.and_eq_false_iff, Bool.or_eq_false_iff, beq_iff_eq, bne_iff_ne, ne_eq, beq_eq_false_iff_ne, bne_eq_false_iff_eq, rlen0] at hg) <;> first | (exfalso; omega) | (exfalso; exact Bool.noConfusion hg) | (exfalso; exact hg trivial) | skip) | refine And.intro (by omega) ?_ | omega
  · rw [eightF_hit (by omega) (by omega) ha]
  · exact ⟨i + 1, ⟨by omega, eight_next ha (by omega)⟩, by omega, (by simp [wk, wkT, wkM, noF, isF, get, belowT, belowM, below, belows, I64, I32, Bv, U8, Sv] <;> try omega)⟩
  · rw [eightF_miss (fun j hj => ha j (by omega))]
end Go.AE
end
section
/- Characters and their bytes: plain laws and contracts. -/
namespace Go.AE
open Go.Proofs
set_option maxRecDepth 10000
set_option linter.unusedSimpArgs false

theorem runesF_len (f : Nat) : ∀ (a : Int) (s : List UInt8), (runesF f a s).1.length ≤ s.length := by
  induction f with
  | zero => intro a s; simp [runesF]
  | succ f ih =>
    intro a s
    rw [runesF_succ]
    split
    · simp
    · cases ho : one s with
      | none => simp [runesN]
      | some p =>
        obtain ⟨r, k⟩ := p
        obtain ⟨h1, h2, h3, h4⟩ := one_some ho
        have := ih (a + k) (s.drop k)
        simp only [List.length_drop] at this
        simp only [runesN, List.length_cons]
        omega
theorem runes_len (s : List UInt8) : (runes s).1.length ≤ s.length := runesF_len _ _ _

end Go.AE
end
