/- Contracts of functions that the laws of this seat reach, and plain laws of what they compute. No condition beyond each statement's own. -/
import Derived.Test.YtpooocpgpjimgaaDoorK1
import Derived.Test.YtpooocpgpjimgaaDoorAENum
import Derived.Test.YtpooocpgpjimgaaDoorAEBun
import Derived.Test.YtpooocpgpjimgaaDoorSH
set_option linter.unusedVariables false
set_option linter.unusedSimpArgs false
section
/- Replies: signs that may not stand in one. -/
namespace Go.AE
open Go.Proofs
set_option maxRecDepth 20000
set_option maxHeartbeats 8000000
set_option linter.unusedSimpArgs false
def sgR (r : Int) : Bool := decide (r < 32) || r == 127
def sgB (c : UInt8) : Bool := decide (c.toNat < 32) || c == 127
theorem sgR_byte (c : UInt8) : sgR (c.toNat : Int) = sgB c := by
  unfold sgR sgB
  have e : c = 127 ↔ c.toNat = 127 := ⟨fun h => by rw [h]; rfl, fun h => UInt8.toNat.inj (by rw [h]; rfl)⟩
  rw [Bool.eq_iff_iff]
  simp only [Bool.or_eq_true, decide_eq_true_eq, beq_iff_eq, e]
  omega
theorem sgR_big {r : Int} (h : 128 ≤ r) : sgR r = false := by
  unfold sgR
  simp only [Bool.or_eq_false_iff, decide_eq_false_iff_not, beq_eq_false_iff_ne]
  omega
theorem sgB_big {c : UInt8} (h : 128 ≤ c.toNat) : sgB c = false := by rw [← sgR_byte]; exact sgR_big (by omega)
theorem sg_spec (r : Int) : Spec Tryd.prog 18 [I32 r] (Bv (sgR r)) := by
  refine spec_mk (z := false) (ts := [.tmp 2]) ok1 Tryd.func18 rfl rfl (by decide +kernel) (by simp [Tryd.ntmps18]) rfl ?_
  unfold sgR
  by_cases h : r < 32
  · rw [decide_eq_true h, Bool.true_or]
    repeat' first | simp (maxSteps := 4000000) (disch := omega) only [bunL, bunD, bun, ↓WG_true, ↓WG_false, labelOf, findLabel, ↓reduceIte, imp, shift, killO, hasId, unown, names, plainR, below, noF, isF, lendObs, lendOb, kindOk, ren, givL, updM, backO, renO, belowM, seval, -Int.reduceToNat, B4, B21, bunN, Int.reduceToNat, List.map_nil, List.nil_append] | refine DR_q _ ?_ | (refine Fk.fk ?_ ?_ <;> intro hg <;> (try simp only [hg]) <;> (try simp only [bunB] at hg) <;> try (exfalso; first | omega | exact Bool.noConfusion hg | exact hg trivial)) | refine And.intro (by omega) ?_ | omega
  · rw [decide_eq_false h, Bool.false_or]
    repeat' first | simp (maxSteps := 4000000) (disch := omega) only [bunL, bunD, bun, ↓WG_true, ↓WG_false, labelOf, findLabel, ↓reduceIte, imp, shift, killO, hasId, unown, names, plainR, below, noF, isF, lendObs, lendOb, kindOk, ren, givL, updM, backO, renO, belowM, seval, -Int.reduceToNat, B4, B21, bunN, Int.reduceToNat, List.map_nil, List.nil_append] | refine DR_q _ ?_ | (refine Fk.fk ?_ ?_ <;> intro hg <;> (try simp only [hg]) <;> (try simp only [bunB] at hg) <;> try (exfalso; first | omega | exact Bool.noConfusion hg | exact hg trivial)) | refine And.intro (by omega) ?_ | omega
theorem get_byteR (s : List UInt8) (k : Nat) : (ByteArray.mk s.toArray).get! k = s.getD k 0 := by
  show s.toArray[k]! = s.getD k 0
  rw [List.getElem!_toArray, List.getElem!_eq_getElem?_getD]
  simp only [List.getD]; rfl
/-- What a step over a string goes over. -/
theorem dec_step (s : List UInt8) (k : Nat) (hk : k < s.length) : 0 < (Utf8.decode ⟨s.toArray⟩ k).2 ∧ k + (Utf8.decode ⟨s.toArray⟩ k).2 ≤ s.length ∧
    ((s.getD k 0).toNat < 128 → Utf8.decode ⟨s.toArray⟩ k = ((s.getD k 0).toNat, 1)) ∧
    (128 ≤ (s.getD k 0).toNat → 128 ≤ (Utf8.decode ⟨s.toArray⟩ k).1 ∧ ∀ j, k ≤ j → j < k + (Utf8.decode ⟨s.toArray⟩ k).2 → 128 ≤ (s.getD j 0).toNat) := by
  have hsz : (ByteArray.mk s.toArray).size = s.length := by show s.toArray.size = _; simp
  unfold Utf8.decode Utf8.runeError
  simp only [Nat.add_zero, get_byteR, hsz]
  by_cases h0 : (s.getD k 0).toNat < 128
  · rw [if_pos h0]
    exact ⟨Nat.one_pos, hk, fun _ => rfl, fun h => by omega⟩
  · rw [if_neg h0]
    have one : ∀ j, k ≤ j → j < k + 1 → 128 ≤ (s.getD j 0).toNat := fun j h1 h2 => by
      have : j = k := by omega
      subst this; omega
    refine ⟨?_, ?_, fun h => absurd h h0, fun _ => ?_⟩
    · repeat' split
      all_goals first | omega | (dsimp only; omega)
    · repeat' split
      all_goals first
        | omega
        | (dsimp only; omega)
        | (simp only [Bool.and_eq_true, decide_eq_true_eq] at *; omega)
    · repeat' split
      all_goals first
        | exact ⟨by omega, one⟩
        | (simp only [Bool.and_eq_true, decide_eq_true_eq, beq_iff_eq] at *
           refine ⟨by omega, fun j h1 h2 => ?_⟩
           have hj : j = k ∨ j = k + 1 ∨ j = k + 2 ∨ j = k + 3 := by omega
           rcases hj with rfl | rfl | rfl | rfl <;> omega)
def badS (s : List UInt8) : Int := if s.any sgB then (s.findIdx sgB : Nat) else -1
theorem firstR_at {s : List UInt8} {p : UInt8 → Bool} {k : Nat} (hk : k < s.length) (h : p (s.getD k 0) = true) (ha : ∀ j, j < k → p (s.getD j 0) = false) : s.findIdx p = k := by
  rw [List.findIdx_eq hk]
  refine ⟨by simpa [List.getD, hk] using h, fun j hj => ?_⟩
  have := ha j hj
  simpa [List.getD, show j < s.length by omega] using this
theorem badS_hit {s : List UInt8} {k : Nat} (hk : k < s.length) (h : sgB (s.getD k 0) = true) (ha : ∀ j, j < k → sgB (s.getD j 0) = false) : badS s = k := by
  have h2 : s.any sgB = true := List.any_eq_true.2 ⟨s.getD k 0, by simp [List.getD, hk], h⟩
  unfold badS
  rw [h2, if_pos rfl, firstR_at hk h ha]
theorem badS_miss {s : List UInt8} (ha : ∀ j, j < s.length → sgB (s.getD j 0) = false) : badS s = -1 := by
  have h2 : s.any sgB = false := List.any_eq_false.2 fun c hc => by
    obtain ⟨j, hj, e⟩ := List.getElem_of_mem hc
    have := ha j hj
    rw [show s.getD j 0 = c by simp [List.getD, hj, e]] at this
    simp [this]
  unfold badS
  rw [h2]; rfl
theorem badS_ge (s : List UInt8) : decide (badS s ≥ 0) = s.any sgB := by
  unfold badS
  cases s.any sgB
  · rfl
  · simp
theorem idxS_spec (s : List UInt8) (hs : s.length ≤ 10000000) : Spec Tryd.prog 32 [Sv s, .fn 18 [] [], Bv true] (I64 (badS s)) := by
  refine spec_mk (z := false) (ts := [.tmp 6]) ok1 Tryd.func32 rfl rfl (by decide +kernel) (by simp [Tryd.ntmps32]) rfl ?_
  repeat' first | simp (maxSteps := 4000000) (disch := omega) only [bunL, bunD, bun, ↓WG_true, ↓WG_false, labelOf, findLabel, ↓reduceIte, imp, shift, killO, hasId, unown, names, plainR, below, noF, isF, lendObs, lendOb, kindOk, ren, givL, updM, backO, renO, belowM, seval, -Int.reduceToNat, B3, B4, B9, B21, B43, bunN, Int.reduceToNat, List.map_nil, List.nil_append] | refine DR_q _ ?_ | (refine Fk.fk ?_ ?_ <;> intro hg <;> (try simp only [hg]) <;> (try simp only [bunB] at hg) <;> try (exfalso; first | omega | exact Bool.noConfusion hg | exact hg trivial)) | refine And.intro (by omega) ?_ | omega
  refine LP_intro (fun k : Nat => ⟨[(1, .fn 18 [] []), (2, Bv true), (10, .ptr 0 0)], [.it s k]⟩) (fun k => k ≤ s.length ∧ ∀ j, j < k → sgB (s.getD j 0) = false) (fun k => s.length - k) 0 (by simp) (by simp [wk, wkT, wkM, noF, isF, get, belowT, belowM, below, belows, I64, I32, Bv, U8, Sv] <;> try omega) ?_
  rintro k ⟨hk, ha⟩
  by_cases hlt : k < s.length
  · obtain ⟨d1, d2, d3, d4⟩ := dec_step s k hlt
    have ho := sg_spec ((Utf8.decode ⟨s.toArray⟩ k).1 : Int)
    by_cases hb : 128 ≤ (s.getD k 0).toNat
    · obtain ⟨e1, e2⟩ := d4 hb
      rw [sgR_big (by omega)] at ho
      repeat' first | refine WE_fit (ho) ?_ ?_ | simp (maxSteps := 4000000) (disch := omega) only [bunL, bunD, bun, ↓WG_true, ↓WG_false, labelOf, findLabel, ↓reduceIte, imp, shift, killO, hasId, unown, names, plainR, below, noF, isF, lendObs, lendOb, kindOk, ren, givL, updM, backO, renO, belowM, seval, -Int.reduceToNat, B3, B4, B9, B21, B43, bunN, Int.reduceToNat, List.map_nil, List.nil_append] | exact NK_no _ | refine NK_cl _ _ ?_ | exact Cln.cl | refine clean_tup _ ?_ | refine cleans_cons _ _ ?_ ?_ | refine DR_q _ ?_ | (refine Fk.fk ?_ ?_ <;> intro hg <;> (try simp only [hg]) <;> (try simp only [bunB] at hg) <;> try (exfalso; first | omega | exact Bool.noConfusion hg | exact hg trivial)) | refine And.intro (by omega) ?_ | omega
      refine ⟨k + (Utf8.decode ⟨s.toArray⟩ k).2, ⟨by omega, fun j hj => ?_⟩, by omega, (by simp [wk, wkT, wkM, noF, isF, get, belowT, belowM, below, belows, I64, I32, Bv, U8, Sv] <;> try omega)⟩
      by_cases hj2 : j < k
      · exact ha j hj2
      · exact sgB_big (e2 j (by omega) hj)
    · have e := d3 (by omega)
      rw [e] at ho d1 d2
      dsimp only at ho
      rw [sgR_byte] at ho
      cases hq : sgB (s.getD k 0) with
      | true =>
        rw [hq] at ho
        have eb := badS_hit hlt hq ha
        repeat' first | refine WE_fit (ho) ?_ ?_ | simp (maxSteps := 4000000) (disch := omega) only [bunL, bunD, bun, ↓WG_true, ↓WG_false, labelOf, findLabel, ↓reduceIte, imp, shift, killO, hasId, unown, names, plainR, below, noF, isF, lendObs, lendOb, kindOk, ren, givL, updM, backO, renO, belowM, seval, -Int.reduceToNat, eb, e, B3, B4, B9, B21, B43, bunN, Int.reduceToNat, List.map_nil, List.nil_append] | exact NK_no _ | refine NK_cl _ _ ?_ | exact Cln.cl | refine clean_tup _ ?_ | refine cleans_cons _ _ ?_ ?_ | refine DR_q _ ?_ | (refine Fk.fk ?_ ?_ <;> intro hg <;> (try simp only [hg]) <;> (try simp only [bunB] at hg) <;> try (exfalso; first | omega | exact Bool.noConfusion hg | exact hg trivial)) | refine And.intro (by omega) ?_ | omega
        all_goals trace_state
      | false =>
        rw [hq] at ho
        repeat' first | refine WE_fit (ho) ?_ ?_ | simp (maxSteps := 4000000) (disch := omega) only [bunL, bunD, bun, ↓WG_true, ↓WG_false, labelOf, findLabel, ↓reduceIte, imp, shift, killO, hasId, unown, names, plainR, below, noF, isF, lendObs, lendOb, kindOk, ren, givL, updM, backO, renO, belowM, seval, -Int.reduceToNat, e, B3, B4, B9, B21, B43, bunN, Int.reduceToNat, List.map_nil, List.nil_append] | exact NK_no _ | refine NK_cl _ _ ?_ | exact Cln.cl | refine clean_tup _ ?_ | refine cleans_cons _ _ ?_ ?_ | refine DR_q _ ?_ | (refine Fk.fk ?_ ?_ <;> intro hg <;> (try simp only [hg]) <;> (try simp only [bunB] at hg) <;> try (exfalso; first | omega | exact Bool.noConfusion hg | exact hg trivial)) | refine And.intro (by omega) ?_ | omega
        refine ⟨k + 1, ⟨by omega, fun j hj => ?_⟩, by omega, (by simp [wk, wkT, wkM, noF, isF, get, belowT, belowM, below, belows, I64, I32, Bv, U8, Sv] <;> try omega)⟩
        by_cases hj2 : j = k
        · subst hj2; exact hq
        · exact ha j (by omega)
  · have e := badS_miss fun j hj => ha j (by omega)
    repeat' first | simp (maxSteps := 4000000) (disch := omega) only [bunL, bunD, bun, ↓WG_true, ↓WG_false, labelOf, findLabel, ↓reduceIte, imp, shift, killO, hasId, unown, names, plainR, below, noF, isF, lendObs, lendOb, kindOk, ren, givL, updM, backO, renO, belowM, seval, -Int.reduceToNat, e, B3, B4, B9, B21, B43, bunN, Int.reduceToNat, List.map_nil, List.nil_append] | refine DR_q _ ?_ | (refine Fk.fk ?_ ?_ <;> intro hg <;> (try simp only [hg]) <;> (try simp only [bunB] at hg) <;> try (exfalso; first | omega | exact Bool.noConfusion hg | exact hg trivial)) | refine And.intro (by omega) ?_ | omega
    all_goals trace_state
theorem idxFS_spec (s : List UInt8) (hs : s.length ≤ 10000000) : Spec Tryd.prog 26 [Sv s, .fn 18 [] []] (I64 (badS s)) := by
  have h := idxS_spec s hs
  refine spec_mk (z := false) (ts := [.tmp 4]) ok1 Tryd.func26 rfl rfl (by decide +kernel) (by simp [Tryd.ntmps26]) rfl ?_
  repeat' first | refine WE_fit (h) ?_ ?_ | simp (maxSteps := 4000000) (disch := omega) only [bunL, bunD, bun, ↓WG_true, ↓WG_false, labelOf, findLabel, ↓reduceIte, imp, shift, killO, hasId, unown, names, plainR, below, noF, isF, lendObs, lendOb, kindOk, ren, givL, updM, backO, renO, belowM, seval, -Int.reduceToNat, B3, B4, B9, B43, bunN, Int.reduceToNat, List.map_nil, List.nil_append] | exact NK_no _ | refine NK_cl _ _ ?_ | exact Cln.cl | refine clean_tup _ ?_ | refine cleans_cons _ _ ?_ ?_ | refine DR_q _ ?_ | (refine Fk.fk ?_ ?_ <;> intro hg <;> (try simp only [hg]) <;> (try simp only [bunB] at hg) <;> try (exfalso; first | omega | exact Bool.noConfusion hg | exact hg trivial)) | refine And.intro (by omega) ?_ | omega
theorem conS_spec (s : List UInt8) (hs : s.length ≤ 10000000) : Spec Tryd.prog 17 [Sv s, .fn 18 [] []] (Bv (s.any sgB)) := by
  have h := idxFS_spec s hs
  refine spec_mk (z := false) (ts := [.tmp 4]) ok1 Tryd.func17 rfl rfl (by decide +kernel) (by simp [Tryd.ntmps17]) rfl ?_
  rw [← badS_ge]
  repeat' first | refine WE_fit (h) ?_ ?_ | simp (maxSteps := 4000000) (disch := omega) only [bunL, bunD, bun, ↓WG_true, ↓WG_false, labelOf, findLabel, ↓reduceIte, imp, shift, killO, hasId, unown, names, plainR, below, noF, isF, lendObs, lendOb, kindOk, ren, givL, updM, backO, renO, belowM, seval, -Int.reduceToNat, B3, B4, B9, B43, bunN, Int.reduceToNat, List.map_nil, List.nil_append] | exact NK_no _ | refine NK_cl _ _ ?_ | exact Cln.cl | refine clean_tup _ ?_ | refine cleans_cons _ _ ?_ ?_ | refine DR_q _ ?_ | (refine Fk.fk ?_ ?_ <;> intro hg <;> (try simp only [hg]) <;> (try simp only [bunB] at hg) <;> try (exfalso; first | omega | exact Bool.noConfusion hg | exact hg trivial)) | refine And.intro (by omega) ?_ | omega
end Go.AE
end
section
/- Replies: what is right; equal replies; few lines; open. -/
namespace Go.AE
open Go.Proofs
set_option maxRecDepth 20000
set_option maxHeartbeats 8000000
set_option linter.unusedSimpArgs false
theorem Spec.of_args {P : Program} {f : FuncId} {xs bs : List AV} {r : AV} (h : Spec P f bs r) (hi : ∀ w F vs, Reps w F [] xs vs → Reps w F [] bs vs) : Spec P f xs r :=
  ⟨h.1, fun w F vs hF hT hr => h.2 w F vs hF hT (hi w F vs hr)⟩
def codB (c : Int) : Bool := decide (200 ≤ c) && decide (c ≤ 599)
theorem coded_spec (c : Int) : Spec Tryd.prog 19 [I64 c] (Bv (codB c)) := by
  refine spec_mk (z := false) (ts := [.tmp 2]) ok1 Tryd.func19 rfl rfl (by decide +kernel) (by simp [Tryd.ntmps19]) rfl ?_
  unfold codB
  by_cases h : 200 ≤ c
  · rw [decide_eq_true h, Bool.true_and]
    repeat' first | simp (maxSteps := 4000000) (disch := omega) only [bunL, bunD, bun, ↓WG_true, ↓WG_false, labelOf, findLabel, ↓reduceIte, imp, shift, killO, hasId, unown, names, plainR, below, noF, isF, lendObs, lendOb, kindOk, ren, givL, updM, backO, renO, belowM, seval, -Int.reduceToNat, B3, B4, bunN, Int.reduceToNat, List.map_nil, List.nil_append] | refine DR_q _ ?_ | (refine Fk.fk ?_ ?_ <;> intro hg <;> (try simp only [hg]) <;> (try simp only [bunB] at hg) <;> try (exfalso; first | omega | exact Bool.noConfusion hg | exact hg trivial)) | refine And.intro (by omega) ?_ | omega
  · rw [decide_eq_false h, Bool.false_and]
    repeat' first | simp (maxSteps := 4000000) (disch := omega) only [bunL, bunD, bun, ↓WG_true, ↓WG_false, labelOf, findLabel, ↓reduceIte, imp, shift, killO, hasId, unown, names, plainR, below, noF, isF, lendObs, lendOb, kindOk, ren, givL, updM, backO, renO, belowM, seval, -Int.reduceToNat, B3, B4, bunN, Int.reduceToNat, List.map_nil, List.nil_append] | refine DR_q _ ?_ | (refine Fk.fk ?_ ?_ <;> intro hg <;> (try simp only [hg]) <;> (try simp only [bunB] at hg) <;> try (exfalso; first | omega | exact Bool.noConfusion hg | exact hg trivial)) | refine And.intro (by omega) ?_ | omega
theorem class_spec (c : Int) (h0 : 0 ≤ c) (h1 : c ≤ 1000) : Spec Tryd.prog 14 [I64 c] (I64 (if codB c then c / 100 else 0)) := by
  have h := coded_spec c
  refine spec_mk (z := false) (ts := [.tmp 2]) ok1 Tryd.func14 rfl rfl (by decide +kernel) (by simp [Tryd.ntmps14]) rfl ?_
  have e : c.tdiv 100 = c / 100 := Int.tdiv_eq_ediv_of_nonneg h0
  cases hc : codB c with
  | true =>
    rw [hc] at h
    repeat' first | refine WE_fit (h) ?_ ?_ | simp (maxSteps := 4000000) (disch := omega) only [bunL, bunD, bun, ↓WG_true, ↓WG_false, labelOf, findLabel, ↓reduceIte, imp, shift, killO, hasId, unown, names, plainR, below, noF, isF, lendObs, lendOb, kindOk, ren, givL, updM, backO, renO, belowM, seval, -Int.reduceToNat, e, B3, B4, bunN, Int.reduceToNat, List.map_nil, List.nil_append] | exact NK_no _ | refine NK_cl _ _ ?_ | exact Cln.cl | refine clean_tup _ ?_ | refine cleans_cons _ _ ?_ ?_ | refine DR_q _ ?_ | (refine Fk.fk ?_ ?_ <;> intro hg <;> (try simp only [hg]) <;> (try simp only [bunB] at hg) <;> try (exfalso; first | omega | exact Bool.noConfusion hg | exact hg trivial)) | refine And.intro (by omega) ?_ | omega
    all_goals trace_state
  | false =>
    rw [hc] at h
    repeat' first | refine WE_fit (h) ?_ ?_ | simp (maxSteps := 4000000) (disch := omega) only [bunL, bunD, bun, ↓WG_true, ↓WG_false, labelOf, findLabel, ↓reduceIte, imp, shift, killO, hasId, unown, names, plainR, below, noF, isF, lendObs, lendOb, kindOk, ren, givL, updM, backO, renO, belowM, seval, -Int.reduceToNat, B3, B4, bunN, Int.reduceToNat, List.map_nil, List.nil_append] | exact NK_no _ | refine NK_cl _ _ ?_ | exact Cln.cl | refine clean_tup _ ?_ | refine cleans_cons _ _ ?_ ?_ | refine DR_q _ ?_ | (refine Fk.fk ?_ ?_ <;> intro hg <;> (try simp only [hg]) <;> (try simp only [bunB] at hg) <;> try (exfalso; first | omega | exact Bool.noConfusion hg | exact hg trivial)) | refine And.intro (by omega) ?_ | omega
    all_goals trace_state
theorem right1_spec (s : List UInt8) (hs : s.length ≤ 10000000) : Spec Tryd.prog 16 [Sv s] (Bv (s.any sgB)) := by
  have h := conS_spec s hs
  refine spec_mk (z := false) (ts := [.tmp 2]) ok1 Tryd.func16 rfl rfl (by decide +kernel) (by simp [Tryd.ntmps16]) rfl ?_
  repeat' first | refine WE_fit (h) ?_ ?_ | simp (maxSteps := 4000000) (disch := omega) only [bunL, bunD, bun, ↓WG_true, ↓WG_false, labelOf, findLabel, ↓reduceIte, imp, shift, killO, hasId, unown, names, plainR, below, noF, isF, lendObs, lendOb, kindOk, ren, givL, updM, backO, renO, belowM, seval, -Int.reduceToNat, B4, B9, B43, bunN, Int.reduceToNat, List.map_nil, List.nil_append] | exact NK_no _ | refine NK_cl _ _ ?_ | exact Cln.cl | refine clean_tup _ ?_ | refine cleans_cons _ _ ?_ ?_ | refine DR_q _ ?_ | (refine Fk.fk ?_ ?_ <;> intro hg <;> (try simp only [hg]) <;> (try simp only [bunB] at hg) <;> try (exfalso; first | omega | exact Bool.noConfusion hg | exact hg trivial)) | refine And.intro (by omega) ?_ | omega
def badL (L : List (List UInt8)) : Int := if L.any (·.any sgB) then (L.findIdx (·.any sgB) : Nat) else -1
theorem firstL_at {L : List (List UInt8)} {p : List UInt8 → Bool} {k : Nat} (hk : k < L.length) (h : p (L.getD k []) = true) (ha : ∀ j, j < k → p (L.getD j []) = false) : L.findIdx p = k := by
  rw [List.findIdx_eq hk]
  refine ⟨by simpa [List.getD, hk] using h, fun j hj => ?_⟩
  have := ha j hj
  simpa [List.getD, show j < L.length by omega] using this
theorem badL_hit {L : List (List UInt8)} {k : Nat} (hk : k < L.length) (h : (L.getD k []).any sgB = true) (ha : ∀ j, j < k → (L.getD j []).any sgB = false) : badL L = k := by
  have h2 : L.any (·.any sgB) = true := List.any_eq_true.2 ⟨L.getD k [], by simp [List.getD, hk], h⟩
  unfold badL
  rw [h2, if_pos rfl, firstL_at (p := (·.any sgB)) hk h ha]
theorem anyL_miss {L : List (List UInt8)} (ha : ∀ j, j < L.length → (L.getD j []).any sgB = false) : L.any (·.any sgB) = false :=
  List.any_eq_false.2 fun c hc => by
    obtain ⟨j, hj, e⟩ := List.getElem_of_mem hc
    have := ha j hj
    rw [show L.getD j [] = c by simp [List.getD, hj, e]] at this
    simp [this]
theorem badL_miss {L : List (List UInt8)} (ha : ∀ j, j < L.length → (L.getD j []).any sgB = false) : badL L = -1 := by
  unfold badL
  rw [anyL_miss ha]; rfl
theorem badL_ge (L : List (List UInt8)) : decide (badL L ≥ 0) = L.any (·.any sgB) := by
  unfold badL
  cases L.any (·.any sgB)
  · rfl
  · simp
def lenL (L : List (List UInt8)) : Prop := ∀ s ∈ L, s.length ≤ 10000000
theorem lenL.at {L : List (List UInt8)} (h : lenL L) {k : Nat} (hk : k < L.length) : (L.getD k []).length ≤ 10000000 := h _ (by simp [List.getD, hk])
theorem idxL_spec (L : List (List UInt8)) (hn : L.length ≤ 10000000) (hL : lenL L) : Spec Tryd.prog 25 [.sl L.length (L.map Sv), .fn 16 [] []] (I64 (badL L)) := by
  refine spec_mk (z := false) (ts := [.tmp 4]) ok1 Tryd.func25 rfl rfl (by decide +kernel) (by simp [Tryd.ntmps25]) rfl ?_
  repeat' first | simp (maxSteps := 4000000) (disch := omega) only [bunL, bunD, bun, ↓WG_true, ↓WG_false, labelOf, findLabel, ↓reduceIte, imp, shift, killO, hasId, unown, names, plainR, below, noF, isF, lendObs, lendOb, kindOk, ren, givL, updM, backO, renO, belowM, seval, -Int.reduceToNat, B3, B4, B9, B22, B44, bunN, Int.reduceToNat, List.map_nil, List.nil_append] | refine DR_q _ ?_ | (refine Fk.fk ?_ ?_ <;> intro hg <;> (try simp only [hg]) <;> (try simp only [bunB] at hg) <;> try (exfalso; first | omega | exact Bool.noConfusion hg | exact hg trivial)) | refine And.intro (by omega) ?_ | omega
  refine LP_intro (fun k : Nat => ⟨[(0, .sl L.length (L.map Sv)), (1, .fn 16 [] []), (7, I64 L.length), (8, I64 k)], []⟩) (fun k => k ≤ L.length ∧ ∀ j, j < k → (L.getD j []).any sgB = false) (fun k => L.length - k) 0 (by simp) (by simp [wk, wkT, wkM, noF, isF, get, belowT, belowM, below, belows, I64, I32, Bv, U8, Sv] <;> try omega) ?_
  rintro k ⟨hk, ha⟩
  by_cases hlt : k < L.length
  · have ho := right1_spec (L.getD k []) (hL.at hlt)
    cases hq : (L.getD k []).any sgB with
    | true =>
      rw [hq] at ho
      have eb := badL_hit hlt hq ha
      repeat' first | refine WE_fit (ho) ?_ ?_ | simp (maxSteps := 4000000) (disch := omega) only [bunL, bunD, bun, ↓WG_true, ↓WG_false, labelOf, findLabel, ↓reduceIte, imp, shift, killO, hasId, unown, names, plainR, below, noF, isF, lendObs, lendOb, kindOk, ren, givL, updM, backO, renO, belowM, seval, -Int.reduceToNat, eb, B3, B4, B9, B22, B44, bunN, Int.reduceToNat, List.map_nil, List.nil_append] | exact NK_no _ | refine NK_cl _ _ ?_ | exact Cln.cl | refine clean_tup _ ?_ | refine cleans_cons _ _ ?_ ?_ | refine DR_q _ ?_ | (refine Fk.fk ?_ ?_ <;> intro hg <;> (try simp only [hg]) <;> (try simp only [bunB] at hg) <;> try (exfalso; first | omega | exact Bool.noConfusion hg | exact hg trivial)) | refine And.intro (by omega) ?_ | omega
      all_goals trace_state
    | false =>
      rw [hq] at ho
      repeat' first | refine WE_fit (ho) ?_ ?_ | simp (maxSteps := 4000000) (disch := omega) only [bunL, bunD, bun, ↓WG_true, ↓WG_false, labelOf, findLabel, ↓reduceIte, imp, shift, killO, hasId, unown, names, plainR, below, noF, isF, lendObs, lendOb, kindOk, ren, givL, updM, backO, renO, belowM, seval, -Int.reduceToNat, B3, B4, B9, B22, B44, bunN, Int.reduceToNat, List.map_nil, List.nil_append] | exact NK_no _ | refine NK_cl _ _ ?_ | exact Cln.cl | refine clean_tup _ ?_ | refine cleans_cons _ _ ?_ ?_ | refine DR_q _ ?_ | (refine Fk.fk ?_ ?_ <;> intro hg <;> (try simp only [hg]) <;> (try simp only [bunB] at hg) <;> try (exfalso; first | omega | exact Bool.noConfusion hg | exact hg trivial)) | refine And.intro (by omega) ?_ | omega
      refine ⟨k + 1, ⟨by omega, fun j hj => ?_⟩, by omega, (by simp [wk, wkT, wkM, noF, isF, get, belowT, belowM, below, belows, I64, I32, Bv, U8, Sv] <;> try omega)⟩
      by_cases hj2 : j = k
      · subst hj2; exact hq
      · exact ha j (by omega)
  · have e := badL_miss fun j hj => ha j (by omega)
    repeat' first | simp (maxSteps := 4000000) (disch := omega) only [bunL, bunD, bun, ↓WG_true, ↓WG_false, labelOf, findLabel, ↓reduceIte, imp, shift, killO, hasId, unown, names, plainR, below, noF, isF, lendObs, lendOb, kindOk, ren, givL, updM, backO, renO, belowM, seval, -Int.reduceToNat, e, B3, B4, B9, B22, B44, bunN, Int.reduceToNat, List.map_nil, List.nil_append] | refine DR_q _ ?_ | (refine Fk.fk ?_ ?_ <;> intro hg <;> (try simp only [hg]) <;> (try simp only [bunB] at hg) <;> try (exfalso; first | omega | exact Bool.noConfusion hg | exact hg trivial)) | refine And.intro (by omega) ?_ | omega
    all_goals trace_state
theorem conL_spec (L : List (List UInt8)) (hn : L.length ≤ 10000000) (hL : lenL L) : Spec Tryd.prog 15 [.sl L.length (L.map Sv), .fn 16 [] []] (Bv (L.any (·.any sgB))) := by
  have h := idxL_spec L hn hL
  refine spec_mk (z := false) (ts := [.tmp 4]) ok1 Tryd.func15 rfl rfl (by decide +kernel) (by simp [Tryd.ntmps15]) rfl ?_
  rw [← badL_ge]
  repeat' first | refine WE_fit (h) ?_ ?_ | simp (maxSteps := 4000000) (disch := omega) only [bunL, bunD, bun, ↓WG_true, ↓WG_false, labelOf, findLabel, ↓reduceIte, imp, shift, killO, hasId, unown, names, plainR, below, noF, isF, lendObs, lendOb, kindOk, ren, givL, updM, backO, renO, belowM, seval, -Int.reduceToNat, B3, B4, B9, B22, B44, bunN, Int.reduceToNat, List.map_nil, List.nil_append] | exact NK_no _ | refine NK_cl _ _ ?_ | exact Cln.cl | refine clean_tup _ ?_ | refine cleans_cons _ _ ?_ ?_ | refine DR_q _ ?_ | (refine Fk.fk ?_ ?_ <;> intro hg <;> (try simp only [hg]) <;> (try simp only [bunB] at hg) <;> try (exfalso; first | omega | exact Bool.noConfusion hg | exact hg trivial)) | refine And.intro (by omega) ?_ | omega
def rightB (c : Int) (L : List (List UInt8)) : Bool := codB c && (decide (0 < L.length) && (decide (L.length ≤ 32) && !L.any (·.any sgB)))
theorem right_spec (c : Int) (L : List (List UInt8)) (hn : L.length ≤ 10000000) (hL : lenL L) : Spec Tryd.prog 8 [.ag [I64 c, .sl L.length (L.map Sv)]] (Bv (rightB c L)) := by
  have h1 := conL_spec L hn hL
  have h2 := coded_spec c
  refine spec_mk (z := false) (ts := [.tmp 2]) ok1 Tryd.func8 rfl rfl (by decide +kernel) (by simp [Tryd.ntmps8]) rfl ?_
  unfold rightB
  cases hc : codB c with
  | false =>
    rw [hc] at h2
    rw [Bool.false_and]
    repeat' first | refine WE_fit (h1) ?_ ?_ | refine WE_fit (h2) ?_ ?_ | simp (maxSteps := 4000000) (disch := omega) only [bunL, bunD, bun, ↓WG_true, ↓WG_false, labelOf, findLabel, ↓reduceIte, imp, shift, killO, hasId, unown, names, plainR, below, noF, isF, lendObs, lendOb, kindOk, ren, givL, updM, backO, renO, belowM, seval, -Int.reduceToNat, B4, D24, B44, bunN, Int.reduceToNat, List.map_nil, List.nil_append] | exact NK_no _ | refine NK_cl _ _ ?_ | exact Cln.cl | refine clean_tup _ ?_ | refine cleans_cons _ _ ?_ ?_ | refine DR_q _ ?_ | (refine Fk.fk ?_ ?_ <;> intro hg <;> (try simp only [hg]) <;> (try simp only [bunB] at hg) <;> try (exfalso; first | omega | exact Bool.noConfusion hg | exact hg trivial)) | refine And.intro (by omega) ?_ | omega
    all_goals trace_state
  | true =>
    rw [hc] at h2
    rw [Bool.true_and]
    by_cases g1 : 0 < L.length
    · rw [decide_eq_true g1, Bool.true_and]
      by_cases g2 : L.length ≤ 32
      · rw [decide_eq_true g2, Bool.true_and]
        repeat' first | refine WE_fit (h1) ?_ ?_ | refine WE_fit (h2) ?_ ?_ | simp (maxSteps := 4000000) (disch := omega) only [bunL, bunD, bun, ↓WG_true, ↓WG_false, labelOf, findLabel, ↓reduceIte, imp, shift, killO, hasId, unown, names, plainR, below, noF, isF, lendObs, lendOb, kindOk, ren, givL, updM, backO, renO, belowM, seval, -Int.reduceToNat, B4, D24, B44, bunN, Int.reduceToNat, List.map_nil, List.nil_append] | exact NK_no _ | refine NK_cl _ _ ?_ | exact Cln.cl | refine clean_tup _ ?_ | refine cleans_cons _ _ ?_ ?_ | refine DR_q _ ?_ | (refine Fk.fk ?_ ?_ <;> intro hg <;> (try simp only [hg]) <;> (try simp only [bunB] at hg) <;> try (exfalso; first | omega | exact Bool.noConfusion hg | exact hg trivial)) | refine And.intro (by omega) ?_ | omega
        all_goals trace_state
      · rw [decide_eq_false g2, Bool.false_and]
        repeat' first | refine WE_fit (h1) ?_ ?_ | refine WE_fit (h2) ?_ ?_ | simp (maxSteps := 4000000) (disch := omega) only [bunL, bunD, bun, ↓WG_true, ↓WG_false, labelOf, findLabel, ↓reduceIte, imp, shift, killO, hasId, unown, names, plainR, below, noF, isF, lendObs, lendOb, kindOk, ren, givL, updM, backO, renO, belowM, seval, -Int.reduceToNat, B4, D24, B44, bunN, Int.reduceToNat, List.map_nil, List.nil_append] | exact NK_no _ | refine NK_cl _ _ ?_ | exact Cln.cl | refine clean_tup _ ?_ | refine cleans_cons _ _ ?_ ?_ | refine DR_q _ ?_ | (refine Fk.fk ?_ ?_ <;> intro hg <;> (try simp only [hg]) <;> (try simp only [bunB] at hg) <;> try (exfalso; first | omega | exact Bool.noConfusion hg | exact hg trivial)) | refine And.intro (by omega) ?_ | omega
        all_goals trace_state
    · rw [decide_eq_false g1, Bool.false_and]
      repeat' first | refine WE_fit (h1) ?_ ?_ | refine WE_fit (h2) ?_ ?_ | simp (maxSteps := 4000000) (disch := omega) only [bunL, bunD, bun, ↓WG_true, ↓WG_false, labelOf, findLabel, ↓reduceIte, imp, shift, killO, hasId, unown, names, plainR, below, noF, isF, lendObs, lendOb, kindOk, ren, givL, updM, backO, renO, belowM, seval, -Int.reduceToNat, B4, D24, B44, bunN, Int.reduceToNat, List.map_nil, List.nil_append] | exact NK_no _ | refine NK_cl _ _ ?_ | exact Cln.cl | refine clean_tup _ ?_ | refine cleans_cons _ _ ?_ ?_ | refine DR_q _ ?_ | (refine Fk.fk ?_ ?_ <;> intro hg <;> (try simp only [hg]) <;> (try simp only [bunB] at hg) <;> try (exfalso; first | omega | exact Bool.noConfusion hg | exact hg trivial)) | refine And.intro (by omega) ?_ | omega
      all_goals trace_state
theorem rightN_spec (c : Int) : Spec Tryd.prog 8 [.ag [I64 c, .v (.slice none 0 0)]] (Bv false) := by
  have h := right_spec c [] (by simp) (fun s h => by cases h)
  have e : rightB c [] = false := by unfold rightB; simp
  rw [e] at h
  refine Spec.of_args h fun w F vs hr => ?_
  cases hr with
  | cons h1 h2 =>
    cases h2
    cases h1 with
    | ag h1 =>
      cases h1 with
      | cons h3 h4 =>
        cases h4 with
        | cons h5 h6 =>
          cases h6
          cases h5
          exact .cons (.ag (.cons h3 (.cons .sl0 .nil))) .nil
def sameL (c : Int) (L : List (List UInt8)) (d : Int) (M : List (List UInt8)) : Bool := c == d && L == M
theorem same_at {L M : List (List UInt8)} (hl : L.length = M.length) (ha : ∀ j, j < L.length → L.getD j [] = M.getD j []) : L = M := by
  apply List.ext_getElem hl
  intro i h1 h2
  have := ha i h1
  simpa [List.getD, h1, h2] using this
theorem same_spec (c : Int) (L : List (List UInt8)) (d : Int) (M : List (List UInt8)) (hn : L.length ≤ 10000000) (hm : M.length ≤ 10000000) :
    Spec Tryd.prog 12 [.ag [I64 c, .sl L.length (L.map Sv)], .ag [I64 d, .sl M.length (M.map Sv)]] (Bv (sameL c L d M)) := by
  refine spec_mk (z := false) (ts := [.tmp 4]) ok1 Tryd.func12 rfl rfl (by decide +kernel) (by simp [Tryd.ntmps12]) rfl ?_
  unfold sameL
  by_cases hc : c = d
  · subst hc
    have e0 : (c == c) = true := by simp
    rw [e0, Bool.true_and]
    by_cases hl : L.length = M.length
    · repeat' first | simp (maxSteps := 4000000) (disch := omega) only [bunL, bunD, bun, ↓WG_true, ↓WG_false, labelOf, findLabel, ↓reduceIte, imp, shift, killO, hasId, unown, names, plainR, below, noF, isF, lendObs, lendOb, kindOk, ren, givL, updM, backO, renO, belowM, seval, -Int.reduceToNat, hl, B4, D24, bunN, Int.reduceToNat, List.map_nil, List.nil_append] | refine DR_q _ ?_ | (refine Fk.fk ?_ ?_ <;> intro hg <;> (try simp only [hg]) <;> (try simp only [bunB] at hg) <;> try (exfalso; first | omega | exact Bool.noConfusion hg | exact hg trivial)) | refine And.intro (by omega) ?_ | omega
      refine LP_intro (fun k : Nat => ⟨[(2, .ptr 0 0), (3, .ptr 1 0), (5, I64 k)], [.row true 1 [I64 c, .sl M.length (L.map Sv)], .row true 1 [I64 c, .sl M.length (M.map Sv)]]⟩) (fun k => k ≤ L.length ∧ ∀ j, j < k → L.getD j [] = M.getD j []) (fun k => L.length - k) 0 (by simp) (by simp [wk, wkT, wkM, noF, isF, get, belowT, belowM, below, belows, I64, I32, Bv, U8, Sv] <;> try omega) ?_
      rintro k ⟨hk, ha⟩
      by_cases hlt : k < L.length
      · by_cases he : L.getD k [] = M.getD k []
        · have hst : ∀ j, j < k + 1 → L.getD j [] = M.getD j [] := fun j hj => by
            by_cases hj2 : j = k
            · subst hj2; exact he
            · exact ha j (by omega)
          repeat' first | refine DR_p (.take 2 (.take 7 (.two 0 (.two 1 (.two 3 (.two 4 (.one 5 (.one 6 (.one 8 (.one 9 (.take 10 (.done)))))) 5 (.two 4 (.one 6 (.one 8 (.one 9 (.take 10 (.done))))) 6 (.two 4 (.one 8 (.one 9 (.take 10 (.done)))) 8 (.two 4 (.one 9 (.take 10 (.done))) 9 (.one 4 (.take 10 (.done))))))) 5 (.two 3 (.two 4 (.one 6 (.one 8 (.one 9 (.take 10 (.done))))) 6 (.two 4 (.one 8 (.one 9 (.take 10 (.done)))) 8 (.two 4 (.one 9 (.take 10 (.done))) 9 (.one 4 (.take 10 (.done)))))) 6 (.two 3 (.two 4 (.one 8 (.one 9 (.take 10 (.done)))) 8 (.two 4 (.one 9 (.take 10 (.done))) 9 (.one 4 (.take 10 (.done))))) 8 (.two 3 (.two 4 (.one 9 (.take 10 (.done))) 9 (.one 4 (.take 10 (.done)))) 9 (.one 3 (.one 4 (.take 10 (.done)))))))) 5 (.two 1 (.two 3 (.two 4 (.one 6 (.one 8 (.one 9 (.take 10 (.done))))) 6 (.two 4 (.one 8 (.one 9 (.take 10 (.done)))) 8 (.two 4 (.one 9 (.take 10 (.done))) 9 (.one 4 (.take 10 (.done)))))) 6 (.two 3 (.two 4 (.one 8 (.one 9 (.take 10 (.done)))) 8 (.two 4 (.one 9 (.take 10 (.done))) 9 (.one 4 (.take 10 (.done))))) 8 (.two 3 (.two 4 (.one 9 (.take 10 (.done))) 9 (.one 4 (.take 10 (.done)))) 9 (.one 3 (.one 4 (.take 10 (.done))))))) 6 (.two 1 (.two 3 (.two 4 (.one 8 (.one 9 (.take 10 (.done)))) 8 (.two 4 (.one 9 (.take 10 (.done))) 9 (.one 4 (.take 10 (.done))))) 8 (.two 3 (.two 4 (.one 9 (.take 10 (.done))) 9 (.one 4 (.take 10 (.done)))) 9 (.one 3 (.one 4 (.take 10 (.done)))))) 8 (.two 1 (.two 3 (.two 4 (.one 9 (.take 10 (.done))) 9 (.one 4 (.take 10 (.done)))) 9 (.one 3 (.one 4 (.take 10 (.done))))) 9 (.one 1 (.one 3 (.one 4 (.take 10 (.done))))))))) 5 (.two 0 (.two 1 (.two 3 (.two 4 (.one 6 (.one 8 (.one 9 (.take 10 (.done))))) 6 (.two 4 (.one 8 (.one 9 (.take 10 (.done)))) 8 (.two 4 (.one 9 (.take 10 (.done))) 9 (.one 4 (.take 10 (.done)))))) 6 (.two 3 (.two 4 (.one 8 (.one 9 (.take 10 (.done)))) 8 (.two 4 (.one 9 (.take 10 (.done))) 9 (.one 4 (.take 10 (.done))))) 8 (.two 3 (.two 4 (.one 9 (.take 10 (.done))) 9 (.one 4 (.take 10 (.done)))) 9 (.one 3 (.one 4 (.take 10 (.done))))))) 6 (.two 1 (.two 3 (.two 4 (.one 8 (.one 9 (.take 10 (.done)))) 8 (.two 4 (.one 9 (.take 10 (.done))) 9 (.one 4 (.take 10 (.done))))) 8 (.two 3 (.two 4 (.one 9 (.take 10 (.done))) 9 (.one 4 (.take 10 (.done)))) 9 (.one 3 (.one 4 (.take 10 (.done)))))) 8 (.two 1 (.two 3 (.two 4 (.one 9 (.take 10 (.done))) 9 (.one 4 (.take 10 (.done)))) 9 (.one 3 (.one 4 (.take 10 (.done))))) 9 (.one 1 (.one 3 (.one 4 (.take 10 (.done)))))))) 6 (.two 0 (.two 1 (.two 3 (.two 4 (.one 8 (.one 9 (.take 10 (.done)))) 8 (.two 4 (.one 9 (.take 10 (.done))) 9 (.one 4 (.take 10 (.done))))) 8 (.two 3 (.two 4 (.one 9 (.take 10 (.done))) 9 (.one 4 (.take 10 (.done)))) 9 (.one 3 (.one 4 (.take 10 (.done)))))) 8 (.two 1 (.two 3 (.two 4 (.one 9 (.take 10 (.done))) 9 (.one 4 (.take 10 (.done)))) 9 (.one 3 (.one 4 (.take 10 (.done))))) 9 (.one 1 (.one 3 (.one 4 (.take 10 (.done))))))) 8 (.two 0 (.two 1 (.two 3 (.two 4 (.one 9 (.take 10 (.done))) 9 (.one 4 (.take 10 (.done)))) 9 (.one 3 (.one 4 (.take 10 (.done))))) 9 (.one 1 (.one 3 (.one 4 (.take 10 (.done)))))) 9 (.one 0 (.one 1 (.one 3 (.one 4 (.take 10 (.done)))))))))))) _ (by decide +kernel) ?_ | simp (maxSteps := 4000000) (disch := omega) only [bunL, bunD, bun, ↓WG_true, ↓WG_false, labelOf, findLabel, ↓reduceIte, imp, shift, killO, hasId, unown, names, plainR, below, noF, isF, lendObs, lendOb, kindOk, ren, givL, updM, backO, renO, belowM, seval, -Int.reduceToNat, he, B4, D24, bunN, Int.reduceToNat, List.map_nil, List.nil_append] | exact NK_no _ | refine NK_cl _ _ ?_ | exact Cln.cl | refine clean_tup _ ?_ | refine cleans_cons _ _ ?_ ?_ | refine DR_q _ ?_ | (refine Fk.fk ?_ ?_ <;> intro hg <;> (try simp only [hg]) <;> (try simp only [bunB] at hg) <;> try (exfalso; first | omega | exact Bool.noConfusion hg | exact hg trivial)) | refine And.intro (by omega) ?_ | omega
          all_goals (repeat' refine And.intro ?_ ?_)
          all_goals first | omega | exact ⟨k + 1, ⟨by omega, hst⟩, by omega, (by simp [wk, wkT, wkM, noF, isF, get, belowT, belowM, below, belows, I64, I32, Bv, U8, Sv] <;> try omega)⟩ | trace_state
        · have hlm : L.getD k [] = M.getD k [] → False := he
          have hne : (L == M) = false := by
            rw [beq_eq_false_iff_ne]; intro e; exact he (by rw [e])
          have hne2 : ((L.getD k []) == (M.getD k [])) = false := by simpa using he
          repeat' first | refine DR_p (.take 2 (.take 7 (.two 0 (.two 1 (.two 3 (.two 4 (.one 5 (.one 6 (.one 8 (.one 9 (.take 10 (.done)))))) 5 (.two 4 (.one 6 (.one 8 (.one 9 (.take 10 (.done))))) 6 (.two 4 (.one 8 (.one 9 (.take 10 (.done)))) 8 (.two 4 (.one 9 (.take 10 (.done))) 9 (.one 4 (.take 10 (.done))))))) 5 (.two 3 (.two 4 (.one 6 (.one 8 (.one 9 (.take 10 (.done))))) 6 (.two 4 (.one 8 (.one 9 (.take 10 (.done)))) 8 (.two 4 (.one 9 (.take 10 (.done))) 9 (.one 4 (.take 10 (.done)))))) 6 (.two 3 (.two 4 (.one 8 (.one 9 (.take 10 (.done)))) 8 (.two 4 (.one 9 (.take 10 (.done))) 9 (.one 4 (.take 10 (.done))))) 8 (.two 3 (.two 4 (.one 9 (.take 10 (.done))) 9 (.one 4 (.take 10 (.done)))) 9 (.one 3 (.one 4 (.take 10 (.done)))))))) 5 (.two 1 (.two 3 (.two 4 (.one 6 (.one 8 (.one 9 (.take 10 (.done))))) 6 (.two 4 (.one 8 (.one 9 (.take 10 (.done)))) 8 (.two 4 (.one 9 (.take 10 (.done))) 9 (.one 4 (.take 10 (.done)))))) 6 (.two 3 (.two 4 (.one 8 (.one 9 (.take 10 (.done)))) 8 (.two 4 (.one 9 (.take 10 (.done))) 9 (.one 4 (.take 10 (.done))))) 8 (.two 3 (.two 4 (.one 9 (.take 10 (.done))) 9 (.one 4 (.take 10 (.done)))) 9 (.one 3 (.one 4 (.take 10 (.done))))))) 6 (.two 1 (.two 3 (.two 4 (.one 8 (.one 9 (.take 10 (.done)))) 8 (.two 4 (.one 9 (.take 10 (.done))) 9 (.one 4 (.take 10 (.done))))) 8 (.two 3 (.two 4 (.one 9 (.take 10 (.done))) 9 (.one 4 (.take 10 (.done)))) 9 (.one 3 (.one 4 (.take 10 (.done)))))) 8 (.two 1 (.two 3 (.two 4 (.one 9 (.take 10 (.done))) 9 (.one 4 (.take 10 (.done)))) 9 (.one 3 (.one 4 (.take 10 (.done))))) 9 (.one 1 (.one 3 (.one 4 (.take 10 (.done))))))))) 5 (.two 0 (.two 1 (.two 3 (.two 4 (.one 6 (.one 8 (.one 9 (.take 10 (.done))))) 6 (.two 4 (.one 8 (.one 9 (.take 10 (.done)))) 8 (.two 4 (.one 9 (.take 10 (.done))) 9 (.one 4 (.take 10 (.done)))))) 6 (.two 3 (.two 4 (.one 8 (.one 9 (.take 10 (.done)))) 8 (.two 4 (.one 9 (.take 10 (.done))) 9 (.one 4 (.take 10 (.done))))) 8 (.two 3 (.two 4 (.one 9 (.take 10 (.done))) 9 (.one 4 (.take 10 (.done)))) 9 (.one 3 (.one 4 (.take 10 (.done))))))) 6 (.two 1 (.two 3 (.two 4 (.one 8 (.one 9 (.take 10 (.done)))) 8 (.two 4 (.one 9 (.take 10 (.done))) 9 (.one 4 (.take 10 (.done))))) 8 (.two 3 (.two 4 (.one 9 (.take 10 (.done))) 9 (.one 4 (.take 10 (.done)))) 9 (.one 3 (.one 4 (.take 10 (.done)))))) 8 (.two 1 (.two 3 (.two 4 (.one 9 (.take 10 (.done))) 9 (.one 4 (.take 10 (.done)))) 9 (.one 3 (.one 4 (.take 10 (.done))))) 9 (.one 1 (.one 3 (.one 4 (.take 10 (.done)))))))) 6 (.two 0 (.two 1 (.two 3 (.two 4 (.one 8 (.one 9 (.take 10 (.done)))) 8 (.two 4 (.one 9 (.take 10 (.done))) 9 (.one 4 (.take 10 (.done))))) 8 (.two 3 (.two 4 (.one 9 (.take 10 (.done))) 9 (.one 4 (.take 10 (.done)))) 9 (.one 3 (.one 4 (.take 10 (.done)))))) 8 (.two 1 (.two 3 (.two 4 (.one 9 (.take 10 (.done))) 9 (.one 4 (.take 10 (.done)))) 9 (.one 3 (.one 4 (.take 10 (.done))))) 9 (.one 1 (.one 3 (.one 4 (.take 10 (.done))))))) 8 (.two 0 (.two 1 (.two 3 (.two 4 (.one 9 (.take 10 (.done))) 9 (.one 4 (.take 10 (.done)))) 9 (.one 3 (.one 4 (.take 10 (.done))))) 9 (.one 1 (.one 3 (.one 4 (.take 10 (.done)))))) 9 (.one 0 (.one 1 (.one 3 (.one 4 (.take 10 (.done)))))))))))) _ (by decide +kernel) ?_ | simp (maxSteps := 4000000) (disch := omega) only [bunL, bunD, bun, ↓WG_true, ↓WG_false, labelOf, findLabel, ↓reduceIte, imp, shift, killO, hasId, unown, names, plainR, below, noF, isF, lendObs, lendOb, kindOk, ren, givL, updM, backO, renO, belowM, seval, -Int.reduceToNat, hne, hne2, B4, D24, bunN, Int.reduceToNat, List.map_nil, List.nil_append] | exact NK_no _ | refine NK_cl _ _ ?_ | exact Cln.cl | refine clean_tup _ ?_ | refine cleans_cons _ _ ?_ ?_ | refine DR_q _ ?_ | (refine Fk.fk ?_ ?_ <;> intro hg <;> (try simp only [hg]) <;> (try simp only [bunB] at hg) <;> try (exfalso; first | omega | exact Bool.noConfusion hg | exact hg trivial)) | refine And.intro (by omega) ?_ | omega
          all_goals (repeat' refine And.intro ?_ ?_)
          all_goals first | omega | trace_state
      · have e := same_at hl fun j hj => ha j (by omega)
        subst e
        repeat' first | simp (maxSteps := 4000000) (disch := omega) only [bunL, bunD, bun, ↓WG_true, ↓WG_false, labelOf, findLabel, ↓reduceIte, imp, shift, killO, hasId, unown, names, plainR, below, noF, isF, lendObs, lendOb, kindOk, ren, givL, updM, backO, renO, belowM, seval, -Int.reduceToNat, B4, D24, bunN, Int.reduceToNat, List.map_nil, List.nil_append] | refine DR_q _ ?_ | (refine Fk.fk ?_ ?_ <;> intro hg <;> (try simp only [hg]) <;> (try simp only [bunB] at hg) <;> try (exfalso; first | omega | exact Bool.noConfusion hg | exact hg trivial)) | refine And.intro (by omega) ?_ | omega
        all_goals trace_state
    · have e : (L == M) = false := by
        rw [beq_eq_false_iff_ne]; intro e; exact hl (by rw [e])
      repeat' first | simp (maxSteps := 4000000) (disch := omega) only [bunL, bunD, bun, ↓WG_true, ↓WG_false, labelOf, findLabel, ↓reduceIte, imp, shift, killO, hasId, unown, names, plainR, below, noF, isF, lendObs, lendOb, kindOk, ren, givL, updM, backO, renO, belowM, seval, -Int.reduceToNat, e, B4, D24, bunN, Int.reduceToNat, List.map_nil, List.nil_append] | refine DR_q _ ?_ | (refine Fk.fk ?_ ?_ <;> intro hg <;> (try simp only [hg]) <;> (try simp only [bunB] at hg) <;> try (exfalso; first | omega | exact Bool.noConfusion hg | exact hg trivial)) | refine And.intro (by omega) ?_ | omega
      all_goals trace_state
  · have e0 : (c == d) = false := by simpa using hc
    rw [e0, Bool.false_and]
    repeat' first | simp (maxSteps := 4000000) (disch := omega) only [bunL, bunD, bun, ↓WG_true, ↓WG_false, labelOf, findLabel, ↓reduceIte, imp, shift, killO, hasId, unown, names, plainR, below, noF, isF, lendObs, lendOb, kindOk, ren, givL, updM, backO, renO, belowM, seval, -Int.reduceToNat, B4, D24, bunN, Int.reduceToNat, List.map_nil, List.nil_append] | refine DR_q _ ?_ | (refine Fk.fk ?_ ?_ <;> intro hg <;> (try simp only [hg]) <;> (try simp only [bunB] at hg) <;> try (exfalso; first | omega | exact Bool.noConfusion hg | exact hg trivial)) | refine And.intro (by omega) ?_ | omega
    all_goals trace_state
end Go.AE
end
section
/- Replies: few; open; printed; read. -/
namespace Go.AE
open Go.Proofs
set_option maxRecDepth 20000
set_option maxHeartbeats 8000000
set_option linter.unusedSimpArgs false
def fewB (L : List (List UInt8)) : Bool := L.all (fun s => decide (s.length ≤ 600)) && decide (L.length ≤ 60)
theorem few_no {L : List (List UInt8)} {k : Nat} (hk : k < L.length) (h : 600 < (L.getD k []).length) : fewB L = false := by
  have e : L.all (fun s => decide (s.length ≤ 600)) = false := by
    rw [List.all_eq_false]
    exact ⟨L.getD k [], by simp [List.getD, hk], by rw [decide_eq_true_eq]; omega⟩
  unfold fewB; rw [e, Bool.false_and]
theorem few_yes {L : List (List UInt8)} (ha : ∀ j, j < L.length → (L.getD j []).length ≤ 600) : fewB L = decide (L.length ≤ 60) := by
  have e : L.all (fun s => decide (s.length ≤ 600)) = true := by
    rw [List.all_eq_true]
    intro c hc
    obtain ⟨j, hj, e⟩ := List.getElem_of_mem hc
    have := ha j hj
    rw [show L.getD j [] = c by simp [List.getD, hj, e]] at this
    simpa using this
  unfold fewB; rw [e, Bool.true_and]
theorem few_len {L : List (List UInt8)} (h : fewB L = true) : L.length ≤ 60 ∧ ∀ s ∈ L, s.length ≤ 600 := by
  unfold fewB at h
  simp only [Bool.and_eq_true, List.all_eq_true, decide_eq_true_eq] at h
  exact ⟨h.2, h.1⟩
theorem few_spec (L : List (List UInt8)) (hs : ∀ s ∈ L, s.length ≤ 9223372036854775807) (hn : L.length ≤ 9223372036854775807) : Spec Tryd.prog 7 [.sl L.length (L.map Sv)] (Bv (fewB L)) := by
  refine spec_mk (z := false) (ts := [.tmp 2]) ok1 Tryd.func7 rfl rfl (by decide +kernel) (by simp [Tryd.ntmps7]) rfl ?_
  repeat' first | simp (maxSteps := 4000000) (disch := omega) only [bunL, bunD, bun, ↓WG_true, ↓WG_false, labelOf, findLabel, ↓reduceIte, imp, shift, killO, hasId, unown, names, plainR, below, noF, isF, lendObs, lendOb, kindOk, ren, givL, updM, backO, renO, belowM, seval, -Int.reduceToNat, B3, B4, B9, B22, bunN, Int.reduceToNat, List.map_nil, List.nil_append] | refine DR_q _ ?_ | (refine Fk.fk ?_ ?_ <;> intro hg <;> (try simp only [hg]) <;> (try simp only [bunB] at hg) <;> try (exfalso; first | omega | exact Bool.noConfusion hg | exact hg trivial)) | refine And.intro (by omega) ?_ | omega
  refine LP_intro (fun k : Nat => ⟨[(0, .sl L.length (L.map Sv)), (3, I64 k)], []⟩) (fun k => k ≤ L.length ∧ ∀ j, j < k → (L.getD j []).length ≤ 600) (fun k => L.length - k) 0 (by simp) (by simp [wk, wkT, wkM, noF, isF, get, belowT, belowM, below, belows, I64, I32, Bv, U8, Sv] <;> try omega) ?_
  rintro k ⟨hk, ha⟩
  by_cases hlt : k < L.length
  · have hl : (L.getD k []).length ≤ 9223372036854775807 := hs _ (by simp [List.getD, hlt])
    by_cases h6 : 600 < (L.getD k []).length
    · have e := few_no hlt h6
      repeat' first | simp (maxSteps := 4000000) (disch := omega) only [bunL, bunD, bun, ↓WG_true, ↓WG_false, labelOf, findLabel, ↓reduceIte, imp, shift, killO, hasId, unown, names, plainR, below, noF, isF, lendObs, lendOb, kindOk, ren, givL, updM, backO, renO, belowM, seval, -Int.reduceToNat, e, B3, B4, B9, B22, bunN, Int.reduceToNat, List.map_nil, List.nil_append] | refine DR_q _ ?_ | (refine Fk.fk ?_ ?_ <;> intro hg <;> (try simp only [hg]) <;> (try simp only [bunB] at hg) <;> try (exfalso; first | omega | exact Bool.noConfusion hg | exact hg trivial)) | refine And.intro (by omega) ?_ | omega
      all_goals trace_state
    · repeat' first | simp (maxSteps := 4000000) (disch := omega) only [bunL, bunD, bun, ↓WG_true, ↓WG_false, labelOf, findLabel, ↓reduceIte, imp, shift, killO, hasId, unown, names, plainR, below, noF, isF, lendObs, lendOb, kindOk, ren, givL, updM, backO, renO, belowM, seval, -Int.reduceToNat, B3, B4, B9, B22, bunN, Int.reduceToNat, List.map_nil, List.nil_append] | refine DR_q _ ?_ | (refine Fk.fk ?_ ?_ <;> intro hg <;> (try simp only [hg]) <;> (try simp only [bunB] at hg) <;> try (exfalso; first | omega | exact Bool.noConfusion hg | exact hg trivial)) | refine And.intro (by omega) ?_ | omega
      refine ⟨k + 1, ⟨by omega, fun j hj => ?_⟩, by omega, (by simp [wk, wkT, wkM, noF, isF, get, belowT, belowM, below, belows, I64, I32, Bv, U8, Sv] <;> try omega)⟩
      by_cases hj2 : j = k
      · subst hj2; omega
      · exact ha j (by omega)
  · have e := few_yes (L := L) fun j hj => ha j (by omega)
    have e2 : decide (L.length ≤ 60) = decide ((L.length : Int) ≤ 60) := by rw [Bool.eq_iff_iff]; simp only [decide_eq_true_eq]; omega
    rw [e, e2]
    repeat' first | simp (maxSteps := 4000000) (disch := omega) only [bunL, bunD, bun, ↓WG_true, ↓WG_false, labelOf, findLabel, ↓reduceIte, imp, shift, killO, hasId, unown, names, plainR, below, noF, isF, lendObs, lendOb, kindOk, ren, givL, updM, backO, renO, belowM, seval, -Int.reduceToNat, B3, B4, B9, B22, bunN, Int.reduceToNat, List.map_nil, List.nil_append] | refine DR_q _ ?_ | (refine Fk.fk ?_ ?_ <;> intro hg <;> (try simp only [hg]) <;> (try simp only [bunB] at hg) <;> try (exfalso; first | omega | exact Bool.noConfusion hg | exact hg trivial)) | refine And.intro (by omega) ?_ | omega
    all_goals trace_state
theorem lopen_spec (c : Int) (L : List AV) (n : Nat) (hn : n ≤ 1000000) : Spec Tryd.prog 22 [.cp [I64 c, .sl n L]] (Bv (decide (0 < n))) := by
  refine spec_mk (z := false) (ts := [.tmp 2]) ok1 Tryd.func22 rfl rfl (by decide +kernel) (by simp [Tryd.ntmps22]) rfl ?_
  have e : decide (0 < n) = decide ((n : Int) > 0) := by rw [Bool.eq_iff_iff]; simp only [decide_eq_true_eq]; omega
  rw [e]
  repeat' first | simp (maxSteps := 4000000) (disch := omega) only [bunL, bunD, bun, ↓WG_true, ↓WG_false, labelOf, findLabel, ↓reduceIte, imp, shift, killO, hasId, unown, names, plainR, below, noF, isF, lendObs, lendOb, kindOk, ren, givL, updM, backO, renO, belowM, seval, -Int.reduceToNat, B4, D55, bunN, Int.reduceToNat, List.map_nil, List.nil_append] | refine DR_q _ ?_ | (refine Fk.fk ?_ ?_ <;> intro hg <;> (try simp only [hg]) <;> (try simp only [bunB] at hg) <;> try (exfalso; first | omega | exact Bool.noConfusion hg | exact hg trivial)) | refine And.intro (by omega) ?_ | omega
  all_goals trace_state
theorem lopenN_spec (c : Int) : Spec Tryd.prog 22 [.cp [I64 c, .v (.slice none 0 0)]] (Bv false) := by
  refine spec_mk (z := false) (ts := [.tmp 2]) ok1 Tryd.func22 rfl rfl (by decide +kernel) (by simp [Tryd.ntmps22]) rfl ?_
  repeat' first | simp (maxSteps := 4000000) (disch := omega) only [bunL, bunD, bun, ↓WG_true, ↓WG_false, labelOf, findLabel, ↓reduceIte, imp, shift, killO, hasId, unown, names, plainR, below, noF, isF, lendObs, lendOb, kindOk, ren, givL, updM, backO, renO, belowM, seval, -Int.reduceToNat, B4, D55, bunN, Int.reduceToNat, List.map_nil, List.nil_append] | refine DR_q _ ?_ | (refine Fk.fk ?_ ?_ <;> intro hg <;> (try simp only [hg]) <;> (try simp only [bunB] at hg) <;> try (exfalso; first | omega | exact Bool.noConfusion hg | exact hg trivial)) | refine And.intro (by omega) ?_ | omega
  all_goals trace_state
theorem open_spec (c : Int) (L : List AV) (n : Nat) (hn : n ≤ 1000000) : Spec Tryd.prog 11 [.cp [I64 c, .sl n L]] (Bv (decide (0 < n))) := by
  have h := lopen_spec c L n hn
  refine spec_mk (z := false) (ts := [.tmp 2]) ok1 Tryd.func11 rfl rfl (by decide +kernel) (by simp [Tryd.ntmps11]) rfl ?_
  repeat' first | refine WE_fit (h) ?_ ?_ | simp (maxSteps := 4000000) (disch := omega) only [bunL, bunD, bun, ↓WG_true, ↓WG_false, labelOf, findLabel, ↓reduceIte, imp, shift, killO, hasId, unown, names, plainR, below, noF, isF, lendObs, lendOb, kindOk, ren, givL, updM, backO, renO, belowM, seval, -Int.reduceToNat, B4, D46, bunN, Int.reduceToNat, List.map_nil, List.nil_append] | exact NK_no _ | refine NK_cl _ _ ?_ | exact Cln.cl | refine clean_tup _ ?_ | refine cleans_cons _ _ ?_ ?_ | refine DR_q _ ?_ | (refine Fk.fk ?_ ?_ <;> intro hg <;> (try simp only [hg]) <;> (try simp only [bunB] at hg) <;> try (exfalso; first | omega | exact Bool.noConfusion hg | exact hg trivial)) | refine And.intro (by omega) ?_ | omega
  all_goals trace_state
theorem openN_spec (c : Int) : Spec Tryd.prog 11 [.cp [I64 c, .v (.slice none 0 0)]] (Bv false) := by
  have h := lopenN_spec c
  refine spec_mk (z := false) (ts := [.tmp 2]) ok1 Tryd.func11 rfl rfl (by decide +kernel) (by simp [Tryd.ntmps11]) rfl ?_
  repeat' first | refine WE_fit (h) ?_ ?_ | simp (maxSteps := 4000000) (disch := omega) only [bunL, bunD, bun, ↓WG_true, ↓WG_false, labelOf, findLabel, ↓reduceIte, imp, shift, killO, hasId, unown, names, plainR, below, noF, isF, lendObs, lendOb, kindOk, ren, givL, updM, backO, renO, belowM, seval, -Int.reduceToNat, B4, D46, bunN, Int.reduceToNat, List.map_nil, List.nil_append] | exact NK_no _ | refine NK_cl _ _ ?_ | exact Cln.cl | refine clean_tup _ ?_ | refine cleans_cons _ _ ?_ ?_ | refine DR_q _ ?_ | (refine Fk.fk ?_ ?_ <;> intro hg <;> (try simp only [hg]) <;> (try simp only [bunB] at hg) <;> try (exfalso; first | omega | exact Bool.noConfusion hg | exact hg trivial)) | refine And.intro (by omega) ?_ | omega
  all_goals trace_state
/-- A line of a reply, printed. -/
def prK (c : Int) (n k : Nat) (s : List UInt8) : List UInt8 := Lib.itoa c ++ [if k + 1 = n then 32 else 45] ++ s
def prF (c : Int) (L : List (List UInt8)) (k : Nat) : List (List UInt8) := (List.range k).map fun j => prK c L.length j (L.getD j [])
theorem prF_succ (c : Int) (L : List (List UInt8)) (k : Nat) : prF c L (k + 1) = prF c L k ++ [prK c L.length k (L.getD k [])] := by
  unfold prF; rw [List.range_succ, List.map_append]; rfl
theorem prF_len (c : Int) (L : List (List UInt8)) (k : Nat) : (prF c L k).length = k := by simp [prF]
theorem digits3 : ∀ n : Nat, n < 600 → 200 ≤ n → Lib.decDigits n = [UInt8.ofNat (48 + n / 100), UInt8.ofNat (48 + n / 10 % 10), UInt8.ofNat (48 + n % 10)] := fun n h1 h2 => by
  rw [Lib.decDigits, dif_neg (by omega), Lib.decDigits, dif_neg (by omega), Lib.decDigits, dif_pos (by omega)]
  have e : n / 10 / 10 = n / 100 := by omega
  rw [e]; rfl
theorem itoa3 {c : Int} (h1 : c < 600) (h2 : 200 ≤ c) : Lib.itoa c = [UInt8.ofNat (48 + c.toNat / 100), UInt8.ofNat (48 + c.toNat / 10 % 10), UInt8.ofNat (48 + c.toNat % 10)] := by
  unfold Lib.itoa
  rw [if_neg (by omega)]
  exact digits3 _ (by omega) (by omega)
theorem print_spec (c : Int) (L : List (List UInt8)) (hn : L.length ≤ 60) (hL : ∀ s ∈ L, s.length ≤ 600) (hr : rightB c L = true) (h1 : c < 600) (h2 : 200 ≤ c) :
    Spec Tryd.prog 9 [.ag [I64 c, .sl L.length (L.map Sv)]] (.own 9 1 L.length ((prF c L L.length).map Sv)) := by
  have hr1 := right_spec c L (by omega) (fun s hs => by have := hL s hs; omega)
  rw [hr] at hr1
  have hi := itoa_spec c (by omega) (by omega)
  have il : (Lib.itoa c).length = 3 := by rw [itoa3 h1 h2]; rfl
  refine spec_mk (z := false) (ts := [.tmp 2]) ok1 Tryd.func9 rfl rfl (by decide +kernel) (by simp [Tryd.ntmps9]) rfl ?_
  repeat' first | refine WE_fit (hr1) ?_ ?_ | refine WE_fit (hi) ?_ ?_ | simp (maxSteps := 4000000) (disch := omega) only [bunL, bunD, bun, ↓WG_true, ↓WG_false, labelOf, findLabel, ↓reduceIte, imp, shift, killO, hasId, unown, names, plainR, below, noF, isF, lendObs, lendOb, kindOk, ren, givL, updM, backO, renO, belowM, seval, -Int.reduceToNat, B4, D24, bunN, Int.reduceToNat, List.map_nil, List.nil_append] | exact NK_no _ | refine NK_cl _ _ ?_ | exact Cln.cl | refine clean_tup _ ?_ | refine cleans_cons _ _ ?_ ?_ | refine DR_q _ ?_ | (refine Fk.fk ?_ ?_ <;> intro hg <;> (try simp only [hg]) <;> (try simp only [bunB] at hg) <;> try (exfalso; first | omega | exact Bool.noConfusion hg | exact hg trivial)) | refine And.intro (by omega) ?_ | omega
  refine LP_intro (fun k : Nat => ⟨[(1, .ptr 0 0), (3, .ref 2 0 k), (4, Sv (Lib.itoa c)), (15, .sl L.length (L.map Sv)), (16, I64 L.length), (17, I64 k)], [.row true 1 [I64 c, .sl L.length (L.map Sv)], .dead, .arr 9 1 ((prF c L k).map Sv)]⟩) (fun k => k ≤ L.length) (fun k => L.length - k) 0 (by simp) (by (simp (disch := omega) [wk, wkT, wkM, noF, isF, get, belowT, belowM, below, belows, I64, I32, Bv, U8, Sv, prF] <;> try omega)) ?_
  intro k hk
  have hpl := prF_len c L k
  by_cases hlt : k < L.length
  · have hk6 : (L.getD k []).length ≤ 600 := hL _ (by simp [List.getD, hlt])
    by_cases he : k + 1 = L.length
    · have e1 : prK c L.length k (L.getD k []) = Lib.itoa c ++ [32] ++ L.getD k [] := by unfold prK; rw [if_pos he]
      have e2 : ((L.length : Int) - 1) = k := by omega
      repeat' first | simp (maxSteps := 4000000) (disch := omega) only [bunL, bunD, bun, ↓WG_true, ↓WG_false, labelOf, findLabel, ↓reduceIte, imp, shift, killO, hasId, unown, names, plainR, below, noF, isF, lendObs, lendOb, kindOk, ren, givL, updM, backO, renO, belowM, seval, -Int.reduceToNat, hpl, e2, B4, D24, bunN, Int.reduceToNat, List.map_nil, List.nil_append] | refine DR_q _ ?_ | (refine Fk.fk ?_ ?_ <;> intro hg <;> (try simp only [hg]) <;> (try simp only [bunB] at hg) <;> try (exfalso; first | omega | exact Bool.noConfusion hg | exact hg trivial)) | refine And.intro (by omega) ?_ | omega
      refine ⟨k + 1, by omega, by omega, ?_⟩
      rw [prF_succ, e1]
      (simp (disch := omega) [wk, wkT, wkM, noF, isF, get, belowT, belowM, below, belows, I64, I32, Bv, U8, Sv, List.map_append] <;> try omega)
    · have e1 : prK c L.length k (L.getD k []) = Lib.itoa c ++ [45] ++ L.getD k [] := by unfold prK; rw [if_neg he]
      repeat' first | simp (maxSteps := 4000000) (disch := omega) only [bunL, bunD, bun, ↓WG_true, ↓WG_false, labelOf, findLabel, ↓reduceIte, imp, shift, killO, hasId, unown, names, plainR, below, noF, isF, lendObs, lendOb, kindOk, ren, givL, updM, backO, renO, belowM, seval, -Int.reduceToNat, hpl, B4, D24, bunN, Int.reduceToNat, List.map_nil, List.nil_append] | refine DR_q _ ?_ | (refine Fk.fk ?_ ?_ <;> intro hg <;> (try simp only [hg]) <;> (try simp only [bunB] at hg) <;> try (exfalso; first | omega | exact Bool.noConfusion hg | exact hg trivial)) | refine And.intro (by omega) ?_ | omega
      refine ⟨k + 1, by omega, by omega, ?_⟩
      rw [prF_succ, e1]
      (simp (disch := omega) [wk, wkT, wkM, noF, isF, get, belowT, belowM, below, belows, I64, I32, Bv, U8, Sv, List.map_append] <;> try omega)
  · have e : k = L.length := by omega
    subst e
    repeat' first | simp (maxSteps := 4000000) (disch := omega) only [bunL, bunD, bun, ↓WG_true, ↓WG_false, labelOf, findLabel, ↓reduceIte, imp, shift, killO, hasId, unown, names, plainR, below, noF, isF, lendObs, lendOb, kindOk, ren, givL, updM, backO, renO, belowM, seval, -Int.reduceToNat, hpl, B4, D24, bunN, Int.reduceToNat, List.map_nil, List.nil_append] | refine DR_q _ ?_ | (refine Fk.fk ?_ ?_ <;> intro hg <;> (try simp only [hg]) <;> (try simp only [bunB] at hg) <;> try (exfalso; first | omega | exact Bool.noConfusion hg | exact hg trivial)) | refine And.intro (by omega) ?_ | omega
    all_goals trace_state
end Go.AE
end
section
/- Replies: a line is read. -/
namespace Go.AE
open Go.Proofs
set_option maxRecDepth 20000
set_option maxHeartbeats 8000000
set_option linter.unusedSimpArgs false
def dgB (c : UInt8) : Bool := decide (48 ≤ c.toNat) && decide (c.toNat ≤ 57)
def dgs (s : List UInt8) : Bool := decide (3 ≤ s.length) && (dgB (s.getD 0 0) && (dgB (s.getD 1 0) && dgB (s.getD 2 0)))
def codk (s : List UInt8) : Nat → Int
  | 0 => 0
  | k + 1 => 10 * codk s k + (((s.getD k 0).toNat : Int) - 48)
def rdS (s : List UInt8) : Bool := decide (s.length = 3) || (s.getD 3 0 == 45 || s.getD 3 0 == 32)
def rdM (s : List UInt8) : Bool := decide (3 < s.length) && s.getD 3 0 == 45
def rdG (s : List UInt8) : Bool := dgs s && rdS s
theorem dgs_no {s : List UInt8} {k : Nat} (hk : k < 3) (h : dgB (s.getD k 0) = false) : dgs s = false := by
  unfold dgs
  have : k = 0 ∨ k = 1 ∨ k = 2 := by omega
  rcases this with rfl | rfl | rfl <;> rw [h] <;> simp
theorem codk_bound {s : List UInt8} (ha : ∀ j, j < 3 → dgB (s.getD j 0) = true) : 0 ≤ codk s 3 ∧ codk s 3 ≤ 999 := by
  have h0 := ha 0 (by omega)
  have h1 := ha 1 (by omega)
  have h2 := ha 2 (by omega)
  simp only [dgB, Bool.and_eq_true, decide_eq_true_eq] at h0 h1 h2
  simp only [codk]
  omega
theorem codk_ge {s : List UInt8} {k : Nat} (ha : ∀ j, j < k → dgB (s.getD j 0) = true) (hk : k ≤ 3) : 0 ≤ codk s k ∧ codk s k ≤ 999 := by
  have : k = 0 ∨ k = 1 ∨ k = 2 ∨ k = 3 := by omega
  have hd : ∀ j, j < k → 48 ≤ (s.getD j 0).toNat ∧ (s.getD j 0).toNat ≤ 57 := fun j hj => by
    have := ha j hj
    simpa only [dgB, Bool.and_eq_true, decide_eq_true_eq] using this
  rcases this with rfl | rfl | rfl | rfl
  · simp [codk]
  · have h0 := hd 0 (by omega)
    simp only [codk]; omega
  · have h0 := hd 0 (by omega)
    have h1 := hd 1 (by omega)
    simp only [codk]; omega
  · exact codk_bound ha
def failR : AV := .tup [I64 0, Bv false, Sv [], Bv false]
theorem u8_eq {c : UInt8} {n : Nat} (hn : n < 256) : (c == UInt8.ofNat n) = decide (c.toNat = n) := by
  rw [Bool.eq_iff_iff]
  simp only [beq_iff_eq, decide_eq_true_eq]
  constructor
  · rintro rfl; simp [Nat.mod_eq_of_lt hn]
  · intro h; exact UInt8.toNat.inj (by rw [h]; simp [Nat.mod_eq_of_lt hn])
theorem preDash (s : List UInt8) : Lib.hasPrefix (s.drop 3) [45] = rdM s := by
  unfold Lib.hasPrefix rdM
  by_cases h : 3 < s.length
  · have e : s.drop 3 = s.getD 3 0 :: s.drop 4 := by
      rw [List.drop_eq_getElem_cons h]; simp [List.getD, h]
    rw [e]
    rw [decide_eq_true h, Bool.true_and]
    show (45 == s.getD 3 0 && true) = _
    rw [Bool.and_true, Bool.eq_iff_iff, beq_iff_eq, beq_iff_eq]
    exact eq_comm
  · have e : s.drop 3 = [] := List.drop_eq_nil_iff.2 (by omega)
    rw [e]
    simp [h]
theorem read_short (s : List UInt8) (h : s.length < 3) : Spec Tryd.prog 21 [Sv s] failR := by
  refine spec_mk (z := false) (ts := [.tmp 2, .tmp 3, .tmp 4, .tmp 5]) ok1 Tryd.func21 rfl rfl (by decide +kernel) (by simp [Tryd.ntmps21]) rfl ?_
  unfold failR
  repeat' first | simp (maxSteps := 4000000) (disch := omega) only [bunL, bunD, bun, ↓WG_true, ↓WG_false, labelOf, findLabel, ↓reduceIte, imp, shift, killO, hasId, unown, names, plainR, below, noF, isF, lendObs, lendOb, kindOk, ren, givL, updM, backO, renO, belowM, seval, -Int.reduceToNat, B3, B4, B5, B9, B21, B43, bunN, Int.reduceToNat, List.map_nil, List.nil_append] | refine DR_q _ ?_ | (refine Fk.fk ?_ ?_ <;> intro hg <;> (try simp only [hg]) <;> (try simp only [bunB] at hg) <;> try (exfalso; first | omega | exact Bool.noConfusion hg | exact hg trivial)) | refine And.intro (by omega) ?_ | omega
  all_goals trace_state
theorem read_spec (s : List UInt8) (hs : s.length ≤ 1000000) : Spec Tryd.prog 21 [Sv s] (.tup [I64 (if rdG s then codk s 3 else 0), Bv (rdG s && rdM s), Sv (if rdG s then s.drop 4 else []), Bv (rdG s && (codB (codk s 3) && !(s.drop 4).any sgB))]) := by
  by_cases h3 : s.length < 3
  · have e : rdG s = false := by
      unfold rdG dgs
      rw [decide_eq_false (by omega)]; rfl
    rw [e]
    exact read_short s h3
  · have ht3 : (s.take 3).length = 3 := by simp; omega
    have ht : ∀ j, j < 3 → (s.take 3).getD j 0 = s.getD j 0 := fun j hj => by simp [List.getD, List.getElem?_take, hj]
    have hp := hasPre_spec (s.drop 3) [45]
    rw [preDash] at hp
    refine spec_mk (z := false) (ts := [.tmp 2, .tmp 3, .tmp 4, .tmp 5]) ok1 Tryd.func21 rfl rfl (by decide +kernel) (by simp [Tryd.ntmps21]) rfl ?_
    repeat' first | refine WE_fit (hp) ?_ ?_ | simp (maxSteps := 4000000) (disch := omega) only [bunL, bunD, bun, ↓WG_true, ↓WG_false, labelOf, findLabel, ↓reduceIte, imp, shift, killO, hasId, unown, names, plainR, below, noF, isF, lendObs, lendOb, kindOk, ren, givL, updM, backO, renO, belowM, seval, -Int.reduceToNat, B3, B4, B5, B9, B21, B43, bunN, Int.reduceToNat, List.map_nil, List.nil_append] | exact NK_no _ | refine NK_cl _ _ ?_ | exact Cln.cl | refine clean_tup _ ?_ | refine cleans_cons _ _ ?_ ?_ | refine DR_q _ ?_ | (refine Fk.fk ?_ ?_ <;> intro hg <;> (try simp only [hg]) <;> (try simp only [bunB] at hg) <;> try (exfalso; first | omega | exact Bool.noConfusion hg | exact hg trivial)) | refine And.intro (by omega) ?_ | omega
    refine LP_intro (fun k : Nat => ⟨[(0, Sv s), (2, I64 (codk s k)), (13, .ptr 0 0)], [.it (s.take 3) k]⟩) (fun k => k ≤ 3 ∧ ∀ j, j < k → dgB (s.getD j 0) = true) (fun k => 3 - k) 0 (by simp) (by (simp (disch := omega) [wk, wkT, wkM, noF, isF, get, belowT, belowM, below, belows, I64, I32, Bv, U8, Sv, codk] <;> try omega)) ?_
    rintro k ⟨hk, ha⟩
    obtain ⟨c0, c1⟩ := codk_ge ha hk
    by_cases hlt : k < 3
    · obtain ⟨d1, d2, d3, d4⟩ := dec_step (s.take 3) k (by omega)
      rw [ht k hlt] at d3 d4
      have fail : dgB (s.getD k 0) = false → rdG s = false := fun h => by unfold rdG; rw [dgs_no hlt h]; rfl
      by_cases hb : 128 ≤ (s.getD k 0).toNat
      · obtain ⟨e1, e2⟩ := d4 hb
        have er := fail (by unfold dgB; rw [Bool.and_eq_false_iff]; right; exact decide_eq_false (by omega))
        repeat' first | simp (maxSteps := 4000000) (disch := omega) only [bunL, bunD, bun, ↓WG_true, ↓WG_false, labelOf, findLabel, ↓reduceIte, imp, shift, killO, hasId, unown, names, plainR, below, noF, isF, lendObs, lendOb, kindOk, ren, givL, updM, backO, renO, belowM, seval, -Int.reduceToNat, er, ht3, B3, B4, B5, B9, B21, B43, bunN, Int.reduceToNat, List.map_nil, List.nil_append] | refine DR_q _ ?_ | (refine Fk.fk ?_ ?_ <;> intro hg <;> (try simp only [hg]) <;> (try simp only [bunB] at hg) <;> try (exfalso; first | omega | exact Bool.noConfusion hg | exact hg trivial)) | refine And.intro (by omega) ?_ | omega
        all_goals first | omega | trace_state
      · have e := d3 (by omega)
        rw [e] at d1 d2
        by_cases h1 : (s.getD k 0).toNat < 48
        · have er := fail (by unfold dgB; rw [Bool.and_eq_false_iff]; left; exact decide_eq_false (by omega))
          repeat' first | simp (maxSteps := 4000000) (disch := omega) only [bunL, bunD, bun, ↓WG_true, ↓WG_false, labelOf, findLabel, ↓reduceIte, imp, shift, killO, hasId, unown, names, plainR, below, noF, isF, lendObs, lendOb, kindOk, ren, givL, updM, backO, renO, belowM, seval, -Int.reduceToNat, er, e, ht3, B3, B4, B5, B9, B21, B43, bunN, Int.reduceToNat, List.map_nil, List.nil_append] | refine DR_q _ ?_ | (refine Fk.fk ?_ ?_ <;> intro hg <;> (try simp only [hg]) <;> (try simp only [bunB] at hg) <;> try (exfalso; first | omega | exact Bool.noConfusion hg | exact hg trivial)) | refine And.intro (by omega) ?_ | omega
          all_goals first | omega | trace_state
        · by_cases h2 : 57 < (s.getD k 0).toNat
          · have er := fail (by unfold dgB; rw [Bool.and_eq_false_iff]; right; exact decide_eq_false (by omega))
            repeat' first | simp (maxSteps := 4000000) (disch := omega) only [bunL, bunD, bun, ↓WG_true, ↓WG_false, labelOf, findLabel, ↓reduceIte, imp, shift, killO, hasId, unown, names, plainR, below, noF, isF, lendObs, lendOb, kindOk, ren, givL, updM, backO, renO, belowM, seval, -Int.reduceToNat, er, e, ht3, B3, B4, B5, B9, B21, B43, bunN, Int.reduceToNat, List.map_nil, List.nil_append] | refine DR_q _ ?_ | (refine Fk.fk ?_ ?_ <;> intro hg <;> (try simp only [hg]) <;> (try simp only [bunB] at hg) <;> try (exfalso; first | omega | exact Bool.noConfusion hg | exact hg trivial)) | refine And.intro (by omega) ?_ | omega
            all_goals first | omega | trace_state
          · have hd : dgB (s.getD k 0) = true := by unfold dgB; rw [decide_eq_true (by omega), decide_eq_true (by omega)]; rfl
            repeat' first | simp (maxSteps := 4000000) (disch := omega) only [bunL, bunD, bun, ↓WG_true, ↓WG_false, labelOf, findLabel, ↓reduceIte, imp, shift, killO, hasId, unown, names, plainR, below, noF, isF, lendObs, lendOb, kindOk, ren, givL, updM, backO, renO, belowM, seval, -Int.reduceToNat, e, ht3, B3, B4, B5, B9, B21, B43, bunN, Int.reduceToNat, List.map_nil, List.nil_append] | refine DR_q _ ?_ | (refine Fk.fk ?_ ?_ <;> intro hg <;> (try simp only [hg]) <;> (try simp only [bunB] at hg) <;> try (exfalso; first | omega | exact Bool.noConfusion hg | exact hg trivial)) | refine And.intro (by omega) ?_ | omega
            refine ⟨k + 1, ⟨by omega, fun j hj => ?_⟩, by omega, ?_⟩
            · by_cases hj2 : j = k
              · subst hj2; exact hd
              · exact ha j (by omega)
            · (simp (disch := omega) [wk, wkT, wkM, noF, isF, get, belowT, belowM, below, belows, I64, I32, Bv, U8, Sv, codk] <;> try omega)
    · have e3 : k = 3 := by omega
      subst e3
      have hd : dgs s = true := by
        unfold dgs
        rw [decide_eq_true (by omega), ha 0 (by omega), ha 1 (by omega), ha 2 (by omega)]; rfl
      have hg : rdG s = rdS s := by unfold rdG; rw [hd, Bool.true_and]
      rw [hg]
      have hc := coded_spec (codk s 3)
      by_cases hl : s.length = 3
      · have e : rdS s = true := by unfold rdS; rw [decide_eq_true hl]; rfl
        have e0 : s.drop 3 = [] := List.drop_eq_nil_iff.2 (by omega)
        have e4 : s.drop 4 = [] := List.drop_eq_nil_iff.2 (by omega)
        have em : rdM s = false := by unfold rdM; rw [decide_eq_false (by omega)]; rfl
        have hq := conS_spec [] (by simp)
        rw [e, e4]
        rw [e0, em] at hp
        rw [em]
        cases hcb : codB (codk s 3) <;> rw [hcb] at hc
        all_goals
          repeat' first | refine WE_fit (hp) ?_ ?_ | refine WE_fit (hc) ?_ ?_ | refine WE_fit (hq) ?_ ?_ | simp (maxSteps := 4000000) (disch := omega) only [bunL, bunD, bun, ↓WG_true, ↓WG_false, labelOf, findLabel, ↓reduceIte, imp, shift, killO, hasId, unown, names, plainR, below, noF, isF, lendObs, lendOb, kindOk, ren, givL, updM, backO, renO, belowM, seval, -Int.reduceToNat, ht3, e0, B3, B4, B5, B9, B21, B43, bunN, Int.reduceToNat, List.map_nil, List.nil_append] | exact NK_no _ | refine NK_cl _ _ ?_ | exact Cln.cl | refine clean_tup _ ?_ | refine cleans_cons _ _ ?_ ?_ | refine DR_q _ ?_ | (refine Fk.fk ?_ ?_ <;> intro hg <;> (try simp only [hg]) <;> (try simp only [bunB] at hg) <;> try (exfalso; first | omega | exact Bool.noConfusion hg | exact hg trivial)) | refine And.intro (by omega) ?_ | omega
          all_goals first | omega | trace_state
      · have hl3 : 3 < s.length := by omega
        have e0 : s.drop 3 = s.getD 3 0 :: s.drop 4 := by
          rw [List.drop_eq_getElem_cons hl3]; simp [List.getD, hl3]
        have hq := conS_spec (s.drop 4) (by simp; omega)
        have hmn : ¬ (((s.length - 4 + 1 : Nat) : Int) < 1) := by omega
        have u45 := u8_eq (c := s.getD 3 0) (n := 45) (by omega)
        have u32 := u8_eq (c := s.getD 3 0) (n := 32) (by omega)
        have hd4 : (s.drop 4).length = s.length - 4 := List.length_drop
        have emm : rdM s = decide ((s.getD 3 0).toNat = 45) := by unfold rdM; rw [decide_eq_true hl3, Bool.true_and]; exact u45
        have ess : rdS s = (decide ((s.getD 3 0).toNat = 45) || decide ((s.getD 3 0).toNat = 32)) := by unfold rdS; rw [decide_eq_false hl, Bool.false_or]; exact congr (congrArg or u45) u32
        rw [ess]
        rw [e0] at hp
        rw [emm] at hp ⊢
        by_cases hM : (s.getD 3 0).toNat = 45
        · rw [decide_eq_true hM] at hp ⊢
          cases hcb : codB (codk s 3) <;> rw [hcb] at hc
          all_goals
            repeat' first | refine WE_fit (hp) ?_ ?_ | refine WE_fit (hc) ?_ ?_ | refine WE_fit (hq) ?_ ?_ | simp (maxSteps := 4000000) (disch := omega) only [bunL, bunD, bun, ↓WG_true, ↓WG_false, labelOf, findLabel, ↓reduceIte, imp, shift, killO, hasId, unown, names, plainR, below, noF, isF, lendObs, lendOb, kindOk, ren, givL, updM, backO, renO, belowM, seval, -Int.reduceToNat, ht3, e0, hmn, Int.toNat_one, List.drop_succ_cons, List.drop_zero, List.getD_cons_zero, reduceCtorEq, B3, B4, B5, B9, B21, B43, bunN, Int.reduceToNat, List.map_nil, List.nil_append] | exact NK_no _ | refine NK_cl _ _ ?_ | exact Cln.cl | refine clean_tup _ ?_ | refine cleans_cons _ _ ?_ ?_ | refine DR_q _ ?_ | (refine Fk.fk ?_ ?_ <;> intro hg <;> (try simp only [hg]) <;> (try simp only [bunB] at hg) <;> try (exfalso; first | omega | exact Bool.noConfusion hg | exact hg trivial)) | refine And.intro (by omega) ?_ | omega
            all_goals first | omega | (exfalso; rename_i h1; cases h1; done) | (exfalso; rename_i h1 h2; cases h1; done) | (exfalso; simp only [List.getD_cons_zero] at *; omega) | trace_state
        · rw [decide_eq_false hM] at hp ⊢
          by_cases hS : (s.getD 3 0).toNat = 32
          · rw [decide_eq_true hS]
            cases hcb : codB (codk s 3) <;> rw [hcb] at hc
            all_goals
              repeat' first | refine WE_fit (hp) ?_ ?_ | refine WE_fit (hc) ?_ ?_ | refine WE_fit (hq) ?_ ?_ | simp (maxSteps := 4000000) (disch := omega) only [bunL, bunD, bun, ↓WG_true, ↓WG_false, labelOf, findLabel, ↓reduceIte, imp, shift, killO, hasId, unown, names, plainR, below, noF, isF, lendObs, lendOb, kindOk, ren, givL, updM, backO, renO, belowM, seval, -Int.reduceToNat, ht3, e0, hmn, Int.toNat_one, List.drop_succ_cons, List.drop_zero, List.getD_cons_zero, reduceCtorEq, B3, B4, B5, B9, B21, B43, bunN, Int.reduceToNat, List.map_nil, List.nil_append] | exact NK_no _ | refine NK_cl _ _ ?_ | exact Cln.cl | refine clean_tup _ ?_ | refine cleans_cons _ _ ?_ ?_ | refine DR_q _ ?_ | (refine Fk.fk ?_ ?_ <;> intro hg <;> (try simp only [hg]) <;> (try simp only [bunB] at hg) <;> try (exfalso; first | omega | exact Bool.noConfusion hg | exact hg trivial)) | refine And.intro (by omega) ?_ | omega
              all_goals first | omega | (exfalso; rename_i h1; cases h1; done) | (exfalso; rename_i h1 h2; cases h1; done) | (exfalso; simp only [List.getD_cons_zero] at *; omega) | trace_state
          · rw [decide_eq_false hS]
            repeat' first | refine WE_fit (hp) ?_ ?_ | refine WE_fit (hc) ?_ ?_ | refine WE_fit (hq) ?_ ?_ | simp (maxSteps := 4000000) (disch := omega) only [bunL, bunD, bun, ↓WG_true, ↓WG_false, labelOf, findLabel, ↓reduceIte, imp, shift, killO, hasId, unown, names, plainR, below, noF, isF, lendObs, lendOb, kindOk, ren, givL, updM, backO, renO, belowM, seval, -Int.reduceToNat, ht3, e0, hmn, Int.toNat_one, List.drop_succ_cons, List.drop_zero, List.getD_cons_zero, reduceCtorEq, B3, B4, B5, B9, B21, B43, bunN, Int.reduceToNat, List.map_nil, List.nil_append] | exact NK_no _ | refine NK_cl _ _ ?_ | exact Cln.cl | refine clean_tup _ ?_ | refine cleans_cons _ _ ?_ ?_ | refine DR_q _ ?_ | (refine Fk.fk ?_ ?_ <;> intro hg <;> (try simp only [hg]) <;> (try simp only [bunB] at hg) <;> try (exfalso; first | omega | exact Bool.noConfusion hg | exact hg trivial)) | refine And.intro (by omega) ?_ | omega
            all_goals first | omega | (exfalso; rename_i h1; cases h1; done) | (exfalso; rename_i h1 h2; cases h1; done) | (exfalso; simp only [List.getD_cons_zero] at *; omega) | trace_state
end Go.AE
end
section
/- Replies: Take. -/
namespace Go.AE
open Go.Proofs
set_option maxRecDepth 20000
set_option maxHeartbeats 8000000
set_option linter.unusedSimpArgs false
def rdK (s : List UInt8) : Bool := rdG s && (codB (codk s 3) && !(s.drop 4).any sgB)
def rdMo (s : List UInt8) : Bool := rdG s && rdM s
def nilA : AV := .v (.slice none 0 0)
def zRep : AV := .ag [I64 0, nilA]
theorem rdK_G {s : List UInt8} (h : rdK s = true) : rdG s = true := by
  unfold rdK at h; rw [Bool.and_eq_true] at h; exact h.1
theorem read_no (s : List UInt8) (hs : s.length ≤ 1000000) (h : rdK s = false) : ∃ (c : Int) (m : Bool) (t : List UInt8), Spec Tryd.prog 21 [Sv s] (.tup [I64 c, Bv m, Sv t, Bv false]) := by
  have h1 := read_spec s hs
  have e : (rdG s && (codB (codk s 3) && !(s.drop 4).any sgB)) = false := h
  rw [e] at h1
  exact ⟨_, _, _, h1⟩
theorem read_ok (s : List UInt8) (hs : s.length ≤ 1000000) (h : rdK s = true) : Spec Tryd.prog 21 [Sv s] (.tup [I64 (codk s 3), Bv (rdMo s), Sv (s.drop 4), Bv true]) := by
  have h1 := read_spec s hs
  have e : (rdG s && (codB (codk s 3) && !(s.drop 4).any sgB)) = true := h
  have hg := rdK_G h
  rw [e] at h1
  rw [hg] at h1
  unfold rdMo
  rw [hg]
  simpa only [if_true] using h1
/-- A line that is none, and nothing stood ahead. -/
theorem takeN_no (s : List UInt8) (hs : s.length ≤ 1000000) (h : rdK s = false) : SpecL Tryd.prog 10 [.row true 1 [I64 0, nilA]] [.ptr 0 0, Sv s] [.row true 1 [I64 0, nilA], .fence] (.tup [zRep, Bv false, I64 4]) := by
  obtain ⟨c, m, t, hr⟩ := read_no s hs h
  refine specL_mk (ts := [.cell 4 24, .tmp 5, .tmp 6]) ok1 Tryd.func10 rfl rfl (by decide +kernel) (by simp [Tryd.ntmps10]) rfl ?_
  simp only [zRep, nilA]
  repeat' first | refine WE_fit (hr) ?_ ?_ | simp (maxSteps := 4000000) (disch := omega) only [bunL, bunD, bun, ↓WG_true, ↓WG_false, labelOf, findLabel, ↓reduceIte, imp, shift, killO, hasId, unown, names, plainR, below, noF, isF, lendObs, lendOb, kindOk, ren, givL, updM, backO, renO, belowM, seval, -Int.reduceToNat, B4, B34, D46, bunN, Int.reduceToNat, List.map_nil, List.nil_append] | exact NK_no _ | refine NK_cl _ _ ?_ | exact Cln.cl | refine clean_tup _ ?_ | refine cleans_cons _ _ ?_ ?_ | refine DR_q _ ?_ | (refine Fk.fk ?_ ?_ <;> intro hg <;> (try simp only [hg]) <;> (try simp only [bunB] at hg) <;> try (exfalso; first | omega | exact Bool.noConfusion hg | exact hg trivial)) | refine And.intro (by omega) ?_ | omega
  all_goals trace_state
theorem takeN_more (s : List UInt8) (hs : s.length ≤ 1000000) (h : rdK s = true) (hm : rdMo s = true) : SpecL Tryd.prog 10 [.row true 1 [I64 0, nilA]] [.ptr 0 0, Sv s] [.row true 1 [I64 (codk s 3), .ref 5 0 1], .fence, .dead, .dead, .dead, .arr 9 1 [Sv (s.drop 4)]] (.tup [zRep, Bv false, I64 0]) := by
  have hr := read_ok s hs h
  rw [hm] at hr
  refine specL_mk (ts := [.cell 4 24, .tmp 5, .tmp 6]) ok1 Tryd.func10 rfl rfl (by decide +kernel) (by simp [Tryd.ntmps10]) rfl ?_
  simp only [zRep, nilA]
  repeat' first | refine WE_fit (hr) ?_ ?_ | simp (maxSteps := 4000000) (disch := omega) only [bunL, bunD, bun, ↓WG_true, ↓WG_false, labelOf, findLabel, ↓reduceIte, imp, shift, killO, hasId, unown, names, plainR, below, noF, isF, lendObs, lendOb, kindOk, ren, givL, updM, backO, renO, belowM, seval, -Int.reduceToNat, B4, B34, D46, bunN, Int.reduceToNat, List.map_nil, List.nil_append] | exact NK_no _ | refine NK_cl _ _ ?_ | exact Cln.cl | refine clean_tup _ ?_ | refine cleans_cons _ _ ?_ ?_ | refine DR_q _ ?_ | (refine Fk.fk ?_ ?_ <;> intro hg <;> (try simp only [hg]) <;> (try simp only [bunB] at hg) <;> try (exfalso; first | omega | exact Bool.noConfusion hg | exact hg trivial)) | refine And.intro (by omega) ?_ | omega
  all_goals trace_state
theorem takeN_done (s : List UInt8) (hs : s.length ≤ 1000000) (h : rdK s = true) (hm : rdMo s = false) : SpecL Tryd.prog 10 [.row true 1 [I64 0, nilA]] [.ptr 0 0, Sv s] [.row true 1 [I64 0, nilA], .fence, .dead, .dead, .dead, .arr 9 1 [Sv (s.drop 4)]] (.tup [.ag [I64 (codk s 3), .ref 5 0 1], Bv true, I64 0]) := by
  have hr := read_ok s hs h
  rw [hm] at hr
  refine specL_mk (ts := [.cell 4 24, .tmp 5, .tmp 6]) ok1 Tryd.func10 rfl rfl (by decide +kernel) (by simp [Tryd.ntmps10]) rfl ?_
  unfold nilA
  repeat' first | refine WE_fit (hr) ?_ ?_ | simp (maxSteps := 4000000) (disch := omega) only [bunL, bunD, bun, ↓WG_true, ↓WG_false, labelOf, findLabel, ↓reduceIte, imp, shift, killO, hasId, unown, names, plainR, below, noF, isF, lendObs, lendOb, kindOk, ren, givL, updM, backO, renO, belowM, seval, -Int.reduceToNat, B4, B34, D46, bunN, Int.reduceToNat, List.map_nil, List.nil_append] | exact NK_no _ | refine NK_cl _ _ ?_ | exact Cln.cl | refine clean_tup _ ?_ | refine cleans_cons _ _ ?_ ?_ | refine DR_q _ ?_ | (refine Fk.fk ?_ ?_ <;> intro hg <;> (try simp only [hg]) <;> (try simp only [bunB] at hg) <;> try (exfalso; first | omega | exact Bool.noConfusion hg | exact hg trivial)) | refine And.intro (by omega) ?_ | omega
  all_goals trace_state
/-- Lines stood ahead: the line is none, or of another code. -/
theorem takeA_no (c : Int) (L : List (List UInt8)) (hL : L.length ≤ 1000) (h0 : 0 < L.length) (s : List UInt8) (hs : s.length ≤ 1000000) (h : rdK s = false ∨ codk s 3 ≠ c) :
    SpecL Tryd.prog 10 [.row true 1 [I64 c, .ref 1 0 L.length], .arr 9 1 (L.map Sv)] [.ptr 0 0, Sv s] [.row true 1 [I64 0, nilA], .dead, .fence] (.tup [zRep, Bv false, I64 4]) := by
  cases hk : rdK s with
  | false =>
    obtain ⟨c', m, t, hr⟩ := read_no s hs hk
    refine specL_mk (ts := [.cell 4 24, .tmp 5, .tmp 6]) ok1 Tryd.func10 rfl rfl (by decide +kernel) (by simp [Tryd.ntmps10]) rfl ?_
    simp only [zRep, nilA]
    repeat' first | refine WE_fit (hr) ?_ ?_ | simp (maxSteps := 4000000) (disch := omega) only [bunL, bunD, bun, ↓WG_true, ↓WG_false, labelOf, findLabel, ↓reduceIte, imp, shift, killO, hasId, unown, names, plainR, below, noF, isF, lendObs, lendOb, kindOk, ren, givL, updM, backO, renO, belowM, seval, -Int.reduceToNat, B4, B34, D46, bunN, Int.reduceToNat, List.map_nil, List.nil_append] | exact NK_no _ | refine NK_cl _ _ ?_ | exact Cln.cl | refine clean_tup _ ?_ | refine cleans_cons _ _ ?_ ?_ | refine DR_q _ ?_ | (refine Fk.fk ?_ ?_ <;> intro hg <;> (try simp only [hg]) <;> (try simp only [bunB] at hg) <;> try (exfalso; first | omega | exact Bool.noConfusion hg | exact hg trivial)) | refine And.intro (by omega) ?_ | omega
    all_goals trace_state
  | true =>
    have hne : codk s 3 ≠ c := h.resolve_left (by rw [hk]; exact fun e => by cases e)
    have hr := read_ok s hs hk
    refine specL_mk (ts := [.cell 4 24, .tmp 5, .tmp 6]) ok1 Tryd.func10 rfl rfl (by decide +kernel) (by simp [Tryd.ntmps10]) rfl ?_
    simp only [zRep, nilA]
    repeat' first | refine WE_fit (hr) ?_ ?_ | simp (maxSteps := 4000000) (disch := omega) only [bunL, bunD, bun, ↓WG_true, ↓WG_false, labelOf, findLabel, ↓reduceIte, imp, shift, killO, hasId, unown, names, plainR, below, noF, isF, lendObs, lendOb, kindOk, ren, givL, updM, backO, renO, belowM, seval, -Int.reduceToNat, B4, B34, D46, bunN, Int.reduceToNat, List.map_nil, List.nil_append] | exact NK_no _ | refine NK_cl _ _ ?_ | exact Cln.cl | refine clean_tup _ ?_ | refine cleans_cons _ _ ?_ ?_ | refine DR_q _ ?_ | (refine Fk.fk ?_ ?_ <;> intro hg <;> (try simp only [hg]) <;> (try simp only [bunB] at hg) <;> try (exfalso; first | omega | exact Bool.noConfusion hg | exact hg trivial)) | refine And.intro (by omega) ?_ | omega
    all_goals first | omega | trace_state
theorem takeA_full (c : Int) (L : List (List UInt8)) (hL : L.length ≤ 1000) (h0 : 32 ≤ L.length) (s : List UInt8) (hs : s.length ≤ 1000000) (h : rdK s = true) (he : codk s 3 = c) :
    SpecL Tryd.prog 10 [.row true 1 [I64 c, .ref 1 0 L.length], .arr 9 1 (L.map Sv)] [.ptr 0 0, Sv s] [.row true 1 [I64 0, nilA], .dead, .fence] (.tup [zRep, Bv false, I64 2]) := by
  subst he
  have hr := read_ok s hs h
  refine specL_mk (ts := [.cell 4 24, .tmp 5, .tmp 6]) ok1 Tryd.func10 rfl rfl (by decide +kernel) (by simp [Tryd.ntmps10]) rfl ?_
  simp only [zRep, nilA]
  repeat' first | refine WE_fit (hr) ?_ ?_ | simp (maxSteps := 4000000) (disch := omega) only [bunL, bunD, bun, ↓WG_true, ↓WG_false, labelOf, findLabel, ↓reduceIte, imp, shift, killO, hasId, unown, names, plainR, below, noF, isF, lendObs, lendOb, kindOk, ren, givL, updM, backO, renO, belowM, seval, -Int.reduceToNat, B4, B34, D46, bunN, Int.reduceToNat, List.map_nil, List.nil_append] | exact NK_no _ | refine NK_cl _ _ ?_ | exact Cln.cl | refine clean_tup _ ?_ | refine cleans_cons _ _ ?_ ?_ | refine DR_q _ ?_ | (refine Fk.fk ?_ ?_ <;> intro hg <;> (try simp only [hg]) <;> (try simp only [bunB] at hg) <;> try (exfalso; first | omega | exact Bool.noConfusion hg | exact hg trivial)) | refine And.intro (by omega) ?_ | omega
  all_goals first | omega | trace_state
theorem takeA_more (c : Int) (L : List (List UInt8)) (h0 : 0 < L.length) (h32 : L.length < 32) (s : List UInt8) (hs : s.length ≤ 1000000) (h : rdK s = true) (he : codk s 3 = c) (hm : rdMo s = true) :
    SpecL Tryd.prog 10 [.row true 1 [I64 c, .ref 1 0 L.length], .arr 9 1 (L.map Sv)] [.ptr 0 0, Sv s] [.row true 1 [I64 c, .ref 1 0 (L.length + 1)], .arr 9 1 ((L ++ [s.drop 4]).map Sv), .fence] (.tup [zRep, Bv false, I64 0]) := by
  subst he
  have hr := read_ok s hs h
  rw [hm] at hr
  rw [List.map_append]
  refine specL_mk (ts := [.cell 4 24, .tmp 5, .tmp 6]) ok1 Tryd.func10 rfl rfl (by decide +kernel) (by simp [Tryd.ntmps10]) rfl ?_
  simp only [zRep, nilA]
  repeat' first | refine WE_fit (hr) ?_ ?_ | simp (maxSteps := 4000000) (disch := omega) only [bunL, bunD, bun, ↓WG_true, ↓WG_false, labelOf, findLabel, ↓reduceIte, imp, shift, killO, hasId, unown, names, plainR, below, noF, isF, lendObs, lendOb, kindOk, ren, givL, updM, backO, renO, belowM, seval, -Int.reduceToNat, B4, B34, D46, bunN, Int.reduceToNat, List.map_nil, List.nil_append] | exact NK_no _ | refine NK_cl _ _ ?_ | exact Cln.cl | refine clean_tup _ ?_ | refine cleans_cons _ _ ?_ ?_ | refine DR_q _ ?_ | (refine Fk.fk ?_ ?_ <;> intro hg <;> (try simp only [hg]) <;> (try simp only [bunB] at hg) <;> try (exfalso; first | omega | exact Bool.noConfusion hg | exact hg trivial)) | refine And.intro (by omega) ?_ | omega
  all_goals first | omega | trace_state
theorem takeA_done (c : Int) (L : List (List UInt8)) (h0 : 0 < L.length) (h32 : L.length < 32) (s : List UInt8) (hs : s.length ≤ 1000000) (h : rdK s = true) (he : codk s 3 = c) (hm : rdMo s = false) :
    SpecL Tryd.prog 10 [.row true 1 [I64 c, .ref 1 0 L.length], .arr 9 1 (L.map Sv)] [.ptr 0 0, Sv s] [.row true 1 [I64 0, nilA], .arr 9 1 ((L ++ [s.drop 4]).map Sv), .fence] (.tup [.ag [I64 c, .ref 1 0 (L.length + 1)], Bv true, I64 0]) := by
  subst he
  have hr := read_ok s hs h
  rw [hm] at hr
  rw [List.map_append]
  refine specL_mk (ts := [.cell 4 24, .tmp 5, .tmp 6]) ok1 Tryd.func10 rfl rfl (by decide +kernel) (by simp [Tryd.ntmps10]) rfl ?_
  unfold nilA
  repeat' first | refine WE_fit (hr) ?_ ?_ | simp (maxSteps := 4000000) (disch := omega) only [bunL, bunD, bun, ↓WG_true, ↓WG_false, labelOf, findLabel, ↓reduceIte, imp, shift, killO, hasId, unown, names, plainR, below, noF, isF, lendObs, lendOb, kindOk, ren, givL, updM, backO, renO, belowM, seval, -Int.reduceToNat, B4, B34, D46, bunN, Int.reduceToNat, List.map_nil, List.nil_append] | exact NK_no _ | refine NK_cl _ _ ?_ | exact Cln.cl | refine clean_tup _ ?_ | refine cleans_cons _ _ ?_ ?_ | refine DR_q _ ?_ | (refine Fk.fk ?_ ?_ <;> intro hg <;> (try simp only [hg]) <;> (try simp only [bunB] at hg) <;> try (exfalso; first | omega | exact Bool.noConfusion hg | exact hg trivial)) | refine And.intro (by omega) ?_ | omega
  all_goals first | omega | trace_state
end Go.AE
end
