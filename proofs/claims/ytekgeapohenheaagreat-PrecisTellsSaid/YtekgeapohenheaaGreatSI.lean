/- Contracts of functions that the laws of this seat reach, and plain laws of what they compute. No condition beyond each statement's own. -/
import Derived.Test.YtekgeapohenheaaGreatSG
import Derived.Test.YtekgeapohenheaaGreatV1
set_option linter.unusedVariables false
set_option linter.unusedSimpArgs false
section
/- Normal forms: their contracts. -/
namespace Go.AE
open Go.Proofs
set_option maxRecDepth 20000
set_option maxHeartbeats 8000000
set_option linter.unusedSimpArgs false
theorem oneF_ok : ∀ (f : Nat) (soft : Bool) (r : Int), okR r → ∀ x ∈ oneF f soft r, okR x
  | 0, _, r, h, x, hx => by simp [oneF] at hx; subst hx; exact h
  | f + 1, soft, r, h, x, hx => by
    rw [oneF_succ] at hx
    split at hx
    · rename_i hh
      have : 44032 ≤ r ∧ r ≤ 55203 := by simpa [han] using hh
      unfold syl at hx
      split at hx <;> simp at hx <;> unfold okR <;> omega
    · split at hx
      · simp at hx; subst hx; exact h
      · rename_i hst
        have hs : (spl r).2 = true := by
          unfold stop at hst
          cases hq : (spl r).2
          · rw [hq] at hst; simp at hst
          · rfl
        obtain ⟨b1, b2, b3, b4⟩ := spl_bounds hs
        split at hx
        · exact oneF_ok f soft _ (by unfold okR; omega) x hx
        · rcases List.mem_append.1 hx with hx | hx
          · exact oneF_ok f soft _ (by unfold okR; omega) x hx
          · exact oneF_ok f soft _ (by unfold okR; omega) x hx
theorem splt_ok {soft : Bool} {l : List Int} (h : ∀ r ∈ l, okR r) : ∀ r ∈ spltL soft l, okR r := fun r hr => by
  obtain ⟨a, ha, hra⟩ := List.mem_flatMap.1 hr
  exact oneF_ok 5 soft a (h a ha) r hra
theorem ordF_kin : ∀ (T R : List Int), Kin cls (ordF R T) (R ++ T) ∧ (ordF R T).length = R.length + T.length
  | [], R => by rw [ordF, List.append_nil]; exact ⟨(ssort_up cls R).2, ssort_length cls R⟩
  | x :: T, R => by
    rw [ordF]
    split
    · have h1 := ordF_kin T (R ++ [x])
      refine ⟨by simpa using h1.1, by have := h1.2; simp at this ⊢; omega⟩
    · have h1 := ordF_kin T []
      exact ⟨Kin.app (ssort_up cls R).2 (Kin.app (Kin.refl cls [x]) (by simpa using h1.1)), by have := h1.2; have := ssort_length cls R; simp at *; omega⟩
theorem ord_kin (l : List Int) : Kin cls (ordL l) l ∧ (ordL l).length = l.length := by simpa [ordL] using ordF_kin l []
theorem ord_ok {l : List Int} (h : ∀ r ∈ l, okR r) : ∀ r ∈ ordL l, okR r := fun r hr => h r ((ord_kin l).1.mem.1 hr)
def formL (soft join : Bool) (l : List Int) : List Int := if join then joinL (ordL (spltL soft l)) else ordL (spltL soft l)
def formS (soft join : Bool) (s : List UInt8) : List UInt8 × Bool := if 0 ≤ (runes s).2 then ([], false) else (strS (formL soft join (runes s).1), strOk (formL soft join (runes s).1))
theorem form_spec (s : List UInt8) (soft join : Bool) (hs : s.length ≤ 10000000) (hl : (runes s).1.length ≤ 10000) (hr : ∀ r ∈ (runes s).1, okR r) : Spec Tryz.prog 82 [tab, Sv s, Bv soft, Bv join] (.tup [Sv (formS soft join s).1, Bv (formS soft join s).2]) := by
  have h1 := nsplt_spec (runes s).1 soft (by omega) hr
  have l1 := splt_len soft (runes s).1
  have o1 := splt_ok (soft := soft) hr
  have h2 := order_spec (spltL soft (runes s).1) (by omega) o1
  have l2 := (ord_kin (spltL soft (runes s).1)).2
  have o2 := ord_ok o1
  have htk : List.take (spltL soft (runes s).1).length ((ordL (spltL soft (runes s).1)).map I32) = (ordL (spltL soft (runes s).1)).map I32 := List.take_of_length_le (by simp; omega)
  have h3 := join_spec' (ordL (spltL soft (runes s).1)) (by omega) o2
  have l3 : (joinL (ordL (spltL soft (runes s).1))).length ≤ (spltL soft (runes s).1).length := by rw [← l2]; exact jRun_len _
  rw [l2] at h3
  rw [← tabBox_eq] at h1 h2 h3 ⊢
  simp only [Bv] at h1
  refine spec_mk (z := false) (ts := [.tmp 8, .tmp 9]) ok1 Tryz.func82 rfl rfl (by decide +kernel) (by simp [Tryz.ntmps82]) rfl ?_
  by_cases h0 : 0 ≤ (runes s).2
  · have e : formS soft join s = ([], false) := by unfold formS; rw [if_pos h0]
    rw [e]
    repeat' first | refine WE_fit (utfRunes_spec s (by omega)) ?_ ?_ | simp (maxSteps := 4000000) (disch := omega) only [bunL, bunD, bun, ↓WG_true, ↓WG_false, labelOf, findLabel, ↓reduceIte, imp, shift, killO, cond_true, cond_false, hasId, ne_eq, unown, names, plainR, below, noF, isF, lendObs, lendOb, kindOk, ren, givL, updM, backO, renO, belowM, seval, -Int.reduceToNat, B9, D29, B21, B53, bunN, tbB] | exact NK_no _ | refine NK_cl _ _ ?_ | exact Cln.cl | refine clean_tup _ ?_ | refine cleans_cons _ _ ?_ ?_ | refine DR_q _ ?_ | (refine Fk.fk ?_ ?_ <;> intro hg <;> (try simp only [hg]) <;> (try simp only [bunB, ne_eq] at hg) <;> try (exfalso; first | omega | exact Bool.noConfusion hg | exact hg trivial)) | refine And.intro (by omega) ?_ | omega
    all_goals trace_state
  · cases join with
    | false =>
      have us := utfString_spec (ordL (spltL soft (runes s).1)) (by omega)
      rw [l2] at us
      have e : formS soft false s = (strS (ordL (spltL soft (runes s).1)), strOk (ordL (spltL soft (runes s).1))) := by unfold formS; rw [if_neg h0]; rfl
      rw [e]
      repeat' first | refine WE_fit (utfRunes_spec s (by omega)) ?_ ?_ | refine DR_p (.take 2 (.take 3 (.two 0 (.one 1 (.one 4 (.one 5 (.take 6 (.done))))) 1 (.two 0 (.one 4 (.one 5 (.take 6 (.done)))) 4 (.one 0 (.one 5 (.take 6 (.done)))))))) _ (by decide +kernel) ?_ | simp (maxSteps := 4000000) (disch := omega) only [bunL, bunD, bun, ↓WG_true, ↓WG_false, labelOf, findLabel, ↓reduceIte, imp, shift, killO, cond_true, cond_false, hasId, ne_eq, unown, names, plainR, below, noF, isF, lendObs, lendOb, kindOk, ren, givL, updM, backO, renO, belowM, seval, -Int.reduceToNat, l2, B9, D29, B21, B53, bunN, tbB] | exact NK_no _ | refine NK_cl _ _ ?_ | exact Cln.cl | refine clean_tup _ ?_ | refine cleans_cons _ _ ?_ ?_ | refine DR_q _ ?_ | (refine Fk.fk ?_ ?_ <;> intro hg <;> (try simp only [hg]) <;> (try simp only [bunB, ne_eq] at hg) <;> try (exfalso; first | omega | exact Bool.noConfusion hg | exact hg trivial)) | refine And.intro (by omega) ?_ | omega
      repeat' refine And.intro ?_ ?_
      all_goals (repeat' first | refine WE_fit (h1) ?_ ?_ | refine WE_fit (h2) ?_ ?_ | refine WE_fit (us) ?_ ?_ | simp (maxSteps := 4000000) (disch := omega) only [bunL, bunD, bun, ↓WG_true, ↓WG_false, labelOf, findLabel, ↓reduceIte, imp, shift, killO, cond_true, cond_false, hasId, ne_eq, unown, names, plainR, below, noF, isF, lendObs, lendOb, kindOk, ren, givL, updM, backO, renO, belowM, seval, -Int.reduceToNat, l2, htk, B9, D29, B21, B53, bunN, tbB] | exact NK_no _ | refine NK_cl _ _ ?_ | exact Cln.cl | refine clean_tup _ ?_ | refine cleans_cons _ _ ?_ ?_ | refine DR_q _ ?_ | (refine Fk.fk ?_ ?_ <;> intro hg <;> (try simp only [hg]) <;> (try simp only [bunB, ne_eq] at hg) <;> try (exfalso; first | omega | exact Bool.noConfusion hg | exact hg trivial)) | refine And.intro (by omega) ?_ | omega)
      all_goals trace_state
    | true =>
      have us := utfString_spec (joinL (ordL (spltL soft (runes s).1))) (by omega)
      have e : formS soft true s = (strS (joinL (ordL (spltL soft (runes s).1))), strOk (joinL (ordL (spltL soft (runes s).1)))) := by unfold formS; rw [if_neg h0]; rfl
      rw [e]
      repeat' first | refine WE_fit (utfRunes_spec s (by omega)) ?_ ?_ | refine DR_p (.take 2 (.take 3 (.two 0 (.one 1 (.one 4 (.one 5 (.take 6 (.done))))) 1 (.two 0 (.one 4 (.one 5 (.take 6 (.done)))) 4 (.one 0 (.one 5 (.take 6 (.done)))))))) _ (by decide +kernel) ?_ | simp (maxSteps := 4000000) (disch := omega) only [bunL, bunD, bun, ↓WG_true, ↓WG_false, labelOf, findLabel, ↓reduceIte, imp, shift, killO, cond_true, cond_false, hasId, ne_eq, unown, names, plainR, below, noF, isF, lendObs, lendOb, kindOk, ren, givL, updM, backO, renO, belowM, seval, -Int.reduceToNat, l2, B9, D29, B21, B53, bunN, tbB] | exact NK_no _ | refine NK_cl _ _ ?_ | exact Cln.cl | refine clean_tup _ ?_ | refine cleans_cons _ _ ?_ ?_ | refine DR_q _ ?_ | (refine Fk.fk ?_ ?_ <;> intro hg <;> (try simp only [hg]) <;> (try simp only [bunB, ne_eq] at hg) <;> try (exfalso; first | omega | exact Bool.noConfusion hg | exact hg trivial)) | refine And.intro (by omega) ?_ | omega
      repeat' refine And.intro ?_ ?_
      all_goals (repeat' first | refine WE_fit (h1) ?_ ?_ | refine WE_fit (h2) ?_ ?_ | refine WE_fit (h3) ?_ ?_ | refine WE_fit (us) ?_ ?_ | simp (maxSteps := 4000000) (disch := omega) only [bunL, bunD, bun, ↓WG_true, ↓WG_false, labelOf, findLabel, ↓reduceIte, imp, shift, killO, cond_true, cond_false, hasId, ne_eq, unown, names, plainR, below, noF, isF, lendObs, lendOb, kindOk, ren, givL, updM, backO, renO, belowM, seval, -Int.reduceToNat, l2, htk, B9, D29, B21, B53, bunN, tbB] | exact NK_no _ | refine NK_cl _ _ ?_ | exact Cln.cl | refine clean_tup _ ?_ | refine cleans_cons _ _ ?_ ?_ | refine DR_q _ ?_ | (refine Fk.fk ?_ ?_ <;> intro hg <;> (try simp only [hg]) <;> (try simp only [bunB, ne_eq] at hg) <;> try (exfalso; first | omega | exact Bool.noConfusion hg | exact hg trivial)) | refine And.intro (by omega) ?_ | omega)
      all_goals trace_state
end Go.AE
end
section
/- NFD, NFC, NFKD, NFKC, Is, and the document's Form: their contracts. -/
namespace Go.AE
open Go.Proofs
set_option maxRecDepth 20000
set_option maxHeartbeats 8000000
set_option linter.unusedSimpArgs false
theorem lead_le {c : Int} (h : 0 ≤ c) : 0 ≤ (lead c).2 ∧ (lead c).2 < 128 := lead_snd h
theorem one_okR {s : List UInt8} {r : Int} {k : Nat} (h : one s = some (r, k)) : okR r := by
  obtain ⟨h1, _, _, h4⟩ := one_some h
  by_cases hr : right r = true
  · have := (right_iff r).1 hr; unfold okR; omega
  · have : rlen r = 0 := by unfold rlen; rw [if_neg hr]
    omega
theorem runesF_ok : ∀ (f : Nat) (a : Int) (s : List UInt8), ∀ r ∈ (runesF f a s).1, okR r
  | 0, a, s, r, hr => by simp [runesF] at hr
  | f + 1, a, s, r, hr => by
    rw [runesF_succ] at hr
    split at hr
    · simp at hr
    · cases ho : one s with
      | none => rw [ho] at hr; simp [runesN] at hr
      | some p =>
        obtain ⟨q, k⟩ := p
        rw [ho] at hr
        simp only [runesN, List.mem_cons] at hr
        rcases hr with rfl | hr
        · exact one_okR ho
        · exact runesF_ok f _ _ r hr
theorem runes_ok (s : List UInt8) : ∀ r ∈ (runes s).1, okR r := runesF_ok _ _ _
theorem nfc_spec' (s : List UInt8) (hs : s.length ≤ 10000000) (hl : (runes s).1.length ≤ 10000) : Spec Tryz.prog 53 [tab, Sv s] (.tup [Sv (formS false true s).1, Bv (formS false true s).2]) := by
  have h := form_spec s false true hs hl (runes_ok s)
  rw [← tabBox_eq] at h ⊢
  refine spec_mk (z := false) (ts := [.tmp 4, .tmp 5]) ok1 Tryz.func53 rfl rfl (by decide +kernel) (by simp [Tryz.ntmps53]) rfl ?_
  repeat' first | refine WE_fit (h) ?_ ?_ | simp (maxSteps := 4000000) (disch := omega) only [bunL, bunD, bun, ↓WG_true, ↓WG_false, labelOf, findLabel, ↓reduceIte, imp, shift, killO, cond_true, cond_false, hasId, ne_eq, unown, names, plainR, below, noF, isF, lendObs, lendOb, kindOk, ren, givL, updM, backO, renO, belowM, seval, -Int.reduceToNat, B9, D29, bunN, tbB] | exact NK_no _ | refine NK_cl _ _ ?_ | exact Cln.cl | refine clean_tup _ ?_ | refine cleans_cons _ _ ?_ ?_ | refine DR_q _ ?_ | (refine Fk.fk ?_ ?_ <;> intro hg <;> (try simp only [hg]) <;> (try simp only [bunB, ne_eq] at hg) <;> try (exfalso; first | omega | exact Bool.noConfusion hg | exact hg trivial)) | refine And.intro (by omega) ?_ | omega
theorem nis_spec' (s : List UInt8) (hs : s.length ≤ 10000000) (hl : (runes s).1.length ≤ 10000) : Spec Tryz.prog 40 [tab, Sv s] (Bv ((formS false true s).2 && ((formS false true s).1 == s))) := by
  have h := nfc_spec' s hs hl
  rw [← tabBox_eq] at h ⊢
  refine spec_mk (z := false) (ts := [.tmp 4]) ok1 Tryz.func40 rfl rfl (by decide +kernel) (by simp [Tryz.ntmps40]) rfl ?_
  cases hf : (formS false true s).2 with
  | false => repeat' first | refine WE_fit (h) ?_ ?_ | simp (maxSteps := 4000000) (disch := omega) only [bunL, bunD, bun, ↓WG_true, ↓WG_false, labelOf, findLabel, ↓reduceIte, imp, shift, killO, cond_true, cond_false, hasId, ne_eq, unown, names, plainR, below, noF, isF, lendObs, lendOb, kindOk, ren, givL, updM, backO, renO, belowM, seval, -Int.reduceToNat, hf, B9, D29, bunN, tbB] | exact NK_no _ | refine NK_cl _ _ ?_ | exact Cln.cl | refine clean_tup _ ?_ | refine cleans_cons _ _ ?_ ?_ | refine DR_q _ ?_ | (refine Fk.fk ?_ ?_ <;> intro hg <;> (try simp only [hg]) <;> (try simp only [bunB, ne_eq] at hg) <;> try (exfalso; first | omega | exact Bool.noConfusion hg | exact hg trivial)) | refine And.intro (by omega) ?_ | omega
  | true => repeat' first | refine WE_fit (h) ?_ ?_ | simp (maxSteps := 4000000) (disch := omega) only [bunL, bunD, bun, ↓WG_true, ↓WG_false, labelOf, findLabel, ↓reduceIte, imp, shift, killO, cond_true, cond_false, hasId, ne_eq, unown, names, plainR, below, noF, isF, lendObs, lendOb, kindOk, ren, givL, updM, backO, renO, belowM, seval, -Int.reduceToNat, hf, B9, D29, bunN, tbB] | exact NK_no _ | refine NK_cl _ _ ?_ | exact Cln.cl | refine clean_tup _ ?_ | refine cleans_cons _ _ ?_ ?_ | refine DR_q _ ?_ | (refine Fk.fk ?_ ?_ <;> intro hg <;> (try simp only [hg]) <;> (try simp only [bunB, ne_eq] at hg) <;> try (exfalso; first | omega | exact Bool.noConfusion hg | exact hg trivial)) | refine And.intro (by omega) ?_ | omega
theorem rform_spec' (s : List UInt8) (soft join : Bool) (hs : s.length ≤ 10000000) (hl : (runes s).1.length ≤ 10000) : Spec Tryz.prog 62 [Sv s, Bv soft, Bv join] (.tup [Sv (formS soft join s).1, Bv (formS soft join s).2]) := by
  have hr := runes_ok s
  have h1 := rsplt_spec (runes s).1 soft (by omega) hr
  have l1 := splt_len soft (runes s).1
  have o1 := splt_ok (soft := soft) hr
  have h2 := rorder_spec (spltL soft (runes s).1) (by omega) o1
  have l2 := (ord_kin (spltL soft (runes s).1)).2
  have o2 := ord_ok o1
  have htk : List.take (spltL soft (runes s).1).length ((ordL (spltL soft (runes s).1)).map I32) = (ordL (spltL soft (runes s).1)).map I32 := List.take_of_length_le (by simp; omega)
  have h3 := rjoin_spec (ordL (spltL soft (runes s).1)) (by omega) o2
  have l3 : (joinL (ordL (spltL soft (runes s).1))).length ≤ (spltL soft (runes s).1).length := by rw [← l2]; exact jRun_len _
  rw [l2] at h3
  refine spec_mk (z := false) (ts := [.tmp 6, .tmp 7]) ok1 Tryz.func62 rfl rfl (by decide +kernel) (by simp [Tryz.ntmps62]) rfl ?_
  by_cases h0 : 0 ≤ (runes s).2
  · have e : formS soft join s = ([], false) := by unfold formS; rw [if_pos h0]
    rw [e]
    repeat' first | refine WE_fit (refRunes_spec s (by omega)) ?_ ?_ | simp (maxSteps := 4000000) (disch := omega) only [bunL, bunD, bun, ↓WG_true, ↓WG_false, labelOf, findLabel, ↓reduceIte, imp, shift, killO, cond_true, cond_false, hasId, ne_eq, unown, names, plainR, below, noF, isF, lendObs, lendOb, kindOk, ren, givL, updM, backO, renO, belowM, seval, -Int.reduceToNat, B3, B4, B9, B21, B53, bunN, tbB] | exact NK_no _ | refine NK_cl _ _ ?_ | exact Cln.cl | refine clean_tup _ ?_ | refine cleans_cons _ _ ?_ ?_ | refine DR_q _ ?_ | (refine Fk.fk ?_ ?_ <;> intro hg <;> (try simp only [hg]) <;> (try simp only [bunB, ne_eq] at hg) <;> try (exfalso; first | omega | exact Bool.noConfusion hg | exact hg trivial)) | refine And.intro (by omega) ?_ | omega
  · cases join with
    | false =>
      have us := refString_spec (ordL (spltL soft (runes s).1)) (by omega)
      rw [l2] at us
      have e : formS soft false s = (strS (ordL (spltL soft (runes s).1)), strOk (ordL (spltL soft (runes s).1))) := by unfold formS; rw [if_neg h0]; rfl
      rw [e]
      repeat' first | refine WE_fit (refRunes_spec s (by omega)) ?_ ?_ | refine WE_fit (h1) ?_ ?_ | refine WE_fit (h2) ?_ ?_ | refine WE_fit (us) ?_ ?_ | simp (maxSteps := 4000000) (disch := omega) only [bunL, bunD, bun, ↓WG_true, ↓WG_false, labelOf, findLabel, ↓reduceIte, imp, shift, killO, cond_true, cond_false, hasId, ne_eq, unown, names, plainR, below, noF, isF, lendObs, lendOb, kindOk, ren, givL, updM, backO, renO, belowM, seval, -Int.reduceToNat, l2, htk, B3, B4, B9, B21, B53, bunN, tbB] | exact NK_no _ | refine NK_cl _ _ ?_ | exact Cln.cl | refine clean_tup _ ?_ | refine cleans_cons _ _ ?_ ?_ | refine DR_q _ ?_ | (refine Fk.fk ?_ ?_ <;> intro hg <;> (try simp only [hg]) <;> (try simp only [bunB, ne_eq] at hg) <;> try (exfalso; first | omega | exact Bool.noConfusion hg | exact hg trivial)) | refine And.intro (by omega) ?_ | omega
    | true =>
      have us := refString_spec (joinL (ordL (spltL soft (runes s).1))) (by omega)
      have e : formS soft true s = (strS (joinL (ordL (spltL soft (runes s).1))), strOk (joinL (ordL (spltL soft (runes s).1)))) := by unfold formS; rw [if_neg h0]; rfl
      rw [e]
      repeat' first | refine WE_fit (refRunes_spec s (by omega)) ?_ ?_ | refine WE_fit (h1) ?_ ?_ | refine WE_fit (h2) ?_ ?_ | refine WE_fit (h3) ?_ ?_ | refine WE_fit (us) ?_ ?_ | simp (maxSteps := 4000000) (disch := omega) only [bunL, bunD, bun, ↓WG_true, ↓WG_false, labelOf, findLabel, ↓reduceIte, imp, shift, killO, cond_true, cond_false, hasId, ne_eq, unown, names, plainR, below, noF, isF, lendObs, lendOb, kindOk, ren, givL, updM, backO, renO, belowM, seval, -Int.reduceToNat, l2, htk, B3, B4, B9, B21, B53, bunN, tbB] | exact NK_no _ | refine NK_cl _ _ ?_ | exact Cln.cl | refine clean_tup _ ?_ | refine cleans_cons _ _ ?_ ?_ | refine DR_q _ ?_ | (refine Fk.fk ?_ ?_ <;> intro hg <;> (try simp only [hg]) <;> (try simp only [bunB, ne_eq] at hg) <;> try (exfalso; first | omega | exact Bool.noConfusion hg | exact hg trivial)) | refine And.intro (by omega) ?_ | omega
theorem rl_le {s : List UInt8} (h : s.length ≤ 10000) : (runes s).1.length ≤ 10000 := by have := runes_len s; omega
theorem nfc_spec (s : List UInt8) (hs : s.length ≤ 10000) : Spec Tryz.prog 53 [tab, Sv s] (.tup [Sv (formS false true s).1, Bv (formS false true s).2]) := nfc_spec' s (by omega) (rl_le hs)
theorem nis_spec (s : List UInt8) (hs : s.length ≤ 10000) : Spec Tryz.prog 40 [tab, Sv s] (Bv ((formS false true s).2 && ((formS false true s).1 == s))) := nis_spec' s (by omega) (rl_le hs)
theorem rform_spec (s : List UInt8) (soft join : Bool) (hs : s.length ≤ 10000) : Spec Tryz.prog 62 [Sv s, Bv soft, Bv join] (.tup [Sv (formS soft join s).1, Bv (formS soft join s).2]) := rform_spec' s soft join (by omega) (rl_le hs)
end Go.AE
end
section
/- Strings of characters are read back; and marks of unlike classes may be turned. -/
namespace Go.AE
set_option linter.unusedSimpArgs false
theorem runesF_more : ∀ (f g : Nat) (a : Int) (s : List UInt8), s.length < f → s.length < g → runesF f a s = runesF g a s := by
  intro f
  induction f with
  | zero => intro g a s h; omega
  | succ f ih =>
    intro g a s hf hg
    obtain ⟨g, rfl⟩ : ∃ k, g = k + 1 := ⟨g - 1, by omega⟩
    rw [runesF_succ, runesF_succ]
    split
    · rfl
    · cases ho : one s with
      | none => rfl
      | some p =>
        obtain ⟨r, k⟩ := p
        obtain ⟨h1, h2, h3, h4⟩ := one_some ho
        simp only [runesN]
        rw [ih g (a + k) (s.drop k) (by simp; omega) (by simp; omega)]
theorem runesF_enc {r : Int} (h : right r = true) (f : Nat) (a : Int) (t : List UInt8) : runesF (f + 1) a (enc r ++ t) = (r :: (runesF f (a + (enc r).length) t).1, (runesF f (a + (enc r).length) t).2) := by
  have hp : 0 < (enc r).length := by
    have h1 := enc_length r
    have h2 := rlen_or r
    have h3 := rlen0 r
    rw [h] at h3
    simp at h3
    omega
  have := runesF_step (f := f) (a := a) (s := enc r ++ t) (by simp; omega) (one_enc h t)
  rw [List.drop_left] at this
  exact this
theorem runesF_app (g : Nat) (t : List UInt8) : ∀ (l : List Int) (a : Int), strOk l = true → runesF (l.length + g) a (l.flatMap enc ++ t) = (l ++ (runesF g (a + (l.flatMap enc).length) t).1, (runesF g (a + (l.flatMap enc).length) t).2) := by
  intro l
  induction l with
  | nil => intro a _; simp
  | cons r l ih =>
    intro a h
    simp only [strOk, List.all_cons, Bool.and_eq_true] at h
    rw [List.length_cons, show l.length + 1 + g = (l.length + g) + 1 by omega, List.flatMap_cons, List.append_assoc, runesF_enc h.1, ih _ h.2]
    simp only [List.length_append, Int.natCast_add, Int.add_assoc, List.cons_append]
theorem flat_len (l : List Int) (h : strOk l = true) : l.length ≤ (l.flatMap enc).length := by
  induction l with
  | nil => simp
  | cons r l ih =>
    simp only [strOk, List.all_cons, Bool.and_eq_true] at h
    have h1 := enc_length r
    have h2 := rlen_or r
    have h3 := rlen0 r
    rw [h.1] at h3
    simp at h3
    have := ih h.2
    simp only [List.flatMap_cons, List.length_append, List.length_cons]
    omega
theorem runesF_shift : ∀ (f : Nat) (a k : Int) (s : List UInt8), 0 ≤ a → (runesF f (a + k) s).1 = (runesF f a s).1 ∧ ((runesF f a s).2 = -1 ∧ (runesF f (a + k) s).2 = -1 ∨ 0 ≤ (runesF f a s).2 ∧ (runesF f (a + k) s).2 = (runesF f a s).2 + k) := by
  intro f
  induction f with
  | zero => intro a k s h; simp [runesF]
  | succ f ih =>
    intro a k s h
    rw [runesF_succ, runesF_succ]
    split
    · simp
    · cases ho : one s with
      | none => simp [runesN]; omega
      | some p =>
        obtain ⟨r, n⟩ := p
        have := ih (a + n) k (s.drop n) (by omega)
        simp only [runesN]
        rw [show a + k + n = a + n + k by omega]
        exact ⟨by rw [this.1], this.2⟩
theorem runes_app (l : List Int) (t : List UInt8) (h : strOk l = true) : (runes (l.flatMap enc ++ t)).1 = l ++ (runes t).1 ∧
    ((runes t).2 = -1 ∧ (runes (l.flatMap enc ++ t)).2 = -1 ∨ 0 ≤ (runes t).2 ∧ (runes (l.flatMap enc ++ t)).2 = (runes t).2 + (l.flatMap enc).length) := by
  have hl := flat_len l h
  have e : runes (l.flatMap enc ++ t) = runesF (l.length + ((l.flatMap enc).length - l.length + t.length + 1)) 0 (l.flatMap enc ++ t) := by
    unfold runes
    rw [List.length_append, show l.length + ((l.flatMap enc).length - l.length + t.length + 1) = (l.flatMap enc).length + t.length + 1 by omega]
  rw [e, runesF_app _ t l 0 h, runesF_more _ (t.length + 1) _ t (by omega) (by omega)]
  have h2 := runesF_shift (t.length + 1) 0 (l.flatMap enc).length t (by omega)
  refine ⟨?_, ?_⟩
  · simp only [h2.1]; rfl
  · exact h2.2
theorem runes_str {l : List Int} (h : strOk l = true) : runes (strS l) = (l, -1) := by
  have := runes_app l [] h
  have e : runes [] = ([], -1) := rfl
  rw [e, List.append_nil, List.append_nil] at this
  simp only [strS, h, if_true]
  obtain ⟨h1, h2⟩ := this
  refine Prod.ext h1 ?_
  rcases h2 with h2 | h2
  · exact h2.2
  · simp at h2

theorem ordF_congr : ∀ (T R R' : List Int), Kin cls R R' → ordF R T = ordF R' T
  | [], R, R', h => by rw [ordF, ordF]; exact ssort_congr h
  | x :: T, R, R', h => by
    rw [ordF, ordF]
    split
    · exact ordF_congr T _ _ (h.app (Kin.refl cls [x]))
    · rw [ssort_congr h]
theorem ordF_turn {x y : Int} (hx : 0 < cls x) (hy : 0 < cls y) (hne : cls x ≠ cls y) (Q : List Int) : ∀ (P R : List Int), ordF R (P ++ x :: y :: Q) = ordF R (P ++ y :: x :: Q)
  | [], R => by
    show ordF R (x :: y :: Q) = ordF R (y :: x :: Q)
    rw [ordF, if_pos hx, ordF, if_pos hy, ordF, if_pos hy, ordF, if_pos hx]
    refine ordF_congr Q _ _ ?_
    rw [List.append_assoc, List.append_assoc]
    exact Kin.app (Kin.refl cls R) (Kin.turn (A := [x]) (B := [y]) fun a ha b hb => by simp at ha hb; subst ha; subst hb; exact hne)
  | p :: P, R => by
    show ordF R (p :: (P ++ x :: y :: Q)) = ordF R (p :: (P ++ y :: x :: Q))
    rw [ordF, ordF]
    split
    · exact ordF_turn hx hy hne Q P _
    · rw [ordF_turn hx hy hne Q P []]
theorem one_mark {r : Int} (h : 0 < cls r) (soft : Bool) : one1 soft r = [r] := by
  have hs : (spl r).2 = false := by
    cases hq : (spl r).2 with
    | false => rfl
    | true => have := (spl_marks hq).2.1; omega
  have hh : han r = false := by
    cases hq : han r with
    | false => rfl
    | true =>
      have := han_cls (r := r) (by simpa [han] using hq)
      omega
  rw [one1_eq, hh, if_neg (by simp), if_pos (by simp [stop, hs])]
theorem form_turn {x y : Int} (hx : 0 < cls x) (hy : 0 < cls y) (hne : cls x ≠ cls y) (P Q : List Int) (soft join : Bool) : formL soft join (P ++ x :: y :: Q) = formL soft join (P ++ y :: x :: Q) := by
  have e : ordL (spltL soft (P ++ x :: y :: Q)) = ordL (spltL soft (P ++ y :: x :: Q)) := by
    unfold spltL
    simp only [List.flatMap_append, List.flatMap_cons, one_mark hx, one_mark hy, List.cons_append, List.nil_append]
    exact ordF_turn hx hy hne _ _ _
  unfold formL
  rw [e]
theorem formS_turn {x y : Int} (hx : 0 < cls x) (hy : 0 < cls y) (hne : cls x ≠ cls y) (P Q : List Int) (h1 : strOk (P ++ x :: y :: Q) = true) (h2 : strOk (P ++ y :: x :: Q) = true) (soft join : Bool) : formS soft join (strS (P ++ x :: y :: Q)) = formS soft join (strS (P ++ y :: x :: Q)) := by
  unfold formS
  rw [runes_str h1, runes_str h2, form_turn hx hy hne]
end Go.AE
end
section
/- Forms of forms: plain laws. -/
namespace Go.AE
set_option linter.unusedSimpArgs false
theorem spl_notHan {r : Int} (h : (spl r).2 = true) : han r = false := by
  have := spl_all (q := fun r _ => !han r) (by decide +kernel) (by decide +kernel) h
  simpa using this
theorem jamo_no {r : Int} (h1 : 4352 ≤ r) (h2 : r ≤ 4600) : han r = false ∧ (spl r).2 = false := by
  refine ⟨by simp [han]; omega, ?_⟩
  cases hq : (spl r).2 with
  | false => rfl
  | true =>
    have := spl_all (q := fun r _ => decide (r < 4352 ∨ 4600 < r)) (by decide +kernel) (by decide +kernel) hq
    simp at this
    omega
theorem one1_no {r : Int} (h1 : han r = false) (h2 : (spl r).2 = false) (soft : Bool) : one1 soft r = [r] := by
  rw [one1_eq, h1, if_neg (by simp), if_pos (by simp [stop, h2])]
theorem one1_jamo {r : Int} (h1 : 4352 ≤ r) (h2 : r ≤ 4600) (soft : Bool) : one1 soft r = [r] := one1_no (jamo_no h1 h2).1 (jamo_no h1 h2).2 soft
theorem spltL_app (soft : Bool) (A B : List Int) : spltL soft (A ++ B) = spltL soft A ++ spltL soft B := List.flatMap_append
theorem spltL_cons (soft : Bool) (x : Int) (B : List Int) : spltL soft (x :: B) = one1 soft x ++ spltL soft B := rfl
theorem spltL_syl {r : Int} (h : han r = true) (soft : Bool) : spltL soft (syl r) = syl r := by
  have : 44032 ≤ r ∧ r ≤ 55203 := by simpa [han] using h
  have key : ∀ l : List Int, (∀ x ∈ l, 4352 ≤ x ∧ x ≤ 4600) → spltL soft l = l := fun l => by
    induction l with
    | nil => intro _; rfl
    | cons x l ih =>
      intro h
      rw [spltL_cons, ih fun y hy => h y (List.mem_cons_of_mem _ hy), one1_jamo (h x (by simp)).1 (h x (by simp)).2]; rfl
  refine key _ fun x hx => ?_
  unfold syl at hx
  split at hx
  · simp at hx; omega
  · simp at hx; omega
theorem stop_no {soft : Bool} {r : Int} (h : stop soft r = false) : (spl r).2 = true ∧ ((spl r).1.2.2.2.1 = true → soft = true) := by
  unfold stop at h
  cases hq : (spl r).2 <;> rw [hq] at h
  · simp at h
  · refine ⟨rfl, fun h1 => ?_⟩
    rw [h1] at h
    simpa using h
theorem one1_one : ∀ (n : Nat) (r : Int), Deep n r → ∀ s t : Bool, spltL t (one1 s r) = one1 (s || t) r
  | 0, r, h, s, t => by
    by_cases hh : han r = true
    · rw [one1_eq s, one1_eq (s || t), hh, if_pos rfl, if_pos rfl, spltL_syl hh]
    · have hh : han r = false := by simpa using hh
      rw [one1_no hh h, one1_no hh h, spltL_cons, one1_no hh h]; rfl
  | n + 1, r, h, s, t => by
    by_cases hh : han r = true
    · rw [one1_eq s, one1_eq (s || t), hh, if_pos rfl, if_pos rfl, spltL_syl hh]
    · have hh : han r = false := by simpa using hh
      cases hst : stop s r with
      | true =>
        have e : one1 s r = [r] := by rw [one1_eq, hh, if_neg (by simp), if_pos hst]
        rw [e, spltL_cons, show spltL t [] = [] from rfl, List.append_nil]
        cases s with
        | false => rfl
        | true =>
          have h2 : (spl r).2 = false := by
            unfold stop at hst
            cases hq : (spl r).2
            · rfl
            · rw [hq] at hst; simp at hst
          rw [one1_no hh h2, one1_no hh h2]
      | false =>
        obtain ⟨h1, h2⟩ := stop_no hst
        have hst2 : stop (s || t) r = false := by
          unfold stop
          rw [h1]
          cases hq : (spl r).1.2.2.2.1
          · rfl
          · rw [h2 hq]; rfl
        have hd := h h1
        rw [one1_eq s, one1_eq (s || t)]
        simp only [hh, hst, hst2, Bool.false_eq_true, if_false]
        by_cases h0 : (spl r).1.2.2.1 = 0
        · rw [if_pos h0, if_pos h0, one1_one n _ hd.1]
        · rw [if_neg h0, if_neg h0, spltL_app, one1_one n _ hd.1, one1_one n _ (hd.2 h0)]
theorem splt_splt (s t : Bool) : ∀ l : List Int, spltL t (spltL s l) = spltL (s || t) l
  | [] => rfl
  | x :: l => by rw [spltL_cons, spltL_cons, spltL_app, splt_splt s t l, one1_one 4 x (deep_all x)]
theorem ordF_marks : ∀ (M R T : List Int), (∀ m ∈ M, 0 < cls m) → ordF R (M ++ T) = ordF (R ++ M) T
  | [], R, T, _ => by simp
  | m :: M, R, T, h => by
    rw [List.cons_append, ordF, if_pos (h m (by simp)), ordF_marks M (R ++ [m]) T fun x hx => h x (List.mem_cons_of_mem _ hx)]
    simp
theorem spltL_marks (soft : Bool) : ∀ M : List Int, (∀ m ∈ M, 0 < cls m) → spltL soft M = M
  | [], _ => rfl
  | m :: M, h => by rw [spltL_cons, spltL_marks soft M fun x hx => h x (List.mem_cons_of_mem _ hx), one_mark (h m (by simp))]; rfl
theorem ordF_pre {A B : List Int} (h : ∀ R, ordF R A = ordF R B) : ∀ (P R : List Int), ordF R (P ++ A) = ordF R (P ++ B)
  | [], R => h R
  | p :: P, R => by
    rw [List.cons_append, List.cons_append, ordF, ordF]
    split
    · exact ordF_pre h P _
    · rw [ordF_pre h P []]
theorem ord_splt (soft : Bool) : ∀ (T R Q : List Int), (∀ r ∈ R, 0 < cls r) → ordF Q (spltL soft (ordF R T)) = ordF (Q ++ R) (spltL soft T)
  | [], R, Q, h => by
    have hk := (ssort_up cls R).2
    have hm : ∀ m ∈ ssort cls R, 0 < cls m := fun m hm => h m (hk.mem.1 hm)
    rw [ordF, spltL_marks soft _ hm]
    have e := ordF_marks (ssort cls R) Q [] hm
    rw [List.append_nil] at e
    rw [e]
    exact ordF_congr [] _ _ (Kin.app (Kin.refl cls Q) hk)
  | x :: T, R, Q, h => by
    rw [ordF]
    split
    · rename_i hx
      rw [ord_splt soft T (R ++ [x]) Q (fun r hr => by
        rcases List.mem_append.1 hr with hr | hr
        · exact h r hr
        · simp at hr; subst hr; exact hx), spltL_cons, one_mark hx, List.cons_append, List.nil_append, ordF, if_pos hx, List.append_assoc]
    · have hk := (ssort_up cls R).2
      have hm : ∀ m ∈ ssort cls R, 0 < cls m := fun m hm => h m (hk.mem.1 hm)
      rw [spltL_app, spltL_marks soft _ hm, ordF_marks _ _ _ hm, spltL_cons, spltL_cons]
      rw [ordF_congr _ _ _ (Kin.app (Kin.refl cls Q) hk)]
      exact ordF_pre (fun P => by
        have := ord_splt soft T [] P (by simp)
        rwa [List.append_nil] at this) (one1 soft x) (Q ++ R)
/-- FORMS OF FORMS, not joined. -/
theorem form_form (s t : Bool) (l : List Int) : ordL (spltL t (ordL (spltL s l))) = ordL (spltL (s || t) l) := by
  have := ord_splt t (spltL s l) [] [] (by simp)
  rw [List.append_nil, splt_splt] at this
  exact this
/-! ### What is joined is split as it was -/
theorem mk2_split {a b : Int} (h : (mk2 a b).2 = true) : one1 false (mk2 a b).1 = one1 false a ++ one1 false b := by
  unfold mk2 at h ⊢
  split
  · rename_i h1
    have hh : han (44032 + (a - 4352) * 588 + (b - 4449) * 28) = true := by simp [han]; omega
    dsimp only
    rw [one1_eq false (44032 + (a - 4352) * 588 + (b - 4449) * 28), if_pos hh, one1_jamo (by omega) (by omega), one1_jamo (by omega) (by omega)]
    unfold syl
    rw [if_pos (by omega)]
    simp only [List.append_nil, List.cons_append, List.nil_append]
    congr 1
    · omega
    · congr 1; omega
  · rename_i h1
    rw [if_neg h1] at h
    split
    · rename_i h2
      have ha : 44032 ≤ a ∧ a ≤ 55203 := by simpa [han] using h2.1
      have hh : han (a + b - 4519) = true := by simp [han]; omega
      dsimp only
      rw [one1_eq false (a + b - 4519), if_pos hh, one1_eq false a, if_pos h2.1, one1_jamo (by omega) (by omega)]
      unfold syl
      rw [if_neg (by omega), if_pos h2.2.1]
      simp only [List.append_nil, List.cons_append, List.nil_append]
      congr 1
      · omega
      · congr 1
        · omega
        · congr 1; omega
    · rename_i h2
      rw [if_neg h2] at h
      obtain ⟨q1, q2, q3, q4⟩ := pairs_bwd h
      have qf := pairs_fwd q1 q4
      have hst : stop false (pr a b).1 = false := by unfold stop; rw [q1, qf.2.2]; rfl
      rw [one1_eq false (pr a b).1, spl_notHan q1, if_neg (by simp), if_neg (by rw [hst]; simp), if_neg qf.2.1, q2, q3]
theorem join_step (s : JS) (hs : JI s) (x : Int) (R T : List Int) : ordF R (spltL false (jStep s x).out ++ T) = ordF R (spltL false s.out ++ one1 false x ++ T) := by
  have put : ordF R (spltL false (s.put x).out ++ T) = ordF R (spltL false s.out ++ one1 false x ++ T) := by
    rw [put_out, spltL_app, spltL_cons, show spltL false [] = [] from rfl, List.append_nil]
  unfold jStep
  split
  · exact put
  · rename_i b hb
    split
    · rename_i hall
      split
      · rename_i h2
        have hm : spltL false s.ms = s.ms := spltL_marks false _ hs.ms
        simp only [JS.out, hb, Option.toList, spltL_app, spltL_cons, show spltL false [] = [] from rfl, List.append_nil, mk2_split h2, hm, List.append_assoc]
        rw [List.all_eq_true] at hall
        by_cases hx : 0 < cls x
        · rw [one_mark hx]
          refine ordF_pre (fun R1 => ordF_pre (fun R2 => ?_) _ _) _ _
          have e1 : [x] ++ (s.ms ++ T) = ([x] ++ s.ms) ++ T := by simp
          have e2 : s.ms ++ ([x] ++ T) = (s.ms ++ [x]) ++ T := by simp
          have hmx : ∀ m ∈ [x] ++ s.ms, 0 < cls m := fun m hm => by
            rcases List.mem_append.1 hm with hm | hm
            · simp at hm; subst hm; exact hx
            · exact hs.ms m hm
          have hmx2 : ∀ m ∈ s.ms ++ [x], 0 < cls m := fun m hm => hmx m (by
            rcases List.mem_append.1 hm with hm | hm
            · exact List.mem_append.2 (Or.inr hm)
            · exact List.mem_append.2 (Or.inl hm))
          rw [e1, e2, ordF_marks _ _ _ hmx, ordF_marks _ _ _ hmx2]
          refine ordF_congr T _ _ (Kin.app (Kin.refl cls R2) (Kin.turn fun a ha c hc => ?_))
          simp at ha
          subst ha
          have := hall c hc
          simp at this
          omega
        · have hms : s.ms = [] := by
            cases hq : s.ms with
            | nil => rfl
            | cons m M =>
              have h1 := hall m (by rw [hq]; simp)
              have h2 := hs.ms m (by rw [hq]; simp)
              simp at h1
              omega
          rw [hms]; rfl
      · exact put
    · exact put
theorem join_run : ∀ (l : List Int) (s : JS), JI s → ∀ R T, ordF R (spltL false (l.foldl jStep s).out ++ T) = ordF R (spltL false s.out ++ spltL false l ++ T)
  | [], s, _, R, T => by rw [show spltL false [] = [] from rfl, List.append_nil]; rfl
  | x :: l, s, h, R, T => by
    rw [List.foldl_cons, join_run l (jStep s x) (h.step x) R T, spltL_cons, List.append_assoc, join_step s h x]
    simp only [List.append_assoc]
theorem form_join (l : List Int) : ordL (spltL false (joinL l)) = ordL (spltL false l) := by
  have := join_run l ⟨[], none, []⟩ ⟨by simp, by simp, fun _ => rfl⟩ [] []
  rw [List.append_nil, List.append_nil, show spltL false (JS.out ⟨[], none, []⟩) = [] from rfl, List.nil_append] at this
  exact this
theorem form_join' (t : Bool) (l : List Int) : ordL (spltL t (joinL l)) = ordL (spltL t l) := by
  have h1 := form_form false t (joinL l)
  have h2 := form_form false t l
  rw [form_join, h2] at h1
  simpa using h1.symm
/-- FORMS OF FORMS. -/
theorem formL_formL (s t i j : Bool) (l : List Int) : formL t j (formL s i l) = formL (s || t) j l := by
  have e : ordL (spltL t (formL s i l)) = ordL (spltL (s || t) l) := by
    unfold formL
    split
    · rw [form_join', form_form]
    · rw [form_form]
  unfold formL at e ⊢
  rw [e]
/-! ### What is right stays right -/
theorem right_of {r : Int} (h : 0 ≤ r ∧ r ≤ 1114111 ∧ (r < 55296 ∨ 57343 < r)) : right r = true := (right_iff r).2 (by omega)
theorem oneF_right : ∀ (f : Nat) (soft : Bool) (r : Int), right r = true → ∀ x ∈ oneF f soft r, right x = true
  | 0, _, r, h, x, hx => by simp [oneF] at hx; subst hx; exact h
  | f + 1, soft, r, h, x, hx => by
    rw [oneF_succ] at hx
    split at hx
    · rename_i hh
      have : 44032 ≤ r ∧ r ≤ 55203 := by simpa [han] using hh
      unfold syl at hx
      split at hx <;> simp at hx <;> exact right_of (by omega)
    · split at hx
      · simp at hx; subst hx; exact h
      · rename_i hst
        have hs := (stop_no (by simpa using hst)).1
        have hq := spl_all (q := fun _ x => right x.2.1 && right x.2.2.1) (by decide +kernel) (by decide +kernel) hs
        simp only [Bool.and_eq_true] at hq
        split at hx
        · exact oneF_right f soft _ hq.1 x hx
        · rcases List.mem_append.1 hx with hx | hx
          · exact oneF_right f soft _ hq.1 x hx
          · exact oneF_right f soft _ hq.2 x hx
theorem mk2_right {a b : Int} (h : (mk2 a b).2 = true) : right (mk2 a b).1 = true := by
  unfold mk2 at h ⊢
  split
  · exact right_of (by dsimp only; omega)
  · rename_i h1
    rw [if_neg h1] at h
    split
    · rename_i h2
      have ha : 44032 ≤ a ∧ a ≤ 55203 := by simpa [han] using h2.1
      exact right_of (by dsimp only; omega)
    · rename_i h2
      rw [if_neg h2] at h
      exact spl_all (q := fun r _ => right r) (by decide +kernel) (by decide +kernel) (pairs_bwd h).1
theorem strOk_iff {l : List Int} : strOk l = true ↔ ∀ r ∈ l, right r = true := by unfold strOk; rw [List.all_eq_true]
theorem put_right {s : JS} {x : Int} (h : ∀ r ∈ s.out, right r = true) (hx : right x = true) : ∀ r ∈ (s.put x).out, right r = true := fun r hr => by
  rw [put_out] at hr
  rcases List.mem_append.1 hr with hr | hr
  · exact h r hr
  · simp at hr; subst hr; exact hx
theorem jStep_right {s : JS} {x : Int} (h : ∀ r ∈ s.out, right r = true) (hx : right x = true) : ∀ r ∈ (jStep s x).out, right r = true := by
  unfold jStep
  split
  · exact put_right h hx
  · rename_i b hb
    split
    · split
      · rename_i h2
        intro r hr
        simp only [JS.out, hb, Option.toList, List.mem_append, List.mem_singleton, or_assoc] at hr h
        rcases hr with hr | hr | hr
        · exact h r (Or.inl hr)
        · subst hr; exact mk2_right h2
        · exact h r (Or.inr (Or.inr hr))
      · exact put_right h hx
    · exact put_right h hx
theorem joinL_right {l : List Int} (h : strOk l = true) : strOk (joinL l) = true := by
  rw [strOk_iff] at h ⊢
  have key : ∀ (l : List Int) (s : JS), (∀ r ∈ s.out, right r = true) → (∀ r ∈ l, right r = true) → ∀ r ∈ (l.foldl jStep s).out, right r = true := fun l => by
    induction l with
    | nil => intro s h _; exact h
    | cons x l ih => intro s h hl; exact ih _ (jStep_right h (hl x (by simp))) fun r hr => hl r (List.mem_cons_of_mem _ hr)
  exact key l ⟨[], none, []⟩ (by simp [JS.out]) h
theorem formL_right {l : List Int} (h : strOk l = true) (soft join : Bool) : strOk (formL soft join l) = true := by
  have h1 : strOk (ordL (spltL soft l)) = true := by
    rw [strOk_iff] at h ⊢
    intro r hr
    obtain ⟨a, ha, hra⟩ := List.mem_flatMap.1 ((ord_kin _).1.mem.1 hr)
    exact oneF_right 5 soft a (h a ha) r hra
  unfold formL
  split
  · exact joinL_right h1
  · exact h1
theorem one_right {s : List UInt8} {r : Int} {k : Nat} (h : one s = some (r, k)) : right r = true := by
  obtain ⟨h1, _, _, h4⟩ := one_some h
  by_cases hr : right r = true
  · exact hr
  · have : rlen r = 0 := by unfold rlen; rw [if_neg hr]
    omega
theorem runesF_right : ∀ (f : Nat) (a : Int) (s : List UInt8), ∀ r ∈ (runesF f a s).1, right r = true
  | 0, a, s, r, hr => by simp [runesF] at hr
  | f + 1, a, s, r, hr => by
    rw [runesF_succ] at hr
    split at hr
    · simp at hr
    · cases ho : one s with
      | none => rw [ho] at hr; simp [runesN] at hr
      | some p =>
        obtain ⟨q, k⟩ := p
        rw [ho] at hr
        simp only [runesN, List.mem_cons] at hr
        rcases hr with rfl | hr
        · exact one_right ho
        · exact runesF_right f _ _ r hr
theorem runes_right (s : List UInt8) : strOk (runes s).1 = true := strOk_iff.2 (runesF_right _ _ _)
theorem formS_eq {s : List UInt8} (h : ¬ 0 ≤ (runes s).2) (soft join : Bool) : formS soft join s = (strS (formL soft join (runes s).1), true) := by
  unfold formS
  rw [if_neg h, formL_right (runes_right s)]
theorem formS_formS {s : List UInt8} (h : ¬ 0 ≤ (runes s).2) (a b i j : Bool) : formS b j (formS a i s).1 = formS (a || b) j s := by
  rw [formS_eq h, formS_eq h]
  dsimp only
  have hr := runes_str (formL_right (runes_right s) a i)
  rw [formS_eq (by rw [hr]; dsimp only; omega), hr]
  dsimp only
  rw [formL_formL]
theorem enc_len4 (r : Int) : (enc r).length ≤ 4 := by
  unfold enc
  repeat' split
  all_goals simp
theorem strS_len (l : List Int) : (strS l).length ≤ 4 * l.length := by
  unfold strS
  split
  · rename_i h
    clear h
    induction l with
    | nil => simp
    | cons r l ih =>
      have := enc_len4 r
      simp only [List.flatMap_cons, List.length_append, List.length_cons]
      omega
  · simp
theorem formL_len (soft join : Bool) (l : List Int) : (formL soft join l).length ≤ 4 * l.length := by
  have l1 := splt_len soft l
  have l2 := (ord_kin (spltL soft l)).2
  have l3 := jRun_len (ordL (spltL soft l))
  unfold formL
  split
  · show (jRun (ordL (spltL soft l))).out.length ≤ _
    omega
  · omega
theorem form_key {s : List UInt8} (hs : (runes s).1.length ≤ 2500) (h : ¬ 0 ≤ (runes s).2) (a i : Bool) : ∃ X, formS a i s = (X, true) ∧ X.length ≤ 10000000 ∧ (runes X).1.length ≤ 10000 ∧ ∀ b j, formS b j X = formS (a || b) j s := by
  have h1 := formL_len a i (runes s).1
  have h2 := strS_len (formL a i (runes s).1)
  have h3 := runes_str (formL_right (runes_right s) a i)
  refine ⟨strS (formL a i (runes s).1), formS_eq h a i, by omega, by rw [h3]; dsimp only; omega, fun b j => ?_⟩
  have := formS_formS h a b i j
  rw [formS_eq h a i] at this
  exact this
end Go.AE
end
section
/- Bytes are told back by what is read of them. -/
namespace Go.AE
set_option linter.unusedSimpArgs false
def cutAt (a : Int) (n : Nat) : Nat := if a < 0 then n else a.toNat
theorem cutAt_neg (n : Nat) : cutAt (-1) n = n := rfl
theorem cutAt_nn {a : Int} (h : 0 ≤ a) (n : Nat) : cutAt a n = a.toNat := if_neg (by omega)
theorem runesF_back : ∀ (f : Nat) (s : List UInt8), s.length < f → strOk (runesF f 0 s).1 = true ∧ (runesF f 0 s).1.flatMap enc = s.take (cutAt (runesF f 0 s).2 s.length) ∧ (runesF f 0 s).2 ≤ s.length := by
  intro f
  induction f with
  | zero => intro s h; omega
  | succ f ih =>
    intro s hf
    rw [runesF_succ]
    split
    · cases s <;> simp_all [strOk, cutAt]
    · cases ho : one s with
      | none => simp [runesN, strOk, cutAt]
      | some p =>
        obtain ⟨r, n⟩ := p
        obtain ⟨h1, h2, h3, h4⟩ := one_some ho
        have h5 := ih (s.drop n) (by simp; omega)
        have h6 := runesF_shift f 0 n (s.drop n) (by omega)
        have hr : right r = true := by
          cases h : right r with
          | true => rfl
          | false => have := (rlen0 _).2 h; omega
        simp only [runesN]
        rw [h6.1]
        simp only [List.length_drop] at h5
        refine ⟨by simp only [strOk, List.all_cons, hr]; exact h5.1, ?_, ?_⟩
        · rw [List.flatMap_cons, h5.2.1, h2]
          rcases h6.2 with ⟨h7, h8⟩ | ⟨h7, h8⟩
          · rw [h7, h8]
            have e1 : (s.drop n).take (s.length - n) = s.drop n := List.take_of_length_le (by simp)
            rw [cutAt_neg, cutAt_neg, e1, List.take_append_drop, List.take_length]
          · rw [h8, cutAt_nn (by omega), cutAt_nn (by omega)]
            rw [show ((runesF f 0 (s.drop n)).2 + (n : Int)).toNat = n + (runesF f 0 (s.drop n)).2.toNat by omega, List.take_add]
        · rcases h6.2 with ⟨h7, h8⟩ | ⟨h7, h8⟩ <;> rw [h8] <;> omega
theorem runes_back (s : List UInt8) : strOk (runes s).1 = true ∧ strS (runes s).1 = s.take (cutAt (runes s).2 s.length) ∧ (runes s).2 ≤ s.length := by
  have h : strOk (runes s).1 = true ∧ (runes s).1.flatMap enc = s.take (cutAt (runes s).2 s.length) ∧ (runes s).2 ≤ s.length := runesF_back (s.length + 1) s (by omega)
  refine ⟨h.1, ?_, h.2.2⟩
  unfold strS
  rw [if_pos h.1]
  exact h.2.1

theorem runes_at (s : List UInt8) : (runes s).2 = -1 ∨ 0 ≤ (runes s).2 := by
  have := (runesF_shift (s.length + 1) 0 0 s (by omega)).2
  unfold runes
  omega
end Go.AE
end
section
/- What is folded: plain laws. -/
namespace Go.AE
set_option linter.unusedSimpArgs false
def nar (r : Int) : Int := if wide r then r - 65248 else r
def lw (r : Int) : Int := low (nar r)
theorem low_fix {r : Int} (h : cat r ≠ 1) : low r = r := Classical.byContradiction fun h1 => h (low_ne h1).1
theorem low_not {r : Int} (h : r ∉ lowAll) : low r = r := Classical.byContradiction fun h1 => h (low_all h1)
theorem wide_cls {r : Int} (h : wide r = true) : cls r = 0 := (spl_marks (wide_small h).2.1).2.1
theorem lw_mark {r : Int} (h : 0 < cls r) : lw r = r := by
  have hw : wide r = false := by
    cases hq : wide r with
    | false => rfl
    | true => have := wide_cls hq; omega
  have hc := (mark_iff r).1 h
  unfold lw nar
  rw [hw]
  exact low_fix (by simp; omega)
theorem low_big {r : Int} (h1 : 1104 ≤ r) (h2 : r ≤ 7843 ∨ 8492 ≤ r ∧ r ≤ 65280) : low r = r := low_not fun hm => by
  have := List.all_eq_true.1 (show (lowAll.all fun r => decide (r < 1104 ∨ 7843 < r ∧ r < 8492 ∨ 65280 < r)) = true by decide +kernel) r hm
  simp at this
  omega
theorem lw_big {r : Int} (h1 : 1104 ≤ r) (h2 : r ≤ 7843 ∨ 8492 ≤ r ∧ r ≤ 65280) : lw r = r := by
  have hw : wide r = false := by simp [wide]; omega
  unfold lw nar
  rw [hw]
  exact low_big h1 h2
theorem lw_han {r : Int} (h : han r = true) : lw r = r := by
  have : 44032 ≤ r ∧ r ≤ 55203 := by simpa [han] using h
  exact lw_big (by omega) (by omega)
theorem lw_syl {r : Int} (h : han r = true) : (syl r).map lw = syl r := by
  have : 44032 ≤ r ∧ r ≤ 55203 := by simpa [han] using h
  have key : ∀ l : List Int, (∀ x ∈ l, lw x = x) → l.map lw = l := fun l => by
    induction l with
    | nil => intro _; rfl
    | cons x l ih => intro h; rw [List.map_cons, h x (by simp), ih fun y hy => h y (List.mem_cons_of_mem _ hy)]
  refine key _ fun x hx => ?_
  unfold syl at hx
  split at hx
  · simp at hx; exact lw_big (by omega) (by omega)
  · simp at hx; exact lw_big (by omega) (by omega)
theorem spltL_one (soft : Bool) (x : Int) : spltL soft [x] = one1 soft x := by rw [spltL_cons]; exact List.append_nil _
theorem lw_splt (r : Int) : spltL false ((one1 false r).map lw) = one1 false (lw r) := by
  by_cases hh : han r = true
  · rw [lw_han hh, one1_eq false r, if_pos hh, lw_syl hh, spltL_syl hh]
  · have hh : han r = false := by simpa using hh
    cases hs : (spl r).2 with
    | false => rw [one1_no hh hs]; exact spltL_one _ _
    | true =>
      have := spl_all (q := fun r _ => decide (spltL false ((oneF 5 false r).map lw) = oneF 5 false (lw r))) (by decide +kernel) (by decide +kernel) hs
      exact of_decide_eq_true this
theorem lw_idem (r : Int) : lw (lw r) = lw r := by
  have key : wide (low (nar r)) = false := by
    cases hw : wide r with
    | true =>
      have hb := (wide_low hw)
      have e : nar r = r - 65248 := by unfold nar; rw [hw]; rfl
      rw [e]
      by_cases hl : low (r - 65248) = r - 65248
      · rw [hl]; simp [wide]; omega
      · have := List.all_eq_true.1 (show (lowAll.all fun r => decide (126 < r) || !wide (low r)) = true by decide +kernel) _ (low_all hl)
        simp at this
        rcases this with h | h
        · omega
        · exact h
    | false =>
      have e : nar r = r := by unfold nar; rw [hw]; rfl
      rw [e]
      by_cases hl : low r = r
      · rw [hl]; exact hw
      · have := List.all_eq_true.1 (show (lowAll.all fun r => wide r || !wide (low r)) = true by decide +kernel) _ (low_all hl)
        rw [hw] at this
        simpa using this
  show low (nar (low (nar r))) = low (nar r)
  rw [show nar (low (nar r)) = low (nar r) by rw [nar, key]; rfl, low_low]
theorem lw_right {r : Int} (h : right r = true) : right (lw r) = true := by
  have hn : right (nar r) = true := by
    unfold nar
    split
    · rename_i hw
      have : 65281 ≤ r ∧ r ≤ 65374 := by simpa [wide] using hw
      exact right_of (by omega)
    · exact h
  unfold lw
  by_cases hl : low (nar r) = nar r
  · rw [hl]; exact hn
  · exact List.all_eq_true.1 (show (lowAll.all fun r => right (low r)) = true by decide +kernel) _ (low_all hl)
theorem lw_strOk {l : List Int} (h : strOk l = true) : strOk (l.map lw) = true := by
  rw [strOk_iff] at h ⊢
  intro r hr
  obtain ⟨a, ha, rfl⟩ := List.mem_map.1 hr
  exact lw_right (h a ha)
/-! ### Folding and forms -/
theorem ord_map {f : Int → List Int} (hf : ∀ m, 0 < cls m → f m = [m]) : ∀ (T R Q : List Int), (∀ r ∈ R, 0 < cls r) → ordF Q ((ordF R T).flatMap f) = ordF (Q ++ R) (T.flatMap f) := by
  have marks : ∀ M : List Int, (∀ m ∈ M, 0 < cls m) → M.flatMap f = M := fun M => by
    induction M with
    | nil => intro _; rfl
    | cons m M ih => intro h; rw [List.flatMap_cons, hf m (h m (by simp)), ih fun x hx => h x (List.mem_cons_of_mem _ hx)]; rfl
  intro T
  induction T with
  | nil =>
    intro R Q h
    have hk := (ssort_up cls R).2
    have hm : ∀ m ∈ ssort cls R, 0 < cls m := fun m hm => h m (hk.mem.1 hm)
    rw [ordF, marks _ hm]
    have e := ordF_marks (ssort cls R) Q [] hm
    rw [List.append_nil] at e
    rw [e]
    exact ordF_congr [] _ _ (Kin.app (Kin.refl cls Q) hk)
  | cons x T ih =>
    intro R Q h
    rw [ordF]
    split
    · rename_i hx
      rw [ih (R ++ [x]) Q (fun r hr => by
        rcases List.mem_append.1 hr with hr | hr
        · exact h r hr
        · simp at hr; subst hr; exact hx), List.flatMap_cons, hf x hx, List.cons_append, List.nil_append, ordF, if_pos hx, List.append_assoc]
    · have hk := (ssort_up cls R).2
      have hm : ∀ m ∈ ssort cls R, 0 < cls m := fun m hm => h m (hk.mem.1 hm)
      rw [List.flatMap_append, marks _ hm, ordF_marks _ _ _ hm, List.flatMap_cons, List.flatMap_cons]
      rw [ordF_congr _ _ _ (Kin.app (Kin.refl cls Q) hk)]
      exact ordF_pre (fun P => by
        have := ih [] P (by simp)
        rwa [List.append_nil] at this) (f x) (Q ++ R)
theorem splt_map (l : List Int) : spltL false (l.map lw) = l.flatMap (fun r => one1 false (lw r)) := by
  unfold spltL
  rw [List.flatMap_map]
theorem lw_form (l : List Int) : ordL (spltL false ((ordL (spltL false l)).map lw)) = ordL (spltL false (l.map lw)) := by
  rw [splt_map]
  have := ord_map (f := fun r => one1 false (lw r)) (fun m hm => by rw [lw_mark hm, one_mark hm]) (spltL false l) [] [] (by simp)
  rw [List.append_nil] at this
  refine this.trans ?_
  show ordL ((spltL false l).flatMap fun r => one1 false (lw r)) = _
  rw [splt_map]
  congr 1
  unfold spltL
  rw [List.flatMap_assoc]
  congr 1
  funext r
  have := lw_splt r
  unfold spltL at this
  rw [List.flatMap_map] at this
  exact this
theorem lw_join (l : List Int) : ordL (spltL false ((joinL l).map lw)) = ordL (spltL false (l.map lw)) := by
  rw [← lw_form (joinL l), form_join, lw_form]
theorem lw_formL (join : Bool) (l : List Int) : ordL (spltL false ((formL false join l).map lw)) = ordL (spltL false (l.map lw)) := by
  unfold formL
  split
  · rw [lw_join, lw_form]
  · rw [lw_form]
def foldL (l : List Int) : List Int := formL false true (l.map lw)
theorem foldL_eq (l : List Int) : foldL l = joinL (ordL (spltL false (l.map lw))) := rfl
theorem foldL_form (join : Bool) (l : List Int) : foldL (formL false join l) = foldL l := by rw [foldL_eq, lw_formL, foldL_eq]
/-- A character that folding leaves. -/
theorem fx_one {r : Int} (h : lw r = r) : ∀ x ∈ one1 false r, lw x = x := by
  by_cases hh : han r = true
  · intro x hx
    rw [one1_eq, if_pos hh] at hx
    have : 44032 ≤ r ∧ r ≤ 55203 := by simpa [han] using hh
    unfold syl at hx
    split at hx
    · simp at hx; exact lw_big (by omega) (by omega)
    · simp at hx; exact lw_big (by omega) (by omega)
  · have hh : han r = false := by simpa using hh
    cases hs : (spl r).2 with
    | false => rw [one1_no hh hs]; intro x hx; simp at hx; subst hx; exact h
    | true =>
      have := spl_all (q := fun r _ => !decide (lw r = r) || (oneF 5 false r).all fun x => decide (lw x = x)) (by decide +kernel) (by decide +kernel) hs
      simp only [h, decide_true, Bool.not_true, Bool.false_or, List.all_eq_true, decide_eq_true_eq] at this
      exact this
theorem fx_mk2 {a b : Int} (h : (mk2 a b).2 = true) (ha : lw a = a) (hb : lw b = b) : lw (mk2 a b).1 = (mk2 a b).1 := by
  unfold mk2 at h ⊢
  split
  · exact lw_big (by dsimp only; omega) (by dsimp only; omega)
  · rename_i h1
    rw [if_neg h1] at h
    split
    · rename_i h2
      have ha : 44032 ≤ a ∧ a ≤ 55203 := by simpa [han] using h2.1
      exact lw_big (by dsimp only; omega) (by dsimp only; omega)
    · rename_i h2
      rw [if_neg h2] at h
      obtain ⟨q1, q2, q3, q4⟩ := pairs_bwd h
      have := spl_all (q := fun r s => s.2.2.2.2 || !(decide (lw s.2.1 = s.2.1) && decide (lw s.2.2.1 = s.2.2.1)) || decide (lw r = r)) (by decide +kernel) (by decide +kernel) q1
      simp only [q2, q3, q4, ha, hb, decide_true, Bool.and_self, Bool.not_true, Bool.or_self, Bool.false_or, decide_eq_true_eq] at this
      exact this
theorem put_all {p : Int → Prop} {s : JS} {x : Int} (h : ∀ r ∈ s.out, p r) (hx : p x) : ∀ r ∈ (s.put x).out, p r := fun r hr => by
  rw [put_out] at hr
  rcases List.mem_append.1 hr with hr | hr
  · exact h r hr
  · simp at hr; subst hr; exact hx
theorem jStep_all {p : Int → Prop} (hp : ∀ a b, p a → p b → (mk2 a b).2 = true → p (mk2 a b).1) {s : JS} {x : Int} (h : ∀ r ∈ s.out, p r) (hx : p x) : ∀ r ∈ (jStep s x).out, p r := by
  unfold jStep
  split
  · exact put_all h hx
  · rename_i b hb
    split
    · split
      · rename_i h2
        intro r hr
        simp only [JS.out, hb, Option.toList, List.mem_append, List.mem_singleton, or_assoc] at hr h
        rcases hr with hr | hr | hr
        · exact h r (Or.inl hr)
        · subst hr; exact hp b x (h b (Or.inr (Or.inl rfl))) hx h2
        · exact h r (Or.inr (Or.inr hr))
      · exact put_all h hx
    · exact put_all h hx
theorem joinL_all {p : Int → Prop} (hp : ∀ a b, p a → p b → (mk2 a b).2 = true → p (mk2 a b).1) {l : List Int} (h : ∀ r ∈ l, p r) : ∀ r ∈ joinL l, p r := by
  have key : ∀ (l : List Int) (s : JS), (∀ r ∈ s.out, p r) → (∀ r ∈ l, p r) → ∀ r ∈ (l.foldl jStep s).out, p r := fun l => by
    induction l with
    | nil => intro s h _; exact h
    | cons x l ih => intro s h hl; exact ih _ (jStep_all hp h (hl x (by simp))) fun r hr => hl r (List.mem_cons_of_mem _ hr)
  exact key l ⟨[], none, []⟩ (by simp [JS.out]) h
/-- NOTHING THAT IS FOLDED IS CHANGED BY FOLDING. -/
theorem fx_fold (l : List Int) : ∀ r ∈ foldL l, lw r = r := by
  rw [foldL_eq]
  refine joinL_all (fun a b ha hb h => fx_mk2 h ha hb) fun r hr => ?_
  obtain ⟨a, ha, hra⟩ := List.mem_flatMap.1 ((ord_kin _).1.mem.1 hr)
  obtain ⟨c, hc, rfl⟩ := List.mem_map.1 ha
  exact fx_one (lw_idem c) r hra
theorem map_fix {l : List Int} (h : ∀ r ∈ l, lw r = r) : l.map lw = l := by
  induction l with
  | nil => rfl
  | cons x l ih => rw [List.map_cons, h x (by simp), ih fun r hr => h r (List.mem_cons_of_mem _ hr)]
theorem form_fold (l : List Int) : formL false true (foldL l) = foldL l := formL_formL false false true true (l.map lw)
theorem fold_fold (l : List Int) : foldL (foldL l) = foldL l := by
  have : foldL (foldL l) = formL false true ((foldL l).map lw) := rfl
  rw [this, map_fix (fx_fold l), form_fold]
theorem fx_small {r : Int} (h : lw r = r) : cat r ≠ 1 ∧ wide r = false := by
  have hw : wide r = false := by
    cases hq : wide r with
    | false => rfl
    | true =>
      have := List.all_eq_true.1 (show ((expand 65281 65374).all fun r => decide (lw r ≠ r)) = true by decide +kernel) r (mem_expand (by simp [wide] at hq; omega) (by simp [wide] at hq; omega))
      simp at this
      exact absurd h this
  refine ⟨fun hc => ?_, hw⟩
  have := List.all_eq_true.1 (show ((withCat 1).all fun r => decide (lw r ≠ r)) = true by decide +kernel) r (cat_mem (by decide) hc)
  simp at this
  exact this h
def foldS (s : List UInt8) : List UInt8 × Bool := if 0 ≤ (runes s).2 then ([], false) else (strS (foldL (runes s).1), true)
theorem foldS_eq (s : List UInt8) : foldS s = if 0 ≤ (runes s).2 then ([], false) else formS false true (strS ((runes s).1.map lw)) := by
  unfold foldS
  split
  · rfl
  · have hr := runes_str (lw_strOk (runes_right s))
    rw [formS_eq (by rw [hr]; dsimp only; omega), hr]; rfl
theorem foldL_right {l : List Int} (h : strOk l = true) : strOk (foldL l) = true := formL_right (lw_strOk h) false true
theorem foldS_at {s : List UInt8} (h : ¬ 0 ≤ (runes s).2) : foldS s = (strS (foldL (runes s).1), true) := by unfold foldS; rw [if_neg h]
theorem runes_fold {s : List UInt8} : runes (strS (foldL (runes s).1)) = (foldL (runes s).1, -1) := runes_str (foldL_right (runes_right s))
theorem foldS_form {s : List UInt8} (h : ¬ 0 ≤ (runes s).2) (join : Bool) : foldS (formS false join s).1 = foldS s := by
  have hr := runes_str (formL_right (runes_right s) false join)
  rw [formS_eq h, foldS_at (by rw [hr]; dsimp only; omega), hr, foldS_at h]
  dsimp only
  rw [foldL_form]
theorem foldS_foldS {s : List UInt8} (h : ¬ 0 ≤ (runes s).2) : foldS (foldS s).1 = foldS s := by
  rw [foldS_at h, foldS_at (by rw [runes_fold]; dsimp only; omega), runes_fold]
  dsimp only
  rw [fold_fold]
theorem form_foldS {s : List UInt8} (h : ¬ 0 ≤ (runes s).2) : formS false true (foldS s).1 = foldS s := by
  rw [foldS_at h]
  dsimp only
  rw [formS_eq (by rw [runes_fold]; dsimp only; omega), runes_fold]
  dsimp only
  rw [form_fold]
theorem foldL_len (l : List Int) : (foldL l).length ≤ 4 * l.length := by have := formL_len false true (l.map lw); rw [List.length_map] at this; exact this
end Go.AE
end
