/- Contracts of functions that the laws of this seat reach, and plain laws of what they compute. No condition beyond each statement's own. -/
import Derived.Test.YtekgeapohenheaaGreatSC
import Derived.Test.YtekgeapohenheaaGreatV1
set_option linter.unusedVariables false
set_option linter.unusedSimpArgs false
section
/- What characters are split into, by the document: its contract. -/
namespace Go.AE
open Go.Proofs
set_option maxRecDepth 20000
set_option maxHeartbeats 4000000
set_option linter.unusedSimpArgs false
theorem rsyl_spec (r : Int) : Spec Tryz.prog 132 [I32 r] (Bv (han r)) := by
  refine spec_mk (z := false) (ts := [.tmp 2]) ok1 Tryz.func132 rfl rfl (by decide +kernel) (by simp [Tryz.ntmps132]) rfl ?_
  repeat' first | simp (maxSteps := 4000000) (disch := omega) only [bunL, bunD, bun, ↓WG_true, ↓WG_false, labelOf, findLabel, ↓reduceIte, imp, shift, killO, cond_true, cond_false, hasId, ne_eq, unown, names, plainR, below, noF, isF, lendObs, lendOb, kindOk, ren, givL, updM, backO, renO, belowM, seval, -Int.reduceToNat, B4, B21, bunN, tab_fz, tab_bel, tab_names, splitC] | refine DR_q _ ?_ | (refine Fk.fk ?_ ?_ <;> intro hg <;> (try simp only [hg]) <;> (try simp only [bunB, ne_eq] at hg) <;> try (exfalso; first | omega | exact Bool.noConfusion hg | exact hg trivial)) | refine And.intro (by omega) ?_ | omega
  all_goals (simp [han]; omega)
theorem rmake_spec (a b : Int) (ha : okR a) (hb : okR b) : Spec Tryz.prog 117 [I32 a, I32 b] (.tup [I32 (mk2 a b).1, Bv (mk2 a b).2]) := by
  refine spec_mk (z := false) (ts := [.tmp 4, .tmp 5]) ok1 Tryz.func117 rfl rfl (by decide +kernel) (by simp [Tryz.ntmps117]) rfl ?_
  obtain ⟨ha0, ha1⟩ := ha
  obtain ⟨hb0, hb1⟩ := hb
  by_cases h1 : 4352 ≤ a ∧ a ≤ 4370 ∧ 4449 ≤ b ∧ b ≤ 4469
  · have e : mk2 a b = (44032 + (a - 4352) * 588 + (b - 4449) * 28, true) := by unfold mk2; rw [if_pos h1]
    rw [e]
    repeat' first | simp (maxSteps := 4000000) (disch := omega) only [bunL, bunD, bun, ↓WG_true, ↓WG_false, labelOf, findLabel, ↓reduceIte, imp, shift, killO, cond_true, cond_false, hasId, ne_eq, unown, names, plainR, below, noF, isF, lendObs, lendOb, kindOk, ren, givL, updM, backO, renO, belowM, seval, -Int.reduceToNat, B4, B21, bunN, tab_fz, tab_bel, tab_names, splitC] | refine DR_q _ ?_ | (refine Fk.fk ?_ ?_ <;> intro hg <;> (try simp only [hg]) <;> (try simp only [bunB, ne_eq] at hg) <;> try (exfalso; first | omega | exact Bool.noConfusion hg | exact hg trivial)) | refine And.intro (by omega) ?_ | omega
  · cases hh : han a with
    | false =>
      have e : mk2 a b = pr a b := by unfold mk2; rw [if_neg h1, if_neg (by rw [hh]; simp)]
      rw [e]
      by_cases c1 : 4352 ≤ a
      · by_cases c2 : a ≤ 4370
        · by_cases c3 : 4449 ≤ b
          · repeat' first | refine WE_fit (rsyl_spec a) ?_ ?_ | refine WE_fit (rpair_spec a b) ?_ ?_ | simp (maxSteps := 4000000) (disch := omega) only [bunL, bunD, bun, ↓WG_true, ↓WG_false, labelOf, findLabel, ↓reduceIte, imp, shift, killO, cond_true, cond_false, hasId, ne_eq, unown, names, plainR, below, noF, isF, lendObs, lendOb, kindOk, ren, givL, updM, backO, renO, belowM, seval, -Int.reduceToNat, hh, B4, B21, bunN, tab_fz, tab_bel, tab_names, splitC] | exact NK_no _ | refine NK_cl _ _ ?_ | exact Cln.cl | refine clean_tup _ ?_ | refine cleans_cons _ _ ?_ ?_ | refine DR_q _ ?_ | (refine Fk.fk ?_ ?_ <;> intro hg <;> (try simp only [hg]) <;> (try simp only [bunB, ne_eq] at hg) <;> try (exfalso; first | omega | exact Bool.noConfusion hg | exact hg trivial)) | refine And.intro (by omega) ?_ | omega
          · repeat' first | refine WE_fit (rsyl_spec a) ?_ ?_ | refine WE_fit (rpair_spec a b) ?_ ?_ | simp (maxSteps := 4000000) (disch := omega) only [bunL, bunD, bun, ↓WG_true, ↓WG_false, labelOf, findLabel, ↓reduceIte, imp, shift, killO, cond_true, cond_false, hasId, ne_eq, unown, names, plainR, below, noF, isF, lendObs, lendOb, kindOk, ren, givL, updM, backO, renO, belowM, seval, -Int.reduceToNat, hh, B4, B21, bunN, tab_fz, tab_bel, tab_names, splitC] | exact NK_no _ | refine NK_cl _ _ ?_ | exact Cln.cl | refine clean_tup _ ?_ | refine cleans_cons _ _ ?_ ?_ | refine DR_q _ ?_ | (refine Fk.fk ?_ ?_ <;> intro hg <;> (try simp only [hg]) <;> (try simp only [bunB, ne_eq] at hg) <;> try (exfalso; first | omega | exact Bool.noConfusion hg | exact hg trivial)) | refine And.intro (by omega) ?_ | omega
        · repeat' first | refine WE_fit (rsyl_spec a) ?_ ?_ | refine WE_fit (rpair_spec a b) ?_ ?_ | simp (maxSteps := 4000000) (disch := omega) only [bunL, bunD, bun, ↓WG_true, ↓WG_false, labelOf, findLabel, ↓reduceIte, imp, shift, killO, cond_true, cond_false, hasId, ne_eq, unown, names, plainR, below, noF, isF, lendObs, lendOb, kindOk, ren, givL, updM, backO, renO, belowM, seval, -Int.reduceToNat, hh, B4, B21, bunN, tab_fz, tab_bel, tab_names, splitC] | exact NK_no _ | refine NK_cl _ _ ?_ | exact Cln.cl | refine clean_tup _ ?_ | refine cleans_cons _ _ ?_ ?_ | refine DR_q _ ?_ | (refine Fk.fk ?_ ?_ <;> intro hg <;> (try simp only [hg]) <;> (try simp only [bunB, ne_eq] at hg) <;> try (exfalso; first | omega | exact Bool.noConfusion hg | exact hg trivial)) | refine And.intro (by omega) ?_ | omega
      · repeat' first | refine WE_fit (rsyl_spec a) ?_ ?_ | refine WE_fit (rpair_spec a b) ?_ ?_ | simp (maxSteps := 4000000) (disch := omega) only [bunL, bunD, bun, ↓WG_true, ↓WG_false, labelOf, findLabel, ↓reduceIte, imp, shift, killO, cond_true, cond_false, hasId, ne_eq, unown, names, plainR, below, noF, isF, lendObs, lendOb, kindOk, ren, givL, updM, backO, renO, belowM, seval, -Int.reduceToNat, hh, B4, B21, bunN, tab_fz, tab_bel, tab_names, splitC] | exact NK_no _ | refine NK_cl _ _ ?_ | exact Cln.cl | refine clean_tup _ ?_ | refine cleans_cons _ _ ?_ ?_ | refine DR_q _ ?_ | (refine Fk.fk ?_ ?_ <;> intro hg <;> (try simp only [hg]) <;> (try simp only [bunB, ne_eq] at hg) <;> try (exfalso; first | omega | exact Bool.noConfusion hg | exact hg trivial)) | refine And.intro (by omega) ?_ | omega
    | true =>
      have hb' : 44032 ≤ a ∧ a ≤ 55203 := by simpa [han] using hh
      by_cases h2 : (a - 44032) % 28 = 0 ∧ 4520 ≤ b ∧ b ≤ 4546
      · have e : mk2 a b = (a + b - 4519, true) := by unfold mk2; rw [if_neg h1, if_pos ⟨hh, h2⟩]
        rw [e]
        repeat' first | refine WE_fit (rsyl_spec a) ?_ ?_ | refine WE_fit (rpair_spec a b) ?_ ?_ | simp (maxSteps := 4000000) (disch := omega) only [bunL, bunD, bun, ↓WG_true, ↓WG_false, labelOf, findLabel, ↓reduceIte, imp, shift, killO, cond_true, cond_false, hasId, ne_eq, unown, names, plainR, below, noF, isF, lendObs, lendOb, kindOk, ren, givL, updM, backO, renO, belowM, seval, -Int.reduceToNat, hh, B4, B21, bunN, tab_fz, tab_bel, tab_names, splitC] | exact NK_no _ | refine NK_cl _ _ ?_ | exact Cln.cl | refine clean_tup _ ?_ | refine cleans_cons _ _ ?_ ?_ | refine DR_q _ ?_ | (refine Fk.fk ?_ ?_ <;> intro hg <;> (try simp only [hg]) <;> (try simp only [bunB, ne_eq] at hg) <;> try (exfalso; first | omega | exact Bool.noConfusion hg | exact hg trivial)) | refine And.intro (by omega) ?_ | omega
      · have e : mk2 a b = pr a b := by unfold mk2; rw [if_neg h1, if_neg (fun h => h2 h.2)]
        rw [e]
        by_cases c1 : (a - 44032) % 28 = 0
        · by_cases c2 : 4520 ≤ b
          · repeat' first | refine WE_fit (rsyl_spec a) ?_ ?_ | refine WE_fit (rpair_spec a b) ?_ ?_ | simp (maxSteps := 4000000) (disch := omega) only [bunL, bunD, bun, ↓WG_true, ↓WG_false, labelOf, findLabel, ↓reduceIte, imp, shift, killO, cond_true, cond_false, hasId, ne_eq, unown, names, plainR, below, noF, isF, lendObs, lendOb, kindOk, ren, givL, updM, backO, renO, belowM, seval, -Int.reduceToNat, hh, B4, B21, bunN, tab_fz, tab_bel, tab_names, splitC] | exact NK_no _ | refine NK_cl _ _ ?_ | exact Cln.cl | refine clean_tup _ ?_ | refine cleans_cons _ _ ?_ ?_ | refine DR_q _ ?_ | (refine Fk.fk ?_ ?_ <;> intro hg <;> (try simp only [hg]) <;> (try simp only [bunB, ne_eq] at hg) <;> try (exfalso; first | omega | exact Bool.noConfusion hg | exact hg trivial)) | refine And.intro (by omega) ?_ | omega
          · repeat' first | refine WE_fit (rsyl_spec a) ?_ ?_ | refine WE_fit (rpair_spec a b) ?_ ?_ | simp (maxSteps := 4000000) (disch := omega) only [bunL, bunD, bun, ↓WG_true, ↓WG_false, labelOf, findLabel, ↓reduceIte, imp, shift, killO, cond_true, cond_false, hasId, ne_eq, unown, names, plainR, below, noF, isF, lendObs, lendOb, kindOk, ren, givL, updM, backO, renO, belowM, seval, -Int.reduceToNat, hh, B4, B21, bunN, tab_fz, tab_bel, tab_names, splitC] | exact NK_no _ | refine NK_cl _ _ ?_ | exact Cln.cl | refine clean_tup _ ?_ | refine cleans_cons _ _ ?_ ?_ | refine DR_q _ ?_ | (refine Fk.fk ?_ ?_ <;> intro hg <;> (try simp only [hg]) <;> (try simp only [bunB, ne_eq] at hg) <;> try (exfalso; first | omega | exact Bool.noConfusion hg | exact hg trivial)) | refine And.intro (by omega) ?_ | omega
        · repeat' first | refine WE_fit (rsyl_spec a) ?_ ?_ | refine WE_fit (rpair_spec a b) ?_ ?_ | simp (maxSteps := 4000000) (disch := omega) only [bunL, bunD, bun, ↓WG_true, ↓WG_false, labelOf, findLabel, ↓reduceIte, imp, shift, killO, cond_true, cond_false, hasId, ne_eq, unown, names, plainR, below, noF, isF, lendObs, lendOb, kindOk, ren, givL, updM, backO, renO, belowM, seval, -Int.reduceToNat, hh, B4, B21, bunN, tab_fz, tab_bel, tab_names, splitC] | exact NK_no _ | refine NK_cl _ _ ?_ | exact Cln.cl | refine clean_tup _ ?_ | refine cleans_cons _ _ ?_ ?_ | refine DR_q _ ?_ | (refine Fk.fk ?_ ?_ <;> intro hg <;> (try simp only [hg]) <;> (try simp only [bunB, ne_eq] at hg) <;> try (exfalso; first | omega | exact Bool.noConfusion hg | exact hg trivial)) | refine And.intro (by omega) ?_ | omega
theorem rone_stop (r : Int) (soft : Bool) (hr : okR r) (h : han r = true ∨ stop soft r = true) : Spec Tryz.prog 116 [I32 r, Bv soft] (.own 21 1 (one1 soft r).length ((one1 soft r).map I32)) := by
  have he := one1_eq soft r
  refine spec_mk (z := false) (ts := [.tmp 4]) ok1 Tryz.func116 rfl rfl (by decide +kernel) (by simp [Tryz.ntmps116]) rfl ?_
  cases hh : han r with
  | true =>
    rw [hh, if_pos rfl] at he
    have hb : 44032 ≤ r ∧ r ≤ 55203 := by simpa [han] using hh
    by_cases h28 : (r - 44032) % 28 = 0
    · have hs : one1 soft r = [4352 + (r - 44032) / 588, 4449 + (r - 44032) % 588 / 28] := by rw [he, syl, if_pos h28]; rfl
      rw [hs]
      repeat' first | refine WE_fit (rsyl_spec r) ?_ ?_ | simp (maxSteps := 4000000) (disch := omega) only [bunL, bunD, bun, ↓WG_true, ↓WG_false, labelOf, findLabel, ↓reduceIte, imp, shift, killO, cond_true, cond_false, hasId, ne_eq, unown, names, plainR, below, noF, isF, lendObs, lendOb, kindOk, ren, givL, updM, backO, renO, belowM, seval, -Int.reduceToNat, hh, D48, B21, B53, bunN, tab_fz, tab_bel, tab_names, splitC] | exact NK_no _ | refine NK_cl _ _ ?_ | exact Cln.cl | refine clean_tup _ ?_ | refine cleans_cons _ _ ?_ ?_ | refine DR_q _ ?_ | (refine Fk.fk ?_ ?_ <;> intro hg <;> (try simp only [hg]) <;> (try simp only [bunB, ne_eq] at hg) <;> try (exfalso; first | omega | exact Bool.noConfusion hg | exact hg trivial)) | refine And.intro (by omega) ?_ | omega
    · have hs : one1 soft r = [4352 + (r - 44032) / 588, 4449 + (r - 44032) % 588 / 28, 4519 + (r - 44032) % 28] := by rw [he, syl, if_neg h28]; rfl
      rw [hs]
      repeat' first | refine WE_fit (rsyl_spec r) ?_ ?_ | simp (maxSteps := 4000000) (disch := omega) only [bunL, bunD, bun, ↓WG_true, ↓WG_false, labelOf, findLabel, ↓reduceIte, imp, shift, killO, cond_true, cond_false, hasId, ne_eq, unown, names, plainR, below, noF, isF, lendObs, lendOb, kindOk, ren, givL, updM, backO, renO, belowM, seval, -Int.reduceToNat, hh, D48, B21, B53, bunN, tab_fz, tab_bel, tab_names, splitC] | exact NK_no _ | refine NK_cl _ _ ?_ | exact Cln.cl | refine clean_tup _ ?_ | refine cleans_cons _ _ ?_ ?_ | refine DR_q _ ?_ | (refine Fk.fk ?_ ?_ <;> intro hg <;> (try simp only [hg]) <;> (try simp only [bunB, ne_eq] at hg) <;> try (exfalso; first | omega | exact Bool.noConfusion hg | exact hg trivial)) | refine And.intro (by omega) ?_ | omega
  | false =>
    have hst := h.resolve_left (by rw [hh]; simp)
    rw [hh, hst] at he
    have hs : one1 soft r = [r] := by rw [he]; simp
    rw [hs]
    unfold stop at hst
    cases h2 : (spl r).2 with
    | false => repeat' first | refine WE_fit (rsyl_spec r) ?_ ?_ | refine WE_fit (rsplit_spec r) ?_ ?_ | simp (maxSteps := 4000000) (disch := omega) only [bunL, bunD, bun, ↓WG_true, ↓WG_false, labelOf, findLabel, ↓reduceIte, imp, shift, killO, cond_true, cond_false, hasId, ne_eq, unown, names, plainR, below, noF, isF, lendObs, lendOb, kindOk, ren, givL, updM, backO, renO, belowM, seval, -Int.reduceToNat, hh, h2, D48, B21, B53, bunN, tab_fz, tab_bel, tab_names, splitC] | exact NK_no _ | refine NK_cl _ _ ?_ | exact Cln.cl | refine clean_tup _ ?_ | refine cleans_cons _ _ ?_ ?_ | refine DR_q _ ?_ | (refine Fk.fk ?_ ?_ <;> intro hg <;> (try simp only [hg]) <;> (try simp only [bunB, ne_eq] at hg) <;> try (exfalso; first | omega | exact Bool.noConfusion hg | exact hg trivial)) | refine And.intro (by omega) ?_ | omega
    | true =>
      rw [h2] at hst
      cases h3 : (spl r).1.2.2.2.1 with
      | false => rw [h3] at hst; simp at hst
      | true =>
        cases soft with
        | true => rw [h3] at hst; simp at hst
        | false => repeat' first | refine WE_fit (rsyl_spec r) ?_ ?_ | refine WE_fit (rsplit_spec r) ?_ ?_ | simp (maxSteps := 4000000) (disch := omega) only [bunL, bunD, bun, ↓WG_true, ↓WG_false, labelOf, findLabel, ↓reduceIte, imp, shift, killO, cond_true, cond_false, hasId, ne_eq, unown, names, plainR, below, noF, isF, lendObs, lendOb, kindOk, ren, givL, updM, backO, renO, belowM, seval, -Int.reduceToNat, hh, h2, h3, D48, B21, B53, bunN, tab_fz, tab_bel, tab_names, splitC] | exact NK_no _ | refine NK_cl _ _ ?_ | exact Cln.cl | refine clean_tup _ ?_ | refine cleans_cons _ _ ?_ ?_ | refine DR_q _ ?_ | (refine Fk.fk ?_ ?_ <;> intro hg <;> (try simp only [hg]) <;> (try simp only [bunB, ne_eq] at hg) <;> try (exfalso; first | omega | exact Bool.noConfusion hg | exact hg trivial)) | refine And.intro (by omega) ?_ | omega
theorem rone_spec : ∀ (n : Nat) (r : Int) (soft : Bool), Deep n r → okR r → Spec Tryz.prog 116 [I32 r, Bv soft] (.own 21 1 (one1 soft r).length ((one1 soft r).map I32)) := by
  intro n
  induction n with
  | zero => intro r soft hd hr; exact rone_stop r soft hr (.inr (by simp [stop, show (spl r).2 = false from hd]))
  | succ n ih =>
    intro r soft hd hr
    by_cases hs : han r = true ∨ stop soft r = true
    · exact rone_stop r soft hr hs
    · have h1 : han r = false := by simpa using fun h => hs (.inl h)
      have h2 : stop soft r = false := by simpa using fun h => hs (.inr h)
      have he := one1_eq soft r
      rw [h1, h2] at he
      have hsp : (spl r).2 = true := by
        unfold stop at h2
        cases hq : (spl r).2
        · rw [hq] at h2; simp at h2
        · rfl
      have hsoft : ((spl r).1.2.2.2.1 && !soft) = false := by
        unfold stop at h2
        rw [hsp] at h2
        simpa using h2
      obtain ⟨b1, b2, b3, b4⟩ := spl_bounds hsp
      have i1 := ih (spl r).1.2.1 soft (hd hsp).1 (by unfold okR; omega)
      have l1 := oneF_len 5 soft (spl r).1.2.1
      have l2 := oneF_len 5 soft (spl r).1.2.2.1
      rw [show oneF 5 soft (spl r).1.2.1 = one1 soft (spl r).1.2.1 from rfl] at l1
      rw [show oneF 5 soft (spl r).1.2.2.1 = one1 soft (spl r).1.2.2.1 from rfl] at l2
      by_cases h0 : (spl r).1.2.2.1 = 0
      · have hs1 : one1 soft r = one1 soft (spl r).1.2.1 := by rw [he]; simp [h0]
        rw [hs1]
        refine spec_mk (z := false) (ts := [.tmp 4]) ok1 Tryz.func116 rfl rfl (by decide +kernel) (by simp [Tryz.ntmps116]) rfl ?_
        cases h3 : (spl r).1.2.2.2.1 with
        | false => repeat' first | refine WE_fit (rsyl_spec r) ?_ ?_ | refine WE_fit (rsplit_spec r) ?_ ?_ | refine WE_fit (i1) ?_ ?_ | simp (maxSteps := 4000000) (disch := omega) only [bunL, bunD, bun, ↓WG_true, ↓WG_false, labelOf, findLabel, ↓reduceIte, imp, shift, killO, cond_true, cond_false, hasId, ne_eq, unown, names, plainR, below, noF, isF, lendObs, lendOb, kindOk, ren, givL, updM, backO, renO, belowM, seval, -Int.reduceToNat, h1, hsp, h3, h0, D48, B21, B53, bunN, tab_fz, tab_bel, tab_names, splitC] | exact NK_no _ | refine NK_cl _ _ ?_ | exact Cln.cl | refine clean_tup _ ?_ | refine cleans_cons _ _ ?_ ?_ | refine DR_q _ ?_ | (refine Fk.fk ?_ ?_ <;> intro hg <;> (try simp only [hg]) <;> (try simp only [bunB, ne_eq] at hg) <;> try (exfalso; first | omega | exact Bool.noConfusion hg | exact hg trivial)) | refine And.intro (by omega) ?_ | omega
        | true =>
          have : soft = true := by rw [h3] at hsoft; simpa using hsoft
          subst this
          repeat' first | refine WE_fit (rsyl_spec r) ?_ ?_ | refine WE_fit (rsplit_spec r) ?_ ?_ | refine WE_fit (i1) ?_ ?_ | simp (maxSteps := 4000000) (disch := omega) only [bunL, bunD, bun, ↓WG_true, ↓WG_false, labelOf, findLabel, ↓reduceIte, imp, shift, killO, cond_true, cond_false, hasId, ne_eq, unown, names, plainR, below, noF, isF, lendObs, lendOb, kindOk, ren, givL, updM, backO, renO, belowM, seval, -Int.reduceToNat, h1, hsp, h3, h0, D48, B21, B53, bunN, tab_fz, tab_bel, tab_names, splitC] | exact NK_no _ | refine NK_cl _ _ ?_ | exact Cln.cl | refine clean_tup _ ?_ | refine cleans_cons _ _ ?_ ?_ | refine DR_q _ ?_ | (refine Fk.fk ?_ ?_ <;> intro hg <;> (try simp only [hg]) <;> (try simp only [bunB, ne_eq] at hg) <;> try (exfalso; first | omega | exact Bool.noConfusion hg | exact hg trivial)) | refine And.intro (by omega) ?_ | omega
      · have i2 := ih (spl r).1.2.2.1 soft ((hd hsp).2 h0) (by unfold okR; omega)
        have hs1 : one1 soft r = one1 soft (spl r).1.2.1 ++ one1 soft (spl r).1.2.2.1 := by rw [he]; simp [h0]
        rw [hs1]
        refine spec_mk (z := false) (ts := [.tmp 4]) ok1 Tryz.func116 rfl rfl (by decide +kernel) (by simp [Tryz.ntmps116]) rfl ?_
        cases h3 : (spl r).1.2.2.2.1 with
        | false => repeat' first | refine WE_fit (rsyl_spec r) ?_ ?_ | refine WE_fit (rsplit_spec r) ?_ ?_ | refine WE_fit (i1) ?_ ?_ | refine WE_fit (i2) ?_ ?_ | simp (maxSteps := 4000000) (disch := omega) only [bunL, bunD, bun, ↓WG_true, ↓WG_false, labelOf, findLabel, ↓reduceIte, imp, shift, killO, cond_true, cond_false, hasId, ne_eq, unown, names, plainR, below, noF, isF, lendObs, lendOb, kindOk, ren, givL, updM, backO, renO, belowM, seval, -Int.reduceToNat, h1, hsp, h3, List.map_append, D48, B21, B53, bunN, tab_fz, tab_bel, tab_names, splitC] | exact NK_no _ | refine NK_cl _ _ ?_ | exact Cln.cl | refine clean_tup _ ?_ | refine cleans_cons _ _ ?_ ?_ | refine DR_q _ ?_ | (refine Fk.fk ?_ ?_ <;> intro hg <;> (try simp only [hg]) <;> (try simp only [bunB, ne_eq] at hg) <;> try (exfalso; first | omega | exact Bool.noConfusion hg | exact hg trivial)) | refine And.intro (by omega) ?_ | omega
        | true =>
          have : soft = true := by rw [h3] at hsoft; simpa using hsoft
          subst this
          repeat' first | refine WE_fit (rsyl_spec r) ?_ ?_ | refine WE_fit (rsplit_spec r) ?_ ?_ | refine WE_fit (i1) ?_ ?_ | refine WE_fit (i2) ?_ ?_ | simp (maxSteps := 4000000) (disch := omega) only [bunL, bunD, bun, ↓WG_true, ↓WG_false, labelOf, findLabel, ↓reduceIte, imp, shift, killO, cond_true, cond_false, hasId, ne_eq, unown, names, plainR, below, noF, isF, lendObs, lendOb, kindOk, ren, givL, updM, backO, renO, belowM, seval, -Int.reduceToNat, h1, hsp, h3, List.map_append, D48, B21, B53, bunN, tab_fz, tab_bel, tab_names, splitC] | exact NK_no _ | refine NK_cl _ _ ?_ | exact Cln.cl | refine clean_tup _ ?_ | refine cleans_cons _ _ ?_ ?_ | refine DR_q _ ?_ | (refine Fk.fk ?_ ?_ <;> intro hg <;> (try simp only [hg]) <;> (try simp only [bunB, ne_eq] at hg) <;> try (exfalso; first | omega | exact Bool.noConfusion hg | exact hg trivial)) | refine And.intro (by omega) ?_ | omega
theorem rone (r : Int) (soft : Bool) (hr : okR r) : Spec Tryz.prog 116 [I32 r, Bv soft] (.own 21 1 (one1 soft r).length ((one1 soft r).map I32)) := rone_spec 4 r soft (deep_all r) hr
theorem splt_take (soft : Bool) (l : List Int) (i : Nat) (h : i < l.length) : spltL soft (l.take (i + 1)) = spltL soft (l.take i) ++ one1 soft (l.getD i 0) := by
  unfold spltL
  rw [take_snocD l i 0 h, List.flatMap_append]; simp
theorem one1_len (soft : Bool) (r : Int) : (one1 soft r).length ≤ 4 := by
  rw [one1_eq]
  split
  · unfold syl; split <;> simp
  · split
    · simp
    · rename_i hst
      have hs : (spl r).2 = true := by
        unfold stop at hst
        cases hq : (spl r).2
        · rw [hq] at hst; simp at hst
        · rfl
      have h := spl_all (q := fun _ s => decide ((oneF 5 true s.2.1).length + (oneF 5 true s.2.2.1).length ≤ 4) && decide ((oneF 5 false s.2.1).length + (oneF 5 false s.2.2.1).length ≤ 4)) (by decide +kernel) (by decide +kernel) hs
      simp only [Bool.and_eq_true, decide_eq_true_eq] at h
      have h' : (oneF 5 soft (spl r).1.2.1).length + (oneF 5 soft (spl r).1.2.2.1).length ≤ 4 := by cases soft; exact h.2; exact h.1
      change (oneF 5 soft (spl r).1.2.1).length + _ ≤ 4 at h'
      split
      · show (oneF 5 soft (spl r).1.2.1).length ≤ 4; omega
      · rw [List.length_append]; exact h'
theorem splt_len (soft : Bool) : ∀ (l : List Int), (spltL soft l).length ≤ 4 * l.length
  | [] => by simp [spltL]
  | a :: l => by
    have h1 := splt_len soft l
    have h2 := one1_len soft a
    simp only [spltL, List.flatMap_cons, List.length_append, List.length_cons] at h1 ⊢
    omega
theorem rsplt_spec (l : List Int) (soft : Bool) (hl : l.length ≤ 20000) (hr : ∀ r ∈ l, okR r) : Spec Tryz.prog 89 [.sl l.length (l.map I32), Bv soft] (.own 21 1 (spltL soft l).length ((spltL soft l).map I32)) := by
  refine spec_mk (z := false) (ts := [.tmp 4]) ok1 Tryz.func89 rfl rfl (by decide +kernel) (by simp [Tryz.ntmps89]) rfl ?_
  repeat' first | simp (maxSteps := 4000000) (disch := omega) only [bunL, bunD, bun, ↓WG_true, ↓WG_false, labelOf, findLabel, ↓reduceIte, imp, shift, killO, cond_true, cond_false, hasId, ne_eq, unown, names, plainR, below, noF, isF, lendObs, lendOb, kindOk, ren, givL, updM, backO, renO, belowM, seval, -Int.reduceToNat, B3, B4, B21, B53, bunN, tab_fz, tab_bel, tab_names, splitC] | refine DR_q _ ?_ | (refine Fk.fk ?_ ?_ <;> intro hg <;> (try simp only [hg]) <;> (try simp only [bunB, ne_eq] at hg) <;> try (exfalso; first | omega | exact Bool.noConfusion hg | exact hg trivial)) | refine And.intro (by omega) ?_ | omega
  refine LP_intro (fun i : Nat => ⟨[(0, .sl l.length (l.map I32)), (1, Bv soft), (5, .ref 1 0 (spltL soft (l.take i)).length), (6, I64 i)], [.dead, .arr 21 1 ((spltL soft (l.take i)).map I32)]⟩) (fun i => i ≤ l.length) (fun i => l.length - i) 0 (by simp) (by (simp (disch := omega) [wk, wkT, wkM, noF, isF, get, belowT, belowM, below, belows, I64, I32, Bv, U8, Sv, spltL] <;> try omega)) ?_
  intro i hi
  have hln := splt_len soft (l.take i)
  have hlt0 : (l.take i).length = i := by simp; omega
  by_cases hlt : i < l.length
  · have ht := splt_take soft l i hlt
    have hg0 : okR (l.getD i 0) := hr _ (by simp [List.getD, hlt])
    have l1 := oneF_len 5 soft (l.getD i 0)
    rw [show oneF 5 soft (l.getD i 0) = one1 soft (l.getD i 0) from rfl] at l1
    repeat' first | refine WE_fit (rone (l.getD i 0) soft hg0) ?_ ?_ | simp (maxSteps := 4000000) (disch := omega) only [bunL, bunD, bun, ↓WG_true, ↓WG_false, labelOf, findLabel, ↓reduceIte, imp, shift, killO, cond_true, cond_false, hasId, ne_eq, unown, names, plainR, below, noF, isF, lendObs, lendOb, kindOk, ren, givL, updM, backO, renO, belowM, seval, -Int.reduceToNat, List.map_append, B3, B4, B21, B53, bunN, tab_fz, tab_bel, tab_names, splitC] | exact NK_no _ | refine NK_cl _ _ ?_ | exact Cln.cl | refine clean_tup _ ?_ | refine cleans_cons _ _ ?_ ?_ | refine DR_q _ ?_ | (refine Fk.fk ?_ ?_ <;> intro hg <;> (try simp only [hg]) <;> (try simp only [bunB, ne_eq] at hg) <;> try (exfalso; first | omega | exact Bool.noConfusion hg | exact hg trivial)) | refine And.intro (by omega) ?_ | omega
    refine ⟨i + 1, by omega, by omega, ?_⟩
    rw [ht]
    (simp (disch := omega) [wk, wkT, wkM, noF, isF, get, belowT, belowM, below, belows, I64, I32, Bv, U8, Sv, List.map_append] <;> try omega)
  · have e : i = l.length := by omega
    subst e
    rw [List.take_length] at *
    repeat' first | simp (maxSteps := 4000000) (disch := omega) only [bunL, bunD, bun, ↓WG_true, ↓WG_false, labelOf, findLabel, ↓reduceIte, imp, shift, killO, cond_true, cond_false, hasId, ne_eq, unown, names, plainR, below, noF, isF, lendObs, lendOb, kindOk, ren, givL, updM, backO, renO, belowM, seval, -Int.reduceToNat, B3, B4, B21, B53, bunN, tab_fz, tab_bel, tab_names, splitC] | refine DR_q _ ?_ | (refine Fk.fk ?_ ?_ <;> intro hg <;> (try simp only [hg]) <;> (try simp only [bunB, ne_eq] at hg) <;> try (exfalso; first | omega | exact Bool.noConfusion hg | exact hg trivial)) | refine And.intro (by omega) ?_ | omega
end Go.AE
end
section
/- Order, by the document: its contract. -/
namespace Go.AE
open Go.Proofs
set_option maxRecDepth 20000
set_option maxHeartbeats 4000000
set_option linter.unusedSimpArgs false
theorem rorder_spec (l : List Int) (hl : l.length ≤ 500000) (hr : ∀ r ∈ l, okR r) : Spec Tryz.prog 88 [.sl l.length (l.map I32)] (.own 21 1 l.length ((ordL l).map I32)) := by
  rw [← turn_ordL]
  refine spec_mk (z := false) (ts := [.tmp 2]) ok1 Tryz.func88 rfl rfl (by decide +kernel) (by simp [Tryz.ntmps88]) rfl ?_
  repeat' first | simp (maxSteps := 4000000) (disch := omega) only [bunL, bunD, bun, ↓WG_true, ↓WG_false, labelOf, findLabel, ↓reduceIte, imp, shift, killO, cond_true, cond_false, hasId, ne_eq, unown, names, plainR, below, noF, isF, lendObs, lendOb, kindOk, ren, givL, updM, backO, renO, belowM, seval, -Int.reduceToNat, B3, B4, B21, B53, bunN, tab_fz] | refine DR_q _ ?_ | (refine Fk.fk ?_ ?_ <;> intro hg <;> (try simp only [hg]) <;> (try simp only [bunB, ne_eq] at hg) <;> try (exfalso; first | omega | exact Bool.noConfusion hg | exact hg trivial)) | refine And.intro (by omega) ?_ | omega
  refine LP_intro (fun k : Nat => ⟨[(3, .ref 1 0 l.length), (4, I64 k)], [.dead, .arr 21 1 ((turnN k l).map I32)]⟩) (fun k => k ≤ l.length) (fun k => l.length - k) 0 (by simp) (by (simp (disch := omega) [wk, wkT, wkM, noF, isF, get, belowT, belowM, below, belows, I64, I32, Bv, U8, Sv, turnN] <;> try omega)) ?_
  intro k hk
  obtain ⟨hkin, hlen⟩ := turnN_kin k l
  have hsucc := turnN_succ k l
  have hrW : ∀ r ∈ turnN k l, okR r := fun r h => hr r (hkin.mem.1 h)
  by_cases hlt : k < l.length
  · generalize turnN k l = W at *
    repeat' first | simp (maxSteps := 4000000) (disch := omega) only [bunL, bunD, bun, ↓WG_true, ↓WG_false, labelOf, findLabel, ↓reduceIte, imp, shift, killO, cond_true, cond_false, hasId, ne_eq, unown, names, plainR, below, noF, isF, lendObs, lendOb, kindOk, ren, givL, updM, backO, renO, belowM, seval, -Int.reduceToNat, hlen, B3, B4, B21, B53, bunN, tab_fz] | refine DR_q _ ?_ | (refine Fk.fk ?_ ?_ <;> intro hg <;> (try simp only [hg]) <;> (try simp only [bunB, ne_eq] at hg) <;> try (exfalso; first | omega | exact Bool.noConfusion hg | exact hg trivial)) | refine And.intro (by omega) ?_ | omega
    obtain ⟨x0, T0, hW⟩ : ∃ x T, W = x :: T := by
      cases W with
      | nil => simp at hlen; omega
      | cons x T => exact ⟨x, T, rfl⟩
    refine LP_intro (fun x : List Int × Int × List Int => ⟨[(3, .ref 1 0 l.length), (4, I64 k), (5, I64 (x.1.length + 1))], [.dead, .arr 21 1 ((x.1 ++ x.2.1 :: x.2.2).map I32)]⟩)
      (fun x => (x.1 ++ x.2.1 :: x.2.2).length = l.length ∧ x.1 ++ turnX x.2.1 x.2.2 = turnP W ∧ ∀ r ∈ x.1 ++ x.2.1 :: x.2.2, okR r) (fun x => x.2.2.length) ([], x0, T0) ⟨by rw [← hlen, hW]; rfl, by rw [hW]; rfl, by rw [hW] at hrW; exact hrW⟩ (by subst hW; (simp (disch := omega) [wk, wkT, wkM, noF, isF, get, belowT, belowM, below, belows, I64, I32, Bv, U8, Sv, ] <;> try omega)) ?_
    rintro ⟨D, x, T⟩ ⟨h1, h2, h3⟩
    dsimp only at h1 h2 h3
    have hl1 : D.length + (T.length + 1) = l.length := by simpa using h1
    have hx := h3 x (by simp)
    have ex : (D ++ x :: T).getD D.length 0 = x := getD_mid rfl
    cases T with
    | nil =>
      simp only [List.length_nil] at hl1
      repeat' first | simp (maxSteps := 4000000) (disch := omega) only [bunL, bunD, bun, ↓WG_true, ↓WG_false, labelOf, findLabel, ↓reduceIte, imp, shift, killO, cond_true, cond_false, hasId, ne_eq, unown, names, plainR, below, noF, isF, lendObs, lendOb, kindOk, ren, givL, updM, backO, renO, belowM, seval, -Int.reduceToNat, h1, B3, B4, B21, B53, bunN, tab_fz] | refine DR_q _ ?_ | (refine Fk.fk ?_ ?_ <;> intro hg <;> (try simp only [hg]) <;> (try simp only [bunB, ne_eq] at hg) <;> try (exfalso; first | omega | exact Bool.noConfusion hg | exact hg trivial)) | refine And.intro (by omega) ?_ | omega
      refine ⟨k + 1, by omega, by omega, ?_⟩
      rw [hsucc, ← h2]
      (simp (disch := omega) [wk, wkT, wkM, noF, isF, get, belowT, belowM, below, belows, I64, I32, Bv, U8, Sv, turnX] <;> try omega)
    | cons y T =>
      simp only [List.length_cons] at hl1
      have hy := h3 y (by simp)
      have ey : (D ++ x :: y :: T).getD (D.length + 1) 0 = y := by
        rw [show D ++ x :: y :: T = (D ++ [x]) ++ y :: T by simp]
        exact getD_mid (by simp)
      have e1 : ((D.length : Int) + 1 - 1).toNat = D.length := by omega
      have e2 : ((D.length : Int) + 1).toNat = D.length + 1 := by omega
      have esw : ((D ++ x :: y :: T).set D.length y).set (D.length + 1) x = D ++ y :: x :: T := swap_mid' rfl
      simp only [turnX] at h2
      by_cases c1 : 0 < cls y
      · by_cases c2 : cls y < cls x
        · rw [if_pos ⟨c1, c2⟩] at h2
          repeat' first | refine WE_fit (rclass_spec x hx.1 hx.2) ?_ ?_ | refine WE_fit (rclass_spec y hy.1 hy.2) ?_ ?_ | simp (maxSteps := 4000000) (disch := omega) only [bunL, bunD, bun, ↓WG_true, ↓WG_false, labelOf, findLabel, ↓reduceIte, imp, shift, killO, cond_true, cond_false, hasId, ne_eq, unown, names, plainR, below, noF, isF, lendObs, lendOb, kindOk, ren, givL, updM, backO, renO, belowM, seval, -Int.reduceToNat, h1, e1, e2, ex, ey, setNth_i32, List.length_set, esw, B3, B4, B21, B53, bunN, tab_fz] | exact NK_no _ | refine NK_cl _ _ ?_ | exact Cln.cl | refine clean_tup _ ?_ | refine cleans_cons _ _ ?_ ?_ | refine DR_q _ ?_ | (refine Fk.fk ?_ ?_ <;> intro hg <;> (try simp only [hg]) <;> (try simp only [bunB, ne_eq] at hg) <;> try (exfalso; first | omega | exact Bool.noConfusion hg | exact hg trivial)) | refine And.intro (by omega) ?_ | omega
          refine ⟨(D ++ [y], x, T), ⟨by simp; omega, by rw [← h2]; simp, fun r h => h3 r (by simp only [List.mem_append, List.mem_cons, List.not_mem_nil, or_false] at h ⊢; rcases h with (h | h) | h | h <;> simp [h])⟩, by simp, ?_⟩
          (simp (disch := omega) [wk, wkT, wkM, noF, isF, get, belowT, belowM, below, belows, I64, I32, Bv, U8, Sv, List.append_assoc] <;> try omega)
        · rw [if_neg (fun h => c2 h.2)] at h2
          repeat' first | refine WE_fit (rclass_spec x hx.1 hx.2) ?_ ?_ | refine WE_fit (rclass_spec y hy.1 hy.2) ?_ ?_ | simp (maxSteps := 4000000) (disch := omega) only [bunL, bunD, bun, ↓WG_true, ↓WG_false, labelOf, findLabel, ↓reduceIte, imp, shift, killO, cond_true, cond_false, hasId, ne_eq, unown, names, plainR, below, noF, isF, lendObs, lendOb, kindOk, ren, givL, updM, backO, renO, belowM, seval, -Int.reduceToNat, h1, e1, e2, ex, ey, setNth_i32, List.length_set, B3, B4, B21, B53, bunN, tab_fz] | exact NK_no _ | refine NK_cl _ _ ?_ | exact Cln.cl | refine clean_tup _ ?_ | refine cleans_cons _ _ ?_ ?_ | refine DR_q _ ?_ | (refine Fk.fk ?_ ?_ <;> intro hg <;> (try simp only [hg]) <;> (try simp only [bunB, ne_eq] at hg) <;> try (exfalso; first | omega | exact Bool.noConfusion hg | exact hg trivial)) | refine And.intro (by omega) ?_ | omega
          refine ⟨(D ++ [x], y, T), ⟨by simp; omega, by rw [← h2]; simp, fun r h => h3 r (by simp at h ⊢; exact h)⟩, by simp, ?_⟩
          (simp (disch := omega) [wk, wkT, wkM, noF, isF, get, belowT, belowM, below, belows, I64, I32, Bv, U8, Sv, List.append_assoc] <;> try omega)
      · rw [if_neg (fun h => c1 h.1)] at h2
        repeat' first | refine WE_fit (rclass_spec x hx.1 hx.2) ?_ ?_ | refine WE_fit (rclass_spec y hy.1 hy.2) ?_ ?_ | simp (maxSteps := 4000000) (disch := omega) only [bunL, bunD, bun, ↓WG_true, ↓WG_false, labelOf, findLabel, ↓reduceIte, imp, shift, killO, cond_true, cond_false, hasId, ne_eq, unown, names, plainR, below, noF, isF, lendObs, lendOb, kindOk, ren, givL, updM, backO, renO, belowM, seval, -Int.reduceToNat, h1, e1, e2, ex, ey, setNth_i32, List.length_set, B3, B4, B21, B53, bunN, tab_fz] | exact NK_no _ | refine NK_cl _ _ ?_ | exact Cln.cl | refine clean_tup _ ?_ | refine cleans_cons _ _ ?_ ?_ | refine DR_q _ ?_ | (refine Fk.fk ?_ ?_ <;> intro hg <;> (try simp only [hg]) <;> (try simp only [bunB, ne_eq] at hg) <;> try (exfalso; first | omega | exact Bool.noConfusion hg | exact hg trivial)) | refine And.intro (by omega) ?_ | omega
        refine ⟨(D ++ [x], y, T), ⟨by simp; omega, by rw [← h2]; simp, fun r h => h3 r (by simp at h ⊢; exact h)⟩, by simp, ?_⟩
        (simp (disch := omega) [wk, wkT, wkM, noF, isF, get, belowT, belowM, below, belows, I64, I32, Bv, U8, Sv, List.append_assoc] <;> try omega)
  · have e : k = l.length := by omega
    subst e
    repeat' first | simp (maxSteps := 4000000) (disch := omega) only [bunL, bunD, bun, ↓WG_true, ↓WG_false, labelOf, findLabel, ↓reduceIte, imp, shift, killO, cond_true, cond_false, hasId, ne_eq, unown, names, plainR, below, noF, isF, lendObs, lendOb, kindOk, ren, givL, updM, backO, renO, belowM, seval, -Int.reduceToNat, hlen, B3, B4, B21, B53, bunN, tab_fz] | refine DR_q _ ?_ | (refine Fk.fk ?_ ?_ <;> intro hg <;> (try simp only [hg]) <;> (try simp only [bunB, ne_eq] at hg) <;> try (exfalso; first | omega | exact Bool.noConfusion hg | exact hg trivial)) | refine And.intro (by omega) ?_ | omega
end Go.AE
end
section
/- What two characters make: its contract. -/
namespace Go.AE
open Go.Proofs
set_option maxRecDepth 20000
set_option maxHeartbeats 4000000
set_option linter.unusedSimpArgs false
theorem tb_fzs (s : St) : fzs s tabBox = tabBox := rfl
theorem tb_names : namess tabBox = false := rfl
theorem nin_spec (r a n : Int) (h0 : 0 ≤ a) (h1 : 0 ≤ n) (h2 : a + n ≤ 2147483647) : Spec Tryz.prog 141 [I32 r, I32 a, I64 n] (Bv (decide (a ≤ r ∧ r < a + n))) := by
  refine spec_mk (z := false) (ts := [.tmp 6]) ok1 Tryz.func141 rfl rfl (by decide +kernel) (by simp [Tryz.ntmps141]) rfl ?_
  by_cases c1 : a ≤ r
  · by_cases c2 : r < a + n
    · repeat' first | simp (maxSteps := 4000000) (disch := omega) only [bunL, bunD, bun, ↓WG_true, ↓WG_false, labelOf, findLabel, ↓reduceIte, imp, shift, killO, cond_true, cond_false, hasId, ne_eq, unown, names, plainR, below, noF, isF, lendObs, lendOb, kindOk, ren, givL, updM, backO, renO, belowM, seval, -Int.reduceToNat, B3, B4, B21, bunN, tb_fzs, tb_bel, tb_names] | refine DR_q _ ?_ | (refine Fk.fk ?_ ?_ <;> intro hg <;> (try simp only [hg]) <;> (try simp only [bunB, ne_eq] at hg) <;> try (exfalso; first | omega | exact Bool.noConfusion hg | exact hg trivial)) | refine And.intro (by omega) ?_ | omega
      simp [c1, c2]
    · repeat' first | simp (maxSteps := 4000000) (disch := omega) only [bunL, bunD, bun, ↓WG_true, ↓WG_false, labelOf, findLabel, ↓reduceIte, imp, shift, killO, cond_true, cond_false, hasId, ne_eq, unown, names, plainR, below, noF, isF, lendObs, lendOb, kindOk, ren, givL, updM, backO, renO, belowM, seval, -Int.reduceToNat, B3, B4, B21, bunN, tb_fzs, tb_bel, tb_names] | refine DR_q _ ?_ | (refine Fk.fk ?_ ?_ <;> intro hg <;> (try simp only [hg]) <;> (try simp only [bunB, ne_eq] at hg) <;> try (exfalso; first | omega | exact Bool.noConfusion hg | exact hg trivial)) | refine And.intro (by omega) ?_ | omega
      simp [c1, c2]
  · repeat' first | simp (maxSteps := 4000000) (disch := omega) only [bunL, bunD, bun, ↓WG_true, ↓WG_false, labelOf, findLabel, ↓reduceIte, imp, shift, killO, cond_true, cond_false, hasId, ne_eq, unown, names, plainR, below, noF, isF, lendObs, lendOb, kindOk, ren, givL, updM, backO, renO, belowM, seval, -Int.reduceToNat, B3, B4, B21, bunN, tb_fzs, tb_bel, tb_names] | refine DR_q _ ?_ | (refine Fk.fk ?_ ?_ <;> intro hg <;> (try simp only [hg]) <;> (try simp only [bunB, ne_eq] at hg) <;> try (exfalso; first | omega | exact Bool.noConfusion hg | exact hg trivial)) | refine And.intro (by omega) ?_ | omega
    simp [c1]
theorem npair_spec (a b : Int) (ha : okR a) (hb : okR b) : Spec Tryz.prog 131 [tab, I32 a, I32 b] (.tup [I32 (mk2 a b).1, Bv (mk2 a b).2]) := by
  rw [← tabBox_eq]
  refine spec_mk (z := false) (ts := [.tmp 6, .tmp 7]) ok1 Tryz.func131 rfl rfl (by decide +kernel) (by simp [Tryz.ntmps131]) rfl ?_
  have hp := pair_spec a b
  rw [← tabBox_eq] at hp
  obtain ⟨ha0, ha1⟩ := ha
  obtain ⟨hb0, hb1⟩ := hb
  have n1 := nin_spec a 4352 19 (by decide) (by decide) (by decide)
  have n2 := nin_spec b 4449 21 (by decide) (by decide) (by decide)
  have n3 := nin_spec a 44032 11172 (by decide) (by decide) (by decide)
  have n4 := nin_spec b 4520 27 (by decide) (by decide) (by decide)
  by_cases h1 : 4352 ≤ a ∧ a < 4352 + 19
  · rw [decide_eq_true h1] at n1
    rw [decide_eq_false (show ¬ (44032 ≤ a ∧ a < 44032 + 11172) by omega)] at n3
    have hh : han a = false := by simp [han]; omega
    by_cases h2 : 4449 ≤ b ∧ b < 4449 + 21
    · rw [decide_eq_true h2] at n2
      have e : mk2 a b = (44032 + (a - 4352) * 588 + (b - 4449) * 28, true) := by unfold mk2; rw [if_pos (by omega)]
      rw [e]
      repeat' first | refine WE_fit (n1) ?_ ?_ | refine WE_fit (n2) ?_ ?_ | simp (maxSteps := 4000000) (disch := omega) only [bunL, bunD, bun, ↓WG_true, ↓WG_false, labelOf, findLabel, ↓reduceIte, imp, shift, killO, cond_true, cond_false, hasId, ne_eq, unown, names, plainR, below, noF, isF, lendObs, lendOb, kindOk, ren, givL, updM, backO, renO, belowM, seval, -Int.reduceToNat, tabBox_len, tb_one, D29, bunN, tb_fzs, tb_bel, tb_names] | exact NK_no _ | refine NK_cl _ _ ?_ | exact Cln.cl | refine clean_tup _ ?_ | refine cleans_cons _ _ ?_ ?_ | refine DR_q _ ?_ | (refine Fk.fk ?_ ?_ <;> intro hg <;> (try simp only [hg]) <;> (try simp only [bunB, ne_eq] at hg) <;> try (exfalso; first | omega | exact Bool.noConfusion hg | exact hg trivial)) | refine And.intro (by omega) ?_ | omega
      congr 4; omega
    · rw [decide_eq_false h2] at n2
      have e : mk2 a b = pr a b := by unfold mk2; rw [if_neg (by omega), if_neg (by rw [hh]; simp)]
      rw [e]
      repeat' first | refine WE_fit (n1) ?_ ?_ | refine WE_fit (n2) ?_ ?_ | refine WE_fit (n3) ?_ ?_ | refine WE_fit (n4) ?_ ?_ | refine WE_fit (hp) ?_ ?_ | simp (maxSteps := 4000000) (disch := omega) only [bunL, bunD, bun, ↓WG_true, ↓WG_false, labelOf, findLabel, ↓reduceIte, imp, shift, killO, cond_true, cond_false, hasId, ne_eq, unown, names, plainR, below, noF, isF, lendObs, lendOb, kindOk, ren, givL, updM, backO, renO, belowM, seval, -Int.reduceToNat, tabBox_len, tb_one, tb_take, D29, bunN, tb_fzs, tb_bel, tb_names] | exact NK_no _ | refine NK_cl _ _ ?_ | exact Cln.cl | refine clean_tup _ ?_ | refine cleans_cons _ _ ?_ ?_ | refine DR_q _ ?_ | (refine Fk.fk ?_ ?_ <;> intro hg <;> (try simp only [hg]) <;> (try simp only [bunB, ne_eq] at hg) <;> try (exfalso; first | omega | exact Bool.noConfusion hg | exact hg trivial)) | refine And.intro (by omega) ?_ | omega
  · rw [decide_eq_false h1] at n1
    by_cases h3 : 44032 ≤ a ∧ a < 44032 + 11172
    · rw [decide_eq_true h3] at n3
      have hh : han a = true := by simp [han]; omega
      by_cases h5 : (a - 44032) % 28 = 0
      · by_cases h4 : 4520 ≤ b ∧ b < 4520 + 27
        · rw [decide_eq_true h4] at n4
          have e : mk2 a b = (a + b - 4519, true) := by unfold mk2; rw [if_neg (by omega), if_pos ⟨hh, h5, by omega⟩]
          rw [e]
          repeat' first | refine WE_fit (n1) ?_ ?_ | refine WE_fit (n2) ?_ ?_ | refine WE_fit (n3) ?_ ?_ | refine WE_fit (n4) ?_ ?_ | simp (maxSteps := 4000000) (disch := omega) only [bunL, bunD, bun, ↓WG_true, ↓WG_false, labelOf, findLabel, ↓reduceIte, imp, shift, killO, cond_true, cond_false, hasId, ne_eq, unown, names, plainR, below, noF, isF, lendObs, lendOb, kindOk, ren, givL, updM, backO, renO, belowM, seval, -Int.reduceToNat, tabBox_len, tb_one, D29, bunN, tb_fzs, tb_bel, tb_names] | exact NK_no _ | refine NK_cl _ _ ?_ | exact Cln.cl | refine clean_tup _ ?_ | refine cleans_cons _ _ ?_ ?_ | refine DR_q _ ?_ | (refine Fk.fk ?_ ?_ <;> intro hg <;> (try simp only [hg]) <;> (try simp only [bunB, ne_eq] at hg) <;> try (exfalso; first | omega | exact Bool.noConfusion hg | exact hg trivial)) | refine And.intro (by omega) ?_ | omega
        · rw [decide_eq_false h4] at n4
          have e : mk2 a b = pr a b := by unfold mk2; rw [if_neg (by omega), if_neg (by rintro ⟨_, _, h⟩; omega)]
          rw [e]
          repeat' first | refine WE_fit (n1) ?_ ?_ | refine WE_fit (n2) ?_ ?_ | refine WE_fit (n3) ?_ ?_ | refine WE_fit (n4) ?_ ?_ | refine WE_fit (hp) ?_ ?_ | simp (maxSteps := 4000000) (disch := omega) only [bunL, bunD, bun, ↓WG_true, ↓WG_false, labelOf, findLabel, ↓reduceIte, imp, shift, killO, cond_true, cond_false, hasId, ne_eq, unown, names, plainR, below, noF, isF, lendObs, lendOb, kindOk, ren, givL, updM, backO, renO, belowM, seval, -Int.reduceToNat, tabBox_len, tb_one, tb_take, D29, bunN, tb_fzs, tb_bel, tb_names] | exact NK_no _ | refine NK_cl _ _ ?_ | exact Cln.cl | refine clean_tup _ ?_ | refine cleans_cons _ _ ?_ ?_ | refine DR_q _ ?_ | (refine Fk.fk ?_ ?_ <;> intro hg <;> (try simp only [hg]) <;> (try simp only [bunB, ne_eq] at hg) <;> try (exfalso; first | omega | exact Bool.noConfusion hg | exact hg trivial)) | refine And.intro (by omega) ?_ | omega
      · have e : mk2 a b = pr a b := by unfold mk2; rw [if_neg (by omega), if_neg (by rintro ⟨_, h, _⟩; omega)]
        rw [e]
        repeat' first | refine WE_fit (n1) ?_ ?_ | refine WE_fit (n2) ?_ ?_ | refine WE_fit (n3) ?_ ?_ | refine WE_fit (n4) ?_ ?_ | refine WE_fit (hp) ?_ ?_ | simp (maxSteps := 4000000) (disch := omega) only [bunL, bunD, bun, ↓WG_true, ↓WG_false, labelOf, findLabel, ↓reduceIte, imp, shift, killO, cond_true, cond_false, hasId, ne_eq, unown, names, plainR, below, noF, isF, lendObs, lendOb, kindOk, ren, givL, updM, backO, renO, belowM, seval, -Int.reduceToNat, tabBox_len, tb_one, tb_take, D29, bunN, tb_fzs, tb_bel, tb_names] | exact NK_no _ | refine NK_cl _ _ ?_ | exact Cln.cl | refine clean_tup _ ?_ | refine cleans_cons _ _ ?_ ?_ | refine DR_q _ ?_ | (refine Fk.fk ?_ ?_ <;> intro hg <;> (try simp only [hg]) <;> (try simp only [bunB, ne_eq] at hg) <;> try (exfalso; first | omega | exact Bool.noConfusion hg | exact hg trivial)) | refine And.intro (by omega) ?_ | omega
    · rw [decide_eq_false h3] at n3
      have hh : han a = false := by simp [han]; omega
      have e : mk2 a b = pr a b := by unfold mk2; rw [if_neg (by omega), if_neg (by rw [hh]; simp)]
      rw [e]
      repeat' first | refine WE_fit (n1) ?_ ?_ | refine WE_fit (n2) ?_ ?_ | refine WE_fit (n3) ?_ ?_ | refine WE_fit (n4) ?_ ?_ | refine WE_fit (hp) ?_ ?_ | simp (maxSteps := 4000000) (disch := omega) only [bunL, bunD, bun, ↓WG_true, ↓WG_false, labelOf, findLabel, ↓reduceIte, imp, shift, killO, cond_true, cond_false, hasId, ne_eq, unown, names, plainR, below, noF, isF, lendObs, lendOb, kindOk, ren, givL, updM, backO, renO, belowM, seval, -Int.reduceToNat, tabBox_len, tb_one, tb_take, D29, bunN, tb_fzs, tb_bel, tb_names] | exact NK_no _ | refine NK_cl _ _ ?_ | exact Cln.cl | refine clean_tup _ ?_ | refine cleans_cons _ _ ?_ ?_ | refine DR_q _ ?_ | (refine Fk.fk ?_ ?_ <;> intro hg <;> (try simp only [hg]) <;> (try simp only [bunB, ne_eq] at hg) <;> try (exfalso; first | omega | exact Bool.noConfusion hg | exact hg trivial)) | refine And.intro (by omega) ?_ | omega
end Go.AE
end
section
/- Join: its contract. -/
namespace Go.AE
open Go.Proofs
set_option maxRecDepth 20000
set_option maxHeartbeats 8000000
set_option linter.unusedSimpArgs false
theorem tb_has (k : Nat) : hasIds k tabBox = false := rfl
theorem tb_kill (k : Nat) : killCs k tabBox = tabBox := rfl
theorem tbB : type_of% (And.intro @tb_fzs (And.intro @tb_bel (And.intro @tb_names (And.intro @tabBox_len (And.intro @tb_one (And.intro @tb_take (And.intro @tb_has @tb_kill))))))) := (And.intro @tb_fzs (And.intro @tb_bel (And.intro @tb_names (And.intro @tabBox_len (And.intro @tb_one (And.intro @tb_take (And.intro @tb_has @tb_kill)))))))
def mx (ms : List Int) : Int := ms.foldl (fun a m => max a (cls m)) 0
theorem mx_snoc (ms : List Int) (x : Int) : mx (ms ++ [x]) = max (mx ms) (cls x) := by simp [mx]
theorem mx_nonneg (ms : List Int) : 0 ≤ mx ms ∧ mx ms ≤ 300 := by
  have key : ∀ (ms : List Int) (a : Int), 0 ≤ a → a ≤ 300 → 0 ≤ ms.foldl (fun a m => max a (cls m)) a ∧ ms.foldl (fun a m => max a (cls m)) a ≤ 300 := fun ms => by
    induction ms with
    | nil => intro a h h'; exact ⟨h, h'⟩
    | cons m ms ih => intro a h h'; have := cls_le m; exact ih _ (show 0 ≤ max a (cls m) by omega) (show max a (cls m) ≤ 300 by omega)
  exact key ms 0 (Int.le_refl 0) (by decide)
theorem mx_all {c : Int} : ∀ {ms : List Int}, ms ≠ [] → (∀ m ∈ ms, 0 < cls m) → ((ms.all fun m => decide (cls m < c)) = true ↔ mx ms < c) := by
  intro ms h0 hp
  have key : ∀ (ms : List Int) (a : Int), (ms.foldl (fun a m => max a (cls m)) a < c ↔ a < c ∧ ∀ m ∈ ms, cls m < c) := fun ms => by
    induction ms with
    | nil => intro a; simp
    | cons m ms ih =>
      intro a
      rw [List.foldl_cons, ih]
      simp only [List.mem_cons, forall_eq_or_imp]
      constructor
      · rintro ⟨h1, h2⟩; exact ⟨by omega, by omega, h2⟩
      · rintro ⟨h1, h2, h3⟩; exact ⟨by omega, h3⟩
  have := key ms 0
  unfold mx
  rw [this]
  simp only [List.all_eq_true, decide_eq_true_eq]
  refine ⟨fun h => ⟨?_, h⟩, fun h => h.2⟩
  cases ms with
  | nil => exact absurd rfl h0
  | cons m ms =>
    have h1 := h m (by simp)
    have h2 := hp m (by simp)
    omega
def stI (s : JS) : Int := match s.st with
  | none => -1
  | some _ => s.pre.length
theorem put_st (s : JS) (x : Int) : stI (s.put x) = (if cls x = 0 then (s.out.length : Int) else stI s) ∧ mx (s.put x).ms = (if cls x = 0 then 0 else max (mx s.ms) (cls x)) := by
  unfold JS.put
  split
  · exact ⟨rfl, rfl⟩
  · exact ⟨rfl, mx_snoc _ _⟩
structure JOk (s : JS) : Prop where
  pre : ∀ r ∈ s.out, okR r
theorem jOk_run {l : List Int} (h : ∀ r ∈ l, okR r) : ∀ r ∈ (jRun l).out, okR r := by
  have key : ∀ (l : List Int) (s : JS), (∀ r ∈ l, okR r) → (∀ r ∈ s.out, okR r) → ∀ r ∈ (l.foldl jStep s).out, okR r := fun l => by
    induction l with
    | nil => intro s _ h; exact h
    | cons x l ih =>
      intro s h1 h2
      refine ih _ (fun r hr => h1 r (by simp [hr])) ?_
      have hp : ∀ r ∈ (s.put x).out, okR r := fun r hr => by
        rw [put_out] at hr
        rcases List.mem_append.1 hr with hr | hr
        · exact h2 r hr
        · simp at hr; subst hr; exact h1 _ (by simp)
      unfold jStep
      split
      · exact hp
      · rename_i b hb
        split
        · split
          · rename_i h3
            intro r hr
            simp only [JS.out, Option.toList_some, List.mem_append, List.mem_cons, List.not_mem_nil, or_false] at hr
            rcases hr with (hr | hr) | hr
            · exact h2 r (by simp [JS.out, hr])
            · subst hr; have := mk2_cls h3; unfold okR; omega
            · exact h2 r (by simp [JS.out, hr])
          · exact hp
        · exact hp
  exact key l _ h (by simp [JS.out])
theorem join_spec' (l : List Int) (hl : l.length ≤ 500000) (hr : ∀ r ∈ l, okR r) : Spec Tryz.prog 114 [tab, .sl l.length (l.map I32)] (.own 21 1 (joinL l).length ((joinL l).map I32)) := by
  rw [← tabBox_eq]
  refine spec_mk (z := false) (ts := [.tmp 4]) ok1 Tryz.func114 rfl rfl (by decide +kernel) (by simp [Tryz.ntmps114]) rfl ?_
  repeat' first | simp (maxSteps := 4000000) (disch := omega) only [bunL, bunD, bun, ↓WG_true, ↓WG_false, labelOf, findLabel, ↓reduceIte, imp, shift, killO, cond_true, cond_false, hasId, ne_eq, unown, names, plainR, below, noF, isF, lendObs, lendOb, kindOk, ren, givL, updM, backO, renO, belowM, seval, -Int.reduceToNat, D29, B21, B53, bunN, tb_fzs, tb_bel, tb_names, tabBox_len, tb_one, tb_take, tb_has, tb_kill] | refine DR_q _ ?_ | (refine Fk.fk ?_ ?_ <;> intro hg <;> (try simp only [hg]) <;> (try simp only [bunB, ne_eq] at hg) <;> try (exfalso; first | omega | exact Bool.noConfusion hg | exact hg trivial)) | refine And.intro (by omega) ?_ | omega
  refine LP_intro (fun i : Nat => ⟨[(2, .ptr 0 0), (5, .ref 2 0 (jRun (l.take i)).out.length), (6, I64 (stI (jRun (l.take i)))), (7, I64 (mx (jRun (l.take i)).ms)), (13, .sl l.length (l.map I32)), (14, I64 l.length), (15, I64 i)], [.row true 1 tabBox, .dead, .arr 21 1 ((jRun (l.take i)).out.map I32)]⟩)
    (fun i => i ≤ l.length) (fun i => l.length - i) 0 (by simp) (by (simp (disch := omega) [wk, wkT, wkM, noF, isF, get, belowT, belowM, below, belows, I64, I32, Bv, U8, Sv, tb_bel, jRun, JS.out, stI, mx] <;> try omega)) ?_
  intro i hi
  by_cases hlt : i < l.length
  · have hjt := jRun_take l i hlt
    have hJ := JI.run (l.take i)
    have hJl := jRun_len (l.take i)
    have hJr := jOk_run (l := l.take i) (fun r h => hr r (List.mem_of_mem_take h))
    have hlt0 : (l.take i).length = i := by simp; omega
    have hx : okR (l.getD i 0) := hr _ (by simp [List.getD, hlt])
    obtain ⟨x, hxe⟩ : ∃ x, l.getD i 0 = x := ⟨_, rfl⟩
    rw [hxe] at hjt hx
    have hc := class_spec x hx.1 hx.2
    rw [← tabBox_eq] at hc
    have hc0 := cls_nonneg x
    have hc1 := cls_le x
    generalize jRun (l.take i) = J at *
    obtain ⟨hp1, hp2⟩ := put_st J x
    have hpo := put_out J x
    have hmx := mx_nonneg J.ms
    cases hst : J.st with
    | none =>
      have hj : jStep J x = J.put x := by unfold jStep; rw [hst]
      have hs0 : stI J = -1 := by unfold stI; rw [hst]
      by_cases hcx : cls x = 0
      · rw [if_pos hcx] at hp1 hp2
        repeat' first | refine WE_fit (hc) ?_ ?_ | simp (maxSteps := 4000000) (disch := omega) only [bunL, bunD, bun, ↓WG_true, ↓WG_false, labelOf, findLabel, ↓reduceIte, imp, shift, killO, cond_true, cond_false, hasId, ne_eq, unown, names, plainR, below, noF, isF, lendObs, lendOb, kindOk, ren, givL, updM, backO, renO, belowM, seval, -Int.reduceToNat, hxe, hcx, hs0, D29, B21, B53, bunN, tb_fzs, tb_bel, tb_names, tabBox_len, tb_one, tb_take, tb_has, tb_kill] | exact NK_no _ | refine NK_cl _ _ ?_ | exact Cln.cl | refine clean_tup _ ?_ | refine cleans_cons _ _ ?_ ?_ | refine DR_q _ ?_ | (refine Fk.fk ?_ ?_ <;> intro hg <;> (try simp only [hg]) <;> (try simp only [bunB, ne_eq] at hg) <;> try (exfalso; first | omega | exact Bool.noConfusion hg | exact hg trivial)) | refine And.intro (by omega) ?_ | omega
        refine ⟨i + 1, by omega, by omega, ?_⟩
        rw [hjt, hj, hp1, hp2, hpo]
        (simp (disch := omega) [wk, wkT, wkM, noF, isF, get, belowT, belowM, below, belows, I64, I32, Bv, U8, Sv, tb_bel] <;> try omega)
      · rw [if_neg hcx] at hp1 hp2
        repeat' first | refine WE_fit (hc) ?_ ?_ | simp (maxSteps := 4000000) (disch := omega) only [bunL, bunD, bun, ↓WG_true, ↓WG_false, labelOf, findLabel, ↓reduceIte, imp, shift, killO, cond_true, cond_false, hasId, ne_eq, unown, names, plainR, below, noF, isF, lendObs, lendOb, kindOk, ren, givL, updM, backO, renO, belowM, seval, -Int.reduceToNat, hxe, hs0, D29, B21, B53, bunN, tb_fzs, tb_bel, tb_names, tabBox_len, tb_one, tb_take, tb_has, tb_kill] | exact NK_no _ | refine NK_cl _ _ ?_ | exact Cln.cl | refine clean_tup _ ?_ | refine cleans_cons _ _ ?_ ?_ | refine DR_q _ ?_ | (refine Fk.fk ?_ ?_ <;> intro hg <;> (try simp only [hg]) <;> (try simp only [bunB, ne_eq] at hg) <;> try (exfalso; first | omega | exact Bool.noConfusion hg | exact hg trivial)) | refine And.intro (by omega) ?_ | omega
        refine ⟨i + 1, by omega, by omega, ?_⟩
        rw [hjt, hj, hp1, hp2, hpo, hs0]
        (simp (disch := omega) [wk, wkT, wkM, noF, isF, get, belowT, belowM, below, belows, I64, I32, Bv, U8, Sv, tb_bel] <;> try omega)
    | some b =>
      have hs0 : stI J = J.pre.length := by unfold stI; rw [hst]
      have hout : J.out = J.pre ++ b :: J.ms := by simp [JS.out, hst]
      have hbo : okR b := hJr b (by rw [hout]; simp)
      have hnp := npair_spec b x hbo hx
      rw [← tabBox_eq] at hnp
      have hol : J.out.length = J.pre.length + (J.ms.length + 1) := by rw [hout]; simp
      have hgb : J.out.getD J.pre.length 0 = b := by rw [hout]; exact getD_mid rfl
      have hall : ((J.ms.all fun m => decide (cls m < cls x)) = true) ↔ (J.ms = [] ∨ mx J.ms < cls x) := by
        by_cases h0 : J.ms = []
        · rw [h0]; simp
        · rw [mx_all h0 hJ.ms]; simp [h0]
      by_cases hm : mx J.ms < cls x
      · skip
        have hal := hall.2 (.inr hm)
        cases hmk : (mk2 b x).2 with
        | true =>
          have hj : jStep J x = ⟨J.pre, some (mk2 b x).1, J.ms⟩ := by
            unfold jStep; rw [hst]; dsimp only; rw [if_pos hal, if_pos hmk]
          have hset : J.out.set J.pre.length (mk2 b x).1 = J.pre ++ (mk2 b x).1 :: J.ms := by rw [hout]; exact set_mid rfl
          repeat' first | refine WE_fit (hc) ?_ ?_ | refine WE_fit (hnp) ?_ ?_ | simp (maxSteps := 4000000) (disch := omega) only [bunL, bunD, bun, ↓WG_true, ↓WG_false, labelOf, findLabel, ↓reduceIte, imp, shift, killO, cond_true, cond_false, hasId, ne_eq, unown, names, plainR, below, noF, isF, lendObs, lendOb, kindOk, ren, givL, updM, backO, renO, belowM, seval, -Int.reduceToNat, hxe, hs0, hgb, hmk, setNth_i32, hset, D29, B21, B53, bunN, tb_fzs, tb_bel, tb_names, tabBox_len, tb_one, tb_take, tb_has, tb_kill] | exact NK_no _ | refine NK_cl _ _ ?_ | exact Cln.cl | refine clean_tup _ ?_ | refine cleans_cons _ _ ?_ ?_ | refine DR_q _ ?_ | (refine Fk.fk ?_ ?_ <;> intro hg <;> (try simp only [hg]) <;> (try simp only [bunB, ne_eq] at hg) <;> try (exfalso; first | omega | exact Bool.noConfusion hg | exact hg trivial)) | refine And.intro (by omega) ?_ | omega
          refine ⟨i + 1, by omega, by omega, ?_⟩
          have o1 : (JS.out ⟨J.pre, some (mk2 b x).1, J.ms⟩) = J.pre ++ (mk2 b x).1 :: J.ms := by simp [JS.out]
          have o2 : stI ⟨J.pre, some (mk2 b x).1, J.ms⟩ = J.pre.length := rfl
          rw [hjt, hj, o1, o2]
          (simp (disch := omega) [wk, wkT, wkM, noF, isF, get, belowT, belowM, below, belows, I64, I32, Bv, U8, Sv, tb_bel, hol] <;> try omega)
        | false =>
          have hj : jStep J x = J.put x := by
            unfold jStep; rw [hst]; dsimp only; rw [if_pos hal, if_neg (by rw [hmk]; simp)]
          by_cases hcx : cls x = 0
          · rw [if_pos hcx] at hp1 hp2
            repeat' first | refine WE_fit (hc) ?_ ?_ | refine WE_fit (hnp) ?_ ?_ | simp (maxSteps := 4000000) (disch := omega) only [bunL, bunD, bun, ↓WG_true, ↓WG_false, labelOf, findLabel, ↓reduceIte, imp, shift, killO, cond_true, cond_false, hasId, ne_eq, unown, names, plainR, below, noF, isF, lendObs, lendOb, kindOk, ren, givL, updM, backO, renO, belowM, seval, -Int.reduceToNat, hxe, hcx, hs0, hgb, hmk, D29, B21, B53, bunN, tb_fzs, tb_bel, tb_names, tabBox_len, tb_one, tb_take, tb_has, tb_kill] | exact NK_no _ | refine NK_cl _ _ ?_ | exact Cln.cl | refine clean_tup _ ?_ | refine cleans_cons _ _ ?_ ?_ | refine DR_q _ ?_ | (refine Fk.fk ?_ ?_ <;> intro hg <;> (try simp only [hg]) <;> (try simp only [bunB, ne_eq] at hg) <;> try (exfalso; first | omega | exact Bool.noConfusion hg | exact hg trivial)) | refine And.intro (by omega) ?_ | omega
            all_goals refine ⟨i + 1, by omega, by omega, ?_⟩
            all_goals rw [hjt, hj, hp1, hp2, hpo]
            all_goals (simp (disch := omega) [wk, wkT, wkM, noF, isF, get, belowT, belowM, below, belows, I64, I32, Bv, U8, Sv, tb_bel] <;> try omega)
          · rw [if_neg hcx] at hp1 hp2
            repeat' first | refine WE_fit (hc) ?_ ?_ | refine WE_fit (hnp) ?_ ?_ | simp (maxSteps := 4000000) (disch := omega) only [bunL, bunD, bun, ↓WG_true, ↓WG_false, labelOf, findLabel, ↓reduceIte, imp, shift, killO, cond_true, cond_false, hasId, ne_eq, unown, names, plainR, below, noF, isF, lendObs, lendOb, kindOk, ren, givL, updM, backO, renO, belowM, seval, -Int.reduceToNat, hxe, hs0, hgb, hmk, D29, B21, B53, bunN, tb_fzs, tb_bel, tb_names, tabBox_len, tb_one, tb_take, tb_has, tb_kill] | exact NK_no _ | refine NK_cl _ _ ?_ | exact Cln.cl | refine clean_tup _ ?_ | refine cleans_cons _ _ ?_ ?_ | refine DR_q _ ?_ | (refine Fk.fk ?_ ?_ <;> intro hg <;> (try simp only [hg]) <;> (try simp only [bunB, ne_eq] at hg) <;> try (exfalso; first | omega | exact Bool.noConfusion hg | exact hg trivial)) | refine And.intro (by omega) ?_ | omega
            all_goals refine ⟨i + 1, by omega, by omega, ?_⟩
            all_goals rw [hjt, hj, hp1, hp2, hpo, hs0]
            all_goals (simp (disch := omega) [wk, wkT, wkM, noF, isF, get, belowT, belowM, below, belows, I64, I32, Bv, U8, Sv, tb_bel] <;> try omega)
      · by_cases h0 : J.ms = []
        · have hml : J.ms.length = 0 := by rw [h0]; rfl
          have hal := hall.2 (.inl h0)
          cases hmk : (mk2 b x).2 with
          | true =>
            have hj : jStep J x = ⟨J.pre, some (mk2 b x).1, J.ms⟩ := by
              unfold jStep; rw [hst]; dsimp only; rw [if_pos hal, if_pos hmk]
            have hset : J.out.set J.pre.length (mk2 b x).1 = J.pre ++ (mk2 b x).1 :: J.ms := by rw [hout]; exact set_mid rfl
            repeat' first | refine WE_fit (hc) ?_ ?_ | refine WE_fit (hnp) ?_ ?_ | simp (maxSteps := 4000000) (disch := omega) only [bunL, bunD, bun, ↓WG_true, ↓WG_false, labelOf, findLabel, ↓reduceIte, imp, shift, killO, cond_true, cond_false, hasId, ne_eq, unown, names, plainR, below, noF, isF, lendObs, lendOb, kindOk, ren, givL, updM, backO, renO, belowM, seval, -Int.reduceToNat, hxe, hs0, hgb, hmk, setNth_i32, hset, D29, B21, B53, bunN, tb_fzs, tb_bel, tb_names, tabBox_len, tb_one, tb_take, tb_has, tb_kill] | exact NK_no _ | refine NK_cl _ _ ?_ | exact Cln.cl | refine clean_tup _ ?_ | refine cleans_cons _ _ ?_ ?_ | refine DR_q _ ?_ | (refine Fk.fk ?_ ?_ <;> intro hg <;> (try simp only [hg]) <;> (try simp only [bunB, ne_eq] at hg) <;> try (exfalso; first | omega | exact Bool.noConfusion hg | exact hg trivial)) | refine And.intro (by omega) ?_ | omega
            refine ⟨i + 1, by omega, by omega, ?_⟩
            have o1 : (JS.out ⟨J.pre, some (mk2 b x).1, J.ms⟩) = J.pre ++ (mk2 b x).1 :: J.ms := by simp [JS.out]
            have o2 : stI ⟨J.pre, some (mk2 b x).1, J.ms⟩ = J.pre.length := rfl
            rw [hjt, hj, o1, o2]
            (simp (disch := omega) [wk, wkT, wkM, noF, isF, get, belowT, belowM, below, belows, I64, I32, Bv, U8, Sv, tb_bel, hol] <;> try omega)
          | false =>
            have hj : jStep J x = J.put x := by
              unfold jStep; rw [hst]; dsimp only; rw [if_pos hal, if_neg (by rw [hmk]; simp)]
            by_cases hcx : cls x = 0
            · rw [if_pos hcx] at hp1 hp2
              repeat' first | refine WE_fit (hc) ?_ ?_ | refine WE_fit (hnp) ?_ ?_ | simp (maxSteps := 4000000) (disch := omega) only [bunL, bunD, bun, ↓WG_true, ↓WG_false, labelOf, findLabel, ↓reduceIte, imp, shift, killO, cond_true, cond_false, hasId, ne_eq, unown, names, plainR, below, noF, isF, lendObs, lendOb, kindOk, ren, givL, updM, backO, renO, belowM, seval, -Int.reduceToNat, hxe, hcx, hs0, hgb, hmk, D29, B21, B53, bunN, tb_fzs, tb_bel, tb_names, tabBox_len, tb_one, tb_take, tb_has, tb_kill] | exact NK_no _ | refine NK_cl _ _ ?_ | exact Cln.cl | refine clean_tup _ ?_ | refine cleans_cons _ _ ?_ ?_ | refine DR_q _ ?_ | (refine Fk.fk ?_ ?_ <;> intro hg <;> (try simp only [hg]) <;> (try simp only [bunB, ne_eq] at hg) <;> try (exfalso; first | omega | exact Bool.noConfusion hg | exact hg trivial)) | refine And.intro (by omega) ?_ | omega
              all_goals refine ⟨i + 1, by omega, by omega, ?_⟩
              all_goals rw [hjt, hj, hp1, hp2, hpo]
              all_goals (simp (disch := omega) [wk, wkT, wkM, noF, isF, get, belowT, belowM, below, belows, I64, I32, Bv, U8, Sv, tb_bel] <;> try omega)
            · rw [if_neg hcx] at hp1 hp2
              repeat' first | refine WE_fit (hc) ?_ ?_ | refine WE_fit (hnp) ?_ ?_ | simp (maxSteps := 4000000) (disch := omega) only [bunL, bunD, bun, ↓WG_true, ↓WG_false, labelOf, findLabel, ↓reduceIte, imp, shift, killO, cond_true, cond_false, hasId, ne_eq, unown, names, plainR, below, noF, isF, lendObs, lendOb, kindOk, ren, givL, updM, backO, renO, belowM, seval, -Int.reduceToNat, hxe, hs0, hgb, hmk, D29, B21, B53, bunN, tb_fzs, tb_bel, tb_names, tabBox_len, tb_one, tb_take, tb_has, tb_kill] | exact NK_no _ | refine NK_cl _ _ ?_ | exact Cln.cl | refine clean_tup _ ?_ | refine cleans_cons _ _ ?_ ?_ | refine DR_q _ ?_ | (refine Fk.fk ?_ ?_ <;> intro hg <;> (try simp only [hg]) <;> (try simp only [bunB, ne_eq] at hg) <;> try (exfalso; first | omega | exact Bool.noConfusion hg | exact hg trivial)) | refine And.intro (by omega) ?_ | omega
              all_goals refine ⟨i + 1, by omega, by omega, ?_⟩
              all_goals rw [hjt, hj, hp1, hp2, hpo, hs0]
              all_goals (simp (disch := omega) [wk, wkT, wkM, noF, isF, get, belowT, belowM, below, belows, I64, I32, Bv, U8, Sv, tb_bel] <;> try omega)
        · have hml : 0 < J.ms.length := List.length_pos_iff.2 h0
          have hj : jStep J x = J.put x := by
            unfold jStep; rw [hst]; dsimp only; rw [if_neg (fun h => (hall.1 h).elim h0 hm)]
          by_cases hcx : cls x = 0
          · rw [if_pos hcx] at hp1 hp2
            repeat' first | refine WE_fit (hc) ?_ ?_ | refine WE_fit (hnp) ?_ ?_ | simp (maxSteps := 4000000) (disch := omega) only [bunL, bunD, bun, ↓WG_true, ↓WG_false, labelOf, findLabel, ↓reduceIte, imp, shift, killO, cond_true, cond_false, hasId, ne_eq, unown, names, plainR, below, noF, isF, lendObs, lendOb, kindOk, ren, givL, updM, backO, renO, belowM, seval, -Int.reduceToNat, hxe, hcx, hs0, hgb, D29, B21, B53, bunN, tb_fzs, tb_bel, tb_names, tabBox_len, tb_one, tb_take, tb_has, tb_kill] | exact NK_no _ | refine NK_cl _ _ ?_ | exact Cln.cl | refine clean_tup _ ?_ | refine cleans_cons _ _ ?_ ?_ | refine DR_q _ ?_ | (refine Fk.fk ?_ ?_ <;> intro hg <;> (try simp only [hg]) <;> (try simp only [bunB, ne_eq] at hg) <;> try (exfalso; first | omega | exact Bool.noConfusion hg | exact hg trivial)) | refine And.intro (by omega) ?_ | omega
            all_goals refine ⟨i + 1, by omega, by omega, ?_⟩
            all_goals rw [hjt, hj, hp1, hp2, hpo]
            all_goals (simp (disch := omega) [wk, wkT, wkM, noF, isF, get, belowT, belowM, below, belows, I64, I32, Bv, U8, Sv, tb_bel] <;> try omega)
          · rw [if_neg hcx] at hp1 hp2
            repeat' first | refine WE_fit (hc) ?_ ?_ | refine WE_fit (hnp) ?_ ?_ | simp (maxSteps := 4000000) (disch := omega) only [bunL, bunD, bun, ↓WG_true, ↓WG_false, labelOf, findLabel, ↓reduceIte, imp, shift, killO, cond_true, cond_false, hasId, ne_eq, unown, names, plainR, below, noF, isF, lendObs, lendOb, kindOk, ren, givL, updM, backO, renO, belowM, seval, -Int.reduceToNat, hxe, hs0, hgb, D29, B21, B53, bunN, tb_fzs, tb_bel, tb_names, tabBox_len, tb_one, tb_take, tb_has, tb_kill] | exact NK_no _ | refine NK_cl _ _ ?_ | exact Cln.cl | refine clean_tup _ ?_ | refine cleans_cons _ _ ?_ ?_ | refine DR_q _ ?_ | (refine Fk.fk ?_ ?_ <;> intro hg <;> (try simp only [hg]) <;> (try simp only [bunB, ne_eq] at hg) <;> try (exfalso; first | omega | exact Bool.noConfusion hg | exact hg trivial)) | refine And.intro (by omega) ?_ | omega
            all_goals refine ⟨i + 1, by omega, by omega, ?_⟩
            all_goals rw [hjt, hj, hp1, hp2, hpo, hs0]
            all_goals (simp (disch := omega) [wk, wkT, wkM, noF, isF, get, belowT, belowM, below, belows, I64, I32, Bv, U8, Sv, tb_bel] <;> try omega)
  · have e : i = l.length := by omega
    subst e
    rw [List.take_length] at *
    repeat' first | simp (maxSteps := 4000000) (disch := omega) only [bunL, bunD, bun, ↓WG_true, ↓WG_false, labelOf, findLabel, ↓reduceIte, imp, shift, killO, cond_true, cond_false, hasId, ne_eq, unown, names, plainR, below, noF, isF, lendObs, lendOb, kindOk, ren, givL, updM, backO, renO, belowM, seval, -Int.reduceToNat, D29, B21, B53, bunN, tb_fzs, tb_bel, tb_names, tabBox_len, tb_one, tb_take, tb_has, tb_kill] | refine DR_q _ ?_ | (refine Fk.fk ?_ ?_ <;> intro hg <;> (try simp only [hg]) <;> (try simp only [bunB, ne_eq] at hg) <;> try (exfalso; first | omega | exact Bool.noConfusion hg | exact hg trivial)) | refine And.intro (by omega) ?_ | omega
    rfl
end Go.AE
end
