/- Contracts of functions that the laws of this seat reach, and plain laws of what they compute. No condition beyond each statement's own. -/
import Derived.Test.YtpcfmiocndafcaaGreatLA
import Derived.Test.YtpcfmiocndafcaaGreatYB
set_option linter.unusedVariables false
set_option linter.unusedSimpArgs false
section
namespace Go.AE
open Go.Proofs
set_option maxRecDepth 20000
set_option maxHeartbeats 8000000
set_option linter.unusedSimpArgs false
theorem lcut_spec (s p : List UInt8) (hs : s.length ≤ 100000000) (hp : p.length ≤ 100000000) : Spec Tryz.prog 85 [Sv s, Sv p] (.tup [Sv (if (decide (p.length ≤ s.length) && (s.take p.length == p)) then s.drop p.length else s), Bv (decide (p.length ≤ s.length) && (s.take p.length == p))]) := by
  have h := zc9 s p hs hp
  refine z0g (z := false) (ts := [.tmp 4, .tmp 5]) ok1 Tryz.func85 rfl rfl (by decide +kernel) (by simp [Tryz.ntmps85]) rfl ?_
  cases hq : (decide (p.length ≤ s.length) && (s.take p.length == p))
  · rw [hq] at h
    repeat' first | refine z06 (h) ?_ ?_ | simp (maxSteps := 4000000) (disch := omega) only [bunL, bunD, bun, ↓z04, ↓z01, z02, findLabel, ↓reduceIte, imp, shift, z0b, z0a, unown, names, z07, below, noF, isF, z03, z09, z08, ren, givL, updM, z0c, renO, belowM, seval, -Int.reduceToNat, B3, B4, B9, bunN, Int.reduceToNat, tbB2, List.map_nil, List.nil_append, z0d] | exact z0f _ | refine z0e _ _ ?_ | exact Cln.cl | refine z05 _ ?_ | refine z00 _ _ ?_ ?_ | refine DR_q _ ?_ | (refine Fk.fk ?_ ?_ <;> intro hg <;> (try simp only [hg]) <;> (try simp only [bunB] at hg) <;> try (exfalso; first | omega | exact Bool.noConfusion hg | exact hg trivial)) | refine And.intro (by omega) ?_ | omega
    all_goals trace_state
  · rw [hq] at h
    have hle : p.length ≤ s.length := by
      rw [Bool.and_eq_true, decide_eq_true_eq] at hq; exact hq.1
    repeat' first | refine z06 (h) ?_ ?_ | simp (maxSteps := 4000000) (disch := omega) only [bunL, bunD, bun, ↓z04, ↓z01, z02, findLabel, ↓reduceIte, imp, shift, z0b, z0a, unown, names, z07, below, noF, isF, z03, z09, z08, ren, givL, updM, z0c, renO, belowM, seval, -Int.reduceToNat, B3, B4, B9, bunN, Int.reduceToNat, tbB2, List.map_nil, List.nil_append, z0d] | exact z0f _ | refine z0e _ _ ?_ | exact Cln.cl | refine z05 _ ?_ | refine z00 _ _ ?_ ?_ | refine DR_q _ ?_ | (refine Fk.fk ?_ ?_ <;> intro hg <;> (try simp only [hg]) <;> (try simp only [bunB] at hg) <;> try (exfalso; first | omega | exact Bool.noConfusion hg | exact hg trivial)) | refine And.intro (by omega) ?_ | omega
    all_goals trace_state
theorem cut_spec (s p : List UInt8) (hs : s.length ≤ 100000000) (hp : p.length ≤ 100000000) : Spec Tryz.prog 62 [Sv s, Sv p] (.tup [Sv (if (decide (p.length ≤ s.length) && (s.take p.length == p)) then s.drop p.length else s), Bv (decide (p.length ≤ s.length) && (s.take p.length == p))]) := by
  have h := lcut_spec s p hs hp
  refine z0g (z := false) (ts := [.tmp 4, .tmp 5]) ok1 Tryz.func62 rfl rfl (by decide +kernel) (by simp [Tryz.ntmps62]) rfl ?_
  repeat' first | refine z06 (h) ?_ ?_ | simp (maxSteps := 4000000) (disch := omega) only [bunL, bunD, bun, ↓z04, ↓z01, z02, findLabel, ↓reduceIte, imp, shift, z0b, z0a, unown, names, z07, below, noF, isF, z03, z09, z08, ren, givL, updM, z0c, renO, belowM, seval, -Int.reduceToNat, B4, B9, bunN, Int.reduceToNat, tbB2, List.map_nil, List.nil_append, z0d] | exact z0f _ | refine z0e _ _ ?_ | exact Cln.cl | refine z05 _ ?_ | refine z00 _ _ ?_ ?_ | refine DR_q _ ?_ | (refine Fk.fk ?_ ?_ <;> intro hg <;> (try simp only [hg]) <;> (try simp only [bunB] at hg) <;> try (exfalso; first | omega | exact Bool.noConfusion hg | exact hg trivial)) | refine And.intro (by omega) ?_ | omega
theorem z6p (s X : List UInt8) (o : Bool) (hs : s.length ≤ 10000000) (hl : (runes s).1.length ≤ 10000) (e1 : z2j s = (X, o)) (e2 : X.length ≤ 10000) (e3 : (runes X).1.length ≤ 1000) :
    Spec Tryz.prog 27 [tab, Sv s] (.tup [Sv (botV s).1, Sv (botV s).2.1, I64 (botV s).2.2]) := by
  have c1 := zhy s hs hl
  have c2 := cut_spec X ace (by omega) (by decide)
  have c3 := z1o X (by omega)
  have c4 := z2d X (by omega)
  have c5 := z9x (runes X).1 (by omega)
  have c6 := z74 X (by omega) e3
  have c7 := z5s X (by omega)
  have hpl := pnS_len (runes X).1 e3
  rw [e1] at c1
  have hace : (decide (ace.length ≤ X.length) && (X.take ace.length == ace)) = aceB X := rfl
  rw [hace] at c2
  unfold botV
  rw [e1]
  rw [← z0l] at c1 c6 ⊢
  refine z0g (z := false) (ts := [.tmp 4, .tmp 5, .tmp 6]) ok1 Tryz.func27 rfl rfl (by decide +kernel) (by simp [Tryz.ntmps27]) rfl ?_
  dsimp only at c1 ⊢
  unfold botF
  cases o with
  | false =>
    rw [if_pos rfl]
    unfold ace at c2
    repeat' first | refine z06 (c1) ?_ ?_ | refine z06 (c2) ?_ ?_ | simp (maxSteps := 4000000) (disch := omega) only [bunL, bunD, bun, ↓z04, ↓z01, z02, findLabel, ↓reduceIte, imp, shift, z0b, z0a, unown, names, z07, below, noF, isF, z03, z09, z08, ren, givL, updM, z0c, renO, belowM, seval, -Int.reduceToNat, B9, D29, B31, B21, B41, bunN, Int.reduceToNat, tbB2, List.map_nil, List.nil_append, z0d] | exact z0f _ | refine z0e _ _ ?_ | exact Cln.cl | refine z05 _ ?_ | refine z00 _ _ ?_ ?_ | refine DR_q _ ?_ | (refine Fk.fk ?_ ?_ <;> intro hg <;> (try simp only [hg]) <;> (try simp only [bunB] at hg) <;> try (exfalso; first | omega | exact Bool.noConfusion hg | exact hg trivial)) | refine And.intro (by omega) ?_ | omega
    all_goals trace_state
  | true =>
    rw [if_neg (by simp)]
    by_cases h8 : 0 ≤ eight X
    · rw [if_pos h8]
      unfold ace at c2 ⊢
      repeat' first | refine z06 (c1) ?_ ?_ | refine z06 (c2) ?_ ?_ | refine z06 (c3) ?_ ?_ | refine z06 (c4) ?_ ?_ | refine z06 (c5) ?_ ?_ | refine z06 (c6) ?_ ?_ | simp (maxSteps := 4000000) (disch := omega) only [bunL, bunD, bun, ↓z04, ↓z01, z02, findLabel, ↓reduceIte, imp, shift, z0b, z0a, unown, names, z07, below, noF, isF, z03, z09, z08, ren, givL, updM, z0c, renO, belowM, seval, -Int.reduceToNat, B9, D29, B31, B21, B41, bunN, Int.reduceToNat, tbB2, List.map_nil, List.nil_append, z0d] | exact z0f _ | refine z0e _ _ ?_ | exact Cln.cl | refine z05 _ ?_ | refine z00 _ _ ?_ ?_ | refine DR_q _ ?_ | (refine Fk.fk ?_ ?_ <;> intro hg <;> (try simp only [hg]) <;> (try simp only [bunB] at hg) <;> try (exfalso; first | omega | exact Bool.noConfusion hg | exact hg trivial)) | refine And.intro (by omega) ?_ | omega
      all_goals trace_state
    · rw [if_neg h8]
      cases ha : aceB X with
      | false =>
        rw [if_pos rfl]
        rw [ha] at c2
        unfold ace at c2
        repeat' first | refine z06 (c1) ?_ ?_ | refine z06 (c2) ?_ ?_ | refine z06 (c3) ?_ ?_ | refine z06 (c7) ?_ ?_ | simp (maxSteps := 4000000) (disch := omega) only [bunL, bunD, bun, ↓z04, ↓z01, z02, findLabel, ↓reduceIte, imp, shift, z0b, z0a, unown, names, z07, below, noF, isF, z03, z09, z08, ren, givL, updM, z0c, renO, belowM, seval, -Int.reduceToNat, B9, D29, B31, B21, B41, bunN, Int.reduceToNat, tbB2, List.map_nil, List.nil_append, z0d] | exact z0f _ | refine z0e _ _ ?_ | exact Cln.cl | refine z05 _ ?_ | refine z00 _ _ ?_ ?_ | refine DR_q _ ?_ | (refine Fk.fk ?_ ?_ <;> intro hg <;> (try simp only [hg]) <;> (try simp only [bunB] at hg) <;> try (exfalso; first | omega | exact Bool.noConfusion hg | exact hg trivial)) | refine And.intro (by omega) ?_ | omega
        all_goals trace_state
      | true =>
        rw [if_neg (by simp)]
        rw [ha] at c2
        have c8 := zou (X.drop 4) (by simp; omega)
        have hd : X.drop ace.length = X.drop 4 := rfl
        rw [if_pos rfl, hd] at c2
        unfold ace at c2
        cases hp : zd4 (X.drop 4) with
        | none =>
          rw [hp] at c8
          unfold decR at c8
          repeat' first | refine z06 (c1) ?_ ?_ | refine z06 (c2) ?_ ?_ | refine z06 (c3) ?_ ?_ | refine z06 (c8) ?_ ?_ | simp (maxSteps := 4000000) (disch := omega) only [bunL, bunD, bun, ↓z04, ↓z01, z02, findLabel, ↓reduceIte, imp, shift, z0b, z0a, unown, names, z07, below, noF, isF, z03, z09, z08, ren, givL, updM, z0c, renO, belowM, seval, -Int.reduceToNat, B9, D29, B31, B21, B41, bunN, Int.reduceToNat, tbB2, List.map_nil, List.nil_append, z0d] | exact z0f _ | refine z0e _ _ ?_ | exact Cln.cl | refine z05 _ ?_ | refine z00 _ _ ?_ ?_ | refine DR_q _ ?_ | (refine Fk.fk ?_ ?_ <;> intro hg <;> (try simp only [hg]) <;> (try simp only [bunB] at hg) <;> try (exfalso; first | omega | exact Bool.noConfusion hg | exact hg trivial)) | refine And.intro (by omega) ?_ | omega
          all_goals trace_state
        | some l =>
          rw [hp] at c8
          unfold decR at c8
          dsimp only at c8 ⊢
          by_cases h63 : 63 < X.length
          · rw [if_pos h63]
            repeat' first | refine z06 (c1) ?_ ?_ | refine z06 (c2) ?_ ?_ | refine z06 (c3) ?_ ?_ | refine z06 (c8) ?_ ?_ | simp (maxSteps := 4000000) (disch := omega) only [bunL, bunD, bun, ↓z04, ↓z01, z02, findLabel, ↓reduceIte, imp, shift, z0b, z0a, unown, names, z07, below, noF, isF, z03, z09, z08, ren, givL, updM, z0c, renO, belowM, seval, -Int.reduceToNat, B9, D29, B31, B21, B41, bunN, Int.reduceToNat, tbB2, List.map_nil, List.nil_append, z0d] | exact z0f _ | refine z0e _ _ ?_ | exact Cln.cl | refine z05 _ ?_ | refine z00 _ _ ?_ ?_ | refine DR_q _ ?_ | (refine Fk.fk ?_ ?_ <;> intro hg <;> (try simp only [hg]) <;> (try simp only [bunB] at hg) <;> try (exfalso; first | omega | exact Bool.noConfusion hg | exact hg trivial)) | refine And.intro (by omega) ?_ | omega
            all_goals trace_state
          · rw [if_neg h63]
            obtain ⟨d1, d2, d3⟩ := enc_dec (s := X.drop 4) (by simp; omega) hp
            have hll : l.length ≤ 63 := by simp at d2; omega
            have hsl := z6a l
            have hr := z58 d1
            have q1 := z51 l (by omega)
            have q2 := z74 (strS l) (by omega) (by rw [hr]; dsimp only; omega)
            have q3 := z9x l (by omega)
            rw [← z0l] at q2
            generalize za4 (strS l) = wv at *
            generalize strS l = u at *
            by_cases hw : wv = 0
            · subst hw
              rw [if_neg (by simp)]
              by_cases hpe : pnS l = X.drop 4
              · rw [if_neg (by simp [hpe])]
                rw [hpe] at q3
                repeat' first | refine z06 (c1) ?_ ?_ | refine z06 (c2) ?_ ?_ | refine z06 (c3) ?_ ?_ | refine z06 (c8) ?_ ?_ | refine z06 (q1) ?_ ?_ | refine z06 (q2) ?_ ?_ | refine z06 (q3) ?_ ?_ | simp (maxSteps := 4000000) (disch := omega) only [bunL, bunD, bun, ↓z04, ↓z01, z02, findLabel, ↓reduceIte, imp, shift, z0b, z0a, unown, names, z07, below, noF, isF, z03, z09, z08, ren, givL, updM, z0c, renO, belowM, seval, -Int.reduceToNat, B9, D29, B31, B21, B41, bunN, Int.reduceToNat, tbB2, List.map_nil, List.nil_append, z0d] | exact z0f _ | refine z0e _ _ ?_ | exact Cln.cl | refine z05 _ ?_ | refine z00 _ _ ?_ ?_ | refine DR_q _ ?_ | (refine Fk.fk ?_ ?_ <;> intro hg <;> (try simp only [hg]) <;> (try simp only [bunB] at hg) <;> try (exfalso; first | omega | exact Bool.noConfusion hg | exact hg trivial)) | refine And.intro (by omega) ?_ | omega
                all_goals trace_state
              · rw [if_pos hpe]
                have hb : (pnS l == X.drop 4) = false := by simpa using hpe
                repeat' first | refine z06 (c1) ?_ ?_ | refine z06 (c2) ?_ ?_ | refine z06 (c3) ?_ ?_ | refine z06 (c8) ?_ ?_ | refine z06 (q1) ?_ ?_ | refine z06 (q2) ?_ ?_ | refine z06 (q3) ?_ ?_ | simp (maxSteps := 4000000) (disch := omega) only [bunL, bunD, bun, ↓z04, ↓z01, z02, findLabel, ↓reduceIte, imp, shift, z0b, z0a, unown, names, z07, below, noF, isF, z03, z09, z08, ren, givL, updM, z0c, renO, belowM, seval, -Int.reduceToNat, hb, B9, D29, B31, B21, B41, bunN, Int.reduceToNat, tbB2, List.map_nil, List.nil_append, z0d] | exact z0f _ | refine z0e _ _ ?_ | exact Cln.cl | refine z05 _ ?_ | refine z00 _ _ ?_ ?_ | refine DR_q _ ?_ | (refine Fk.fk ?_ ?_ <;> intro hg <;> (try simp only [hg]) <;> (try simp only [bunB] at hg) <;> try (exfalso; first | omega | exact Bool.noConfusion hg | exact hg trivial)) | refine And.intro (by omega) ?_ | omega
                all_goals trace_state
            · rw [if_pos hw]
              repeat' first | refine z06 (c1) ?_ ?_ | refine z06 (c2) ?_ ?_ | refine z06 (c3) ?_ ?_ | refine z06 (c8) ?_ ?_ | refine z06 (q1) ?_ ?_ | refine z06 (q2) ?_ ?_ | refine z06 (q3) ?_ ?_ | simp (maxSteps := 4000000) (disch := omega) only [bunL, bunD, bun, ↓z04, ↓z01, z02, findLabel, ↓reduceIte, imp, shift, z0b, z0a, unown, names, z07, below, noF, isF, z03, z09, z08, ren, givL, updM, z0c, renO, belowM, seval, -Int.reduceToNat, hw, B9, D29, B31, B21, B41, bunN, Int.reduceToNat, tbB2, List.map_nil, List.nil_append, z0d] | exact z0f _ | refine z0e _ _ ?_ | exact Cln.cl | refine z05 _ ?_ | refine z00 _ _ ?_ ?_ | refine DR_q _ ?_ | (refine Fk.fk ?_ ?_ <;> intro hg <;> (try simp only [hg]) <;> (try simp only [bunB] at hg) <;> try (exfalso; first | omega | exact Bool.noConfusion hg | exact hg trivial)) | refine And.intro (by omega) ?_ | omega
              all_goals trace_state
theorem z28 (s : List UInt8) (hs : s.length ≤ 10000000) (hl : (runes s).1.length ≤ 240) : Spec Tryz.prog 27 [tab, Sv s] (.tup [Sv (botV s).1, Sv (botV s).2.1, I64 (botV s).2.2]) := by
  obtain ⟨X, o, e1, e2, e3⟩ : ∃ X o, z2j s = (X, o) ∧ X.length ≤ 10000 ∧ (runes X).1.length ≤ 1000 := by
    by_cases h0 : 0 ≤ (runes s).2
    · exact ⟨[], false, by unfold z2j; rw [if_pos h0], by decide, by decide⟩
    · have h1 := z87 (runes s).1
      have h2 := z6a (z5b (runes s).1)
      have h3 := z5m (s := s)
      exact ⟨_, true, z4b h0, by omega, by rw [h3]; dsimp only; omega⟩
  exact z6p s X o hs (by omega) e1 e2 e3
theorem z5v (s : List UInt8) (h : Spec Tryz.prog 27 [tab, Sv s] (.tup [Sv (botV s).1, Sv (botV s).2.1, I64 (botV s).2.2])) : Spec Tryz.prog 10 [tab, Sv s] (.tup [Sv (toA s).1, I64 (toA s).2]) := by
  rw [← z0l] at h ⊢
  refine z0g (z := false) (ts := [.tmp 4, .tmp 5]) ok1 Tryz.func10 rfl rfl (by decide +kernel) (by simp [Tryz.ntmps10]) rfl ?_
  unfold toA
  generalize botV s = x at *
  obtain ⟨x1, x2, x3⟩ := x
  dsimp only at h ⊢
  by_cases hx : x3 = 0
  · subst hx
    rw [if_neg (by simp)]
    repeat' first | refine z06 (h) ?_ ?_ | simp (maxSteps := 4000000) (disch := omega) only [bunL, bunD, bun, ↓z04, ↓z01, z02, findLabel, ↓reduceIte, imp, shift, z0b, z0a, unown, names, z07, below, noF, isF, z03, z09, z08, ren, givL, updM, z0c, renO, belowM, seval, -Int.reduceToNat, B9, D29, B31, bunN, Int.reduceToNat, tbB2, List.map_nil, List.nil_append, z0d] | exact z0f _ | refine z0e _ _ ?_ | exact Cln.cl | refine z05 _ ?_ | refine z00 _ _ ?_ ?_ | refine DR_q _ ?_ | (refine Fk.fk ?_ ?_ <;> intro hg <;> (try simp only [hg]) <;> (try simp only [bunB] at hg) <;> try (exfalso; first | omega | exact Bool.noConfusion hg | exact hg trivial)) | refine And.intro (by omega) ?_ | omega
    all_goals trace_state
  · rw [if_pos hx]
    repeat' first | refine z06 (h) ?_ ?_ | simp (maxSteps := 4000000) (disch := omega) only [bunL, bunD, bun, ↓z04, ↓z01, z02, findLabel, ↓reduceIte, imp, shift, z0b, z0a, unown, names, z07, below, noF, isF, z03, z09, z08, ren, givL, updM, z0c, renO, belowM, seval, -Int.reduceToNat, hx, B9, D29, B31, bunN, Int.reduceToNat, tbB2, List.map_nil, List.nil_append, z0d] | exact z0f _ | refine z0e _ _ ?_ | exact Cln.cl | refine z05 _ ?_ | refine z00 _ _ ?_ ?_ | refine DR_q _ ?_ | (refine Fk.fk ?_ ?_ <;> intro hg <;> (try simp only [hg]) <;> (try simp only [bunB] at hg) <;> try (exfalso; first | omega | exact Bool.noConfusion hg | exact hg trivial)) | refine And.intro (by omega) ?_ | omega
    all_goals trace_state
theorem zjj (s : List UInt8) (h : Spec Tryz.prog 27 [tab, Sv s] (.tup [Sv (botV s).1, Sv (botV s).2.1, I64 (botV s).2.2])) : Spec Tryz.prog 11 [tab, Sv s] (.tup [Sv (toU s).1, I64 (toU s).2]) := by
  rw [← z0l] at h ⊢
  refine z0g (z := false) (ts := [.tmp 4, .tmp 5]) ok1 Tryz.func11 rfl rfl (by decide +kernel) (by simp [Tryz.ntmps11]) rfl ?_
  unfold toU
  generalize botV s = x at *
  obtain ⟨x1, x2, x3⟩ := x
  dsimp only at h ⊢
  by_cases hx : x3 = 0
  · subst hx
    rw [if_neg (by simp)]
    repeat' first | refine z06 (h) ?_ ?_ | simp (maxSteps := 4000000) (disch := omega) only [bunL, bunD, bun, ↓z04, ↓z01, z02, findLabel, ↓reduceIte, imp, shift, z0b, z0a, unown, names, z07, below, noF, isF, z03, z09, z08, ren, givL, updM, z0c, renO, belowM, seval, -Int.reduceToNat, B9, D29, B31, bunN, Int.reduceToNat, tbB2, List.map_nil, List.nil_append, z0d] | exact z0f _ | refine z0e _ _ ?_ | exact Cln.cl | refine z05 _ ?_ | refine z00 _ _ ?_ ?_ | refine DR_q _ ?_ | (refine Fk.fk ?_ ?_ <;> intro hg <;> (try simp only [hg]) <;> (try simp only [bunB] at hg) <;> try (exfalso; first | omega | exact Bool.noConfusion hg | exact hg trivial)) | refine And.intro (by omega) ?_ | omega
    all_goals trace_state
  · rw [if_pos hx]
    repeat' first | refine z06 (h) ?_ ?_ | simp (maxSteps := 4000000) (disch := omega) only [bunL, bunD, bun, ↓z04, ↓z01, z02, findLabel, ↓reduceIte, imp, shift, z0b, z0a, unown, names, z07, below, noF, isF, z03, z09, z08, ren, givL, updM, z0c, renO, belowM, seval, -Int.reduceToNat, hx, B9, D29, B31, bunN, Int.reduceToNat, tbB2, List.map_nil, List.nil_append, z0d] | exact z0f _ | refine z0e _ _ ?_ | exact Cln.cl | refine z05 _ ?_ | refine z00 _ _ ?_ ?_ | refine DR_q _ ?_ | (refine Fk.fk ?_ ?_ <;> intro hg <;> (try simp only [hg]) <;> (try simp only [bunB] at hg) <;> try (exfalso; first | omega | exact Bool.noConfusion hg | exact hg trivial)) | refine And.intro (by omega) ?_ | omega
    all_goals trace_state
theorem zem (s : List UInt8) (hs : s.length ≤ 10000) (h : Spec Tryz.prog 27 [tab, Sv s] (.tup [Sv (botV s).1, Sv (botV s).2.1, I64 (botV s).2.2])) : Spec Tryz.prog 13 [tab, Sv s] (I64 (kinV s)) := by
  have h1 := z5v s h
  have h2 := z1o s (by omega)
  have h3 := zpt s (by omega)
  have hpl : (plS s).length = s.length := by simp [plS]
  have h4 := zef (plS s) ace (by omega) (by decide)
  have hace : (decide (ace.length ≤ (plS s).length) && ((plS s).take ace.length == ace)) = aceB (plS s) := rfl
  rw [hace] at h4
  unfold ace at h4
  rw [← z0l] at h1 ⊢
  refine z0g (z := false) (ts := [.tmp 4]) ok1 Tryz.func13 rfl rfl (by decide +kernel) (by simp [Tryz.ntmps13]) rfl ?_
  unfold kinV
  generalize toA s = x at *
  obtain ⟨x1, x2⟩ := x
  dsimp only at h1 ⊢
  by_cases hx : x2 = 0
  · subst hx
    rw [if_neg (by simp)]
    by_cases h8 : 0 ≤ eight s
    · rw [if_pos h8]
      repeat' first | refine z06 (h1) ?_ ?_ | refine z06 (h2) ?_ ?_ | simp (maxSteps := 4000000) (disch := omega) only [bunL, bunD, bun, ↓z04, ↓z01, z02, findLabel, ↓reduceIte, imp, shift, z0b, z0a, unown, names, z07, below, noF, isF, z03, z09, z08, ren, givL, updM, z0c, renO, belowM, seval, -Int.reduceToNat, B9, D29, B31, bunN, Int.reduceToNat, tbB2, List.map_nil, List.nil_append, z0d] | exact z0f _ | refine z0e _ _ ?_ | exact Cln.cl | refine z05 _ ?_ | refine z00 _ _ ?_ ?_ | refine DR_q _ ?_ | (refine Fk.fk ?_ ?_ <;> intro hg <;> (try simp only [hg]) <;> (try simp only [bunB] at hg) <;> try (exfalso; first | omega | exact Bool.noConfusion hg | exact hg trivial)) | refine And.intro (by omega) ?_ | omega
      all_goals trace_state
    · rw [if_neg h8]
      cases ha : aceB (plS s)
      · rw [ha] at h4
        rw [if_neg (by simp)]
        repeat' first | refine z06 (h1) ?_ ?_ | refine z06 (h2) ?_ ?_ | refine z06 (h3) ?_ ?_ | refine z06 (h4) ?_ ?_ | simp (maxSteps := 4000000) (disch := omega) only [bunL, bunD, bun, ↓z04, ↓z01, z02, findLabel, ↓reduceIte, imp, shift, z0b, z0a, unown, names, z07, below, noF, isF, z03, z09, z08, ren, givL, updM, z0c, renO, belowM, seval, -Int.reduceToNat, B9, D29, B31, bunN, Int.reduceToNat, tbB2, List.map_nil, List.nil_append, z0d] | exact z0f _ | refine z0e _ _ ?_ | exact Cln.cl | refine z05 _ ?_ | refine z00 _ _ ?_ ?_ | refine DR_q _ ?_ | (refine Fk.fk ?_ ?_ <;> intro hg <;> (try simp only [hg]) <;> (try simp only [bunB] at hg) <;> try (exfalso; first | omega | exact Bool.noConfusion hg | exact hg trivial)) | refine And.intro (by omega) ?_ | omega
        all_goals trace_state
      · rw [ha] at h4
        rw [if_pos rfl]
        repeat' first | refine z06 (h1) ?_ ?_ | refine z06 (h2) ?_ ?_ | refine z06 (h3) ?_ ?_ | refine z06 (h4) ?_ ?_ | simp (maxSteps := 4000000) (disch := omega) only [bunL, bunD, bun, ↓z04, ↓z01, z02, findLabel, ↓reduceIte, imp, shift, z0b, z0a, unown, names, z07, below, noF, isF, z03, z09, z08, ren, givL, updM, z0c, renO, belowM, seval, -Int.reduceToNat, B9, D29, B31, bunN, Int.reduceToNat, tbB2, List.map_nil, List.nil_append, z0d] | exact z0f _ | refine z0e _ _ ?_ | exact Cln.cl | refine z05 _ ?_ | refine z00 _ _ ?_ ?_ | refine DR_q _ ?_ | (refine Fk.fk ?_ ?_ <;> intro hg <;> (try simp only [hg]) <;> (try simp only [bunB] at hg) <;> try (exfalso; first | omega | exact Bool.noConfusion hg | exact hg trivial)) | refine And.intro (by omega) ?_ | omega
        all_goals trace_state
  · rw [if_pos hx]
    repeat' first | refine z06 (h1) ?_ ?_ | simp (maxSteps := 4000000) (disch := omega) only [bunL, bunD, bun, ↓z04, ↓z01, z02, findLabel, ↓reduceIte, imp, shift, z0b, z0a, unown, names, z07, below, noF, isF, z03, z09, z08, ren, givL, updM, z0c, renO, belowM, seval, -Int.reduceToNat, hx, B9, D29, B31, bunN, Int.reduceToNat, tbB2, List.map_nil, List.nil_append, z0d] | exact z0f _ | refine z0e _ _ ?_ | exact Cln.cl | refine z05 _ ?_ | refine z00 _ _ ?_ ?_ | refine DR_q _ ?_ | (refine Fk.fk ?_ ?_ <;> intro hg <;> (try simp only [hg]) <;> (try simp only [bunB] at hg) <;> try (exfalso; first | omega | exact Bool.noConfusion hg | exact hg trivial)) | refine And.intro (by omega) ?_ | omega
    all_goals trace_state
end Go.AE
end
section
namespace Go.AE
open Go.Proofs
set_option maxRecDepth 20000
set_option maxHeartbeats 8000000
set_option linter.unusedSimpArgs false
theorem fold_key8 {s : List UInt8} (hs : (runes s).1.length ≤ 240) (h : ¬ 0 ≤ (runes s).2) : ∃ X, z2j s = (X, true) ∧ X.length ≤ 10000000 ∧ (runes X).1.length ≤ 1000 ∧ z2j X = (X, true) := by
  obtain ⟨X, x1, x2, x3, _, x5, _⟩ := zeb (s := s) (by omega) h
  have := z87 (runes s).1
  exact ⟨X, x1, by omega, by rw [x3]; dsimp only; omega, x5⟩
theorem z0y : Spec Tryz.prog 8 [] (Bv true) := by
  have a1 := z5v _ (z28 [66, 195, 156, 99, 104, 101, 114] (by decide) (by decide))
  rw [show toA [66, 195, 156, 99, 104, 101, 114] = ([120, 110, 45, 45, 98, 99, 104, 101, 114, 45, 107, 118, 97], 0) by decide +kernel] at a1
  have a2 := zjj _ (z28 [88, 78, 45, 45, 98, 99, 104, 101, 114, 45, 75, 86, 65] (by decide) (by decide))
  rw [show toU [88, 78, 45, 45, 98, 99, 104, 101, 114, 45, 75, 86, 65] = ([98, 195, 188, 99, 104, 101, 114], 0) by decide +kernel] at a2
  have a3 := z5v _ (z28 [65, 98, 99] (by decide) (by decide))
  rw [show toA [65, 98, 99] = ([97, 98, 99], 0) by decide +kernel] at a3
  have a4 := z5v _ (z28 [45, 97] (by decide) (by decide))
  rw [show toA [45, 97] = ([], 11) by decide +kernel] at a4
  have a5 := z5v _ (z28 [120, 110, 45, 45, 97, 98, 99, 45] (by decide) (by decide))
  rw [show toA [120, 110, 45, 45, 97, 98, 99, 45] = ([], 4) by decide +kernel] at a5
  have a6 := z5v _ (z28 [204, 129, 97] (by decide) (by decide))
  rw [show toA [204, 129, 97] = ([], 10) by decide +kernel] at a6
  have a7 := z5v _ (z28 [229, 180, 138] (by decide) (by decide))
  obtain ⟨A, hA⟩ : ∃ A, toA [229, 180, 138] = (A, 0) := ⟨(toA [229, 180, 138]).1, Prod.ext rfl (by decide +kernel)⟩
  rw [hA] at a7
  have p1 := z5s [] (by decide)
  rw [show plaV [] = 13 by decide +kernel] at p1
  have p2 := z5s [97, 95, 98] (by decide)
  rw [show plaV [97, 95, 98] = 8 by decide +kernel] at p2
  have w1 := z74 [215, 144, 97] (by decide) (by decide)
  rw [show za4 [215, 144, 97] = 9 by decide +kernel] at w1
  have w2 := z74 [97, 194, 183] (by decide) (by decide)
  rw [show za4 [97, 194, 183] = 8 by decide +kernel] at w2
  have k1 := zem [195, 188] (by decide) (z28 _ (by decide) (by decide))
  rw [show kinV [195, 188] = 3 by decide +kernel] at k1
  have k2 := zem [97] (by decide) (z28 _ (by decide) (by decide))
  rw [show kinV [97] = 1 by decide +kernel] at k2
  have k3 := zem [88, 110, 45, 45, 98, 99, 104, 101, 114, 45, 107, 118, 97] (by decide) (z28 _ (by decide) (by decide))
  rw [show kinV [88, 110, 45, 45, 98, 99, 104, 101, 114, 45, 107, 118, 97] = 2 by decide +kernel] at k3
  have k4 := zem [] (by decide) (z28 _ (by decide) (by decide))
  rw [show kinV [] = 0 by decide +kernel] at k4
  have c1 := zbq 228
  rw [show lch 228 = true by decide +kernel] at c1
  have c2 := zbq 65
  rw [show lch 65 = false by decide +kernel] at c2
  rw [← z0l] at a1 a2 a3 a4 a5 a6 a7 w1 w2 k1 k2 k3 k4 c1 c2
  refine z0g (z := false) (ts := [.tmp 0]) ok1 Tryz.func8 rfl rfl (by decide +kernel) (by simp [Tryz.ntmps8]) rfl ?_
  repeat' first | refine z06 (z3n) ?_ ?_ | refine z06 (a1) ?_ ?_ | refine z06 (a2) ?_ ?_ | refine z06 (a3) ?_ ?_ | refine z06 (a4) ?_ ?_ | refine z06 (a5) ?_ ?_ | refine z06 (a6) ?_ ?_ | refine z06 (a7) ?_ ?_ | refine z06 (p1) ?_ ?_ | refine z06 (p2) ?_ ?_ | refine z06 (w1) ?_ ?_ | refine z06 (w2) ?_ ?_ | refine z06 (k1) ?_ ?_ | refine z06 (k2) ?_ ?_ | refine z06 (k3) ?_ ?_ | refine z06 (k4) ?_ ?_ | refine z06 (c1) ?_ ?_ | refine z06 (c2) ?_ ?_ | simp (maxSteps := 4000000) (disch := omega) only [bunL, bunD, bun, ↓z04, ↓z01, z02, findLabel, ↓reduceIte, imp, shift, z0b, z0a, unown, names, z07, below, noF, isF, z03, z09, z08, ren, givL, updM, z0c, renO, belowM, seval, -Int.reduceToNat, B9, D29, B31, bunN, Int.reduceToNat, tbB2, List.map_nil, List.nil_append, z0d] | exact z0f _ | refine z0e _ _ ?_ | exact Cln.cl | refine z05 _ ?_ | refine z00 _ _ ?_ ?_ | refine DR_q _ ?_ | (refine Fk.fk ?_ ?_ <;> intro hg <;> (try simp only [hg]) <;> (try simp only [bunB] at hg) <;> try (exfalso; first | omega | exact Bool.noConfusion hg | exact hg trivial)) | refine And.intro (by omega) ?_ | omega
  all_goals trace_state
theorem zge (s : List UInt8) : Spec Tryz.prog 6 [Sv s] (Bv true) := by
  refine z0g (z := false) (ts := [.tmp 2]) ok1 Tryz.func6 rfl rfl (by decide +kernel) (by simp [Tryz.ntmps6]) rfl ?_
  by_cases hs : s.length ≤ 150
  · have hl := z5u s
    have c1 := zmb s (by omega)
    have a1 := z5v s (z28 s (by omega) (by omega))
    by_cases h0 : 0 ≤ (runes s).2
    · have e : z2j s = ([], false) := by unfold z2j; rw [if_pos h0]
      have e2 : toA s = ([], 7) := (zqe (by rw [zon h0]; decide)).1.trans (by rw [zon h0])
      rw [e] at c1
      rw [e2] at a1
      rw [← z0l] at c1 a1
      repeat' first | refine z06 (z0y) ?_ ?_ | refine z06 (z3n) ?_ ?_ | refine z06 (c1) ?_ ?_ | refine z06 (a1) ?_ ?_ | simp (maxSteps := 4000000) (disch := omega) only [bunL, bunD, bun, ↓z04, ↓z01, z02, findLabel, ↓reduceIte, imp, shift, z0b, z0a, unown, names, z07, below, noF, isF, z03, z09, z08, ren, givL, updM, z0c, renO, belowM, seval, -Int.reduceToNat, B9, D29, B31, bunN, Int.reduceToNat, tbB2, List.map_nil, List.nil_append, z0d] | exact z0f _ | refine z0e _ _ ?_ | exact Cln.cl | refine z05 _ ?_ | refine z00 _ _ ?_ ?_ | refine DR_q _ ?_ | (refine Fk.fk ?_ ?_ <;> intro hg <;> (try simp only [hg]) <;> (try simp only [bunB] at hg) <;> try (exfalso; first | omega | exact Bool.noConfusion hg | exact hg trivial)) | refine And.intro (by omega) ?_ | omega
      all_goals trace_state
    · obtain ⟨X, x1, x2, x3, x5⟩ := fold_key8 (s := s) (by omega) h0
      obtain ⟨D, d1, d2, d3, d4⟩ := form_key (s := s) (by omega) h0 false false
      have n1 := nfd_spec s (by omega)
      have e1 : botV X = botV s := by rw [zhc x5, zhc x1]
      have e2 : botV D = botV s := by have := bot_form h0 false; rwa [d1] at this
      have fD : z2j D = (X, true) := by have := zhx h0 false; rwa [d1, x1] at this
      have xl : X.length ≤ 10000 := by
        obtain ⟨X', y1, y2, y3, _⟩ := zeb (s := s) (by omega) h0
        rw [x1] at y1
        have q1 := z87 (runes s).1
        have q2 := z6a (z5b (runes s).1)
        have := z4b h0
        rw [x1] at this
        simp only [Prod.mk.injEq, and_true] at this
        rw [this]; omega
      have a2 := z5v X (z6p X X true x2 (by omega) x5 xl x3)
      have a3 := z5v D (z6p D X true d2 d3 fD xl x3)
      have t1 : toA X = toA s := by unfold toA; rw [e1]
      have t2 : toA D = toA s := by unfold toA; rw [e2]
      rw [t1] at a2
      rw [t2] at a3
      rw [x1] at c1
      rw [d1] at n1
      rw [← z0l] at c1 a1 a2 a3 n1
      generalize toA s = x at *
      obtain ⟨x1', x2'⟩ := x
      dsimp only at a1 a2 a3
      have bb : (x1' == x1') = true := by simp
      repeat' first | refine z06 (z0y) ?_ ?_ | refine z06 (z3n) ?_ ?_ | refine z06 (c1) ?_ ?_ | refine z06 (a1) ?_ ?_ | refine z06 (a2) ?_ ?_ | refine z06 (a3) ?_ ?_ | refine z06 (n1) ?_ ?_ | simp (maxSteps := 4000000) (disch := omega) only [bunL, bunD, bun, ↓z04, ↓z01, z02, findLabel, ↓reduceIte, imp, shift, z0b, z0a, unown, names, z07, below, noF, isF, z03, z09, z08, ren, givL, updM, z0c, renO, belowM, seval, -Int.reduceToNat, bb, B9, D29, B31, bunN, Int.reduceToNat, tbB2, List.map_nil, List.nil_append, z0d] | exact z0f _ | refine z0e _ _ ?_ | exact Cln.cl | refine z05 _ ?_ | refine z00 _ _ ?_ ?_ | refine DR_q _ ?_ | (refine Fk.fk ?_ ?_ <;> intro hg <;> (try simp only [hg]) <;> (try simp only [bunB] at hg) <;> try (exfalso; first | omega | exact Bool.noConfusion hg | exact hg trivial)) | refine And.intro (by omega) ?_ | omega
      all_goals trace_state
  · repeat' first | refine z06 (z0y) ?_ ?_ | simp (maxSteps := 4000000) (disch := omega) only [bunL, bunD, bun, ↓z04, ↓z01, z02, findLabel, ↓reduceIte, imp, shift, z0b, z0a, unown, names, z07, below, noF, isF, z03, z09, z08, ren, givL, updM, z0c, renO, belowM, seval, -Int.reduceToNat, B9, D29, B31, bunN, Int.reduceToNat, tbB2, List.map_nil, List.nil_append, z0d] | exact z0f _ | refine z0e _ _ ?_ | exact Cln.cl | refine z05 _ ?_ | refine z00 _ _ ?_ ?_ | refine DR_q _ ?_ | (refine Fk.fk ?_ ?_ <;> intro hg <;> (try simp only [hg]) <;> (try simp only [bunB] at hg) <;> try (exfalso; first | omega | exact Bool.noConfusion hg | exact hg trivial)) | refine And.intro (by omega) ?_ | omega
end Go.AE
end
