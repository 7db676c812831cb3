/- Contracts of functions that the laws of this seat reach, and plain laws of what they compute. No condition beyond each statement's own. -/
import Derived.Test.YtpcfmiocndafcaaGreatLB
set_option linter.unusedVariables false
set_option linter.unusedSimpArgs false
section
namespace Go.AE
open Go.Proofs
set_option maxRecDepth 20000
set_option maxHeartbeats 8000000
set_option linter.unusedSimpArgs false
theorem asc_of {s : List UInt8} (h : eight s < 0) : ∀ c ∈ s, c.toNat < 128 := eight_asc (by omega)
theorem z6h {s X : List UInt8} (h : eight s < 0) (e : z2j s = (X, true)) : X = plS s ∧ eight X < 0 := by
  have ha := asc_of h
  rw [ze9 ha] at e
  simp only [Prod.mk.injEq, and_true] at e
  subst e
  refine ⟨rfl, ?_⟩
  rw [plS_eight]; exact h
theorem take4_ace {a : List UInt8} (h : 4 < a.length) : (a.take 4 == ace) = aceB a := by
  unfold aceB
  rw [decide_eq_true (show 4 ≤ a.length by omega), Bool.true_and]
theorem zgd (s : List UInt8) : Spec Tryz.prog 3 [Sv s] (Bv true) := by
  refine z0g (z := false) (ts := [.tmp 2]) ok1 Tryz.func3 rfl rfl (by decide +kernel) (by simp [Tryz.ntmps3]) rfl ?_
  by_cases hs : s.length ≤ 150
  · have hl := z5u s
    have b1 := z28 s (by omega) (by omega)
    have a1 := z5v s b1
    have u1 := zjj s b1
    by_cases hz : (botV s).2.2 = 0
    · obtain ⟨t1, t2⟩ := zo5 hz
      rw [t1] at a1
      rw [t2] at u1
      rcases zlm (s := s) (by omega) hz with ⟨u, w1, w2, w3, w4, _⟩ | ⟨X, x1, x2, x3, x4, x5, x6⟩
      · obtain ⟨v1, v2, v3, v4, v5⟩ := zjk w1 w3 w2
        rw [w4] at a1 u1
        dsimp only at a1 u1
        have hb := z4v u
        have hul : u.length ≤ 10000 := by
          have hat : (runes u).2 = -1 := (z7i u).resolve_right w1.at_
          rw [hat, z4a, List.take_length] at hb
          have := z6a (runes u).1
          rw [hb.2.1] at this; omega
        have bu := z6p u u true (by omega) (by omega) (zg6 w1) hul w3
        have fa : z2j (ace ++ pnS (runes u).1) = (ace ++ pnS (runes u).1, true) := by
          have hasc := asc_of (s := ace ++ pnS (runes u).1) (by omega)
          rw [ze9 hasc]
          congr 1
          refine map_plC fun c hc => ?_
          rcases List.mem_append.1 hc with hc | hc
          · exact (zoj c hc).1
          · have hok := z2o u
            rw [pnS_eq hok] at hc
            exact enc_low hok w3 (fun r hr => (zl7 w1 r hr).1) c hc
        have hra := z5u (ace ++ pnS (runes u).1)
        have ba := z6p (ace ++ pnS (runes u).1) (ace ++ pnS (runes u).1) true (by omega) (by omega) fa (by omega) (by omega)
        have q1 := z5v u bu
        have q2 := zjj u bu
        have q3 := z5v _ ba
        have q4 := zjj _ ba
        have r1 := zo5 (s := u) (by rw [v1])
        have r2 := zo5 (s := ace ++ pnS (runes u).1) (by rw [v2])
        rw [r1.1, v1] at q1
        rw [r1.2, v1] at q2
        rw [r2.1, v2] at q3
        rw [r2.2, v2] at q4
        dsimp only at q1 q2 q3 q4
        generalize ace ++ pnS (runes u).1 = A at *
        have e8 := z1o A (by omega)
        rw [v3] at e8
        have bA : (A == A) = true := by simp
        have bu2 : (u == u) = true := by simp
        rw [← z0l] at a1 u1 q1 q2 q3 q4
        repeat' first | refine z06 (z0y) ?_ ?_ | refine z06 (z3n) ?_ ?_ | refine z06 (a1) ?_ ?_ | refine z06 (u1) ?_ ?_ | refine z06 (q1) ?_ ?_ | refine z06 (q2) ?_ ?_ | refine z06 (q3) ?_ ?_ | refine z06 (q4) ?_ ?_ | refine z06 (e8) ?_ ?_ | simp (maxSteps := 4000000) (disch := omega) only [bunL, bunD, bun, ↓z04, ↓z01, z02, findLabel, ↓reduceIte, imp, shift, z0b, z0a, unown, names, z07, below, noF, isF, z03, z09, z08, ren, givL, updM, z0c, renO, belowM, seval, -Int.reduceToNat, bA, bu2, B9, D29, B31, bunN, Int.reduceToNat, tbB2, List.map_nil, List.nil_append, z0d] | exact z0f _ | refine z0e _ _ ?_ | exact Cln.cl | refine z05 _ ?_ | refine z00 _ _ ?_ ?_ | refine DR_q _ ?_ | (refine Fk.fk ?_ ?_ <;> intro hg <;> (try simp only [hg]) <;> (try simp only [bunB] at hg) <;> try (exfalso; first | omega | exact Bool.noConfusion hg | exact hg trivial)) | refine And.intro (by omega) ?_ | omega
        all_goals (congr 2; exact decide_eq_true (by omega))
      · obtain ⟨p1, p2, p3⟩ := pla_asc x2
        rw [x5] at a1 u1
        dsimp only at a1 u1
        have hrX := z5u X
        have fX : z2j X = (X, true) := by
          by_cases h0 : 0 ≤ (runes s).2
          · unfold z2j at x1; rw [if_pos h0] at x1; simp at x1
          · have := zea h0
            rwa [x1] at this
        have bX := z6p X X true (by omega) (by omega) fX (by omega) (by omega)
        have q1 := z5v X bX
        have q2 := zjj X bX
        have r1 := zo5 (s := X) (by rw [x6])
        rw [r1.1, x6] at q1
        rw [r1.2, x6] at q2
        dsimp only at q1 q2
        have e8 := z1o X (by omega)
        rw [p1] at e8
        have bA : (X == X) = true := by simp
        rw [← z0l] at a1 u1 q1 q2
        repeat' first | refine z06 (z0y) ?_ ?_ | refine z06 (z3n) ?_ ?_ | refine z06 (a1) ?_ ?_ | refine z06 (u1) ?_ ?_ | refine z06 (q1) ?_ ?_ | refine z06 (q2) ?_ ?_ | refine z06 (e8) ?_ ?_ | simp (maxSteps := 4000000) (disch := omega) only [bunL, bunD, bun, ↓z04, ↓z01, z02, findLabel, ↓reduceIte, imp, shift, z0b, z0a, unown, names, z07, below, noF, isF, z03, z09, z08, ren, givL, updM, z0c, renO, belowM, seval, -Int.reduceToNat, bA, B9, D29, B31, bunN, Int.reduceToNat, tbB2, List.map_nil, List.nil_append, z0d] | exact z0f _ | refine z0e _ _ ?_ | exact Cln.cl | refine z05 _ ?_ | refine z00 _ _ ?_ ?_ | refine DR_q _ ?_ | (refine Fk.fk ?_ ?_ <;> intro hg <;> (try simp only [hg]) <;> (try simp only [bunB] at hg) <;> try (exfalso; first | omega | exact Bool.noConfusion hg | exact hg trivial)) | refine And.intro (by omega) ?_ | omega
        all_goals (congr 2; exact decide_eq_true (by omega))
    · obtain ⟨t1, t2⟩ := zqe hz
      rw [t1] at a1
      rw [t2] at u1
      rw [← z0l] at a1 u1
      repeat' first | refine z06 (z0y) ?_ ?_ | refine z06 (z3n) ?_ ?_ | refine z06 (a1) ?_ ?_ | refine z06 (u1) ?_ ?_ | simp (maxSteps := 4000000) (disch := omega) only [bunL, bunD, bun, ↓z04, ↓z01, z02, findLabel, ↓reduceIte, imp, shift, z0b, z0a, unown, names, z07, below, noF, isF, z03, z09, z08, ren, givL, updM, z0c, renO, belowM, seval, -Int.reduceToNat, hz, B9, D29, B31, bunN, Int.reduceToNat, tbB2, List.map_nil, List.nil_append, z0d] | exact z0f _ | refine z0e _ _ ?_ | exact Cln.cl | refine z05 _ ?_ | refine z00 _ _ ?_ ?_ | refine DR_q _ ?_ | (refine Fk.fk ?_ ?_ <;> intro hg <;> (try simp only [hg]) <;> (try simp only [bunB] at hg) <;> try (exfalso; first | omega | exact Bool.noConfusion hg | exact hg trivial)) | refine And.intro (by omega) ?_ | omega
      all_goals trace_state
  · repeat' first | refine z06 (z0y) ?_ ?_ | simp (maxSteps := 4000000) (disch := omega) only [bunL, bunD, bun, ↓z04, ↓z01, z02, findLabel, ↓reduceIte, imp, shift, z0b, z0a, unown, names, z07, below, noF, isF, z03, z09, z08, ren, givL, updM, z0c, renO, belowM, seval, -Int.reduceToNat, B9, D29, B31, bunN, Int.reduceToNat, tbB2, List.map_nil, List.nil_append, z0d] | exact z0f _ | refine z0e _ _ ?_ | exact Cln.cl | refine z05 _ ?_ | refine z00 _ _ ?_ ?_ | refine DR_q _ ?_ | (refine Fk.fk ?_ ?_ <;> intro hg <;> (try simp only [hg]) <;> (try simp only [bunB] at hg) <;> try (exfalso; first | omega | exact Bool.noConfusion hg | exact hg trivial)) | refine And.intro (by omega) ?_ | omega
theorem zgf (s : List UInt8) : Spec Tryz.prog 4 [Sv s] (Bv true) := by
  refine z0g (z := false) (ts := [.tmp 2]) ok1 Tryz.func4 rfl rfl (by decide +kernel) (by simp [Tryz.ntmps4]) rfl ?_
  by_cases hs : s.length ≤ 150
  · have hl := z5u s
    have b1 := z28 s (by omega) (by omega)
    have a1 := z5v s b1
    have u1 := zjj s b1
    have k1 := zem s (by omega) b1
    have e8 := z1o s (by omega)
    by_cases hz : (botV s).2.2 = 0
    · obtain ⟨t1, t2⟩ := zo5 hz
      rw [t1] at a1
      rw [t2] at u1
      have hk : kinV s = if 0 ≤ eight s then 3 else if aceB (plS s) = true then 2 else 1 := by unfold kinV; rw [t1]; rfl
      rcases zlm (s := s) (by omega) hz with ⟨u, w1, w2, w3, w4, w5⟩ | ⟨X, x1, x2, x3, x4, x5, x6⟩
      · obtain ⟨v1, v2, v3, v4, v5⟩ := zjk w1 w3 w2
        rw [w4] at a1 u1
        dsimp only at a1 u1
        have hul : u.length ≤ 10000 := by
          have hb := z4v u
          have hat : (runes u).2 = -1 := (z7i u).resolve_right w1.at_
          rw [hat, z4a, List.take_length] at hb
          have := z6a (runes u).1
          rw [hb.2.1] at this; omega
        have ww := z74 u (by omega) w3
        rw [w2] at ww
        have f8 := z1o u (by omega)
        have hbig := w1.big
        have t4 : (ace ++ pnS (runes u).1).take 4 = [120, 110, 45, 45] := rfl
        have hk2 : eight s < 0 → kinV s = 2 := fun h => by
          rw [hk, if_neg (by omega)]
          rcases w5 with w5 | w5
          · have := (z6h h w5).2; omega
          · have := (z6h h w5).1
            rw [← this, ace_pre, if_pos rfl]
        have hk3 : ¬ eight s < 0 → kinV s = 3 := fun h => by rw [hk, if_pos (by omega)]
        generalize ace ++ pnS (runes u).1 = A at *
        generalize kinV s = k at *
        rw [← z0l] at a1 u1 k1 ww
        by_cases h8 : eight s < 0
        · have := hk2 h8
          subst this
          repeat' first | refine z06 (z0y) ?_ ?_ | refine z06 (z3n) ?_ ?_ | refine z06 (a1) ?_ ?_ | refine z06 (u1) ?_ ?_ | refine z06 (k1) ?_ ?_ | refine z06 (e8) ?_ ?_ | refine z06 (f8) ?_ ?_ | refine z06 (ww) ?_ ?_ | simp (maxSteps := 4000000) (disch := omega) only [bunL, bunD, bun, ↓z04, ↓z01, z02, findLabel, ↓reduceIte, imp, shift, z0b, z0a, unown, names, z07, below, noF, isF, z03, z09, z08, ren, givL, updM, z0c, renO, belowM, seval, -Int.reduceToNat, t4, B9, D29, B31, bunN, Int.reduceToNat, tbB2, List.map_nil, List.nil_append, z0d] | exact z0f _ | refine z0e _ _ ?_ | exact Cln.cl | refine z05 _ ?_ | refine z00 _ _ ?_ ?_ | refine DR_q _ ?_ | (refine Fk.fk ?_ ?_ <;> intro hg <;> (try simp only [hg]) <;> (try simp only [bunB] at hg) <;> try (exfalso; first | omega | exact Bool.noConfusion hg | exact hg trivial)) | refine And.intro (by omega) ?_ | omega
          all_goals trace_state
        · have := hk3 h8
          subst this
          repeat' first | refine z06 (z0y) ?_ ?_ | refine z06 (z3n) ?_ ?_ | refine z06 (a1) ?_ ?_ | refine z06 (u1) ?_ ?_ | refine z06 (k1) ?_ ?_ | refine z06 (e8) ?_ ?_ | refine z06 (f8) ?_ ?_ | refine z06 (ww) ?_ ?_ | simp (maxSteps := 4000000) (disch := omega) only [bunL, bunD, bun, ↓z04, ↓z01, z02, findLabel, ↓reduceIte, imp, shift, z0b, z0a, unown, names, z07, below, noF, isF, z03, z09, z08, ren, givL, updM, z0c, renO, belowM, seval, -Int.reduceToNat, t4, B9, D29, B31, bunN, Int.reduceToNat, tbB2, List.map_nil, List.nil_append, z0d] | exact z0f _ | refine z0e _ _ ?_ | exact Cln.cl | refine z05 _ ?_ | refine z00 _ _ ?_ ?_ | refine DR_q _ ?_ | (refine Fk.fk ?_ ?_ <;> intro hg <;> (try simp only [hg]) <;> (try simp only [bunB] at hg) <;> try (exfalso; first | omega | exact Bool.noConfusion hg | exact hg trivial)) | refine And.intro (by omega) ?_ | omega
          all_goals trace_state
      · obtain ⟨p1, p2, p3⟩ := pla_asc x2
        rw [x5] at a1 u1
        dsimp only at a1 u1
        have pl := z5s X (by omega)
        rw [x2] at pl
        have f8 := z1o X (by omega)
        rw [p1] at f8
        have t4 : 4 < X.length → (X.take 4 == [120, 110, 45, 45]) = false := fun h => by
          have := take4_ace h
          rw [x3] at this; exact this
        have hk2 : kinV s ≠ 2 ∧ kinV s ≠ 0 := by
          rw [hk]
          by_cases h8 : 0 ≤ eight s
          · rw [if_pos h8]; decide
          · rw [if_neg h8]
            have := (z6h (by omega) x1).1
            rw [← this, x3]; decide
        generalize kinV s = k at *
        have bA : (X == X) = true := by simp
        rw [← z0l] at a1 u1 k1
        obtain ⟨k2, k0⟩ := hk2
        have ek2 : (k == 2) = false := by simpa using k2
        have ek0 : (k == 0) = false := by simpa using k0
        by_cases h4 : 4 < X.length
        · have t5 := t4 h4
          repeat' first | refine z06 (z0y) ?_ ?_ | refine z06 (z3n) ?_ ?_ | refine z06 (a1) ?_ ?_ | refine z06 (u1) ?_ ?_ | refine z06 (k1) ?_ ?_ | refine z06 (e8) ?_ ?_ | refine z06 (f8) ?_ ?_ | refine z06 (pl) ?_ ?_ | simp (maxSteps := 4000000) (disch := omega) only [bunL, bunD, bun, ↓z04, ↓z01, z02, findLabel, ↓reduceIte, imp, shift, z0b, z0a, unown, names, z07, below, noF, isF, z03, z09, z08, ren, givL, updM, z0c, renO, belowM, seval, -Int.reduceToNat, bA, t5, k2, k0, ek2, ek0, B9, D29, B31, bunN, Int.reduceToNat, tbB2, List.map_nil, List.nil_append, z0d] | exact z0f _ | refine z0e _ _ ?_ | exact Cln.cl | refine z05 _ ?_ | refine z00 _ _ ?_ ?_ | refine DR_q _ ?_ | (refine Fk.fk ?_ ?_ <;> intro hg <;> (try simp only [hg]) <;> (try simp only [bunB] at hg) <;> try (exfalso; first | omega | exact Bool.noConfusion hg | exact hg trivial)) | refine And.intro (by omega) ?_ | omega
          all_goals trace_state
        · repeat' first | refine z06 (z0y) ?_ ?_ | refine z06 (z3n) ?_ ?_ | refine z06 (a1) ?_ ?_ | refine z06 (u1) ?_ ?_ | refine z06 (k1) ?_ ?_ | refine z06 (e8) ?_ ?_ | refine z06 (f8) ?_ ?_ | refine z06 (pl) ?_ ?_ | simp (maxSteps := 4000000) (disch := omega) only [bunL, bunD, bun, ↓z04, ↓z01, z02, findLabel, ↓reduceIte, imp, shift, z0b, z0a, unown, names, z07, below, noF, isF, z03, z09, z08, ren, givL, updM, z0c, renO, belowM, seval, -Int.reduceToNat, bA, k2, k0, ek2, ek0, B9, D29, B31, bunN, Int.reduceToNat, tbB2, List.map_nil, List.nil_append, z0d] | exact z0f _ | refine z0e _ _ ?_ | exact Cln.cl | refine z05 _ ?_ | refine z00 _ _ ?_ ?_ | refine DR_q _ ?_ | (refine Fk.fk ?_ ?_ <;> intro hg <;> (try simp only [hg]) <;> (try simp only [bunB] at hg) <;> try (exfalso; first | omega | exact Bool.noConfusion hg | exact hg trivial)) | refine And.intro (by omega) ?_ | omega
          all_goals trace_state
    · obtain ⟨t1, t2⟩ := zqe hz
      have hk : kinV s = 0 := by unfold kinV; rw [t1]; simp only [ne_eq, hz, not_false_eq_true, if_true]
      rw [t1] at a1
      rw [t2] at u1
      rw [hk] at k1
      rw [← z0l] at a1 u1 k1
      repeat' first | refine z06 (z0y) ?_ ?_ | refine z06 (z3n) ?_ ?_ | refine z06 (a1) ?_ ?_ | refine z06 (u1) ?_ ?_ | refine z06 (k1) ?_ ?_ | simp (maxSteps := 4000000) (disch := omega) only [bunL, bunD, bun, ↓z04, ↓z01, z02, findLabel, ↓reduceIte, imp, shift, z0b, z0a, unown, names, z07, below, noF, isF, z03, z09, z08, ren, givL, updM, z0c, renO, belowM, seval, -Int.reduceToNat, hz, B9, D29, B31, bunN, Int.reduceToNat, tbB2, List.map_nil, List.nil_append, z0d] | exact z0f _ | refine z0e _ _ ?_ | exact Cln.cl | refine z05 _ ?_ | refine z00 _ _ ?_ ?_ | refine DR_q _ ?_ | (refine Fk.fk ?_ ?_ <;> intro hg <;> (try simp only [hg]) <;> (try simp only [bunB] at hg) <;> try (exfalso; first | omega | exact Bool.noConfusion hg | exact hg trivial)) | refine And.intro (by omega) ?_ | omega
      all_goals trace_state
  · repeat' first | refine z06 (z0y) ?_ ?_ | simp (maxSteps := 4000000) (disch := omega) only [bunL, bunD, bun, ↓z04, ↓z01, z02, findLabel, ↓reduceIte, imp, shift, z0b, z0a, unown, names, z07, below, noF, isF, z03, z09, z08, ren, givL, updM, z0c, renO, belowM, seval, -Int.reduceToNat, B9, D29, B31, bunN, Int.reduceToNat, tbB2, List.map_nil, List.nil_append, z0d] | exact z0f _ | refine z0e _ _ ?_ | exact Cln.cl | refine z05 _ ?_ | refine z00 _ _ ?_ ?_ | refine DR_q _ ?_ | (refine Fk.fk ?_ ?_ <;> intro hg <;> (try simp only [hg]) <;> (try simp only [bunB] at hg) <;> try (exfalso; first | omega | exact Bool.noConfusion hg | exact hg trivial)) | refine And.intro (by omega) ?_ | omega
end Go.AE
end
