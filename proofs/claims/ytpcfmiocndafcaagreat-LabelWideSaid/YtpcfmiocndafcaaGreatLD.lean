/- Contracts of functions that the laws of this seat reach, and plain laws of what they compute. No condition beyond each statement's own. -/
import Derived.Test.YtpcfmiocndafcaaGreatLC
set_option linter.unusedVariables false
set_option linter.unusedSimpArgs false
section
namespace Go.AE
open Go.Proofs
set_option maxRecDepth 20000
set_option maxHeartbeats 8000000
set_option linter.unusedSimpArgs false
def ldA (c : UInt8) : Bool := (decide (97 ≤ c.toNat) && decide (c.toNat ≤ 122)) || (decide (65 ≤ c.toNat) && decide (c.toNat ≤ 90)) || (decide (48 ≤ c.toNat) && decide (c.toNat ≤ 57))
def okP (s : List UInt8) (j : Nat) : Bool := ldA (s.getD j 0) || ((s.getD j 0 == 45) && decide (0 < j) && decide (j + 1 < s.length) && (j != 2 || s.getD 3 0 != 45))
def preP (s : List UInt8) : Bool := decide (0 < s.length) && decide (s.length ≤ 63)
def zp0 (s : List UInt8) : Bool := preP s && (List.range s.length).all (okP s)
theorem range_all {p : Nat → Bool} (n : Nat) : (List.range (n + 1)).all p = ((List.range n).all p && p n) := by
  rw [List.range_succ, List.all_append]; simp
theorem drop_last {s : List UInt8} (h : 0 < s.length) : s.drop (s.length - 1) = [s.getD (s.length - 1) 0] := by
  rw [List.drop_eq_getElem_cons (by omega), show s.length - 1 + 1 = s.length by omega, List.drop_length]
  simp [List.getD, show s.length - 1 < s.length by omega]
theorem take_one {s : List UInt8} (h : 0 < s.length) : s.take 1 = [s.getD 0 0] := by
  cases s with
  | nil => simp at h
  | cons c s => simp
theorem mid_two {s : List UInt8} (h : 3 < s.length) : (s.take 4).drop 2 = [s.getD 2 0, s.getD 3 0] := by
  match s, h with
  | a :: b :: c :: d :: s, _ => simp
theorem zst {s : List UInt8} (h : 0 < s.length) : z9w s = false ↔ s.getD 0 0 ≠ 45 ∧ s.getD (s.length - 1) 0 ≠ 45 ∧ (3 < s.length → ¬ (s.getD 2 0 = 45 ∧ s.getD 3 0 = 45)) := by
  unfold z9w
  rw [take_one h, drop_last h]
  by_cases h3 : 3 < s.length
  · rw [mid_two h3]
    simp only [Bool.or_eq_false_iff, Bool.and_eq_false_iff, decide_eq_false_iff_not, beq_eq_false_iff_ne, ne_eq, List.cons.injEq, and_true, h3, not_true_eq_false, false_or, forall_const]
    constructor
    · rintro ⟨⟨a, b⟩, c⟩
      exact ⟨a.resolve_left (by omega), b.resolve_left (by omega), c⟩
    · rintro ⟨a, b, c⟩
      exact ⟨⟨Or.inr a, Or.inr b⟩, c⟩
  · simp only [Bool.or_eq_false_iff, Bool.and_eq_false_iff, decide_eq_false_iff_not, beq_eq_false_iff_ne, ne_eq, List.cons.injEq, and_true, h3, not_false_eq_true, true_or, false_implies]
    constructor
    · rintro ⟨a, b⟩
      exact ⟨a.resolve_left (by omega), b.resolve_left (by omega)⟩
    · rintro ⟨a, b⟩
      exact ⟨Or.inr a, Or.inr b⟩
theorem ldh_eq (c : UInt8) : ldh c = (ldA c || c == 45) := rfl
theorem fine_iff (s : List UInt8) : plaV s = 0 ↔ zp0 s = true := by
  rw [zna]
  unfold zp0 preP
  simp only [Bool.and_eq_true, decide_eq_true_eq, List.all_eq_true, List.mem_range]
  constructor
  · rintro ⟨h1, h2, h3, h4⟩
    have h0 : 0 < s.length := by cases s; exact absurd rfl h1; simp
    obtain ⟨d1, d2, d3⟩ := (zst h0).1 h4
    refine ⟨⟨h0, h2⟩, fun j hj => ?_⟩
    have hc : ldh (s.getD j 0) = true := h3 _ (by simp [List.getD, hj])
    rw [ldh_eq] at hc
    unfold okP
    cases ha : ldA (s.getD j 0) with
    | true => rfl
    | false =>
      rw [ha, Bool.false_or] at hc
      have hc' : s.getD j 0 = 45 := by simpa using hc
      have j0 : 0 < j := Nat.pos_of_ne_zero fun e => by subst e; exact d1 hc'
      have j1 : j + 1 < s.length := by
        refine Classical.byContradiction fun e => ?_
        have : j = s.length - 1 := by omega
        subst this; exact d2 hc'
      have j2 : j = 2 → s.getD 3 0 ≠ 45 := fun e h => by subst e; exact d3 (by omega) ⟨hc', h⟩
      rw [hc, decide_eq_true j0, decide_eq_true j1]
      simp only [Bool.false_or, Bool.true_and, Bool.or_eq_true, bne_iff_ne, ne_eq]
      by_cases e : j = 2
      · exact Or.inr (j2 e)
      · exact Or.inl e
  · rintro ⟨⟨h0, h2⟩, h3⟩
    have key : ∀ j, j < s.length → ldA (s.getD j 0) = true ∨ (s.getD j 0 = 45 ∧ 0 < j ∧ j + 1 < s.length ∧ (j ≠ 2 ∨ s.getD 3 0 ≠ 45)) := fun j hj => by
      have := h3 j hj
      unfold okP at this
      simp only [Bool.or_eq_true, Bool.and_eq_true, beq_iff_eq, decide_eq_true_eq, bne_iff_ne, ne_eq, and_assoc] at this
      exact this
    have n45 : ldA 45 = false := by decide
    refine ⟨fun e => by subst e; simp at h0, h2, fun c hc => ?_, (zst h0).2 ⟨fun e => ?_, fun e => ?_, fun h4 e => ?_⟩⟩
    · obtain ⟨j, hj, e⟩ := List.getElem_of_mem hc
      have e' : s.getD j 0 = c := by simp [List.getD, hj, e]
      have := key j hj
      rw [e'] at this
      rw [ldh_eq]
      rcases this with h | h
      · rw [h]; rfl
      · rw [h.1]; decide
    · rcases key 0 h0 with h | h
      · rw [e, n45] at h; cases h
      · omega
    · rcases key (s.length - 1) (by omega) with h | h
      · rw [e, n45] at h; cases h
      · omega
    · rcases key 2 (by omega) with h | h
      · rw [e.1, n45] at h; cases h
      · rcases h.2.2.2 with h | h
        · exact h rfl
        · exact h e.2
theorem zep (s : List UInt8) : Spec Tryz.prog 5 [Sv s] (Bv true) := by
  refine z0g (z := false) (ts := [.tmp 2]) ok1 Tryz.func5 rfl rfl (by decide +kernel) (by simp [Tryz.ntmps5]) rfl ?_
  by_cases hs : s.length ≤ 200
  · have p1 := z5s s (by omega)
    have hfin := fine_iff s
    generalize plaV s = pv at *
    have ep : preP s = (decide (0 < s.length) && decide (s.length ≤ 63)) := rfl
    have fin : ∀ b, zp0 s = b → Spec Tryz.prog 15 [Sv s] (I64 (if b then 0 else pv)) ∧ (b = false → pv ≠ 0) := fun b hb => by
      cases b
      · exact ⟨p1, fun _ h => by rw [hfin.1 h] at hb; cases hb⟩
      · rw [hfin.2 hb] at p1; exact ⟨p1, fun h => by cases h⟩
    by_cases hp : 0 < s.length ∧ s.length ≤ 63
    · repeat' first | refine z06 (z0y) ?_ ?_ | simp (maxSteps := 4000000) (disch := omega) only [bunL, bunD, bun, ↓z04, ↓z01, z02, findLabel, ↓reduceIte, imp, shift, z0b, z0a, unown, names, z07, below, noF, isF, z03, z09, z08, ren, givL, updM, z0c, renO, belowM, seval, -Int.reduceToNat, B3, B4, B5, B9, B31, bunN, Int.reduceToNat, tbB2, List.map_nil, List.nil_append, z0d] | exact z0f _ | refine z0e _ _ ?_ | exact Cln.cl | refine z05 _ ?_ | refine z00 _ _ ?_ ?_ | refine DR_q _ ?_ | (refine Fk.fk ?_ ?_ <;> intro hg <;> (try simp only [hg]) <;> (try simp only [bunB] at hg) <;> try (exfalso; first | omega | exact Bool.noConfusion hg | exact hg trivial)) | refine And.intro (by omega) ?_ | omega
      refine z0m (fun i : Nat => ⟨[(0, Sv s), (3, Bv true), (4, Bv (preP s && (List.range i).all (okP s))), (5, I64 i)], []⟩) (fun i => i ≤ s.length) (fun i => s.length - i) 0 (by simp) (by (simp (disch := omega) [wk, wkT, wkM, noF, isF, get, z0h, belowM, below, belows, I64, I32, Bv, U8, Sv, ep, hp.1, hp.2, List.range_zero] <;> try omega)) ?_
      intro i hi
      by_cases hlt : i < s.length
      · have hra := range_all (p := okP s) i
        have hc := zbd (s.getD i 0)
        cases hq : (preP s && (List.range i).all (okP s)) with
        | false =>
          repeat' first | simp (maxSteps := 4000000) (disch := omega) only [bunL, bunD, bun, ↓z04, ↓z01, z02, findLabel, ↓reduceIte, imp, shift, z0b, z0a, unown, names, z07, below, noF, isF, z03, z09, z08, ren, givL, updM, z0c, renO, belowM, seval, -Int.reduceToNat, hq, B3, B4, B5, B9, B31, bunN, Int.reduceToNat, tbB2, List.map_nil, List.nil_append, z0d] | refine DR_q _ ?_ | (refine Fk.fk ?_ ?_ <;> intro hg <;> (try simp only [hg]) <;> (try simp only [bunB] at hg) <;> try (exfalso; first | omega | exact Bool.noConfusion hg | exact hg trivial)) | refine And.intro (by omega) ?_ | omega
          all_goals
            refine ⟨i + 1, by omega, by omega, ?_⟩
            rw [hra, ← Bool.and_assoc, hq]
            (simp (disch := omega) [wk, wkT, wkM, noF, isF, get, z0h, belowM, below, belows, I64, I32, Bv, U8, Sv, Bool.false_and] <;> try omega)
        | true =>
          have hok : ∀ b, okP s i = b → (preP s && (List.range (i + 1)).all (okP s)) = b := fun b hb => by rw [hra, ← Bool.and_assoc, hq, hb]; rfl
          have e45 : (s.getD i 0 = 45) ↔ (s.getD i 0).toNat = 45 := ⟨fun h => by rw [h]; rfl, fun h => UInt8.toNat.inj (by rw [h]; rfl)⟩
          by_cases hA : ldA (s.getD i 0) = true
          · have hb := hok true (by unfold okP; rw [hA]; rfl)
            unfold ldA at hA
            simp only [Bool.or_eq_true, Bool.and_eq_true, decide_eq_true_eq] at hA
            repeat' first | simp (maxSteps := 4000000) (disch := omega) only [bunL, bunD, bun, ↓z04, ↓z01, z02, findLabel, ↓reduceIte, imp, shift, z0b, z0a, unown, names, z07, below, noF, isF, z03, z09, z08, ren, givL, updM, z0c, renO, belowM, seval, -Int.reduceToNat, hq, B3, B4, B5, B9, B31, bunN, Int.reduceToNat, tbB2, List.map_nil, List.nil_append, z0d] | refine DR_q _ ?_ | (refine Fk.fk ?_ ?_ <;> intro hg <;> (try simp only [hg]) <;> (try simp only [bunB] at hg) <;> try (exfalso; first | omega | exact Bool.noConfusion hg | exact hg trivial)) | refine And.intro (by omega) ?_ | omega
            all_goals first
              | (exfalso; omega)
              | (refine ⟨i + 1, by omega, by omega, ?_⟩
                 rw [hb]
                 (simp (disch := omega) [wk, wkT, wkM, noF, isF, get, z0h, belowM, below, belows, I64, I32, Bv, U8, Sv, List.map_nil] <;> try omega))
          · have hA2 : ldA (s.getD i 0) = false := by simpa using hA
            by_cases hd : (s.getD i 0).toNat = 45
            · have hd2 := e45.2 hd
              have hbv : okP s i = (decide (0 < i) && decide (i + 1 < s.length) && (i != 2 || s.getD 3 0 != 45)) := by
                unfold okP; rw [hA2, hd2]; rfl
              by_cases c0 : i = 0
              · have hb := hok false (by rw [hbv, c0]; rfl)
                repeat' first | simp (maxSteps := 4000000) (disch := omega) only [bunL, bunD, bun, ↓z04, ↓z01, z02, findLabel, ↓reduceIte, imp, shift, z0b, z0a, unown, names, z07, below, noF, isF, z03, z09, z08, ren, givL, updM, z0c, renO, belowM, seval, -Int.reduceToNat, hq, B3, B4, B5, B9, B31, bunN, Int.reduceToNat, tbB2, List.map_nil, List.nil_append, z0d] | refine DR_q _ ?_ | (refine Fk.fk ?_ ?_ <;> intro hg <;> (try simp only [hg]) <;> (try simp only [bunB] at hg) <;> try (exfalso; first | omega | exact Bool.noConfusion hg | exact hg trivial)) | refine And.intro (by omega) ?_ | omega
                all_goals first
                  | (exfalso; omega)
                  | (refine ⟨i + 1, by omega, by omega, ?_⟩
                     rw [hb]
                     (simp (disch := omega) [wk, wkT, wkM, noF, isF, get, z0h, belowM, below, belows, I64, I32, Bv, U8, Sv, List.map_nil] <;> try omega))
              · by_cases c1 : i + 1 < s.length
                · by_cases c2 : i = 2
                  · have h3 := zbd (s.getD 3 0)
                    have f45 : (s.getD 3 0 = 45) ↔ (s.getD 3 0).toNat = 45 := ⟨fun h => by rw [h]; rfl, fun h => UInt8.toNat.inj (by rw [h]; rfl)⟩
                    have hl3 : 3 < s.length := by omega
                    have e3 : s.getD 3 0 = s[3] := by simp [List.getD, hl3]
                    by_cases c3 : (s.getD 3 0).toNat = 45
                    · have c3' := f45.2 c3
                      have c3n : s[3].toNat = 45 := by rw [← e3]; exact c3
                      have hb := hok false (by rw [hbv, c3', c2]; simp)
                      repeat' first | simp (maxSteps := 4000000) (disch := omega) only [bunL, bunD, bun, ↓z04, ↓z01, z02, findLabel, ↓reduceIte, imp, shift, z0b, z0a, unown, names, z07, below, noF, isF, z03, z09, z08, ren, givL, updM, z0c, renO, belowM, seval, -Int.reduceToNat, hq, B3, B4, B5, B9, B31, bunN, Int.reduceToNat, tbB2, List.map_nil, List.nil_append, z0d] | refine DR_q _ ?_ | (refine Fk.fk ?_ ?_ <;> intro hg <;> (try simp only [hg]) <;> (try simp only [bunB] at hg) <;> try (exfalso; first | omega | exact Bool.noConfusion hg | exact hg trivial)) | refine And.intro (by omega) ?_ | omega
                      all_goals first
                        | (exfalso; omega)
                        | (refine ⟨i + 1, by omega, by omega, ?_⟩
                           rw [hb]
                           (simp (disch := omega) [wk, wkT, wkM, noF, isF, get, z0h, belowM, below, belows, I64, I32, Bv, U8, Sv, List.map_nil] <;> try omega))
                    · have c3n : ¬ s[3].toNat = 45 := by rw [← e3]; exact c3
                      have c3' : (s.getD 3 0 != 45) = true := by rw [bne_iff_ne]; exact fun h => c3 (f45.1 h)
                      have hb := hok true (by rw [hbv, c3', decide_eq_true c1, decide_eq_true (show 0 < i by omega)]; simp)
                      repeat' first | simp (maxSteps := 4000000) (disch := omega) only [bunL, bunD, bun, ↓z04, ↓z01, z02, findLabel, ↓reduceIte, imp, shift, z0b, z0a, unown, names, z07, below, noF, isF, z03, z09, z08, ren, givL, updM, z0c, renO, belowM, seval, -Int.reduceToNat, hq, B3, B4, B5, B9, B31, bunN, Int.reduceToNat, tbB2, List.map_nil, List.nil_append, z0d] | refine DR_q _ ?_ | (refine Fk.fk ?_ ?_ <;> intro hg <;> (try simp only [hg]) <;> (try simp only [bunB] at hg) <;> try (exfalso; first | omega | exact Bool.noConfusion hg | exact hg trivial)) | refine And.intro (by omega) ?_ | omega
                      all_goals first
                        | (exfalso; omega)
                        | (refine ⟨i + 1, by omega, by omega, ?_⟩
                           rw [hb]
                           (simp (disch := omega) [wk, wkT, wkM, noF, isF, get, z0h, belowM, below, belows, I64, I32, Bv, U8, Sv, List.map_nil] <;> try omega))
                  · have c2' : (i != 2) = true := by rw [bne_iff_ne]; exact c2
                    have hb := hok true (by rw [hbv, c2', decide_eq_true c1, decide_eq_true (show 0 < i by omega)]; simp)
                    repeat' first | simp (maxSteps := 4000000) (disch := omega) only [bunL, bunD, bun, ↓z04, ↓z01, z02, findLabel, ↓reduceIte, imp, shift, z0b, z0a, unown, names, z07, below, noF, isF, z03, z09, z08, ren, givL, updM, z0c, renO, belowM, seval, -Int.reduceToNat, hq, B3, B4, B5, B9, B31, bunN, Int.reduceToNat, tbB2, List.map_nil, List.nil_append, z0d] | refine DR_q _ ?_ | (refine Fk.fk ?_ ?_ <;> intro hg <;> (try simp only [hg]) <;> (try simp only [bunB] at hg) <;> try (exfalso; first | omega | exact Bool.noConfusion hg | exact hg trivial)) | refine And.intro (by omega) ?_ | omega
                    all_goals first
                      | (exfalso; omega)
                      | (refine ⟨i + 1, by omega, by omega, ?_⟩
                         rw [hb]
                         (simp (disch := omega) [wk, wkT, wkM, noF, isF, get, z0h, belowM, below, belows, I64, I32, Bv, U8, Sv, List.map_nil] <;> try omega))
                · have hb := hok false (by rw [hbv, decide_eq_false c1]; simp)
                  repeat' first | simp (maxSteps := 4000000) (disch := omega) only [bunL, bunD, bun, ↓z04, ↓z01, z02, findLabel, ↓reduceIte, imp, shift, z0b, z0a, unown, names, z07, below, noF, isF, z03, z09, z08, ren, givL, updM, z0c, renO, belowM, seval, -Int.reduceToNat, hq, B3, B4, B5, B9, B31, bunN, Int.reduceToNat, tbB2, List.map_nil, List.nil_append, z0d] | refine DR_q _ ?_ | (refine Fk.fk ?_ ?_ <;> intro hg <;> (try simp only [hg]) <;> (try simp only [bunB] at hg) <;> try (exfalso; first | omega | exact Bool.noConfusion hg | exact hg trivial)) | refine And.intro (by omega) ?_ | omega
                  all_goals first
                    | (exfalso; omega)
                    | (refine ⟨i + 1, by omega, by omega, ?_⟩
                       rw [hb]
                       (simp (disch := omega) [wk, wkT, wkM, noF, isF, get, z0h, belowM, below, belows, I64, I32, Bv, U8, Sv, List.map_nil] <;> try omega))
            · have hd2 : (s.getD i 0 == 45) = false := by
                rw [beq_eq_false_iff_ne]; exact fun h => hd (e45.1 h)
              have hb := hok false (by unfold okP; rw [hA2, hd2]; rfl)
              unfold ldA at hA
              simp only [Bool.or_eq_true, Bool.and_eq_true, decide_eq_true_eq] at hA
              repeat' first | simp (maxSteps := 4000000) (disch := omega) only [bunL, bunD, bun, ↓z04, ↓z01, z02, findLabel, ↓reduceIte, imp, shift, z0b, z0a, unown, names, z07, below, noF, isF, z03, z09, z08, ren, givL, updM, z0c, renO, belowM, seval, -Int.reduceToNat, hq, B3, B4, B5, B9, B31, bunN, Int.reduceToNat, tbB2, List.map_nil, List.nil_append, z0d] | refine DR_q _ ?_ | (refine Fk.fk ?_ ?_ <;> intro hg <;> (try simp only [hg]) <;> (try simp only [bunB] at hg) <;> try (exfalso; first | omega | exact Bool.noConfusion hg | exact hg trivial)) | refine And.intro (by omega) ?_ | omega
              all_goals first
                | (exfalso; omega)
                | (refine ⟨i + 1, by omega, by omega, ?_⟩
                   rw [hb]
                   (simp (disch := omega) [wk, wkT, wkM, noF, isF, get, z0h, belowM, below, belows, I64, I32, Bv, U8, Sv, List.map_nil] <;> try omega))
      · have e : i = s.length := by omega
        subst e
        have ef : (preP s && (List.range s.length).all (okP s)) = zp0 s := rfl
        rw [ef]
        cases hf : zp0 s with
        | true =>
          have := (fin true hf).1
          repeat' first | refine z06 (this) ?_ ?_ | simp (maxSteps := 4000000) (disch := omega) only [bunL, bunD, bun, ↓z04, ↓z01, z02, findLabel, ↓reduceIte, imp, shift, z0b, z0a, unown, names, z07, below, noF, isF, z03, z09, z08, ren, givL, updM, z0c, renO, belowM, seval, -Int.reduceToNat, B3, B4, B5, B9, B31, bunN, Int.reduceToNat, tbB2, List.map_nil, List.nil_append, z0d] | exact z0f _ | refine z0e _ _ ?_ | exact Cln.cl | refine z05 _ ?_ | refine z00 _ _ ?_ ?_ | refine DR_q _ ?_ | (refine Fk.fk ?_ ?_ <;> intro hg <;> (try simp only [hg]) <;> (try simp only [bunB] at hg) <;> try (exfalso; first | omega | exact Bool.noConfusion hg | exact hg trivial)) | refine And.intro (by omega) ?_ | omega
          all_goals trace_state
        | false =>
          have h1 := (fin false hf).1
          have h2 := (fin false hf).2 rfl
          have e : (pv == 0) = false := by simpa using h2
          repeat' first | refine z06 (h1) ?_ ?_ | simp (maxSteps := 4000000) (disch := omega) only [bunL, bunD, bun, ↓z04, ↓z01, z02, findLabel, ↓reduceIte, imp, shift, z0b, z0a, unown, names, z07, below, noF, isF, z03, z09, z08, ren, givL, updM, z0c, renO, belowM, seval, -Int.reduceToNat, h2, B3, B4, B5, B9, B31, bunN, Int.reduceToNat, tbB2, List.map_nil, List.nil_append, z0d] | exact z0f _ | refine z0e _ _ ?_ | exact Cln.cl | refine z05 _ ?_ | refine z00 _ _ ?_ ?_ | refine DR_q _ ?_ | (refine Fk.fk ?_ ?_ <;> intro hg <;> (try simp only [hg]) <;> (try simp only [bunB] at hg) <;> try (exfalso; first | omega | exact Bool.noConfusion hg | exact hg trivial)) | refine And.intro (by omega) ?_ | omega
          all_goals (rw [e]; rfl)
    · have hf : zp0 s = false := by
        unfold zp0 preP
        rw [Bool.and_eq_false_iff]
        left
        rw [Bool.and_eq_false_iff]
        simp only [decide_eq_false_iff_not]
        omega
      have h1 := (fin false hf).1
      have h2 := (fin false hf).2 rfl
      have e : (pv == 0) = false := by simpa using h2
      repeat' first | refine z06 (z0y) ?_ ?_ | simp (maxSteps := 4000000) (disch := omega) only [bunL, bunD, bun, ↓z04, ↓z01, z02, findLabel, ↓reduceIte, imp, shift, z0b, z0a, unown, names, z07, below, noF, isF, z03, z09, z08, ren, givL, updM, z0c, renO, belowM, seval, -Int.reduceToNat, B3, B4, B5, B9, B31, bunN, Int.reduceToNat, tbB2, List.map_nil, List.nil_append, z0d] | exact z0f _ | refine z0e _ _ ?_ | exact Cln.cl | refine z05 _ ?_ | refine z00 _ _ ?_ ?_ | refine DR_q _ ?_ | (refine Fk.fk ?_ ?_ <;> intro hg <;> (try simp only [hg]) <;> (try simp only [bunB] at hg) <;> try (exfalso; first | omega | exact Bool.noConfusion hg | exact hg trivial)) | refine And.intro (by omega) ?_ | omega
      all_goals
        refine z0m (fun i : Nat => ⟨[(0, Sv s), (3, Bv true), (4, Bv false), (5, I64 i)], []⟩) (fun i => i ≤ s.length) (fun i => s.length - i) 0 (by simp) (by simp [wk, wkT, wkM, noF, isF, get, z0h, belowM, below, belows, I64, I32, Bv, U8, Sv] <;> try omega) ?_
        intro i hi
        by_cases hlt : i < s.length
        · repeat' first | simp (maxSteps := 4000000) (disch := omega) only [bunL, bunD, bun, ↓z04, ↓z01, z02, findLabel, ↓reduceIte, imp, shift, z0b, z0a, unown, names, z07, below, noF, isF, z03, z09, z08, ren, givL, updM, z0c, renO, belowM, seval, -Int.reduceToNat, B3, B4, B5, B9, B31, bunN, Int.reduceToNat, tbB2, List.map_nil, List.nil_append, z0d] | refine DR_q _ ?_ | (refine Fk.fk ?_ ?_ <;> intro hg <;> (try simp only [hg]) <;> (try simp only [bunB] at hg) <;> try (exfalso; first | omega | exact Bool.noConfusion hg | exact hg trivial)) | refine And.intro (by omega) ?_ | omega
          all_goals exact ⟨i + 1, by omega, by omega, (by simp [wk, wkT, wkM, noF, isF, get, z0h, belowM, below, belows, I64, I32, Bv, U8, Sv] <;> try omega)⟩
        · repeat' first | refine z06 (h1) ?_ ?_ | simp (maxSteps := 4000000) (disch := omega) only [bunL, bunD, bun, ↓z04, ↓z01, z02, findLabel, ↓reduceIte, imp, shift, z0b, z0a, unown, names, z07, below, noF, isF, z03, z09, z08, ren, givL, updM, z0c, renO, belowM, seval, -Int.reduceToNat, h2, B3, B4, B5, B9, B31, bunN, Int.reduceToNat, tbB2, List.map_nil, List.nil_append, z0d] | exact z0f _ | refine z0e _ _ ?_ | exact Cln.cl | refine z05 _ ?_ | refine z00 _ _ ?_ ?_ | refine DR_q _ ?_ | (refine Fk.fk ?_ ?_ <;> intro hg <;> (try simp only [hg]) <;> (try simp only [bunB] at hg) <;> try (exfalso; first | omega | exact Bool.noConfusion hg | exact hg trivial)) | refine And.intro (by omega) ?_ | omega
          all_goals (rw [e]; rfl)
  · repeat' first | refine z06 (z0y) ?_ ?_ | simp (maxSteps := 4000000) (disch := omega) only [bunL, bunD, bun, ↓z04, ↓z01, z02, findLabel, ↓reduceIte, imp, shift, z0b, z0a, unown, names, z07, below, noF, isF, z03, z09, z08, ren, givL, updM, z0c, renO, belowM, seval, -Int.reduceToNat, B3, B4, B5, B9, B31, bunN, Int.reduceToNat, tbB2, List.map_nil, List.nil_append, z0d] | exact z0f _ | refine z0e _ _ ?_ | exact Cln.cl | refine z05 _ ?_ | refine z00 _ _ ?_ ?_ | refine DR_q _ ?_ | (refine Fk.fk ?_ ?_ <;> intro hg <;> (try simp only [hg]) <;> (try simp only [bunB] at hg) <;> try (exfalso; first | omega | exact Bool.noConfusion hg | exact hg trivial)) | refine And.intro (by omega) ?_ | omega
theorem zeo (s : List UInt8) : Spec Tryz.prog 7 [Sv s] (Bv true) := by
  refine z0g (z := false) (ts := [.tmp 2]) ok1 Tryz.func7 rfl rfl (by decide +kernel) (by simp [Tryz.ntmps7]) rfl ?_
  by_cases hs : s.length ≤ 150
  · have hl := z5u s
    have ww := z74 s (by omega) (by omega)
    by_cases hw : za4 s = 0
    · have w := zqh hw
      have hfx := zl7 w
      have hne := wide_ne w
      have hds := znp w
      have hmk := w.mark
      have c1 := zmb s (by omega)
      rw [zg6 w] at c1
      have n1 := nfkc_spec s (by omega)
      rw [wide_nfkc w] at n1
      have u1 := z2d s (by omega)
      have hok := zb5 s
      have hat := w.at_
      have k0 := z4q ((runes s).1.getD 0 0) (by
        have := hok ((runes s).1.getD 0 0) (by simp [List.getD, Nat.pos_of_ne_zero hne]); unfold okR at this; omega) (by
        have := hok ((runes s).1.getD 0 0) (by simp [List.getD, Nat.pos_of_ne_zero hne]); unfold okR at this; omega)
      have hc0 : cls ((runes s).1.getD 0 0) = 0 := by
        have h1 := z6q ((runes s).1.getD 0 0)
        have h2 := ztq ((runes s).1.getD 0 0)
        omega
      rw [hc0] at k0
      have hcat : ∀ i, i < (runes s).1.length → cat ((runes s).1.getD i 0) ≠ 1 ∧ cat ((runes s).1.getD i 0) ≠ 0 ∧ cat ((runes s).1.getD i 0) ≠ 8 := fun i hi => by
        have := hfx ((runes s).1.getD i 0) (by simp [List.getD, hi])
        have h45 : cat 45 ≠ 0 ∧ cat 45 ≠ 8 := by decide +kernel
        refine ⟨this.2.1, fun h => ?_, fun h => ?_⟩
        · have e := this.2.2 (Or.inl h)
          rw [e] at h; exact h45.1 h
        · have e := this.2.2 (Or.inr h)
          rw [e] at h; exact h45.2 h
      rw [hw] at ww
      have bb : (s == s) = true := by simp
      rw [← z0l] at ww c1 n1 k0
      clear hfx hmk hok hw w
      generalize (runes s).1 = L at *
      generalize (runes s).2 = a at *
      have hL : 0 < L.length := Nat.pos_of_ne_zero hne
      repeat' first | refine z06 (z0y) ?_ ?_ | refine z06 (z3n) ?_ ?_ | refine z06 (ww) ?_ ?_ | refine z06 (u1) ?_ ?_ | refine z06 (n1) ?_ ?_ | refine z06 (k0) ?_ ?_ | simp (maxSteps := 4000000) (disch := omega) only [bunL, bunD, bun, ↓z04, ↓z01, z02, findLabel, ↓reduceIte, imp, shift, z0b, z0a, unown, names, z07, below, noF, isF, z03, z09, z08, ren, givL, updM, z0c, renO, belowM, seval, -Int.reduceToNat, B9, D29, B31, B21, B41, bunN, Int.reduceToNat, tbB2, List.map_nil, List.nil_append, z0d] | exact z0f _ | refine z0e _ _ ?_ | exact Cln.cl | refine z05 _ ?_ | refine z00 _ _ ?_ ?_ | refine DR_q _ ?_ | (refine Fk.fk ?_ ?_ <;> intro hg <;> (try simp only [hg]) <;> (try simp only [bunB] at hg) <;> try (exfalso; first | omega | exact Bool.noConfusion hg | exact hg trivial)) | refine And.intro (by omega) ?_ | omega
      all_goals (repeat' refine And.intro ?_ ?_)
      all_goals (repeat' first | refine z06 (k0) ?_ ?_ | simp (maxSteps := 4000000) (disch := omega) only [bunL, bunD, bun, ↓z04, ↓z01, z02, findLabel, ↓reduceIte, imp, shift, z0b, z0a, unown, names, z07, below, noF, isF, z03, z09, z08, ren, givL, updM, z0c, renO, belowM, seval, -Int.reduceToNat, B9, D29, B31, B21, B41, bunN, Int.reduceToNat, tbB2, List.map_nil, List.nil_append, z0d] | exact z0f _ | refine z0e _ _ ?_ | exact Cln.cl | refine z05 _ ?_ | refine z00 _ _ ?_ ?_ | refine DR_q _ ?_ | (refine Fk.fk ?_ ?_ <;> intro hg <;> (try simp only [hg]) <;> (try simp only [bunB] at hg) <;> try (exfalso; first | omega | exact Bool.noConfusion hg | exact hg trivial)) | refine And.intro (by omega) ?_ | omega)
      all_goals (repeat' refine And.intro ?_ ?_)
      all_goals (repeat' first | refine z06 (k0) ?_ ?_ | simp (maxSteps := 4000000) (disch := omega) only [bunL, bunD, bun, ↓z04, ↓z01, z02, findLabel, ↓reduceIte, imp, shift, z0b, z0a, unown, names, z07, below, noF, isF, z03, z09, z08, ren, givL, updM, z0c, renO, belowM, seval, -Int.reduceToNat, B9, D29, B31, B21, B41, bunN, Int.reduceToNat, tbB2, List.map_nil, List.nil_append, z0d] | exact z0f _ | refine z0e _ _ ?_ | exact Cln.cl | refine z05 _ ?_ | refine z00 _ _ ?_ ?_ | refine DR_q _ ?_ | (refine Fk.fk ?_ ?_ <;> intro hg <;> (try simp only [hg]) <;> (try simp only [bunB] at hg) <;> try (exfalso; first | omega | exact Bool.noConfusion hg | exact hg trivial)) | refine And.intro (by omega) ?_ | omega)
      refine z0m (fun i : Nat => ⟨[(0, Sv s), (3, Bv true), (4, .ptr 0 0), (5, .ref 1 0 L.length), (7, Sv s), (9, I64 i)], [.row true 1 z0q, .arr 21 1 (L.map I32)]⟩) (fun i => i ≤ L.length) (fun i => L.length - i) 0 (by simp) (by (simp (disch := omega) [wk, wkT, wkM, noF, isF, get, z0h, belowM, below, belows, I64, I32, Bv, U8, Sv, z0i] <;> try omega)) ?_
      intro i hi
      by_cases hlt : i < L.length
      · obtain ⟨q1, q2, q3⟩ := hcat i hlt
        have kc := zk0 (L.getD i 0)
        rw [← z0l] at kc
        repeat' first | refine z06 (kc) ?_ ?_ | simp (maxSteps := 4000000) (disch := omega) only [bunL, bunD, bun, ↓z04, ↓z01, z02, findLabel, ↓reduceIte, imp, shift, z0b, z0a, unown, names, z07, below, noF, isF, z03, z09, z08, ren, givL, updM, z0c, renO, belowM, seval, -Int.reduceToNat, B9, D29, B31, B21, B41, bunN, Int.reduceToNat, tbB2, List.map_nil, List.nil_append, z0d] | exact z0f _ | refine z0e _ _ ?_ | exact Cln.cl | refine z05 _ ?_ | refine z00 _ _ ?_ ?_ | refine DR_q _ ?_ | (refine Fk.fk ?_ ?_ <;> intro hg <;> (try simp only [hg]) <;> (try simp only [bunB] at hg) <;> try (exfalso; first | omega | exact Bool.noConfusion hg | exact hg trivial)) | refine And.intro (by omega) ?_ | omega
        all_goals (repeat' refine And.intro ?_ ?_)
        all_goals (repeat' first | refine z06 (kc) ?_ ?_ | simp (maxSteps := 4000000) (disch := omega) only [bunL, bunD, bun, ↓z04, ↓z01, z02, findLabel, ↓reduceIte, imp, shift, z0b, z0a, unown, names, z07, below, noF, isF, z03, z09, z08, ren, givL, updM, z0c, renO, belowM, seval, -Int.reduceToNat, B9, D29, B31, B21, B41, bunN, Int.reduceToNat, tbB2, List.map_nil, List.nil_append, z0d] | exact z0f _ | refine z0e _ _ ?_ | exact Cln.cl | refine z05 _ ?_ | refine z00 _ _ ?_ ?_ | refine DR_q _ ?_ | (refine Fk.fk ?_ ?_ <;> intro hg <;> (try simp only [hg]) <;> (try simp only [bunB] at hg) <;> try (exfalso; first | omega | exact Bool.noConfusion hg | exact hg trivial)) | refine And.intro (by omega) ?_ | omega)
        all_goals (repeat' refine And.intro ?_ ?_)
        all_goals (repeat' first | refine z06 (kc) ?_ ?_ | simp (maxSteps := 4000000) (disch := omega) only [bunL, bunD, bun, ↓z04, ↓z01, z02, findLabel, ↓reduceIte, imp, shift, z0b, z0a, unown, names, z07, below, noF, isF, z03, z09, z08, ren, givL, updM, z0c, renO, belowM, seval, -Int.reduceToNat, B9, D29, B31, B21, B41, bunN, Int.reduceToNat, tbB2, List.map_nil, List.nil_append, z0d] | exact z0f _ | refine z0e _ _ ?_ | exact Cln.cl | refine z05 _ ?_ | refine z00 _ _ ?_ ?_ | refine DR_q _ ?_ | (refine Fk.fk ?_ ?_ <;> intro hg <;> (try simp only [hg]) <;> (try simp only [bunB] at hg) <;> try (exfalso; first | omega | exact Bool.noConfusion hg | exact hg trivial)) | refine And.intro (by omega) ?_ | omega)
        all_goals exact ⟨i + 1, by omega, by omega, by (simp (disch := omega) [wk, wkT, wkM, noF, isF, get, z0h, belowM, below, belows, I64, I32, Bv, U8, Sv, z0i] <;> try omega)⟩
      · repeat' first | refine z06 (c1) ?_ ?_ | simp (maxSteps := 4000000) (disch := omega) only [bunL, bunD, bun, ↓z04, ↓z01, z02, findLabel, ↓reduceIte, imp, shift, z0b, z0a, unown, names, z07, below, noF, isF, z03, z09, z08, ren, givL, updM, z0c, renO, belowM, seval, -Int.reduceToNat, B9, D29, B31, B21, B41, bunN, Int.reduceToNat, tbB2, List.map_nil, List.nil_append, z0d] | exact z0f _ | refine z0e _ _ ?_ | exact Cln.cl | refine z05 _ ?_ | refine z00 _ _ ?_ ?_ | refine DR_q _ ?_ | (refine Fk.fk ?_ ?_ <;> intro hg <;> (try simp only [hg]) <;> (try simp only [bunB] at hg) <;> try (exfalso; first | omega | exact Bool.noConfusion hg | exact hg trivial)) | refine And.intro (by omega) ?_ | omega
        all_goals trace_state
    · rw [← z0l] at ww
      repeat' first | refine z06 (z0y) ?_ ?_ | refine z06 (z3n) ?_ ?_ | refine z06 (ww) ?_ ?_ | simp (maxSteps := 4000000) (disch := omega) only [bunL, bunD, bun, ↓z04, ↓z01, z02, findLabel, ↓reduceIte, imp, shift, z0b, z0a, unown, names, z07, below, noF, isF, z03, z09, z08, ren, givL, updM, z0c, renO, belowM, seval, -Int.reduceToNat, hw, B9, D29, B31, B21, B41, bunN, Int.reduceToNat, tbB2, List.map_nil, List.nil_append, z0d] | exact z0f _ | refine z0e _ _ ?_ | exact Cln.cl | refine z05 _ ?_ | refine z00 _ _ ?_ ?_ | refine DR_q _ ?_ | (refine Fk.fk ?_ ?_ <;> intro hg <;> (try simp only [hg]) <;> (try simp only [bunB] at hg) <;> try (exfalso; first | omega | exact Bool.noConfusion hg | exact hg trivial)) | refine And.intro (by omega) ?_ | omega
      all_goals trace_state
  · repeat' first | refine z06 (z0y) ?_ ?_ | simp (maxSteps := 4000000) (disch := omega) only [bunL, bunD, bun, ↓z04, ↓z01, z02, findLabel, ↓reduceIte, imp, shift, z0b, z0a, unown, names, z07, below, noF, isF, z03, z09, z08, ren, givL, updM, z0c, renO, belowM, seval, -Int.reduceToNat, B9, D29, B31, B21, B41, bunN, Int.reduceToNat, tbB2, List.map_nil, List.nil_append, z0d] | exact z0f _ | refine z0e _ _ ?_ | exact Cln.cl | refine z05 _ ?_ | refine z00 _ _ ?_ ?_ | refine DR_q _ ?_ | (refine Fk.fk ?_ ?_ <;> intro hg <;> (try simp only [hg]) <;> (try simp only [bunB] at hg) <;> try (exfalso; first | omega | exact Bool.noConfusion hg | exact hg trivial)) | refine And.intro (by omega) ?_ | omega
end Go.AE
end
