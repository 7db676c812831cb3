/- Contracts of functions that the laws of this seat reach, and plain laws of what they compute. No condition beyond each statement's own. -/
import Derived.Test.YtpcfmiocndafcaaGreatSJ
import Derived.Test.YtpcfmiocndafcaaGreatYB
set_option linter.unusedVariables false
set_option linter.unusedSimpArgs false
section
namespace Go.AE
open Go.Proofs
set_option maxRecDepth 20000
set_option maxHeartbeats 8000000
set_option linter.unusedSimpArgs false
theorem zc9 (s p : List UInt8) (hs : s.length ≤ 100000000) (hp : p.length ≤ 100000000) : Spec Tryz.prog 64 [Sv s, Sv p] (Bv (decide (p.length ≤ s.length) && (s.take p.length == p))) := by
  refine z0g (z := false) (ts := [.tmp 4]) ok1 Tryz.func64 rfl rfl (by decide +kernel) (by simp [Tryz.ntmps64]) rfl ?_
  by_cases h : p.length ≤ s.length
  · repeat' first | simp (maxSteps := 4000000) (disch := omega) only [bunL, bunD, bun, ↓z04, ↓z01, z02, findLabel, ↓reduceIte, imp, shift, z0b, z0a, unown, names, z07, below, noF, isF, z03, z09, z08, ren, givL, updM, z0c, renO, belowM, seval, -Int.reduceToNat, h, B3, B4, B9, bunN, Int.reduceToNat, tbB2, List.map_nil, List.nil_append, z0d] | refine DR_q _ ?_ | (refine Fk.fk ?_ ?_ <;> intro hg <;> (try simp only [hg]) <;> (try simp only [bunB] at hg) <;> try (exfalso; first | omega | exact Bool.noConfusion hg | exact hg trivial)) | refine And.intro (by omega) ?_ | omega
    all_goals trace_state
  · repeat' first | simp (maxSteps := 4000000) (disch := omega) only [bunL, bunD, bun, ↓z04, ↓z01, z02, findLabel, ↓reduceIte, imp, shift, z0b, z0a, unown, names, z07, below, noF, isF, z03, z09, z08, ren, givL, updM, z0c, renO, belowM, seval, -Int.reduceToNat, h, B3, B4, B9, bunN, Int.reduceToNat, tbB2, List.map_nil, List.nil_append, z0d] | refine DR_q _ ?_ | (refine Fk.fk ?_ ?_ <;> intro hg <;> (try simp only [hg]) <;> (try simp only [bunB] at hg) <;> try (exfalso; first | omega | exact Bool.noConfusion hg | exact hg trivial)) | refine And.intro (by omega) ?_ | omega
    all_goals trace_state
theorem zef (s p : List UInt8) (hs : s.length ≤ 100000000) (hp : p.length ≤ 100000000) : Spec Tryz.prog 28 [Sv s, Sv p] (Bv (decide (p.length ≤ s.length) && (s.take p.length == p))) := by
  have h := zc9 s p hs hp
  refine z0g (z := false) (ts := [.tmp 4]) ok1 Tryz.func28 rfl rfl (by decide +kernel) (by simp [Tryz.ntmps28]) rfl ?_
  repeat' first | refine z06 (h) ?_ ?_ | simp (maxSteps := 4000000) (disch := omega) only [bunL, bunD, bun, ↓z04, ↓z01, z02, findLabel, ↓reduceIte, imp, shift, z0b, z0a, unown, names, z07, below, noF, isF, z03, z09, z08, ren, givL, updM, z0c, renO, belowM, seval, -Int.reduceToNat, B4, B9, bunN, Int.reduceToNat, tbB2, List.map_nil, List.nil_append, z0d] | exact z0f _ | refine z0e _ _ ?_ | exact Cln.cl | refine z05 _ ?_ | refine z00 _ _ ?_ ?_ | refine DR_q _ ?_ | (refine Fk.fk ?_ ?_ <;> intro hg <;> (try simp only [hg]) <;> (try simp only [bunB] at hg) <;> try (exfalso; first | omega | exact Bool.noConfusion hg | exact hg trivial)) | refine And.intro (by omega) ?_ | omega
theorem zmr (s p : List UInt8) (hs : s.length ≤ 100000000) (hp : p.length ≤ 100000000) : Spec Tryz.prog 89 [Sv s, Sv p] (Bv (decide (p.length ≤ s.length) && (s.drop (s.length - p.length) == p))) := by
  refine z0g (z := false) (ts := [.tmp 4]) ok1 Tryz.func89 rfl rfl (by decide +kernel) (by simp [Tryz.ntmps89]) rfl ?_
  by_cases h : p.length ≤ s.length
  · have e : ((s.length : Int) - (p.length : Int)).toNat = s.length - p.length := by omega
    repeat' first | simp (maxSteps := 4000000) (disch := omega) only [bunL, bunD, bun, ↓z04, ↓z01, z02, findLabel, ↓reduceIte, imp, shift, z0b, z0a, unown, names, z07, below, noF, isF, z03, z09, z08, ren, givL, updM, z0c, renO, belowM, seval, -Int.reduceToNat, h, e, B3, B4, B9, bunN, Int.reduceToNat, tbB2, List.map_nil, List.nil_append, z0d] | refine DR_q _ ?_ | (refine Fk.fk ?_ ?_ <;> intro hg <;> (try simp only [hg]) <;> (try simp only [bunB] at hg) <;> try (exfalso; first | omega | exact Bool.noConfusion hg | exact hg trivial)) | refine And.intro (by omega) ?_ | omega
    all_goals trace_state
  · repeat' first | simp (maxSteps := 4000000) (disch := omega) only [bunL, bunD, bun, ↓z04, ↓z01, z02, findLabel, ↓reduceIte, imp, shift, z0b, z0a, unown, names, z07, below, noF, isF, z03, z09, z08, ren, givL, updM, z0c, renO, belowM, seval, -Int.reduceToNat, h, B3, B4, B9, bunN, Int.reduceToNat, tbB2, List.map_nil, List.nil_append, z0d] | refine DR_q _ ?_ | (refine Fk.fk ?_ ?_ <;> intro hg <;> (try simp only [hg]) <;> (try simp only [bunB] at hg) <;> try (exfalso; first | omega | exact Bool.noConfusion hg | exact hg trivial)) | refine And.intro (by omega) ?_ | omega
    all_goals trace_state
theorem zpa (s p : List UInt8) (hs : s.length ≤ 100000000) (hp : p.length ≤ 100000000) : Spec Tryz.prog 67 [Sv s, Sv p] (Bv (decide (p.length ≤ s.length) && (s.drop (s.length - p.length) == p))) := by
  have h := zmr s p hs hp
  refine z0g (z := false) (ts := [.tmp 4]) ok1 Tryz.func67 rfl rfl (by decide +kernel) (by simp [Tryz.ntmps67]) rfl ?_
  repeat' first | refine z06 (h) ?_ ?_ | simp (maxSteps := 4000000) (disch := omega) only [bunL, bunD, bun, ↓z04, ↓z01, z02, findLabel, ↓reduceIte, imp, shift, z0b, z0a, unown, names, z07, below, noF, isF, z03, z09, z08, ren, givL, updM, z0c, renO, belowM, seval, -Int.reduceToNat, B4, B9, bunN, Int.reduceToNat, tbB2, List.map_nil, List.nil_append, z0d] | exact z0f _ | refine z0e _ _ ?_ | exact Cln.cl | refine z05 _ ?_ | refine z00 _ _ ?_ ?_ | refine DR_q _ ?_ | (refine Fk.fk ?_ ?_ <;> intro hg <;> (try simp only [hg]) <;> (try simp only [bunB] at hg) <;> try (exfalso; first | omega | exact Bool.noConfusion hg | exact hg trivial)) | refine And.intro (by omega) ?_ | omega
theorem zdu (s : List UInt8) (hs : s.length ≤ 10000000) : Spec Tryz.prog 35 [Sv s] (Bv (z9w s)) := by
  have h1 := zef s [45] (by omega) (by decide)
  have h2 := zpa s [45] (by omega) (by decide)
  simp only [List.length_cons, List.length_nil, Nat.zero_add] at h1 h2
  refine z0g (z := false) (ts := [.tmp 2]) ok1 Tryz.func35 rfl rfl (by decide +kernel) (by simp [Tryz.ntmps35]) rfl ?_
  unfold z9w
  cases g1 : (decide (1 ≤ s.length) && (s.take 1 == [45])) <;> cases g2 : (decide (1 ≤ s.length) && (s.drop (s.length - 1) == [45]))
  all_goals
    rw [g1] at h1
    rw [g2] at h2
    by_cases g3 : 3 < s.length
    · repeat' first | refine z06 (h1) ?_ ?_ | refine z06 (h2) ?_ ?_ | simp (maxSteps := 4000000) (disch := omega) only [bunL, bunD, bun, ↓z04, ↓z01, z02, findLabel, ↓reduceIte, imp, shift, z0b, z0a, unown, names, z07, below, noF, isF, z03, z09, z08, ren, givL, updM, z0c, renO, belowM, seval, -Int.reduceToNat, g3, B3, B4, B9, bunN, Int.reduceToNat, tbB2, List.map_nil, List.nil_append, z0d] | exact z0f _ | refine z0e _ _ ?_ | exact Cln.cl | refine z05 _ ?_ | refine z00 _ _ ?_ ?_ | refine DR_q _ ?_ | (refine Fk.fk ?_ ?_ <;> intro hg <;> (try simp only [hg]) <;> (try simp only [bunB] at hg) <;> try (exfalso; first | omega | exact Bool.noConfusion hg | exact hg trivial)) | refine And.intro (by omega) ?_ | omega
      all_goals trace_state
    · repeat' first | refine z06 (h1) ?_ ?_ | refine z06 (h2) ?_ ?_ | simp (maxSteps := 4000000) (disch := omega) only [bunL, bunD, bun, ↓z04, ↓z01, z02, findLabel, ↓reduceIte, imp, shift, z0b, z0a, unown, names, z07, below, noF, isF, z03, z09, z08, ren, givL, updM, z0c, renO, belowM, seval, -Int.reduceToNat, g3, B3, B4, B9, bunN, Int.reduceToNat, tbB2, List.map_nil, List.nil_append, z0d] | exact z0f _ | refine z0e _ _ ?_ | exact Cln.cl | refine z05 _ ?_ | refine z00 _ _ ?_ ?_ | refine DR_q _ ?_ | (refine Fk.fk ?_ ?_ <;> intro hg <;> (try simp only [hg]) <;> (try simp only [bunB] at hg) <;> try (exfalso; first | omega | exact Bool.noConfusion hg | exact hg trivial)) | refine And.intro (by omega) ?_ | omega
      all_goals trace_state
theorem wq1 (a : Int) : Spec Tryz.prog 31 [.cp [I64 a]] (Bv (decide (0 ≤ a))) := by
  refine z0g (z := false) (ts := [.tmp 1]) ok1 Tryz.func31 rfl rfl (by decide +kernel) (by simp [Tryz.ntmps31]) rfl ?_
  repeat' first | simp (maxSteps := 4000000) (disch := omega) only [bunL, bunD, bun, ↓z04, ↓z01, z02, findLabel, ↓reduceIte, imp, shift, z0b, z0a, unown, names, z07, below, noF, isF, z03, z09, z08, ren, givL, updM, z0c, renO, belowM, seval, -Int.reduceToNat, B3, B4, bunN, Int.reduceToNat, tbB2, List.map_nil, List.nil_append, z0d] | refine DR_q _ ?_ | (refine Fk.fk ?_ ?_ <;> intro hg <;> (try simp only [hg]) <;> (try simp only [bunB] at hg) <;> try (exfalso; first | omega | exact Bool.noConfusion hg | exact hg trivial)) | refine And.intro (by omega) ?_ | omega
theorem wq3 (s : List UInt8) (hs : s.length ≤ 10000000) : Spec Tryz.prog 34 [.cp [Sv s]] (Bv (z9w s)) := by
  have h := zdu s hs
  refine z0g (z := false) (ts := [.tmp 1]) ok1 Tryz.func34 rfl rfl (by decide +kernel) (by simp [Tryz.ntmps34]) rfl ?_
  repeat' first | refine z06 (h) ?_ ?_ | simp (maxSteps := 4000000) (disch := omega) only [bunL, bunD, bun, ↓z04, ↓z01, z02, findLabel, ↓reduceIte, imp, shift, z0b, z0a, unown, names, z07, below, noF, isF, z03, z09, z08, ren, givL, updM, z0c, renO, belowM, seval, -Int.reduceToNat, B4, B9, bunN, Int.reduceToNat, tbB2, List.map_nil, List.nil_append, z0d] | exact z0f _ | refine z0e _ _ ?_ | exact Cln.cl | refine z05 _ ?_ | refine z00 _ _ ?_ ?_ | refine DR_q _ ?_ | (refine Fk.fk ?_ ?_ <;> intro hg <;> (try simp only [hg]) <;> (try simp only [bunB] at hg) <;> try (exfalso; first | omega | exact Bool.noConfusion hg | exact hg trivial)) | refine And.intro (by omega) ?_ | omega
theorem wq8 (s : List UInt8) (hs : s.length ≤ 10000000) : Spec Tryz.prog 44 [.cp [Sv s]] (Bv (decide (63 < 4 + s.length))) := by
  refine z0g (z := false) (ts := [.tmp 1]) ok1 Tryz.func44 rfl rfl (by decide +kernel) (by simp [Tryz.ntmps44]) rfl ?_
  have e : decide (63 < 4 + s.length) = decide (4 + (s.length : Int) > 63) := by rw [Bool.eq_iff_iff]; simp only [decide_eq_true_eq]; omega
  rw [e]
  repeat' first | simp (maxSteps := 4000000) (disch := omega) only [bunL, bunD, bun, ↓z04, ↓z01, z02, findLabel, ↓reduceIte, imp, shift, z0b, z0a, unown, names, z07, below, noF, isF, z03, z09, z08, ren, givL, updM, z0c, renO, belowM, seval, -Int.reduceToNat, B3, B4, B9, bunN, Int.reduceToNat, tbB2, List.map_nil, List.nil_append, z0d] | refine DR_q _ ?_ | (refine Fk.fk ?_ ?_ <;> intro hg <;> (try simp only [hg]) <;> (try simp only [bunB] at hg) <;> try (exfalso; first | omega | exact Bool.noConfusion hg | exact hg trivial)) | refine And.intro (by omega) ?_ | omega
theorem wq4 (L : List Int) (h : 0 < L.length) : Spec Tryz.prog 36 [.cp z0q, .cp [.sl L.length (L.map I32)]] (Bv (cat (L.getD 0 0) == 4)) := by
  have hc := zk0 (L.getD 0 0)
  rw [← z0l] at hc
  refine z0g (z := false) (ts := [.tmp 2]) ok1 Tryz.func36 rfl rfl (by decide +kernel) (by simp [Tryz.ntmps36]) rfl ?_
  repeat' first | refine DR_p (.two 0 (.one 1 (.one 2 (.one 3 (.one 4 (.take 5 (.take 6 (.done))))))) 1 (.two 0 (.one 2 (.one 3 (.one 4 (.take 5 (.take 6 (.done)))))) 2 (.two 0 (.one 3 (.one 4 (.take 5 (.take 6 (.done))))) 3 (.one 0 (.one 4 (.take 5 (.take 6 (.done)))))))) _ (by decide +kernel) ?_ | refine z06 (hc) ?_ ?_ | simp (maxSteps := 4000000) (disch := omega) only [bunL, bunD, bun, ↓z04, ↓z01, z02, findLabel, ↓reduceIte, imp, shift, z0b, z0a, unown, names, z07, below, noF, isF, z03, z09, z08, ren, givL, updM, z0c, renO, belowM, seval, -Int.reduceToNat, D29, B21, B41, bunN, Int.reduceToNat, tbB2, List.map_nil, List.nil_append, z0d] | exact z0f _ | refine z0e _ _ ?_ | exact Cln.cl | refine z05 _ ?_ | refine z00 _ _ ?_ ?_ | refine DR_q _ ?_ | (refine Fk.fk ?_ ?_ <;> intro hg <;> (try simp only [hg]) <;> (try simp only [bunB] at hg) <;> try (exfalso; first | omega | exact Bool.noConfusion hg | exact hg trivial)) | refine And.intro (by omega) ?_ | omega
  all_goals (repeat' refine And.intro ?_ ?_)
  all_goals (repeat' first | refine z06 (hc) ?_ ?_ | simp (maxSteps := 4000000) (disch := omega) only [bunL, bunD, bun, ↓z04, ↓z01, z02, findLabel, ↓reduceIte, imp, shift, z0b, z0a, unown, names, z07, below, noF, isF, z03, z09, z08, ren, givL, updM, z0c, renO, belowM, seval, -Int.reduceToNat, D29, B21, B41, bunN, Int.reduceToNat, tbB2, List.map_nil, List.nil_append, z0d] | exact z0f _ | refine z0e _ _ ?_ | exact Cln.cl | refine z05 _ ?_ | refine z00 _ _ ?_ ?_ | refine DR_q _ ?_ | (refine Fk.fk ?_ ?_ <;> intro hg <;> (try simp only [hg]) <;> (try simp only [bunB] at hg) <;> try (exfalso; first | omega | exact Bool.noConfusion hg | exact hg trivial)) | refine And.intro (by omega) ?_ | omega)
  all_goals (repeat' refine And.intro ?_ ?_)
  all_goals (repeat' first | refine z06 (hc) ?_ ?_ | simp (maxSteps := 4000000) (disch := omega) only [bunL, bunD, bun, ↓z04, ↓z01, z02, findLabel, ↓reduceIte, imp, shift, z0b, z0a, unown, names, z07, below, noF, isF, z03, z09, z08, ren, givL, updM, z0c, renO, belowM, seval, -Int.reduceToNat, D29, B21, B41, bunN, Int.reduceToNat, tbB2, List.map_nil, List.nil_append, z0d] | exact z0f _ | refine z0e _ _ ?_ | exact Cln.cl | refine z05 _ ?_ | refine z00 _ _ ?_ ?_ | refine DR_q _ ?_ | (refine Fk.fk ?_ ?_ <;> intro hg <;> (try simp only [hg]) <;> (try simp only [bunB] at hg) <;> try (exfalso; first | omega | exact Bool.noConfusion hg | exact hg trivial)) | refine And.intro (by omega) ?_ | omega)
  all_goals trace_state
end Go.AE
end
section
namespace Go.AE
open Go.Proofs
set_option maxRecDepth 20000
set_option maxHeartbeats 8000000
set_option linter.unusedSimpArgs false
theorem znz (L : List Int) (hL : L.length ≤ 1000) (hi : ∀ c ∈ L, inI c) : Spec Tryz.prog 38 [tab, .sl L.length (L.map I32)] (Bv (strL L)) := by
  rw [← z0l]
  refine z0g (z := false) (ts := [.tmp 4]) ok1 Tryz.func38 rfl rfl (by decide +kernel) (by simp [Tryz.ntmps38]) rfl ?_
  repeat' first | simp (maxSteps := 4000000) (disch := omega) only [bunL, bunD, bun, ↓z04, ↓z01, z02, findLabel, ↓reduceIte, imp, shift, z0b, z0a, unown, names, z07, below, noF, isF, z03, z09, z08, ren, givL, updM, z0c, renO, belowM, seval, -Int.reduceToNat, D29, B21, B41, bunN, Int.reduceToNat, tbB2, List.map_nil, List.nil_append, z0d, z0u, z1f, z0p] | refine DR_q _ ?_ | (refine Fk.fk ?_ ?_ <;> intro hg <;> (try simp only [hg]) <;> (try simp only [bunB] at hg) <;> try (exfalso; first | omega | exact Bool.noConfusion hg | exact hg trivial)) | refine And.intro (by omega) ?_ | omega
  refine z0m (fun i : Nat => ⟨[(1, .sl L.length (L.map I32)), (2, .ptr 0 0), (7, .sl L.length (L.map I32)), (8, I64 L.length), (9, I64 i)], [.row true 1 z0q]⟩) (fun i => i ≤ L.length ∧ ∀ j, j < i → strK L j = false) (fun i => L.length - i) 0 (by simp) (by (simp (disch := omega) [wk, wkT, wkM, noF, isF, get, z0h, belowM, below, belows, I64, I32, Bv, U8, Sv, z0i] <;> try omega)) ?_
  rintro i ⟨hi1, hi2⟩
  by_cases hlt : i < L.length
  · have hn := need_spec L hL hi i (by omega) (by omega)
    rw [need_at L i hlt] at hn
    have hp := zbq (L.getD i 0)
    rw [← z0l] at hn hp
    have hbk : strK L i = (z6x L i == 2 || (z6x L i == 0 && !lch (L.getD i 0))) := rfl
    cases hq : strK L i with
    | true =>
      have e : strL L = true := any_take hi2 hlt hq
      rw [hq] at hbk
      by_cases g2 : z6x L i = 2
      · repeat' first | refine z06 (hn) ?_ ?_ | refine z06 (hp) ?_ ?_ | simp (maxSteps := 4000000) (disch := omega) only [bunL, bunD, bun, ↓z04, ↓z01, z02, findLabel, ↓reduceIte, imp, shift, z0b, z0a, unown, names, z07, below, noF, isF, z03, z09, z08, ren, givL, updM, z0c, renO, belowM, seval, -Int.reduceToNat, e, g2, D29, B21, B41, bunN, Int.reduceToNat, tbB2, List.map_nil, List.nil_append, z0d, z0u, z1f, z0p] | exact z0f _ | refine z0e _ _ ?_ | exact Cln.cl | refine z05 _ ?_ | refine z00 _ _ ?_ ?_ | refine DR_q _ ?_ | (refine Fk.fk ?_ ?_ <;> intro hg <;> (try simp only [hg]) <;> (try simp only [bunB] at hg) <;> try (exfalso; first | omega | exact Bool.noConfusion hg | exact hg trivial)) | refine And.intro (by omega) ?_ | omega
        all_goals trace_state
      · have g3 : z6x L i = 0 ∧ lch (L.getD i 0) = false := by
          have g2' : (z6x L i == 2) = false := by simpa using g2
          rw [g2', Bool.false_or] at hbk
          simpa using hbk.symm
        repeat' first | refine z06 (hn) ?_ ?_ | refine z06 (hp) ?_ ?_ | simp (maxSteps := 4000000) (disch := omega) only [bunL, bunD, bun, ↓z04, ↓z01, z02, findLabel, ↓reduceIte, imp, shift, z0b, z0a, unown, names, z07, below, noF, isF, z03, z09, z08, ren, givL, updM, z0c, renO, belowM, seval, -Int.reduceToNat, e, g3.1, g3.2, D29, B21, B41, bunN, Int.reduceToNat, tbB2, List.map_nil, List.nil_append, z0d, z0u, z1f, z0p] | exact z0f _ | refine z0e _ _ ?_ | exact Cln.cl | refine z05 _ ?_ | refine z00 _ _ ?_ ?_ | refine DR_q _ ?_ | (refine Fk.fk ?_ ?_ <;> intro hg <;> (try simp only [hg]) <;> (try simp only [bunB] at hg) <;> try (exfalso; first | omega | exact Bool.noConfusion hg | exact hg trivial)) | refine And.intro (by omega) ?_ | omega
        all_goals trace_state
    | false =>
      rw [hq] at hbk
      have g2 : ¬ z6x L i = 2 := fun h => by rw [h] at hbk; simp at hbk
      have g2' : (z6x L i == 2) = false := by simpa using g2
      rw [g2', Bool.false_or] at hbk
      have nxt : ∀ j, j < i + 1 → strK L j = false := fun j hj => by
        by_cases hji : j = i
        · subst hji; exact hq
        · exact hi2 j (by omega)
      by_cases g3 : z6x L i = 0
      · have g4 : lch (L.getD i 0) = true := by rw [g3] at hbk; simpa using hbk.symm
        repeat' first | refine z06 (hn) ?_ ?_ | refine z06 (hp) ?_ ?_ | simp (maxSteps := 4000000) (disch := omega) only [bunL, bunD, bun, ↓z04, ↓z01, z02, findLabel, ↓reduceIte, imp, shift, z0b, z0a, unown, names, z07, below, noF, isF, z03, z09, z08, ren, givL, updM, z0c, renO, belowM, seval, -Int.reduceToNat, g2, g3, g4, D29, B21, B41, bunN, Int.reduceToNat, tbB2, List.map_nil, List.nil_append, z0d, z0u, z1f, z0p] | exact z0f _ | refine z0e _ _ ?_ | exact Cln.cl | refine z05 _ ?_ | refine z00 _ _ ?_ ?_ | refine DR_q _ ?_ | (refine Fk.fk ?_ ?_ <;> intro hg <;> (try simp only [hg]) <;> (try simp only [bunB] at hg) <;> try (exfalso; first | omega | exact Bool.noConfusion hg | exact hg trivial)) | refine And.intro (by omega) ?_ | omega
        all_goals exact ⟨i + 1, ⟨by omega, nxt⟩, by omega, by (simp (disch := omega) [wk, wkT, wkM, noF, isF, get, z0h, belowM, below, belows, I64, I32, Bv, U8, Sv, z0i] <;> try omega)⟩
      · repeat' first | refine z06 (hn) ?_ ?_ | refine z06 (hp) ?_ ?_ | simp (maxSteps := 4000000) (disch := omega) only [bunL, bunD, bun, ↓z04, ↓z01, z02, findLabel, ↓reduceIte, imp, shift, z0b, z0a, unown, names, z07, below, noF, isF, z03, z09, z08, ren, givL, updM, z0c, renO, belowM, seval, -Int.reduceToNat, g2, g3, D29, B21, B41, bunN, Int.reduceToNat, tbB2, List.map_nil, List.nil_append, z0d, z0u, z1f, z0p] | exact z0f _ | refine z0e _ _ ?_ | exact Cln.cl | refine z05 _ ?_ | refine z00 _ _ ?_ ?_ | refine DR_q _ ?_ | (refine Fk.fk ?_ ?_ <;> intro hg <;> (try simp only [hg]) <;> (try simp only [bunB] at hg) <;> try (exfalso; first | omega | exact Bool.noConfusion hg | exact hg trivial)) | refine And.intro (by omega) ?_ | omega
        all_goals exact ⟨i + 1, ⟨by omega, nxt⟩, by omega, by (simp (disch := omega) [wk, wkT, wkM, noF, isF, get, z0h, belowM, below, belows, I64, I32, Bv, U8, Sv, z0i] <;> try omega)⟩
  · have e : strL L = false := any_none fun j hj => hi2 j (by omega)
    repeat' first | simp (maxSteps := 4000000) (disch := omega) only [bunL, bunD, bun, ↓z04, ↓z01, z02, findLabel, ↓reduceIte, imp, shift, z0b, z0a, unown, names, z07, below, noF, isF, z03, z09, z08, ren, givL, updM, z0c, renO, belowM, seval, -Int.reduceToNat, e, D29, B21, B41, bunN, Int.reduceToNat, tbB2, List.map_nil, List.nil_append, z0d, z0u, z1f, z0p] | refine DR_q _ ?_ | (refine Fk.fk ?_ ?_ <;> intro hg <;> (try simp only [hg]) <;> (try simp only [bunB] at hg) <;> try (exfalso; first | omega | exact Bool.noConfusion hg | exact hg trivial)) | refine And.intro (by omega) ?_ | omega
    all_goals trace_state
theorem wq2 (s : List UInt8) (hs : s.length ≤ 10000000) (hl : (runes s).1.length ≤ 10000) : Spec Tryz.prog 32 [.cp [Sv s], .cp z0q] (Bv (codB s)) := by
  have h1 := z1o s (by omega)
  have h2 := nis_spec' s hs hl
  rw [← z0l] at h2
  refine z0g (z := false) (ts := [.tmp 2]) ok1 Tryz.func32 rfl rfl (by decide +kernel) (by simp [Tryz.ntmps32]) rfl ?_
  unfold codB
  by_cases h8 : eight s < 0
  · repeat' first | refine z06 (h1) ?_ ?_ | refine z06 (h2) ?_ ?_ | simp (maxSteps := 4000000) (disch := omega) only [bunL, bunD, bun, ↓z04, ↓z01, z02, findLabel, ↓reduceIte, imp, shift, z0b, z0a, unown, names, z07, below, noF, isF, z03, z09, z08, ren, givL, updM, z0c, renO, belowM, seval, -Int.reduceToNat, h8, B9, D29, bunN, Int.reduceToNat, tbB2, List.map_nil, List.nil_append, z0d, z0u, z1f, z0p] | exact z0f _ | refine z0e _ _ ?_ | exact Cln.cl | refine z05 _ ?_ | refine z00 _ _ ?_ ?_ | refine DR_q _ ?_ | (refine Fk.fk ?_ ?_ <;> intro hg <;> (try simp only [hg]) <;> (try simp only [bunB] at hg) <;> try (exfalso; first | omega | exact Bool.noConfusion hg | exact hg trivial)) | refine And.intro (by omega) ?_ | omega
    all_goals trace_state
  · repeat' first | refine z06 (h1) ?_ ?_ | refine z06 (h2) ?_ ?_ | simp (maxSteps := 4000000) (disch := omega) only [bunL, bunD, bun, ↓z04, ↓z01, z02, findLabel, ↓reduceIte, imp, shift, z0b, z0a, unown, names, z07, below, noF, isF, z03, z09, z08, ren, givL, updM, z0c, renO, belowM, seval, -Int.reduceToNat, h8, B9, D29, bunN, Int.reduceToNat, tbB2, List.map_nil, List.nil_append, z0d, z0u, z1f, z0p] | exact z0f _ | refine z0e _ _ ?_ | exact Cln.cl | refine z05 _ ?_ | refine z00 _ _ ?_ ?_ | refine DR_q _ ?_ | (refine Fk.fk ?_ ?_ <;> intro hg <;> (try simp only [hg]) <;> (try simp only [bunB] at hg) <;> try (exfalso; first | omega | exact Bool.noConfusion hg | exact hg trivial)) | refine And.intro (by omega) ?_ | omega
    all_goals trace_state
theorem wq5 (L : List Int) (hL : L.length ≤ 1000) (hi : ∀ c ∈ L, inI c) : Spec Tryz.prog 37 [.cp z0q, .cp [.sl L.length (L.map I32)]] (Bv (strL L)) := by
  have h := znz L hL hi
  rw [← z0l] at h
  refine z0g (z := false) (ts := [.tmp 2]) ok1 Tryz.func37 rfl rfl (by decide +kernel) (by simp [Tryz.ntmps37]) rfl ?_
  repeat' first | refine z06 (h) ?_ ?_ | simp (maxSteps := 4000000) (disch := omega) only [bunL, bunD, bun, ↓z04, ↓z01, z02, findLabel, ↓reduceIte, imp, shift, z0b, z0a, unown, names, z07, below, noF, isF, z03, z09, z08, ren, givL, updM, z0c, renO, belowM, seval, -Int.reduceToNat, D29, B21, B41, bunN, Int.reduceToNat, tbB2, List.map_nil, List.nil_append, z0d, z0u, z1f, z0p] | exact z0f _ | refine z0e _ _ ?_ | exact Cln.cl | refine z05 _ ?_ | refine z00 _ _ ?_ ?_ | refine DR_q _ ?_ | (refine Fk.fk ?_ ?_ <;> intro hg <;> (try simp only [hg]) <;> (try simp only [bunB] at hg) <;> try (exfalso; first | omega | exact Bool.noConfusion hg | exact hg trivial)) | refine And.intro (by omega) ?_ | omega
theorem wq6 (L : List Int) (hL : L.length ≤ 1000) : Spec Tryz.prog 39 [.cp z0q, .cp [.sl L.length (L.map I32)]] (Bv (hasB L && !zq2 L)) := by
  have h1 := zta L hL
  have h2 := zwj L hL
  rw [← z0l] at h1 h2
  refine z0g (z := false) (ts := [.tmp 2]) ok1 Tryz.func39 rfl rfl (by decide +kernel) (by simp [Tryz.ntmps39]) rfl ?_
  cases g1 : hasB L
  all_goals
    rw [g1] at h1
    repeat' first | refine z06 (h1) ?_ ?_ | refine z06 (h2) ?_ ?_ | simp (maxSteps := 4000000) (disch := omega) only [bunL, bunD, bun, ↓z04, ↓z01, z02, findLabel, ↓reduceIte, imp, shift, z0b, z0a, unown, names, z07, below, noF, isF, z03, z09, z08, ren, givL, updM, z0c, renO, belowM, seval, -Int.reduceToNat, D29, B21, B41, bunN, Int.reduceToNat, tbB2, List.map_nil, List.nil_append, z0d, z0u, z1f, z0p] | exact z0f _ | refine z0e _ _ ?_ | exact Cln.cl | refine z05 _ ?_ | refine z00 _ _ ?_ ?_ | refine DR_q _ ?_ | (refine Fk.fk ?_ ?_ <;> intro hg <;> (try simp only [hg]) <;> (try simp only [bunB] at hg) <;> try (exfalso; first | omega | exact Bool.noConfusion hg | exact hg trivial)) | refine And.intro (by omega) ?_ | omega
    all_goals trace_state
theorem wq7 (L : List Int) (hL : L.length ≤ 1000) : z5j Tryz.prog 42 [.row true 1 [.ref 3 0 L.length], .row true 1 [Sv []], .row true 1 [Bv false], .arr 21 1 (L.map I32)] [.ptr 0 0, .ptr 1 0, .ptr 2 0] [.dead, .row true 1 [Sv (pnS L)], .row true 1 [Bv (z1m L)], .dead, .fence] (Bv (!z1m L)) := by
  have h := z9x L (by omega)
  refine z3p (ts := [.tmp 3]) ok1 Tryz.func42 rfl rfl (by decide +kernel) (by simp [Tryz.ntmps42]) rfl ?_
  repeat' first | refine z06 (h) ?_ ?_ | simp (maxSteps := 4000000) (disch := omega) only [bunL, bunD, bun, ↓z04, ↓z01, z02, findLabel, ↓reduceIte, imp, shift, z0b, z0a, unown, names, z07, below, noF, isF, z03, z09, z08, ren, givL, updM, z0c, renO, belowM, seval, -Int.reduceToNat, B4, B9, B21, B41, bunN, Int.reduceToNat, tbB2, List.map_nil, List.nil_append, z0d, z0u, z1f, z0p] | exact z0f _ | refine z0e _ _ ?_ | exact Cln.cl | refine z05 _ ?_ | refine z00 _ _ ?_ ?_ | refine DR_q _ ?_ | (refine Fk.fk ?_ ?_ <;> intro hg <;> (try simp only [hg]) <;> (try simp only [bunB] at hg) <;> try (exfalso; first | omega | exact Bool.noConfusion hg | exact hg trivial)) | refine And.intro (by omega) ?_ | omega
  all_goals trace_state
end Go.AE
end
section
namespace Go.AE
open Go.Proofs
set_option maxRecDepth 20000
set_option maxHeartbeats 8000000
set_option linter.unusedSimpArgs false
theorem cl_i (k : IntKind) (n : Int) : (Value.int k n).cells.toList = [Value.int k n] := rfl
theorem cl_s (b : ByteArray) : (Value.string b).cells.toList = [Value.string b] := rfl
theorem cl_b (b : Bool) : (Value.bool b).cells.toList = [Value.bool b] := rfl
theorem ca_i (k : IntKind) (n : Int) : ((Value.int k n).cells.all fun x => x.oneCell') = true := by
  rw [← Array.all_toList, cl_i]; rfl
theorem ca_s (b : ByteArray) : ((Value.string b).cells.all fun x => x.oneCell') = true := by
  rw [← Array.all_toList, cl_s]; rfl
theorem ca_b (b : Bool) : ((Value.bool b).cells.all fun x => x.oneCell') = true := by
  rw [← Array.all_toList, cl_b]; rfl
theorem zp2 (s P : List UInt8) (L : List Int) (a : Int) (ok b1 b2 b3 b4 b5 b6 b8 : Bool)
    (h1 : Spec Tryz.prog 31 [.cp [I64 a]] (Bv b1))
    (h2 : Spec Tryz.prog 32 [.cp [Sv s], .cp z0q] (Bv b2))
    (h3 : Spec Tryz.prog 34 [.cp [Sv s]] (Bv b3))
    (h4 : b1 = false → b2 = false → Spec Tryz.prog 36 [.cp z0q, .cp [.sl L.length (L.map I32)]] (Bv b4))
    (h5 : Spec Tryz.prog 37 [.cp z0q, .cp [.sl L.length (L.map I32)]] (Bv b5))
    (h6 : Spec Tryz.prog 39 [.cp z0q, .cp [.sl L.length (L.map I32)]] (Bv b6))
    (h7 : z5j Tryz.prog 42 [.row true 1 [.ref 3 0 L.length], .row true 1 [Sv []], .row true 1 [Bv false], .arr 21 1 (L.map I32)] [.ptr 0 0, .ptr 1 0, .ptr 2 0] [.dead, .row true 1 [Sv P], .row true 1 [Bv ok], .dead, .fence] (Bv (!ok)))
    (h8 : Spec Tryz.prog 44 [.cp [Sv P]] (Bv b8)) :
    z5j Tryz.prog 30 [.row true 2 [I64 7, .fn 31 [] [.ptr 4 0], I64 4, .fn 32 [] [.ptr 2 0, .ptr 1 0], I64 11, .fn 34 [] [.ptr 2 0], I64 10, .fn 36 [] [.ptr 1 0, .ptr 3 0],
      I64 8, .fn 37 [] [.ptr 1 0, .ptr 3 0], I64 9, .fn 39 [] [.ptr 1 0, .ptr 3 0], I64 12, .fn 42 [] [.ptr 3 0, .ptr 5 0, .ptr 6 0], I64 5, .fn 44 [] [.ptr 5 0]],
      .row true 1 z0q, .row true 1 [Sv s], .row true 1 [.ref 7 0 L.length], .row true 1 [I64 a], .row true 1 [Sv []], .row true 1 [Bv false], .arr 21 1 (L.map I32)] [.ref 0 0 8]
      [.dead, .dead, .dead, .dead, .dead, .dead, .dead, .dead, .fence] (I64 (z2f [(b1, 7), (b2, 4), (b3, 11), (b4, 10), (b5, 8), (b6, 9), (!ok, 12), (b8, 5)])) := by
  refine z3p (ts := [.tmp 2]) ok1 Tryz.func30 rfl rfl (by decide +kernel) (by simp [Tryz.ntmps30]) rfl ?_
  repeat' first | simp (maxSteps := 4000000) (disch := omega) only [bunL, bunD, bun, ↓z04, ↓z01, z02, findLabel, ↓reduceIte, imp, shift, z0b, z0a, unown, names, z07, below, noF, isF, z03, z09, z08, ren, givL, updM, z0c, renO, belowM, seval, -Int.reduceToNat, B3, B4, D89, bunN, Int.reduceToNat, tbB2, List.map_nil, List.nil_append, z0d, z0u, z1f, z0p, cl_i, cl_s, cl_b, ca_i, ca_s, ca_b] | refine DR_q _ ?_ | (refine Fk.fk ?_ ?_ <;> intro hg <;> (try simp only [hg]) <;> (try simp only [bunB] at hg) <;> try (exfalso; first | omega | exact Bool.noConfusion hg | exact hg trivial)) | refine And.intro (by omega) ?_ | omega
  refine z0m (fun i : Nat => ⟨[(5, .ref 0 0 8), (6, I64 8), (7, I64 i)], [.row true 2 [I64 7, .fn 31 [] [.ptr 4 0], I64 4, .fn 32 [] [.ptr 2 0, .ptr 1 0], I64 11, .fn 34 [] [.ptr 2 0], I64 10, .fn 36 [] [.ptr 1 0, .ptr 3 0],
      I64 8, .fn 37 [] [.ptr 1 0, .ptr 3 0], I64 9, .fn 39 [] [.ptr 1 0, .ptr 3 0], I64 12, .fn 42 [] [.ptr 3 0, .ptr 5 0, .ptr 6 0], I64 5, .fn 44 [] [.ptr 5 0]],
      .row true 1 z0q, .row true 1 [Sv s], (if i ≤ 6 then .row true 1 [.ref 7 0 L.length] else .dead), .row true 1 [I64 a], .row true 1 [Sv (if i ≤ 6 then [] else P)], .row true 1 [Bv (if i ≤ 6 then false else ok)], (if i ≤ 6 then .arr 21 1 (L.map I32) else .dead), .fence]⟩)
    (fun i => i ≤ 8 ∧ (0 < i → b1 = false) ∧ (1 < i → b2 = false) ∧ (2 < i → b3 = false) ∧ (3 < i → b4 = false) ∧ (4 < i → b5 = false) ∧ (5 < i → b6 = false) ∧ (6 < i → ok = true) ∧ (7 < i → b8 = false)) (fun i => 8 - i) 0 (by simp) (by (simp (disch := omega) [wk, wkT, wkM, noF, isF, get, z0h, belowM, below, belows, I64, I32, Bv, U8, Sv, z0i] <;> try omega)) ?_
  rintro i ⟨hi, g1, g2, g3, g4, g5, g6, g7, g8⟩
  have hc : i = 0 ∨ i = 1 ∨ i = 2 ∨ i = 3 ∨ i = 4 ∨ i = 5 ∨ i = 6 ∨ i = 7 ∨ i = 8 := by omega
  rcases hc with rfl | rfl | rfl | rfl | rfl | rfl | rfl | rfl | rfl
  · cases b1
    · repeat' first | refine z06 (h1) ?_ ?_ | simp (maxSteps := 4000000) (disch := omega) only [bunL, bunD, bun, ↓z04, ↓z01, z02, findLabel, ↓reduceIte, imp, shift, z0b, z0a, unown, names, z07, below, noF, isF, z03, z09, z08, ren, givL, updM, z0c, renO, belowM, seval, -Int.reduceToNat, B3, B4, D89, bunN, Int.reduceToNat, tbB2, List.map_nil, List.nil_append, z0d, z0u, z1f, z0p, cl_i, cl_s, cl_b, ca_i, ca_s, ca_b] | exact z0f _ | refine z0e _ _ ?_ | exact Cln.cl | refine z05 _ ?_ | refine z00 _ _ ?_ ?_ | refine DR_q _ ?_ | (refine Fk.fk ?_ ?_ <;> intro hg <;> (try simp only [hg]) <;> (try simp only [bunB] at hg) <;> try (exfalso; first | omega | exact Bool.noConfusion hg | exact hg trivial)) | refine And.intro (by omega) ?_ | omega
      all_goals exact ⟨1, ⟨by omega, by simp, by simp, by simp, by simp, by simp, by simp, by simp, by simp⟩, by omega, by (simp (disch := omega) [wk, wkT, wkM, noF, isF, get, z0h, belowM, below, belows, I64, I32, Bv, U8, Sv, z0i] <;> try omega)⟩
    · repeat' first | refine z06 (h1) ?_ ?_ | simp (maxSteps := 4000000) (disch := omega) only [bunL, bunD, bun, ↓z04, ↓z01, z02, findLabel, ↓reduceIte, imp, shift, z0b, z0a, unown, names, z07, below, noF, isF, z03, z09, z08, ren, givL, updM, z0c, renO, belowM, seval, -Int.reduceToNat, z2f, B3, B4, D89, bunN, Int.reduceToNat, tbB2, List.map_nil, List.nil_append, z0d, z0u, z1f, z0p, cl_i, cl_s, cl_b, ca_i, ca_s, ca_b] | exact z0f _ | refine z0e _ _ ?_ | exact Cln.cl | refine z05 _ ?_ | refine z00 _ _ ?_ ?_ | refine DR_q _ ?_ | (refine Fk.fk ?_ ?_ <;> intro hg <;> (try simp only [hg]) <;> (try simp only [bunB] at hg) <;> try (exfalso; first | omega | exact Bool.noConfusion hg | exact hg trivial)) | refine And.intro (by omega) ?_ | omega
      all_goals trace_state
  · have q1 := g1 (by omega)
    subst q1
    cases b2
    · repeat' first | refine z06 (h2) ?_ ?_ | simp (maxSteps := 4000000) (disch := omega) only [bunL, bunD, bun, ↓z04, ↓z01, z02, findLabel, ↓reduceIte, imp, shift, z0b, z0a, unown, names, z07, below, noF, isF, z03, z09, z08, ren, givL, updM, z0c, renO, belowM, seval, -Int.reduceToNat, B3, B4, D89, bunN, Int.reduceToNat, tbB2, List.map_nil, List.nil_append, z0d, z0u, z1f, z0p, cl_i, cl_s, cl_b, ca_i, ca_s, ca_b] | exact z0f _ | refine z0e _ _ ?_ | exact Cln.cl | refine z05 _ ?_ | refine z00 _ _ ?_ ?_ | refine DR_q _ ?_ | (refine Fk.fk ?_ ?_ <;> intro hg <;> (try simp only [hg]) <;> (try simp only [bunB] at hg) <;> try (exfalso; first | omega | exact Bool.noConfusion hg | exact hg trivial)) | refine And.intro (by omega) ?_ | omega
      all_goals exact ⟨2, ⟨by omega, by simp, by simp, by simp, by simp, by simp, by simp, by simp, by simp⟩, by omega, by (simp (disch := omega) [wk, wkT, wkM, noF, isF, get, z0h, belowM, below, belows, I64, I32, Bv, U8, Sv, z0i] <;> try omega)⟩
    · repeat' first | refine z06 (h2) ?_ ?_ | simp (maxSteps := 4000000) (disch := omega) only [bunL, bunD, bun, ↓z04, ↓z01, z02, findLabel, ↓reduceIte, imp, shift, z0b, z0a, unown, names, z07, below, noF, isF, z03, z09, z08, ren, givL, updM, z0c, renO, belowM, seval, -Int.reduceToNat, z2f, B3, B4, D89, bunN, Int.reduceToNat, tbB2, List.map_nil, List.nil_append, z0d, z0u, z1f, z0p, cl_i, cl_s, cl_b, ca_i, ca_s, ca_b] | exact z0f _ | refine z0e _ _ ?_ | exact Cln.cl | refine z05 _ ?_ | refine z00 _ _ ?_ ?_ | refine DR_q _ ?_ | (refine Fk.fk ?_ ?_ <;> intro hg <;> (try simp only [hg]) <;> (try simp only [bunB] at hg) <;> try (exfalso; first | omega | exact Bool.noConfusion hg | exact hg trivial)) | refine And.intro (by omega) ?_ | omega
      all_goals trace_state
  · have q1 := g1 (by omega)
    subst q1
    have q2 := g2 (by omega)
    subst q2
    cases b3
    · repeat' first | refine z06 (h3) ?_ ?_ | simp (maxSteps := 4000000) (disch := omega) only [bunL, bunD, bun, ↓z04, ↓z01, z02, findLabel, ↓reduceIte, imp, shift, z0b, z0a, unown, names, z07, below, noF, isF, z03, z09, z08, ren, givL, updM, z0c, renO, belowM, seval, -Int.reduceToNat, B3, B4, D89, bunN, Int.reduceToNat, tbB2, List.map_nil, List.nil_append, z0d, z0u, z1f, z0p, cl_i, cl_s, cl_b, ca_i, ca_s, ca_b] | exact z0f _ | refine z0e _ _ ?_ | exact Cln.cl | refine z05 _ ?_ | refine z00 _ _ ?_ ?_ | refine DR_q _ ?_ | (refine Fk.fk ?_ ?_ <;> intro hg <;> (try simp only [hg]) <;> (try simp only [bunB] at hg) <;> try (exfalso; first | omega | exact Bool.noConfusion hg | exact hg trivial)) | refine And.intro (by omega) ?_ | omega
      all_goals exact ⟨3, ⟨by omega, by simp, by simp, by simp, by simp, by simp, by simp, by simp, by simp⟩, by omega, by (simp (disch := omega) [wk, wkT, wkM, noF, isF, get, z0h, belowM, below, belows, I64, I32, Bv, U8, Sv, z0i] <;> try omega)⟩
    · repeat' first | refine z06 (h3) ?_ ?_ | simp (maxSteps := 4000000) (disch := omega) only [bunL, bunD, bun, ↓z04, ↓z01, z02, findLabel, ↓reduceIte, imp, shift, z0b, z0a, unown, names, z07, below, noF, isF, z03, z09, z08, ren, givL, updM, z0c, renO, belowM, seval, -Int.reduceToNat, z2f, B3, B4, D89, bunN, Int.reduceToNat, tbB2, List.map_nil, List.nil_append, z0d, z0u, z1f, z0p, cl_i, cl_s, cl_b, ca_i, ca_s, ca_b] | exact z0f _ | refine z0e _ _ ?_ | exact Cln.cl | refine z05 _ ?_ | refine z00 _ _ ?_ ?_ | refine DR_q _ ?_ | (refine Fk.fk ?_ ?_ <;> intro hg <;> (try simp only [hg]) <;> (try simp only [bunB] at hg) <;> try (exfalso; first | omega | exact Bool.noConfusion hg | exact hg trivial)) | refine And.intro (by omega) ?_ | omega
      all_goals trace_state
  · have q1 := g1 (by omega)
    subst q1
    have q2 := g2 (by omega)
    subst q2
    have q3 := g3 (by omega)
    subst q3
    have h4 := h4 rfl rfl
    cases b4
    · repeat' first | refine z06 (h4) ?_ ?_ | simp (maxSteps := 4000000) (disch := omega) only [bunL, bunD, bun, ↓z04, ↓z01, z02, findLabel, ↓reduceIte, imp, shift, z0b, z0a, unown, names, z07, below, noF, isF, z03, z09, z08, ren, givL, updM, z0c, renO, belowM, seval, -Int.reduceToNat, B3, B4, D89, bunN, Int.reduceToNat, tbB2, List.map_nil, List.nil_append, z0d, z0u, z1f, z0p, cl_i, cl_s, cl_b, ca_i, ca_s, ca_b] | exact z0f _ | refine z0e _ _ ?_ | exact Cln.cl | refine z05 _ ?_ | refine z00 _ _ ?_ ?_ | refine DR_q _ ?_ | (refine Fk.fk ?_ ?_ <;> intro hg <;> (try simp only [hg]) <;> (try simp only [bunB] at hg) <;> try (exfalso; first | omega | exact Bool.noConfusion hg | exact hg trivial)) | refine And.intro (by omega) ?_ | omega
      all_goals exact ⟨4, ⟨by omega, by simp, by simp, by simp, by simp, by simp, by simp, by simp, by simp⟩, by omega, by (simp (disch := omega) [wk, wkT, wkM, noF, isF, get, z0h, belowM, below, belows, I64, I32, Bv, U8, Sv, z0i] <;> try omega)⟩
    · repeat' first | refine z06 (h4) ?_ ?_ | simp (maxSteps := 4000000) (disch := omega) only [bunL, bunD, bun, ↓z04, ↓z01, z02, findLabel, ↓reduceIte, imp, shift, z0b, z0a, unown, names, z07, below, noF, isF, z03, z09, z08, ren, givL, updM, z0c, renO, belowM, seval, -Int.reduceToNat, z2f, B3, B4, D89, bunN, Int.reduceToNat, tbB2, List.map_nil, List.nil_append, z0d, z0u, z1f, z0p, cl_i, cl_s, cl_b, ca_i, ca_s, ca_b] | exact z0f _ | refine z0e _ _ ?_ | exact Cln.cl | refine z05 _ ?_ | refine z00 _ _ ?_ ?_ | refine DR_q _ ?_ | (refine Fk.fk ?_ ?_ <;> intro hg <;> (try simp only [hg]) <;> (try simp only [bunB] at hg) <;> try (exfalso; first | omega | exact Bool.noConfusion hg | exact hg trivial)) | refine And.intro (by omega) ?_ | omega
      all_goals trace_state
  · have q1 := g1 (by omega)
    subst q1
    have q2 := g2 (by omega)
    subst q2
    have q3 := g3 (by omega)
    subst q3
    have q4 := g4 (by omega)
    subst q4
    cases b5
    · repeat' first | refine z06 (h5) ?_ ?_ | simp (maxSteps := 4000000) (disch := omega) only [bunL, bunD, bun, ↓z04, ↓z01, z02, findLabel, ↓reduceIte, imp, shift, z0b, z0a, unown, names, z07, below, noF, isF, z03, z09, z08, ren, givL, updM, z0c, renO, belowM, seval, -Int.reduceToNat, B3, B4, D89, bunN, Int.reduceToNat, tbB2, List.map_nil, List.nil_append, z0d, z0u, z1f, z0p, cl_i, cl_s, cl_b, ca_i, ca_s, ca_b] | exact z0f _ | refine z0e _ _ ?_ | exact Cln.cl | refine z05 _ ?_ | refine z00 _ _ ?_ ?_ | refine DR_q _ ?_ | (refine Fk.fk ?_ ?_ <;> intro hg <;> (try simp only [hg]) <;> (try simp only [bunB] at hg) <;> try (exfalso; first | omega | exact Bool.noConfusion hg | exact hg trivial)) | refine And.intro (by omega) ?_ | omega
      all_goals exact ⟨5, ⟨by omega, by simp, by simp, by simp, by simp, by simp, by simp, by simp, by simp⟩, by omega, by (simp (disch := omega) [wk, wkT, wkM, noF, isF, get, z0h, belowM, below, belows, I64, I32, Bv, U8, Sv, z0i] <;> try omega)⟩
    · repeat' first | refine z06 (h5) ?_ ?_ | simp (maxSteps := 4000000) (disch := omega) only [bunL, bunD, bun, ↓z04, ↓z01, z02, findLabel, ↓reduceIte, imp, shift, z0b, z0a, unown, names, z07, below, noF, isF, z03, z09, z08, ren, givL, updM, z0c, renO, belowM, seval, -Int.reduceToNat, z2f, B3, B4, D89, bunN, Int.reduceToNat, tbB2, List.map_nil, List.nil_append, z0d, z0u, z1f, z0p, cl_i, cl_s, cl_b, ca_i, ca_s, ca_b] | exact z0f _ | refine z0e _ _ ?_ | exact Cln.cl | refine z05 _ ?_ | refine z00 _ _ ?_ ?_ | refine DR_q _ ?_ | (refine Fk.fk ?_ ?_ <;> intro hg <;> (try simp only [hg]) <;> (try simp only [bunB] at hg) <;> try (exfalso; first | omega | exact Bool.noConfusion hg | exact hg trivial)) | refine And.intro (by omega) ?_ | omega
      all_goals trace_state
  · have q1 := g1 (by omega)
    subst q1
    have q2 := g2 (by omega)
    subst q2
    have q3 := g3 (by omega)
    subst q3
    have q4 := g4 (by omega)
    subst q4
    have q5 := g5 (by omega)
    subst q5
    cases b6
    · repeat' first | refine z06 (h6) ?_ ?_ | simp (maxSteps := 4000000) (disch := omega) only [bunL, bunD, bun, ↓z04, ↓z01, z02, findLabel, ↓reduceIte, imp, shift, z0b, z0a, unown, names, z07, below, noF, isF, z03, z09, z08, ren, givL, updM, z0c, renO, belowM, seval, -Int.reduceToNat, B3, B4, D89, bunN, Int.reduceToNat, tbB2, List.map_nil, List.nil_append, z0d, z0u, z1f, z0p, cl_i, cl_s, cl_b, ca_i, ca_s, ca_b] | exact z0f _ | refine z0e _ _ ?_ | exact Cln.cl | refine z05 _ ?_ | refine z00 _ _ ?_ ?_ | refine DR_q _ ?_ | (refine Fk.fk ?_ ?_ <;> intro hg <;> (try simp only [hg]) <;> (try simp only [bunB] at hg) <;> try (exfalso; first | omega | exact Bool.noConfusion hg | exact hg trivial)) | refine And.intro (by omega) ?_ | omega
      all_goals exact ⟨6, ⟨by omega, by simp, by simp, by simp, by simp, by simp, by simp, by simp, by simp⟩, by omega, by (simp (disch := omega) [wk, wkT, wkM, noF, isF, get, z0h, belowM, below, belows, I64, I32, Bv, U8, Sv, z0i] <;> try omega)⟩
    · repeat' first | refine z06 (h6) ?_ ?_ | simp (maxSteps := 4000000) (disch := omega) only [bunL, bunD, bun, ↓z04, ↓z01, z02, findLabel, ↓reduceIte, imp, shift, z0b, z0a, unown, names, z07, below, noF, isF, z03, z09, z08, ren, givL, updM, z0c, renO, belowM, seval, -Int.reduceToNat, z2f, B3, B4, D89, bunN, Int.reduceToNat, tbB2, List.map_nil, List.nil_append, z0d, z0u, z1f, z0p, cl_i, cl_s, cl_b, ca_i, ca_s, ca_b] | exact z0f _ | refine z0e _ _ ?_ | exact Cln.cl | refine z05 _ ?_ | refine z00 _ _ ?_ ?_ | refine DR_q _ ?_ | (refine Fk.fk ?_ ?_ <;> intro hg <;> (try simp only [hg]) <;> (try simp only [bunB] at hg) <;> try (exfalso; first | omega | exact Bool.noConfusion hg | exact hg trivial)) | refine And.intro (by omega) ?_ | omega
      all_goals trace_state
  · have q1 := g1 (by omega)
    subst q1
    have q2 := g2 (by omega)
    subst q2
    have q3 := g3 (by omega)
    subst q3
    have q4 := g4 (by omega)
    subst q4
    have q5 := g5 (by omega)
    subst q5
    have q6 := g6 (by omega)
    subst q6
    cases ok
    · repeat' first | refine z17 [3, 5, 6, 7] (h7) ?_ | simp (maxSteps := 4000000) (disch := omega) only [bunL, bunD, bun, ↓z04, ↓z01, z02, findLabel, ↓reduceIte, imp, shift, z0b, z0a, unown, names, z07, below, noF, isF, z03, z09, z08, ren, givL, updM, z0c, renO, belowM, seval, -Int.reduceToNat, z2f, Bool.not_false, B3, B4, D89, bunN, Int.reduceToNat, tbB2, List.map_nil, List.nil_append, z0d, z0u, z1f, z0p, cl_i, cl_s, cl_b, ca_i, ca_s, ca_b] | exact z0f _ | refine z0e _ _ ?_ | exact Cln.cl | refine z05 _ ?_ | refine z00 _ _ ?_ ?_ | refine DR_q _ ?_ | (refine Fk.fk ?_ ?_ <;> intro hg <;> (try simp only [hg]) <;> (try simp only [bunB] at hg) <;> try (exfalso; first | omega | exact Bool.noConfusion hg | exact hg trivial)) | refine And.intro (by omega) ?_ | omega
      all_goals trace_state
    · repeat' first | refine z17 [3, 5, 6, 7] (h7) ?_ | simp (maxSteps := 4000000) (disch := omega) only [bunL, bunD, bun, ↓z04, ↓z01, z02, findLabel, ↓reduceIte, imp, shift, z0b, z0a, unown, names, z07, below, noF, isF, z03, z09, z08, ren, givL, updM, z0c, renO, belowM, seval, -Int.reduceToNat, Bool.not_true, B3, B4, D89, bunN, Int.reduceToNat, tbB2, List.map_nil, List.nil_append, z0d, z0u, z1f, z0p, cl_i, cl_s, cl_b, ca_i, ca_s, ca_b] | exact z0f _ | refine z0e _ _ ?_ | exact Cln.cl | refine z05 _ ?_ | refine z00 _ _ ?_ ?_ | refine DR_q _ ?_ | (refine Fk.fk ?_ ?_ <;> intro hg <;> (try simp only [hg]) <;> (try simp only [bunB] at hg) <;> try (exfalso; first | omega | exact Bool.noConfusion hg | exact hg trivial)) | refine And.intro (by omega) ?_ | omega
      all_goals exact ⟨7, ⟨by omega, by simp, by simp, by simp, by simp, by simp, by simp, by simp, by simp⟩, by omega, by (simp (disch := omega) [wk, wkT, wkM, noF, isF, get, z0h, belowM, below, belows, I64, I32, Bv, U8, Sv, z0i] <;> try omega)⟩
  · have q1 := g1 (by omega)
    subst q1
    have q2 := g2 (by omega)
    subst q2
    have q3 := g3 (by omega)
    subst q3
    have q4 := g4 (by omega)
    subst q4
    have q5 := g5 (by omega)
    subst q5
    have q6 := g6 (by omega)
    subst q6
    have q7 := g7 (by omega)
    subst q7
    cases b8
    · repeat' first | refine z06 (h8) ?_ ?_ | simp (maxSteps := 4000000) (disch := omega) only [bunL, bunD, bun, ↓z04, ↓z01, z02, findLabel, ↓reduceIte, imp, shift, z0b, z0a, unown, names, z07, below, noF, isF, z03, z09, z08, ren, givL, updM, z0c, renO, belowM, seval, -Int.reduceToNat, B3, B4, D89, bunN, Int.reduceToNat, tbB2, List.map_nil, List.nil_append, z0d, z0u, z1f, z0p, cl_i, cl_s, cl_b, ca_i, ca_s, ca_b] | exact z0f _ | refine z0e _ _ ?_ | exact Cln.cl | refine z05 _ ?_ | refine z00 _ _ ?_ ?_ | refine DR_q _ ?_ | (refine Fk.fk ?_ ?_ <;> intro hg <;> (try simp only [hg]) <;> (try simp only [bunB] at hg) <;> try (exfalso; first | omega | exact Bool.noConfusion hg | exact hg trivial)) | refine And.intro (by omega) ?_ | omega
      all_goals exact ⟨8, ⟨by omega, by simp, by simp, by simp, by simp, by simp, by simp, by simp, by simp⟩, by omega, by (simp (disch := omega) [wk, wkT, wkM, noF, isF, get, z0h, belowM, below, belows, I64, I32, Bv, U8, Sv, z0i] <;> try omega)⟩
    · repeat' first | refine z06 (h8) ?_ ?_ | simp (maxSteps := 4000000) (disch := omega) only [bunL, bunD, bun, ↓z04, ↓z01, z02, findLabel, ↓reduceIte, imp, shift, z0b, z0a, unown, names, z07, below, noF, isF, z03, z09, z08, ren, givL, updM, z0c, renO, belowM, seval, -Int.reduceToNat, z2f, B3, B4, D89, bunN, Int.reduceToNat, tbB2, List.map_nil, List.nil_append, z0d, z0u, z1f, z0p, cl_i, cl_s, cl_b, ca_i, ca_s, ca_b] | exact z0f _ | refine z0e _ _ ?_ | exact Cln.cl | refine z05 _ ?_ | refine z00 _ _ ?_ ?_ | refine DR_q _ ?_ | (refine Fk.fk ?_ ?_ <;> intro hg <;> (try simp only [hg]) <;> (try simp only [bunB] at hg) <;> try (exfalso; first | omega | exact Bool.noConfusion hg | exact hg trivial)) | refine And.intro (by omega) ?_ | omega
      all_goals trace_state
  · have q1 := g1 (by omega)
    have q2 := g2 (by omega)
    have q3 := g3 (by omega)
    have q4 := g4 (by omega)
    have q5 := g5 (by omega)
    have q6 := g6 (by omega)
    have q7 := g7 (by omega)
    have q8 := g8 (by omega)
    subst q1 q2 q3 q4 q5 q6 q7 q8
    repeat' first | simp (maxSteps := 4000000) (disch := omega) only [bunL, bunD, bun, ↓z04, ↓z01, z02, findLabel, ↓reduceIte, imp, shift, z0b, z0a, unown, names, z07, below, noF, isF, z03, z09, z08, ren, givL, updM, z0c, renO, belowM, seval, -Int.reduceToNat, z2f, B3, B4, D89, bunN, Int.reduceToNat, tbB2, List.map_nil, List.nil_append, z0d, z0u, z1f, z0p, cl_i, cl_s, cl_b, ca_i, ca_s, ca_b] | refine DR_q _ ?_ | (refine Fk.fk ?_ ?_ <;> intro hg <;> (try simp only [hg]) <;> (try simp only [bunB] at hg) <;> try (exfalso; first | omega | exact Bool.noConfusion hg | exact hg trivial)) | refine And.intro (by omega) ?_ | omega
    all_goals trace_state
theorem rune_ne {s : List UInt8} (h1 : ¬ 0 ≤ (runes s).2) (h2 : 0 ≤ eight s) : 0 < (runes s).1.length := by
  refine Nat.pos_of_ne_zero fun e => ?_
  have hb := z4v s
  have ha : (runes s).2 = -1 := (z7i s).resolve_right h1
  rw [ha, z4a, List.take_length] at hb
  have : (runes s).1 = [] := List.eq_nil_of_length_eq_zero e
  rw [this] at hb
  exact zhp h2 (by rw [← hb.2.1]; rfl)
theorem z74 (s : List UInt8) (hs : s.length ≤ 10000000) (hl : (runes s).1.length ≤ 1000) : Spec Tryz.prog 14 [tab, Sv s] (I64 (za4 s)) := by
  have hr := zb5 s
  have hi : ∀ c ∈ (runes s).1, inI c := fun c hc => by have := hr c hc; unfold okR at this; unfold inI; omega
  have hpl := pnS_len (runes s).1 hl
  have hu := z2d s (by omega)
  have hf := zp2 s (pnS (runes s).1) (runes s).1 (runes s).2 (z1m (runes s).1) _ _ _ _ _ _ _ (wq1 (runes s).2) (wq2 s hs (by omega)) (wq3 s hs)
    (fun h1 h2 => wq4 (runes s).1 (rune_ne (by simpa using h1) (by
      unfold codB at h2
      rw [Bool.or_eq_false_iff] at h2
      have := h2.1
      simp only [decide_eq_false_iff_not] at this
      omega))) (wq5 (runes s).1 hl hi) (wq6 (runes s).1 hl) (wq7 (runes s).1 hl) (wq8 (pnS (runes s).1) (by omega))
  have e : za4 s = z2f [(decide (0 ≤ (runes s).2), 7), (codB s, 4), (z9w s, 11), (cat ((runes s).1.getD 0 0) == 4, 10), (strL (runes s).1, 8), (hasB (runes s).1 && !zq2 (runes s).1, 9),
    (!z1m (runes s).1, 12), (decide (63 < 4 + (pnS (runes s).1).length), 5)] := rfl
  rw [← e] at hf
  rw [← z0l]
  refine z0g (z := false) (ts := [.tmp 4]) ok1 Tryz.func14 rfl rfl (by decide +kernel) (by simp [Tryz.ntmps14]) rfl ?_
  generalize za4 s = wv at *
  generalize pnS (runes s).1 = P at *
  generalize z1m (runes s).1 = ok at *
  clear e hpl hr hi
  generalize (runes s).1 = L at *
  generalize (runes s).2 = a at *
  repeat' first | refine z06 (hu) ?_ ?_ | refine z17 [7, 0, 1, 3, 4, 5, 6, 2] (hf) ?_ | simp (maxSteps := 4000000) (disch := omega) only [bunL, bunD, bun, ↓z04, ↓z01, z02, findLabel, ↓reduceIte, imp, shift, z0b, z0a, unown, names, z07, below, noF, isF, z03, z09, z08, ren, givL, updM, z0c, renO, belowM, seval, -Int.reduceToNat, z0t, B9, D29, B21, B41, D89, bunN, Int.reduceToNat, tbB2, List.map_nil, List.nil_append, z0d, z0u, z1f, z0p, cl_i, cl_s, cl_b, ca_i, ca_s, ca_b] | exact z0f _ | refine z0e _ _ ?_ | exact Cln.cl | refine z05 _ ?_ | refine z00 _ _ ?_ ?_ | refine DR_q _ ?_ | (refine Fk.fk ?_ ?_ <;> intro hg <;> (try simp only [hg]) <;> (try simp only [bunB] at hg) <;> try (exfalso; first | omega | exact Bool.noConfusion hg | exact hg trivial)) | refine And.intro (by omega) ?_ | omega
  all_goals trace_state
end Go.AE
end
section
namespace Go.AE
open Go.Proofs
set_option maxRecDepth 20000
set_option maxHeartbeats 8000000
set_option linter.unusedSimpArgs false
theorem zvb (s : ByteArray) (i : Nat) (h : 128 ≤ (s.get! i).toNat) : 128 ≤ (Utf8.decode s i).1 := by
  unfold Utf8.decode Utf8.runeError
  simp only [Nat.add_zero]
  rw [if_neg (by omega)]
  repeat' split
  all_goals first | omega | (dsimp only; omega) | (simp only [Bool.and_eq_true, decide_eq_true_eq] at *; omega)
def othI (r : Int) : Bool := !((decide (97 ≤ r) && decide (r ≤ 122)) || (decide (65 ≤ r) && decide (r ≤ 90)) || (decide (48 ≤ r) && decide (r ≤ 57)) || r == 45)
theorem zn8 (c : UInt8) : othI (c.toNat : Int) = !ldh c := by
  unfold othI ldh
  congr 1
  rw [Bool.eq_iff_iff]
  simp only [Bool.or_eq_true, Bool.and_eq_true, decide_eq_true_eq, beq_iff_eq]
  have e : c = 45 ↔ c.toNat = 45 := ⟨fun h => by rw [h]; rfl, fun h => UInt8.toNat.inj (by rw [h]; rfl)⟩
  rw [e]
  omega
theorem othI_big {r : Int} (h : 128 ≤ r) : othI r = true := by
  unfold othI
  simp only [Bool.not_eq_true', Bool.or_eq_false_iff, Bool.and_eq_false_iff, decide_eq_false_iff_not, beq_eq_false_iff_ne]
  omega
theorem zwe (r : Int) : Spec Tryz.prog 49 [I32 r] (Bv (othI r)) := by
  refine z0g (z := false) (ts := [.tmp 2]) ok1 Tryz.func49 rfl rfl (by decide +kernel) (by simp [Tryz.ntmps49]) rfl ?_
  cases h : othI r
  all_goals
    unfold othI at h
    simp only [Bool.not_eq_true', Bool.not_eq_false', Bool.or_eq_false_iff, Bool.and_eq_false_iff, Bool.or_eq_true, Bool.and_eq_true, decide_eq_true_eq, decide_eq_false_iff_not, beq_iff_eq, beq_eq_false_iff_ne] at h
    repeat' first | simp (maxSteps := 4000000) (disch := omega) only [bunL, bunD, bun, ↓z04, ↓z01, z02, findLabel, ↓reduceIte, imp, shift, z0b, z0a, unown, names, z07, below, noF, isF, z03, z09, z08, ren, givL, updM, z0c, renO, belowM, seval, -Int.reduceToNat, B4, B21, bunN, Int.reduceToNat, tbB2, List.map_nil, List.nil_append, z0d] | refine DR_q _ ?_ | (refine Fk.fk ?_ ?_ <;> intro hg <;> (try simp only [hg]) <;> (try simp only [bunB] at hg) <;> try (exfalso; first | omega | exact Bool.noConfusion hg | exact hg trivial)) | refine And.intro (by omega) ?_ | omega
    all_goals first | omega | trace_state
def decU (s : List UInt8) (k : Nat) : Int × Nat := (((Utf8.decode ⟨s.toArray⟩ k).1 : Int), (Utf8.decode ⟨s.toArray⟩ k).2)
theorem zk9 (s : List UInt8) (k : Nat) : (ByteArray.mk s.toArray).get! k = s.getD k 0 := by
  show s.toArray[k]! = s.getD k 0
  rw [List.getElem!_toArray, List.getElem!_eq_getElem?_getD]
  simp only [List.getD]; rfl
theorem dec_ldh {s : List UInt8} {k : Nat} (hk : k < s.length) (h : othI (decU s k).1 = false) : ldh (s.getD k 0) = true ∧ (decU s k).2 = 1 := by
  by_cases hb : 128 ≤ (s.getD k 0).toNat
  · have := zvb ⟨s.toArray⟩ k (by rw [zk9]; exact hb)
    rw [othI_big (show (128 : Int) ≤ (decU s k).1 by unfold decU; dsimp only; omega)] at h
    cases h
  · have hd : Utf8.decode ⟨s.toArray⟩ k = ((s.getD k 0).toNat, 1) := by
      unfold Utf8.decode
      simp only [Nat.add_zero, zk9]
      rw [if_pos (by omega)]
    unfold decU at h ⊢
    rw [hd] at h ⊢
    dsimp only at h ⊢
    rw [zn8] at h
    exact ⟨by simpa using h, rfl⟩
theorem dec_bad {s : List UInt8} {k : Nat} (hk : k < s.length) (h : othI (decU s k).1 = true) : ldh (s.getD k 0) = false := by
  cases hl : ldh (s.getD k 0) with
  | false => rfl
  | true =>
    have hs := zmo hl
    have hd : Utf8.decode ⟨s.toArray⟩ k = ((s.getD k 0).toNat, 1) := by
      unfold Utf8.decode
      simp only [Nat.add_zero, zk9]
      rw [if_pos (by omega)]
    unfold decU at h
    rw [hd] at h
    dsimp only at h
    rw [zn8, hl] at h
    cases h
def badI (s : List UInt8) : Int := if s.all ldh then -1 else (s.findIdx fun c => !ldh c : Nat)
theorem badI_hit {s : List UInt8} {k : Nat} (hk : k < s.length) (h : ldh (s.getD k 0) = false) (ha : ∀ j, j < k → ldh (s.getD j 0) = true) : badI s = k := by
  have h1 := (zk5 (l := s) (d := 0) (p := fun c => !ldh c) (i := k) (fun j hj => by rw [ha j hj]; rfl) hk (by rw [h]; rfl)).1
  have h2 : s.all ldh = false := by
    rw [List.all_eq_false]
    exact ⟨s.getD k 0, by simp [List.getD, hk], by rw [h]; simp⟩
  unfold badI
  rw [h2, h1]; rfl
theorem badI_miss {s : List UInt8} (ha : ∀ j, j < s.length → ldh (s.getD j 0) = true) : badI s = -1 ∧ s.all ldh = true := by
  have h2 : s.all ldh = true := List.all_eq_true.2 fun c hc => by
    obtain ⟨j, hj, e⟩ := List.getElem_of_mem hc
    have := ha j hj
    rwa [show s.getD j 0 = c by simp [List.getD, hj, e]] at this
  unfold badI
  rw [h2]; exact ⟨rfl, rfl⟩
theorem badI_neg (s : List UInt8) : decide (badI s ≥ 0) = !s.all ldh := by
  unfold badI
  cases s.all ldh
  · simp
  · rfl
theorem zpe (s : List UInt8) (hs : s.length ≤ 10000000) : Spec Tryz.prog 95 [Sv s, .fn 49 [] [], Bv true] (I64 (badI s)) := by
  refine z0g (z := false) (ts := [.tmp 6]) ok1 Tryz.func95 rfl rfl (by decide +kernel) (by simp [Tryz.ntmps95]) rfl ?_
  repeat' first | simp (maxSteps := 4000000) (disch := omega) only [bunL, bunD, bun, ↓z04, ↓z01, z02, findLabel, ↓reduceIte, imp, shift, z0b, z0a, unown, names, z07, below, noF, isF, z03, z09, z08, ren, givL, updM, z0c, renO, belowM, seval, -Int.reduceToNat, B3, B4, B9, B21, B66, bunN, Int.reduceToNat, tbB2, List.map_nil, List.nil_append, z0d] | refine DR_q _ ?_ | (refine Fk.fk ?_ ?_ <;> intro hg <;> (try simp only [hg]) <;> (try simp only [bunB] at hg) <;> try (exfalso; first | omega | exact Bool.noConfusion hg | exact hg trivial)) | refine And.intro (by omega) ?_ | omega
  refine z0m (fun k : Nat => ⟨[(1, .fn 49 [] []), (2, Bv true), (10, .ptr 0 0)], [.it s k]⟩) (fun k => k ≤ s.length ∧ ∀ j, j < k → ldh (s.getD j 0) = true) (fun k => s.length - k) 0 (by simp) (by simp [wk, wkT, wkM, noF, isF, get, z0h, belowM, below, belows, I64, I32, Bv, U8, Sv] <;> try omega) ?_
  rintro k ⟨hk, ha⟩
  by_cases hlt : k < s.length
  · have ho := zwe (decU s k).1
    cases hq : othI (decU s k).1 with
    | true =>
      rw [hq] at ho
      have e := badI_hit hlt (dec_bad hlt hq) ha
      unfold decU at ho
      repeat' first | refine z06 (ho) ?_ ?_ | simp (maxSteps := 4000000) (disch := omega) only [bunL, bunD, bun, ↓z04, ↓z01, z02, findLabel, ↓reduceIte, imp, shift, z0b, z0a, unown, names, z07, below, noF, isF, z03, z09, z08, ren, givL, updM, z0c, renO, belowM, seval, -Int.reduceToNat, e, B3, B4, B9, B21, B66, bunN, Int.reduceToNat, tbB2, List.map_nil, List.nil_append, z0d] | exact z0f _ | refine z0e _ _ ?_ | exact Cln.cl | refine z05 _ ?_ | refine z00 _ _ ?_ ?_ | refine DR_q _ ?_ | (refine Fk.fk ?_ ?_ <;> intro hg <;> (try simp only [hg]) <;> (try simp only [bunB] at hg) <;> try (exfalso; first | omega | exact Bool.noConfusion hg | exact hg trivial)) | refine And.intro (by omega) ?_ | omega
      all_goals trace_state
    | false =>
      obtain ⟨q1, q2⟩ := dec_ldh hlt hq
      rw [hq] at ho
      unfold decU at ho q2
      dsimp only at ho q2
      repeat' first | refine z06 (ho) ?_ ?_ | simp (maxSteps := 4000000) (disch := omega) only [bunL, bunD, bun, ↓z04, ↓z01, z02, findLabel, ↓reduceIte, imp, shift, z0b, z0a, unown, names, z07, below, noF, isF, z03, z09, z08, ren, givL, updM, z0c, renO, belowM, seval, -Int.reduceToNat, q2, B3, B4, B9, B21, B66, bunN, Int.reduceToNat, tbB2, List.map_nil, List.nil_append, z0d] | exact z0f _ | refine z0e _ _ ?_ | exact Cln.cl | refine z05 _ ?_ | refine z00 _ _ ?_ ?_ | refine DR_q _ ?_ | (refine Fk.fk ?_ ?_ <;> intro hg <;> (try simp only [hg]) <;> (try simp only [bunB] at hg) <;> try (exfalso; first | omega | exact Bool.noConfusion hg | exact hg trivial)) | refine And.intro (by omega) ?_ | omega
      refine ⟨k + 1, ⟨by omega, fun j hj => ?_⟩, by omega, (by simp [wk, wkT, wkM, noF, isF, get, z0h, belowM, below, belows, I64, I32, Bv, U8, Sv] <;> try omega)⟩
      by_cases hj2 : j = k
      · subst hj2; exact q1
      · exact ha j (by omega)
  · have e := (badI_miss fun j hj => ha j (by omega)).1
    repeat' first | simp (maxSteps := 4000000) (disch := omega) only [bunL, bunD, bun, ↓z04, ↓z01, z02, findLabel, ↓reduceIte, imp, shift, z0b, z0a, unown, names, z07, below, noF, isF, z03, z09, z08, ren, givL, updM, z0c, renO, belowM, seval, -Int.reduceToNat, e, B3, B4, B9, B21, B66, bunN, Int.reduceToNat, tbB2, List.map_nil, List.nil_append, z0d] | refine DR_q _ ?_ | (refine Fk.fk ?_ ?_ <;> intro hg <;> (try simp only [hg]) <;> (try simp only [bunB] at hg) <;> try (exfalso; first | omega | exact Bool.noConfusion hg | exact hg trivial)) | refine And.intro (by omega) ?_ | omega
    all_goals trace_state
end Go.AE
end
section
namespace Go.AE
open Go.Proofs
set_option maxRecDepth 20000
set_option maxHeartbeats 8000000
set_option linter.unusedSimpArgs false
theorem idxF_spec (s : List UInt8) (hs : s.length ≤ 10000000) : Spec Tryz.prog 76 [Sv s, .fn 49 [] []] (I64 (badI s)) := by
  have h := zpe s hs
  refine z0g (z := false) (ts := [.tmp 4]) ok1 Tryz.func76 rfl rfl (by decide +kernel) (by simp [Tryz.ntmps76]) rfl ?_
  repeat' first | refine z06 (h) ?_ ?_ | simp (maxSteps := 4000000) (disch := omega) only [bunL, bunD, bun, ↓z04, ↓z01, z02, findLabel, ↓reduceIte, imp, shift, z0b, z0a, unown, names, z07, below, noF, isF, z03, z09, z08, ren, givL, updM, z0c, renO, belowM, seval, -Int.reduceToNat, B3, B4, B9, B66, bunN, Int.reduceToNat, tbB2, List.map_nil, List.nil_append, z0d] | exact z0f _ | refine z0e _ _ ?_ | exact Cln.cl | refine z05 _ ?_ | refine z00 _ _ ?_ ?_ | refine DR_q _ ?_ | (refine Fk.fk ?_ ?_ <;> intro hg <;> (try simp only [hg]) <;> (try simp only [bunB] at hg) <;> try (exfalso; first | omega | exact Bool.noConfusion hg | exact hg trivial)) | refine And.intro (by omega) ?_ | omega
theorem conF_spec (s : List UInt8) (hs : s.length ≤ 10000000) : Spec Tryz.prog 48 [Sv s, .fn 49 [] []] (Bv (!s.all ldh)) := by
  have h := idxF_spec s hs
  refine z0g (z := false) (ts := [.tmp 4]) ok1 Tryz.func48 rfl rfl (by decide +kernel) (by simp [Tryz.ntmps48]) rfl ?_
  rw [← badI_neg]
  repeat' first | refine z06 (h) ?_ ?_ | simp (maxSteps := 4000000) (disch := omega) only [bunL, bunD, bun, ↓z04, ↓z01, z02, findLabel, ↓reduceIte, imp, shift, z0b, z0a, unown, names, z07, below, noF, isF, z03, z09, z08, ren, givL, updM, z0c, renO, belowM, seval, -Int.reduceToNat, B3, B4, B9, B66, bunN, Int.reduceToNat, tbB2, List.map_nil, List.nil_append, z0d] | exact z0f _ | refine z0e _ _ ?_ | exact Cln.cl | refine z05 _ ?_ | refine z00 _ _ ?_ ?_ | refine DR_q _ ?_ | (refine Fk.fk ?_ ?_ <;> intro hg <;> (try simp only [hg]) <;> (try simp only [bunB] at hg) <;> try (exfalso; first | omega | exact Bool.noConfusion hg | exact hg trivial)) | refine And.intro (by omega) ?_ | omega
theorem pq1 (s : List UInt8) : Spec Tryz.prog 45 [.cp [Sv s]] (Bv (decide (s = []))) := by
  refine z0g (z := false) (ts := [.tmp 1]) ok1 Tryz.func45 rfl rfl (by decide +kernel) (by simp [Tryz.ntmps45]) rfl ?_
  have e : decide (s = []) = (s == []) := by cases s <;> rfl
  rw [e]
  repeat' first | simp (maxSteps := 4000000) (disch := omega) only [bunL, bunD, bun, ↓z04, ↓z01, z02, findLabel, ↓reduceIte, imp, shift, z0b, z0a, unown, names, z07, below, noF, isF, z03, z09, z08, ren, givL, updM, z0c, renO, belowM, seval, -Int.reduceToNat, B4, B9, bunN, Int.reduceToNat, tbB2, List.map_nil, List.nil_append, z0d] | refine DR_q _ ?_ | (refine Fk.fk ?_ ?_ <;> intro hg <;> (try simp only [hg]) <;> (try simp only [bunB] at hg) <;> try (exfalso; first | omega | exact Bool.noConfusion hg | exact hg trivial)) | refine And.intro (by omega) ?_ | omega
  all_goals trace_state
theorem pq2 (s : List UInt8) (hs : s.length ≤ 10000000) : Spec Tryz.prog 46 [.cp [Sv s]] (Bv (decide (63 < s.length))) := by
  refine z0g (z := false) (ts := [.tmp 1]) ok1 Tryz.func46 rfl rfl (by decide +kernel) (by simp [Tryz.ntmps46]) rfl ?_
  have e : decide (63 < s.length) = decide ((s.length : Int) > 63) := by rw [Bool.eq_iff_iff]; simp only [decide_eq_true_eq]; omega
  rw [e]
  repeat' first | simp (maxSteps := 4000000) (disch := omega) only [bunL, bunD, bun, ↓z04, ↓z01, z02, findLabel, ↓reduceIte, imp, shift, z0b, z0a, unown, names, z07, below, noF, isF, z03, z09, z08, ren, givL, updM, z0c, renO, belowM, seval, -Int.reduceToNat, B3, B4, B9, bunN, Int.reduceToNat, tbB2, List.map_nil, List.nil_append, z0d] | refine DR_q _ ?_ | (refine Fk.fk ?_ ?_ <;> intro hg <;> (try simp only [hg]) <;> (try simp only [bunB] at hg) <;> try (exfalso; first | omega | exact Bool.noConfusion hg | exact hg trivial)) | refine And.intro (by omega) ?_ | omega
  all_goals trace_state
theorem pq3 (s : List UInt8) (hs : s.length ≤ 10000000) : Spec Tryz.prog 47 [.cp [Sv s]] (Bv (!s.all ldh)) := by
  have h := conF_spec s hs
  refine z0g (z := false) (ts := [.tmp 1]) ok1 Tryz.func47 rfl rfl (by decide +kernel) (by simp [Tryz.ntmps47]) rfl ?_
  repeat' first | refine z06 (h) ?_ ?_ | simp (maxSteps := 4000000) (disch := omega) only [bunL, bunD, bun, ↓z04, ↓z01, z02, findLabel, ↓reduceIte, imp, shift, z0b, z0a, unown, names, z07, below, noF, isF, z03, z09, z08, ren, givL, updM, z0c, renO, belowM, seval, -Int.reduceToNat, B4, B9, B66, bunN, Int.reduceToNat, tbB2, List.map_nil, List.nil_append, z0d] | exact z0f _ | refine z0e _ _ ?_ | exact Cln.cl | refine z05 _ ?_ | refine z00 _ _ ?_ ?_ | refine DR_q _ ?_ | (refine Fk.fk ?_ ?_ <;> intro hg <;> (try simp only [hg]) <;> (try simp only [bunB] at hg) <;> try (exfalso; first | omega | exact Bool.noConfusion hg | exact hg trivial)) | refine And.intro (by omega) ?_ | omega
theorem pq4 (s : List UInt8) (hs : s.length ≤ 10000000) : Spec Tryz.prog 50 [.cp [Sv s]] (Bv (z9w s)) := by
  have h := zdu s hs
  refine z0g (z := false) (ts := [.tmp 1]) ok1 Tryz.func50 rfl rfl (by decide +kernel) (by simp [Tryz.ntmps50]) rfl ?_
  repeat' first | refine z06 (h) ?_ ?_ | simp (maxSteps := 4000000) (disch := omega) only [bunL, bunD, bun, ↓z04, ↓z01, z02, findLabel, ↓reduceIte, imp, shift, z0b, z0a, unown, names, z07, below, noF, isF, z03, z09, z08, ren, givL, updM, z0c, renO, belowM, seval, -Int.reduceToNat, B4, B9, bunN, Int.reduceToNat, tbB2, List.map_nil, List.nil_append, z0d] | exact z0f _ | refine z0e _ _ ?_ | exact Cln.cl | refine z05 _ ?_ | refine z00 _ _ ?_ ?_ | refine DR_q _ ?_ | (refine Fk.fk ?_ ?_ <;> intro hg <;> (try simp only [hg]) <;> (try simp only [bunB] at hg) <;> try (exfalso; first | omega | exact Bool.noConfusion hg | exact hg trivial)) | refine And.intro (by omega) ?_ | omega
theorem zp1 (s : List UInt8) (b1 b2 b3 b4 : Bool)
    (h1 : Spec Tryz.prog 45 [.cp [Sv s]] (Bv b1)) (h2 : Spec Tryz.prog 46 [.cp [Sv s]] (Bv b2)) (h3 : Spec Tryz.prog 47 [.cp [Sv s]] (Bv b3)) (h4 : Spec Tryz.prog 50 [.cp [Sv s]] (Bv b4)) :
    z5j Tryz.prog 30 [.row true 2 [I64 13, .fn 45 [] [.ptr 1 0], I64 5, .fn 46 [] [.ptr 1 0], I64 8, .fn 47 [] [.ptr 1 0], I64 11, .fn 50 [] [.ptr 1 0]], .row true 1 [Sv s]] [.ref 0 0 4]
      [.dead, .dead, .fence] (I64 (z2f [(b1, 13), (b2, 5), (b3, 8), (b4, 11)])) := by
  refine z3p (ts := [.tmp 2]) ok1 Tryz.func30 rfl rfl (by decide +kernel) (by simp [Tryz.ntmps30]) rfl ?_
  repeat' first | simp (maxSteps := 4000000) (disch := omega) only [bunL, bunD, bun, ↓z04, ↓z01, z02, findLabel, ↓reduceIte, imp, shift, z0b, z0a, unown, names, z07, below, noF, isF, z03, z09, z08, ren, givL, updM, z0c, renO, belowM, seval, -Int.reduceToNat, B3, B4, D89, bunN, Int.reduceToNat, tbB2, List.map_nil, List.nil_append, z0d] | refine DR_q _ ?_ | (refine Fk.fk ?_ ?_ <;> intro hg <;> (try simp only [hg]) <;> (try simp only [bunB] at hg) <;> try (exfalso; first | omega | exact Bool.noConfusion hg | exact hg trivial)) | refine And.intro (by omega) ?_ | omega
  refine z0m (fun i : Nat => ⟨[(5, .ref 0 0 4), (6, I64 4), (7, I64 i)], [.row true 2 [I64 13, .fn 45 [] [.ptr 1 0], I64 5, .fn 46 [] [.ptr 1 0], I64 8, .fn 47 [] [.ptr 1 0], I64 11, .fn 50 [] [.ptr 1 0]], .row true 1 [Sv s], .fence]⟩)
    (fun i => i ≤ 4 ∧ (0 < i → b1 = false) ∧ (1 < i → b2 = false) ∧ (2 < i → b3 = false) ∧ (3 < i → b4 = false)) (fun i => 4 - i) 0 (by simp) (by simp [wk, wkT, wkM, noF, isF, get, z0h, belowM, below, belows, I64, I32, Bv, U8, Sv] <;> try omega) ?_
  rintro i ⟨hi, g1, g2, g3, g4⟩
  have hc : i = 0 ∨ i = 1 ∨ i = 2 ∨ i = 3 ∨ i = 4 := by omega
  rcases hc with rfl | rfl | rfl | rfl | rfl
  · cases b1
    · repeat' first | refine z06 (h1) ?_ ?_ | simp (maxSteps := 4000000) (disch := omega) only [bunL, bunD, bun, ↓z04, ↓z01, z02, findLabel, ↓reduceIte, imp, shift, z0b, z0a, unown, names, z07, below, noF, isF, z03, z09, z08, ren, givL, updM, z0c, renO, belowM, seval, -Int.reduceToNat, B3, B4, D89, bunN, Int.reduceToNat, tbB2, List.map_nil, List.nil_append, z0d] | exact z0f _ | refine z0e _ _ ?_ | exact Cln.cl | refine z05 _ ?_ | refine z00 _ _ ?_ ?_ | refine DR_q _ ?_ | (refine Fk.fk ?_ ?_ <;> intro hg <;> (try simp only [hg]) <;> (try simp only [bunB] at hg) <;> try (exfalso; first | omega | exact Bool.noConfusion hg | exact hg trivial)) | refine And.intro (by omega) ?_ | omega
      all_goals exact ⟨1, ⟨by omega, by simp, by simp, by simp, by simp⟩, by omega, (by simp [wk, wkT, wkM, noF, isF, get, z0h, belowM, below, belows, I64, I32, Bv, U8, Sv] <;> try omega)⟩
    · repeat' first | refine z06 (h1) ?_ ?_ | simp (maxSteps := 4000000) (disch := omega) only [bunL, bunD, bun, ↓z04, ↓z01, z02, findLabel, ↓reduceIte, imp, shift, z0b, z0a, unown, names, z07, below, noF, isF, z03, z09, z08, ren, givL, updM, z0c, renO, belowM, seval, -Int.reduceToNat, z2f, B3, B4, D89, bunN, Int.reduceToNat, tbB2, List.map_nil, List.nil_append, z0d] | exact z0f _ | refine z0e _ _ ?_ | exact Cln.cl | refine z05 _ ?_ | refine z00 _ _ ?_ ?_ | refine DR_q _ ?_ | (refine Fk.fk ?_ ?_ <;> intro hg <;> (try simp only [hg]) <;> (try simp only [bunB] at hg) <;> try (exfalso; first | omega | exact Bool.noConfusion hg | exact hg trivial)) | refine And.intro (by omega) ?_ | omega
      all_goals trace_state
  · have q1 := g1 (by omega)
    subst q1
    cases b2
    · repeat' first | refine z06 (h2) ?_ ?_ | simp (maxSteps := 4000000) (disch := omega) only [bunL, bunD, bun, ↓z04, ↓z01, z02, findLabel, ↓reduceIte, imp, shift, z0b, z0a, unown, names, z07, below, noF, isF, z03, z09, z08, ren, givL, updM, z0c, renO, belowM, seval, -Int.reduceToNat, B3, B4, D89, bunN, Int.reduceToNat, tbB2, List.map_nil, List.nil_append, z0d] | exact z0f _ | refine z0e _ _ ?_ | exact Cln.cl | refine z05 _ ?_ | refine z00 _ _ ?_ ?_ | refine DR_q _ ?_ | (refine Fk.fk ?_ ?_ <;> intro hg <;> (try simp only [hg]) <;> (try simp only [bunB] at hg) <;> try (exfalso; first | omega | exact Bool.noConfusion hg | exact hg trivial)) | refine And.intro (by omega) ?_ | omega
      all_goals exact ⟨2, ⟨by omega, by simp, by simp, by simp, by simp⟩, by omega, (by simp [wk, wkT, wkM, noF, isF, get, z0h, belowM, below, belows, I64, I32, Bv, U8, Sv] <;> try omega)⟩
    · repeat' first | refine z06 (h2) ?_ ?_ | simp (maxSteps := 4000000) (disch := omega) only [bunL, bunD, bun, ↓z04, ↓z01, z02, findLabel, ↓reduceIte, imp, shift, z0b, z0a, unown, names, z07, below, noF, isF, z03, z09, z08, ren, givL, updM, z0c, renO, belowM, seval, -Int.reduceToNat, z2f, B3, B4, D89, bunN, Int.reduceToNat, tbB2, List.map_nil, List.nil_append, z0d] | exact z0f _ | refine z0e _ _ ?_ | exact Cln.cl | refine z05 _ ?_ | refine z00 _ _ ?_ ?_ | refine DR_q _ ?_ | (refine Fk.fk ?_ ?_ <;> intro hg <;> (try simp only [hg]) <;> (try simp only [bunB] at hg) <;> try (exfalso; first | omega | exact Bool.noConfusion hg | exact hg trivial)) | refine And.intro (by omega) ?_ | omega
      all_goals trace_state
  · have q1 := g1 (by omega)
    subst q1
    have q2 := g2 (by omega)
    subst q2
    cases b3
    · repeat' first | refine z06 (h3) ?_ ?_ | simp (maxSteps := 4000000) (disch := omega) only [bunL, bunD, bun, ↓z04, ↓z01, z02, findLabel, ↓reduceIte, imp, shift, z0b, z0a, unown, names, z07, below, noF, isF, z03, z09, z08, ren, givL, updM, z0c, renO, belowM, seval, -Int.reduceToNat, B3, B4, D89, bunN, Int.reduceToNat, tbB2, List.map_nil, List.nil_append, z0d] | exact z0f _ | refine z0e _ _ ?_ | exact Cln.cl | refine z05 _ ?_ | refine z00 _ _ ?_ ?_ | refine DR_q _ ?_ | (refine Fk.fk ?_ ?_ <;> intro hg <;> (try simp only [hg]) <;> (try simp only [bunB] at hg) <;> try (exfalso; first | omega | exact Bool.noConfusion hg | exact hg trivial)) | refine And.intro (by omega) ?_ | omega
      all_goals exact ⟨3, ⟨by omega, by simp, by simp, by simp, by simp⟩, by omega, (by simp [wk, wkT, wkM, noF, isF, get, z0h, belowM, below, belows, I64, I32, Bv, U8, Sv] <;> try omega)⟩
    · repeat' first | refine z06 (h3) ?_ ?_ | simp (maxSteps := 4000000) (disch := omega) only [bunL, bunD, bun, ↓z04, ↓z01, z02, findLabel, ↓reduceIte, imp, shift, z0b, z0a, unown, names, z07, below, noF, isF, z03, z09, z08, ren, givL, updM, z0c, renO, belowM, seval, -Int.reduceToNat, z2f, B3, B4, D89, bunN, Int.reduceToNat, tbB2, List.map_nil, List.nil_append, z0d] | exact z0f _ | refine z0e _ _ ?_ | exact Cln.cl | refine z05 _ ?_ | refine z00 _ _ ?_ ?_ | refine DR_q _ ?_ | (refine Fk.fk ?_ ?_ <;> intro hg <;> (try simp only [hg]) <;> (try simp only [bunB] at hg) <;> try (exfalso; first | omega | exact Bool.noConfusion hg | exact hg trivial)) | refine And.intro (by omega) ?_ | omega
      all_goals trace_state
  · have q1 := g1 (by omega)
    subst q1
    have q2 := g2 (by omega)
    subst q2
    have q3 := g3 (by omega)
    subst q3
    cases b4
    · repeat' first | refine z06 (h4) ?_ ?_ | simp (maxSteps := 4000000) (disch := omega) only [bunL, bunD, bun, ↓z04, ↓z01, z02, findLabel, ↓reduceIte, imp, shift, z0b, z0a, unown, names, z07, below, noF, isF, z03, z09, z08, ren, givL, updM, z0c, renO, belowM, seval, -Int.reduceToNat, B3, B4, D89, bunN, Int.reduceToNat, tbB2, List.map_nil, List.nil_append, z0d] | exact z0f _ | refine z0e _ _ ?_ | exact Cln.cl | refine z05 _ ?_ | refine z00 _ _ ?_ ?_ | refine DR_q _ ?_ | (refine Fk.fk ?_ ?_ <;> intro hg <;> (try simp only [hg]) <;> (try simp only [bunB] at hg) <;> try (exfalso; first | omega | exact Bool.noConfusion hg | exact hg trivial)) | refine And.intro (by omega) ?_ | omega
      all_goals exact ⟨4, ⟨by omega, by simp, by simp, by simp, by simp⟩, by omega, (by simp [wk, wkT, wkM, noF, isF, get, z0h, belowM, below, belows, I64, I32, Bv, U8, Sv] <;> try omega)⟩
    · repeat' first | refine z06 (h4) ?_ ?_ | simp (maxSteps := 4000000) (disch := omega) only [bunL, bunD, bun, ↓z04, ↓z01, z02, findLabel, ↓reduceIte, imp, shift, z0b, z0a, unown, names, z07, below, noF, isF, z03, z09, z08, ren, givL, updM, z0c, renO, belowM, seval, -Int.reduceToNat, z2f, B3, B4, D89, bunN, Int.reduceToNat, tbB2, List.map_nil, List.nil_append, z0d] | exact z0f _ | refine z0e _ _ ?_ | exact Cln.cl | refine z05 _ ?_ | refine z00 _ _ ?_ ?_ | refine DR_q _ ?_ | (refine Fk.fk ?_ ?_ <;> intro hg <;> (try simp only [hg]) <;> (try simp only [bunB] at hg) <;> try (exfalso; first | omega | exact Bool.noConfusion hg | exact hg trivial)) | refine And.intro (by omega) ?_ | omega
      all_goals trace_state
  · have q1 := g1 (by omega)
    have q2 := g2 (by omega)
    have q3 := g3 (by omega)
    have q4 := g4 (by omega)
    subst q1 q2 q3 q4
    repeat' first | simp (maxSteps := 4000000) (disch := omega) only [bunL, bunD, bun, ↓z04, ↓z01, z02, findLabel, ↓reduceIte, imp, shift, z0b, z0a, unown, names, z07, below, noF, isF, z03, z09, z08, ren, givL, updM, z0c, renO, belowM, seval, -Int.reduceToNat, z2f, B3, B4, D89, bunN, Int.reduceToNat, tbB2, List.map_nil, List.nil_append, z0d] | refine DR_q _ ?_ | (refine Fk.fk ?_ ?_ <;> intro hg <;> (try simp only [hg]) <;> (try simp only [bunB] at hg) <;> try (exfalso; first | omega | exact Bool.noConfusion hg | exact hg trivial)) | refine And.intro (by omega) ?_ | omega
    all_goals trace_state
theorem z5s (s : List UInt8) (hs : s.length ≤ 10000000) : Spec Tryz.prog 15 [Sv s] (I64 (plaV s)) := by
  have hf := zp1 s _ _ _ _ (pq1 s) (pq2 s hs) (pq3 s hs) (pq4 s hs)
  have e : plaV s = z2f [(decide (s = []), 13), (decide (63 < s.length), 5), (!s.all ldh, 8), (z9w s, 11)] := rfl
  rw [← e] at hf
  refine z0g (z := false) (ts := [.tmp 2]) ok1 Tryz.func15 rfl rfl (by decide +kernel) (by simp [Tryz.ntmps15]) rfl ?_
  generalize plaV s = pv at *
  clear e
  repeat' first | refine z17 [1, 0] (hf) ?_ | simp (maxSteps := 4000000) (disch := omega) only [bunL, bunD, bun, ↓z04, ↓z01, z02, findLabel, ↓reduceIte, imp, shift, z0b, z0a, unown, names, z07, below, noF, isF, z03, z09, z08, ren, givL, updM, z0c, renO, belowM, seval, -Int.reduceToNat, B9, D89, bunN, Int.reduceToNat, tbB2, List.map_nil, List.nil_append, z0d] | exact z0f _ | refine z0e _ _ ?_ | exact Cln.cl | refine z05 _ ?_ | refine z00 _ _ ?_ ?_ | refine DR_q _ ?_ | (refine Fk.fk ?_ ?_ <;> intro hg <;> (try simp only [hg]) <;> (try simp only [bunB] at hg) <;> try (exfalso; first | omega | exact Bool.noConfusion hg | exact hg trivial)) | refine And.intro (by omega) ?_ | omega
  all_goals trace_state
end Go.AE
end
