/- Contracts of functions that the laws of this seat reach, and plain laws of what they compute. No condition beyond each statement's own. -/
import Derived.Test.YtekgeapohenheaaGreatSJ
import Derived.Test.YtekgeapohenheaaGreatYB
set_option linter.unusedVariables false
set_option linter.unusedSimpArgs false
section
namespace Go.AE
open Go.Proofs
set_option maxRecDepth 20000
set_option maxHeartbeats 8000000
set_option linter.unusedSimpArgs false
theorem zjz (s p : List UInt8) (hs : s.length ≤ 100000000) (hp : p.length ≤ 100000000) : Spec Tryz.prog 106 [Sv s, Sv p] (Bv (decide (p.length ≤ s.length) && (s.take p.length == p))) := by
  refine z0g (z := false) (ts := [.tmp 4]) ok1 Tryz.func106 rfl rfl (by decide +kernel) (by simp [Tryz.ntmps106]) rfl ?_
  by_cases h : p.length ≤ s.length
  · repeat' first | simp (maxSteps := 4000000) (disch := omega) only [bunL, bunD, bun, ↓z04, ↓z00, z02, findLabel, ↓reduceIte, imp, shift, z0b, z0a, unown, names, z06, below, noF, isF, z03, z08, z07, ren, givL, updM, z0c, renO, belowM, seval, -Int.reduceToNat, h, B3, B4, B9, bunN, Int.reduceToNat, tbB2, List.map_nil, List.nil_append, z0j] | refine DR_q _ ?_ | (refine Fk.fk ?_ ?_ <;> intro hg <;> (try simp only [hg]) <;> (try simp only [bunB] at hg) <;> try (exfalso; first | omega | exact Bool.noConfusion hg | exact hg trivial)) | refine And.intro (by omega) ?_ | omega
    all_goals trace_state
  · repeat' first | simp (maxSteps := 4000000) (disch := omega) only [bunL, bunD, bun, ↓z04, ↓z00, z02, findLabel, ↓reduceIte, imp, shift, z0b, z0a, unown, names, z06, below, noF, isF, z03, z08, z07, ren, givL, updM, z0c, renO, belowM, seval, -Int.reduceToNat, h, B3, B4, B9, bunN, Int.reduceToNat, tbB2, List.map_nil, List.nil_append, z0j] | refine DR_q _ ?_ | (refine Fk.fk ?_ ?_ <;> intro hg <;> (try simp only [hg]) <;> (try simp only [bunB] at hg) <;> try (exfalso; first | omega | exact Bool.noConfusion hg | exact hg trivial)) | refine And.intro (by omega) ?_ | omega
    all_goals trace_state
theorem zm9 (s p : List UInt8) (hs : s.length ≤ 100000000) (hp : p.length ≤ 100000000) : Spec Tryz.prog 73 [Sv s, Sv p] (Bv (decide (p.length ≤ s.length) && (s.take p.length == p))) := by
  have h := zjz s p hs hp
  refine z0g (z := false) (ts := [.tmp 4]) ok1 Tryz.func73 rfl rfl (by decide +kernel) (by simp [Tryz.ntmps73]) rfl ?_
  repeat' first | refine z09 (h) ?_ ?_ | simp (maxSteps := 4000000) (disch := omega) only [bunL, bunD, bun, ↓z04, ↓z00, z02, findLabel, ↓reduceIte, imp, shift, z0b, z0a, unown, names, z06, below, noF, isF, z03, z08, z07, ren, givL, updM, z0c, renO, belowM, seval, -Int.reduceToNat, B4, B9, bunN, Int.reduceToNat, tbB2, List.map_nil, List.nil_append, z0j] | exact z0i _ | refine z0h _ _ ?_ | exact Cln.cl | refine z05 _ ?_ | refine z01 _ _ ?_ ?_ | refine DR_q _ ?_ | (refine Fk.fk ?_ ?_ <;> intro hg <;> (try simp only [hg]) <;> (try simp only [bunB] at hg) <;> try (exfalso; first | omega | exact Bool.noConfusion hg | exact hg trivial)) | refine And.intro (by omega) ?_ | omega
theorem zk0 (s p : List UInt8) (hs : s.length ≤ 100000000) (hp : p.length ≤ 100000000) : Spec Tryz.prog 107 [Sv s, Sv p] (Bv (decide (p.length ≤ s.length) && (s.drop (s.length - p.length) == p))) := by
  refine z0g (z := false) (ts := [.tmp 4]) ok1 Tryz.func107 rfl rfl (by decide +kernel) (by simp [Tryz.ntmps107]) rfl ?_
  by_cases h : p.length ≤ s.length
  · have e : ((s.length : Int) - (p.length : Int)).toNat = s.length - p.length := by omega
    repeat' first | simp (maxSteps := 4000000) (disch := omega) only [bunL, bunD, bun, ↓z04, ↓z00, z02, findLabel, ↓reduceIte, imp, shift, z0b, z0a, unown, names, z06, below, noF, isF, z03, z08, z07, ren, givL, updM, z0c, renO, belowM, seval, -Int.reduceToNat, h, e, B3, B4, B9, bunN, Int.reduceToNat, tbB2, List.map_nil, List.nil_append, z0j] | refine DR_q _ ?_ | (refine Fk.fk ?_ ?_ <;> intro hg <;> (try simp only [hg]) <;> (try simp only [bunB] at hg) <;> try (exfalso; first | omega | exact Bool.noConfusion hg | exact hg trivial)) | refine And.intro (by omega) ?_ | omega
    all_goals trace_state
  · repeat' first | simp (maxSteps := 4000000) (disch := omega) only [bunL, bunD, bun, ↓z04, ↓z00, z02, findLabel, ↓reduceIte, imp, shift, z0b, z0a, unown, names, z06, below, noF, isF, z03, z08, z07, ren, givL, updM, z0c, renO, belowM, seval, -Int.reduceToNat, h, B3, B4, B9, bunN, Int.reduceToNat, tbB2, List.map_nil, List.nil_append, z0j] | refine DR_q _ ?_ | (refine Fk.fk ?_ ?_ <;> intro hg <;> (try simp only [hg]) <;> (try simp only [bunB] at hg) <;> try (exfalso; first | omega | exact Bool.noConfusion hg | exact hg trivial)) | refine And.intro (by omega) ?_ | omega
    all_goals trace_state
theorem zma (s p : List UInt8) (hs : s.length ≤ 100000000) (hp : p.length ≤ 100000000) : Spec Tryz.prog 74 [Sv s, Sv p] (Bv (decide (p.length ≤ s.length) && (s.drop (s.length - p.length) == p))) := by
  have h := zk0 s p hs hp
  refine z0g (z := false) (ts := [.tmp 4]) ok1 Tryz.func74 rfl rfl (by decide +kernel) (by simp [Tryz.ntmps74]) rfl ?_
  repeat' first | refine z09 (h) ?_ ?_ | simp (maxSteps := 4000000) (disch := omega) only [bunL, bunD, bun, ↓z04, ↓z00, z02, findLabel, ↓reduceIte, imp, shift, z0b, z0a, unown, names, z06, below, noF, isF, z03, z08, z07, ren, givL, updM, z0c, renO, belowM, seval, -Int.reduceToNat, B4, B9, bunN, Int.reduceToNat, tbB2, List.map_nil, List.nil_append, z0j] | exact z0i _ | refine z0h _ _ ?_ | exact Cln.cl | refine z05 _ ?_ | refine z01 _ _ ?_ ?_ | refine DR_q _ ?_ | (refine Fk.fk ?_ ?_ <;> intro hg <;> (try simp only [hg]) <;> (try simp only [bunB] at hg) <;> try (exfalso; first | omega | exact Bool.noConfusion hg | exact hg trivial)) | refine And.intro (by omega) ?_ | omega
theorem zly (s : List UInt8) (hs : s.length ≤ 10000000) : Spec Tryz.prog 42 [Sv s] (Bv (zlx s)) := by
  have h1 := zm9 s [45] (by omega) (by decide)
  have h2 := zma s [45] (by omega) (by decide)
  simp only [List.length_cons, List.length_nil, Nat.zero_add] at h1 h2
  refine z0g (z := false) (ts := [.tmp 2]) ok1 Tryz.func42 rfl rfl (by decide +kernel) (by simp [Tryz.ntmps42]) rfl ?_
  unfold zlx
  cases g1 : (decide (1 ≤ s.length) && (s.take 1 == [45])) <;> cases g2 : (decide (1 ≤ s.length) && (s.drop (s.length - 1) == [45]))
  all_goals
    rw [g1] at h1
    rw [g2] at h2
    by_cases g3 : 3 < s.length
    · repeat' first | refine z09 (h1) ?_ ?_ | refine z09 (h2) ?_ ?_ | simp (maxSteps := 4000000) (disch := omega) only [bunL, bunD, bun, ↓z04, ↓z00, z02, findLabel, ↓reduceIte, imp, shift, z0b, z0a, unown, names, z06, below, noF, isF, z03, z08, z07, ren, givL, updM, z0c, renO, belowM, seval, -Int.reduceToNat, g3, B3, B4, B9, bunN, Int.reduceToNat, tbB2, List.map_nil, List.nil_append, z0j] | exact z0i _ | refine z0h _ _ ?_ | exact Cln.cl | refine z05 _ ?_ | refine z01 _ _ ?_ ?_ | refine DR_q _ ?_ | (refine Fk.fk ?_ ?_ <;> intro hg <;> (try simp only [hg]) <;> (try simp only [bunB] at hg) <;> try (exfalso; first | omega | exact Bool.noConfusion hg | exact hg trivial)) | refine And.intro (by omega) ?_ | omega
      all_goals trace_state
    · repeat' first | refine z09 (h1) ?_ ?_ | refine z09 (h2) ?_ ?_ | simp (maxSteps := 4000000) (disch := omega) only [bunL, bunD, bun, ↓z04, ↓z00, z02, findLabel, ↓reduceIte, imp, shift, z0b, z0a, unown, names, z06, below, noF, isF, z03, z08, z07, ren, givL, updM, z0c, renO, belowM, seval, -Int.reduceToNat, g3, B3, B4, B9, bunN, Int.reduceToNat, tbB2, List.map_nil, List.nil_append, z0j] | exact z0i _ | refine z0h _ _ ?_ | exact Cln.cl | refine z05 _ ?_ | refine z01 _ _ ?_ ?_ | refine DR_q _ ?_ | (refine Fk.fk ?_ ?_ <;> intro hg <;> (try simp only [hg]) <;> (try simp only [bunB] at hg) <;> try (exfalso; first | omega | exact Bool.noConfusion hg | exact hg trivial)) | refine And.intro (by omega) ?_ | omega
      all_goals trace_state
theorem wq1 (a : Int) : Spec Tryz.prog 37 [.cp [I64 a]] (Bv (decide (0 ≤ a))) := by
  refine z0g (z := false) (ts := [.tmp 1]) ok1 Tryz.func37 rfl rfl (by decide +kernel) (by simp [Tryz.ntmps37]) rfl ?_
  repeat' first | simp (maxSteps := 4000000) (disch := omega) only [bunL, bunD, bun, ↓z04, ↓z00, z02, findLabel, ↓reduceIte, imp, shift, z0b, z0a, unown, names, z06, below, noF, isF, z03, z08, z07, ren, givL, updM, z0c, renO, belowM, seval, -Int.reduceToNat, B3, B4, bunN, Int.reduceToNat, tbB2, List.map_nil, List.nil_append, z0j] | refine DR_q _ ?_ | (refine Fk.fk ?_ ?_ <;> intro hg <;> (try simp only [hg]) <;> (try simp only [bunB] at hg) <;> try (exfalso; first | omega | exact Bool.noConfusion hg | exact hg trivial)) | refine And.intro (by omega) ?_ | omega
theorem wq3 (s : List UInt8) (hs : s.length ≤ 10000000) : Spec Tryz.prog 41 [.cp [Sv s]] (Bv (zlx s)) := by
  have h := zly s hs
  refine z0g (z := false) (ts := [.tmp 1]) ok1 Tryz.func41 rfl rfl (by decide +kernel) (by simp [Tryz.ntmps41]) rfl ?_
  repeat' first | refine z09 (h) ?_ ?_ | simp (maxSteps := 4000000) (disch := omega) only [bunL, bunD, bun, ↓z04, ↓z00, z02, findLabel, ↓reduceIte, imp, shift, z0b, z0a, unown, names, z06, below, noF, isF, z03, z08, z07, ren, givL, updM, z0c, renO, belowM, seval, -Int.reduceToNat, B4, B9, bunN, Int.reduceToNat, tbB2, List.map_nil, List.nil_append, z0j] | exact z0i _ | refine z0h _ _ ?_ | exact Cln.cl | refine z05 _ ?_ | refine z01 _ _ ?_ ?_ | refine DR_q _ ?_ | (refine Fk.fk ?_ ?_ <;> intro hg <;> (try simp only [hg]) <;> (try simp only [bunB] at hg) <;> try (exfalso; first | omega | exact Bool.noConfusion hg | exact hg trivial)) | refine And.intro (by omega) ?_ | omega
theorem wq8 (s : List UInt8) (hs : s.length ≤ 10000000) : Spec Tryz.prog 49 [.cp [Sv s]] (Bv (decide (63 < 4 + s.length))) := by
  refine z0g (z := false) (ts := [.tmp 1]) ok1 Tryz.func49 rfl rfl (by decide +kernel) (by simp [Tryz.ntmps49]) rfl ?_
  have e : decide (63 < 4 + s.length) = decide (4 + (s.length : Int) > 63) := by rw [Bool.eq_iff_iff]; simp only [decide_eq_true_eq]; omega
  rw [e]
  repeat' first | simp (maxSteps := 4000000) (disch := omega) only [bunL, bunD, bun, ↓z04, ↓z00, z02, findLabel, ↓reduceIte, imp, shift, z0b, z0a, unown, names, z06, below, noF, isF, z03, z08, z07, ren, givL, updM, z0c, renO, belowM, seval, -Int.reduceToNat, B3, B4, B9, bunN, Int.reduceToNat, tbB2, List.map_nil, List.nil_append, z0j] | refine DR_q _ ?_ | (refine Fk.fk ?_ ?_ <;> intro hg <;> (try simp only [hg]) <;> (try simp only [bunB] at hg) <;> try (exfalso; first | omega | exact Bool.noConfusion hg | exact hg trivial)) | refine And.intro (by omega) ?_ | omega
theorem wq4 (L : List Int) (h : 0 < L.length) : Spec Tryz.prog 43 [.cp z0n, .cp [.sl L.length (L.map I32)]] (Bv (cat (L.getD 0 0) == 4)) := by
  have hc := zhi (L.getD 0 0)
  rw [← z0r] at hc
  refine z0g (z := false) (ts := [.tmp 2]) ok1 Tryz.func43 rfl rfl (by decide +kernel) (by simp [Tryz.ntmps43]) rfl ?_
  repeat' first | refine DR_p (.two 0 (.one 1 (.one 2 (.one 3 (.one 4 (.take 5 (.take 6 (.done))))))) 1 (.two 0 (.one 2 (.one 3 (.one 4 (.take 5 (.take 6 (.done)))))) 2 (.two 0 (.one 3 (.one 4 (.take 5 (.take 6 (.done))))) 3 (.one 0 (.one 4 (.take 5 (.take 6 (.done)))))))) _ (by decide +kernel) ?_ | refine z09 (hc) ?_ ?_ | simp (maxSteps := 4000000) (disch := omega) only [bunL, bunD, bun, ↓z04, ↓z00, z02, findLabel, ↓reduceIte, imp, shift, z0b, z0a, unown, names, z06, below, noF, isF, z03, z08, z07, ren, givL, updM, z0c, renO, belowM, seval, -Int.reduceToNat, D29, B21, B53, bunN, Int.reduceToNat, tbB2, List.map_nil, List.nil_append, z0j] | exact z0i _ | refine z0h _ _ ?_ | exact Cln.cl | refine z05 _ ?_ | refine z01 _ _ ?_ ?_ | refine DR_q _ ?_ | (refine Fk.fk ?_ ?_ <;> intro hg <;> (try simp only [hg]) <;> (try simp only [bunB] at hg) <;> try (exfalso; first | omega | exact Bool.noConfusion hg | exact hg trivial)) | refine And.intro (by omega) ?_ | omega
  all_goals (repeat' refine And.intro ?_ ?_)
  all_goals (repeat' first | refine z09 (hc) ?_ ?_ | simp (maxSteps := 4000000) (disch := omega) only [bunL, bunD, bun, ↓z04, ↓z00, z02, findLabel, ↓reduceIte, imp, shift, z0b, z0a, unown, names, z06, below, noF, isF, z03, z08, z07, ren, givL, updM, z0c, renO, belowM, seval, -Int.reduceToNat, D29, B21, B53, bunN, Int.reduceToNat, tbB2, List.map_nil, List.nil_append, z0j] | exact z0i _ | refine z0h _ _ ?_ | exact Cln.cl | refine z05 _ ?_ | refine z01 _ _ ?_ ?_ | refine DR_q _ ?_ | (refine Fk.fk ?_ ?_ <;> intro hg <;> (try simp only [hg]) <;> (try simp only [bunB] at hg) <;> try (exfalso; first | omega | exact Bool.noConfusion hg | exact hg trivial)) | refine And.intro (by omega) ?_ | omega)
  all_goals (repeat' refine And.intro ?_ ?_)
  all_goals (repeat' first | refine z09 (hc) ?_ ?_ | simp (maxSteps := 4000000) (disch := omega) only [bunL, bunD, bun, ↓z04, ↓z00, z02, findLabel, ↓reduceIte, imp, shift, z0b, z0a, unown, names, z06, below, noF, isF, z03, z08, z07, ren, givL, updM, z0c, renO, belowM, seval, -Int.reduceToNat, D29, B21, B53, bunN, Int.reduceToNat, tbB2, List.map_nil, List.nil_append, z0j] | exact z0i _ | refine z0h _ _ ?_ | exact Cln.cl | refine z05 _ ?_ | refine z01 _ _ ?_ ?_ | refine DR_q _ ?_ | (refine Fk.fk ?_ ?_ <;> intro hg <;> (try simp only [hg]) <;> (try simp only [bunB] at hg) <;> try (exfalso; first | omega | exact Bool.noConfusion hg | exact hg trivial)) | refine And.intro (by omega) ?_ | omega)
  all_goals trace_state
end Go.AE
end
section
namespace Go.AE
open Go.Proofs
set_option maxRecDepth 20000
set_option maxHeartbeats 8000000
set_option linter.unusedSimpArgs false
theorem zl4 (L : List Int) (hL : L.length ≤ 1000) (hi : ∀ c ∈ L, inI c) : Spec Tryz.prog 45 [tab, .sl L.length (L.map I32)] (Bv (strL L)) := by
  rw [← z0r]
  refine z0g (z := false) (ts := [.tmp 4]) ok1 Tryz.func45 rfl rfl (by decide +kernel) (by simp [Tryz.ntmps45]) rfl ?_
  repeat' first | simp (maxSteps := 4000000) (disch := omega) only [bunL, bunD, bun, ↓z04, ↓z00, z02, findLabel, ↓reduceIte, imp, shift, z0b, z0a, unown, names, z06, below, noF, isF, z03, z08, z07, ren, givL, updM, z0c, renO, belowM, seval, -Int.reduceToNat, D29, B21, B53, bunN, Int.reduceToNat, tbB2, List.map_nil, List.nil_append, z0j, z0q, z0u, z0k] | refine DR_q _ ?_ | (refine Fk.fk ?_ ?_ <;> intro hg <;> (try simp only [hg]) <;> (try simp only [bunB] at hg) <;> try (exfalso; first | omega | exact Bool.noConfusion hg | exact hg trivial)) | refine And.intro (by omega) ?_ | omega
  refine z0p (fun i : Nat => ⟨[(1, .sl L.length (L.map I32)), (2, .ptr 0 0), (7, .sl L.length (L.map I32)), (8, I64 L.length), (9, I64 i)], [.row true 1 z0n]⟩) (fun i => i ≤ L.length ∧ ∀ j, j < i → strK L j = false) (fun i => L.length - i) 0 (by simp) (by (simp (disch := omega) [wk, wkT, wkM, noF, isF, get, z0e, belowM, below, belows, I64, I32, Bv, U8, Sv, z0d] <;> try omega)) ?_
  rintro i ⟨hi1, hi2⟩
  by_cases hlt : i < L.length
  · have hn := zkb L hL hi i (by omega) (by omega)
    rw [zyg L i hlt] at hn
    have hp := zfu (L.getD i 0)
    rw [← z0r] at hn hp
    have hbk : strK L i = (z4x L i == 2 || (z4x L i == 0 && !lch (L.getD i 0))) := rfl
    cases hq : strK L i with
    | true =>
      have e : strL L = true := zpk hi2 hlt hq
      rw [hq] at hbk
      by_cases g2 : z4x L i = 2
      · repeat' first | refine z09 (hn) ?_ ?_ | refine z09 (hp) ?_ ?_ | simp (maxSteps := 4000000) (disch := omega) only [bunL, bunD, bun, ↓z04, ↓z00, z02, findLabel, ↓reduceIte, imp, shift, z0b, z0a, unown, names, z06, below, noF, isF, z03, z08, z07, ren, givL, updM, z0c, renO, belowM, seval, -Int.reduceToNat, e, g2, D29, B21, B53, bunN, Int.reduceToNat, tbB2, List.map_nil, List.nil_append, z0j, z0q, z0u, z0k] | exact z0i _ | refine z0h _ _ ?_ | exact Cln.cl | refine z05 _ ?_ | refine z01 _ _ ?_ ?_ | refine DR_q _ ?_ | (refine Fk.fk ?_ ?_ <;> intro hg <;> (try simp only [hg]) <;> (try simp only [bunB] at hg) <;> try (exfalso; first | omega | exact Bool.noConfusion hg | exact hg trivial)) | refine And.intro (by omega) ?_ | omega
        all_goals trace_state
      · have g3 : z4x L i = 0 ∧ lch (L.getD i 0) = false := by
          have g2' : (z4x L i == 2) = false := by simpa using g2
          rw [g2', Bool.false_or] at hbk
          simpa using hbk.symm
        repeat' first | refine z09 (hn) ?_ ?_ | refine z09 (hp) ?_ ?_ | simp (maxSteps := 4000000) (disch := omega) only [bunL, bunD, bun, ↓z04, ↓z00, z02, findLabel, ↓reduceIte, imp, shift, z0b, z0a, unown, names, z06, below, noF, isF, z03, z08, z07, ren, givL, updM, z0c, renO, belowM, seval, -Int.reduceToNat, e, g3.1, g3.2, D29, B21, B53, bunN, Int.reduceToNat, tbB2, List.map_nil, List.nil_append, z0j, z0q, z0u, z0k] | exact z0i _ | refine z0h _ _ ?_ | exact Cln.cl | refine z05 _ ?_ | refine z01 _ _ ?_ ?_ | refine DR_q _ ?_ | (refine Fk.fk ?_ ?_ <;> intro hg <;> (try simp only [hg]) <;> (try simp only [bunB] at hg) <;> try (exfalso; first | omega | exact Bool.noConfusion hg | exact hg trivial)) | refine And.intro (by omega) ?_ | omega
        all_goals trace_state
    | false =>
      rw [hq] at hbk
      have g2 : ¬ z4x L i = 2 := fun h => by rw [h] at hbk; simp at hbk
      have g2' : (z4x L i == 2) = false := by simpa using g2
      rw [g2', Bool.false_or] at hbk
      have nxt : ∀ j, j < i + 1 → strK L j = false := fun j hj => by
        by_cases hji : j = i
        · subst hji; exact hq
        · exact hi2 j (by omega)
      by_cases g3 : z4x L i = 0
      · have g4 : lch (L.getD i 0) = true := by rw [g3] at hbk; simpa using hbk.symm
        repeat' first | refine z09 (hn) ?_ ?_ | refine z09 (hp) ?_ ?_ | simp (maxSteps := 4000000) (disch := omega) only [bunL, bunD, bun, ↓z04, ↓z00, z02, findLabel, ↓reduceIte, imp, shift, z0b, z0a, unown, names, z06, below, noF, isF, z03, z08, z07, ren, givL, updM, z0c, renO, belowM, seval, -Int.reduceToNat, g2, g3, g4, D29, B21, B53, bunN, Int.reduceToNat, tbB2, List.map_nil, List.nil_append, z0j, z0q, z0u, z0k] | exact z0i _ | refine z0h _ _ ?_ | exact Cln.cl | refine z05 _ ?_ | refine z01 _ _ ?_ ?_ | refine DR_q _ ?_ | (refine Fk.fk ?_ ?_ <;> intro hg <;> (try simp only [hg]) <;> (try simp only [bunB] at hg) <;> try (exfalso; first | omega | exact Bool.noConfusion hg | exact hg trivial)) | refine And.intro (by omega) ?_ | omega
        all_goals exact ⟨i + 1, ⟨by omega, nxt⟩, by omega, by (simp (disch := omega) [wk, wkT, wkM, noF, isF, get, z0e, belowM, below, belows, I64, I32, Bv, U8, Sv, z0d] <;> try omega)⟩
      · repeat' first | refine z09 (hn) ?_ ?_ | refine z09 (hp) ?_ ?_ | simp (maxSteps := 4000000) (disch := omega) only [bunL, bunD, bun, ↓z04, ↓z00, z02, findLabel, ↓reduceIte, imp, shift, z0b, z0a, unown, names, z06, below, noF, isF, z03, z08, z07, ren, givL, updM, z0c, renO, belowM, seval, -Int.reduceToNat, g2, g3, D29, B21, B53, bunN, Int.reduceToNat, tbB2, List.map_nil, List.nil_append, z0j, z0q, z0u, z0k] | exact z0i _ | refine z0h _ _ ?_ | exact Cln.cl | refine z05 _ ?_ | refine z01 _ _ ?_ ?_ | refine DR_q _ ?_ | (refine Fk.fk ?_ ?_ <;> intro hg <;> (try simp only [hg]) <;> (try simp only [bunB] at hg) <;> try (exfalso; first | omega | exact Bool.noConfusion hg | exact hg trivial)) | refine And.intro (by omega) ?_ | omega
        all_goals exact ⟨i + 1, ⟨by omega, nxt⟩, by omega, by (simp (disch := omega) [wk, wkT, wkM, noF, isF, get, z0e, belowM, below, belows, I64, I32, Bv, U8, Sv, z0d] <;> try omega)⟩
  · have e : strL L = false := zpj fun j hj => hi2 j (by omega)
    repeat' first | simp (maxSteps := 4000000) (disch := omega) only [bunL, bunD, bun, ↓z04, ↓z00, z02, findLabel, ↓reduceIte, imp, shift, z0b, z0a, unown, names, z06, below, noF, isF, z03, z08, z07, ren, givL, updM, z0c, renO, belowM, seval, -Int.reduceToNat, e, D29, B21, B53, bunN, Int.reduceToNat, tbB2, List.map_nil, List.nil_append, z0j, z0q, z0u, z0k] | refine DR_q _ ?_ | (refine Fk.fk ?_ ?_ <;> intro hg <;> (try simp only [hg]) <;> (try simp only [bunB] at hg) <;> try (exfalso; first | omega | exact Bool.noConfusion hg | exact hg trivial)) | refine And.intro (by omega) ?_ | omega
    all_goals trace_state
theorem wq2 (s : List UInt8) (hs : s.length ≤ 10000000) (hl : (runes s).1.length ≤ 10000) : Spec Tryz.prog 38 [.cp [Sv s], .cp z0n] (Bv (codB s)) := by
  have h1 := zik s (by omega)
  have h2 := zyl s hs hl
  rw [← z0r] at h2
  refine z0g (z := false) (ts := [.tmp 2]) ok1 Tryz.func38 rfl rfl (by decide +kernel) (by simp [Tryz.ntmps38]) rfl ?_
  unfold codB
  by_cases h8 : eight s < 0
  · repeat' first | refine z09 (h1) ?_ ?_ | refine z09 (h2) ?_ ?_ | simp (maxSteps := 4000000) (disch := omega) only [bunL, bunD, bun, ↓z04, ↓z00, z02, findLabel, ↓reduceIte, imp, shift, z0b, z0a, unown, names, z06, below, noF, isF, z03, z08, z07, ren, givL, updM, z0c, renO, belowM, seval, -Int.reduceToNat, h8, B9, D29, bunN, Int.reduceToNat, tbB2, List.map_nil, List.nil_append, z0j, z0q, z0u, z0k] | exact z0i _ | refine z0h _ _ ?_ | exact Cln.cl | refine z05 _ ?_ | refine z01 _ _ ?_ ?_ | refine DR_q _ ?_ | (refine Fk.fk ?_ ?_ <;> intro hg <;> (try simp only [hg]) <;> (try simp only [bunB] at hg) <;> try (exfalso; first | omega | exact Bool.noConfusion hg | exact hg trivial)) | refine And.intro (by omega) ?_ | omega
    all_goals trace_state
  · repeat' first | refine z09 (h1) ?_ ?_ | refine z09 (h2) ?_ ?_ | simp (maxSteps := 4000000) (disch := omega) only [bunL, bunD, bun, ↓z04, ↓z00, z02, findLabel, ↓reduceIte, imp, shift, z0b, z0a, unown, names, z06, below, noF, isF, z03, z08, z07, ren, givL, updM, z0c, renO, belowM, seval, -Int.reduceToNat, h8, B9, D29, bunN, Int.reduceToNat, tbB2, List.map_nil, List.nil_append, z0j, z0q, z0u, z0k] | exact z0i _ | refine z0h _ _ ?_ | exact Cln.cl | refine z05 _ ?_ | refine z01 _ _ ?_ ?_ | refine DR_q _ ?_ | (refine Fk.fk ?_ ?_ <;> intro hg <;> (try simp only [hg]) <;> (try simp only [bunB] at hg) <;> try (exfalso; first | omega | exact Bool.noConfusion hg | exact hg trivial)) | refine And.intro (by omega) ?_ | omega
    all_goals trace_state
theorem wq5 (L : List Int) (hL : L.length ≤ 1000) (hi : ∀ c ∈ L, inI c) : Spec Tryz.prog 44 [.cp z0n, .cp [.sl L.length (L.map I32)]] (Bv (strL L)) := by
  have h := zl4 L hL hi
  rw [← z0r] at h
  refine z0g (z := false) (ts := [.tmp 2]) ok1 Tryz.func44 rfl rfl (by decide +kernel) (by simp [Tryz.ntmps44]) rfl ?_
  repeat' first | refine z09 (h) ?_ ?_ | simp (maxSteps := 4000000) (disch := omega) only [bunL, bunD, bun, ↓z04, ↓z00, z02, findLabel, ↓reduceIte, imp, shift, z0b, z0a, unown, names, z06, below, noF, isF, z03, z08, z07, ren, givL, updM, z0c, renO, belowM, seval, -Int.reduceToNat, D29, B21, B53, bunN, Int.reduceToNat, tbB2, List.map_nil, List.nil_append, z0j, z0q, z0u, z0k] | exact z0i _ | refine z0h _ _ ?_ | exact Cln.cl | refine z05 _ ?_ | refine z01 _ _ ?_ ?_ | refine DR_q _ ?_ | (refine Fk.fk ?_ ?_ <;> intro hg <;> (try simp only [hg]) <;> (try simp only [bunB] at hg) <;> try (exfalso; first | omega | exact Bool.noConfusion hg | exact hg trivial)) | refine And.intro (by omega) ?_ | omega
theorem wq6 (L : List Int) (hL : L.length ≤ 1000) : Spec Tryz.prog 46 [.cp z0n, .cp [.sl L.length (L.map I32)]] (Bv (hasB L && !zia L)) := by
  have h1 := zho L hL
  have h2 := zgp L hL
  rw [← z0r] at h1 h2
  refine z0g (z := false) (ts := [.tmp 2]) ok1 Tryz.func46 rfl rfl (by decide +kernel) (by simp [Tryz.ntmps46]) rfl ?_
  cases g1 : hasB L
  all_goals
    rw [g1] at h1
    repeat' first | refine z09 (h1) ?_ ?_ | refine z09 (h2) ?_ ?_ | simp (maxSteps := 4000000) (disch := omega) only [bunL, bunD, bun, ↓z04, ↓z00, z02, findLabel, ↓reduceIte, imp, shift, z0b, z0a, unown, names, z06, below, noF, isF, z03, z08, z07, ren, givL, updM, z0c, renO, belowM, seval, -Int.reduceToNat, D29, B21, B53, bunN, Int.reduceToNat, tbB2, List.map_nil, List.nil_append, z0j, z0q, z0u, z0k] | exact z0i _ | refine z0h _ _ ?_ | exact Cln.cl | refine z05 _ ?_ | refine z01 _ _ ?_ ?_ | refine DR_q _ ?_ | (refine Fk.fk ?_ ?_ <;> intro hg <;> (try simp only [hg]) <;> (try simp only [bunB] at hg) <;> try (exfalso; first | omega | exact Bool.noConfusion hg | exact hg trivial)) | refine And.intro (by omega) ?_ | omega
    all_goals trace_state
theorem wq7 (L : List Int) (hL : L.length ≤ 1000) : z5l Tryz.prog 47 [.row true 1 [.ref 3 0 L.length], .row true 1 [Sv []], .row true 1 [Bv false], .arr 21 1 (L.map I32)] [.ptr 0 0, .ptr 1 0, .ptr 2 0] [.dead, .row true 1 [Sv (pnS L)], .row true 1 [Bv (z1z L)], .dead, .fence] (Bv (!z1z L)) := by
  have h := zm1 L (by omega)
  refine z3x (ts := [.tmp 3]) ok1 Tryz.func47 rfl rfl (by decide +kernel) (by simp [Tryz.ntmps47]) rfl ?_
  repeat' first | refine z09 (h) ?_ ?_ | simp (maxSteps := 4000000) (disch := omega) only [bunL, bunD, bun, ↓z04, ↓z00, z02, findLabel, ↓reduceIte, imp, shift, z0b, z0a, unown, names, z06, below, noF, isF, z03, z08, z07, ren, givL, updM, z0c, renO, belowM, seval, -Int.reduceToNat, B4, B9, B21, B53, bunN, Int.reduceToNat, tbB2, List.map_nil, List.nil_append, z0j, z0q, z0u, z0k] | exact z0i _ | refine z0h _ _ ?_ | exact Cln.cl | refine z05 _ ?_ | refine z01 _ _ ?_ ?_ | refine DR_q _ ?_ | (refine Fk.fk ?_ ?_ <;> intro hg <;> (try simp only [hg]) <;> (try simp only [bunB] at hg) <;> try (exfalso; first | omega | exact Bool.noConfusion hg | exact hg trivial)) | refine And.intro (by omega) ?_ | omega
  all_goals trace_state
end Go.AE
end
section
namespace Go.AE
open Go.Proofs
set_option maxRecDepth 20000
set_option maxHeartbeats 8000000
set_option linter.unusedSimpArgs false
theorem cl_i (k : IntKind) (n : Int) : (Value.int k n).cells.toList = [Value.int k n] := rfl
theorem cl_s (b : ByteArray) : (Value.string b).cells.toList = [Value.string b] := rfl
theorem cl_b (b : Bool) : (Value.bool b).cells.toList = [Value.bool b] := rfl
theorem ca_i (k : IntKind) (n : Int) : ((Value.int k n).cells.all fun x => x.oneCell') = true := by
  rw [← Array.all_toList, cl_i]; rfl
theorem ca_s (b : ByteArray) : ((Value.string b).cells.all fun x => x.oneCell') = true := by
  rw [← Array.all_toList, cl_s]; rfl
theorem ca_b (b : Bool) : ((Value.bool b).cells.all fun x => x.oneCell') = true := by
  rw [← Array.all_toList, cl_b]; rfl
theorem zm3 (s P : List UInt8) (L : List Int) (a : Int) (ok b1 b2 b3 b4 b5 b6 b8 : Bool)
    (h1 : Spec Tryz.prog 37 [.cp [I64 a]] (Bv b1))
    (h2 : Spec Tryz.prog 38 [.cp [Sv s], .cp z0n] (Bv b2))
    (h3 : Spec Tryz.prog 41 [.cp [Sv s]] (Bv b3))
    (h4 : b1 = false → b2 = false → Spec Tryz.prog 43 [.cp z0n, .cp [.sl L.length (L.map I32)]] (Bv b4))
    (h5 : Spec Tryz.prog 44 [.cp z0n, .cp [.sl L.length (L.map I32)]] (Bv b5))
    (h6 : Spec Tryz.prog 46 [.cp z0n, .cp [.sl L.length (L.map I32)]] (Bv b6))
    (h7 : z5l Tryz.prog 47 [.row true 1 [.ref 3 0 L.length], .row true 1 [Sv []], .row true 1 [Bv false], .arr 21 1 (L.map I32)] [.ptr 0 0, .ptr 1 0, .ptr 2 0] [.dead, .row true 1 [Sv P], .row true 1 [Bv ok], .dead, .fence] (Bv (!ok)))
    (h8 : Spec Tryz.prog 49 [.cp [Sv P]] (Bv b8)) :
    z5l Tryz.prog 36 [.row true 2 [I64 7, .fn 37 [] [.ptr 4 0], I64 4, .fn 38 [] [.ptr 2 0, .ptr 1 0], I64 11, .fn 41 [] [.ptr 2 0], I64 10, .fn 43 [] [.ptr 1 0, .ptr 3 0],
      I64 8, .fn 44 [] [.ptr 1 0, .ptr 3 0], I64 9, .fn 46 [] [.ptr 1 0, .ptr 3 0], I64 12, .fn 47 [] [.ptr 3 0, .ptr 5 0, .ptr 6 0], I64 5, .fn 49 [] [.ptr 5 0]],
      .row true 1 z0n, .row true 1 [Sv s], .row true 1 [.ref 7 0 L.length], .row true 1 [I64 a], .row true 1 [Sv []], .row true 1 [Bv false], .arr 21 1 (L.map I32)] [.ref 0 0 8]
      [.dead, .dead, .dead, .dead, .dead, .dead, .dead, .dead, .fence] (I64 (z4p [(b1, 7), (b2, 4), (b3, 11), (b4, 10), (b5, 8), (b6, 9), (!ok, 12), (b8, 5)])) := by
  refine z3x (ts := [.tmp 2]) ok1 Tryz.func36 rfl rfl (by decide +kernel) (by simp [Tryz.ntmps36]) rfl ?_
  repeat' first | simp (maxSteps := 4000000) (disch := omega) only [bunL, bunD, bun, ↓z04, ↓z00, z02, findLabel, ↓reduceIte, imp, shift, z0b, z0a, unown, names, z06, below, noF, isF, z03, z08, z07, ren, givL, updM, z0c, renO, belowM, seval, -Int.reduceToNat, B3, B4, D98, bunN, Int.reduceToNat, tbB2, List.map_nil, List.nil_append, z0j, z0q, z0u, z0k, cl_i, cl_s, cl_b, ca_i, ca_s, ca_b] | refine DR_q _ ?_ | (refine Fk.fk ?_ ?_ <;> intro hg <;> (try simp only [hg]) <;> (try simp only [bunB] at hg) <;> try (exfalso; first | omega | exact Bool.noConfusion hg | exact hg trivial)) | refine And.intro (by omega) ?_ | omega
  refine z0p (fun i : Nat => ⟨[(5, .ref 0 0 8), (6, I64 8), (7, I64 i)], [.row true 2 [I64 7, .fn 37 [] [.ptr 4 0], I64 4, .fn 38 [] [.ptr 2 0, .ptr 1 0], I64 11, .fn 41 [] [.ptr 2 0], I64 10, .fn 43 [] [.ptr 1 0, .ptr 3 0],
      I64 8, .fn 44 [] [.ptr 1 0, .ptr 3 0], I64 9, .fn 46 [] [.ptr 1 0, .ptr 3 0], I64 12, .fn 47 [] [.ptr 3 0, .ptr 5 0, .ptr 6 0], I64 5, .fn 49 [] [.ptr 5 0]],
      .row true 1 z0n, .row true 1 [Sv s], (if i ≤ 6 then .row true 1 [.ref 7 0 L.length] else .dead), .row true 1 [I64 a], .row true 1 [Sv (if i ≤ 6 then [] else P)], .row true 1 [Bv (if i ≤ 6 then false else ok)], (if i ≤ 6 then .arr 21 1 (L.map I32) else .dead), .fence]⟩)
    (fun i => i ≤ 8 ∧ (0 < i → b1 = false) ∧ (1 < i → b2 = false) ∧ (2 < i → b3 = false) ∧ (3 < i → b4 = false) ∧ (4 < i → b5 = false) ∧ (5 < i → b6 = false) ∧ (6 < i → ok = true) ∧ (7 < i → b8 = false)) (fun i => 8 - i) 0 (by simp) (by (simp (disch := omega) [wk, wkT, wkM, noF, isF, get, z0e, belowM, below, belows, I64, I32, Bv, U8, Sv, z0d] <;> try omega)) ?_
  rintro i ⟨hi, g1, g2, g3, g4, g5, g6, g7, g8⟩
  have hc : i = 0 ∨ i = 1 ∨ i = 2 ∨ i = 3 ∨ i = 4 ∨ i = 5 ∨ i = 6 ∨ i = 7 ∨ i = 8 := by omega
  rcases hc with rfl | rfl | rfl | rfl | rfl | rfl | rfl | rfl | rfl
  · cases b1
    · repeat' first | refine z09 (h1) ?_ ?_ | simp (maxSteps := 4000000) (disch := omega) only [bunL, bunD, bun, ↓z04, ↓z00, z02, findLabel, ↓reduceIte, imp, shift, z0b, z0a, unown, names, z06, below, noF, isF, z03, z08, z07, ren, givL, updM, z0c, renO, belowM, seval, -Int.reduceToNat, B3, B4, D98, bunN, Int.reduceToNat, tbB2, List.map_nil, List.nil_append, z0j, z0q, z0u, z0k, cl_i, cl_s, cl_b, ca_i, ca_s, ca_b] | exact z0i _ | refine z0h _ _ ?_ | exact Cln.cl | refine z05 _ ?_ | refine z01 _ _ ?_ ?_ | refine DR_q _ ?_ | (refine Fk.fk ?_ ?_ <;> intro hg <;> (try simp only [hg]) <;> (try simp only [bunB] at hg) <;> try (exfalso; first | omega | exact Bool.noConfusion hg | exact hg trivial)) | refine And.intro (by omega) ?_ | omega
      all_goals exact ⟨1, ⟨by omega, by simp, by simp, by simp, by simp, by simp, by simp, by simp, by simp⟩, by omega, by (simp (disch := omega) [wk, wkT, wkM, noF, isF, get, z0e, belowM, below, belows, I64, I32, Bv, U8, Sv, z0d] <;> try omega)⟩
    · repeat' first | refine z09 (h1) ?_ ?_ | simp (maxSteps := 4000000) (disch := omega) only [bunL, bunD, bun, ↓z04, ↓z00, z02, findLabel, ↓reduceIte, imp, shift, z0b, z0a, unown, names, z06, below, noF, isF, z03, z08, z07, ren, givL, updM, z0c, renO, belowM, seval, -Int.reduceToNat, z4p, B3, B4, D98, bunN, Int.reduceToNat, tbB2, List.map_nil, List.nil_append, z0j, z0q, z0u, z0k, cl_i, cl_s, cl_b, ca_i, ca_s, ca_b] | exact z0i _ | refine z0h _ _ ?_ | exact Cln.cl | refine z05 _ ?_ | refine z01 _ _ ?_ ?_ | refine DR_q _ ?_ | (refine Fk.fk ?_ ?_ <;> intro hg <;> (try simp only [hg]) <;> (try simp only [bunB] at hg) <;> try (exfalso; first | omega | exact Bool.noConfusion hg | exact hg trivial)) | refine And.intro (by omega) ?_ | omega
      all_goals trace_state
  · have q1 := g1 (by omega)
    subst q1
    cases b2
    · repeat' first | refine z09 (h2) ?_ ?_ | simp (maxSteps := 4000000) (disch := omega) only [bunL, bunD, bun, ↓z04, ↓z00, z02, findLabel, ↓reduceIte, imp, shift, z0b, z0a, unown, names, z06, below, noF, isF, z03, z08, z07, ren, givL, updM, z0c, renO, belowM, seval, -Int.reduceToNat, B3, B4, D98, bunN, Int.reduceToNat, tbB2, List.map_nil, List.nil_append, z0j, z0q, z0u, z0k, cl_i, cl_s, cl_b, ca_i, ca_s, ca_b] | exact z0i _ | refine z0h _ _ ?_ | exact Cln.cl | refine z05 _ ?_ | refine z01 _ _ ?_ ?_ | refine DR_q _ ?_ | (refine Fk.fk ?_ ?_ <;> intro hg <;> (try simp only [hg]) <;> (try simp only [bunB] at hg) <;> try (exfalso; first | omega | exact Bool.noConfusion hg | exact hg trivial)) | refine And.intro (by omega) ?_ | omega
      all_goals exact ⟨2, ⟨by omega, by simp, by simp, by simp, by simp, by simp, by simp, by simp, by simp⟩, by omega, by (simp (disch := omega) [wk, wkT, wkM, noF, isF, get, z0e, belowM, below, belows, I64, I32, Bv, U8, Sv, z0d] <;> try omega)⟩
    · repeat' first | refine z09 (h2) ?_ ?_ | simp (maxSteps := 4000000) (disch := omega) only [bunL, bunD, bun, ↓z04, ↓z00, z02, findLabel, ↓reduceIte, imp, shift, z0b, z0a, unown, names, z06, below, noF, isF, z03, z08, z07, ren, givL, updM, z0c, renO, belowM, seval, -Int.reduceToNat, z4p, B3, B4, D98, bunN, Int.reduceToNat, tbB2, List.map_nil, List.nil_append, z0j, z0q, z0u, z0k, cl_i, cl_s, cl_b, ca_i, ca_s, ca_b] | exact z0i _ | refine z0h _ _ ?_ | exact Cln.cl | refine z05 _ ?_ | refine z01 _ _ ?_ ?_ | refine DR_q _ ?_ | (refine Fk.fk ?_ ?_ <;> intro hg <;> (try simp only [hg]) <;> (try simp only [bunB] at hg) <;> try (exfalso; first | omega | exact Bool.noConfusion hg | exact hg trivial)) | refine And.intro (by omega) ?_ | omega
      all_goals trace_state
  · have q1 := g1 (by omega)
    subst q1
    have q2 := g2 (by omega)
    subst q2
    cases b3
    · repeat' first | refine z09 (h3) ?_ ?_ | simp (maxSteps := 4000000) (disch := omega) only [bunL, bunD, bun, ↓z04, ↓z00, z02, findLabel, ↓reduceIte, imp, shift, z0b, z0a, unown, names, z06, below, noF, isF, z03, z08, z07, ren, givL, updM, z0c, renO, belowM, seval, -Int.reduceToNat, B3, B4, D98, bunN, Int.reduceToNat, tbB2, List.map_nil, List.nil_append, z0j, z0q, z0u, z0k, cl_i, cl_s, cl_b, ca_i, ca_s, ca_b] | exact z0i _ | refine z0h _ _ ?_ | exact Cln.cl | refine z05 _ ?_ | refine z01 _ _ ?_ ?_ | refine DR_q _ ?_ | (refine Fk.fk ?_ ?_ <;> intro hg <;> (try simp only [hg]) <;> (try simp only [bunB] at hg) <;> try (exfalso; first | omega | exact Bool.noConfusion hg | exact hg trivial)) | refine And.intro (by omega) ?_ | omega
      all_goals exact ⟨3, ⟨by omega, by simp, by simp, by simp, by simp, by simp, by simp, by simp, by simp⟩, by omega, by (simp (disch := omega) [wk, wkT, wkM, noF, isF, get, z0e, belowM, below, belows, I64, I32, Bv, U8, Sv, z0d] <;> try omega)⟩
    · repeat' first | refine z09 (h3) ?_ ?_ | simp (maxSteps := 4000000) (disch := omega) only [bunL, bunD, bun, ↓z04, ↓z00, z02, findLabel, ↓reduceIte, imp, shift, z0b, z0a, unown, names, z06, below, noF, isF, z03, z08, z07, ren, givL, updM, z0c, renO, belowM, seval, -Int.reduceToNat, z4p, B3, B4, D98, bunN, Int.reduceToNat, tbB2, List.map_nil, List.nil_append, z0j, z0q, z0u, z0k, cl_i, cl_s, cl_b, ca_i, ca_s, ca_b] | exact z0i _ | refine z0h _ _ ?_ | exact Cln.cl | refine z05 _ ?_ | refine z01 _ _ ?_ ?_ | refine DR_q _ ?_ | (refine Fk.fk ?_ ?_ <;> intro hg <;> (try simp only [hg]) <;> (try simp only [bunB] at hg) <;> try (exfalso; first | omega | exact Bool.noConfusion hg | exact hg trivial)) | refine And.intro (by omega) ?_ | omega
      all_goals trace_state
  · have q1 := g1 (by omega)
    subst q1
    have q2 := g2 (by omega)
    subst q2
    have q3 := g3 (by omega)
    subst q3
    have h4 := h4 rfl rfl
    cases b4
    · repeat' first | refine z09 (h4) ?_ ?_ | simp (maxSteps := 4000000) (disch := omega) only [bunL, bunD, bun, ↓z04, ↓z00, z02, findLabel, ↓reduceIte, imp, shift, z0b, z0a, unown, names, z06, below, noF, isF, z03, z08, z07, ren, givL, updM, z0c, renO, belowM, seval, -Int.reduceToNat, B3, B4, D98, bunN, Int.reduceToNat, tbB2, List.map_nil, List.nil_append, z0j, z0q, z0u, z0k, cl_i, cl_s, cl_b, ca_i, ca_s, ca_b] | exact z0i _ | refine z0h _ _ ?_ | exact Cln.cl | refine z05 _ ?_ | refine z01 _ _ ?_ ?_ | refine DR_q _ ?_ | (refine Fk.fk ?_ ?_ <;> intro hg <;> (try simp only [hg]) <;> (try simp only [bunB] at hg) <;> try (exfalso; first | omega | exact Bool.noConfusion hg | exact hg trivial)) | refine And.intro (by omega) ?_ | omega
      all_goals exact ⟨4, ⟨by omega, by simp, by simp, by simp, by simp, by simp, by simp, by simp, by simp⟩, by omega, by (simp (disch := omega) [wk, wkT, wkM, noF, isF, get, z0e, belowM, below, belows, I64, I32, Bv, U8, Sv, z0d] <;> try omega)⟩
    · repeat' first | refine z09 (h4) ?_ ?_ | simp (maxSteps := 4000000) (disch := omega) only [bunL, bunD, bun, ↓z04, ↓z00, z02, findLabel, ↓reduceIte, imp, shift, z0b, z0a, unown, names, z06, below, noF, isF, z03, z08, z07, ren, givL, updM, z0c, renO, belowM, seval, -Int.reduceToNat, z4p, B3, B4, D98, bunN, Int.reduceToNat, tbB2, List.map_nil, List.nil_append, z0j, z0q, z0u, z0k, cl_i, cl_s, cl_b, ca_i, ca_s, ca_b] | exact z0i _ | refine z0h _ _ ?_ | exact Cln.cl | refine z05 _ ?_ | refine z01 _ _ ?_ ?_ | refine DR_q _ ?_ | (refine Fk.fk ?_ ?_ <;> intro hg <;> (try simp only [hg]) <;> (try simp only [bunB] at hg) <;> try (exfalso; first | omega | exact Bool.noConfusion hg | exact hg trivial)) | refine And.intro (by omega) ?_ | omega
      all_goals trace_state
  · have q1 := g1 (by omega)
    subst q1
    have q2 := g2 (by omega)
    subst q2
    have q3 := g3 (by omega)
    subst q3
    have q4 := g4 (by omega)
    subst q4
    cases b5
    · repeat' first | refine z09 (h5) ?_ ?_ | simp (maxSteps := 4000000) (disch := omega) only [bunL, bunD, bun, ↓z04, ↓z00, z02, findLabel, ↓reduceIte, imp, shift, z0b, z0a, unown, names, z06, below, noF, isF, z03, z08, z07, ren, givL, updM, z0c, renO, belowM, seval, -Int.reduceToNat, B3, B4, D98, bunN, Int.reduceToNat, tbB2, List.map_nil, List.nil_append, z0j, z0q, z0u, z0k, cl_i, cl_s, cl_b, ca_i, ca_s, ca_b] | exact z0i _ | refine z0h _ _ ?_ | exact Cln.cl | refine z05 _ ?_ | refine z01 _ _ ?_ ?_ | refine DR_q _ ?_ | (refine Fk.fk ?_ ?_ <;> intro hg <;> (try simp only [hg]) <;> (try simp only [bunB] at hg) <;> try (exfalso; first | omega | exact Bool.noConfusion hg | exact hg trivial)) | refine And.intro (by omega) ?_ | omega
      all_goals exact ⟨5, ⟨by omega, by simp, by simp, by simp, by simp, by simp, by simp, by simp, by simp⟩, by omega, by (simp (disch := omega) [wk, wkT, wkM, noF, isF, get, z0e, belowM, below, belows, I64, I32, Bv, U8, Sv, z0d] <;> try omega)⟩
    · repeat' first | refine z09 (h5) ?_ ?_ | simp (maxSteps := 4000000) (disch := omega) only [bunL, bunD, bun, ↓z04, ↓z00, z02, findLabel, ↓reduceIte, imp, shift, z0b, z0a, unown, names, z06, below, noF, isF, z03, z08, z07, ren, givL, updM, z0c, renO, belowM, seval, -Int.reduceToNat, z4p, B3, B4, D98, bunN, Int.reduceToNat, tbB2, List.map_nil, List.nil_append, z0j, z0q, z0u, z0k, cl_i, cl_s, cl_b, ca_i, ca_s, ca_b] | exact z0i _ | refine z0h _ _ ?_ | exact Cln.cl | refine z05 _ ?_ | refine z01 _ _ ?_ ?_ | refine DR_q _ ?_ | (refine Fk.fk ?_ ?_ <;> intro hg <;> (try simp only [hg]) <;> (try simp only [bunB] at hg) <;> try (exfalso; first | omega | exact Bool.noConfusion hg | exact hg trivial)) | refine And.intro (by omega) ?_ | omega
      all_goals trace_state
  · have q1 := g1 (by omega)
    subst q1
    have q2 := g2 (by omega)
    subst q2
    have q3 := g3 (by omega)
    subst q3
    have q4 := g4 (by omega)
    subst q4
    have q5 := g5 (by omega)
    subst q5
    cases b6
    · repeat' first | refine z09 (h6) ?_ ?_ | simp (maxSteps := 4000000) (disch := omega) only [bunL, bunD, bun, ↓z04, ↓z00, z02, findLabel, ↓reduceIte, imp, shift, z0b, z0a, unown, names, z06, below, noF, isF, z03, z08, z07, ren, givL, updM, z0c, renO, belowM, seval, -Int.reduceToNat, B3, B4, D98, bunN, Int.reduceToNat, tbB2, List.map_nil, List.nil_append, z0j, z0q, z0u, z0k, cl_i, cl_s, cl_b, ca_i, ca_s, ca_b] | exact z0i _ | refine z0h _ _ ?_ | exact Cln.cl | refine z05 _ ?_ | refine z01 _ _ ?_ ?_ | refine DR_q _ ?_ | (refine Fk.fk ?_ ?_ <;> intro hg <;> (try simp only [hg]) <;> (try simp only [bunB] at hg) <;> try (exfalso; first | omega | exact Bool.noConfusion hg | exact hg trivial)) | refine And.intro (by omega) ?_ | omega
      all_goals exact ⟨6, ⟨by omega, by simp, by simp, by simp, by simp, by simp, by simp, by simp, by simp⟩, by omega, by (simp (disch := omega) [wk, wkT, wkM, noF, isF, get, z0e, belowM, below, belows, I64, I32, Bv, U8, Sv, z0d] <;> try omega)⟩
    · repeat' first | refine z09 (h6) ?_ ?_ | simp (maxSteps := 4000000) (disch := omega) only [bunL, bunD, bun, ↓z04, ↓z00, z02, findLabel, ↓reduceIte, imp, shift, z0b, z0a, unown, names, z06, below, noF, isF, z03, z08, z07, ren, givL, updM, z0c, renO, belowM, seval, -Int.reduceToNat, z4p, B3, B4, D98, bunN, Int.reduceToNat, tbB2, List.map_nil, List.nil_append, z0j, z0q, z0u, z0k, cl_i, cl_s, cl_b, ca_i, ca_s, ca_b] | exact z0i _ | refine z0h _ _ ?_ | exact Cln.cl | refine z05 _ ?_ | refine z01 _ _ ?_ ?_ | refine DR_q _ ?_ | (refine Fk.fk ?_ ?_ <;> intro hg <;> (try simp only [hg]) <;> (try simp only [bunB] at hg) <;> try (exfalso; first | omega | exact Bool.noConfusion hg | exact hg trivial)) | refine And.intro (by omega) ?_ | omega
      all_goals trace_state
  · have q1 := g1 (by omega)
    subst q1
    have q2 := g2 (by omega)
    subst q2
    have q3 := g3 (by omega)
    subst q3
    have q4 := g4 (by omega)
    subst q4
    have q5 := g5 (by omega)
    subst q5
    have q6 := g6 (by omega)
    subst q6
    cases ok
    · repeat' first | refine z1j [3, 5, 6, 7] (h7) ?_ | simp (maxSteps := 4000000) (disch := omega) only [bunL, bunD, bun, ↓z04, ↓z00, z02, findLabel, ↓reduceIte, imp, shift, z0b, z0a, unown, names, z06, below, noF, isF, z03, z08, z07, ren, givL, updM, z0c, renO, belowM, seval, -Int.reduceToNat, z4p, Bool.not_false, B3, B4, D98, bunN, Int.reduceToNat, tbB2, List.map_nil, List.nil_append, z0j, z0q, z0u, z0k, cl_i, cl_s, cl_b, ca_i, ca_s, ca_b] | exact z0i _ | refine z0h _ _ ?_ | exact Cln.cl | refine z05 _ ?_ | refine z01 _ _ ?_ ?_ | refine DR_q _ ?_ | (refine Fk.fk ?_ ?_ <;> intro hg <;> (try simp only [hg]) <;> (try simp only [bunB] at hg) <;> try (exfalso; first | omega | exact Bool.noConfusion hg | exact hg trivial)) | refine And.intro (by omega) ?_ | omega
      all_goals trace_state
    · repeat' first | refine z1j [3, 5, 6, 7] (h7) ?_ | simp (maxSteps := 4000000) (disch := omega) only [bunL, bunD, bun, ↓z04, ↓z00, z02, findLabel, ↓reduceIte, imp, shift, z0b, z0a, unown, names, z06, below, noF, isF, z03, z08, z07, ren, givL, updM, z0c, renO, belowM, seval, -Int.reduceToNat, Bool.not_true, B3, B4, D98, bunN, Int.reduceToNat, tbB2, List.map_nil, List.nil_append, z0j, z0q, z0u, z0k, cl_i, cl_s, cl_b, ca_i, ca_s, ca_b] | exact z0i _ | refine z0h _ _ ?_ | exact Cln.cl | refine z05 _ ?_ | refine z01 _ _ ?_ ?_ | refine DR_q _ ?_ | (refine Fk.fk ?_ ?_ <;> intro hg <;> (try simp only [hg]) <;> (try simp only [bunB] at hg) <;> try (exfalso; first | omega | exact Bool.noConfusion hg | exact hg trivial)) | refine And.intro (by omega) ?_ | omega
      all_goals exact ⟨7, ⟨by omega, by simp, by simp, by simp, by simp, by simp, by simp, by simp, by simp⟩, by omega, by (simp (disch := omega) [wk, wkT, wkM, noF, isF, get, z0e, belowM, below, belows, I64, I32, Bv, U8, Sv, z0d] <;> try omega)⟩
  · have q1 := g1 (by omega)
    subst q1
    have q2 := g2 (by omega)
    subst q2
    have q3 := g3 (by omega)
    subst q3
    have q4 := g4 (by omega)
    subst q4
    have q5 := g5 (by omega)
    subst q5
    have q6 := g6 (by omega)
    subst q6
    have q7 := g7 (by omega)
    subst q7
    cases b8
    · repeat' first | refine z09 (h8) ?_ ?_ | simp (maxSteps := 4000000) (disch := omega) only [bunL, bunD, bun, ↓z04, ↓z00, z02, findLabel, ↓reduceIte, imp, shift, z0b, z0a, unown, names, z06, below, noF, isF, z03, z08, z07, ren, givL, updM, z0c, renO, belowM, seval, -Int.reduceToNat, B3, B4, D98, bunN, Int.reduceToNat, tbB2, List.map_nil, List.nil_append, z0j, z0q, z0u, z0k, cl_i, cl_s, cl_b, ca_i, ca_s, ca_b] | exact z0i _ | refine z0h _ _ ?_ | exact Cln.cl | refine z05 _ ?_ | refine z01 _ _ ?_ ?_ | refine DR_q _ ?_ | (refine Fk.fk ?_ ?_ <;> intro hg <;> (try simp only [hg]) <;> (try simp only [bunB] at hg) <;> try (exfalso; first | omega | exact Bool.noConfusion hg | exact hg trivial)) | refine And.intro (by omega) ?_ | omega
      all_goals exact ⟨8, ⟨by omega, by simp, by simp, by simp, by simp, by simp, by simp, by simp, by simp⟩, by omega, by (simp (disch := omega) [wk, wkT, wkM, noF, isF, get, z0e, belowM, below, belows, I64, I32, Bv, U8, Sv, z0d] <;> try omega)⟩
    · repeat' first | refine z09 (h8) ?_ ?_ | simp (maxSteps := 4000000) (disch := omega) only [bunL, bunD, bun, ↓z04, ↓z00, z02, findLabel, ↓reduceIte, imp, shift, z0b, z0a, unown, names, z06, below, noF, isF, z03, z08, z07, ren, givL, updM, z0c, renO, belowM, seval, -Int.reduceToNat, z4p, B3, B4, D98, bunN, Int.reduceToNat, tbB2, List.map_nil, List.nil_append, z0j, z0q, z0u, z0k, cl_i, cl_s, cl_b, ca_i, ca_s, ca_b] | exact z0i _ | refine z0h _ _ ?_ | exact Cln.cl | refine z05 _ ?_ | refine z01 _ _ ?_ ?_ | refine DR_q _ ?_ | (refine Fk.fk ?_ ?_ <;> intro hg <;> (try simp only [hg]) <;> (try simp only [bunB] at hg) <;> try (exfalso; first | omega | exact Bool.noConfusion hg | exact hg trivial)) | refine And.intro (by omega) ?_ | omega
      all_goals trace_state
  · have q1 := g1 (by omega)
    have q2 := g2 (by omega)
    have q3 := g3 (by omega)
    have q4 := g4 (by omega)
    have q5 := g5 (by omega)
    have q6 := g6 (by omega)
    have q7 := g7 (by omega)
    have q8 := g8 (by omega)
    subst q1 q2 q3 q4 q5 q6 q7 q8
    repeat' first | simp (maxSteps := 4000000) (disch := omega) only [bunL, bunD, bun, ↓z04, ↓z00, z02, findLabel, ↓reduceIte, imp, shift, z0b, z0a, unown, names, z06, below, noF, isF, z03, z08, z07, ren, givL, updM, z0c, renO, belowM, seval, -Int.reduceToNat, z4p, B3, B4, D98, bunN, Int.reduceToNat, tbB2, List.map_nil, List.nil_append, z0j, z0q, z0u, z0k, cl_i, cl_s, cl_b, ca_i, ca_s, ca_b] | refine DR_q _ ?_ | (refine Fk.fk ?_ ?_ <;> intro hg <;> (try simp only [hg]) <;> (try simp only [bunB] at hg) <;> try (exfalso; first | omega | exact Bool.noConfusion hg | exact hg trivial)) | refine And.intro (by omega) ?_ | omega
    all_goals trace_state
theorem rune_ne {s : List UInt8} (h1 : ¬ 0 ≤ (runes s).2) (h2 : 0 ≤ eight s) : 0 < (runes s).1.length := by
  refine Nat.pos_of_ne_zero fun e => ?_
  have hb := zgq s
  have ha : (runes s).2 = -1 := (zra s).resolve_right h1
  rw [ha, z90, List.take_length] at hb
  have : (runes s).1 = [] := List.eq_nil_of_length_eq_zero e
  rw [this] at hb
  exact zfc h2 (by rw [← hb.2.1]; rfl)
theorem zzv (s : List UInt8) (hs : s.length ≤ 10000000) (hl : (runes s).1.length ≤ 1000) : Spec Tryz.prog 14 [tab, Sv s] (I64 (zzs s)) := by
  have hr := zib s
  have hi : ∀ c ∈ (runes s).1, inI c := fun c hc => by have := hr c hc; unfold okR at this; unfold inI; omega
  have hpl := pnS_len (runes s).1 hl
  have hu := z28 s (by omega)
  have hf := zm3 s (pnS (runes s).1) (runes s).1 (runes s).2 (z1z (runes s).1) _ _ _ _ _ _ _ (wq1 (runes s).2) (wq2 s hs (by omega)) (wq3 s hs)
    (fun h1 h2 => wq4 (runes s).1 (rune_ne (by simpa using h1) (by
      unfold codB at h2
      rw [Bool.or_eq_false_iff] at h2
      have := h2.1
      simp only [decide_eq_false_iff_not] at this
      omega))) (wq5 (runes s).1 hl hi) (wq6 (runes s).1 hl) (wq7 (runes s).1 hl) (wq8 (pnS (runes s).1) (by omega))
  have e : zzs s = z4p [(decide (0 ≤ (runes s).2), 7), (codB s, 4), (zlx s, 11), (cat ((runes s).1.getD 0 0) == 4, 10), (strL (runes s).1, 8), (hasB (runes s).1 && !zia (runes s).1, 9),
    (!z1z (runes s).1, 12), (decide (63 < 4 + (pnS (runes s).1).length), 5)] := rfl
  rw [← e] at hf
  rw [← z0r]
  refine z0g (z := false) (ts := [.tmp 4]) ok1 Tryz.func14 rfl rfl (by decide +kernel) (by simp [Tryz.ntmps14]) rfl ?_
  generalize zzs s = wv at *
  generalize pnS (runes s).1 = P at *
  generalize z1z (runes s).1 = ok at *
  clear e hpl hr hi
  generalize (runes s).1 = L at *
  generalize (runes s).2 = a at *
  repeat' first | refine z09 (hu) ?_ ?_ | refine z1j [7, 0, 1, 3, 4, 5, 6, 2] (hf) ?_ | simp (maxSteps := 4000000) (disch := omega) only [bunL, bunD, bun, ↓z04, ↓z00, z02, findLabel, ↓reduceIte, imp, shift, z0b, z0a, unown, names, z06, below, noF, isF, z03, z08, z07, ren, givL, updM, z0c, renO, belowM, seval, -Int.reduceToNat, z0s, B9, D29, B21, B53, D98, bunN, Int.reduceToNat, tbB2, List.map_nil, List.nil_append, z0j, z0q, z0u, z0k, cl_i, cl_s, cl_b, ca_i, ca_s, ca_b] | exact z0i _ | refine z0h _ _ ?_ | exact Cln.cl | refine z05 _ ?_ | refine z01 _ _ ?_ ?_ | refine DR_q _ ?_ | (refine Fk.fk ?_ ?_ <;> intro hg <;> (try simp only [hg]) <;> (try simp only [bunB] at hg) <;> try (exfalso; first | omega | exact Bool.noConfusion hg | exact hg trivial)) | refine And.intro (by omega) ?_ | omega
  all_goals trace_state
end Go.AE
end
