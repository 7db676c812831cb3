/- Contracts of functions that the laws of this seat reach, and plain laws of what they compute. No condition beyond each statement's own. -/
import Derived.Test.YtekgeapohenheaaGreatSJ
import Derived.Test.YtekgeapohenheaaGreatLA
set_option linter.unusedVariables false
set_option linter.unusedSimpArgs false
section
namespace Go.AE
open Go.Proofs
set_option maxRecDepth 20000
set_option maxHeartbeats 8000000
set_option linter.unusedSimpArgs false
theorem zcu (a b : List UInt8) (ha : a.length ≤ 10000000) (hal : (runes a).1.length ≤ 240) (hb : b.length ≤ 10000000) (hbl : (runes b).1.length ≤ 240) : Spec Tryz.prog 13 [tab, Sv a, Sv b] (Bv (sameN a b)) := by
  have h1 := z56 a ha hal
  have h2 := z56 b hb hbl
  rw [← z0r] at h1 h2 ⊢
  refine z0g (z := false) (ts := [.tmp 6]) ok1 Tryz.func13 rfl rfl (by decide +kernel) (by simp [Tryz.ntmps13]) rfl ?_
  unfold sameN
  generalize namV a = x at *
  generalize namV b = y at *
  obtain ⟨x1, x2⟩ := x
  obtain ⟨y1, y2⟩ := y
  dsimp only at h1 h2 ⊢
  by_cases e1 : x2 = 0 <;> by_cases e2 : y2 = 0
  · subst e1 e2
    repeat' first | refine z09 (h1) ?_ ?_ | refine z09 (h2) ?_ ?_ | simp (maxSteps := 4000000) (disch := omega) only [bunL, bunD, bun, ↓z04, ↓z00, z02, findLabel, ↓reduceIte, imp, shift, z0b, z0a, unown, names, z06, below, noF, isF, z03, z08, z07, ren, givL, updM, z0c, renO, belowM, seval, -Int.reduceToNat, B9, D29, B31, bunN, Int.reduceToNat, tbB2, List.map_nil, List.nil_append, z0j] | exact z0i _ | refine z0h _ _ ?_ | exact Cln.cl | refine z05 _ ?_ | refine z01 _ _ ?_ ?_ | refine DR_q _ ?_ | (refine Fk.fk ?_ ?_ <;> intro hg <;> (try simp only [hg]) <;> (try simp only [bunB] at hg) <;> try (exfalso; first | omega | exact Bool.noConfusion hg | exact hg trivial)) | refine And.intro (by omega) ?_ | omega
    all_goals simp
  · subst e1
    have e : (y2 == 0) = false := by simpa using e2
    repeat' first | refine z09 (h1) ?_ ?_ | refine z09 (h2) ?_ ?_ | simp (maxSteps := 4000000) (disch := omega) only [bunL, bunD, bun, ↓z04, ↓z00, z02, findLabel, ↓reduceIte, imp, shift, z0b, z0a, unown, names, z06, below, noF, isF, z03, z08, z07, ren, givL, updM, z0c, renO, belowM, seval, -Int.reduceToNat, e2, e, B9, D29, B31, bunN, Int.reduceToNat, tbB2, List.map_nil, List.nil_append, z0j] | exact z0i _ | refine z0h _ _ ?_ | exact Cln.cl | refine z05 _ ?_ | refine z01 _ _ ?_ ?_ | refine DR_q _ ?_ | (refine Fk.fk ?_ ?_ <;> intro hg <;> (try simp only [hg]) <;> (try simp only [bunB] at hg) <;> try (exfalso; first | omega | exact Bool.noConfusion hg | exact hg trivial)) | refine And.intro (by omega) ?_ | omega
    all_goals simp [e2]
  · subst e2
    have e : (x2 == 0) = false := by simpa using e1
    repeat' first | refine z09 (h1) ?_ ?_ | refine z09 (h2) ?_ ?_ | simp (maxSteps := 4000000) (disch := omega) only [bunL, bunD, bun, ↓z04, ↓z00, z02, findLabel, ↓reduceIte, imp, shift, z0b, z0a, unown, names, z06, below, noF, isF, z03, z08, z07, ren, givL, updM, z0c, renO, belowM, seval, -Int.reduceToNat, e1, e, B9, D29, B31, bunN, Int.reduceToNat, tbB2, List.map_nil, List.nil_append, z0j] | exact z0i _ | refine z0h _ _ ?_ | exact Cln.cl | refine z05 _ ?_ | refine z01 _ _ ?_ ?_ | refine DR_q _ ?_ | (refine Fk.fk ?_ ?_ <;> intro hg <;> (try simp only [hg]) <;> (try simp only [bunB] at hg) <;> try (exfalso; first | omega | exact Bool.noConfusion hg | exact hg trivial)) | refine And.intro (by omega) ?_ | omega
    all_goals simp [e1]
  · have e : (x2 == 0) = false := by simpa using e1
    repeat' first | refine z09 (h1) ?_ ?_ | refine z09 (h2) ?_ ?_ | simp (maxSteps := 4000000) (disch := omega) only [bunL, bunD, bun, ↓z04, ↓z00, z02, findLabel, ↓reduceIte, imp, shift, z0b, z0a, unown, names, z06, below, noF, isF, z03, z08, z07, ren, givL, updM, z0c, renO, belowM, seval, -Int.reduceToNat, e1, e, B9, D29, B31, bunN, Int.reduceToNat, tbB2, List.map_nil, List.nil_append, z0j] | exact z0i _ | refine z0h _ _ ?_ | exact Cln.cl | refine z05 _ ?_ | refine z01 _ _ ?_ ?_ | refine DR_q _ ?_ | (refine Fk.fk ?_ ?_ <;> intro hg <;> (try simp only [hg]) <;> (try simp only [bunB] at hg) <;> try (exfalso; first | omega | exact Bool.noConfusion hg | exact hg trivial)) | refine And.intro (by omega) ?_ | omega
    all_goals simp [e1]
theorem z7g : Spec Tryz.prog 5 [] (Bv true) := by
  have n1 := z56 [65, 110, 110, 46, 66, 239, 188, 161] (by decide) (by decide)
  rw [show namV [65, 110, 110, 46, 66, 239, 188, 161] = ([97, 110, 110, 46, 98, 97], 0) by decide +kernel] at n1
  have n2 := z56 [97, 32, 98] (by decide) (by decide)
  rw [show namV [97, 32, 98] = ([], 8) by decide +kernel] at n2
  have n3 := z56 [] (by decide) (by decide)
  rw [namV_nil] at n3
  have n4 := z56 [215, 144, 97] (by decide) (by decide)
  rw [show namV [215, 144, 97] = ([], 9) by decide +kernel] at n4
  have n5 := z56 [255] (by decide) (by decide)
  rw [show namV [255] = ([], 7) by decide +kernel] at n5
  have k1 := z8z [65, 195, 132] (by decide) (by decide)
  rw [show claV [65, 195, 132] = 0 by decide +kernel] at k1
  have k2 := z8z [239, 188, 161] (by decide) (by decide)
  rw [show claV [239, 188, 161] = 8 by decide +kernel] at k2
  have k3 := z8z [194, 183] (by decide) (by decide)
  rw [show claV [194, 183] = 8 by decide +kernel] at k3
  have a1 := zcu [65, 78, 78] [97, 110, 110] (by decide) (by decide) (by decide) (by decide)
  rw [show sameN [65, 78, 78] [97, 110, 110] = true by decide +kernel] at a1
  have a2 := zcu [97] [98] (by decide) (by decide) (by decide) (by decide)
  rw [show sameN [97] [98] = false by decide +kernel] at a2
  have p1 := z5v 126
  rw [show pch 126 = true by decide +kernel] at p1
  have p2 := z5v 32
  rw [show pch 32 = false by decide +kernel] at p2
  have p3 := z5v 913
  rw [show pch 913 = true by decide +kernel] at p3
  have p4 := z5v 8490
  rw [show pch 8490 = false by decide +kernel] at p4
  rw [← z0r] at n1 n2 n3 n4 n5 k1 k2 k3 a1 a2 p1 p2 p3 p4
  refine z0g (z := false) (ts := [.tmp 0]) ok1 Tryz.func5 rfl rfl (by decide +kernel) (by simp [Tryz.ntmps5]) rfl ?_
  repeat' first | refine z09 (zhy) ?_ ?_ | refine z09 (n1) ?_ ?_ | refine z09 (n2) ?_ ?_ | refine z09 (n3) ?_ ?_ | refine z09 (n4) ?_ ?_ | refine z09 (n5) ?_ ?_ | refine z09 (k1) ?_ ?_ | refine z09 (k2) ?_ ?_ | refine z09 (k3) ?_ ?_ | refine z09 (a1) ?_ ?_ | refine z09 (a2) ?_ ?_ | refine z09 (p1) ?_ ?_ | refine z09 (p2) ?_ ?_ | refine z09 (p3) ?_ ?_ | refine z09 (p4) ?_ ?_ | simp (maxSteps := 4000000) (disch := omega) only [bunL, bunD, bun, ↓z04, ↓z00, z02, findLabel, ↓reduceIte, imp, shift, z0b, z0a, unown, names, z06, below, noF, isF, z03, z08, z07, ren, givL, updM, z0c, renO, belowM, seval, -Int.reduceToNat, B9, D29, B31, bunN, Int.reduceToNat, tbB2, List.map_nil, List.nil_append, z0j] | exact z0i _ | refine z0h _ _ ?_ | exact Cln.cl | refine z05 _ ?_ | refine z01 _ _ ?_ ?_ | refine DR_q _ ?_ | (refine Fk.fk ?_ ?_ <;> intro hg <;> (try simp only [hg]) <;> (try simp only [bunB] at hg) <;> try (exfalso; first | omega | exact Bool.noConfusion hg | exact hg trivial)) | refine And.intro (by omega) ?_ | omega
  all_goals trace_state
end Go.AE
end
section
namespace Go.AE
open Go.Proofs
set_option maxRecDepth 20000
set_option maxHeartbeats 8000000
set_option linter.unusedSimpArgs false
theorem zac (s : List UInt8) : Spec Tryz.prog 4 [Sv s] (Bv true) := by
  refine z0g (z := false) (ts := [.tmp 2]) ok1 Tryz.func4 rfl rfl (by decide +kernel) (by simp [Tryz.ntmps4]) rfl ?_
  by_cases hs : s.length ≤ 150
  · have hl := zza s
    have w1 := zzv s (by omega) (by omega)
    by_cases hw : zzs s = 0
    · obtain ⟨k0, n0⟩ := zzu (wide_of hw)
      have n1 := z56 s (by omega) (by omega)
      have k1 := z8z s (by omega) (by omega)
      rw [n0] at n1
      rw [k0] at k1
      rw [hw] at w1
      have bb : (s == s) = true := by simp
      rw [← z0r] at w1 n1 k1
      repeat' first | refine z09 (z7g) ?_ ?_ | refine z09 (zhy) ?_ ?_ | refine z09 (w1) ?_ ?_ | refine z09 (n1) ?_ ?_ | refine z09 (k1) ?_ ?_ | simp (maxSteps := 4000000) (disch := omega) only [bunL, bunD, bun, ↓z04, ↓z00, z02, findLabel, ↓reduceIte, imp, shift, z0b, z0a, unown, names, z06, below, noF, isF, z03, z08, z07, ren, givL, updM, z0c, renO, belowM, seval, -Int.reduceToNat, B9, D29, B31, bunN, Int.reduceToNat, tbB2, List.map_nil, List.nil_append, z0j] | exact z0i _ | refine z0h _ _ ?_ | exact Cln.cl | refine z05 _ ?_ | refine z01 _ _ ?_ ?_ | refine DR_q _ ?_ | (refine Fk.fk ?_ ?_ <;> intro hg <;> (try simp only [hg]) <;> (try simp only [bunB] at hg) <;> try (exfalso; first | omega | exact Bool.noConfusion hg | exact hg trivial)) | refine And.intro (by omega) ?_ | omega
      all_goals trace_state
    · rw [← z0r] at w1
      repeat' first | refine z09 (z7g) ?_ ?_ | refine z09 (zhy) ?_ ?_ | refine z09 (w1) ?_ ?_ | simp (maxSteps := 4000000) (disch := omega) only [bunL, bunD, bun, ↓z04, ↓z00, z02, findLabel, ↓reduceIte, imp, shift, z0b, z0a, unown, names, z06, below, noF, isF, z03, z08, z07, ren, givL, updM, z0c, renO, belowM, seval, -Int.reduceToNat, hw, B9, D29, B31, bunN, Int.reduceToNat, tbB2, List.map_nil, List.nil_append, z0j] | exact z0i _ | refine z0h _ _ ?_ | exact Cln.cl | refine z05 _ ?_ | refine z01 _ _ ?_ ?_ | refine DR_q _ ?_ | (refine Fk.fk ?_ ?_ <;> intro hg <;> (try simp only [hg]) <;> (try simp only [bunB] at hg) <;> try (exfalso; first | omega | exact Bool.noConfusion hg | exact hg trivial)) | refine And.intro (by omega) ?_ | omega
      all_goals trace_state
  · repeat' first | refine z09 (z7g) ?_ ?_ | simp (maxSteps := 4000000) (disch := omega) only [bunL, bunD, bun, ↓z04, ↓z00, z02, findLabel, ↓reduceIte, imp, shift, z0b, z0a, unown, names, z06, below, noF, isF, z03, z08, z07, ren, givL, updM, z0c, renO, belowM, seval, -Int.reduceToNat, B9, D29, B31, bunN, Int.reduceToNat, tbB2, List.map_nil, List.nil_append, z0j] | exact z0i _ | refine z0h _ _ ?_ | exact Cln.cl | refine z05 _ ?_ | refine z01 _ _ ?_ ?_ | refine DR_q _ ?_ | (refine Fk.fk ?_ ?_ <;> intro hg <;> (try simp only [hg]) <;> (try simp only [bunB] at hg) <;> try (exfalso; first | omega | exact Bool.noConfusion hg | exact hg trivial)) | refine And.intro (by omega) ?_ | omega
end Go.AE
end
