/- Contracts of functions that the laws of this seat reach, and plain laws of what they compute. No condition beyond each statement's own. -/
import Derived.Test.YtpcfmiocndafcaaGreatSC
import Derived.Test.YtpcfmiocndafcaaGreatV1
set_option linter.unusedVariables false
set_option linter.unusedSimpArgs false
section
namespace Go.AE
open Go.Proofs
set_option maxRecDepth 20000
set_option maxHeartbeats 4000000
set_option linter.unusedSimpArgs false
theorem splt_take (soft : Bool) (l : List Int) (i : Nat) (h : i < l.length) : z0v soft (l.take (i + 1)) = z0v soft (l.take i) ++ one1 soft (l.getD i 0) := by
  unfold z0v
  rw [z1p l i 0 h, List.flatMap_append]; simp
theorem one1_len (soft : Bool) (r : Int) : (one1 soft r).length ≤ 4 := by
  rw [z2i]
  split
  · unfold syl; split <;> simp
  · split
    · simp
    · rename_i hst
      have hs : (spl r).2 = true := by
        unfold stop at hst
        cases hq : (spl r).2
        · rw [hq] at hst; simp at hst
        · rfl
      have h := z4w (q := fun _ s => decide ((oneF 5 true s.2.1).length + (oneF 5 true s.2.2.1).length ≤ 4) && decide ((oneF 5 false s.2.1).length + (oneF 5 false s.2.2.1).length ≤ 4)) (by decide +kernel) (by decide +kernel) hs
      simp only [Bool.and_eq_true, decide_eq_true_eq] at h
      have h' : (oneF 5 soft (spl r).1.2.1).length + (oneF 5 soft (spl r).1.2.2.1).length ≤ 4 := by cases soft; exact h.2; exact h.1
      change (oneF 5 soft (spl r).1.2.1).length + _ ≤ 4 at h'
      split
      · show (oneF 5 soft (spl r).1.2.1).length ≤ 4; omega
      · rw [List.length_append]; exact h'
theorem zdd (soft : Bool) : ∀ (l : List Int), (z0v soft l).length ≤ 4 * l.length
  | [] => by simp [z0v]
  | a :: l => by
    have h1 := zdd soft l
    have h2 := one1_len soft a
    simp only [z0v, List.flatMap_cons, List.length_append, List.length_cons] at h1 ⊢
    omega
end Go.AE
end
section
namespace Go.AE
open Go.Proofs
set_option maxRecDepth 20000
set_option maxHeartbeats 4000000
set_option linter.unusedSimpArgs false
end Go.AE
end
section
namespace Go.AE
open Go.Proofs
set_option maxRecDepth 20000
set_option maxHeartbeats 4000000
set_option linter.unusedSimpArgs false
theorem z3l (s : St) : fzs s z0q = z0q := rfl
theorem z1n : namess z0q = false := rfl
theorem z90 (r a n : Int) (h0 : 0 ≤ a) (h1 : 0 ≤ n) (h2 : a + n ≤ 2147483647) : Spec Tryz.prog 115 [I32 r, I32 a, I64 n] (Bv (decide (a ≤ r ∧ r < a + n))) := by
  refine z0g (z := false) (ts := [.tmp 6]) ok1 Tryz.func115 rfl rfl (by decide +kernel) (by simp [Tryz.ntmps115]) rfl ?_
  by_cases c1 : a ≤ r
  · by_cases c2 : r < a + n
    · repeat' first | simp (maxSteps := 4000000) (disch := omega) only [bunL, bunD, bun, ↓z04, ↓z01, z02, findLabel, ↓reduceIte, imp, shift, z0b, z0a, unown, names, z07, below, noF, isF, z03, z09, z08, ren, givL, updM, z0c, renO, belowM, seval, -Int.reduceToNat, B3, B4, B21, bunN, z3l, z0i, z1n] | refine DR_q _ ?_ | (refine Fk.fk ?_ ?_ <;> intro hg <;> (try simp only [hg]) <;> (try simp only [bunB] at hg) <;> try (exfalso; first | omega | exact Bool.noConfusion hg | exact hg trivial)) | refine And.intro (by omega) ?_ | omega
      simp [c1, c2]
    · repeat' first | simp (maxSteps := 4000000) (disch := omega) only [bunL, bunD, bun, ↓z04, ↓z01, z02, findLabel, ↓reduceIte, imp, shift, z0b, z0a, unown, names, z07, below, noF, isF, z03, z09, z08, ren, givL, updM, z0c, renO, belowM, seval, -Int.reduceToNat, B3, B4, B21, bunN, z3l, z0i, z1n] | refine DR_q _ ?_ | (refine Fk.fk ?_ ?_ <;> intro hg <;> (try simp only [hg]) <;> (try simp only [bunB] at hg) <;> try (exfalso; first | omega | exact Bool.noConfusion hg | exact hg trivial)) | refine And.intro (by omega) ?_ | omega
      simp [c1, c2]
  · repeat' first | simp (maxSteps := 4000000) (disch := omega) only [bunL, bunD, bun, ↓z04, ↓z01, z02, findLabel, ↓reduceIte, imp, shift, z0b, z0a, unown, names, z07, below, noF, isF, z03, z09, z08, ren, givL, updM, z0c, renO, belowM, seval, -Int.reduceToNat, B3, B4, B21, bunN, z3l, z0i, z1n] | refine DR_q _ ?_ | (refine Fk.fk ?_ ?_ <;> intro hg <;> (try simp only [hg]) <;> (try simp only [bunB] at hg) <;> try (exfalso; first | omega | exact Bool.noConfusion hg | exact hg trivial)) | refine And.intro (by omega) ?_ | omega
    simp [c1]
theorem zwa (a b : Int) (ha : okR a) (hb : okR b) : Spec Tryz.prog 102 [tab, I32 a, I32 b] (.tup [I32 (mk2 a b).1, Bv (mk2 a b).2]) := by
  rw [← z0l]
  refine z0g (z := false) (ts := [.tmp 6, .tmp 7]) ok1 Tryz.func102 rfl rfl (by decide +kernel) (by simp [Tryz.ntmps102]) rfl ?_
  have hp := pair_spec a b
  rw [← z0l] at hp
  obtain ⟨ha0, ha1⟩ := ha
  obtain ⟨hb0, hb1⟩ := hb
  have n1 := z90 a 4352 19 (by decide) (by decide) (by decide)
  have n2 := z90 b 4449 21 (by decide) (by decide) (by decide)
  have n3 := z90 a 44032 11172 (by decide) (by decide) (by decide)
  have n4 := z90 b 4520 27 (by decide) (by decide) (by decide)
  by_cases h1 : 4352 ≤ a ∧ a < 4352 + 19
  · rw [decide_eq_true h1] at n1
    rw [decide_eq_false (show ¬ (44032 ≤ a ∧ a < 44032 + 11172) by omega)] at n3
    have hh : han a = false := by simp [han]; omega
    by_cases h2 : 4449 ≤ b ∧ b < 4449 + 21
    · rw [decide_eq_true h2] at n2
      have e : mk2 a b = (44032 + (a - 4352) * 588 + (b - 4449) * 28, true) := by unfold mk2; rw [if_pos (by omega)]
      rw [e]
      repeat' first | refine z06 (n1) ?_ ?_ | refine z06 (n2) ?_ ?_ | simp (maxSteps := 4000000) (disch := omega) only [bunL, bunD, bun, ↓z04, ↓z01, z02, findLabel, ↓reduceIte, imp, shift, z0b, z0a, unown, names, z07, below, noF, isF, z03, z09, z08, ren, givL, updM, z0c, renO, belowM, seval, -Int.reduceToNat, z0w, z2s, D29, bunN, z3l, z0i, z1n] | exact z0f _ | refine z0e _ _ ?_ | exact Cln.cl | refine z05 _ ?_ | refine z00 _ _ ?_ ?_ | refine DR_q _ ?_ | (refine Fk.fk ?_ ?_ <;> intro hg <;> (try simp only [hg]) <;> (try simp only [bunB] at hg) <;> try (exfalso; first | omega | exact Bool.noConfusion hg | exact hg trivial)) | refine And.intro (by omega) ?_ | omega
      congr 4; omega
    · rw [decide_eq_false h2] at n2
      have e : mk2 a b = pr a b := by unfold mk2; rw [if_neg (by omega), if_neg (by rw [hh]; simp)]
      rw [e]
      repeat' first | refine z06 (n1) ?_ ?_ | refine z06 (n2) ?_ ?_ | refine z06 (n3) ?_ ?_ | refine z06 (n4) ?_ ?_ | refine z06 (hp) ?_ ?_ | simp (maxSteps := 4000000) (disch := omega) only [bunL, bunD, bun, ↓z04, ↓z01, z02, findLabel, ↓reduceIte, imp, shift, z0b, z0a, unown, names, z07, below, noF, isF, z03, z09, z08, ren, givL, updM, z0c, renO, belowM, seval, -Int.reduceToNat, z0w, z2s, z26, D29, bunN, z3l, z0i, z1n] | exact z0f _ | refine z0e _ _ ?_ | exact Cln.cl | refine z05 _ ?_ | refine z00 _ _ ?_ ?_ | refine DR_q _ ?_ | (refine Fk.fk ?_ ?_ <;> intro hg <;> (try simp only [hg]) <;> (try simp only [bunB] at hg) <;> try (exfalso; first | omega | exact Bool.noConfusion hg | exact hg trivial)) | refine And.intro (by omega) ?_ | omega
  · rw [decide_eq_false h1] at n1
    by_cases h3 : 44032 ≤ a ∧ a < 44032 + 11172
    · rw [decide_eq_true h3] at n3
      have hh : han a = true := by simp [han]; omega
      by_cases h5 : (a - 44032) % 28 = 0
      · by_cases h4 : 4520 ≤ b ∧ b < 4520 + 27
        · rw [decide_eq_true h4] at n4
          have e : mk2 a b = (a + b - 4519, true) := by unfold mk2; rw [if_neg (by omega), if_pos ⟨hh, h5, by omega⟩]
          rw [e]
          repeat' first | refine z06 (n1) ?_ ?_ | refine z06 (n2) ?_ ?_ | refine z06 (n3) ?_ ?_ | refine z06 (n4) ?_ ?_ | simp (maxSteps := 4000000) (disch := omega) only [bunL, bunD, bun, ↓z04, ↓z01, z02, findLabel, ↓reduceIte, imp, shift, z0b, z0a, unown, names, z07, below, noF, isF, z03, z09, z08, ren, givL, updM, z0c, renO, belowM, seval, -Int.reduceToNat, z0w, z2s, D29, bunN, z3l, z0i, z1n] | exact z0f _ | refine z0e _ _ ?_ | exact Cln.cl | refine z05 _ ?_ | refine z00 _ _ ?_ ?_ | refine DR_q _ ?_ | (refine Fk.fk ?_ ?_ <;> intro hg <;> (try simp only [hg]) <;> (try simp only [bunB] at hg) <;> try (exfalso; first | omega | exact Bool.noConfusion hg | exact hg trivial)) | refine And.intro (by omega) ?_ | omega
        · rw [decide_eq_false h4] at n4
          have e : mk2 a b = pr a b := by unfold mk2; rw [if_neg (by omega), if_neg (by rintro ⟨_, _, h⟩; omega)]
          rw [e]
          repeat' first | refine z06 (n1) ?_ ?_ | refine z06 (n2) ?_ ?_ | refine z06 (n3) ?_ ?_ | refine z06 (n4) ?_ ?_ | refine z06 (hp) ?_ ?_ | simp (maxSteps := 4000000) (disch := omega) only [bunL, bunD, bun, ↓z04, ↓z01, z02, findLabel, ↓reduceIte, imp, shift, z0b, z0a, unown, names, z07, below, noF, isF, z03, z09, z08, ren, givL, updM, z0c, renO, belowM, seval, -Int.reduceToNat, z0w, z2s, z26, D29, bunN, z3l, z0i, z1n] | exact z0f _ | refine z0e _ _ ?_ | exact Cln.cl | refine z05 _ ?_ | refine z00 _ _ ?_ ?_ | refine DR_q _ ?_ | (refine Fk.fk ?_ ?_ <;> intro hg <;> (try simp only [hg]) <;> (try simp only [bunB] at hg) <;> try (exfalso; first | omega | exact Bool.noConfusion hg | exact hg trivial)) | refine And.intro (by omega) ?_ | omega
      · have e : mk2 a b = pr a b := by unfold mk2; rw [if_neg (by omega), if_neg (by rintro ⟨_, h, _⟩; omega)]
        rw [e]
        repeat' first | refine z06 (n1) ?_ ?_ | refine z06 (n2) ?_ ?_ | refine z06 (n3) ?_ ?_ | refine z06 (n4) ?_ ?_ | refine z06 (hp) ?_ ?_ | simp (maxSteps := 4000000) (disch := omega) only [bunL, bunD, bun, ↓z04, ↓z01, z02, findLabel, ↓reduceIte, imp, shift, z0b, z0a, unown, names, z07, below, noF, isF, z03, z09, z08, ren, givL, updM, z0c, renO, belowM, seval, -Int.reduceToNat, z0w, z2s, z26, D29, bunN, z3l, z0i, z1n] | exact z0f _ | refine z0e _ _ ?_ | exact Cln.cl | refine z05 _ ?_ | refine z00 _ _ ?_ ?_ | refine DR_q _ ?_ | (refine Fk.fk ?_ ?_ <;> intro hg <;> (try simp only [hg]) <;> (try simp only [bunB] at hg) <;> try (exfalso; first | omega | exact Bool.noConfusion hg | exact hg trivial)) | refine And.intro (by omega) ?_ | omega
    · rw [decide_eq_false h3] at n3
      have hh : han a = false := by simp [han]; omega
      have e : mk2 a b = pr a b := by unfold mk2; rw [if_neg (by omega), if_neg (by rw [hh]; simp)]
      rw [e]
      repeat' first | refine z06 (n1) ?_ ?_ | refine z06 (n2) ?_ ?_ | refine z06 (n3) ?_ ?_ | refine z06 (n4) ?_ ?_ | refine z06 (hp) ?_ ?_ | simp (maxSteps := 4000000) (disch := omega) only [bunL, bunD, bun, ↓z04, ↓z01, z02, findLabel, ↓reduceIte, imp, shift, z0b, z0a, unown, names, z07, below, noF, isF, z03, z09, z08, ren, givL, updM, z0c, renO, belowM, seval, -Int.reduceToNat, z0w, z2s, z26, D29, bunN, z3l, z0i, z1n] | exact z0f _ | refine z0e _ _ ?_ | exact Cln.cl | refine z05 _ ?_ | refine z00 _ _ ?_ ?_ | refine DR_q _ ?_ | (refine Fk.fk ?_ ?_ <;> intro hg <;> (try simp only [hg]) <;> (try simp only [bunB] at hg) <;> try (exfalso; first | omega | exact Bool.noConfusion hg | exact hg trivial)) | refine And.intro (by omega) ?_ | omega
end Go.AE
end
section
namespace Go.AE
open Go.Proofs
set_option maxRecDepth 20000
set_option maxHeartbeats 8000000
set_option linter.unusedSimpArgs false
theorem z6b (k : Nat) : z2m k z0q = false := rfl
theorem z4j (k : Nat) : z5f k z0q = z0q := rfl
theorem tbB : type_of% (And.intro @z3l (And.intro @z0i (And.intro @z1n (And.intro @z0w (And.intro @z2s (And.intro @z26 (And.intro @z6b @z4j))))))) := (And.intro @z3l (And.intro @z0i (And.intro @z1n (And.intro @z0w (And.intro @z2s (And.intro @z26 (And.intro @z6b @z4j)))))))
def mx (ms : List Int) : Int := ms.foldl (fun a m => max a (cls m)) 0
theorem mx_snoc (ms : List Int) (x : Int) : mx (ms ++ [x]) = max (mx ms) (cls x) := by simp [mx]
theorem mx_nonneg (ms : List Int) : 0 ≤ mx ms ∧ mx ms ≤ 300 := by
  have key : ∀ (ms : List Int) (a : Int), 0 ≤ a → a ≤ 300 → 0 ≤ ms.foldl (fun a m => max a (cls m)) a ∧ ms.foldl (fun a m => max a (cls m)) a ≤ 300 := fun ms => by
    induction ms with
    | nil => intro a h h'; exact ⟨h, h'⟩
    | cons m ms ih => intro a h h'; have := zsq m; exact ih _ (show 0 ≤ max a (cls m) by omega) (show max a (cls m) ≤ 300 by omega)
  exact key ms 0 (Int.le_refl 0) (by decide)
theorem mx_all {c : Int} : ∀ {ms : List Int}, ms ≠ [] → (∀ m ∈ ms, 0 < cls m) → ((ms.all fun m => decide (cls m < c)) = true ↔ mx ms < c) := by
  intro ms h0 hp
  have key : ∀ (ms : List Int) (a : Int), (ms.foldl (fun a m => max a (cls m)) a < c ↔ a < c ∧ ∀ m ∈ ms, cls m < c) := fun ms => by
    induction ms with
    | nil => intro a; simp
    | cons m ms ih =>
      intro a
      rw [List.foldl_cons, ih]
      simp only [List.mem_cons, forall_eq_or_imp]
      constructor
      · rintro ⟨h1, h2⟩; exact ⟨by omega, by omega, h2⟩
      · rintro ⟨h1, h2, h3⟩; exact ⟨by omega, h3⟩
  have := key ms 0
  unfold mx
  rw [this]
  simp only [List.all_eq_true, decide_eq_true_eq]
  refine ⟨fun h => ⟨?_, h⟩, fun h => h.2⟩
  cases ms with
  | nil => exact absurd rfl h0
  | cons m ms =>
    have h1 := h m (by simp)
    have h2 := hp m (by simp)
    omega
def stI (s : JS) : Int := match s.st with
  | none => -1
  | some _ => s.pre.length
theorem put_st (s : JS) (x : Int) : stI (s.put x) = (if cls x = 0 then (s.out.length : Int) else stI s) ∧ mx (s.put x).ms = (if cls x = 0 then 0 else max (mx s.ms) (cls x)) := by
  unfold JS.put
  split
  · exact ⟨rfl, rfl⟩
  · exact ⟨rfl, mx_snoc _ _⟩
structure JOk (s : JS) : Prop where
  pre : ∀ r ∈ s.out, okR r
theorem jOk_run {l : List Int} (h : ∀ r ∈ l, okR r) : ∀ r ∈ (jRun l).out, okR r := by
  have key : ∀ (l : List Int) (s : JS), (∀ r ∈ l, okR r) → (∀ r ∈ s.out, okR r) → ∀ r ∈ (l.foldl z3c s).out, okR r := fun l => by
    induction l with
    | nil => intro s _ h; exact h
    | cons x l ih =>
      intro s h1 h2
      refine ih _ (fun r hr => h1 r (by simp [hr])) ?_
      have hp : ∀ r ∈ (s.put x).out, okR r := fun r hr => by
        rw [z7e] at hr
        rcases List.mem_append.1 hr with hr | hr
        · exact h2 r hr
        · simp at hr; subst hr; exact h1 _ (by simp)
      unfold z3c
      split
      · exact hp
      · rename_i b hb
        split
        · split
          · rename_i h3
            intro r hr
            simp only [JS.out, Option.toList_some, List.mem_append, List.mem_cons, List.not_mem_nil, or_false] at hr
            rcases hr with (hr | hr) | hr
            · exact h2 r (by simp [JS.out, hr])
            · subst hr; have := mk2_cls h3; unfold okR; omega
            · exact h2 r (by simp [JS.out, hr])
          · exact hp
        · exact hp
  exact key l _ h (by simp [JS.out])
theorem zvv (l : List Int) (hl : l.length ≤ 500000) (hr : ∀ r ∈ l, okR r) : Spec Tryz.prog 82 [tab, .sl l.length (l.map I32)] (.own 21 1 (z98 l).length ((z98 l).map I32)) := by
  rw [← z0l]
  refine z0g (z := false) (ts := [.tmp 4]) ok1 Tryz.func82 rfl rfl (by decide +kernel) (by simp [Tryz.ntmps82]) rfl ?_
  repeat' first | simp (maxSteps := 4000000) (disch := omega) only [bunL, bunD, bun, ↓z04, ↓z01, z02, findLabel, ↓reduceIte, imp, shift, z0b, z0a, unown, names, z07, below, noF, isF, z03, z09, z08, ren, givL, updM, z0c, renO, belowM, seval, -Int.reduceToNat, D29, B21, B41, bunN, z3l, z0i, z1n, z0w, z2s, z26, z6b, z4j] | refine DR_q _ ?_ | (refine Fk.fk ?_ ?_ <;> intro hg <;> (try simp only [hg]) <;> (try simp only [bunB] at hg) <;> try (exfalso; first | omega | exact Bool.noConfusion hg | exact hg trivial)) | refine And.intro (by omega) ?_ | omega
  refine z0m (fun i : Nat => ⟨[(2, .ptr 0 0), (5, .ref 2 0 (jRun (l.take i)).out.length), (6, I64 (stI (jRun (l.take i)))), (7, I64 (mx (jRun (l.take i)).ms)), (13, .sl l.length (l.map I32)), (14, I64 l.length), (15, I64 i)], [.row true 1 z0q, .dead, .arr 21 1 ((jRun (l.take i)).out.map I32)]⟩)
    (fun i => i ≤ l.length) (fun i => l.length - i) 0 (by simp) (by (simp (disch := omega) [wk, wkT, wkM, noF, isF, get, z0h, belowM, below, belows, I64, I32, Bv, U8, Sv, z0i, jRun, JS.out, stI, mx] <;> try omega)) ?_
  intro i hi
  by_cases hlt : i < l.length
  · have hjt := jRun_take l i hlt
    have hJ := JI.run (l.take i)
    have hJl := zkc (l.take i)
    have hJr := jOk_run (l := l.take i) (fun r h => hr r (List.mem_of_mem_take h))
    have hlt0 : (l.take i).length = i := by simp; omega
    have hx : okR (l.getD i 0) := hr _ (by simp [List.getD, hlt])
    obtain ⟨x, hxe⟩ : ∃ x, l.getD i 0 = x := ⟨_, rfl⟩
    rw [hxe] at hjt hx
    have hc := z4q x hx.1 hx.2
    rw [← z0l] at hc
    have hc0 := z6q x
    have hc1 := zsq x
    generalize jRun (l.take i) = J at *
    obtain ⟨hp1, hp2⟩ := put_st J x
    have hpo := z7e J x
    have hmx := mx_nonneg J.ms
    cases hst : J.st with
    | none =>
      have hj : z3c J x = J.put x := by unfold z3c; rw [hst]
      have hs0 : stI J = -1 := by unfold stI; rw [hst]
      by_cases hcx : cls x = 0
      · rw [if_pos hcx] at hp1 hp2
        repeat' first | refine z06 (hc) ?_ ?_ | simp (maxSteps := 4000000) (disch := omega) only [bunL, bunD, bun, ↓z04, ↓z01, z02, findLabel, ↓reduceIte, imp, shift, z0b, z0a, unown, names, z07, below, noF, isF, z03, z09, z08, ren, givL, updM, z0c, renO, belowM, seval, -Int.reduceToNat, hxe, hcx, hs0, D29, B21, B41, bunN, z3l, z0i, z1n, z0w, z2s, z26, z6b, z4j] | exact z0f _ | refine z0e _ _ ?_ | exact Cln.cl | refine z05 _ ?_ | refine z00 _ _ ?_ ?_ | refine DR_q _ ?_ | (refine Fk.fk ?_ ?_ <;> intro hg <;> (try simp only [hg]) <;> (try simp only [bunB] at hg) <;> try (exfalso; first | omega | exact Bool.noConfusion hg | exact hg trivial)) | refine And.intro (by omega) ?_ | omega
        refine ⟨i + 1, by omega, by omega, ?_⟩
        rw [hjt, hj, hp1, hp2, hpo]
        (simp (disch := omega) [wk, wkT, wkM, noF, isF, get, z0h, belowM, below, belows, I64, I32, Bv, U8, Sv, z0i] <;> try omega)
      · rw [if_neg hcx] at hp1 hp2
        repeat' first | refine z06 (hc) ?_ ?_ | simp (maxSteps := 4000000) (disch := omega) only [bunL, bunD, bun, ↓z04, ↓z01, z02, findLabel, ↓reduceIte, imp, shift, z0b, z0a, unown, names, z07, below, noF, isF, z03, z09, z08, ren, givL, updM, z0c, renO, belowM, seval, -Int.reduceToNat, hxe, hs0, D29, B21, B41, bunN, z3l, z0i, z1n, z0w, z2s, z26, z6b, z4j] | exact z0f _ | refine z0e _ _ ?_ | exact Cln.cl | refine z05 _ ?_ | refine z00 _ _ ?_ ?_ | refine DR_q _ ?_ | (refine Fk.fk ?_ ?_ <;> intro hg <;> (try simp only [hg]) <;> (try simp only [bunB] at hg) <;> try (exfalso; first | omega | exact Bool.noConfusion hg | exact hg trivial)) | refine And.intro (by omega) ?_ | omega
        refine ⟨i + 1, by omega, by omega, ?_⟩
        rw [hjt, hj, hp1, hp2, hpo, hs0]
        (simp (disch := omega) [wk, wkT, wkM, noF, isF, get, z0h, belowM, below, belows, I64, I32, Bv, U8, Sv, z0i] <;> try omega)
    | some b =>
      have hs0 : stI J = J.pre.length := by unfold stI; rw [hst]
      have hout : J.out = J.pre ++ b :: J.ms := by simp [JS.out, hst]
      have hbo : okR b := hJr b (by rw [hout]; simp)
      have hnp := zwa b x hbo hx
      rw [← z0l] at hnp
      have hol : J.out.length = J.pre.length + (J.ms.length + 1) := by rw [hout]; simp
      have hgb : J.out.getD J.pre.length 0 = b := by rw [hout]; exact z4y rfl
      have hall : ((J.ms.all fun m => decide (cls m < cls x)) = true) ↔ (J.ms = [] ∨ mx J.ms < cls x) := by
        by_cases h0 : J.ms = []
        · rw [h0]; simp
        · rw [mx_all h0 hJ.ms]; simp [h0]
      by_cases hm : mx J.ms < cls x
      · skip
        have hal := hall.2 (.inr hm)
        cases hmk : (mk2 b x).2 with
        | true =>
          have hj : z3c J x = ⟨J.pre, some (mk2 b x).1, J.ms⟩ := by
            unfold z3c; rw [hst]; dsimp only; rw [if_pos hal, if_pos hmk]
          have hset : J.out.set J.pre.length (mk2 b x).1 = J.pre ++ (mk2 b x).1 :: J.ms := by rw [hout]; exact zkz rfl
          repeat' first | refine z06 (hc) ?_ ?_ | refine z06 (hnp) ?_ ?_ | simp (maxSteps := 4000000) (disch := omega) only [bunL, bunD, bun, ↓z04, ↓z01, z02, findLabel, ↓reduceIte, imp, shift, z0b, z0a, unown, names, z07, below, noF, isF, z03, z09, z08, ren, givL, updM, z0c, renO, belowM, seval, -Int.reduceToNat, hxe, hs0, hgb, hmk, z48, hset, D29, B21, B41, bunN, z3l, z0i, z1n, z0w, z2s, z26, z6b, z4j] | exact z0f _ | refine z0e _ _ ?_ | exact Cln.cl | refine z05 _ ?_ | refine z00 _ _ ?_ ?_ | refine DR_q _ ?_ | (refine Fk.fk ?_ ?_ <;> intro hg <;> (try simp only [hg]) <;> (try simp only [bunB] at hg) <;> try (exfalso; first | omega | exact Bool.noConfusion hg | exact hg trivial)) | refine And.intro (by omega) ?_ | omega
          refine ⟨i + 1, by omega, by omega, ?_⟩
          have o1 : (JS.out ⟨J.pre, some (mk2 b x).1, J.ms⟩) = J.pre ++ (mk2 b x).1 :: J.ms := by simp [JS.out]
          have o2 : stI ⟨J.pre, some (mk2 b x).1, J.ms⟩ = J.pre.length := rfl
          rw [hjt, hj, o1, o2]
          (simp (disch := omega) [wk, wkT, wkM, noF, isF, get, z0h, belowM, below, belows, I64, I32, Bv, U8, Sv, z0i, hol] <;> try omega)
        | false =>
          have hj : z3c J x = J.put x := by
            unfold z3c; rw [hst]; dsimp only; rw [if_pos hal, if_neg (by rw [hmk]; simp)]
          by_cases hcx : cls x = 0
          · rw [if_pos hcx] at hp1 hp2
            repeat' first | refine z06 (hc) ?_ ?_ | refine z06 (hnp) ?_ ?_ | simp (maxSteps := 4000000) (disch := omega) only [bunL, bunD, bun, ↓z04, ↓z01, z02, findLabel, ↓reduceIte, imp, shift, z0b, z0a, unown, names, z07, below, noF, isF, z03, z09, z08, ren, givL, updM, z0c, renO, belowM, seval, -Int.reduceToNat, hxe, hcx, hs0, hgb, hmk, D29, B21, B41, bunN, z3l, z0i, z1n, z0w, z2s, z26, z6b, z4j] | exact z0f _ | refine z0e _ _ ?_ | exact Cln.cl | refine z05 _ ?_ | refine z00 _ _ ?_ ?_ | refine DR_q _ ?_ | (refine Fk.fk ?_ ?_ <;> intro hg <;> (try simp only [hg]) <;> (try simp only [bunB] at hg) <;> try (exfalso; first | omega | exact Bool.noConfusion hg | exact hg trivial)) | refine And.intro (by omega) ?_ | omega
            all_goals refine ⟨i + 1, by omega, by omega, ?_⟩
            all_goals rw [hjt, hj, hp1, hp2, hpo]
            all_goals (simp (disch := omega) [wk, wkT, wkM, noF, isF, get, z0h, belowM, below, belows, I64, I32, Bv, U8, Sv, z0i] <;> try omega)
          · rw [if_neg hcx] at hp1 hp2
            repeat' first | refine z06 (hc) ?_ ?_ | refine z06 (hnp) ?_ ?_ | simp (maxSteps := 4000000) (disch := omega) only [bunL, bunD, bun, ↓z04, ↓z01, z02, findLabel, ↓reduceIte, imp, shift, z0b, z0a, unown, names, z07, below, noF, isF, z03, z09, z08, ren, givL, updM, z0c, renO, belowM, seval, -Int.reduceToNat, hxe, hs0, hgb, hmk, D29, B21, B41, bunN, z3l, z0i, z1n, z0w, z2s, z26, z6b, z4j] | exact z0f _ | refine z0e _ _ ?_ | exact Cln.cl | refine z05 _ ?_ | refine z00 _ _ ?_ ?_ | refine DR_q _ ?_ | (refine Fk.fk ?_ ?_ <;> intro hg <;> (try simp only [hg]) <;> (try simp only [bunB] at hg) <;> try (exfalso; first | omega | exact Bool.noConfusion hg | exact hg trivial)) | refine And.intro (by omega) ?_ | omega
            all_goals refine ⟨i + 1, by omega, by omega, ?_⟩
            all_goals rw [hjt, hj, hp1, hp2, hpo, hs0]
            all_goals (simp (disch := omega) [wk, wkT, wkM, noF, isF, get, z0h, belowM, below, belows, I64, I32, Bv, U8, Sv, z0i] <;> try omega)
      · by_cases h0 : J.ms = []
        · have hml : J.ms.length = 0 := by rw [h0]; rfl
          have hal := hall.2 (.inl h0)
          cases hmk : (mk2 b x).2 with
          | true =>
            have hj : z3c J x = ⟨J.pre, some (mk2 b x).1, J.ms⟩ := by
              unfold z3c; rw [hst]; dsimp only; rw [if_pos hal, if_pos hmk]
            have hset : J.out.set J.pre.length (mk2 b x).1 = J.pre ++ (mk2 b x).1 :: J.ms := by rw [hout]; exact zkz rfl
            repeat' first | refine z06 (hc) ?_ ?_ | refine z06 (hnp) ?_ ?_ | simp (maxSteps := 4000000) (disch := omega) only [bunL, bunD, bun, ↓z04, ↓z01, z02, findLabel, ↓reduceIte, imp, shift, z0b, z0a, unown, names, z07, below, noF, isF, z03, z09, z08, ren, givL, updM, z0c, renO, belowM, seval, -Int.reduceToNat, hxe, hs0, hgb, hmk, z48, hset, D29, B21, B41, bunN, z3l, z0i, z1n, z0w, z2s, z26, z6b, z4j] | exact z0f _ | refine z0e _ _ ?_ | exact Cln.cl | refine z05 _ ?_ | refine z00 _ _ ?_ ?_ | refine DR_q _ ?_ | (refine Fk.fk ?_ ?_ <;> intro hg <;> (try simp only [hg]) <;> (try simp only [bunB] at hg) <;> try (exfalso; first | omega | exact Bool.noConfusion hg | exact hg trivial)) | refine And.intro (by omega) ?_ | omega
            refine ⟨i + 1, by omega, by omega, ?_⟩
            have o1 : (JS.out ⟨J.pre, some (mk2 b x).1, J.ms⟩) = J.pre ++ (mk2 b x).1 :: J.ms := by simp [JS.out]
            have o2 : stI ⟨J.pre, some (mk2 b x).1, J.ms⟩ = J.pre.length := rfl
            rw [hjt, hj, o1, o2]
            (simp (disch := omega) [wk, wkT, wkM, noF, isF, get, z0h, belowM, below, belows, I64, I32, Bv, U8, Sv, z0i, hol] <;> try omega)
          | false =>
            have hj : z3c J x = J.put x := by
              unfold z3c; rw [hst]; dsimp only; rw [if_pos hal, if_neg (by rw [hmk]; simp)]
            by_cases hcx : cls x = 0
            · rw [if_pos hcx] at hp1 hp2
              repeat' first | refine z06 (hc) ?_ ?_ | refine z06 (hnp) ?_ ?_ | simp (maxSteps := 4000000) (disch := omega) only [bunL, bunD, bun, ↓z04, ↓z01, z02, findLabel, ↓reduceIte, imp, shift, z0b, z0a, unown, names, z07, below, noF, isF, z03, z09, z08, ren, givL, updM, z0c, renO, belowM, seval, -Int.reduceToNat, hxe, hcx, hs0, hgb, hmk, D29, B21, B41, bunN, z3l, z0i, z1n, z0w, z2s, z26, z6b, z4j] | exact z0f _ | refine z0e _ _ ?_ | exact Cln.cl | refine z05 _ ?_ | refine z00 _ _ ?_ ?_ | refine DR_q _ ?_ | (refine Fk.fk ?_ ?_ <;> intro hg <;> (try simp only [hg]) <;> (try simp only [bunB] at hg) <;> try (exfalso; first | omega | exact Bool.noConfusion hg | exact hg trivial)) | refine And.intro (by omega) ?_ | omega
              all_goals refine ⟨i + 1, by omega, by omega, ?_⟩
              all_goals rw [hjt, hj, hp1, hp2, hpo]
              all_goals (simp (disch := omega) [wk, wkT, wkM, noF, isF, get, z0h, belowM, below, belows, I64, I32, Bv, U8, Sv, z0i] <;> try omega)
            · rw [if_neg hcx] at hp1 hp2
              repeat' first | refine z06 (hc) ?_ ?_ | refine z06 (hnp) ?_ ?_ | simp (maxSteps := 4000000) (disch := omega) only [bunL, bunD, bun, ↓z04, ↓z01, z02, findLabel, ↓reduceIte, imp, shift, z0b, z0a, unown, names, z07, below, noF, isF, z03, z09, z08, ren, givL, updM, z0c, renO, belowM, seval, -Int.reduceToNat, hxe, hs0, hgb, hmk, D29, B21, B41, bunN, z3l, z0i, z1n, z0w, z2s, z26, z6b, z4j] | exact z0f _ | refine z0e _ _ ?_ | exact Cln.cl | refine z05 _ ?_ | refine z00 _ _ ?_ ?_ | refine DR_q _ ?_ | (refine Fk.fk ?_ ?_ <;> intro hg <;> (try simp only [hg]) <;> (try simp only [bunB] at hg) <;> try (exfalso; first | omega | exact Bool.noConfusion hg | exact hg trivial)) | refine And.intro (by omega) ?_ | omega
              all_goals refine ⟨i + 1, by omega, by omega, ?_⟩
              all_goals rw [hjt, hj, hp1, hp2, hpo, hs0]
              all_goals (simp (disch := omega) [wk, wkT, wkM, noF, isF, get, z0h, belowM, below, belows, I64, I32, Bv, U8, Sv, z0i] <;> try omega)
        · have hml : 0 < J.ms.length := List.length_pos_iff.2 h0
          have hj : z3c J x = J.put x := by
            unfold z3c; rw [hst]; dsimp only; rw [if_neg (fun h => (hall.1 h).elim h0 hm)]
          by_cases hcx : cls x = 0
          · rw [if_pos hcx] at hp1 hp2
            repeat' first | refine z06 (hc) ?_ ?_ | refine z06 (hnp) ?_ ?_ | simp (maxSteps := 4000000) (disch := omega) only [bunL, bunD, bun, ↓z04, ↓z01, z02, findLabel, ↓reduceIte, imp, shift, z0b, z0a, unown, names, z07, below, noF, isF, z03, z09, z08, ren, givL, updM, z0c, renO, belowM, seval, -Int.reduceToNat, hxe, hcx, hs0, hgb, D29, B21, B41, bunN, z3l, z0i, z1n, z0w, z2s, z26, z6b, z4j] | exact z0f _ | refine z0e _ _ ?_ | exact Cln.cl | refine z05 _ ?_ | refine z00 _ _ ?_ ?_ | refine DR_q _ ?_ | (refine Fk.fk ?_ ?_ <;> intro hg <;> (try simp only [hg]) <;> (try simp only [bunB] at hg) <;> try (exfalso; first | omega | exact Bool.noConfusion hg | exact hg trivial)) | refine And.intro (by omega) ?_ | omega
            all_goals refine ⟨i + 1, by omega, by omega, ?_⟩
            all_goals rw [hjt, hj, hp1, hp2, hpo]
            all_goals (simp (disch := omega) [wk, wkT, wkM, noF, isF, get, z0h, belowM, below, belows, I64, I32, Bv, U8, Sv, z0i] <;> try omega)
          · rw [if_neg hcx] at hp1 hp2
            repeat' first | refine z06 (hc) ?_ ?_ | refine z06 (hnp) ?_ ?_ | simp (maxSteps := 4000000) (disch := omega) only [bunL, bunD, bun, ↓z04, ↓z01, z02, findLabel, ↓reduceIte, imp, shift, z0b, z0a, unown, names, z07, below, noF, isF, z03, z09, z08, ren, givL, updM, z0c, renO, belowM, seval, -Int.reduceToNat, hxe, hs0, hgb, D29, B21, B41, bunN, z3l, z0i, z1n, z0w, z2s, z26, z6b, z4j] | exact z0f _ | refine z0e _ _ ?_ | exact Cln.cl | refine z05 _ ?_ | refine z00 _ _ ?_ ?_ | refine DR_q _ ?_ | (refine Fk.fk ?_ ?_ <;> intro hg <;> (try simp only [hg]) <;> (try simp only [bunB] at hg) <;> try (exfalso; first | omega | exact Bool.noConfusion hg | exact hg trivial)) | refine And.intro (by omega) ?_ | omega
            all_goals refine ⟨i + 1, by omega, by omega, ?_⟩
            all_goals rw [hjt, hj, hp1, hp2, hpo, hs0]
            all_goals (simp (disch := omega) [wk, wkT, wkM, noF, isF, get, z0h, belowM, below, belows, I64, I32, Bv, U8, Sv, z0i] <;> try omega)
  · have e : i = l.length := by omega
    subst e
    rw [List.take_length] at *
    repeat' first | simp (maxSteps := 4000000) (disch := omega) only [bunL, bunD, bun, ↓z04, ↓z01, z02, findLabel, ↓reduceIte, imp, shift, z0b, z0a, unown, names, z07, below, noF, isF, z03, z09, z08, ren, givL, updM, z0c, renO, belowM, seval, -Int.reduceToNat, D29, B21, B41, bunN, z3l, z0i, z1n, z0w, z2s, z26, z6b, z4j] | refine DR_q _ ?_ | (refine Fk.fk ?_ ?_ <;> intro hg <;> (try simp only [hg]) <;> (try simp only [bunB] at hg) <;> try (exfalso; first | omega | exact Bool.noConfusion hg | exact hg trivial)) | refine And.intro (by omega) ?_ | omega
    rfl
end Go.AE
end
