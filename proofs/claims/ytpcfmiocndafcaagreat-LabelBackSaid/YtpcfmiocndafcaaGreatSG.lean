/- Contracts of functions that the laws of this seat reach, and plain laws of what they compute. No condition beyond each statement's own. -/
import Derived.Test.YtpcfmiocndafcaaGreatSE
import Derived.WalkKit
import Derived.Lib.Walk
import Derived.Lib.SliceRun
import Derived.Lib.AppendZeros
import Derived.Lib.AppendZerosOnto
import Derived.Test.YtpcfmiocndafcaaGreatV1
set_option linter.unusedVariables false
set_option linter.unusedSimpArgs false
section
namespace Go.AE
open Go.Proofs
set_option maxRecDepth 20000
set_option maxHeartbeats 8000000
set_option linter.unusedSimpArgs false
end Go.AE
end
section
set_option linter.unusedSimpArgs false
set_option linter.unusedVariables false
namespace Go.AE
open Go.Proofs Go.Lib
set_option maxHeartbeats 4000000 in
set_option maxRecDepth 100000 in
theorem grow_run (w : World) (n : Nat) (h0 : 0 < n) (hn : n ≤ 1000000) : Calls Tryz.prog 129 #[.slice none 0 0, .int .i64 n] w fun e w' =>
    e = .returned (.slice (some ⟨w.heap.size, 0, none⟩) 0 (grownCap w n 0 21)) ∧ w' = w.drew.alloc (.cells (Builtin.zeroCells (Value.int .i32 0).cells n ++ Builtin.zeroCells (Value.int .i32 0).cells (grownCap w n 0 21 - n)) 21) := by
  have happ : ∀ ty, (Builtin.append_ #[41, 3] ty #[.slice none 0 0, .int .i64 n]).run Tryz.prog w = _ := fun ty =>
    run_append_nil_zeros (P := Tryz.prog) w 41 3 ty 21 _ (.int .i32 0) .i64 .i64 Tryz.underlying41 Tryz.underlying3 rfl rfl n h0 (by decide) (by omega) (by show n * 4 ≤ _; omega)
  have hge : n ≤ grownCap w n 0 21 := grownCap_ge w _ 0 21
  have hle : grownCap w n 0 21 ≤ maxLen := grownCap_le_maxLen w _ 0 21 (by unfold maxLen; omega)
  go_enter Tryz.func129, Tryz.ntmps129
  go_wp2_with (at_builtin; refine Lib.wpList_append_run _ rfl _ _ _ _ rfl _ _ rfl rfl _ _ (happ _) ?_)
  go_ret
  exact ⟨rfl, rfl⟩
set_option maxHeartbeats 4000000 in
set_option maxRecDepth 100000 in
theorem grow_run0 (w : World) : Calls Tryz.prog 129 #[.slice none 0 0, .int .i64 0] w fun e w' => e = .returned (.slice none 0 0) ∧ w' = w := by
  go_enter Tryz.func129, Tryz.ntmps129
  go_wp2
  go_ret
  exact ⟨rfl, rfl⟩
theorem grow_spec (n : Nat) (hn : n ≤ 1000000) : Spec Tryz.prog 129 [.v (.slice none 0 0), I64 n] (.own 21 1 0 []) := by
  refine ⟨⟨_, Tryz.func129, by decide +kernel, by decide +kernel⟩, fun w F vs hw hr => ?_⟩
  obtain ⟨v0, v1, rfl, h0, h1⟩ : ∃ v0 v1, vs = [v0, v1] ∧ Rep w F [] (.v (.slice none 0 0)) v0 ∧ Rep w F [] (I64 n) v1 := by
    cases hr with
    | cons h0 hr => cases hr with
      | cons h1 hr => cases hr; exact ⟨_, _, rfl, h0, h1⟩
  cases h0
  cases h1
  rcases Nat.eq_zero_or_pos n with rfl | hp
  · refine (grow_run0 w).mono ?_
    rintro e w' ⟨rfl, rfl⟩
    refine ⟨_, F, [none], rfl, Grow.refl _, fun b h => h, fun b h => ⟨.inl h, hw b h⟩, .ref0 rfl, ?_, ?_⟩
    · refine ⟨rfl, fun id x hx => ?_, fun id L hx => ?_, fun i j L M hi hj => ?_⟩
      · cases id with
        | zero => cases hx; exact ⟨0, [], ⟨rfl, .inl ⟨rfl, rfl⟩⟩, .nil, by simp, by decide, fun L h => by cases h⟩
        | succ id => cases hx
      · cases id with
        | zero => cases hx
        | succ id => cases hx
      · cases i with
        | zero => cases hi
        | succ i => cases hi
    · intro id L hL
      cases id with
      | zero => cases hL
      | succ id => cases hL
  · refine (grow_run w n hp hn).mono ?_
    rintro e w' ⟨rfl, hw'⟩
    have hge : n ≤ grownCap w n 0 21 := grownCap_ge w _ 0 21
    have hle : grownCap w n 0 21 ≤ maxLen := grownCap_le_maxLen w _ 0 21 (by unfold maxLen; omega)
    have hsz : w'.heap.size = w.heap.size + 1 := by rw [hw']; exact Array.size_push _
    have hold : ∀ k, k < w.heap.size → w'.heap[k]? = w.heap[k]? := fun k hk => by
      rw [hw']
      exact RowKit.Below.heap_alloc w.drew _ k hk
    have hnew : w'.heap[w.heap.size]? = some (.cells (Builtin.zeroCells (Value.int .i32 0).cells n ++ Builtin.zeroCells (Value.int .i32 0).cells (grownCap w n 0 21 - n)) 21 (0, 0)) := by
      rw [hw']
      exact heap_alloc_new w.drew _
    have hrep : Rep w' F [some ⟨w.heap.size, 0, grownCap w n 0 21⟩] (.ref 0 0 0) (.slice (some ⟨w.heap.size, 0, none⟩) 0 (grownCap w n 0 21)) := Rep.ref (L := ⟨w.heap.size, 0, grownCap w n 0 21⟩) rfl (fun _ => rfl) (Nat.zero_le _)
    refine ⟨_, F, [some ⟨w.heap.size, 0, grownCap w n 0 21⟩], rfl, ⟨by rw [hw']; rfl, by rw [hw']; rfl, by rw [hw']; rfl, by omega, hold⟩, fun b h => h, fun b h => ⟨.inl h, by have := hw b h; omega⟩, hrep, ?_, ?_⟩
    · refine ⟨rfl, fun id x hx => ?_, fun id L hx => ?_, fun i j L M hi hj _ => ?_⟩
      · cases id with
        | zero =>
          cases hx
          refine ⟨0, [], ⟨rfl, .inr ⟨w.heap.size, grownCap w n 0 21, _, rfl, Nat.zero_le _, hnew, Nat.zero_le _, hle, ?_, by simp⟩⟩, .nil, by simp, by decide, fun L h => by cases h; rfl⟩
          simp [size_zeroCells, Value.cells]; omega
        | succ id => cases hx
      · cases id with
        | zero =>
          cases hx
          refine ⟨fun h => ?_, by dsimp only; omega⟩
          have := hw _ h
          dsimp only at this
          omega
        | succ id => cases hx
      · cases i with
        | zero => cases j with
          | zero => rfl
          | succ j => cases hj
        | succ i => cases hi
    · intro id L hL
      cases id with
      | zero => cases hL; exact Nat.le_refl _
      | succ id => cases hL
end Go.AE
end
section
namespace Go.AE
open Go.Proofs
set_option maxRecDepth 20000
set_option maxHeartbeats 8000000
set_option linter.unusedSimpArgs false
theorem zos (A B : List Int) (hA : A.length ≤ 400000) (hB : B.length ≤ 400000) : Spec Tryz.prog 117 [.sl 2 [.sl A.length (A.map I32), .sl B.length (B.map I32)]] (.own 21 1 (A ++ B).length ((A ++ B).map I32)) := by
  refine z0g (z := false) (ts := [.tmp 2]) ok1 Tryz.func117 rfl rfl (by decide +kernel) (by simp [Tryz.ntmps117]) rfl ?_
  repeat' first | simp (maxSteps := 4000000) (disch := omega) only [bunL, bunD, bun, ↓z04, ↓z01, z02, findLabel, ↓reduceIte, imp, shift, z0b, z0a, unown, names, z07, below, noF, isF, z03, z09, z08, ren, givL, updM, z0c, renO, belowM, seval, -Int.reduceToNat, B3, B4, B9, D145, bunN] | refine DR_q _ ?_ | (refine Fk.fk ?_ ?_ <;> intro hg <;> (try simp only [hg]) <;> (try simp only [bunB] at hg) <;> try (exfalso; first | omega | exact Bool.noConfusion hg | exact hg trivial)) | refine And.intro (by omega) ?_ | omega
  refine z0m (fun x : Nat × Nat => ⟨[(0, .sl 2 [.sl A.length (A.map I32), .sl B.length (B.map I32)]), (3, I64 x.2), (9, .sl 2 [.sl A.length (A.map I32), .sl B.length (B.map I32)]), (10, I64 2), (11, I64 x.1)], [.dead]⟩)
    (fun x => (x.1 = 0 ∧ x.2 = 0) ∨ (x.1 = 1 ∧ x.2 = A.length) ∨ (x.1 = 2 ∧ x.2 = A.length + B.length)) (fun x => 2 - x.1) (0, 0) (.inl ⟨rfl, rfl⟩) (by simp [wk, wkT, wkM, noF, isF, get, z0h, belowM, below, belows, I64, I32, Bv, U8, Sv] <;> try omega) ?_
  rintro ⟨i, k⟩ h
  dsimp only at h
  rcases h with ⟨rfl, rfl⟩ | ⟨rfl, rfl⟩ | ⟨rfl, rfl⟩
  · repeat' first | simp (maxSteps := 4000000) (disch := omega) only [bunL, bunD, bun, ↓z04, ↓z01, z02, findLabel, ↓reduceIte, imp, shift, z0b, z0a, unown, names, z07, below, noF, isF, z03, z09, z08, ren, givL, updM, z0c, renO, belowM, seval, -Int.reduceToNat, B3, B4, B9, D145, bunN] | refine DR_q _ ?_ | (refine Fk.fk ?_ ?_ <;> intro hg <;> (try simp only [hg]) <;> (try simp only [bunB] at hg) <;> try (exfalso; first | omega | exact Bool.noConfusion hg | exact hg trivial)) | refine And.intro (by omega) ?_ | omega
    refine ⟨(1, A.length), .inr (.inl ⟨rfl, rfl⟩), by simp, ?_⟩
    (simp (disch := omega) [wk, wkT, wkM, noF, isF, get, z0h, belowM, below, belows, I64, I32, Bv, U8, Sv, ] <;> try omega)
  · repeat' first | simp (maxSteps := 4000000) (disch := omega) only [bunL, bunD, bun, ↓z04, ↓z01, z02, findLabel, ↓reduceIte, imp, shift, z0b, z0a, unown, names, z07, below, noF, isF, z03, z09, z08, ren, givL, updM, z0c, renO, belowM, seval, -Int.reduceToNat, B3, B4, B9, D145, bunN] | refine DR_q _ ?_ | (refine Fk.fk ?_ ?_ <;> intro hg <;> (try simp only [hg]) <;> (try simp only [bunB] at hg) <;> try (exfalso; first | omega | exact Bool.noConfusion hg | exact hg trivial)) | refine And.intro (by omega) ?_ | omega
    refine ⟨(2, A.length + B.length), .inr (.inr ⟨rfl, rfl⟩), by simp, ?_⟩
    (simp (disch := omega) [wk, wkT, wkM, noF, isF, get, z0h, belowM, below, belows, I64, I32, Bv, U8, Sv, ] <;> try omega)
  · repeat' first | refine z06 (grow_spec (A.length + B.length) (by omega)) ?_ ?_ | simp (maxSteps := 4000000) (disch := omega) only [bunL, bunD, bun, ↓z04, ↓z01, z02, findLabel, ↓reduceIte, imp, shift, z0b, z0a, unown, names, z07, below, noF, isF, z03, z09, z08, ren, givL, updM, z0c, renO, belowM, seval, -Int.reduceToNat, B3, B4, B9, D145, bunN] | exact z0f _ | refine z0e _ _ ?_ | exact Cln.cl | refine z05 _ ?_ | refine z00 _ _ ?_ ?_ | refine DR_q _ ?_ | (refine Fk.fk ?_ ?_ <;> intro hg <;> (try simp only [hg]) <;> (try simp only [bunB] at hg) <;> try (exfalso; first | omega | exact Bool.noConfusion hg | exact hg trivial)) | refine And.intro (by omega) ?_ | omega
    refine z0m (fun x : Nat × List Int => ⟨[(6, .ref 1 0 x.2.length), (25, .sl 2 [.sl A.length (A.map I32), .sl B.length (B.map I32)]), (26, I64 2), (27, I64 x.1)], [.dead, .arr 21 1 (x.2.map I32)]⟩)
      (fun x => (x.1 = 0 ∧ x.2 = []) ∨ (x.1 = 1 ∧ x.2 = A) ∨ (x.1 = 2 ∧ x.2 = A ++ B)) (fun x => 2 - x.1) (0, []) (.inl ⟨rfl, rfl⟩) (by (simp (disch := omega) [wk, wkT, wkM, noF, isF, get, z0h, belowM, below, belows, I64, I32, Bv, U8, Sv, ] <;> try omega)) ?_
    rintro ⟨i, k⟩ h
    dsimp only at h
    rcases h with ⟨rfl, rfl⟩ | ⟨rfl, rfl⟩ | ⟨rfl, rfl⟩
    · repeat' first | simp (maxSteps := 4000000) (disch := omega) only [bunL, bunD, bun, ↓z04, ↓z01, z02, findLabel, ↓reduceIte, imp, shift, z0b, z0a, unown, names, z07, below, noF, isF, z03, z09, z08, ren, givL, updM, z0c, renO, belowM, seval, -Int.reduceToNat, B3, B4, B9, D145, bunN] | refine DR_q _ ?_ | (refine Fk.fk ?_ ?_ <;> intro hg <;> (try simp only [hg]) <;> (try simp only [bunB] at hg) <;> try (exfalso; first | omega | exact Bool.noConfusion hg | exact hg trivial)) | refine And.intro (by omega) ?_ | omega
      refine ⟨(1, A), .inr (.inl ⟨rfl, rfl⟩), by simp, ?_⟩
      (simp (disch := omega) [wk, wkT, wkM, noF, isF, get, z0h, belowM, below, belows, I64, I32, Bv, U8, Sv, ] <;> try omega)
    · repeat' first | simp (maxSteps := 4000000) (disch := omega) only [bunL, bunD, bun, ↓z04, ↓z01, z02, findLabel, ↓reduceIte, imp, shift, z0b, z0a, unown, names, z07, below, noF, isF, z03, z09, z08, ren, givL, updM, z0c, renO, belowM, seval, -Int.reduceToNat, B3, B4, B9, D145, bunN] | refine DR_q _ ?_ | (refine Fk.fk ?_ ?_ <;> intro hg <;> (try simp only [hg]) <;> (try simp only [bunB] at hg) <;> try (exfalso; first | omega | exact Bool.noConfusion hg | exact hg trivial)) | refine And.intro (by omega) ?_ | omega
      refine ⟨(2, k ++ B), .inr (.inr ⟨rfl, rfl⟩), by simp, ?_⟩
      (simp (disch := omega) [wk, wkT, wkM, noF, isF, get, z0h, belowM, below, belows, I64, I32, Bv, U8, Sv, List.map_append] <;> try omega)
    · repeat' first | simp (maxSteps := 4000000) (disch := omega) only [bunL, bunD, bun, ↓z04, ↓z01, z02, findLabel, ↓reduceIte, imp, shift, z0b, z0a, unown, names, z07, below, noF, isF, z03, z09, z08, ren, givL, updM, z0c, renO, belowM, seval, -Int.reduceToNat, B3, B4, B9, D145, bunN] | refine DR_q _ ?_ | (refine Fk.fk ?_ ?_ <;> intro hg <;> (try simp only [hg]) <;> (try simp only [bunB] at hg) <;> try (exfalso; first | omega | exact Bool.noConfusion hg | exact hg trivial)) | refine And.intro (by omega) ?_ | omega
      all_goals trace_state
end Go.AE
end
section
namespace Go.AE
open Go.Proofs
set_option maxRecDepth 20000
set_option maxHeartbeats 8000000
set_option linter.unusedSimpArgs false
theorem nsyl_spec (r : Int) (h : 44032 ≤ r ∧ r ≤ 55203) : Spec Tryz.prog 116 [I32 r] (.own 21 1 (syl r).length ((syl r).map I32)) := by
  by_cases h28 : (r - 44032) % 28 = 0
  · have hs : syl r = [4352 + (r - 44032) / 588, 4449 + (r - 44032) % 588 / 28] := by rw [syl, if_pos h28]; rfl
    have e : (r - 44032) % 588 / 28 = (r - 44032) / 28 % 21 := by omega
    rw [hs, e]
    refine z0g (z := false) (ts := [.tmp 2]) ok1 Tryz.func116 rfl rfl (by decide +kernel) (by simp [Tryz.ntmps116]) rfl ?_
    repeat' first | simp (maxSteps := 4000000) (disch := omega) only [bunL, bunD, bun, ↓z04, ↓z01, z02, findLabel, ↓reduceIte, imp, shift, z0b, z0a, unown, names, z07, below, noF, isF, z03, z09, z08, ren, givL, updM, z0c, renO, belowM, seval, -Int.reduceToNat, B4, B21, B41, bunN, tbB, z0d] | refine DR_q _ ?_ | (refine Fk.fk ?_ ?_ <;> intro hg <;> (try simp only [hg]) <;> (try simp only [bunB] at hg) <;> try (exfalso; first | omega | exact Bool.noConfusion hg | exact hg trivial)) | refine And.intro (by omega) ?_ | omega
  · have hs : syl r = [4352 + (r - 44032) / 588, 4449 + (r - 44032) % 588 / 28, 4519 + (r - 44032) % 28] := by rw [syl, if_neg h28]; rfl
    have e : (r - 44032) % 588 / 28 = (r - 44032) / 28 % 21 := by omega
    rw [hs, e]
    refine z0g (z := false) (ts := [.tmp 2]) ok1 Tryz.func116 rfl rfl (by decide +kernel) (by simp [Tryz.ntmps116]) rfl ?_
    repeat' first | simp (maxSteps := 4000000) (disch := omega) only [bunL, bunD, bun, ↓z04, ↓z01, z02, findLabel, ↓reduceIte, imp, shift, z0b, z0a, unown, names, z07, below, noF, isF, z03, z09, z08, ren, givL, updM, z0c, renO, belowM, seval, -Int.reduceToNat, B4, B21, B41, bunN, tbB, z0d] | refine DR_q _ ?_ | (refine Fk.fk ?_ ?_ <;> intro hg <;> (try simp only [hg]) <;> (try simp only [bunB] at hg) <;> try (exfalso; first | omega | exact Bool.noConfusion hg | exact hg trivial)) | refine And.intro (by omega) ?_ | omega
theorem zn4 (r : Int) (soft : Bool) (hr : okR r) (h : han r = true ∨ stop soft r = true) : Spec Tryz.prog 101 [tab, I32 r, Bv soft] (.sl (one1 soft r).length ((one1 soft r).map I32)) := by
  have he := z2i soft r
  have hsp := z95 r
  have n3 := z90 r 44032 11172 (by decide) (by decide) (by decide)
  rw [← z0l] at hsp ⊢
  refine z0g (z := true) (ts := [.tmp 6]) ok1 Tryz.func101 rfl rfl (by decide +kernel) (by simp [Tryz.ntmps101]) rfl ?_
  cases hh : han r with
  | true =>
    rw [hh, if_pos rfl] at he
    have hb : 44032 ≤ r ∧ r ≤ 55203 := by simpa [han] using hh
    rw [decide_eq_true (show 44032 ≤ r ∧ r < 44032 + 11172 by omega)] at n3
    rw [he]
    repeat' first | refine z06 (hsp) ?_ ?_ | refine z06 (n3) ?_ ?_ | refine z06 (nsyl_spec r hb) ?_ ?_ | simp (maxSteps := 4000000) (disch := omega) only [bunL, bunD, bun, ↓z04, ↓z01, z02, findLabel, ↓reduceIte, imp, shift, z0b, z0a, unown, names, z07, below, noF, isF, z03, z09, z08, ren, givL, updM, z0c, renO, belowM, seval, -Int.reduceToNat, D29, D145, bunN, tbB, z0d] | exact z0f _ | refine z0e _ _ ?_ | exact Cln.cl | refine z05 _ ?_ | refine z00 _ _ ?_ ?_ | refine DR_q _ ?_ | (refine Fk.fk ?_ ?_ <;> intro hg <;> (try simp only [hg]) <;> (try simp only [bunB] at hg) <;> try (exfalso; first | omega | exact Bool.noConfusion hg | exact hg trivial)) | refine And.intro (by omega) ?_ | omega
    all_goals trace_state
  | false =>
    have hst := h.resolve_left (by rw [hh]; simp)
    rw [hh, hst] at he
    have hb : ¬ (44032 ≤ r ∧ r < 44032 + 11172) := by intro h'; simp [han] at hh; omega
    rw [decide_eq_false hb] at n3
    have hs : one1 soft r = [r] := by rw [he]; simp
    rw [hs]
    unfold stop at hst
    cases h2 : (spl r).2 with
    | false => repeat' first | refine z06 (hsp) ?_ ?_ | refine z06 (n3) ?_ ?_ | simp (maxSteps := 4000000) (disch := omega) only [bunL, bunD, bun, ↓z04, ↓z01, z02, findLabel, ↓reduceIte, imp, shift, z0b, z0a, unown, names, z07, below, noF, isF, z03, z09, z08, ren, givL, updM, z0c, renO, belowM, seval, -Int.reduceToNat, h2, D29, D145, bunN, tbB, z0d] | exact z0f _ | refine z0e _ _ ?_ | exact Cln.cl | refine z05 _ ?_ | refine z00 _ _ ?_ ?_ | refine DR_q _ ?_ | (refine Fk.fk ?_ ?_ <;> intro hg <;> (try simp only [hg]) <;> (try simp only [bunB] at hg) <;> try (exfalso; first | omega | exact Bool.noConfusion hg | exact hg trivial)) | refine And.intro (by omega) ?_ | omega
    | true =>
      rw [h2] at hst
      cases h3 : (spl r).1.2.2.2.1 with
      | false => rw [h3] at hst; simp at hst
      | true =>
        cases soft with
        | true => rw [h3] at hst; simp at hst
        | false => repeat' first | refine z06 (hsp) ?_ ?_ | refine z06 (n3) ?_ ?_ | simp (maxSteps := 4000000) (disch := omega) only [bunL, bunD, bun, ↓z04, ↓z01, z02, findLabel, ↓reduceIte, imp, shift, z0b, z0a, unown, names, z07, below, noF, isF, z03, z09, z08, ren, givL, updM, z0c, renO, belowM, seval, -Int.reduceToNat, h2, h3, D29, D145, bunN, tbB, z0d] | exact z0f _ | refine z0e _ _ ?_ | exact Cln.cl | refine z05 _ ?_ | refine z00 _ _ ?_ ?_ | refine DR_q _ ?_ | (refine Fk.fk ?_ ?_ <;> intro hg <;> (try simp only [hg]) <;> (try simp only [bunB] at hg) <;> try (exfalso; first | omega | exact Bool.noConfusion hg | exact hg trivial)) | refine And.intro (by omega) ?_ | omega
theorem none_spec : ∀ (n : Nat) (r : Int) (soft : Bool), Deep n r → okR r → Spec Tryz.prog 101 [tab, I32 r, Bv soft] (.sl (one1 soft r).length ((one1 soft r).map I32)) := by
  intro n
  induction n with
  | zero => intro r soft hd hr; exact zn4 r soft hr (.inr (by simp [stop, show (spl r).2 = false from hd]))
  | succ n ih =>
    intro r soft hd hr
    by_cases hs : han r = true ∨ stop soft r = true
    · exact zn4 r soft hr hs
    · have h1 : han r = false := by simpa using fun h => hs (.inl h)
      have h2 : stop soft r = false := by simpa using fun h => hs (.inr h)
      have he := z2i soft r
      rw [h1, h2] at he
      have hsp : (spl r).2 = true := by
        unfold stop at h2
        cases hq : (spl r).2
        · rw [hq] at h2; simp at h2
        · rfl
      have hsoft : ((spl r).1.2.2.2.1 && !soft) = false := by
        unfold stop at h2
        rw [hsp] at h2
        simpa using h2
      obtain ⟨b1, b2, b3, b4⟩ := zjb hsp
      have i1 := ih (spl r).1.2.1 soft (hd hsp).1 (by unfold okR; omega)
      have l1 := zav 5 soft (spl r).1.2.1
      have l2 := zav 5 soft (spl r).1.2.2.1
      rw [show oneF 5 soft (spl r).1.2.1 = one1 soft (spl r).1.2.1 from rfl] at l1
      rw [show oneF 5 soft (spl r).1.2.2.1 = one1 soft (spl r).1.2.2.1 from rfl] at l2
      have hspl := z95 r
      have n3 := z90 r 44032 11172 (by decide) (by decide) (by decide)
      have hb : ¬ (44032 ≤ r ∧ r < 44032 + 11172) := by intro h'; simp [han] at h1; omega
      rw [decide_eq_false hb] at n3
      by_cases h0 : (spl r).1.2.2.1 = 0
      · have hs1 : one1 soft r = one1 soft (spl r).1.2.1 := by rw [he]; simp [h0]
        rw [hs1]
        rw [← z0l] at hspl i1 ⊢
        refine z0g (z := true) (ts := [.tmp 6]) ok1 Tryz.func101 rfl rfl (by decide +kernel) (by simp [Tryz.ntmps101]) rfl ?_
        cases h3 : (spl r).1.2.2.2.1 with
        | false => repeat' first | refine z06 (hspl) ?_ ?_ | refine z06 (n3) ?_ ?_ | refine z06 (i1) ?_ ?_ | simp (maxSteps := 4000000) (disch := omega) only [bunL, bunD, bun, ↓z04, ↓z01, z02, findLabel, ↓reduceIte, imp, shift, z0b, z0a, unown, names, z07, below, noF, isF, z03, z09, z08, ren, givL, updM, z0c, renO, belowM, seval, -Int.reduceToNat, hsp, h3, h0, D29, D145, bunN, tbB, z0d] | exact z0f _ | refine z0e _ _ ?_ | exact Cln.cl | refine z05 _ ?_ | refine z00 _ _ ?_ ?_ | refine DR_q _ ?_ | (refine Fk.fk ?_ ?_ <;> intro hg <;> (try simp only [hg]) <;> (try simp only [bunB] at hg) <;> try (exfalso; first | omega | exact Bool.noConfusion hg | exact hg trivial)) | refine And.intro (by omega) ?_ | omega
        | true =>
          have : soft = true := by rw [h3] at hsoft; simpa using hsoft
          subst this
          repeat' first | refine z06 (hspl) ?_ ?_ | refine z06 (n3) ?_ ?_ | refine z06 (i1) ?_ ?_ | simp (maxSteps := 4000000) (disch := omega) only [bunL, bunD, bun, ↓z04, ↓z01, z02, findLabel, ↓reduceIte, imp, shift, z0b, z0a, unown, names, z07, below, noF, isF, z03, z09, z08, ren, givL, updM, z0c, renO, belowM, seval, -Int.reduceToNat, hsp, h3, h0, D29, D145, bunN, tbB, z0d] | exact z0f _ | refine z0e _ _ ?_ | exact Cln.cl | refine z05 _ ?_ | refine z00 _ _ ?_ ?_ | refine DR_q _ ?_ | (refine Fk.fk ?_ ?_ <;> intro hg <;> (try simp only [hg]) <;> (try simp only [bunB] at hg) <;> try (exfalso; first | omega | exact Bool.noConfusion hg | exact hg trivial)) | refine And.intro (by omega) ?_ | omega
      · have i2 := ih (spl r).1.2.2.1 soft ((hd hsp).2 h0) (by unfold okR; omega)
        have hs1 : one1 soft r = one1 soft (spl r).1.2.1 ++ one1 soft (spl r).1.2.2.1 := by rw [he]; simp [h0]
        have hcc := zos (one1 soft (spl r).1.2.1) (one1 soft (spl r).1.2.2.1) (by omega) (by omega)
        rw [hs1]
        rw [← z0l] at hspl i1 i2 ⊢
        refine z0g (z := true) (ts := [.tmp 6]) ok1 Tryz.func101 rfl rfl (by decide +kernel) (by simp [Tryz.ntmps101]) rfl ?_
        cases h3 : (spl r).1.2.2.2.1 with
        | false =>
          repeat' first | refine z06 (hspl) ?_ ?_ | refine z06 (n3) ?_ ?_ | refine z06 (i1) ?_ ?_ | refine z06 (i2) ?_ ?_ | refine z06 (hcc) ?_ ?_ | simp (maxSteps := 4000000) (disch := omega) only [bunL, bunD, bun, ↓z04, ↓z01, z02, findLabel, ↓reduceIte, imp, shift, z0b, z0a, unown, names, z07, below, noF, isF, z03, z09, z08, ren, givL, updM, z0c, renO, belowM, seval, -Int.reduceToNat, hsp, h3, D29, D145, bunN, tbB, z0d] | exact z0f _ | refine z0e _ _ ?_ | exact Cln.cl | refine z05 _ ?_ | refine z00 _ _ ?_ ?_ | refine DR_q _ ?_ | (refine Fk.fk ?_ ?_ <;> intro hg <;> (try simp only [hg]) <;> (try simp only [bunB] at hg) <;> try (exfalso; first | omega | exact Bool.noConfusion hg | exact hg trivial)) | refine And.intro (by omega) ?_ | omega
          all_goals trace_state
        | true =>
          have : soft = true := by rw [h3] at hsoft; simpa using hsoft
          subst this
          repeat' first | refine z06 (hspl) ?_ ?_ | refine z06 (n3) ?_ ?_ | refine z06 (i1) ?_ ?_ | refine z06 (i2) ?_ ?_ | refine z06 (hcc) ?_ ?_ | simp (maxSteps := 4000000) (disch := omega) only [bunL, bunD, bun, ↓z04, ↓z01, z02, findLabel, ↓reduceIte, imp, shift, z0b, z0a, unown, names, z07, below, noF, isF, z03, z09, z08, ren, givL, updM, z0c, renO, belowM, seval, -Int.reduceToNat, hsp, h3, D29, D145, bunN, tbB, z0d] | exact z0f _ | refine z0e _ _ ?_ | exact Cln.cl | refine z05 _ ?_ | refine z00 _ _ ?_ ?_ | refine DR_q _ ?_ | (refine Fk.fk ?_ ?_ <;> intro hg <;> (try simp only [hg]) <;> (try simp only [bunB] at hg) <;> try (exfalso; first | omega | exact Bool.noConfusion hg | exact hg trivial)) | refine And.intro (by omega) ?_ | omega
          all_goals trace_state
end Go.AE
end
section
namespace Go.AE
open Go.Proofs
set_option maxRecDepth 20000
set_option maxHeartbeats 8000000
set_option linter.unusedSimpArgs false
theorem noneS (r : Int) (soft : Bool) (hr : okR r) : Spec Tryz.prog 101 [tab, I32 r, Bv soft] (.sl (one1 soft r).length ((one1 soft r).map I32)) := none_spec 4 r soft (zk2 r) hr
theorem zwb (l : List Int) (soft : Bool) (hl : l.length ≤ 20000) (hr : ∀ r ∈ l, okR r) : Spec Tryz.prog 81 [tab, .sl l.length (l.map I32), Bv soft] (.own 21 1 (z0v soft l).length ((z0v soft l).map I32)) := by
  rw [← z0l]
  refine z0g (z := false) (ts := [.tmp 6]) ok1 Tryz.func81 rfl rfl (by decide +kernel) (by simp [Tryz.ntmps81]) rfl ?_
  repeat' first | simp (maxSteps := 4000000) (disch := omega) only [bunL, bunD, bun, ↓z04, ↓z01, z02, findLabel, ↓reduceIte, imp, shift, z0b, z0a, unown, names, z07, below, noF, isF, z03, z09, z08, ren, givL, updM, z0c, renO, belowM, seval, -Int.reduceToNat, D29, B21, B41, bunN, tbB] | refine DR_q _ ?_ | (refine Fk.fk ?_ ?_ <;> intro hg <;> (try simp only [hg]) <;> (try simp only [bunB] at hg) <;> try (exfalso; first | omega | exact Bool.noConfusion hg | exact hg trivial)) | refine And.intro (by omega) ?_ | omega
  refine z0m (fun i : Nat => ⟨[(2, Bv soft), (3, .ptr 0 0), (7, .ref 2 0 (z0v soft (l.take i)).length), (10, .sl l.length (l.map I32)), (11, I64 l.length), (12, I64 i)], [.row true 1 z0q, .dead, .arr 21 1 ((z0v soft (l.take i)).map I32)]⟩) (fun i => i ≤ l.length) (fun i => l.length - i) 0 (by simp) (by (simp (disch := omega) [wk, wkT, wkM, noF, isF, get, z0h, belowM, below, belows, I64, I32, Bv, U8, Sv, z0v, z0i] <;> try omega)) ?_
  intro i hi
  have hln := zdd soft (l.take i)
  have hlt0 : (l.take i).length = i := by simp; omega
  by_cases hlt : i < l.length
  · have ht := splt_take soft l i hlt
    have hg0 : okR (l.getD i 0) := hr _ (by simp [List.getD, hlt])
    have hno := noneS (l.getD i 0) soft hg0
    rw [← z0l] at hno
    have l1 := zav 5 soft (l.getD i 0)
    rw [show oneF 5 soft (l.getD i 0) = one1 soft (l.getD i 0) from rfl] at l1
    repeat' first | refine z06 (hno) ?_ ?_ | simp (maxSteps := 4000000) (disch := omega) only [bunL, bunD, bun, ↓z04, ↓z01, z02, findLabel, ↓reduceIte, imp, shift, z0b, z0a, unown, names, z07, below, noF, isF, z03, z09, z08, ren, givL, updM, z0c, renO, belowM, seval, -Int.reduceToNat, D29, B21, B41, bunN, tbB] | exact z0f _ | refine z0e _ _ ?_ | exact Cln.cl | refine z05 _ ?_ | refine z00 _ _ ?_ ?_ | refine DR_q _ ?_ | (refine Fk.fk ?_ ?_ <;> intro hg <;> (try simp only [hg]) <;> (try simp only [bunB] at hg) <;> try (exfalso; first | omega | exact Bool.noConfusion hg | exact hg trivial)) | refine And.intro (by omega) ?_ | omega
    refine ⟨i + 1, by omega, by omega, ?_⟩
    rw [ht]
    (simp (disch := omega) [wk, wkT, wkM, noF, isF, get, z0h, belowM, below, belows, I64, I32, Bv, U8, Sv, List.map_append, z0i] <;> try omega)
  · have e : i = l.length := by omega
    subst e
    rw [List.take_length] at *
    repeat' first | simp (maxSteps := 4000000) (disch := omega) only [bunL, bunD, bun, ↓z04, ↓z01, z02, findLabel, ↓reduceIte, imp, shift, z0b, z0a, unown, names, z07, below, noF, isF, z03, z09, z08, ren, givL, updM, z0c, renO, belowM, seval, -Int.reduceToNat, D29, B21, B41, bunN, tbB] | refine DR_q _ ?_ | (refine Fk.fk ?_ ?_ <;> intro hg <;> (try simp only [hg]) <;> (try simp only [bunB] at hg) <;> try (exfalso; first | omega | exact Bool.noConfusion hg | exact hg trivial)) | refine And.intro (by omega) ?_ | omega
end Go.AE
end
section
namespace Go.AE
open Go.Proofs
set_option maxRecDepth 20000
set_option maxHeartbeats 8000000
set_option linter.unusedSimpArgs false
theorem zkn : ∀ (f : Nat) (soft : Bool) (r : Int), okR r → ∀ x ∈ oneF f soft r, okR x
  | 0, _, r, h, x, hx => by simp [oneF] at hx; subst hx; exact h
  | f + 1, soft, r, h, x, hx => by
    rw [z5r] at hx
    split at hx
    · rename_i hh
      have : 44032 ≤ r ∧ r ≤ 55203 := by simpa [han] using hh
      unfold syl at hx
      split at hx <;> simp at hx <;> unfold okR <;> omega
    · split at hx
      · simp at hx; subst hx; exact h
      · rename_i hst
        have hs : (spl r).2 = true := by
          unfold stop at hst
          cases hq : (spl r).2
          · rw [hq] at hst; simp at hst
          · rfl
        obtain ⟨b1, b2, b3, b4⟩ := zjb hs
        split at hx
        · exact zkn f soft _ (by unfold okR; omega) x hx
        · rcases List.mem_append.1 hx with hx | hx
          · exact zkn f soft _ (by unfold okR; omega) x hx
          · exact zkn f soft _ (by unfold okR; omega) x hx
theorem splt_ok {soft : Bool} {l : List Int} (h : ∀ r ∈ l, okR r) : ∀ r ∈ z0v soft l, okR r := fun r hr => by
  obtain ⟨a, ha, hra⟩ := List.mem_flatMap.1 hr
  exact zkn 5 soft a (h a ha) r hra
theorem zkp : ∀ (T R : List Int), Kin cls (ordF R T) (R ++ T) ∧ (ordF R T).length = R.length + T.length
  | [], R => by rw [ordF, List.append_nil]; exact ⟨(z2c cls R).2, z20 cls R⟩
  | x :: T, R => by
    rw [ordF]
    split
    · have h1 := zkp T (R ++ [x])
      refine ⟨by simpa using h1.1, by have := h1.2; simp at this ⊢; omega⟩
    · have h1 := zkp T []
      exact ⟨Kin.app (z2c cls R).2 (Kin.app (Kin.refl cls [x]) (by simpa using h1.1)), by have := h1.2; have := z20 cls R; simp at *; omega⟩
theorem zf2 (l : List Int) : Kin cls (ordL l) l ∧ (ordL l).length = l.length := by simpa [ordL] using zkp l []
theorem ord_ok {l : List Int} (h : ∀ r ∈ l, okR r) : ∀ r ∈ ordL l, okR r := fun r hr => h r ((zf2 l).1.mem.1 hr)
def z54 (soft join : Bool) (l : List Int) : List Int := if join then z98 (ordL (z0v soft l)) else ordL (z0v soft l)
def z2k (soft join : Bool) (s : List UInt8) : List UInt8 × Bool := if 0 ≤ (runes s).2 then ([], false) else (strS (z54 soft join (runes s).1), z1m (z54 soft join (runes s).1))
theorem zed (s : List UInt8) (soft join : Bool) (hs : s.length ≤ 10000000) (hl : (runes s).1.length ≤ 10000) (hr : ∀ r ∈ (runes s).1, okR r) : Spec Tryz.prog 55 [tab, Sv s, Bv soft, Bv join] (.tup [Sv (z2k soft join s).1, Bv (z2k soft join s).2]) := by
  have h1 := zwb (runes s).1 soft (by omega) hr
  have l1 := zdd soft (runes s).1
  have o1 := splt_ok (soft := soft) hr
  have h2 := zwd (z0v soft (runes s).1) (by omega) o1
  have l2 := (zf2 (z0v soft (runes s).1)).2
  have o2 := ord_ok o1
  have htk : List.take (z0v soft (runes s).1).length ((ordL (z0v soft (runes s).1)).map I32) = (ordL (z0v soft (runes s).1)).map I32 := List.take_of_length_le (by simp; omega)
  have h3 := zvv (ordL (z0v soft (runes s).1)) (by omega) o2
  have l3 : (z98 (ordL (z0v soft (runes s).1))).length ≤ (z0v soft (runes s).1).length := by rw [← l2]; exact zkc _
  rw [l2] at h3
  rw [← z0l] at h1 h2 h3 ⊢
  simp only [Bv] at h1
  refine z0g (z := false) (ts := [.tmp 8, .tmp 9]) ok1 Tryz.func55 rfl rfl (by decide +kernel) (by simp [Tryz.ntmps55]) rfl ?_
  by_cases h0 : 0 ≤ (runes s).2
  · have e : z2k soft join s = ([], false) := by unfold z2k; rw [if_pos h0]
    rw [e]
    repeat' first | refine z06 (z2d s (by omega)) ?_ ?_ | simp (maxSteps := 4000000) (disch := omega) only [bunL, bunD, bun, ↓z04, ↓z01, z02, findLabel, ↓reduceIte, imp, shift, z0b, z0a, unown, names, z07, below, noF, isF, z03, z09, z08, ren, givL, updM, z0c, renO, belowM, seval, -Int.reduceToNat, B9, D29, B21, B41, bunN, tbB] | exact z0f _ | refine z0e _ _ ?_ | exact Cln.cl | refine z05 _ ?_ | refine z00 _ _ ?_ ?_ | refine DR_q _ ?_ | (refine Fk.fk ?_ ?_ <;> intro hg <;> (try simp only [hg]) <;> (try simp only [bunB] at hg) <;> try (exfalso; first | omega | exact Bool.noConfusion hg | exact hg trivial)) | refine And.intro (by omega) ?_ | omega
    all_goals trace_state
  · cases join with
    | false =>
      have us := z51 (ordL (z0v soft (runes s).1)) (by omega)
      rw [l2] at us
      have e : z2k soft false s = (strS (ordL (z0v soft (runes s).1)), z1m (ordL (z0v soft (runes s).1))) := by unfold z2k; rw [if_neg h0]; rfl
      rw [e]
      repeat' first | refine z06 (z2d s (by omega)) ?_ ?_ | refine DR_p (.take 2 (.take 3 (.two 0 (.one 1 (.one 4 (.one 5 (.take 6 (.done))))) 1 (.two 0 (.one 4 (.one 5 (.take 6 (.done)))) 4 (.one 0 (.one 5 (.take 6 (.done)))))))) _ (by decide +kernel) ?_ | simp (maxSteps := 4000000) (disch := omega) only [bunL, bunD, bun, ↓z04, ↓z01, z02, findLabel, ↓reduceIte, imp, shift, z0b, z0a, unown, names, z07, below, noF, isF, z03, z09, z08, ren, givL, updM, z0c, renO, belowM, seval, -Int.reduceToNat, l2, B9, D29, B21, B41, bunN, tbB] | exact z0f _ | refine z0e _ _ ?_ | exact Cln.cl | refine z05 _ ?_ | refine z00 _ _ ?_ ?_ | refine DR_q _ ?_ | (refine Fk.fk ?_ ?_ <;> intro hg <;> (try simp only [hg]) <;> (try simp only [bunB] at hg) <;> try (exfalso; first | omega | exact Bool.noConfusion hg | exact hg trivial)) | refine And.intro (by omega) ?_ | omega
      repeat' refine And.intro ?_ ?_
      all_goals (repeat' first | refine z06 (h1) ?_ ?_ | refine z06 (h2) ?_ ?_ | refine z06 (us) ?_ ?_ | simp (maxSteps := 4000000) (disch := omega) only [bunL, bunD, bun, ↓z04, ↓z01, z02, findLabel, ↓reduceIte, imp, shift, z0b, z0a, unown, names, z07, below, noF, isF, z03, z09, z08, ren, givL, updM, z0c, renO, belowM, seval, -Int.reduceToNat, l2, htk, B9, D29, B21, B41, bunN, tbB] | exact z0f _ | refine z0e _ _ ?_ | exact Cln.cl | refine z05 _ ?_ | refine z00 _ _ ?_ ?_ | refine DR_q _ ?_ | (refine Fk.fk ?_ ?_ <;> intro hg <;> (try simp only [hg]) <;> (try simp only [bunB] at hg) <;> try (exfalso; first | omega | exact Bool.noConfusion hg | exact hg trivial)) | refine And.intro (by omega) ?_ | omega)
      all_goals trace_state
    | true =>
      have us := z51 (z98 (ordL (z0v soft (runes s).1))) (by omega)
      have e : z2k soft true s = (strS (z98 (ordL (z0v soft (runes s).1))), z1m (z98 (ordL (z0v soft (runes s).1)))) := by unfold z2k; rw [if_neg h0]; rfl
      rw [e]
      repeat' first | refine z06 (z2d s (by omega)) ?_ ?_ | refine DR_p (.take 2 (.take 3 (.two 0 (.one 1 (.one 4 (.one 5 (.take 6 (.done))))) 1 (.two 0 (.one 4 (.one 5 (.take 6 (.done)))) 4 (.one 0 (.one 5 (.take 6 (.done)))))))) _ (by decide +kernel) ?_ | simp (maxSteps := 4000000) (disch := omega) only [bunL, bunD, bun, ↓z04, ↓z01, z02, findLabel, ↓reduceIte, imp, shift, z0b, z0a, unown, names, z07, below, noF, isF, z03, z09, z08, ren, givL, updM, z0c, renO, belowM, seval, -Int.reduceToNat, l2, B9, D29, B21, B41, bunN, tbB] | exact z0f _ | refine z0e _ _ ?_ | exact Cln.cl | refine z05 _ ?_ | refine z00 _ _ ?_ ?_ | refine DR_q _ ?_ | (refine Fk.fk ?_ ?_ <;> intro hg <;> (try simp only [hg]) <;> (try simp only [bunB] at hg) <;> try (exfalso; first | omega | exact Bool.noConfusion hg | exact hg trivial)) | refine And.intro (by omega) ?_ | omega
      repeat' refine And.intro ?_ ?_
      all_goals (repeat' first | refine z06 (h1) ?_ ?_ | refine z06 (h2) ?_ ?_ | refine z06 (h3) ?_ ?_ | refine z06 (us) ?_ ?_ | simp (maxSteps := 4000000) (disch := omega) only [bunL, bunD, bun, ↓z04, ↓z01, z02, findLabel, ↓reduceIte, imp, shift, z0b, z0a, unown, names, z07, below, noF, isF, z03, z09, z08, ren, givL, updM, z0c, renO, belowM, seval, -Int.reduceToNat, l2, htk, B9, D29, B21, B41, bunN, tbB] | exact z0f _ | refine z0e _ _ ?_ | exact Cln.cl | refine z05 _ ?_ | refine z00 _ _ ?_ ?_ | refine DR_q _ ?_ | (refine Fk.fk ?_ ?_ <;> intro hg <;> (try simp only [hg]) <;> (try simp only [bunB] at hg) <;> try (exfalso; first | omega | exact Bool.noConfusion hg | exact hg trivial)) | refine And.intro (by omega) ?_ | omega)
      all_goals trace_state
end Go.AE
end
section
namespace Go.AE
open Go.Proofs
set_option maxRecDepth 20000
set_option maxHeartbeats 8000000
set_option linter.unusedSimpArgs false
theorem one_okR {s : List UInt8} {r : Int} {k : Nat} (h : one s = some (r, k)) : okR r := by
  obtain ⟨h1, _, _, h4⟩ := zaw h
  by_cases hr : right r = true
  · have := (z2q r).1 hr; unfold okR; omega
  · have : rlen r = 0 := by unfold rlen; rw [if_neg hr]
    omega
theorem znq : ∀ (f : Nat) (a : Int) (s : List UInt8), ∀ r ∈ (z12 f a s).1, okR r
  | 0, a, s, r, hr => by simp [z12] at hr
  | f + 1, a, s, r, hr => by
    rw [z2e] at hr
    split at hr
    · simp at hr
    · cases ho : one s with
      | none => rw [ho] at hr; simp [z67] at hr
      | some p =>
        obtain ⟨q, k⟩ := p
        rw [ho] at hr
        simp only [z67, List.mem_cons] at hr
        rcases hr with rfl | hr
        · exact one_okR ho
        · exact znq f _ _ r hr
theorem zb5 (s : List UInt8) : ∀ r ∈ (runes s).1, okR r := znq _ _ _
theorem nfd_spec' (s : List UInt8) (hs : s.length ≤ 10000000) (hl : (runes s).1.length ≤ 10000) : Spec Tryz.prog 17 [tab, Sv s] (.tup [Sv (z2k false false s).1, Bv (z2k false false s).2]) := by
  have h := zed s false false hs hl (zb5 s)
  rw [← z0l] at h ⊢
  refine z0g (z := false) (ts := [.tmp 4, .tmp 5]) ok1 Tryz.func17 rfl rfl (by decide +kernel) (by simp [Tryz.ntmps17]) rfl ?_
  repeat' first | refine z06 (h) ?_ ?_ | simp (maxSteps := 4000000) (disch := omega) only [bunL, bunD, bun, ↓z04, ↓z01, z02, findLabel, ↓reduceIte, imp, shift, z0b, z0a, unown, names, z07, below, noF, isF, z03, z09, z08, ren, givL, updM, z0c, renO, belowM, seval, -Int.reduceToNat, B9, D29, bunN, tbB] | exact z0f _ | refine z0e _ _ ?_ | exact Cln.cl | refine z05 _ ?_ | refine z00 _ _ ?_ ?_ | refine DR_q _ ?_ | (refine Fk.fk ?_ ?_ <;> intro hg <;> (try simp only [hg]) <;> (try simp only [bunB] at hg) <;> try (exfalso; first | omega | exact Bool.noConfusion hg | exact hg trivial)) | refine And.intro (by omega) ?_ | omega
theorem zn3 (s : List UInt8) (hs : s.length ≤ 10000000) (hl : (runes s).1.length ≤ 10000) : Spec Tryz.prog 54 [tab, Sv s] (.tup [Sv (z2k false true s).1, Bv (z2k false true s).2]) := by
  have h := zed s false true hs hl (zb5 s)
  rw [← z0l] at h ⊢
  refine z0g (z := false) (ts := [.tmp 4, .tmp 5]) ok1 Tryz.func54 rfl rfl (by decide +kernel) (by simp [Tryz.ntmps54]) rfl ?_
  repeat' first | refine z06 (h) ?_ ?_ | simp (maxSteps := 4000000) (disch := omega) only [bunL, bunD, bun, ↓z04, ↓z01, z02, findLabel, ↓reduceIte, imp, shift, z0b, z0a, unown, names, z07, below, noF, isF, z03, z09, z08, ren, givL, updM, z0c, renO, belowM, seval, -Int.reduceToNat, B9, D29, bunN, tbB] | exact z0f _ | refine z0e _ _ ?_ | exact Cln.cl | refine z05 _ ?_ | refine z00 _ _ ?_ ?_ | refine DR_q _ ?_ | (refine Fk.fk ?_ ?_ <;> intro hg <;> (try simp only [hg]) <;> (try simp only [bunB] at hg) <;> try (exfalso; first | omega | exact Bool.noConfusion hg | exact hg trivial)) | refine And.intro (by omega) ?_ | omega
theorem zw9 (s : List UInt8) (hs : s.length ≤ 10000000) (hl : (runes s).1.length ≤ 10000) : Spec Tryz.prog 19 [tab, Sv s] (.tup [Sv (z2k true true s).1, Bv (z2k true true s).2]) := by
  have h := zed s true true hs hl (zb5 s)
  rw [← z0l] at h ⊢
  refine z0g (z := false) (ts := [.tmp 4, .tmp 5]) ok1 Tryz.func19 rfl rfl (by decide +kernel) (by simp [Tryz.ntmps19]) rfl ?_
  repeat' first | refine z06 (h) ?_ ?_ | simp (maxSteps := 4000000) (disch := omega) only [bunL, bunD, bun, ↓z04, ↓z01, z02, findLabel, ↓reduceIte, imp, shift, z0b, z0a, unown, names, z07, below, noF, isF, z03, z09, z08, ren, givL, updM, z0c, renO, belowM, seval, -Int.reduceToNat, B9, D29, bunN, tbB] | exact z0f _ | refine z0e _ _ ?_ | exact Cln.cl | refine z05 _ ?_ | refine z00 _ _ ?_ ?_ | refine DR_q _ ?_ | (refine Fk.fk ?_ ?_ <;> intro hg <;> (try simp only [hg]) <;> (try simp only [bunB] at hg) <;> try (exfalso; first | omega | exact Bool.noConfusion hg | exact hg trivial)) | refine And.intro (by omega) ?_ | omega
theorem nis_spec' (s : List UInt8) (hs : s.length ≤ 10000000) (hl : (runes s).1.length ≤ 10000) : Spec Tryz.prog 33 [tab, Sv s] (Bv ((z2k false true s).2 && ((z2k false true s).1 == s))) := by
  have h := zn3 s hs hl
  rw [← z0l] at h ⊢
  refine z0g (z := false) (ts := [.tmp 4]) ok1 Tryz.func33 rfl rfl (by decide +kernel) (by simp [Tryz.ntmps33]) rfl ?_
  cases hf : (z2k false true s).2 with
  | false => repeat' first | refine z06 (h) ?_ ?_ | simp (maxSteps := 4000000) (disch := omega) only [bunL, bunD, bun, ↓z04, ↓z01, z02, findLabel, ↓reduceIte, imp, shift, z0b, z0a, unown, names, z07, below, noF, isF, z03, z09, z08, ren, givL, updM, z0c, renO, belowM, seval, -Int.reduceToNat, hf, B9, D29, bunN, tbB] | exact z0f _ | refine z0e _ _ ?_ | exact Cln.cl | refine z05 _ ?_ | refine z00 _ _ ?_ ?_ | refine DR_q _ ?_ | (refine Fk.fk ?_ ?_ <;> intro hg <;> (try simp only [hg]) <;> (try simp only [bunB] at hg) <;> try (exfalso; first | omega | exact Bool.noConfusion hg | exact hg trivial)) | refine And.intro (by omega) ?_ | omega
  | true => repeat' first | refine z06 (h) ?_ ?_ | simp (maxSteps := 4000000) (disch := omega) only [bunL, bunD, bun, ↓z04, ↓z01, z02, findLabel, ↓reduceIte, imp, shift, z0b, z0a, unown, names, z07, below, noF, isF, z03, z09, z08, ren, givL, updM, z0c, renO, belowM, seval, -Int.reduceToNat, hf, B9, D29, bunN, tbB] | exact z0f _ | refine z0e _ _ ?_ | exact Cln.cl | refine z05 _ ?_ | refine z00 _ _ ?_ ?_ | refine DR_q _ ?_ | (refine Fk.fk ?_ ?_ <;> intro hg <;> (try simp only [hg]) <;> (try simp only [bunB] at hg) <;> try (exfalso; first | omega | exact Bool.noConfusion hg | exact hg trivial)) | refine And.intro (by omega) ?_ | omega
theorem rl_le {s : List UInt8} (h : s.length ≤ 10000) : (runes s).1.length ≤ 10000 := by have := z5u s; omega
theorem nfd_spec (s : List UInt8) (hs : s.length ≤ 10000) : Spec Tryz.prog 17 [tab, Sv s] (.tup [Sv (z2k false false s).1, Bv (z2k false false s).2]) := nfd_spec' s (by omega) (rl_le hs)
theorem nfkc_spec (s : List UInt8) (hs : s.length ≤ 10000) : Spec Tryz.prog 19 [tab, Sv s] (.tup [Sv (z2k true true s).1, Bv (z2k true true s).2]) := zw9 s (by omega) (rl_le hs)
end Go.AE
end
section
namespace Go.AE
set_option linter.unusedSimpArgs false
theorem zq4 : ∀ (f g : Nat) (a : Int) (s : List UInt8), s.length < f → s.length < g → z12 f a s = z12 g a s := by
  intro f
  induction f with
  | zero => intro g a s h; omega
  | succ f ih =>
    intro g a s hf hg
    obtain ⟨g, rfl⟩ : ∃ k, g = k + 1 := ⟨g - 1, by omega⟩
    rw [z2e, z2e]
    split
    · rfl
    · cases ho : one s with
      | none => rfl
      | some p =>
        obtain ⟨r, k⟩ := p
        obtain ⟨h1, h2, h3, h4⟩ := zaw ho
        simp only [z67]
        rw [ih g (a + k) (s.drop k) (by simp; omega) (by simp; omega)]
theorem zwl {r : Int} (h : right r = true) (f : Nat) (a : Int) (t : List UInt8) : z12 (f + 1) a (enc r ++ t) = (r :: (z12 f (a + (enc r).length) t).1, (z12 f (a + (enc r).length) t).2) := by
  have hp : 0 < (enc r).length := by
    have h1 := zbj r
    have h2 := zfn r
    have h3 := zd6 r
    rw [h] at h3
    simp at h3
    omega
  have := zfq (f := f) (a := a) (s := enc r ++ t) (by simp; omega) (one_enc h t)
  rw [List.drop_left] at this
  exact this
theorem zwk (g : Nat) (t : List UInt8) : ∀ (l : List Int) (a : Int), z1m l = true → z12 (l.length + g) a (l.flatMap enc ++ t) = (l ++ (z12 g (a + (l.flatMap enc).length) t).1, (z12 g (a + (l.flatMap enc).length) t).2) := by
  intro l
  induction l with
  | nil => intro a _; simp
  | cons r l ih =>
    intro a h
    simp only [z1m, List.all_cons, Bool.and_eq_true] at h
    rw [List.length_cons, show l.length + 1 + g = (l.length + g) + 1 by omega, List.flatMap_cons, List.append_assoc, zwl h.1, ih _ h.2]
    simp only [List.length_append, Int.natCast_add, Int.add_assoc, List.cons_append]
theorem flat_len (l : List Int) (h : z1m l = true) : l.length ≤ (l.flatMap enc).length := by
  induction l with
  | nil => simp
  | cons r l ih =>
    simp only [z1m, List.all_cons, Bool.and_eq_true] at h
    have h1 := zbj r
    have h2 := zfn r
    have h3 := zd6 r
    rw [h.1] at h3
    simp at h3
    have := ih h.2
    simp only [List.flatMap_cons, List.length_append, List.length_cons]
    omega
theorem z8j : ∀ (f : Nat) (a k : Int) (s : List UInt8), 0 ≤ a → (z12 f (a + k) s).1 = (z12 f a s).1 ∧ ((z12 f a s).2 = -1 ∧ (z12 f (a + k) s).2 = -1 ∨ 0 ≤ (z12 f a s).2 ∧ (z12 f (a + k) s).2 = (z12 f a s).2 + k) := by
  intro f
  induction f with
  | zero => intro a k s h; simp [z12]
  | succ f ih =>
    intro a k s h
    rw [z2e, z2e]
    split
    · simp
    · cases ho : one s with
      | none => simp [z67]; omega
      | some p =>
        obtain ⟨r, n⟩ := p
        have := ih (a + n) k (s.drop n) (by omega)
        simp only [z67]
        rw [show a + k + n = a + n + k by omega]
        exact ⟨by rw [this.1], this.2⟩
theorem runes_app (l : List Int) (t : List UInt8) (h : z1m l = true) : (runes (l.flatMap enc ++ t)).1 = l ++ (runes t).1 ∧
    ((runes t).2 = -1 ∧ (runes (l.flatMap enc ++ t)).2 = -1 ∨ 0 ≤ (runes t).2 ∧ (runes (l.flatMap enc ++ t)).2 = (runes t).2 + (l.flatMap enc).length) := by
  have hl := flat_len l h
  have e : runes (l.flatMap enc ++ t) = z12 (l.length + ((l.flatMap enc).length - l.length + t.length + 1)) 0 (l.flatMap enc ++ t) := by
    unfold runes
    rw [List.length_append, show l.length + ((l.flatMap enc).length - l.length + t.length + 1) = (l.flatMap enc).length + t.length + 1 by omega]
  rw [e, zwk _ t l 0 h, zq4 _ (t.length + 1) _ t (by omega) (by omega)]
  have h2 := z8j (t.length + 1) 0 (l.flatMap enc).length t (by omega)
  refine ⟨?_, ?_⟩
  · simp only [h2.1]; rfl
  · exact h2.2
theorem z58 {l : List Int} (h : z1m l = true) : runes (strS l) = (l, -1) := by
  have := runes_app l [] h
  have e : runes [] = ([], -1) := rfl
  rw [e, List.append_nil, List.append_nil] at this
  simp only [strS, h, if_true]
  obtain ⟨h1, h2⟩ := this
  refine Prod.ext h1 ?_
  rcases h2 with h2 | h2
  · exact h2.2
  · simp at h2
theorem z5l : ∀ (T R R' : List Int), Kin cls R R' → ordF R T = ordF R' T
  | [], R, R', h => by rw [ordF, ordF]; exact za3 h
  | x :: T, R, R', h => by
    rw [ordF, ordF]
    split
    · exact z5l T _ _ (h.app (Kin.refl cls [x]))
    · rw [za3 h]
theorem zdb {r : Int} (h : 0 < cls r) (soft : Bool) : one1 soft r = [r] := by
  have hs : (spl r).2 = false := by
    cases hq : (spl r).2 with
    | false => rfl
    | true => have := (zfw hq).2.1; omega
  have hh : han r = false := by
    cases hq : han r with
    | false => rfl
    | true =>
      have := zp9 (r := r) (by simpa [han] using hq)
      omega
  rw [z2i, hh, if_neg (by simp), if_pos (by simp [stop, hs])]
end Go.AE
end
section
namespace Go.AE
set_option linter.unusedSimpArgs false
theorem zwp {r : Int} (h : (spl r).2 = true) : han r = false := by
  have := z4w (q := fun r _ => !han r) (by decide +kernel) (by decide +kernel) h
  simpa using this
theorem jamo_no {r : Int} (h1 : 4352 ≤ r) (h2 : r ≤ 4600) : han r = false ∧ (spl r).2 = false := by
  refine ⟨by simp [han]; omega, ?_⟩
  cases hq : (spl r).2 with
  | false => rfl
  | true =>
    have := z4w (q := fun r _ => decide (r < 4352 ∨ 4600 < r)) (by decide +kernel) (by decide +kernel) hq
    simp at this
    omega
theorem z6k {r : Int} (h1 : han r = false) (h2 : (spl r).2 = false) (soft : Bool) : one1 soft r = [r] := by
  rw [z2i, h1, if_neg (by simp), if_pos (by simp [stop, h2])]
theorem zas {r : Int} (h1 : 4352 ≤ r) (h2 : r ≤ 4600) (soft : Bool) : one1 soft r = [r] := z6k (jamo_no h1 h2).1 (jamo_no h1 h2).2 soft
theorem z8m (soft : Bool) (A B : List Int) : z0v soft (A ++ B) = z0v soft A ++ z0v soft B := List.flatMap_append
theorem z1u (soft : Bool) (x : Int) (B : List Int) : z0v soft (x :: B) = one1 soft x ++ z0v soft B := rfl
theorem zfx {r : Int} (h : han r = true) (soft : Bool) : z0v soft (syl r) = syl r := by
  have : 44032 ≤ r ∧ r ≤ 55203 := by simpa [han] using h
  have key : ∀ l : List Int, (∀ x ∈ l, 4352 ≤ x ∧ x ≤ 4600) → z0v soft l = l := fun l => by
    induction l with
    | nil => intro _; rfl
    | cons x l ih =>
      intro h
      rw [z1u, ih fun y hy => h y (List.mem_cons_of_mem _ hy), zas (h x (by simp)).1 (h x (by simp)).2]; rfl
  refine key _ fun x hx => ?_
  unfold syl at hx
  split at hx
  · simp at hx; omega
  · simp at hx; omega
theorem stop_no {soft : Bool} {r : Int} (h : stop soft r = false) : (spl r).2 = true ∧ ((spl r).1.2.2.2.1 = true → soft = true) := by
  unfold stop at h
  cases hq : (spl r).2 <;> rw [hq] at h
  · simp at h
  · refine ⟨rfl, fun h1 => ?_⟩
    rw [h1] at h
    simpa using h
theorem zda : ∀ (n : Nat) (r : Int), Deep n r → ∀ s t : Bool, z0v t (one1 s r) = one1 (s || t) r
  | 0, r, h, s, t => by
    by_cases hh : han r = true
    · rw [z2i s, z2i (s || t), hh, if_pos rfl, if_pos rfl, zfx hh]
    · have hh : han r = false := by simpa using hh
      rw [z6k hh h, z6k hh h, z1u, z6k hh h]; rfl
  | n + 1, r, h, s, t => by
    by_cases hh : han r = true
    · rw [z2i s, z2i (s || t), hh, if_pos rfl, if_pos rfl, zfx hh]
    · have hh : han r = false := by simpa using hh
      cases hst : stop s r with
      | true =>
        have e : one1 s r = [r] := by rw [z2i, hh, if_neg (by simp), if_pos hst]
        rw [e, z1u, show z0v t [] = [] from rfl, List.append_nil]
        cases s with
        | false => rfl
        | true =>
          have h2 : (spl r).2 = false := by
            unfold stop at hst
            cases hq : (spl r).2
            · rfl
            · rw [hq] at hst; simp at hst
          rw [z6k hh h2, z6k hh h2]
      | false =>
        obtain ⟨h1, h2⟩ := stop_no hst
        have hst2 : stop (s || t) r = false := by
          unfold stop
          rw [h1]
          cases hq : (spl r).1.2.2.2.1
          · rfl
          · rw [h2 hq]; rfl
        have hd := h h1
        rw [z2i s, z2i (s || t)]
        simp only [hh, hst, hst2, Bool.false_eq_true, if_false]
        by_cases h0 : (spl r).1.2.2.1 = 0
        · rw [if_pos h0, if_pos h0, zda n _ hd.1]
        · rw [if_neg h0, if_neg h0, z8m, zda n _ hd.1, zda n _ (hd.2 h0)]
theorem znw (s t : Bool) : ∀ l : List Int, z0v t (z0v s l) = z0v (s || t) l
  | [] => rfl
  | x :: l => by rw [z1u, z1u, z8m, znw s t l, zda 4 x (zk2 x)]
theorem z4s : ∀ (M R T : List Int), (∀ m ∈ M, 0 < cls m) → ordF R (M ++ T) = ordF (R ++ M) T
  | [], R, T, _ => by simp
  | m :: M, R, T, h => by
    rw [List.cons_append, ordF, if_pos (h m (by simp)), z4s M (R ++ [m]) T fun x hx => h x (List.mem_cons_of_mem _ hx)]
    simp
theorem z7j (soft : Bool) : ∀ M : List Int, (∀ m ∈ M, 0 < cls m) → z0v soft M = M
  | [], _ => rfl
  | m :: M, h => by rw [z1u, z7j soft M fun x hx => h x (List.mem_cons_of_mem _ hx), zdb (h m (by simp))]; rfl
theorem z93 {A B : List Int} (h : ∀ R, ordF R A = ordF R B) : ∀ (P R : List Int), ordF R (P ++ A) = ordF R (P ++ B)
  | [], R => h R
  | p :: P, R => by
    rw [List.cons_append, List.cons_append, ordF, ordF]
    split
    · exact z93 h P _
    · rw [z93 h P []]
theorem zkq (soft : Bool) : ∀ (T R Q : List Int), (∀ r ∈ R, 0 < cls r) → ordF Q (z0v soft (ordF R T)) = ordF (Q ++ R) (z0v soft T)
  | [], R, Q, h => by
    have hk := (z2c cls R).2
    have hm : ∀ m ∈ ssort cls R, 0 < cls m := fun m hm => h m (hk.mem.1 hm)
    rw [ordF, z7j soft _ hm]
    have e := z4s (ssort cls R) Q [] hm
    rw [List.append_nil] at e
    rw [e]
    exact z5l [] _ _ (Kin.app (Kin.refl cls Q) hk)
  | x :: T, R, Q, h => by
    rw [ordF]
    split
    · rename_i hx
      rw [zkq soft T (R ++ [x]) Q (fun r hr => by
        rcases List.mem_append.1 hr with hr | hr
        · exact h r hr
        · simp at hr; subst hr; exact hx), z1u, zdb hx, List.cons_append, List.nil_append, ordF, if_pos hx, List.append_assoc]
    · have hk := (z2c cls R).2
      have hm : ∀ m ∈ ssort cls R, 0 < cls m := fun m hm => h m (hk.mem.1 hm)
      rw [z8m, z7j soft _ hm, z4s _ _ _ hm, z1u, z1u]
      rw [z5l _ _ _ (Kin.app (Kin.refl cls Q) hk)]
      exact z93 (fun P => by
        have := zkq soft T [] P (by simp)
        rwa [List.append_nil] at this) (one1 soft x) (Q ++ R)
theorem zae (s t : Bool) (l : List Int) : ordL (z0v t (ordL (z0v s l))) = ordL (z0v (s || t) l) := by
  have := zkq t (z0v s l) [] [] (by simp)
  rw [List.append_nil, znw] at this
  exact this
theorem mk2_split {a b : Int} (h : (mk2 a b).2 = true) : one1 false (mk2 a b).1 = one1 false a ++ one1 false b := by
  unfold mk2 at h ⊢
  split
  · rename_i h1
    have hh : han (44032 + (a - 4352) * 588 + (b - 4449) * 28) = true := by simp [han]; omega
    dsimp only
    rw [z2i false (44032 + (a - 4352) * 588 + (b - 4449) * 28), if_pos hh, zas (by omega) (by omega), zas (by omega) (by omega)]
    unfold syl
    rw [if_pos (by omega)]
    simp only [List.append_nil, List.cons_append, List.nil_append]
    congr 1
    · omega
    · congr 1; omega
  · rename_i h1
    rw [if_neg h1] at h
    split
    · rename_i h2
      have ha : 44032 ≤ a ∧ a ≤ 55203 := by simpa [han] using h2.1
      have hh : han (a + b - 4519) = true := by simp [han]; omega
      dsimp only
      rw [z2i false (a + b - 4519), if_pos hh, z2i false a, if_pos h2.1, zas (by omega) (by omega)]
      unfold syl
      rw [if_neg (by omega), if_pos h2.2.1]
      simp only [List.append_nil, List.cons_append, List.nil_append]
      congr 1
      · omega
      · congr 1
        · omega
        · congr 1; omega
    · rename_i h2
      rw [if_neg h2] at h
      obtain ⟨q1, q2, q3, q4⟩ := zax h
      have qf := pairs_fwd q1 q4
      have hst : stop false (pr a b).1 = false := by unfold stop; rw [q1, qf.2.2]; rfl
      rw [z2i false (pr a b).1, zwp q1, if_neg (by simp), if_neg (by rw [hst]; simp), if_neg qf.2.1, q2, q3]
theorem join_step (s : JS) (hs : JI s) (x : Int) (R T : List Int) : ordF R (z0v false (z3c s x).out ++ T) = ordF R (z0v false s.out ++ one1 false x ++ T) := by
  have put : ordF R (z0v false (s.put x).out ++ T) = ordF R (z0v false s.out ++ one1 false x ++ T) := by
    rw [z7e, z8m, z1u, show z0v false [] = [] from rfl, List.append_nil]
  unfold z3c
  split
  · exact put
  · rename_i b hb
    split
    · rename_i hall
      split
      · rename_i h2
        have hm : z0v false s.ms = s.ms := z7j false _ hs.ms
        simp only [JS.out, hb, Option.toList, z8m, z1u, show z0v false [] = [] from rfl, List.append_nil, mk2_split h2, hm, List.append_assoc]
        rw [List.all_eq_true] at hall
        by_cases hx : 0 < cls x
        · rw [zdb hx]
          refine z93 (fun R1 => z93 (fun R2 => ?_) _ _) _ _
          have e1 : [x] ++ (s.ms ++ T) = ([x] ++ s.ms) ++ T := by simp
          have e2 : s.ms ++ ([x] ++ T) = (s.ms ++ [x]) ++ T := by simp
          have hmx : ∀ m ∈ [x] ++ s.ms, 0 < cls m := fun m hm => by
            rcases List.mem_append.1 hm with hm | hm
            · simp at hm; subst hm; exact hx
            · exact hs.ms m hm
          have hmx2 : ∀ m ∈ s.ms ++ [x], 0 < cls m := fun m hm => hmx m (by
            rcases List.mem_append.1 hm with hm | hm
            · exact List.mem_append.2 (Or.inr hm)
            · exact List.mem_append.2 (Or.inl hm))
          rw [e1, e2, z4s _ _ _ hmx, z4s _ _ _ hmx2]
          refine z5l T _ _ (Kin.app (Kin.refl cls R2) (Kin.turn fun a ha c hc => ?_))
          simp at ha
          subst ha
          have := hall c hc
          simp at this
          omega
        · have hms : s.ms = [] := by
            cases hq : s.ms with
            | nil => rfl
            | cons m M =>
              have h1 := hall m (by rw [hq]; simp)
              have h2 := hs.ms m (by rw [hq]; simp)
              simp at h1
              omega
          rw [hms]; rfl
      · exact put
    · exact put
theorem ztf : ∀ (l : List Int) (s : JS), JI s → ∀ R T, ordF R (z0v false (l.foldl z3c s).out ++ T) = ordF R (z0v false s.out ++ z0v false l ++ T)
  | [], s, _, R, T => by rw [show z0v false [] = [] from rfl, List.append_nil]; rfl
  | x :: l, s, h, R, T => by
    rw [List.foldl_cons, ztf l (z3c s x) (h.step x) R T, z1u, List.append_assoc, join_step s h x]
    simp only [List.append_assoc]
theorem zme (l : List Int) : ordL (z0v false (z98 l)) = ordL (z0v false l) := by
  have := ztf l ⟨[], none, []⟩ ⟨by simp, by simp, fun _ => rfl⟩ [] []
  rw [List.append_nil, List.append_nil, show z0v false (JS.out ⟨[], none, []⟩) = [] from rfl, List.nil_append] at this
  exact this
theorem zvm (t : Bool) (l : List Int) : ordL (z0v t (z98 l)) = ordL (z0v t l) := by
  have h1 := zae false t (z98 l)
  have h2 := zae false t l
  rw [zme, h2] at h1
  simpa using h1.symm
theorem zec (s t i j : Bool) (l : List Int) : z54 t j (z54 s i l) = z54 (s || t) j l := by
  have e : ordL (z0v t (z54 s i l)) = ordL (z0v (s || t) l) := by
    unfold z54
    split
    · rw [zvm, zae]
    · rw [zae]
  unfold z54 at e ⊢
  rw [e]
theorem zb2 {r : Int} (h : 0 ≤ r ∧ r ≤ 1114111 ∧ (r < 55296 ∨ 57343 < r)) : right r = true := (z2q r).2 (by omega)
theorem z92 : ∀ (f : Nat) (soft : Bool) (r : Int), right r = true → ∀ x ∈ oneF f soft r, right x = true
  | 0, _, r, h, x, hx => by simp [oneF] at hx; subst hx; exact h
  | f + 1, soft, r, h, x, hx => by
    rw [z5r] at hx
    split at hx
    · rename_i hh
      have : 44032 ≤ r ∧ r ≤ 55203 := by simpa [han] using hh
      unfold syl at hx
      split at hx <;> simp at hx <;> exact zb2 (by omega)
    · split at hx
      · simp at hx; subst hx; exact h
      · rename_i hst
        have hs := (stop_no (by simpa using hst)).1
        have hq := z4w (q := fun _ x => right x.2.1 && right x.2.2.1) (by decide +kernel) (by decide +kernel) hs
        simp only [Bool.and_eq_true] at hq
        split at hx
        · exact z92 f soft _ hq.1 x hx
        · rcases List.mem_append.1 hx with hx | hx
          · exact z92 f soft _ hq.1 x hx
          · exact z92 f soft _ hq.2 x hx
theorem mk2_right {a b : Int} (h : (mk2 a b).2 = true) : right (mk2 a b).1 = true := by
  unfold mk2 at h ⊢
  split
  · exact zb2 (by dsimp only; omega)
  · rename_i h1
    rw [if_neg h1] at h
    split
    · rename_i h2
      have ha : 44032 ≤ a ∧ a ≤ 55203 := by simpa [han] using h2.1
      exact zb2 (by dsimp only; omega)
    · rename_i h2
      rw [if_neg h2] at h
      exact z4w (q := fun r _ => right r) (by decide +kernel) (by decide +kernel) (zax h).1
theorem z59 {l : List Int} : z1m l = true ↔ ∀ r ∈ l, right r = true := by unfold z1m; rw [List.all_eq_true]
theorem zfb {s : JS} {x : Int} (h : ∀ r ∈ s.out, right r = true) (hx : right x = true) : ∀ r ∈ (s.put x).out, right r = true := fun r hr => by
  rw [z7e] at hr
  rcases List.mem_append.1 hr with hr | hr
  · exact h r hr
  · simp at hr; subst hr; exact hx
theorem zpf {s : JS} {x : Int} (h : ∀ r ∈ s.out, right r = true) (hx : right x = true) : ∀ r ∈ (z3c s x).out, right r = true := by
  unfold z3c
  split
  · exact zfb h hx
  · rename_i b hb
    split
    · split
      · rename_i h2
        intro r hr
        simp only [JS.out, hb, Option.toList, List.mem_append, List.mem_singleton, or_assoc] at hr h
        rcases hr with hr | hr | hr
        · exact h r (Or.inl hr)
        · subst hr; exact mk2_right h2
        · exact h r (Or.inr (Or.inr hr))
      · exact zfb h hx
    · exact zfb h hx
theorem zpg {l : List Int} (h : z1m l = true) : z1m (z98 l) = true := by
  rw [z59] at h ⊢
  have key : ∀ (l : List Int) (s : JS), (∀ r ∈ s.out, right r = true) → (∀ r ∈ l, right r = true) → ∀ r ∈ (l.foldl z3c s).out, right r = true := fun l => by
    induction l with
    | nil => intro s h _; exact h
    | cons x l ih => intro s h hl; exact ih _ (zpf h (hl x (by simp))) fun r hr => hl r (List.mem_cons_of_mem _ hr)
  exact key l ⟨[], none, []⟩ (by simp [JS.out]) h
theorem z5o {l : List Int} (h : z1m l = true) (soft join : Bool) : z1m (z54 soft join l) = true := by
  have h1 : z1m (ordL (z0v soft l)) = true := by
    rw [z59] at h ⊢
    intro r hr
    obtain ⟨a, ha, hra⟩ := List.mem_flatMap.1 ((zf2 _).1.mem.1 hr)
    exact z92 5 soft a (h a ha) r hra
  unfold z54
  split
  · exact zpg h1
  · exact h1
theorem one_right {s : List UInt8} {r : Int} {k : Nat} (h : one s = some (r, k)) : right r = true := by
  obtain ⟨h1, _, _, h4⟩ := zaw h
  by_cases hr : right r = true
  · exact hr
  · have : rlen r = 0 := by unfold rlen; rw [if_neg hr]
    omega
theorem zcr : ∀ (f : Nat) (a : Int) (s : List UInt8), ∀ r ∈ (z12 f a s).1, right r = true
  | 0, a, s, r, hr => by simp [z12] at hr
  | f + 1, a, s, r, hr => by
    rw [z2e] at hr
    split at hr
    · simp at hr
    · cases ho : one s with
      | none => rw [ho] at hr; simp [z67] at hr
      | some p =>
        obtain ⟨q, k⟩ := p
        rw [ho] at hr
        simp only [z67, List.mem_cons] at hr
        rcases hr with rfl | hr
        · exact one_right ho
        · exact zcr f _ _ r hr
theorem z2o (s : List UInt8) : z1m (runes s).1 = true := z59.2 (zcr _ _ _)
theorem z4d {s : List UInt8} (h : ¬ 0 ≤ (runes s).2) (soft join : Bool) : z2k soft join s = (strS (z54 soft join (runes s).1), true) := by
  unfold z2k
  rw [if_neg h, z5o (z2o s)]
theorem zp6 {s : List UInt8} (h : ¬ 0 ≤ (runes s).2) (a b i j : Bool) : z2k b j (z2k a i s).1 = z2k (a || b) j s := by
  rw [z4d h, z4d h]
  dsimp only
  have hr := z58 (z5o (z2o s) a i)
  rw [z4d (by rw [hr]; dsimp only; omega), hr]
  dsimp only
  rw [zec]
theorem enc_len4 (r : Int) : (enc r).length ≤ 4 := by
  unfold enc
  repeat' split
  all_goals simp
theorem z6a (l : List Int) : (strS l).length ≤ 4 * l.length := by
  unfold strS
  split
  · rename_i h
    clear h
    induction l with
    | nil => simp
    | cons r l ih =>
      have := enc_len4 r
      simp only [List.flatMap_cons, List.length_append, List.length_cons]
      omega
  · simp
theorem zmc (soft join : Bool) (l : List Int) : (z54 soft join l).length ≤ 4 * l.length := by
  have l1 := zdd soft l
  have l2 := (zf2 (z0v soft l)).2
  have l3 := zkc (ordL (z0v soft l))
  unfold z54
  split
  · show (jRun (ordL (z0v soft l))).out.length ≤ _
    omega
  · omega
theorem form_key {s : List UInt8} (hs : (runes s).1.length ≤ 2500) (h : ¬ 0 ≤ (runes s).2) (a i : Bool) : ∃ X, z2k a i s = (X, true) ∧ X.length ≤ 10000000 ∧ (runes X).1.length ≤ 10000 ∧ ∀ b j, z2k b j X = z2k (a || b) j s := by
  have h1 := zmc a i (runes s).1
  have h2 := z6a (z54 a i (runes s).1)
  have h3 := z58 (z5o (z2o s) a i)
  refine ⟨strS (z54 a i (runes s).1), z4d h a i, by omega, by rw [h3]; dsimp only; omega, fun b j => ?_⟩
  have := zp6 h a b i j
  rw [z4d h a i] at this
  exact this
end Go.AE
end
section
namespace Go.AE
set_option linter.unusedSimpArgs false
def zot (a : Int) (n : Nat) : Nat := if a < 0 then n else a.toNat
theorem z4a (n : Nat) : zot (-1) n = n := rfl
theorem zss {a : Int} (h : 0 ≤ a) (n : Nat) : zot a n = a.toNat := if_neg (by omega)
theorem zq3 : ∀ (f : Nat) (s : List UInt8), s.length < f → z1m (z12 f 0 s).1 = true ∧ (z12 f 0 s).1.flatMap enc = s.take (zot (z12 f 0 s).2 s.length) ∧ (z12 f 0 s).2 ≤ s.length := by
  intro f
  induction f with
  | zero => intro s h; omega
  | succ f ih =>
    intro s hf
    rw [z2e]
    split
    · cases s <;> simp_all [z1m, zot]
    · cases ho : one s with
      | none => simp [z67, z1m, zot]
      | some p =>
        obtain ⟨r, n⟩ := p
        obtain ⟨h1, h2, h3, h4⟩ := zaw ho
        have h5 := ih (s.drop n) (by simp; omega)
        have h6 := z8j f 0 n (s.drop n) (by omega)
        have hr : right r = true := by
          cases h : right r with
          | true => rfl
          | false => have := (zd6 _).2 h; omega
        simp only [z67]
        rw [h6.1]
        simp only [List.length_drop] at h5
        refine ⟨by simp only [z1m, List.all_cons, hr]; exact h5.1, ?_, ?_⟩
        · rw [List.flatMap_cons, h5.2.1, h2]
          rcases h6.2 with ⟨h7, h8⟩ | ⟨h7, h8⟩
          · rw [h7, h8]
            have e1 : (s.drop n).take (s.length - n) = s.drop n := List.take_of_length_le (by simp)
            rw [z4a, z4a, e1, List.take_append_drop, List.take_length]
          · rw [h8, zss (by omega), zss (by omega)]
            rw [show ((z12 f 0 (s.drop n)).2 + (n : Int)).toNat = n + (z12 f 0 (s.drop n)).2.toNat by omega, List.take_add]
        · rcases h6.2 with ⟨h7, h8⟩ | ⟨h7, h8⟩ <;> rw [h8] <;> omega
theorem z4v (s : List UInt8) : z1m (runes s).1 = true ∧ strS (runes s).1 = s.take (zot (runes s).2 s.length) ∧ (runes s).2 ≤ s.length := by
  have h : z1m (runes s).1 = true ∧ (runes s).1.flatMap enc = s.take (zot (runes s).2 s.length) ∧ (runes s).2 ≤ s.length := zq3 (s.length + 1) s (by omega)
  refine ⟨h.1, ?_, h.2.2⟩
  unfold strS
  rw [if_pos h.1]
  exact h.2.1
theorem z7i (s : List UInt8) : (runes s).2 = -1 ∨ 0 ≤ (runes s).2 := by
  have := (z8j (s.length + 1) 0 0 s (by omega)).2
  unfold runes
  omega
end Go.AE
end
section
namespace Go.AE
set_option linter.unusedSimpArgs false
def nar (r : Int) : Int := if wide r then r - 65248 else r
def lw (r : Int) : Int := low (nar r)
theorem low_fix {r : Int} (h : cat r ≠ 1) : low r = r := Classical.byContradiction fun h1 => h (low_ne h1).1
theorem low_not {r : Int} (h : r ∉ zev) : low r = r := Classical.byContradiction fun h1 => h (zbs h1)
theorem wide_cls {r : Int} (h : wide r = true) : cls r = 0 := (zfw (zby h).2.1).2.1
theorem lw_mark {r : Int} (h : 0 < cls r) : lw r = r := by
  have hw : wide r = false := by
    cases hq : wide r with
    | false => rfl
    | true => have := wide_cls hq; omega
  have hc := (ztq r).1 h
  unfold lw nar
  rw [hw]
  exact low_fix (by simp; omega)
theorem low_big {r : Int} (h1 : 1104 ≤ r) (h2 : r ≤ 7843 ∨ 8492 ≤ r ∧ r ≤ 65280) : low r = r := low_not fun hm => by
  have := List.all_eq_true.1 (show (zev.all fun r => decide (r < 1104 ∨ 7843 < r ∧ r < 8492 ∨ 65280 < r)) = true by decide +kernel) r hm
  simp at this
  omega
theorem zew {r : Int} (h1 : 1104 ≤ r) (h2 : r ≤ 7843 ∨ 8492 ≤ r ∧ r ≤ 65280) : lw r = r := by
  have hw : wide r = false := by simp [wide]; omega
  unfold lw nar
  rw [hw]
  exact low_big h1 h2
theorem lw_han {r : Int} (h : han r = true) : lw r = r := by
  have : 44032 ≤ r ∧ r ≤ 55203 := by simpa [han] using h
  exact zew (by omega) (by omega)
theorem lw_syl {r : Int} (h : han r = true) : (syl r).map lw = syl r := by
  have : 44032 ≤ r ∧ r ≤ 55203 := by simpa [han] using h
  have key : ∀ l : List Int, (∀ x ∈ l, lw x = x) → l.map lw = l := fun l => by
    induction l with
    | nil => intro _; rfl
    | cons x l ih => intro h; rw [List.map_cons, h x (by simp), ih fun y hy => h y (List.mem_cons_of_mem _ hy)]
  refine key _ fun x hx => ?_
  unfold syl at hx
  split at hx
  · simp at hx; exact zew (by omega) (by omega)
  · simp at hx; exact zew (by omega) (by omega)
theorem spltL_one (soft : Bool) (x : Int) : z0v soft [x] = one1 soft x := by rw [z1u]; exact List.append_nil _
theorem lw_splt (r : Int) : z0v false ((one1 false r).map lw) = one1 false (lw r) := by
  by_cases hh : han r = true
  · rw [lw_han hh, z2i false r, if_pos hh, lw_syl hh, zfx hh]
  · have hh : han r = false := by simpa using hh
    cases hs : (spl r).2 with
    | false => rw [z6k hh hs]; exact spltL_one _ _
    | true =>
      have := z4w (q := fun r _ => decide (z0v false ((oneF 5 false r).map lw) = oneF 5 false (lw r))) (by decide +kernel) (by decide +kernel) hs
      exact of_decide_eq_true this
theorem lw_idem (r : Int) : lw (lw r) = lw r := by
  have key : wide (low (nar r)) = false := by
    cases hw : wide r with
    | true =>
      have hb := (wide_low hw)
      have e : nar r = r - 65248 := by unfold nar; rw [hw]; rfl
      rw [e]
      by_cases hl : low (r - 65248) = r - 65248
      · rw [hl]; simp [wide]; omega
      · have := List.all_eq_true.1 (show (zev.all fun r => decide (126 < r) || !wide (low r)) = true by decide +kernel) _ (zbs hl)
        simp at this
        rcases this with h | h
        · omega
        · exact h
    | false =>
      have e : nar r = r := by unfold nar; rw [hw]; rfl
      rw [e]
      by_cases hl : low r = r
      · rw [hl]; exact hw
      · have := List.all_eq_true.1 (show (zev.all fun r => wide r || !wide (low r)) = true by decide +kernel) _ (zbs hl)
        rw [hw] at this
        simpa using this
  show low (nar (low (nar r))) = low (nar r)
  rw [show nar (low (nar r)) = low (nar r) by rw [nar, key]; rfl, low_low]
theorem lw_right {r : Int} (h : right r = true) : right (lw r) = true := by
  have hn : right (nar r) = true := by
    unfold nar
    split
    · rename_i hw
      have : 65281 ≤ r ∧ r ≤ 65374 := by simpa [wide] using hw
      exact zb2 (by omega)
    · exact h
  unfold lw
  by_cases hl : low (nar r) = nar r
  · rw [hl]; exact hn
  · exact List.all_eq_true.1 (show (zev.all fun r => right (low r)) = true by decide +kernel) _ (zbs hl)
theorem zki {l : List Int} (h : z1m l = true) : z1m (l.map lw) = true := by
  rw [z59] at h ⊢
  intro r hr
  obtain ⟨a, ha, rfl⟩ := List.mem_map.1 hr
  exact lw_right (h a ha)
theorem ord_map {f : Int → List Int} (hf : ∀ m, 0 < cls m → f m = [m]) : ∀ (T R Q : List Int), (∀ r ∈ R, 0 < cls r) → ordF Q ((ordF R T).flatMap f) = ordF (Q ++ R) (T.flatMap f) := by
  have marks : ∀ M : List Int, (∀ m ∈ M, 0 < cls m) → M.flatMap f = M := fun M => by
    induction M with
    | nil => intro _; rfl
    | cons m M ih => intro h; rw [List.flatMap_cons, hf m (h m (by simp)), ih fun x hx => h x (List.mem_cons_of_mem _ hx)]; rfl
  intro T
  induction T with
  | nil =>
    intro R Q h
    have hk := (z2c cls R).2
    have hm : ∀ m ∈ ssort cls R, 0 < cls m := fun m hm => h m (hk.mem.1 hm)
    rw [ordF, marks _ hm]
    have e := z4s (ssort cls R) Q [] hm
    rw [List.append_nil] at e
    rw [e]
    exact z5l [] _ _ (Kin.app (Kin.refl cls Q) hk)
  | cons x T ih =>
    intro R Q h
    rw [ordF]
    split
    · rename_i hx
      rw [ih (R ++ [x]) Q (fun r hr => by
        rcases List.mem_append.1 hr with hr | hr
        · exact h r hr
        · simp at hr; subst hr; exact hx), List.flatMap_cons, hf x hx, List.cons_append, List.nil_append, ordF, if_pos hx, List.append_assoc]
    · have hk := (z2c cls R).2
      have hm : ∀ m ∈ ssort cls R, 0 < cls m := fun m hm => h m (hk.mem.1 hm)
      rw [List.flatMap_append, marks _ hm, z4s _ _ _ hm, List.flatMap_cons, List.flatMap_cons]
      rw [z5l _ _ _ (Kin.app (Kin.refl cls Q) hk)]
      exact z93 (fun P => by
        have := ih [] P (by simp)
        rwa [List.append_nil] at this) (f x) (Q ++ R)
theorem zup (l : List Int) : z0v false (l.map lw) = l.flatMap (fun r => one1 false (lw r)) := by
  unfold z0v
  rw [List.flatMap_map]
theorem zkh (l : List Int) : ordL (z0v false ((ordL (z0v false l)).map lw)) = ordL (z0v false (l.map lw)) := by
  rw [zup]
  have := ord_map (f := fun r => one1 false (lw r)) (fun m hm => by rw [lw_mark hm, zdb hm]) (z0v false l) [] [] (by simp)
  rw [List.append_nil] at this
  refine this.trans ?_
  show ordL ((z0v false l).flatMap fun r => one1 false (lw r)) = _
  rw [zup]
  congr 1
  unfold z0v
  rw [List.flatMap_assoc]
  congr 1
  funext r
  have := lw_splt r
  unfold z0v at this
  rw [List.flatMap_map] at this
  exact this
theorem lw_join (l : List Int) : ordL (z0v false ((z98 l).map lw)) = ordL (z0v false (l.map lw)) := by
  rw [← zkh (z98 l), zme, zkh]
theorem lw_formL (join : Bool) (l : List Int) : ordL (z0v false ((z54 false join l).map lw)) = ordL (z0v false (l.map lw)) := by
  unfold z54
  split
  · rw [lw_join, zkh]
  · rw [zkh]
def z5b (l : List Int) : List Int := z54 false true (l.map lw)
theorem zk6 (l : List Int) : z5b l = z98 (ordL (z0v false (l.map lw))) := rfl
theorem zvj (join : Bool) (l : List Int) : z5b (z54 false join l) = z5b l := by rw [zk6, lw_formL, zk6]
theorem fx_one {r : Int} (h : lw r = r) : ∀ x ∈ one1 false r, lw x = x := by
  by_cases hh : han r = true
  · intro x hx
    rw [z2i, if_pos hh] at hx
    have : 44032 ≤ r ∧ r ≤ 55203 := by simpa [han] using hh
    unfold syl at hx
    split at hx
    · simp at hx; exact zew (by omega) (by omega)
    · simp at hx; exact zew (by omega) (by omega)
  · have hh : han r = false := by simpa using hh
    cases hs : (spl r).2 with
    | false => rw [z6k hh hs]; intro x hx; simp at hx; subst hx; exact h
    | true =>
      have := z4w (q := fun r _ => !decide (lw r = r) || (oneF 5 false r).all fun x => decide (lw x = x)) (by decide +kernel) (by decide +kernel) hs
      simp only [h, decide_true, Bool.not_true, Bool.false_or, List.all_eq_true, decide_eq_true_eq] at this
      exact this
theorem fx_mk2 {a b : Int} (h : (mk2 a b).2 = true) (ha : lw a = a) (hb : lw b = b) : lw (mk2 a b).1 = (mk2 a b).1 := by
  unfold mk2 at h ⊢
  split
  · exact zew (by dsimp only; omega) (by dsimp only; omega)
  · rename_i h1
    rw [if_neg h1] at h
    split
    · rename_i h2
      have ha : 44032 ≤ a ∧ a ≤ 55203 := by simpa [han] using h2.1
      exact zew (by dsimp only; omega) (by dsimp only; omega)
    · rename_i h2
      rw [if_neg h2] at h
      obtain ⟨q1, q2, q3, q4⟩ := zax h
      have := z4w (q := fun r s => s.2.2.2.2 || !(decide (lw s.2.1 = s.2.1) && decide (lw s.2.2.1 = s.2.2.1)) || decide (lw r = r)) (by decide +kernel) (by decide +kernel) q1
      simp only [q2, q3, q4, ha, hb, decide_true, Bool.and_self, Bool.not_true, Bool.or_self, Bool.false_or, decide_eq_true_eq] at this
      exact this
theorem zpw {p : Int → Prop} {s : JS} {x : Int} (h : ∀ r ∈ s.out, p r) (hx : p x) : ∀ r ∈ (s.put x).out, p r := fun r hr => by
  rw [z7e] at hr
  rcases List.mem_append.1 hr with hr | hr
  · exact h r hr
  · simp at hr; subst hr; exact hx
theorem jStep_all {p : Int → Prop} (hp : ∀ a b, p a → p b → (mk2 a b).2 = true → p (mk2 a b).1) {s : JS} {x : Int} (h : ∀ r ∈ s.out, p r) (hx : p x) : ∀ r ∈ (z3c s x).out, p r := by
  unfold z3c
  split
  · exact zpw h hx
  · rename_i b hb
    split
    · split
      · rename_i h2
        intro r hr
        simp only [JS.out, hb, Option.toList, List.mem_append, List.mem_singleton, or_assoc] at hr h
        rcases hr with hr | hr | hr
        · exact h r (Or.inl hr)
        · subst hr; exact hp b x (h b (Or.inr (Or.inl rfl))) hx h2
        · exact h r (Or.inr (Or.inr hr))
      · exact zpw h hx
    · exact zpw h hx
theorem joinL_all {p : Int → Prop} (hp : ∀ a b, p a → p b → (mk2 a b).2 = true → p (mk2 a b).1) {l : List Int} (h : ∀ r ∈ l, p r) : ∀ r ∈ z98 l, p r := by
  have key : ∀ (l : List Int) (s : JS), (∀ r ∈ s.out, p r) → (∀ r ∈ l, p r) → ∀ r ∈ (l.foldl z3c s).out, p r := fun l => by
    induction l with
    | nil => intro s h _; exact h
    | cons x l ih => intro s h hl; exact ih _ (jStep_all hp h (hl x (by simp))) fun r hr => hl r (List.mem_cons_of_mem _ hr)
  exact key l ⟨[], none, []⟩ (by simp [JS.out]) h
theorem fx_fold (l : List Int) : ∀ r ∈ z5b l, lw r = r := by
  rw [zk6]
  refine joinL_all (fun a b ha hb h => fx_mk2 h ha hb) fun r hr => ?_
  obtain ⟨a, ha, hra⟩ := List.mem_flatMap.1 ((zf2 _).1.mem.1 hr)
  obtain ⟨c, hc, rfl⟩ := List.mem_map.1 ha
  exact fx_one (lw_idem c) r hra
theorem map_fix {l : List Int} (h : ∀ r ∈ l, lw r = r) : l.map lw = l := by
  induction l with
  | nil => rfl
  | cons x l ih => rw [List.map_cons, h x (by simp), ih fun r hr => h r (List.mem_cons_of_mem _ hr)]
theorem zmd (l : List Int) : z54 false true (z5b l) = z5b l := zec false false true true (l.map lw)
theorem fold_fold (l : List Int) : z5b (z5b l) = z5b l := by
  have : z5b (z5b l) = z54 false true ((z5b l).map lw) := rfl
  rw [this, map_fix (fx_fold l), zmd]
def z2j (s : List UInt8) : List UInt8 × Bool := if 0 ≤ (runes s).2 then ([], false) else (strS (z5b (runes s).1), true)
theorem foldS_eq (s : List UInt8) : z2j s = if 0 ≤ (runes s).2 then ([], false) else z2k false true (strS ((runes s).1.map lw)) := by
  unfold z2j
  split
  · rfl
  · have hr := z58 (zki (z2o s))
    rw [z4d (by rw [hr]; dsimp only; omega), hr]; rfl
theorem zp4 {l : List Int} (h : z1m l = true) : z1m (z5b l) = true := z5o (zki h) false true
theorem z4b {s : List UInt8} (h : ¬ 0 ≤ (runes s).2) : z2j s = (strS (z5b (runes s).1), true) := by unfold z2j; rw [if_neg h]
theorem z5m {s : List UInt8} : runes (strS (z5b (runes s).1)) = (z5b (runes s).1, -1) := z58 (zp4 (z2o s))
theorem zhx {s : List UInt8} (h : ¬ 0 ≤ (runes s).2) (join : Bool) : z2j (z2k false join s).1 = z2j s := by
  have hr := z58 (z5o (z2o s) false join)
  rw [z4d h, z4b (by rw [hr]; dsimp only; omega), hr, z4b h]
  dsimp only
  rw [zvj]
theorem zea {s : List UInt8} (h : ¬ 0 ≤ (runes s).2) : z2j (z2j s).1 = z2j s := by
  rw [z4b h, z4b (by rw [z5m]; dsimp only; omega), z5m]
  dsimp only
  rw [fold_fold]
theorem zvl {s : List UInt8} (h : ¬ 0 ≤ (runes s).2) : z2k false true (z2j s).1 = z2j s := by
  rw [z4b h]
  dsimp only
  rw [z4d (by rw [z5m]; dsimp only; omega), z5m]
  dsimp only
  rw [zmd]
theorem z87 (l : List Int) : (z5b l).length ≤ 4 * l.length := by have := zmc false true (l.map lw); rw [List.length_map] at this; exact this
end Go.AE
end
