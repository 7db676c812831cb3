/- Contracts of functions that the laws of this seat reach, and plain laws of what they compute. No condition beyond each statement's own. -/
import Derived.Test.YtekgeapohenheaaGreatSE
import Derived.WalkKit
import Derived.Lib.Walk
import Derived.Lib.SliceRun
import Derived.Lib.AppendZeros
import Derived.Lib.AppendZerosOnto
import Derived.Test.YtekgeapohenheaaGreatV1
set_option linter.unusedVariables false
set_option linter.unusedSimpArgs false
section
namespace Go.AE
open Go.Proofs
set_option maxRecDepth 20000
set_option maxHeartbeats 8000000
set_option linter.unusedSimpArgs false
end Go.AE
end
section
set_option linter.unusedSimpArgs false
set_option linter.unusedVariables false
namespace Go.AE
open Go.Proofs Go.Lib
set_option maxHeartbeats 4000000 in
set_option maxRecDepth 100000 in
theorem grow_run (w : World) (n : Nat) (h0 : 0 < n) (hn : n ≤ 1000000) : Calls Tryz.prog 148 #[.slice none 0 0, .int .i64 n] w fun e w' =>
    e = .returned (.slice (some ⟨w.heap.size, 0, none⟩) 0 (grownCap w n 0 21)) ∧ w' = w.drew.alloc (.cells (Builtin.zeroCells (Value.int .i32 0).cells n ++ Builtin.zeroCells (Value.int .i32 0).cells (grownCap w n 0 21 - n)) 21) := by
  have happ : ∀ ty, (Builtin.append_ #[53, 3] ty #[.slice none 0 0, .int .i64 n]).run Tryz.prog w = _ := fun ty =>
    run_append_nil_zeros (P := Tryz.prog) w 53 3 ty 21 _ (.int .i32 0) .i64 .i64 Tryz.underlying53 Tryz.underlying3 rfl rfl n h0 (by decide) (by omega) (by show n * 4 ≤ _; omega)
  have hge : n ≤ grownCap w n 0 21 := grownCap_ge w _ 0 21
  have hle : grownCap w n 0 21 ≤ maxLen := grownCap_le_maxLen w _ 0 21 (by unfold maxLen; omega)
  go_enter Tryz.func148, Tryz.ntmps148
  go_wp2_with (at_builtin; refine Lib.wpList_append_run _ rfl _ _ _ _ rfl _ _ rfl rfl _ _ (happ _) ?_)
  go_ret
  exact ⟨rfl, rfl⟩
set_option maxHeartbeats 4000000 in
set_option maxRecDepth 100000 in
theorem zxq (w : World) : Calls Tryz.prog 148 #[.slice none 0 0, .int .i64 0] w fun e w' => e = .returned (.slice none 0 0) ∧ w' = w := by
  go_enter Tryz.func148, Tryz.ntmps148
  go_wp2
  go_ret
  exact ⟨rfl, rfl⟩
theorem zxr (n : Nat) (hn : n ≤ 1000000) : Spec Tryz.prog 148 [.v (.slice none 0 0), I64 n] (.own 21 1 0 []) := by
  refine ⟨⟨_, Tryz.func148, by decide +kernel, by decide +kernel⟩, fun w F vs hw hr => ?_⟩
  obtain ⟨v0, v1, rfl, h0, h1⟩ : ∃ v0 v1, vs = [v0, v1] ∧ Rep w F [] (.v (.slice none 0 0)) v0 ∧ Rep w F [] (I64 n) v1 := by
    cases hr with
    | cons h0 hr => cases hr with
      | cons h1 hr => cases hr; exact ⟨_, _, rfl, h0, h1⟩
  cases h0
  cases h1
  rcases Nat.eq_zero_or_pos n with rfl | hp
  · refine (zxq w).mono ?_
    rintro e w' ⟨rfl, rfl⟩
    refine ⟨_, F, [none], rfl, Grow.refl _, fun b h => h, fun b h => ⟨.inl h, hw b h⟩, .ref0 rfl, ?_, ?_⟩
    · refine ⟨rfl, fun id x hx => ?_, fun id L hx => ?_, fun i j L M hi hj => ?_⟩
      · cases id with
        | zero => cases hx; exact ⟨0, [], ⟨rfl, .inl ⟨rfl, rfl⟩⟩, .nil, by simp, by decide, fun L h => by cases h⟩
        | succ id => cases hx
      · cases id with
        | zero => cases hx
        | succ id => cases hx
      · cases i with
        | zero => cases hi
        | succ i => cases hi
    · intro id L hL
      cases id with
      | zero => cases hL
      | succ id => cases hL
  · refine (grow_run w n hp hn).mono ?_
    rintro e w' ⟨rfl, hw'⟩
    have hge : n ≤ grownCap w n 0 21 := grownCap_ge w _ 0 21
    have hle : grownCap w n 0 21 ≤ maxLen := grownCap_le_maxLen w _ 0 21 (by unfold maxLen; omega)
    have hsz : w'.heap.size = w.heap.size + 1 := by rw [hw']; exact Array.size_push _
    have hold : ∀ k, k < w.heap.size → w'.heap[k]? = w.heap[k]? := fun k hk => by
      rw [hw']
      exact RowKit.Below.heap_alloc w.drew _ k hk
    have hnew : w'.heap[w.heap.size]? = some (.cells (Builtin.zeroCells (Value.int .i32 0).cells n ++ Builtin.zeroCells (Value.int .i32 0).cells (grownCap w n 0 21 - n)) 21 (0, 0)) := by
      rw [hw']
      exact heap_alloc_new w.drew _
    have hrep : Rep w' F [some ⟨w.heap.size, 0, grownCap w n 0 21⟩] (.ref 0 0 0) (.slice (some ⟨w.heap.size, 0, none⟩) 0 (grownCap w n 0 21)) := Rep.ref (L := ⟨w.heap.size, 0, grownCap w n 0 21⟩) rfl (fun _ => rfl) (Nat.zero_le _)
    refine ⟨_, F, [some ⟨w.heap.size, 0, grownCap w n 0 21⟩], rfl, ⟨by rw [hw']; rfl, by rw [hw']; rfl, by rw [hw']; rfl, by omega, hold⟩, fun b h => h, fun b h => ⟨.inl h, by have := hw b h; omega⟩, hrep, ?_, ?_⟩
    · refine ⟨rfl, fun id x hx => ?_, fun id L hx => ?_, fun i j L M hi hj _ => ?_⟩
      · cases id with
        | zero =>
          cases hx
          refine ⟨0, [], ⟨rfl, .inr ⟨w.heap.size, grownCap w n 0 21, _, rfl, Nat.zero_le _, hnew, Nat.zero_le _, hle, ?_, by simp⟩⟩, .nil, by simp, by decide, fun L h => by cases h; rfl⟩
          simp [size_zeroCells, Value.cells]; omega
        | succ id => cases hx
      · cases id with
        | zero =>
          cases hx
          refine ⟨fun h => ?_, by dsimp only; omega⟩
          have := hw _ h
          dsimp only at this
          omega
        | succ id => cases hx
      · cases i with
        | zero => cases j with
          | zero => rfl
          | succ j => cases hj
        | succ i => cases hi
    · intro id L hL
      cases id with
      | zero => cases hL; exact Nat.le_refl _
      | succ id => cases hL
end Go.AE
end
section
namespace Go.AE
open Go.Proofs
set_option maxRecDepth 20000
set_option maxHeartbeats 8000000
set_option linter.unusedSimpArgs false
theorem zlv (A B : List Int) (hA : A.length ≤ 400000) (hB : B.length ≤ 400000) : Spec Tryz.prog 143 [.sl 2 [.sl A.length (A.map I32), .sl B.length (B.map I32)]] (.own 21 1 (A ++ B).length ((A ++ B).map I32)) := by
  refine z0g (z := false) (ts := [.tmp 2]) ok1 Tryz.func143 rfl rfl (by decide +kernel) (by simp [Tryz.ntmps143]) rfl ?_
  repeat' first | simp (maxSteps := 4000000) (disch := omega) only [bunL, bunD, bun, ↓z04, ↓z00, z02, findLabel, ↓reduceIte, imp, shift, z0b, z0a, unown, names, z06, below, noF, isF, z03, z08, z07, ren, givL, updM, z0c, renO, belowM, seval, -Int.reduceToNat, B3, B4, B9, D147, bunN] | refine DR_q _ ?_ | (refine Fk.fk ?_ ?_ <;> intro hg <;> (try simp only [hg]) <;> (try simp only [bunB] at hg) <;> try (exfalso; first | omega | exact Bool.noConfusion hg | exact hg trivial)) | refine And.intro (by omega) ?_ | omega
  refine z0p (fun x : Nat × Nat => ⟨[(0, .sl 2 [.sl A.length (A.map I32), .sl B.length (B.map I32)]), (3, I64 x.2), (9, .sl 2 [.sl A.length (A.map I32), .sl B.length (B.map I32)]), (10, I64 2), (11, I64 x.1)], [.dead]⟩)
    (fun x => (x.1 = 0 ∧ x.2 = 0) ∨ (x.1 = 1 ∧ x.2 = A.length) ∨ (x.1 = 2 ∧ x.2 = A.length + B.length)) (fun x => 2 - x.1) (0, 0) (.inl ⟨rfl, rfl⟩) (by simp [wk, wkT, wkM, noF, isF, get, z0e, belowM, below, belows, I64, I32, Bv, U8, Sv] <;> try omega) ?_
  rintro ⟨i, k⟩ h
  dsimp only at h
  rcases h with ⟨rfl, rfl⟩ | ⟨rfl, rfl⟩ | ⟨rfl, rfl⟩
  · repeat' first | simp (maxSteps := 4000000) (disch := omega) only [bunL, bunD, bun, ↓z04, ↓z00, z02, findLabel, ↓reduceIte, imp, shift, z0b, z0a, unown, names, z06, below, noF, isF, z03, z08, z07, ren, givL, updM, z0c, renO, belowM, seval, -Int.reduceToNat, B3, B4, B9, D147, bunN] | refine DR_q _ ?_ | (refine Fk.fk ?_ ?_ <;> intro hg <;> (try simp only [hg]) <;> (try simp only [bunB] at hg) <;> try (exfalso; first | omega | exact Bool.noConfusion hg | exact hg trivial)) | refine And.intro (by omega) ?_ | omega
    refine ⟨(1, A.length), .inr (.inl ⟨rfl, rfl⟩), by simp, ?_⟩
    (simp (disch := omega) [wk, wkT, wkM, noF, isF, get, z0e, belowM, below, belows, I64, I32, Bv, U8, Sv, ] <;> try omega)
  · repeat' first | simp (maxSteps := 4000000) (disch := omega) only [bunL, bunD, bun, ↓z04, ↓z00, z02, findLabel, ↓reduceIte, imp, shift, z0b, z0a, unown, names, z06, below, noF, isF, z03, z08, z07, ren, givL, updM, z0c, renO, belowM, seval, -Int.reduceToNat, B3, B4, B9, D147, bunN] | refine DR_q _ ?_ | (refine Fk.fk ?_ ?_ <;> intro hg <;> (try simp only [hg]) <;> (try simp only [bunB] at hg) <;> try (exfalso; first | omega | exact Bool.noConfusion hg | exact hg trivial)) | refine And.intro (by omega) ?_ | omega
    refine ⟨(2, A.length + B.length), .inr (.inr ⟨rfl, rfl⟩), by simp, ?_⟩
    (simp (disch := omega) [wk, wkT, wkM, noF, isF, get, z0e, belowM, below, belows, I64, I32, Bv, U8, Sv, ] <;> try omega)
  · repeat' first | refine z09 (zxr (A.length + B.length) (by omega)) ?_ ?_ | simp (maxSteps := 4000000) (disch := omega) only [bunL, bunD, bun, ↓z04, ↓z00, z02, findLabel, ↓reduceIte, imp, shift, z0b, z0a, unown, names, z06, below, noF, isF, z03, z08, z07, ren, givL, updM, z0c, renO, belowM, seval, -Int.reduceToNat, B3, B4, B9, D147, bunN] | exact z0i _ | refine z0h _ _ ?_ | exact Cln.cl | refine z05 _ ?_ | refine z01 _ _ ?_ ?_ | refine DR_q _ ?_ | (refine Fk.fk ?_ ?_ <;> intro hg <;> (try simp only [hg]) <;> (try simp only [bunB] at hg) <;> try (exfalso; first | omega | exact Bool.noConfusion hg | exact hg trivial)) | refine And.intro (by omega) ?_ | omega
    refine z0p (fun x : Nat × List Int => ⟨[(6, .ref 1 0 x.2.length), (25, .sl 2 [.sl A.length (A.map I32), .sl B.length (B.map I32)]), (26, I64 2), (27, I64 x.1)], [.dead, .arr 21 1 (x.2.map I32)]⟩)
      (fun x => (x.1 = 0 ∧ x.2 = []) ∨ (x.1 = 1 ∧ x.2 = A) ∨ (x.1 = 2 ∧ x.2 = A ++ B)) (fun x => 2 - x.1) (0, []) (.inl ⟨rfl, rfl⟩) (by (simp (disch := omega) [wk, wkT, wkM, noF, isF, get, z0e, belowM, below, belows, I64, I32, Bv, U8, Sv, ] <;> try omega)) ?_
    rintro ⟨i, k⟩ h
    dsimp only at h
    rcases h with ⟨rfl, rfl⟩ | ⟨rfl, rfl⟩ | ⟨rfl, rfl⟩
    · repeat' first | simp (maxSteps := 4000000) (disch := omega) only [bunL, bunD, bun, ↓z04, ↓z00, z02, findLabel, ↓reduceIte, imp, shift, z0b, z0a, unown, names, z06, below, noF, isF, z03, z08, z07, ren, givL, updM, z0c, renO, belowM, seval, -Int.reduceToNat, B3, B4, B9, D147, bunN] | refine DR_q _ ?_ | (refine Fk.fk ?_ ?_ <;> intro hg <;> (try simp only [hg]) <;> (try simp only [bunB] at hg) <;> try (exfalso; first | omega | exact Bool.noConfusion hg | exact hg trivial)) | refine And.intro (by omega) ?_ | omega
      refine ⟨(1, A), .inr (.inl ⟨rfl, rfl⟩), by simp, ?_⟩
      (simp (disch := omega) [wk, wkT, wkM, noF, isF, get, z0e, belowM, below, belows, I64, I32, Bv, U8, Sv, ] <;> try omega)
    · repeat' first | simp (maxSteps := 4000000) (disch := omega) only [bunL, bunD, bun, ↓z04, ↓z00, z02, findLabel, ↓reduceIte, imp, shift, z0b, z0a, unown, names, z06, below, noF, isF, z03, z08, z07, ren, givL, updM, z0c, renO, belowM, seval, -Int.reduceToNat, B3, B4, B9, D147, bunN] | refine DR_q _ ?_ | (refine Fk.fk ?_ ?_ <;> intro hg <;> (try simp only [hg]) <;> (try simp only [bunB] at hg) <;> try (exfalso; first | omega | exact Bool.noConfusion hg | exact hg trivial)) | refine And.intro (by omega) ?_ | omega
      refine ⟨(2, k ++ B), .inr (.inr ⟨rfl, rfl⟩), by simp, ?_⟩
      (simp (disch := omega) [wk, wkT, wkM, noF, isF, get, z0e, belowM, below, belows, I64, I32, Bv, U8, Sv, List.map_append] <;> try omega)
    · repeat' first | simp (maxSteps := 4000000) (disch := omega) only [bunL, bunD, bun, ↓z04, ↓z00, z02, findLabel, ↓reduceIte, imp, shift, z0b, z0a, unown, names, z06, below, noF, isF, z03, z08, z07, ren, givL, updM, z0c, renO, belowM, seval, -Int.reduceToNat, B3, B4, B9, D147, bunN] | refine DR_q _ ?_ | (refine Fk.fk ?_ ?_ <;> intro hg <;> (try simp only [hg]) <;> (try simp only [bunB] at hg) <;> try (exfalso; first | omega | exact Bool.noConfusion hg | exact hg trivial)) | refine And.intro (by omega) ?_ | omega
      all_goals trace_state
end Go.AE
end
section
namespace Go.AE
open Go.Proofs
set_option maxRecDepth 20000
set_option maxHeartbeats 8000000
set_option linter.unusedSimpArgs false
theorem zyn (r : Int) (h : 44032 ≤ r ∧ r ≤ 55203) : Spec Tryz.prog 142 [I32 r] (.own 21 1 (syl r).length ((syl r).map I32)) := by
  by_cases h28 : (r - 44032) % 28 = 0
  · have hs : syl r = [4352 + (r - 44032) / 588, 4449 + (r - 44032) % 588 / 28] := by rw [syl, if_pos h28]; rfl
    have e : (r - 44032) % 588 / 28 = (r - 44032) / 28 % 21 := by omega
    rw [hs, e]
    refine z0g (z := false) (ts := [.tmp 2]) ok1 Tryz.func142 rfl rfl (by decide +kernel) (by simp [Tryz.ntmps142]) rfl ?_
    repeat' first | simp (maxSteps := 4000000) (disch := omega) only [bunL, bunD, bun, ↓z04, ↓z00, z02, findLabel, ↓reduceIte, imp, shift, z0b, z0a, unown, names, z06, below, noF, isF, z03, z08, z07, ren, givL, updM, z0c, renO, belowM, seval, -Int.reduceToNat, B4, B21, B53, bunN, tbB, z0j] | refine DR_q _ ?_ | (refine Fk.fk ?_ ?_ <;> intro hg <;> (try simp only [hg]) <;> (try simp only [bunB] at hg) <;> try (exfalso; first | omega | exact Bool.noConfusion hg | exact hg trivial)) | refine And.intro (by omega) ?_ | omega
  · have hs : syl r = [4352 + (r - 44032) / 588, 4449 + (r - 44032) % 588 / 28, 4519 + (r - 44032) % 28] := by rw [syl, if_neg h28]; rfl
    have e : (r - 44032) % 588 / 28 = (r - 44032) / 28 % 21 := by omega
    rw [hs, e]
    refine z0g (z := false) (ts := [.tmp 2]) ok1 Tryz.func142 rfl rfl (by decide +kernel) (by simp [Tryz.ntmps142]) rfl ?_
    repeat' first | simp (maxSteps := 4000000) (disch := omega) only [bunL, bunD, bun, ↓z04, ↓z00, z02, findLabel, ↓reduceIte, imp, shift, z0b, z0a, unown, names, z06, below, noF, isF, z03, z08, z07, ren, givL, updM, z0c, renO, belowM, seval, -Int.reduceToNat, B4, B21, B53, bunN, tbB, z0j] | refine DR_q _ ?_ | (refine Fk.fk ?_ ?_ <;> intro hg <;> (try simp only [hg]) <;> (try simp only [bunB] at hg) <;> try (exfalso; first | omega | exact Bool.noConfusion hg | exact hg trivial)) | refine And.intro (by omega) ?_ | omega
theorem zkd (r : Int) (soft : Bool) (hr : okR r) (h : han r = true ∨ stop soft r = true) : Spec Tryz.prog 130 [tab, I32 r, Bv soft] (.sl (one1 soft r).length ((one1 soft r).map I32)) := by
  have he := zmk soft r
  have hsp := z61 r
  have n3 := z7u r 44032 11172 (by decide) (by decide) (by decide)
  rw [← z0r] at hsp ⊢
  refine z0g (z := true) (ts := [.tmp 6]) ok1 Tryz.func130 rfl rfl (by decide +kernel) (by simp [Tryz.ntmps130]) rfl ?_
  cases hh : han r with
  | true =>
    rw [hh, if_pos rfl] at he
    have hb : 44032 ≤ r ∧ r ≤ 55203 := by simpa [han] using hh
    rw [decide_eq_true (show 44032 ≤ r ∧ r < 44032 + 11172 by omega)] at n3
    rw [he]
    repeat' first | refine z09 (hsp) ?_ ?_ | refine z09 (n3) ?_ ?_ | refine z09 (zyn r hb) ?_ ?_ | simp (maxSteps := 4000000) (disch := omega) only [bunL, bunD, bun, ↓z04, ↓z00, z02, findLabel, ↓reduceIte, imp, shift, z0b, z0a, unown, names, z06, below, noF, isF, z03, z08, z07, ren, givL, updM, z0c, renO, belowM, seval, -Int.reduceToNat, D29, D147, bunN, tbB, z0j] | exact z0i _ | refine z0h _ _ ?_ | exact Cln.cl | refine z05 _ ?_ | refine z01 _ _ ?_ ?_ | refine DR_q _ ?_ | (refine Fk.fk ?_ ?_ <;> intro hg <;> (try simp only [hg]) <;> (try simp only [bunB] at hg) <;> try (exfalso; first | omega | exact Bool.noConfusion hg | exact hg trivial)) | refine And.intro (by omega) ?_ | omega
    all_goals trace_state
  | false =>
    have hst := h.resolve_left (by rw [hh]; simp)
    rw [hh, hst] at he
    have hb : ¬ (44032 ≤ r ∧ r < 44032 + 11172) := by intro h'; simp [han] at hh; omega
    rw [decide_eq_false hb] at n3
    have hs : one1 soft r = [r] := by rw [he]; simp
    rw [hs]
    unfold stop at hst
    cases h2 : (spl r).2 with
    | false => repeat' first | refine z09 (hsp) ?_ ?_ | refine z09 (n3) ?_ ?_ | simp (maxSteps := 4000000) (disch := omega) only [bunL, bunD, bun, ↓z04, ↓z00, z02, findLabel, ↓reduceIte, imp, shift, z0b, z0a, unown, names, z06, below, noF, isF, z03, z08, z07, ren, givL, updM, z0c, renO, belowM, seval, -Int.reduceToNat, h2, D29, D147, bunN, tbB, z0j] | exact z0i _ | refine z0h _ _ ?_ | exact Cln.cl | refine z05 _ ?_ | refine z01 _ _ ?_ ?_ | refine DR_q _ ?_ | (refine Fk.fk ?_ ?_ <;> intro hg <;> (try simp only [hg]) <;> (try simp only [bunB] at hg) <;> try (exfalso; first | omega | exact Bool.noConfusion hg | exact hg trivial)) | refine And.intro (by omega) ?_ | omega
    | true =>
      rw [h2] at hst
      cases h3 : (spl r).1.2.2.2.1 with
      | false => rw [h3] at hst; simp at hst
      | true =>
        cases soft with
        | true => rw [h3] at hst; simp at hst
        | false => repeat' first | refine z09 (hsp) ?_ ?_ | refine z09 (n3) ?_ ?_ | simp (maxSteps := 4000000) (disch := omega) only [bunL, bunD, bun, ↓z04, ↓z00, z02, findLabel, ↓reduceIte, imp, shift, z0b, z0a, unown, names, z06, below, noF, isF, z03, z08, z07, ren, givL, updM, z0c, renO, belowM, seval, -Int.reduceToNat, h2, h3, D29, D147, bunN, tbB, z0j] | exact z0i _ | refine z0h _ _ ?_ | exact Cln.cl | refine z05 _ ?_ | refine z01 _ _ ?_ ?_ | refine DR_q _ ?_ | (refine Fk.fk ?_ ?_ <;> intro hg <;> (try simp only [hg]) <;> (try simp only [bunB] at hg) <;> try (exfalso; first | omega | exact Bool.noConfusion hg | exact hg trivial)) | refine And.intro (by omega) ?_ | omega
theorem zym : ∀ (n : Nat) (r : Int) (soft : Bool), Deep n r → okR r → Spec Tryz.prog 130 [tab, I32 r, Bv soft] (.sl (one1 soft r).length ((one1 soft r).map I32)) := by
  intro n
  induction n with
  | zero => intro r soft hd hr; exact zkd r soft hr (.inr (by simp [stop, show (spl r).2 = false from hd]))
  | succ n ih =>
    intro r soft hd hr
    by_cases hs : han r = true ∨ stop soft r = true
    · exact zkd r soft hr hs
    · have h1 : han r = false := by simpa using fun h => hs (.inl h)
      have h2 : stop soft r = false := by simpa using fun h => hs (.inr h)
      have he := zmk soft r
      rw [h1, h2] at he
      have hsp : (spl r).2 = true := by
        unfold stop at h2
        cases hq : (spl r).2
        · rw [hq] at h2; simp at h2
        · rfl
      have hsoft : ((spl r).1.2.2.2.1 && !soft) = false := by
        unfold stop at h2
        rw [hsp] at h2
        simpa using h2
      obtain ⟨b1, b2, b3, b4⟩ := zgv hsp
      have i1 := ih (spl r).1.2.1 soft (hd hsp).1 (by unfold okR; omega)
      have l1 := z9g 5 soft (spl r).1.2.1
      have l2 := z9g 5 soft (spl r).1.2.2.1
      rw [show oneF 5 soft (spl r).1.2.1 = one1 soft (spl r).1.2.1 from rfl] at l1
      rw [show oneF 5 soft (spl r).1.2.2.1 = one1 soft (spl r).1.2.2.1 from rfl] at l2
      have hspl := z61 r
      have n3 := z7u r 44032 11172 (by decide) (by decide) (by decide)
      have hb : ¬ (44032 ≤ r ∧ r < 44032 + 11172) := by intro h'; simp [han] at h1; omega
      rw [decide_eq_false hb] at n3
      by_cases h0 : (spl r).1.2.2.1 = 0
      · have hs1 : one1 soft r = one1 soft (spl r).1.2.1 := by rw [he]; simp [h0]
        rw [hs1]
        rw [← z0r] at hspl i1 ⊢
        refine z0g (z := true) (ts := [.tmp 6]) ok1 Tryz.func130 rfl rfl (by decide +kernel) (by simp [Tryz.ntmps130]) rfl ?_
        cases h3 : (spl r).1.2.2.2.1 with
        | false => repeat' first | refine z09 (hspl) ?_ ?_ | refine z09 (n3) ?_ ?_ | refine z09 (i1) ?_ ?_ | simp (maxSteps := 4000000) (disch := omega) only [bunL, bunD, bun, ↓z04, ↓z00, z02, findLabel, ↓reduceIte, imp, shift, z0b, z0a, unown, names, z06, below, noF, isF, z03, z08, z07, ren, givL, updM, z0c, renO, belowM, seval, -Int.reduceToNat, hsp, h3, h0, D29, D147, bunN, tbB, z0j] | exact z0i _ | refine z0h _ _ ?_ | exact Cln.cl | refine z05 _ ?_ | refine z01 _ _ ?_ ?_ | refine DR_q _ ?_ | (refine Fk.fk ?_ ?_ <;> intro hg <;> (try simp only [hg]) <;> (try simp only [bunB] at hg) <;> try (exfalso; first | omega | exact Bool.noConfusion hg | exact hg trivial)) | refine And.intro (by omega) ?_ | omega
        | true =>
          have : soft = true := by rw [h3] at hsoft; simpa using hsoft
          subst this
          repeat' first | refine z09 (hspl) ?_ ?_ | refine z09 (n3) ?_ ?_ | refine z09 (i1) ?_ ?_ | simp (maxSteps := 4000000) (disch := omega) only [bunL, bunD, bun, ↓z04, ↓z00, z02, findLabel, ↓reduceIte, imp, shift, z0b, z0a, unown, names, z06, below, noF, isF, z03, z08, z07, ren, givL, updM, z0c, renO, belowM, seval, -Int.reduceToNat, hsp, h3, h0, D29, D147, bunN, tbB, z0j] | exact z0i _ | refine z0h _ _ ?_ | exact Cln.cl | refine z05 _ ?_ | refine z01 _ _ ?_ ?_ | refine DR_q _ ?_ | (refine Fk.fk ?_ ?_ <;> intro hg <;> (try simp only [hg]) <;> (try simp only [bunB] at hg) <;> try (exfalso; first | omega | exact Bool.noConfusion hg | exact hg trivial)) | refine And.intro (by omega) ?_ | omega
      · have i2 := ih (spl r).1.2.2.1 soft ((hd hsp).2 h0) (by unfold okR; omega)
        have hs1 : one1 soft r = one1 soft (spl r).1.2.1 ++ one1 soft (spl r).1.2.2.1 := by rw [he]; simp [h0]
        have hcc := zlv (one1 soft (spl r).1.2.1) (one1 soft (spl r).1.2.2.1) (by omega) (by omega)
        rw [hs1]
        rw [← z0r] at hspl i1 i2 ⊢
        refine z0g (z := true) (ts := [.tmp 6]) ok1 Tryz.func130 rfl rfl (by decide +kernel) (by simp [Tryz.ntmps130]) rfl ?_
        cases h3 : (spl r).1.2.2.2.1 with
        | false =>
          repeat' first | refine z09 (hspl) ?_ ?_ | refine z09 (n3) ?_ ?_ | refine z09 (i1) ?_ ?_ | refine z09 (i2) ?_ ?_ | refine z09 (hcc) ?_ ?_ | simp (maxSteps := 4000000) (disch := omega) only [bunL, bunD, bun, ↓z04, ↓z00, z02, findLabel, ↓reduceIte, imp, shift, z0b, z0a, unown, names, z06, below, noF, isF, z03, z08, z07, ren, givL, updM, z0c, renO, belowM, seval, -Int.reduceToNat, hsp, h3, D29, D147, bunN, tbB, z0j] | exact z0i _ | refine z0h _ _ ?_ | exact Cln.cl | refine z05 _ ?_ | refine z01 _ _ ?_ ?_ | refine DR_q _ ?_ | (refine Fk.fk ?_ ?_ <;> intro hg <;> (try simp only [hg]) <;> (try simp only [bunB] at hg) <;> try (exfalso; first | omega | exact Bool.noConfusion hg | exact hg trivial)) | refine And.intro (by omega) ?_ | omega
          all_goals trace_state
        | true =>
          have : soft = true := by rw [h3] at hsoft; simpa using hsoft
          subst this
          repeat' first | refine z09 (hspl) ?_ ?_ | refine z09 (n3) ?_ ?_ | refine z09 (i1) ?_ ?_ | refine z09 (i2) ?_ ?_ | refine z09 (hcc) ?_ ?_ | simp (maxSteps := 4000000) (disch := omega) only [bunL, bunD, bun, ↓z04, ↓z00, z02, findLabel, ↓reduceIte, imp, shift, z0b, z0a, unown, names, z06, below, noF, isF, z03, z08, z07, ren, givL, updM, z0c, renO, belowM, seval, -Int.reduceToNat, hsp, h3, D29, D147, bunN, tbB, z0j] | exact z0i _ | refine z0h _ _ ?_ | exact Cln.cl | refine z05 _ ?_ | refine z01 _ _ ?_ ?_ | refine DR_q _ ?_ | (refine Fk.fk ?_ ?_ <;> intro hg <;> (try simp only [hg]) <;> (try simp only [bunB] at hg) <;> try (exfalso; first | omega | exact Bool.noConfusion hg | exact hg trivial)) | refine And.intro (by omega) ?_ | omega
          all_goals trace_state
end Go.AE
end
section
namespace Go.AE
open Go.Proofs
set_option maxRecDepth 20000
set_option maxHeartbeats 8000000
set_option linter.unusedSimpArgs false
theorem noneS (r : Int) (soft : Bool) (hr : okR r) : Spec Tryz.prog 130 [tab, I32 r, Bv soft] (.sl (one1 soft r).length ((one1 soft r).map I32)) := zym 4 r soft (zpp r) hr
theorem zsv (l : List Int) (soft : Bool) (hl : l.length ≤ 20000) (hr : ∀ r ∈ l, okR r) : Spec Tryz.prog 113 [tab, .sl l.length (l.map I32), Bv soft] (.own 21 1 (z3g soft l).length ((z3g soft l).map I32)) := by
  rw [← z0r]
  refine z0g (z := false) (ts := [.tmp 6]) ok1 Tryz.func113 rfl rfl (by decide +kernel) (by simp [Tryz.ntmps113]) rfl ?_
  repeat' first | simp (maxSteps := 4000000) (disch := omega) only [bunL, bunD, bun, ↓z04, ↓z00, z02, findLabel, ↓reduceIte, imp, shift, z0b, z0a, unown, names, z06, below, noF, isF, z03, z08, z07, ren, givL, updM, z0c, renO, belowM, seval, -Int.reduceToNat, D29, B21, B53, bunN, tbB] | refine DR_q _ ?_ | (refine Fk.fk ?_ ?_ <;> intro hg <;> (try simp only [hg]) <;> (try simp only [bunB] at hg) <;> try (exfalso; first | omega | exact Bool.noConfusion hg | exact hg trivial)) | refine And.intro (by omega) ?_ | omega
  refine z0p (fun i : Nat => ⟨[(2, Bv soft), (3, .ptr 0 0), (7, .ref 2 0 (z3g soft (l.take i)).length), (10, .sl l.length (l.map I32)), (11, I64 l.length), (12, I64 i)], [.row true 1 z0n, .dead, .arr 21 1 ((z3g soft (l.take i)).map I32)]⟩) (fun i => i ≤ l.length) (fun i => l.length - i) 0 (by simp) (by (simp (disch := omega) [wk, wkT, wkM, noF, isF, get, z0e, belowM, below, belows, I64, I32, Bv, U8, Sv, z3g, z0d] <;> try omega)) ?_
  intro i hi
  have hln := zbq soft (l.take i)
  have hlt0 : (l.take i).length = i := by simp; omega
  by_cases hlt : i < l.length
  · have ht := zzh soft l i hlt
    have hg0 : okR (l.getD i 0) := hr _ (by simp [List.getD, hlt])
    have hno := noneS (l.getD i 0) soft hg0
    rw [← z0r] at hno
    have l1 := z9g 5 soft (l.getD i 0)
    rw [show oneF 5 soft (l.getD i 0) = one1 soft (l.getD i 0) from rfl] at l1
    repeat' first | refine z09 (hno) ?_ ?_ | simp (maxSteps := 4000000) (disch := omega) only [bunL, bunD, bun, ↓z04, ↓z00, z02, findLabel, ↓reduceIte, imp, shift, z0b, z0a, unown, names, z06, below, noF, isF, z03, z08, z07, ren, givL, updM, z0c, renO, belowM, seval, -Int.reduceToNat, D29, B21, B53, bunN, tbB] | exact z0i _ | refine z0h _ _ ?_ | exact Cln.cl | refine z05 _ ?_ | refine z01 _ _ ?_ ?_ | refine DR_q _ ?_ | (refine Fk.fk ?_ ?_ <;> intro hg <;> (try simp only [hg]) <;> (try simp only [bunB] at hg) <;> try (exfalso; first | omega | exact Bool.noConfusion hg | exact hg trivial)) | refine And.intro (by omega) ?_ | omega
    refine ⟨i + 1, by omega, by omega, ?_⟩
    rw [ht]
    (simp (disch := omega) [wk, wkT, wkM, noF, isF, get, z0e, belowM, below, belows, I64, I32, Bv, U8, Sv, List.map_append, z0d] <;> try omega)
  · have e : i = l.length := by omega
    subst e
    rw [List.take_length] at *
    repeat' first | simp (maxSteps := 4000000) (disch := omega) only [bunL, bunD, bun, ↓z04, ↓z00, z02, findLabel, ↓reduceIte, imp, shift, z0b, z0a, unown, names, z06, below, noF, isF, z03, z08, z07, ren, givL, updM, z0c, renO, belowM, seval, -Int.reduceToNat, D29, B21, B53, bunN, tbB] | refine DR_q _ ?_ | (refine Fk.fk ?_ ?_ <;> intro hg <;> (try simp only [hg]) <;> (try simp only [bunB] at hg) <;> try (exfalso; first | omega | exact Bool.noConfusion hg | exact hg trivial)) | refine And.intro (by omega) ?_ | omega
end Go.AE
end
section
namespace Go.AE
open Go.Proofs
set_option maxRecDepth 20000
set_option maxHeartbeats 8000000
set_option linter.unusedSimpArgs false
theorem zi1 : ∀ (f : Nat) (soft : Bool) (r : Int), okR r → ∀ x ∈ oneF f soft r, okR x
  | 0, _, r, h, x, hx => by simp [oneF] at hx; subst hx; exact h
  | f + 1, soft, r, h, x, hx => by
    rw [z4s] at hx
    split at hx
    · rename_i hh
      have : 44032 ≤ r ∧ r ≤ 55203 := by simpa [han] using hh
      unfold syl at hx
      split at hx <;> simp at hx <;> unfold okR <;> omega
    · split at hx
      · simp at hx; subst hx; exact h
      · rename_i hst
        have hs : (spl r).2 = true := by
          unfold stop at hst
          cases hq : (spl r).2
          · rw [hq] at hst; simp at hst
          · rfl
        obtain ⟨b1, b2, b3, b4⟩ := zgv hs
        split at hx
        · exact zi1 f soft _ (by unfold okR; omega) x hx
        · rcases List.mem_append.1 hx with hx | hx
          · exact zi1 f soft _ (by unfold okR; omega) x hx
          · exact zi1 f soft _ (by unfold okR; omega) x hx
theorem splt_ok {soft : Bool} {l : List Int} (h : ∀ r ∈ l, okR r) : ∀ r ∈ z3g soft l, okR r := fun r hr => by
  obtain ⟨a, ha, hra⟩ := List.mem_flatMap.1 hr
  exact zi1 5 soft a (h a ha) r hra
theorem zi3 : ∀ (T R : List Int), Kin cls (ordF R T) (R ++ T) ∧ (ordF R T).length = R.length + T.length
  | [], R => by rw [ordF, List.append_nil]; exact ⟨(z39 cls R).2, z1v cls R⟩
  | x :: T, R => by
    rw [ordF]
    split
    · have h1 := zi3 T (R ++ [x])
      refine ⟨by simpa using h1.1, by have := h1.2; simp at this ⊢; omega⟩
    · have h1 := zi3 T []
      exact ⟨Kin.app (z39 cls R).2 (Kin.app (Kin.refl cls [x]) (by simpa using h1.1)), by have := h1.2; have := z1v cls R; simp at *; omega⟩
theorem zi4 (l : List Int) : Kin cls (ordL l) l ∧ (ordL l).length = l.length := by simpa [ordL] using zi3 l []
theorem ord_ok {l : List Int} (h : ∀ r ∈ l, okR r) : ∀ r ∈ ordL l, okR r := fun r hr => h r ((zi4 l).1.mem.1 hr)
def zjm (soft join : Bool) (l : List Int) : List Int := if join then zjq (ordL (z3g soft l)) else ordL (z3g soft l)
def z5f (soft join : Bool) (s : List UInt8) : List UInt8 × Bool := if 0 ≤ (runes s).2 then ([], false) else (strS (zjm soft join (runes s).1), z1z (zjm soft join (runes s).1))
theorem zxl (s : List UInt8) (soft join : Bool) (hs : s.length ≤ 10000000) (hl : (runes s).1.length ≤ 10000) (hr : ∀ r ∈ (runes s).1, okR r) : Spec Tryz.prog 82 [tab, Sv s, Bv soft, Bv join] (.tup [Sv (z5f soft join s).1, Bv (z5f soft join s).2]) := by
  have h1 := zsv (runes s).1 soft (by omega) hr
  have l1 := zbq soft (runes s).1
  have o1 := splt_ok (soft := soft) hr
  have h2 := zsx (z3g soft (runes s).1) (by omega) o1
  have l2 := (zi4 (z3g soft (runes s).1)).2
  have o2 := ord_ok o1
  have htk : List.take (z3g soft (runes s).1).length ((ordL (z3g soft (runes s).1)).map I32) = (ordL (z3g soft (runes s).1)).map I32 := List.take_of_length_le (by simp; omega)
  have h3 := zsi (ordL (z3g soft (runes s).1)) (by omega) o2
  have l3 : (zjq (ordL (z3g soft (runes s).1))).length ≤ (z3g soft (runes s).1).length := by rw [← l2]; exact zhq _
  rw [l2] at h3
  rw [← z0r] at h1 h2 h3 ⊢
  simp only [Bv] at h1
  refine z0g (z := false) (ts := [.tmp 8, .tmp 9]) ok1 Tryz.func82 rfl rfl (by decide +kernel) (by simp [Tryz.ntmps82]) rfl ?_
  by_cases h0 : 0 ≤ (runes s).2
  · have e : z5f soft join s = ([], false) := by unfold z5f; rw [if_pos h0]
    rw [e]
    repeat' first | refine z09 (z28 s (by omega)) ?_ ?_ | simp (maxSteps := 4000000) (disch := omega) only [bunL, bunD, bun, ↓z04, ↓z00, z02, findLabel, ↓reduceIte, imp, shift, z0b, z0a, unown, names, z06, below, noF, isF, z03, z08, z07, ren, givL, updM, z0c, renO, belowM, seval, -Int.reduceToNat, B9, D29, B21, B53, bunN, tbB] | exact z0i _ | refine z0h _ _ ?_ | exact Cln.cl | refine z05 _ ?_ | refine z01 _ _ ?_ ?_ | refine DR_q _ ?_ | (refine Fk.fk ?_ ?_ <;> intro hg <;> (try simp only [hg]) <;> (try simp only [bunB] at hg) <;> try (exfalso; first | omega | exact Bool.noConfusion hg | exact hg trivial)) | refine And.intro (by omega) ?_ | omega
    all_goals trace_state
  · cases join with
    | false =>
      have us := z5k (ordL (z3g soft (runes s).1)) (by omega)
      rw [l2] at us
      have e : z5f soft false s = (strS (ordL (z3g soft (runes s).1)), z1z (ordL (z3g soft (runes s).1))) := by unfold z5f; rw [if_neg h0]; rfl
      rw [e]
      repeat' first | refine z09 (z28 s (by omega)) ?_ ?_ | refine DR_p (.take 2 (.take 3 (.two 0 (.one 1 (.one 4 (.one 5 (.take 6 (.done))))) 1 (.two 0 (.one 4 (.one 5 (.take 6 (.done)))) 4 (.one 0 (.one 5 (.take 6 (.done)))))))) _ (by decide +kernel) ?_ | simp (maxSteps := 4000000) (disch := omega) only [bunL, bunD, bun, ↓z04, ↓z00, z02, findLabel, ↓reduceIte, imp, shift, z0b, z0a, unown, names, z06, below, noF, isF, z03, z08, z07, ren, givL, updM, z0c, renO, belowM, seval, -Int.reduceToNat, l2, B9, D29, B21, B53, bunN, tbB] | exact z0i _ | refine z0h _ _ ?_ | exact Cln.cl | refine z05 _ ?_ | refine z01 _ _ ?_ ?_ | refine DR_q _ ?_ | (refine Fk.fk ?_ ?_ <;> intro hg <;> (try simp only [hg]) <;> (try simp only [bunB] at hg) <;> try (exfalso; first | omega | exact Bool.noConfusion hg | exact hg trivial)) | refine And.intro (by omega) ?_ | omega
      repeat' refine And.intro ?_ ?_
      all_goals (repeat' first | refine z09 (h1) ?_ ?_ | refine z09 (h2) ?_ ?_ | refine z09 (us) ?_ ?_ | simp (maxSteps := 4000000) (disch := omega) only [bunL, bunD, bun, ↓z04, ↓z00, z02, findLabel, ↓reduceIte, imp, shift, z0b, z0a, unown, names, z06, below, noF, isF, z03, z08, z07, ren, givL, updM, z0c, renO, belowM, seval, -Int.reduceToNat, l2, htk, B9, D29, B21, B53, bunN, tbB] | exact z0i _ | refine z0h _ _ ?_ | exact Cln.cl | refine z05 _ ?_ | refine z01 _ _ ?_ ?_ | refine DR_q _ ?_ | (refine Fk.fk ?_ ?_ <;> intro hg <;> (try simp only [hg]) <;> (try simp only [bunB] at hg) <;> try (exfalso; first | omega | exact Bool.noConfusion hg | exact hg trivial)) | refine And.intro (by omega) ?_ | omega)
      all_goals trace_state
    | true =>
      have us := z5k (zjq (ordL (z3g soft (runes s).1))) (by omega)
      have e : z5f soft true s = (strS (zjq (ordL (z3g soft (runes s).1))), z1z (zjq (ordL (z3g soft (runes s).1)))) := by unfold z5f; rw [if_neg h0]; rfl
      rw [e]
      repeat' first | refine z09 (z28 s (by omega)) ?_ ?_ | refine DR_p (.take 2 (.take 3 (.two 0 (.one 1 (.one 4 (.one 5 (.take 6 (.done))))) 1 (.two 0 (.one 4 (.one 5 (.take 6 (.done)))) 4 (.one 0 (.one 5 (.take 6 (.done)))))))) _ (by decide +kernel) ?_ | simp (maxSteps := 4000000) (disch := omega) only [bunL, bunD, bun, ↓z04, ↓z00, z02, findLabel, ↓reduceIte, imp, shift, z0b, z0a, unown, names, z06, below, noF, isF, z03, z08, z07, ren, givL, updM, z0c, renO, belowM, seval, -Int.reduceToNat, l2, B9, D29, B21, B53, bunN, tbB] | exact z0i _ | refine z0h _ _ ?_ | exact Cln.cl | refine z05 _ ?_ | refine z01 _ _ ?_ ?_ | refine DR_q _ ?_ | (refine Fk.fk ?_ ?_ <;> intro hg <;> (try simp only [hg]) <;> (try simp only [bunB] at hg) <;> try (exfalso; first | omega | exact Bool.noConfusion hg | exact hg trivial)) | refine And.intro (by omega) ?_ | omega
      repeat' refine And.intro ?_ ?_
      all_goals (repeat' first | refine z09 (h1) ?_ ?_ | refine z09 (h2) ?_ ?_ | refine z09 (h3) ?_ ?_ | refine z09 (us) ?_ ?_ | simp (maxSteps := 4000000) (disch := omega) only [bunL, bunD, bun, ↓z04, ↓z00, z02, findLabel, ↓reduceIte, imp, shift, z0b, z0a, unown, names, z06, below, noF, isF, z03, z08, z07, ren, givL, updM, z0c, renO, belowM, seval, -Int.reduceToNat, l2, htk, B9, D29, B21, B53, bunN, tbB] | exact z0i _ | refine z0h _ _ ?_ | exact Cln.cl | refine z05 _ ?_ | refine z01 _ _ ?_ ?_ | refine DR_q _ ?_ | (refine Fk.fk ?_ ?_ <;> intro hg <;> (try simp only [hg]) <;> (try simp only [bunB] at hg) <;> try (exfalso; first | omega | exact Bool.noConfusion hg | exact hg trivial)) | refine And.intro (by omega) ?_ | omega)
      all_goals trace_state
end Go.AE
end
section
namespace Go.AE
open Go.Proofs
set_option maxRecDepth 20000
set_option maxHeartbeats 8000000
set_option linter.unusedSimpArgs false
theorem one_okR {s : List UInt8} {r : Int} {k : Nat} (h : one s = some (r, k)) : okR r := by
  obtain ⟨h1, _, _, h4⟩ := z9h h
  by_cases hr : right r = true
  · have := (z4f r).1 hr; unfold okR; omega
  · have : rlen r = 0 := by unfold rlen; rw [if_neg hr]
    omega
theorem zkx : ∀ (f : Nat) (a : Int) (s : List UInt8), ∀ r ∈ (z13 f a s).1, okR r
  | 0, a, s, r, hr => by simp [z13] at hr
  | f + 1, a, s, r, hr => by
    rw [z29] at hr
    split at hr
    · simp at hr
    · cases ho : one s with
      | none => rw [ho] at hr; simp [z5y] at hr
      | some p =>
        obtain ⟨q, k⟩ := p
        rw [ho] at hr
        simp only [z5y, List.mem_cons] at hr
        rcases hr with rfl | hr
        · exact one_okR ho
        · exact zkx f _ _ r hr
theorem zib (s : List UInt8) : ∀ r ∈ (runes s).1, okR r := zkx _ _ _
theorem zkc (s : List UInt8) (hs : s.length ≤ 10000000) (hl : (runes s).1.length ≤ 10000) : Spec Tryz.prog 53 [tab, Sv s] (.tup [Sv (z5f false true s).1, Bv (z5f false true s).2]) := by
  have h := zxl s false true hs hl (zib s)
  rw [← z0r] at h ⊢
  refine z0g (z := false) (ts := [.tmp 4, .tmp 5]) ok1 Tryz.func53 rfl rfl (by decide +kernel) (by simp [Tryz.ntmps53]) rfl ?_
  repeat' first | refine z09 (h) ?_ ?_ | simp (maxSteps := 4000000) (disch := omega) only [bunL, bunD, bun, ↓z04, ↓z00, z02, findLabel, ↓reduceIte, imp, shift, z0b, z0a, unown, names, z06, below, noF, isF, z03, z08, z07, ren, givL, updM, z0c, renO, belowM, seval, -Int.reduceToNat, B9, D29, bunN, tbB] | exact z0i _ | refine z0h _ _ ?_ | exact Cln.cl | refine z05 _ ?_ | refine z01 _ _ ?_ ?_ | refine DR_q _ ?_ | (refine Fk.fk ?_ ?_ <;> intro hg <;> (try simp only [hg]) <;> (try simp only [bunB] at hg) <;> try (exfalso; first | omega | exact Bool.noConfusion hg | exact hg trivial)) | refine And.intro (by omega) ?_ | omega
theorem zyl (s : List UInt8) (hs : s.length ≤ 10000000) (hl : (runes s).1.length ≤ 10000) : Spec Tryz.prog 40 [tab, Sv s] (Bv ((z5f false true s).2 && ((z5f false true s).1 == s))) := by
  have h := zkc s hs hl
  rw [← z0r] at h ⊢
  refine z0g (z := false) (ts := [.tmp 4]) ok1 Tryz.func40 rfl rfl (by decide +kernel) (by simp [Tryz.ntmps40]) rfl ?_
  cases hf : (z5f false true s).2 with
  | false => repeat' first | refine z09 (h) ?_ ?_ | simp (maxSteps := 4000000) (disch := omega) only [bunL, bunD, bun, ↓z04, ↓z00, z02, findLabel, ↓reduceIte, imp, shift, z0b, z0a, unown, names, z06, below, noF, isF, z03, z08, z07, ren, givL, updM, z0c, renO, belowM, seval, -Int.reduceToNat, hf, B9, D29, bunN, tbB] | exact z0i _ | refine z0h _ _ ?_ | exact Cln.cl | refine z05 _ ?_ | refine z01 _ _ ?_ ?_ | refine DR_q _ ?_ | (refine Fk.fk ?_ ?_ <;> intro hg <;> (try simp only [hg]) <;> (try simp only [bunB] at hg) <;> try (exfalso; first | omega | exact Bool.noConfusion hg | exact hg trivial)) | refine And.intro (by omega) ?_ | omega
  | true => repeat' first | refine z09 (h) ?_ ?_ | simp (maxSteps := 4000000) (disch := omega) only [bunL, bunD, bun, ↓z04, ↓z00, z02, findLabel, ↓reduceIte, imp, shift, z0b, z0a, unown, names, z06, below, noF, isF, z03, z08, z07, ren, givL, updM, z0c, renO, belowM, seval, -Int.reduceToNat, hf, B9, D29, bunN, tbB] | exact z0i _ | refine z0h _ _ ?_ | exact Cln.cl | refine z05 _ ?_ | refine z01 _ _ ?_ ?_ | refine DR_q _ ?_ | (refine Fk.fk ?_ ?_ <;> intro hg <;> (try simp only [hg]) <;> (try simp only [bunB] at hg) <;> try (exfalso; first | omega | exact Bool.noConfusion hg | exact hg trivial)) | refine And.intro (by omega) ?_ | omega
end Go.AE
end
section
namespace Go.AE
set_option linter.unusedSimpArgs false
theorem zmz : ∀ (f g : Nat) (a : Int) (s : List UInt8), s.length < f → s.length < g → z13 f a s = z13 g a s := by
  intro f
  induction f with
  | zero => intro g a s h; omega
  | succ f ih =>
    intro g a s hf hg
    obtain ⟨g, rfl⟩ : ∃ k, g = k + 1 := ⟨g - 1, by omega⟩
    rw [z29, z29]
    split
    · rfl
    · cases ho : one s with
      | none => rfl
      | some p =>
        obtain ⟨r, k⟩ := p
        obtain ⟨h1, h2, h3, h4⟩ := z9h ho
        simp only [z5y]
        rw [ih g (a + k) (s.drop k) (by simp; omega) (by simp; omega)]
theorem zt3 {r : Int} (h : right r = true) (f : Nat) (a : Int) (t : List UInt8) : z13 (f + 1) a (enc r ++ t) = (r :: (z13 f (a + (enc r).length) t).1, (z13 f (a + (enc r).length) t).2) := by
  have hp : 0 < (enc r).length := by
    have h1 := za1 r
    have h2 := zdd r
    have h3 := zbm r
    rw [h] at h3
    simp at h3
    omega
  have := zdg (f := f) (a := a) (s := enc r ++ t) (by simp; omega) (one_enc h t)
  rw [List.drop_left] at this
  exact this
theorem zt2 (g : Nat) (t : List UInt8) : ∀ (l : List Int) (a : Int), z1z l = true → z13 (l.length + g) a (l.flatMap enc ++ t) = (l ++ (z13 g (a + (l.flatMap enc).length) t).1, (z13 g (a + (l.flatMap enc).length) t).2) := by
  intro l
  induction l with
  | nil => intro a _; simp
  | cons r l ih =>
    intro a h
    simp only [z1z, List.all_cons, Bool.and_eq_true] at h
    rw [List.length_cons, show l.length + 1 + g = (l.length + g) + 1 by omega, List.flatMap_cons, List.append_assoc, zt3 h.1, ih _ h.2]
    simp only [List.length_append, Int.natCast_add, Int.add_assoc, List.cons_append]
theorem flat_len (l : List Int) (h : z1z l = true) : l.length ≤ (l.flatMap enc).length := by
  induction l with
  | nil => simp
  | cons r l ih =>
    simp only [z1z, List.all_cons, Bool.and_eq_true] at h
    have h1 := za1 r
    have h2 := zdd r
    have h3 := zbm r
    rw [h.1] at h3
    simp at h3
    have := ih h.2
    simp only [List.flatMap_cons, List.length_append, List.length_cons]
    omega
theorem z7e : ∀ (f : Nat) (a k : Int) (s : List UInt8), 0 ≤ a → (z13 f (a + k) s).1 = (z13 f a s).1 ∧ ((z13 f a s).2 = -1 ∧ (z13 f (a + k) s).2 = -1 ∨ 0 ≤ (z13 f a s).2 ∧ (z13 f (a + k) s).2 = (z13 f a s).2 + k) := by
  intro f
  induction f with
  | zero => intro a k s h; simp [z13]
  | succ f ih =>
    intro a k s h
    rw [z29, z29]
    split
    · simp
    · cases ho : one s with
      | none => simp [z5y]; omega
      | some p =>
        obtain ⟨r, n⟩ := p
        have := ih (a + n) k (s.drop n) (by omega)
        simp only [z5y]
        rw [show a + k + n = a + n + k by omega]
        exact ⟨by rw [this.1], this.2⟩
theorem zz9 (l : List Int) (t : List UInt8) (h : z1z l = true) : (runes (l.flatMap enc ++ t)).1 = l ++ (runes t).1 ∧
    ((runes t).2 = -1 ∧ (runes (l.flatMap enc ++ t)).2 = -1 ∨ 0 ≤ (runes t).2 ∧ (runes (l.flatMap enc ++ t)).2 = (runes t).2 + (l.flatMap enc).length) := by
  have hl := flat_len l h
  have e : runes (l.flatMap enc ++ t) = z13 (l.length + ((l.flatMap enc).length - l.length + t.length + 1)) 0 (l.flatMap enc ++ t) := by
    unfold runes
    rw [List.length_append, show l.length + ((l.flatMap enc).length - l.length + t.length + 1) = (l.flatMap enc).length + t.length + 1 by omega]
  rw [e, zt2 _ t l 0 h, zmz _ (t.length + 1) _ t (by omega) (by omega)]
  have h2 := z7e (t.length + 1) 0 (l.flatMap enc).length t (by omega)
  refine ⟨?_, ?_⟩
  · simp only [h2.1]; rfl
  · exact h2.2
theorem zdh {l : List Int} (h : z1z l = true) : runes (strS l) = (l, -1) := by
  have := zz9 l [] h
  have e : runes [] = ([], -1) := rfl
  rw [e, List.append_nil, List.append_nil] at this
  simp only [strS, h, if_true]
  obtain ⟨h1, h2⟩ := this
  refine Prod.ext h1 ?_
  rcases h2 with h2 | h2
  · exact h2.2
  · simp at h2
end Go.AE
end
section
namespace Go.AE
set_option linter.unusedSimpArgs false
theorem stop_no {soft : Bool} {r : Int} (h : stop soft r = false) : (spl r).2 = true ∧ ((spl r).1.2.2.2.1 = true → soft = true) := by
  unfold stop at h
  cases hq : (spl r).2 <;> rw [hq] at h
  · simp at h
  · refine ⟨rfl, fun h1 => ?_⟩
    rw [h1] at h
    simpa using h
theorem z9m {r : Int} (h : 0 ≤ r ∧ r ≤ 1114111 ∧ (r < 55296 ∨ 57343 < r)) : right r = true := (z4f r).2 (by omega)
theorem z7w : ∀ (f : Nat) (soft : Bool) (r : Int), right r = true → ∀ x ∈ oneF f soft r, right x = true
  | 0, _, r, h, x, hx => by simp [oneF] at hx; subst hx; exact h
  | f + 1, soft, r, h, x, hx => by
    rw [z4s] at hx
    split at hx
    · rename_i hh
      have : 44032 ≤ r ∧ r ≤ 55203 := by simpa [han] using hh
      unfold syl at hx
      split at hx <;> simp at hx <;> exact z9m (by omega)
    · split at hx
      · simp at hx; subst hx; exact h
      · rename_i hst
        have hs := (stop_no (by simpa using hst)).1
        have hq := z8s (q := fun _ x => right x.2.1 && right x.2.2.1) (by decide +kernel) (by decide +kernel) hs
        simp only [Bool.and_eq_true] at hq
        split at hx
        · exact z7w f soft _ hq.1 x hx
        · rcases List.mem_append.1 hx with hx | hx
          · exact z7w f soft _ hq.1 x hx
          · exact z7w f soft _ hq.2 x hx
theorem zyd {a b : Int} (h : (mk2 a b).2 = true) : right (mk2 a b).1 = true := by
  unfold mk2 at h ⊢
  split
  · exact z9m (by dsimp only; omega)
  · rename_i h1
    rw [if_neg h1] at h
    split
    · rename_i h2
      have ha : 44032 ≤ a ∧ a ≤ 55203 := by simpa [han] using h2.1
      exact z9m (by dsimp only; omega)
    · rename_i h2
      rw [if_neg h2] at h
      exact z8s (q := fun r _ => right r) (by decide +kernel) (by decide +kernel) (zkj h).1
theorem z4v {l : List Int} : z1z l = true ↔ ∀ r ∈ l, right r = true := by unfold z1z; rw [List.all_eq_true]
theorem zd3 {s : JS} {x : Int} (h : ∀ r ∈ s.out, right r = true) (hx : right x = true) : ∀ r ∈ (s.put x).out, right r = true := fun r hr => by
  rw [zaf] at hr
  rcases List.mem_append.1 hr with hr | hr
  · exact h r hr
  · simp at hr; subst hr; exact hx
theorem zmd {s : JS} {x : Int} (h : ∀ r ∈ s.out, right r = true) (hx : right x = true) : ∀ r ∈ (z4c s x).out, right r = true := by
  unfold z4c
  split
  · exact zd3 h hx
  · rename_i b hb
    split
    · split
      · rename_i h2
        intro r hr
        simp only [JS.out, hb, Option.toList, List.mem_append, List.mem_singleton, or_assoc] at hr h
        rcases hr with hr | hr | hr
        · exact h r (Or.inl hr)
        · subst hr; exact zyd h2
        · exact h r (Or.inr (Or.inr hr))
      · exact zd3 h hx
    · exact zd3 h hx
theorem zme {l : List Int} (h : z1z l = true) : z1z (zjq l) = true := by
  rw [z4v] at h ⊢
  have key : ∀ (l : List Int) (s : JS), (∀ r ∈ s.out, right r = true) → (∀ r ∈ l, right r = true) → ∀ r ∈ (l.foldl z4c s).out, right r = true := fun l => by
    induction l with
    | nil => intro s h _; exact h
    | cons x l ih => intro s h hl; exact ih _ (zmd h (hl x (by simp))) fun r hr => hl r (List.mem_cons_of_mem _ hr)
  exact key l ⟨[], none, []⟩ (by simp [JS.out]) h
theorem zcc {l : List Int} (h : z1z l = true) (soft join : Bool) : z1z (zjm soft join l) = true := by
  have h1 : z1z (ordL (z3g soft l)) = true := by
    rw [z4v] at h ⊢
    intro r hr
    obtain ⟨a, ha, hra⟩ := List.mem_flatMap.1 ((zi4 _).1.mem.1 hr)
    exact z7w 5 soft a (h a ha) r hra
  unfold zjm
  split
  · exact zme h1
  · exact h1
theorem zyx {s : List UInt8} {r : Int} {k : Nat} (h : one s = some (r, k)) : right r = true := by
  obtain ⟨h1, _, _, h4⟩ := z9h h
  by_cases hr : right r = true
  · exact hr
  · have : rlen r = 0 := by unfold rlen; rw [if_neg hr]
    omega
theorem zb9 : ∀ (f : Nat) (a : Int) (s : List UInt8), ∀ r ∈ (z13 f a s).1, right r = true
  | 0, a, s, r, hr => by simp [z13] at hr
  | f + 1, a, s, r, hr => by
    rw [z29] at hr
    split at hr
    · simp at hr
    · cases ho : one s with
      | none => rw [ho] at hr; simp [z5y] at hr
      | some p =>
        obtain ⟨q, k⟩ := p
        rw [ho] at hr
        simp only [z5y, List.mem_cons] at hr
        rcases hr with rfl | hr
        · exact zyx ho
        · exact zb9 f _ _ r hr
theorem z6g (s : List UInt8) : z1z (runes s).1 = true := z4v.2 (zb9 _ _ _)
theorem zq6 {s : List UInt8} (h : ¬ 0 ≤ (runes s).2) (soft join : Bool) : z5f soft join s = (strS (zjm soft join (runes s).1), true) := by
  unfold z5f
  rw [if_neg h, zcc (z6g s)]
theorem enc_len4 (r : Int) : (enc r).length ≤ 4 := by
  unfold enc
  repeat' split
  all_goals simp
theorem zrg (l : List Int) : (strS l).length ≤ 4 * l.length := by
  unfold strS
  split
  · rename_i h
    clear h
    induction l with
    | nil => simp
    | cons r l ih =>
      have := enc_len4 r
      simp only [List.flatMap_cons, List.length_append, List.length_cons]
      omega
  · simp
theorem zxk (soft join : Bool) (l : List Int) : (zjm soft join l).length ≤ 4 * l.length := by
  have l1 := zbq soft l
  have l2 := (zi4 (z3g soft l)).2
  have l3 := zhq (ordL (z3g soft l))
  unfold zjm
  split
  · show (jRun (ordL (z3g soft l))).out.length ≤ _
    omega
  · omega
end Go.AE
end
section
namespace Go.AE
set_option linter.unusedSimpArgs false
def zlw (a : Int) (n : Nat) : Nat := if a < 0 then n else a.toNat
theorem z90 (n : Nat) : zlw (-1) n = n := rfl
theorem zpo {a : Int} (h : 0 ≤ a) (n : Nat) : zlw a n = a.toNat := if_neg (by omega)
theorem zmy : ∀ (f : Nat) (s : List UInt8), s.length < f → z1z (z13 f 0 s).1 = true ∧ (z13 f 0 s).1.flatMap enc = s.take (zlw (z13 f 0 s).2 s.length) ∧ (z13 f 0 s).2 ≤ s.length := by
  intro f
  induction f with
  | zero => intro s h; omega
  | succ f ih =>
    intro s hf
    rw [z29]
    split
    · cases s <;> simp_all [z1z, zlw]
    · cases ho : one s with
      | none => simp [z5y, z1z, zlw]
      | some p =>
        obtain ⟨r, n⟩ := p
        obtain ⟨h1, h2, h3, h4⟩ := z9h ho
        have h5 := ih (s.drop n) (by simp; omega)
        have h6 := z7e f 0 n (s.drop n) (by omega)
        have hr : right r = true := by
          cases h : right r with
          | true => rfl
          | false => have := (zbm _).2 h; omega
        simp only [z5y]
        rw [h6.1]
        simp only [List.length_drop] at h5
        refine ⟨by simp only [z1z, List.all_cons, hr]; exact h5.1, ?_, ?_⟩
        · rw [List.flatMap_cons, h5.2.1, h2]
          rcases h6.2 with ⟨h7, h8⟩ | ⟨h7, h8⟩
          · rw [h7, h8]
            have e1 : (s.drop n).take (s.length - n) = s.drop n := List.take_of_length_le (by simp)
            rw [z90, z90, e1, List.take_append_drop, List.take_length]
          · rw [h8, zpo (by omega), zpo (by omega)]
            rw [show ((z13 f 0 (s.drop n)).2 + (n : Int)).toNat = n + (z13 f 0 (s.drop n)).2.toNat by omega, List.take_add]
        · rcases h6.2 with ⟨h7, h8⟩ | ⟨h7, h8⟩ <;> rw [h8] <;> omega
theorem zgq (s : List UInt8) : z1z (runes s).1 = true ∧ strS (runes s).1 = s.take (zlw (runes s).2 s.length) ∧ (runes s).2 ≤ s.length := by
  have h : z1z (runes s).1 = true ∧ (runes s).1.flatMap enc = s.take (zlw (runes s).2 s.length) ∧ (runes s).2 ≤ s.length := zmy (s.length + 1) s (by omega)
  refine ⟨h.1, ?_, h.2.2⟩
  unfold strS
  rw [if_pos h.1]
  exact h.2.1
theorem zra (s : List UInt8) : (runes s).2 = -1 ∨ 0 ≤ (runes s).2 := by
  have := (z7e (s.length + 1) 0 0 s (by omega)).2
  unfold runes
  omega
end Go.AE
end
section
namespace Go.AE
set_option linter.unusedSimpArgs false
def nar (r : Int) : Int := if wide r then r - 65248 else r
def lw (r : Int) : Int := low (nar r)
theorem low_fix {r : Int} (h : cat r ≠ 1) : low r = r := Classical.byContradiction fun h1 => h (low_ne h1).1
theorem lw_right {r : Int} (h : right r = true) : right (lw r) = true := by
  have hn : right (nar r) = true := by
    unfold nar
    split
    · rename_i hw
      have : 65281 ≤ r ∧ r ≤ 65374 := by simpa [wide] using hw
      exact z9m (by omega)
    · exact h
  unfold lw
  by_cases hl : low (nar r) = nar r
  · rw [hl]; exact hn
  · exact List.all_eq_true.1 (show (zy8.all fun r => right (low r)) = true by decide +kernel) _ (zya hl)
theorem zhv {l : List Int} (h : z1z l = true) : z1z (l.map lw) = true := by
  rw [z4v] at h ⊢
  intro r hr
  obtain ⟨a, ha, rfl⟩ := List.mem_map.1 hr
  exact lw_right (h a ha)
def zjl (l : List Int) : List Int := zjm false true (l.map lw)
theorem map_fix {l : List Int} (h : ∀ r ∈ l, lw r = r) : l.map lw = l := by
  induction l with
  | nil => rfl
  | cons x l ih => rw [List.map_cons, h x (by simp), ih fun r hr => h r (List.mem_cons_of_mem _ hr)]
def za3 (s : List UInt8) : List UInt8 × Bool := if 0 ≤ (runes s).2 then ([], false) else (strS (zjl (runes s).1), true)
theorem foldS_eq (s : List UInt8) : za3 s = if 0 ≤ (runes s).2 then ([], false) else z5f false true (strS ((runes s).1.map lw)) := by
  unfold za3
  split
  · rfl
  · have hr := zdh (zhv (z6g s))
    rw [zq6 (by rw [hr]; dsimp only; omega), hr]; rfl
theorem zm5 {l : List Int} (h : z1z l = true) : z1z (zjl l) = true := zcc (zhv h) false true
theorem zq5 {s : List UInt8} (h : ¬ 0 ≤ (runes s).2) : za3 s = (strS (zjl (runes s).1), true) := by unfold za3; rw [if_neg h]
theorem zt6 {s : List UInt8} : runes (strS (zjl (runes s).1)) = (zjl (runes s).1, -1) := zdh (zm5 (z6g s))
theorem zxj (l : List Int) : (zjl l).length ≤ 4 * l.length := by have := zxk false true (l.map lw); rw [List.length_map] at this; exact this
end Go.AE
end
