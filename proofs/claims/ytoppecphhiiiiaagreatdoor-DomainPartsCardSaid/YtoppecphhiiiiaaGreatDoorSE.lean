/- Contracts of functions that the laws of this seat reach, and plain laws of what they compute. No condition beyond each statement's own. -/
import Derived.Test.YtoppecphhiiiiaaGreatDoorSA
import Derived.WalkKit
import Derived.Lib.Walk
import Derived.Lib.SliceRun
import Derived.Lib.AppendZeros
import Derived.Lib.AppendZerosOnto
import Derived.Test.YtoppecphhiiiiaaGreatDoorV1
import Derived.Test.YtoppecphhiiiiaaGreatDoorU1
import Derived.Test.YtoppecphhiiiiaaGreatDoorXE
import Derived.Lib.IndexMore
import Derived.Lib.Join
set_option linter.unusedVariables false
set_option linter.unusedSimpArgs false
section
namespace Go.AE
open Go.Proofs
set_option maxHeartbeats 8000000
set_option maxRecDepth 20000
end Go.AE
end
section
set_option linter.unusedSimpArgs false
set_option linter.unusedVariables false
namespace Go.AE
open Go.Proofs Go.Lib
set_option maxHeartbeats 4000000 in
set_option maxRecDepth 100000 in
theorem y0b5 (w : World) (n : Nat) (h0 : 0 < n) (hn : n ≤ 1000000) : Calls Tryz.prog 209 #[.slice none 0 0, .int .i64 n] w fun e w' =>
   e = .returned (.slice (some ⟨w.heap.size, 0, none⟩) 0 (grownCap w n 0 21)) ∧ w' = w.drew.alloc (.cells (Builtin.zeroCells (Value.int .i32 0).cells n ++ Builtin.zeroCells (Value.int .i32 0).cells (grownCap w n 0 21 - n)) 21) := by
 have happ : ∀ ty, (Builtin.append_ #[63, 3] ty #[.slice none 0 0, .int .i64 n]).run Tryz.prog w = _ := fun ty =>
   run_append_nil_zeros (P := Tryz.prog) w 63 3 ty 21 _ (.int .i32 0) .i64 .i64 Tryz.underlying63 Tryz.underlying3 rfl rfl n h0 (by decide) (by omega) (by show n * 4 ≤ _; omega)
 have hge : n ≤ grownCap w n 0 21 := grownCap_ge w _ 0 21
 have hle : grownCap w n 0 21 ≤ maxLen := grownCap_le_maxLen w _ 0 21 (by unfold maxLen; omega)
 go_enter Tryz.func209, Tryz.ntmps209
 go_wp2_with (at_builtin; refine Lib.wpList_append_run _ rfl _ _ _ _ rfl _ _ rfl rfl _ _ (happ _) ?_)
 go_ret
 exact ⟨rfl, rfl⟩
set_option maxHeartbeats 4000000 in
set_option maxRecDepth 100000 in
theorem y06t (w : World) : Calls Tryz.prog 209 #[.slice none 0 0, .int .i64 0] w fun e w' => e = .returned (.slice none 0 0) ∧ w' = w := by
 go_enter Tryz.func209, Tryz.ntmps209
 go_wp2
 go_ret
 exact ⟨rfl, rfl⟩
theorem y06u (n : Nat) (hn : n ≤ 1000000) : z0q Tryz.prog 209 [.v (.slice none 0 0), I64 n] (.own 21 1 0 []) := by
 refine ⟨⟨_, Tryz.func209, by decide +kernel, by decide +kernel⟩, fun w F vs hw hT hr => ?_⟩
 obtain ⟨v0, v1, rfl, h0, h1⟩ : ∃ v0 v1, vs = [v0, v1] ∧ Rep w F [] (.v (.slice none 0 0)) v0 ∧ Rep w F [] (I64 n) v1 := by
   cases hr with
   | cons h0 hr => cases hr with
     | cons h1 hr => cases hr; exact ⟨_, _, rfl, h0, h1⟩
 cases h0
 cases h1
 rcases Nat.eq_zero_or_pos n with rfl | hp
 · refine (y06t w).mono ?_
   rintro e w' ⟨rfl, rfl⟩
   refine ⟨_, F, [none], rfl, z65.refl _, fun b h => h, fun b h => ⟨.inl h, hw b h⟩, .ref0 rfl, ?_, ?_⟩
   · refine ⟨rfl, fun id x hx => ?_, fun id L hx => ?_, fun i j L M hi hj => ?_⟩
     · cases id with
       | zero => cases hx; exact ⟨0, [], ⟨rfl, .inl ⟨rfl, rfl⟩⟩, .nil, by simp, by decide, fun L h => by cases h⟩
       | succ id => cases hx
     · cases id with
       | zero => cases hx
       | succ id => cases hx
     · cases i with
       | zero => cases hi
       | succ i => cases hi
   · intro id L hL
     cases id with
     | zero => cases hL
     | succ id => cases hL
 · refine (y0b5 w n hp hn).mono ?_
   rintro e w' ⟨rfl, hw'⟩
   have hge : n ≤ grownCap w n 0 21 := grownCap_ge w _ 0 21
   have hle : grownCap w n 0 21 ≤ maxLen := grownCap_le_maxLen w _ 0 21 (by unfold maxLen; omega)
   have hsz : w'.heap.size = w.heap.size + 1 := by rw [hw']; exact Array.size_push _
   have hold : ∀ k, k < w.heap.size → w'.heap[k]? = w.heap[k]? := fun k hk => by
     rw [hw']
     exact RowKit.Below.heap_alloc w.drew _ k hk
   have hnew : w'.heap[w.heap.size]? = some (.cells (Builtin.zeroCells (Value.int .i32 0).cells n ++ Builtin.zeroCells (Value.int .i32 0).cells (grownCap w n 0 21 - n)) 21 (0, 0)) := by
     rw [hw']
     exact heap_alloc_new w.drew _
   have hrep : Rep w' F [some ⟨w.heap.size, 0, grownCap w n 0 21⟩] (.ref 0 0 0) (.slice (some ⟨w.heap.size, 0, none⟩) 0 (grownCap w n 0 21)) := Rep.ref (L := ⟨w.heap.size, 0, grownCap w n 0 21⟩) rfl (fun _ => rfl) (Nat.zero_le _)
   refine ⟨_, F, [some ⟨w.heap.size, 0, grownCap w n 0 21⟩], rfl, ⟨by rw [hw']; rfl, by rw [hw']; rfl, by rw [hw']; rfl, by omega, hold⟩, fun b h => h, fun b h => ⟨.inl h, by have := hw b h; omega⟩, hrep, ?_, ?_⟩
   · refine ⟨rfl, fun id x hx => ?_, fun id L hx => ?_, fun i j L M hi hj _ => ?_⟩
     · cases id with
       | zero =>
         cases hx
         refine ⟨0, [], ⟨rfl, .inr ⟨w.heap.size, grownCap w n 0 21, _, rfl, Nat.zero_le _, hnew, Nat.zero_le _, hle, ?_, by simp⟩⟩, .nil, by simp, by decide, fun L h => by cases h; rfl⟩
         simp [size_zeroCells, Value.cells]; omega
       | succ id => cases hx
     · cases id with
       | zero =>
         cases hx
         refine ⟨fun h => ?_, by dsimp only; omega⟩
         have := hw _ h
         dsimp only at this
         omega
       | succ id => cases hx
     · cases i with
       | zero => cases j with
         | zero => rfl
         | succ j => cases hj
       | succ i => cases hi
   · intro id L hL
     cases id with
     | zero => cases hL; exact Nat.le_refl _
     | succ id => cases hL
end Go.AE
end
section
namespace Go.AE
open Go.Proofs
set_option maxHeartbeats 8000000
set_option maxRecDepth 20000
theorem zsd {P Q R S : Prop} (a : Q) (b : R) (c : S) (h : Mk P → Hid Q → Hid R → Hid S → P := by
 intro m q r s
 repeat' first | refine z07 (by first | assumption | (apply_assumption <;> first | assumption | omega)) ?_ ?_ | refine LSp.fit (by assumption) ?_ | simp (maxSteps := 4000000) (disch := omega) only [z13, z12, bun, ↓z05, ↓z01, z03, findLabel, ↓reduceIte, imp, shift, z0g, z0c, unown, names, z08, below, noF, isF, z04, z0a, z09, ren, z0t, z0u, z0h, renO, belowM, seval, -Int.reduceToNat, bT, z14, *] | exact z0n _ | refine z0m _ _ ?_ | exact Cln.cl | refine z02 _ ?_ | refine z00 _ _ ?_ ?_ | refine z10 _ ?_ | (refine Fk.fk ?_ ?_ <;> intro hg <;> (try simp only [hg]) <;> (try simp only [z11] at hg) <;> try (exfalso; first | omega | exact Bool.noConfusion hg | exact hg trivial)) | refine And.intro (by omega) ?_ | omega
 first
 | done
 | all_goals (repeat revert hg)
   fail_if_success with_reducible refine m.use ?_
   exact q.out
   first
   | done
   | exact r.out
     first
     | done
     | exact s.out
       first | done | fail) : P := h ⟨tru⟩ ⟨a⟩ ⟨b⟩ ⟨c⟩
theorem zs2 (A B : List Int) (hA : A.length ≤ 400000) (hB : B.length ≤ 400000) : z0q Tryz.prog 194 [.sl 2 [.sl A.length (A.map I32), .sl B.length (B.map I32)]] (.own 21 1 (A ++ B).length ((A ++ B).map I32)) := by
 refine sp [.tmp 2] Tryz.func194 Tryz.ntmps194 ?_
 refine zsd ?_ tru tru <;> intros
 refine z0j (fun x : Nat × Nat => ⟨[(0, .sl 2 [.sl A.length (A.map I32), .sl B.length (B.map I32)]), (3, I64 x.2), (9, .sl 2 [.sl A.length (A.map I32), .sl B.length (B.map I32)]), (10, I64 2), (11, I64 x.1)], [.dead]⟩)
   (fun x => (x.1 = 0 ∧ x.2 = 0) ∨ (x.1 = 1 ∧ x.2 = A.length) ∨ (x.1 = 2 ∧ x.2 = A.length + B.length)) (fun x => 2 - x.1) (0, 0) (.inl ⟨rfl, rfl⟩) wk0 ?_
 rintro ⟨i, k⟩ h
 dsimp only at h
 rcases h with ⟨rfl, rfl⟩ | ⟨rfl, rfl⟩ | ⟨rfl, rfl⟩
 · refine zsd ?_ tru tru <;> intros
   refine ⟨(1, A.length), .inr (.inl ⟨rfl, rfl⟩), by simp, ?_⟩
   (simp (disch := omega) [wk, wkT, wkM, noF, isF, get, z0b, belowM, below, belows, I64, I32, Bv, U8, Sv, ] <;> try omega)
 · refine zsd ?_ tru tru <;> intros
   refine ⟨(2, A.length + B.length), .inr (.inr ⟨rfl, rfl⟩), by simp, ?_⟩
   (simp (disch := omega) [wk, wkT, wkM, noF, isF, get, z0b, belowM, below, belows, I64, I32, Bv, U8, Sv, ] <;> try omega)
 · (have := y06u (A.length + B.length) (by omega); refine zsd ?_ tru tru <;> intros)
   refine z0j (fun x : Nat × List Int => ⟨[(6, .ref 1 0 x.2.length), (25, .sl 2 [.sl A.length (A.map I32), .sl B.length (B.map I32)]), (26, I64 2), (27, I64 x.1)], [.dead, .arr 21 1 (x.2.map I32)]⟩)
     (fun x => (x.1 = 0 ∧ x.2 = []) ∨ (x.1 = 1 ∧ x.2 = A) ∨ (x.1 = 2 ∧ x.2 = A ++ B)) (fun x => 2 - x.1) (0, []) (.inl ⟨rfl, rfl⟩) (by (simp (disch := omega) [wk, wkT, wkM, noF, isF, get, z0b, belowM, below, belows, I64, I32, Bv, U8, Sv, ] <;> try omega)) ?_
   rintro ⟨i, k⟩ h
   dsimp only at h
   rcases h with ⟨rfl, rfl⟩ | ⟨rfl, rfl⟩ | ⟨rfl, rfl⟩
   · refine zsd ?_ tru tru <;> intros
     refine ⟨(1, A), .inr (.inl ⟨rfl, rfl⟩), by simp, ?_⟩
     (simp (disch := omega) [wk, wkT, wkM, noF, isF, get, z0b, belowM, below, belows, I64, I32, Bv, U8, Sv, ] <;> try omega)
   · refine zsd ?_ tru tru <;> intros
     refine ⟨(2, k ++ B), .inr (.inr ⟨rfl, rfl⟩), by simp, ?_⟩
     (simp (disch := omega) [wk, wkT, wkM, noF, isF, get, z0b, belowM, below, belows, I64, I32, Bv, U8, Sv, List.map_append] <;> try omega)
   · exact zsd tru tru tru
theorem y05t {P Q R S : Prop} (a : Q) (b : R) (c : S) (h : Mk P → Hid Q → Hid R → Hid S → P := by
 intro m q r s
 repeat' first | refine z07 (by first | assumption | (apply_assumption <;> first | assumption | omega)) ?_ ?_ | refine LSp.fit (by assumption) ?_ | simp (maxSteps := 4000000) (disch := omega) only [z13, z12, bun, ↓z05, ↓z01, z03, findLabel, ↓reduceIte, imp, shift, z0g, z0c, unown, names, z08, below, noF, isF, z04, z0a, z09, ren, z0t, z0u, z0h, renO, belowM, seval, -Int.reduceToNat, bT, z14, tbB, z18, *] | exact z0n _ | refine z0m _ _ ?_ | exact Cln.cl | refine z02 _ ?_ | refine z00 _ _ ?_ ?_ | refine z10 _ ?_ | (refine Fk.fk ?_ ?_ <;> intro hg <;> (try simp only [hg]) <;> (try simp only [z11] at hg) <;> try (exfalso; first | omega | exact Bool.noConfusion hg | exact hg trivial)) | refine And.intro (by omega) ?_ | omega
 first
 | done
 | all_goals (repeat revert hg)
   fail_if_success with_reducible refine m.use ?_
   exact q.out
   first
   | done
   | exact r.out
     first
     | done
     | exact s.out
       first | done | fail) : P := h ⟨tru⟩ ⟨a⟩ ⟨b⟩ ⟨c⟩
theorem y087 (r : Int) (h : 44032 ≤ r ∧ r ≤ 55203) : z0q Tryz.prog 193 [I32 r] (.own 21 1 (syl r).length ((syl r).map I32)) := by
 by_cases h28 : (r - 44032) % 28 = 0
 · have hs : syl r = [4352 + (r - 44032) / 588, 4449 + (r - 44032) % 588 / 28] := by rw [syl, if_pos h28]; rfl
   have e : (r - 44032) % 588 / 28 = (r - 44032) / 28 % 21 := by omega
   rw [hs, e]
   refine sp [.tmp 2] Tryz.func193 Tryz.ntmps193 ?_
   exact y05t tru tru tru
 · have hs : syl r = [4352 + (r - 44032) / 588, 4449 + (r - 44032) % 588 / 28, 4519 + (r - 44032) % 28] := by rw [syl, if_neg h28]; rfl
   have e : (r - 44032) % 588 / 28 = (r - 44032) / 28 % 21 := by omega
   rw [hs, e]
   refine sp [.tmp 2] Tryz.func193 Tryz.ntmps193 ?_
   exact y05t tru tru tru
theorem zq5 (r : Int) (soft : Bool) (hr : okR r) (h : han r = true ∨ stop soft r = true) : z0q Tryz.prog 166 [tab, I32 r, Bv soft] (.sl (z5x soft r).length ((z5x soft r).map I32)) := by
 have he := z32 soft r
 have hsp := z9s r
 have n3 := z9h r 44032 11172 (by decide) (by decide) (by decide)
 rw [← z0e] at hsp ⊢
 refine z8x (z := true) (ts := [.tmp 6]) ok1 Tryz.func166 rfl rfl (by decide +kernel) (by simp [Tryz.ntmps166]) rfl ?_
 cases hh : han r with
 | true =>
   rw [hh, if_pos rfl] at he
   have hb : 44032 ≤ r ∧ r ≤ 55203 := by simpa [han] using hh
   rw [decide_eq_true (show 44032 ≤ r ∧ r < 44032 + 11172 by omega)] at n3
   rw [he]
   (have := y087 r hb; exact y05t tru tru tru)
 | false =>
   have hst := h.resolve_left (by rw [hh]; simp)
   rw [hh, hst] at he
   have hb : ¬ (44032 ≤ r ∧ r < 44032 + 11172) := by intro h'; simp [han] at hh; omega
   rw [decide_eq_false hb] at n3
   have hs : z5x soft r = [r] := by rw [he]; simp
   rw [hs]
   unfold stop at hst
   cases h2 : (spl r).2 with
   | false => exact y05t tru tru tru
   | true =>
     rw [h2] at hst
     cases h3 : (spl r).1.2.2.2.1 with
     | false => rw [h3] at hst; simp at hst
     | true =>
       cases soft with
       | true => rw [h3] at hst; simp at hst
       | false => exact y05t tru tru tru
theorem y086 : ∀ (n : Nat) (r : Int) (soft : Bool), y03v n r → okR r → z0q Tryz.prog 166 [tab, I32 r, Bv soft] (.sl (z5x soft r).length ((z5x soft r).map I32)) := by
 intro n
 induction n with
 | zero => intro r soft hd hr; exact zq5 r soft hr (.inr (by simp [stop, show (spl r).2 = false from hd]))
 | succ n ih =>
   intro r soft hd hr
   by_cases hs : han r = true ∨ stop soft r = true
   · exact zq5 r soft hr hs
   · have h1 : han r = false := by simpa using fun h => hs (.inl h)
     have h2 : stop soft r = false := by simpa using fun h => hs (.inr h)
     have he := z32 soft r
     rw [h1, h2] at he
     have hsp : (spl r).2 = true := by
       unfold stop at h2
       cases hq : (spl r).2
       · rw [hq] at h2; simp at h2
       · rfl
     have hsoft : ((spl r).1.2.2.2.1 && !soft) = false := by
       unfold stop at h2
       rw [hsp] at h2
       simpa using h2
     obtain ⟨b1, b2, b3, b4⟩ := zlv hsp
     have i1 := ih (spl r).1.2.1 soft (hd hsp).1 (by unfold okR; omega)
     have l1 := zc8 5 soft (spl r).1.2.1
     have l2 := zc8 5 soft (spl r).1.2.2.1
     rw [show za9 5 soft (spl r).1.2.1 = z5x soft (spl r).1.2.1 from rfl] at l1
     rw [show za9 5 soft (spl r).1.2.2.1 = z5x soft (spl r).1.2.2.1 from rfl] at l2
     have hspl := z9s r
     have n3 := z9h r 44032 11172 (by decide) (by decide) (by decide)
     have hb : ¬ (44032 ≤ r ∧ r < 44032 + 11172) := by intro h'; simp [han] at h1; omega
     rw [decide_eq_false hb] at n3
     by_cases h0 : (spl r).1.2.2.1 = 0
     · have hs1 : z5x soft r = z5x soft (spl r).1.2.1 := by rw [he]; simp [h0]
       rw [hs1]
       rw [← z0e] at hspl i1 ⊢
       refine z8x (z := true) (ts := [.tmp 6]) ok1 Tryz.func166 rfl rfl (by decide +kernel) (by simp [Tryz.ntmps166]) rfl ?_
       cases h3 : (spl r).1.2.2.2.1 with
       | false => repeat' first | refine z07 (hspl) ?_ ?_ | refine z07 (n3) ?_ ?_ | refine z07 (i1) ?_ ?_ | simp (maxSteps := 4000000) (disch := omega) only [z13, z12, bun, ↓z05, ↓z01, z03, findLabel, ↓reduceIte, imp, shift, z0g, z0c, unown, names, z08, below, noF, isF, z04, z0a, z09, ren, z0t, z0u, z0h, renO, belowM, seval, -Int.reduceToNat, hsp, h3, h0, D29, zvu, z14, tbB, z18] | exact z0n _ | refine z0m _ _ ?_ | exact Cln.cl | refine z02 _ ?_ | refine z00 _ _ ?_ ?_ | refine z10 _ ?_ | (refine Fk.fk ?_ ?_ <;> intro hg <;> (try simp only [hg]) <;> (try simp only [z11] at hg) <;> try (exfalso; first | omega | exact Bool.noConfusion hg | exact hg trivial)) | refine And.intro (by omega) ?_ | omega
       | true =>
         have : soft = true := by rw [h3] at hsoft; simpa using hsoft
         subst this
         repeat' first | refine z07 (hspl) ?_ ?_ | refine z07 (n3) ?_ ?_ | refine z07 (i1) ?_ ?_ | simp (maxSteps := 4000000) (disch := omega) only [z13, z12, bun, ↓z05, ↓z01, z03, findLabel, ↓reduceIte, imp, shift, z0g, z0c, unown, names, z08, below, noF, isF, z04, z0a, z09, ren, z0t, z0u, z0h, renO, belowM, seval, -Int.reduceToNat, hsp, h3, h0, D29, zvu, z14, tbB, z18] | exact z0n _ | refine z0m _ _ ?_ | exact Cln.cl | refine z02 _ ?_ | refine z00 _ _ ?_ ?_ | refine z10 _ ?_ | (refine Fk.fk ?_ ?_ <;> intro hg <;> (try simp only [hg]) <;> (try simp only [z11] at hg) <;> try (exfalso; first | omega | exact Bool.noConfusion hg | exact hg trivial)) | refine And.intro (by omega) ?_ | omega
     · have i2 := ih (spl r).1.2.2.1 soft ((hd hsp).2 h0) (by unfold okR; omega)
       have hs1 : z5x soft r = z5x soft (spl r).1.2.1 ++ z5x soft (spl r).1.2.2.1 := by rw [he]; simp [h0]
       have hcc := zs2 (z5x soft (spl r).1.2.1) (z5x soft (spl r).1.2.2.1) (by omega) (by omega)
       rw [hs1]
       rw [← z0e] at hspl i1 i2 ⊢
       refine z8x (z := true) (ts := [.tmp 6]) ok1 Tryz.func166 rfl rfl (by decide +kernel) (by simp [Tryz.ntmps166]) rfl ?_
       cases h3 : (spl r).1.2.2.2.1 with
       | false =>
         repeat' first | refine z07 (hspl) ?_ ?_ | refine z07 (n3) ?_ ?_ | refine z07 (i1) ?_ ?_ | refine z07 (i2) ?_ ?_ | refine z07 (hcc) ?_ ?_ | simp (maxSteps := 4000000) (disch := omega) only [z13, z12, bun, ↓z05, ↓z01, z03, findLabel, ↓reduceIte, imp, shift, z0g, z0c, unown, names, z08, below, noF, isF, z04, z0a, z09, ren, z0t, z0u, z0h, renO, belowM, seval, -Int.reduceToNat, hsp, h3, D29, zvu, z14, tbB, z18] | exact z0n _ | refine z0m _ _ ?_ | exact Cln.cl | refine z02 _ ?_ | refine z00 _ _ ?_ ?_ | refine z10 _ ?_ | (refine Fk.fk ?_ ?_ <;> intro hg <;> (try simp only [hg]) <;> (try simp only [z11] at hg) <;> try (exfalso; first | omega | exact Bool.noConfusion hg | exact hg trivial)) | refine And.intro (by omega) ?_ | omega
       | true =>
         have : soft = true := by rw [h3] at hsoft; simpa using hsoft
         subst this
         repeat' first | refine z07 (hspl) ?_ ?_ | refine z07 (n3) ?_ ?_ | refine z07 (i1) ?_ ?_ | refine z07 (i2) ?_ ?_ | refine z07 (hcc) ?_ ?_ | simp (maxSteps := 4000000) (disch := omega) only [z13, z12, bun, ↓z05, ↓z01, z03, findLabel, ↓reduceIte, imp, shift, z0g, z0c, unown, names, z08, below, noF, isF, z04, z0a, z09, ren, z0t, z0u, z0h, renO, belowM, seval, -Int.reduceToNat, hsp, h3, D29, zvu, z14, tbB, z18] | exact z0n _ | refine z0m _ _ ?_ | exact Cln.cl | refine z02 _ ?_ | refine z00 _ _ ?_ ?_ | refine z10 _ ?_ | (refine Fk.fk ?_ ?_ <;> intro hg <;> (try simp only [hg]) <;> (try simp only [z11] at hg) <;> try (exfalso; first | omega | exact Bool.noConfusion hg | exact hg trivial)) | refine And.intro (by omega) ?_ | omega
theorem noneS (r : Int) (soft : Bool) (hr : okR r) : z0q Tryz.prog 166 [tab, I32 r, Bv soft] (.sl (z5x soft r).length ((z5x soft r).map I32)) := y086 4 r soft (zmv r) hr
theorem y0gt {P Q R S : Prop} (a : Q) (b : R) (c : S) (h : Mk P → Hid Q → Hid R → Hid S → P := by
 intro m q r s
 repeat' first | refine z07 (by first | assumption | (apply_assumption <;> first | assumption | omega)) ?_ ?_ | refine LSp.fit (by assumption) ?_ | simp (maxSteps := 4000000) (disch := omega) only [z13, z12, bun, ↓z05, ↓z01, z03, findLabel, ↓reduceIte, imp, shift, z0g, z0c, unown, names, z08, below, noF, isF, z04, z0a, z09, ren, z0t, z0u, z0h, renO, belowM, seval, -Int.reduceToNat, bT, z14, tbB, *] | exact z0n _ | refine z0m _ _ ?_ | exact Cln.cl | refine z02 _ ?_ | refine z00 _ _ ?_ ?_ | refine z10 _ ?_ | (refine Fk.fk ?_ ?_ <;> intro hg <;> (try simp only [hg]) <;> (try simp only [z11] at hg) <;> try (exfalso; first | omega | exact Bool.noConfusion hg | exact hg trivial)) | refine And.intro (by omega) ?_ | omega
 first
 | done
 | all_goals (repeat revert hg)
   fail_if_success with_reducible refine m.use ?_
   exact q.out
   first
   | done
   | exact r.out
     first
     | done
     | exact s.out
       first | done | fail) : P := h ⟨tru⟩ ⟨a⟩ ⟨b⟩ ⟨c⟩
theorem y00n (l : List Int) (soft : Bool) (hl : l.length ≤ 20000) (hr : ∀ r ∈ l, okR r) : z0q Tryz.prog 125 [tab, .sl l.length (l.map I32), Bv soft] (.own 21 1 (z0x soft l).length ((z0x soft l).map I32)) := by
 rw [← z0e]
 refine sp [.tmp 6] Tryz.func125 Tryz.ntmps125 ?_
 refine y0gt ?_ tru tru <;> intros
 refine z0j (fun i : Nat => ⟨[(2, Bv soft), (3, .ptr 0 0), (7, .ref 2 0 (z0x soft (l.take i)).length), (10, .sl l.length (l.map I32)), (11, I64 l.length), (12, I64 i)], [.row true 1 z0f, .dead, .arr 21 1 ((z0x soft (l.take i)).map I32)]⟩) (fun i => i ≤ l.length) (fun i => l.length - i) 0 (by simp) (by (simp (disch := omega) [wk, wkT, wkM, noF, isF, get, z0b, belowM, below, belows, I64, I32, Bv, U8, Sv, z0x, z0d] <;> try omega)) ?_
 intro i hi
 have hln := zfb soft (l.take i)
 have hlt0 : (l.take i).length = i := by simp; omega
 by_cases hlt : i < l.length
 · have ht := y09g soft l i hlt
   have hg0 : okR (l.getD i 0) := hr _ (by simp [List.getD, hlt])
   have hno := noneS (l.getD i 0) soft hg0
   rw [← z0e] at hno
   have l1 := zc8 5 soft (l.getD i 0)
   rw [show za9 5 soft (l.getD i 0) = z5x soft (l.getD i 0) from rfl] at l1
   refine y0gt ?_ tru tru <;> intros
   refine ⟨i + 1, by omega, by omega, ?_⟩
   rw [ht]
   (simp (disch := omega) [wk, wkT, wkM, noF, isF, get, z0b, belowM, below, belows, I64, I32, Bv, U8, Sv, List.map_append, z0d] <;> try omega)
 · have e : i = l.length := by omega
   subst e
   rw [List.take_length] at *
   exact y0gt tru tru tru
theorem zng : ∀ (f : Nat) (soft : Bool) (r : Int), okR r → ∀ x ∈ za9 f soft r, okR x
 | 0, _, r, h, x, hx => by simp [za9] at hx; subst hx; exact h
 | f + 1, soft, r, h, x, hx => by
   rw [z50] at hx
   split at hx
   · rename_i hh
     have : 44032 ≤ r ∧ r ≤ 55203 := by simpa [han] using hh
     unfold syl at hx
     split at hx <;> simp at hx <;> unfold okR <;> omega
   · split at hx
     · simp at hx; subst hx; exact h
     · rename_i hst
       have hs : (spl r).2 = true := by
         unfold stop at hst
         cases hq : (spl r).2
         · rw [hq] at hst; simp at hst
         · rfl
       obtain ⟨b1, b2, b3, b4⟩ := zlv hs
       split at hx
       · exact zng f soft _ (by unfold okR; omega) x hx
       · rcases List.mem_append.1 hx with hx | hx
         · exact zng f soft _ (by unfold okR; omega) x hx
         · exact zng f soft _ (by unfold okR; omega) x hx
theorem y0ip {soft : Bool} {l : List Int} (h : ∀ r ∈ l, okR r) : ∀ r ∈ z0x soft l, okR r := fun r hr => by
 obtain ⟨a, ha, hra⟩ := List.mem_flatMap.1 hr
 exact zng 5 soft a (h a ha) r hra
theorem znl : ∀ (T R : List Int), Kin cls (z5k R T) (R ++ T) ∧ (z5k R T).length = R.length + T.length
 | [], R => by rw [z5k, List.append_nil]; exact ⟨(z2h cls R).2, z1n cls R⟩
 | x :: T, R => by
   rw [z5k]
   split
   · have h1 := znl T (R ++ [x])
     refine ⟨by simpa using h1.1, by have := h1.2; simp at this ⊢; omega⟩
   · have h1 := znl T []
     exact ⟨Kin.app (z2h cls R).2 (Kin.app (Kin.refl cls [x]) (by simpa using h1.1)), by have := h1.2; have := z1n cls R; simp at *; omega⟩
theorem zdb (l : List Int) : Kin cls (z8m l) l ∧ (z8m l).length = l.length := by simpa [z8m] using znl l []
theorem y0mv {l : List Int} (h : ∀ r ∈ l, okR r) : ∀ r ∈ z8m l, okR r := fun r hr => h r ((zdb l).1.mem.1 hr)
def z84 (soft join : Bool) (l : List Int) : List Int := if join then z7b (z8m (z0x soft l)) else z8m (z0x soft l)
def z68 (soft join : Bool) (s : List UInt8) : List UInt8 × Bool := if 0 ≤ (runes s).2 then ([], false) else (z85 (z84 soft join (runes s).1), z0r (z84 soft join (runes s).1))
theorem zmy {P Q R S : Prop} (a : Q) (b : R) (c : S) (h : Mk P → Hid Q → Hid R → Hid S → P := by
 intro m q r s
 repeat' first | refine z07 (by first | assumption | (apply_assumption <;> first | assumption | omega)) ?_ ?_ | refine LSp.fit (by assumption) ?_ | simp (maxSteps := 4000000) (disch := omega) only [z13, z12, bun, ↓z05, ↓z01, z03, findLabel, ↓reduceIte, imp, shift, z0g, z0c, unown, names, z08, below, noF, isF, z04, z0a, z09, ren, z0t, z0u, z0h, renO, belowM, seval, -Int.reduceToNat, bT, z14, tbB, *] | exact z0n _ | refine z0m _ _ ?_ | exact Cln.cl | refine z02 _ ?_ | refine z00 _ _ ?_ ?_ | refine z10 _ ?_ | (refine Fk.fk ?_ ?_ <;> intro hg <;> (try simp only [hg]) <;> (try simp only [z11] at hg) <;> try (exfalso; first | omega | exact Bool.noConfusion hg | exact hg trivial)) | refine And.intro (by omega) ?_ | omega
 first
 | done
 | all_goals (repeat revert hg)
   fail_if_success with_reducible refine m.use ?_
   exact q.out
   first
   | done
   | exact r.out
     first
     | done
     | exact s.out
       first | done | fail) : P := h ⟨tru⟩ ⟨a⟩ ⟨b⟩ ⟨c⟩
theorem y06m (s : List UInt8) (soft join : Bool) (hs : s.length ≤ 10000000) (hl : (runes s).1.length ≤ 10000) (hr : ∀ r ∈ (runes s).1, okR r) : z0q Tryz.prog 68 [tab, Sv s, Bv soft, Bv join] (.tup [Sv (z68 soft join s).1, Bv (z68 soft join s).2]) := by
 have h1 := y00n (runes s).1 soft (by omega) hr
 have l1 := zfb soft (runes s).1
 have o1 := y0ip (soft := soft) hr
 have h2 := y00t (z0x soft (runes s).1) (by omega) o1
 have l2 := (zdb (z0x soft (runes s).1)).2
 have o2 := y0mv o1
 have htk : List.take (z0x soft (runes s).1).length ((z8m (z0x soft (runes s).1)).map I32) = (z8m (z0x soft (runes s).1)).map I32 := List.take_of_length_le (by simp; omega)
 have h3 := y009 (z8m (z0x soft (runes s).1)) (by omega) o2
 have l3 : (z7b (z8m (z0x soft (runes s).1))).length ≤ (z0x soft (runes s).1).length := by rw [← l2]; exact zn7 _
 rw [l2] at h3
 rw [← z0e] at h1 h2 h3 ⊢
 simp only [Bv] at h1
 refine sp [.tmp 8, .tmp 9] Tryz.func68 Tryz.ntmps68 ?_
 by_cases h0 : 0 ≤ (runes s).2
 · have e : z68 soft join s = ([], false) := by unfold z68; rw [if_pos h0]
   rw [e]
   (have := z2i s (by omega); exact zmy tru tru tru)
 · cases join with
   | false =>
     have us := z4t (z8m (z0x soft (runes s).1)) (by omega)
     rw [l2] at us
     have e : z68 soft false s = (z85 (z8m (z0x soft (runes s).1)), z0r (z8m (z0x soft (runes s).1))) := by unfold z68; rw [if_neg h0]; rfl
     rw [e]
     (have := z2i s (by omega); repeat' first | refine y0j2 (.take 2 (.take 3 (.two 0 (.one 1 (.one 4 (.one 5 (.take 6 (.done))))) 1 (.two 0 (.one 4 (.one 5 (.take 6 (.done)))) 4 (.one 0 (.one 5 (.take 6 (.done)))))))) _ (by decide +kernel) ?_ | refine zmy ?_ tru tru <;> intros | refine zmy ?_ ?_ tru <;> intros | refine zmy ?_ ?_ ?_ <;> intros | exact zmy tru tru tru | fail)
     repeat' refine And.intro ?_ ?_
     all_goals (repeat' first | refine z07 (h1) ?_ ?_ | refine z07 (h2) ?_ ?_ | refine z07 (us) ?_ ?_ | simp (maxSteps := 4000000) (disch := omega) only [z13, z12, bun, ↓z05, ↓z01, z03, findLabel, ↓reduceIte, imp, shift, z0g, z0c, unown, names, z08, below, noF, isF, z04, z0a, z09, ren, z0t, z0u, z0h, renO, belowM, seval, -Int.reduceToNat, l2, htk, B9, D29, B21, B63, z14, tbB] | exact z0n _ | refine z0m _ _ ?_ | exact Cln.cl | refine z02 _ ?_ | refine z00 _ _ ?_ ?_ | refine z10 _ ?_ | (refine Fk.fk ?_ ?_ <;> intro hg <;> (try simp only [hg]) <;> (try simp only [z11] at hg) <;> try (exfalso; first | omega | exact Bool.noConfusion hg | exact hg trivial)) | refine And.intro (by omega) ?_ | omega)
   | true =>
     have us := z4t (z7b (z8m (z0x soft (runes s).1))) (by omega)
     have e : z68 soft true s = (z85 (z7b (z8m (z0x soft (runes s).1))), z0r (z7b (z8m (z0x soft (runes s).1)))) := by unfold z68; rw [if_neg h0]; rfl
     rw [e]
     (have := z2i s (by omega); repeat' first | refine y0j2 (.take 2 (.take 3 (.two 0 (.one 1 (.one 4 (.one 5 (.take 6 (.done))))) 1 (.two 0 (.one 4 (.one 5 (.take 6 (.done)))) 4 (.one 0 (.one 5 (.take 6 (.done)))))))) _ (by decide +kernel) ?_ | refine zmy ?_ tru tru <;> intros | refine zmy ?_ ?_ tru <;> intros | refine zmy ?_ ?_ ?_ <;> intros | exact zmy tru tru tru | fail)
     repeat' refine And.intro ?_ ?_
     all_goals (repeat' first | refine z07 (h1) ?_ ?_ | refine z07 (h2) ?_ ?_ | refine z07 (h3) ?_ ?_ | refine z07 (us) ?_ ?_ | simp (maxSteps := 4000000) (disch := omega) only [z13, z12, bun, ↓z05, ↓z01, z03, findLabel, ↓reduceIte, imp, shift, z0g, z0c, unown, names, z08, below, noF, isF, z04, z0a, z09, ren, z0t, z0u, z0h, renO, belowM, seval, -Int.reduceToNat, l2, htk, B9, D29, B21, B63, z14, tbB] | exact z0n _ | refine z0m _ _ ?_ | exact Cln.cl | refine z02 _ ?_ | refine z00 _ _ ?_ ?_ | refine z10 _ ?_ | (refine Fk.fk ?_ ?_ <;> intro hg <;> (try simp only [hg]) <;> (try simp only [z11] at hg) <;> try (exfalso; first | omega | exact Bool.noConfusion hg | exact hg trivial)) | refine And.intro (by omega) ?_ | omega)
theorem y0ia {s : List UInt8} {r : Int} {k : Nat} (h : one s = some (r, k)) : okR r := by
 obtain ⟨h1, _, _, h4⟩ := zc9 h
 by_cases hr : right r = true
 · have := (z1t r).1 hr; unfold okR; omega
 · have : rlen r = 0 := by unfold rlen; rw [if_neg hr]
   omega
theorem zqu : ∀ (f : Nat) (a : Int) (s : List UInt8), ∀ r ∈ (z0z f a s).1, okR r
 | 0, a, s, r, hr => by simp [z0z] at hr
 | f + 1, a, s, r, hr => by
   rw [z25] at hr
   split at hr
   · simp at hr
   · cases ho : one s with
     | none => rw [ho] at hr; simp [z5y] at hr
     | some p =>
       obtain ⟨q, k⟩ := p
       rw [ho] at hr
       simp only [z5y, List.mem_cons] at hr
       rcases hr with rfl | hr
       · exact y0ia ho
       · exact zqu f _ _ r hr
theorem zyr (s : List UInt8) : ∀ r ∈ (runes s).1, okR r := zqu _ _ _
theorem y0gu {P Q R S : Prop} (a : Q) (b : R) (c : S) (h : Mk P → Hid Q → Hid R → Hid S → P := by
 intro m q r s
 repeat' first | refine z07 (by first | assumption | (apply_assumption <;> first | assumption | omega)) ?_ ?_ | refine LSp.fit (by assumption) ?_ | simp (maxSteps := 4000000) (disch := omega) only [z13, z12, bun, ↓z05, ↓z01, z03, findLabel, ↓reduceIte, imp, shift, z0g, z0c, unown, names, z08, below, noF, isF, z04, z0a, z09, ren, z0t, z0u, z0h, renO, belowM, seval, -Int.reduceToNat, bT, z14, tbB, *] | exact z0n _ | refine z0m _ _ ?_ | exact Cln.cl | refine z02 _ ?_ | refine z00 _ _ ?_ ?_ | refine z10 _ ?_ | (refine Fk.fk ?_ ?_ <;> intro hg <;> (try simp only [hg]) <;> (try simp only [z11] at hg) <;> try (exfalso; first | omega | exact Bool.noConfusion hg | exact hg trivial)) | refine And.intro (by omega) ?_ | omega
 first
 | done
 | all_goals (repeat revert hg)
   fail_if_success with_reducible refine m.use ?_
   exact q.out
   first
   | done
   | exact r.out
     first
     | done
     | exact s.out
       first | done | fail) : P := h ⟨tru⟩ ⟨a⟩ ⟨b⟩ ⟨c⟩
theorem zq4 (s : List UInt8) (hs : s.length ≤ 10000000) (hl : (runes s).1.length ≤ 10000) : z0q Tryz.prog 40 [tab, Sv s] (.tup [Sv (z68 false true s).1, Bv (z68 false true s).2]) := by
 have h := y06m s false true hs hl (zyr s)
 rw [← z0e] at h ⊢
 refine sp [.tmp 4, .tmp 5] Tryz.func40 Tryz.ntmps40 ?_
 exact y0gu tru tru tru
theorem y085 (s : List UInt8) (hs : s.length ≤ 10000000) (hl : (runes s).1.length ≤ 10000) : z0q Tryz.prog 100 [tab, Sv s] (Bv ((z68 false true s).2 && ((z68 false true s).1 == s))) := by
 have h := zq4 s hs hl
 rw [← z0e] at h ⊢
 refine sp [.tmp 4] Tryz.func100 Tryz.ntmps100 ?_
 cases hf : (z68 false true s).2 with
 | false => exact y0gu tru tru tru
 | true => exact y0gu tru tru tru
theorem ztq : ∀ (f g : Nat) (a : Int) (s : List UInt8), s.length < f → s.length < g → z0z f a s = z0z g a s := by
 intro f
 induction f with
 | zero => intro g a s h; omega
 | succ f ih =>
   intro g a s hf hg
   obtain ⟨g, rfl⟩ : ∃ k, g = k + 1 := ⟨g - 1, by omega⟩
   rw [z25, z25]
   split
   · rfl
   · cases ho : one s with
     | none => rfl
     | some p =>
       obtain ⟨r, k⟩ := p
       obtain ⟨h1, h2, h3, h4⟩ := zc9 ho
       simp only [z5y]
       rw [ih g (a + k) (s.drop k) (by simp; omega) (by simp; omega)]
theorem y012 {r : Int} (h : right r = true) (f : Nat) (a : Int) (t : List UInt8) : z0z (f + 1) a (enc r ++ t) = (r :: (z0z f (a + (enc r).length) t).1, (z0z f (a + (enc r).length) t).2) := by
 have hp : 0 < (enc r).length := by
   have h1 := zd0 r
   have h2 := zhq r
   have h3 := zhp r
   rw [h] at h3
   simp at h3
   omega
 have := zhs (f := f) (a := a) (s := enc r ++ t) (by simp; omega) (y0i9 h t)
 rw [List.drop_left] at this
 exact this
theorem y011 (g : Nat) (t : List UInt8) : ∀ (l : List Int) (a : Int), z0r l = true → z0z (l.length + g) a (l.flatMap enc ++ t) = (l ++ (z0z g (a + (l.flatMap enc).length) t).1, (z0z g (a + (l.flatMap enc).length) t).2) := by
 intro l
 induction l with
 | nil => intro a _; simp
 | cons r l ih =>
   intro a h
   simp only [z0r, List.all_cons, Bool.and_eq_true] at h
   rw [List.length_cons, show l.length + 1 + g = (l.length + g) + 1 by omega, List.flatMap_cons, List.append_assoc, y012 h.1, ih _ h.2]
   simp only [List.length_append, Int.natCast_add, Int.add_assoc, List.cons_append]
theorem y0az (l : List Int) (h : z0r l = true) : l.length ≤ (l.flatMap enc).length := by
 induction l with
 | nil => simp
 | cons r l ih =>
   simp only [z0r, List.all_cons, Bool.and_eq_true] at h
   have h1 := zd0 r
   have h2 := zhq r
   have h3 := zhp r
   rw [h.1] at h3
   simp at h3
   have := ih h.2
   simp only [List.flatMap_cons, List.length_append, List.length_cons]
   omega
theorem z8u : ∀ (f : Nat) (a k : Int) (s : List UInt8), 0 ≤ a → (z0z f (a + k) s).1 = (z0z f a s).1 ∧ ((z0z f a s).2 = -1 ∧ (z0z f (a + k) s).2 = -1 ∨ 0 ≤ (z0z f a s).2 ∧ (z0z f (a + k) s).2 = (z0z f a s).2 + k) := by
 intro f
 induction f with
 | zero => intro a k s h; simp [z0z]
 | succ f ih =>
   intro a k s h
   rw [z25, z25]
   split
   · simp
   · cases ho : one s with
     | none => simp [z5y]; omega
     | some p =>
       obtain ⟨r, n⟩ := p
       have := ih (a + n) k (s.drop n) (by omega)
       simp only [z5y]
       rw [show a + k + n = a + n + k by omega]
       exact ⟨by rw [this.1], this.2⟩
theorem y097 (l : List Int) (t : List UInt8) (h : z0r l = true) : (runes (l.flatMap enc ++ t)).1 = l ++ (runes t).1 ∧
   ((runes t).2 = -1 ∧ (runes (l.flatMap enc ++ t)).2 = -1 ∨ 0 ≤ (runes t).2 ∧ (runes (l.flatMap enc ++ t)).2 = (runes t).2 + (l.flatMap enc).length) := by
 have hl := y0az l h
 have e : runes (l.flatMap enc ++ t) = z0z (l.length + ((l.flatMap enc).length - l.length + t.length + 1)) 0 (l.flatMap enc ++ t) := by
   unfold runes
   rw [List.length_append, show l.length + ((l.flatMap enc).length - l.length + t.length + 1) = (l.flatMap enc).length + t.length + 1 by omega]
 rw [e, y011 _ t l 0 h, ztq _ (t.length + 1) _ t (by omega) (by omega)]
 have h2 := z8u (t.length + 1) 0 (l.flatMap enc).length t (by omega)
 refine ⟨?_, ?_⟩
 · simp only [h2.1]; rfl
 · exact h2.2
theorem z5m {l : List Int} (h : z0r l = true) : runes (z85 l) = (l, -1) := by
 have := y097 l [] h
 have e : runes [] = ([], -1) := rfl
 rw [e, List.append_nil, List.append_nil] at this
 simp only [z85, h, if_true]
 obtain ⟨h1, h2⟩ := this
 refine Prod.ext h1 ?_
 rcases h2 with h2 | h2
 · exact h2.2
 · simp at h2
theorem z9k : ∀ (T R R' : List Int), Kin cls R R' → z5k R T = z5k R' T
 | [], R, R', h => by rw [z5k, z5k]; exact zb3 h
 | x :: T, R, R', h => by
   rw [z5k, z5k]
   split
   · exact z9k T _ _ (h.app (Kin.refl cls [x]))
   · rw [zb3 h]
theorem zni {r : Int} (h : 0 < cls r) (soft : Bool) : z5x soft r = [r] := by
 have hs : (spl r).2 = false := by
   cases hq : (spl r).2 with
   | false => rfl
   | true => have := (zr0 hq).2.1; omega
 have hh : han r = false := by
   cases hq : han r with
   | false => rfl
   | true =>
     have := zsr (r := r) (by simpa [han] using hq)
     omega
 rw [z32, hh, if_neg (by simp), if_pos (by simp [stop, hs])]
theorem y019 {r : Int} (h : (spl r).2 = true) : han r = false := by
 have := z4n (q := fun r _ => !han r) (by decide +kernel) (by decide +kernel) h
 simpa using this
theorem y075 {r : Int} (h1 : 4352 ≤ r) (h2 : r ≤ 4600) : han r = false ∧ (spl r).2 = false := by
 refine ⟨by simp [han]; omega, ?_⟩
 cases hq : (spl r).2 with
 | false => rfl
 | true =>
   have := z4n (q := fun r _ => decide (r < 4352 ∨ 4600 < r)) (by decide +kernel) (by decide +kernel) hq
   simp at this
   omega
theorem zav {r : Int} (h1 : han r = false) (h2 : (spl r).2 = false) (soft : Bool) : z5x soft r = [r] := by
 rw [z32, h1, if_neg (by simp), if_pos (by simp [stop, h2])]
theorem zc5 {r : Int} (h1 : 4352 ≤ r) (h2 : r ≤ 4600) (soft : Bool) : z5x soft r = [r] := zav (y075 h1 h2).1 (y075 h1 h2).2 soft
theorem z71 (soft : Bool) (A B : List Int) : z0x soft (A ++ B) = z0x soft A ++ z0x soft B := List.flatMap_append
theorem z1r (soft : Bool) (x : Int) (B : List Int) : z0x soft (x :: B) = z5x soft x ++ z0x soft B := rfl
theorem zr1 {r : Int} (h : han r = true) (soft : Bool) : z0x soft (syl r) = syl r := by
 have : 44032 ≤ r ∧ r ≤ 55203 := by simpa [han] using h
 have key : ∀ l : List Int, (∀ x ∈ l, 4352 ≤ x ∧ x ≤ 4600) → z0x soft l = l := fun l => by
   induction l with
   | nil => intro _; rfl
   | cons x l ih =>
     intro h
     rw [z1r, ih fun y hy => h y (List.mem_cons_of_mem _ hy), zc5 (h x (by simp)).1 (h x (by simp)).2]; rfl
 refine key _ fun x hx => ?_
 unfold syl at hx
 split at hx
 · simp at hx; omega
 · simp at hx; omega
theorem ztx {soft : Bool} {r : Int} (h : stop soft r = false) : (spl r).2 = true ∧ ((spl r).1.2.2.2.1 = true → soft = true) := by
 unfold stop at h
 cases hq : (spl r).2 <;> rw [hq] at h
 · simp at h
 · refine ⟨rfl, fun h1 => ?_⟩
   rw [h1] at h
   simpa using h
theorem zf5 : ∀ (n : Nat) (r : Int), y03v n r → ∀ s t : Bool, z0x t (z5x s r) = z5x (s || t) r
 | 0, r, h, s, t => by
   by_cases hh : han r = true
   · rw [z32 s, z32 (s || t), hh, if_pos rfl, if_pos rfl, zr1 hh]
   · have hh : han r = false := by simpa using hh
     rw [zav hh h, zav hh h, z1r, zav hh h]; rfl
 | n + 1, r, h, s, t => by
   by_cases hh : han r = true
   · rw [z32 s, z32 (s || t), hh, if_pos rfl, if_pos rfl, zr1 hh]
   · have hh : han r = false := by simpa using hh
     cases hst : stop s r with
     | true =>
       have e : z5x s r = [r] := by rw [z32, hh, if_neg (by simp), if_pos hst]
       rw [e, z1r, show z0x t [] = [] from rfl, List.append_nil]
       cases s with
       | false => rfl
       | true =>
         have h2 : (spl r).2 = false := by
           unfold stop at hst
           cases hq : (spl r).2
           · rfl
           · rw [hq] at hst; simp at hst
         rw [zav hh h2, zav hh h2]
     | false =>
       obtain ⟨h1, h2⟩ := ztx hst
       have hst2 : stop (s || t) r = false := by
         unfold stop
         rw [h1]
         cases hq : (spl r).1.2.2.2.1
         · rfl
         · rw [h2 hq]; rfl
       have hd := h h1
       rw [z32 s, z32 (s || t)]
       simp only [hh, hst, hst2, Bool.false_eq_true, if_false]
       by_cases h0 : (spl r).1.2.2.1 = 0
       · rw [if_pos h0, if_pos h0, zf5 n _ hd.1]
       · rw [if_neg h0, if_neg h0, z71, zf5 n _ hd.1, zf5 n _ (hd.2 h0)]
theorem zr2 (s t : Bool) : ∀ l : List Int, z0x t (z0x s l) = z0x (s || t) l
 | [] => rfl
 | x :: l => by rw [z1r, z1r, z71, zr2 s t l, zf5 4 x (zmv x)]
theorem z6t : ∀ (M R T : List Int), (∀ m ∈ M, 0 < cls m) → z5k R (M ++ T) = z5k (R ++ M) T
 | [], R, T, _ => by simp
 | m :: M, R, T, h => by
   rw [List.cons_append, z5k, if_pos (h m (by simp)), z6t M (R ++ [m]) T fun x hx => h x (List.mem_cons_of_mem _ hx)]
   simp
theorem z7p (soft : Bool) : ∀ M : List Int, (∀ m ∈ M, 0 < cls m) → z0x soft M = M
 | [], _ => rfl
 | m :: M, h => by rw [z1r, z7p soft M fun x hx => h x (List.mem_cons_of_mem _ hx), zni (h m (by simp))]; rfl
theorem zca {A B : List Int} (h : ∀ R, z5k R A = z5k R B) : ∀ (P R : List Int), z5k R (P ++ A) = z5k R (P ++ B)
 | [], R => h R
 | p :: P, R => by
   rw [List.cons_append, List.cons_append, z5k, z5k]
   split
   · exact zca h P _
   · rw [zca h P []]
theorem znm (soft : Bool) : ∀ (T R Q : List Int), (∀ r ∈ R, 0 < cls r) → z5k Q (z0x soft (z5k R T)) = z5k (Q ++ R) (z0x soft T)
 | [], R, Q, h => by
   have hk := (z2h cls R).2
   have hm : ∀ m ∈ ssort cls R, 0 < cls m := fun m hm => h m (hk.mem.1 hm)
   rw [z5k, z7p soft _ hm]
   have e := z6t (ssort cls R) Q [] hm
   rw [List.append_nil] at e
   rw [e]
   exact z9k [] _ _ (Kin.app (Kin.refl cls Q) hk)
 | x :: T, R, Q, h => by
   rw [z5k]
   split
   · rename_i hx
     rw [znm soft T (R ++ [x]) Q (fun r hr => by
       rcases List.mem_append.1 hr with hr | hr
       · exact h r hr
       · simp at hr; subst hr; exact hx), z1r, zni hx, List.cons_append, List.nil_append, z5k, if_pos hx, List.append_assoc]
   · have hk := (z2h cls R).2
     have hm : ∀ m ∈ ssort cls R, 0 < cls m := fun m hm => h m (hk.mem.1 hm)
     rw [z71, z7p soft _ hm, z6t _ _ _ hm, z1r, z1r]
     rw [z9k _ _ _ (Kin.app (Kin.refl cls Q) hk)]
     exact zca (fun P => by
       have := znm soft T [] P (by simp)
       rwa [List.append_nil] at this) (z5x soft x) (Q ++ R)
theorem zbn (s t : Bool) (l : List Int) : z8m (z0x t (z8m (z0x s l))) = z8m (z0x (s || t) l) := by
 have := znm t (z0x s l) [] [] (by simp)
 rw [List.append_nil, zr2] at this
 exact this
theorem y07y {a b : Int} (h : (mk2 a b).2 = true) : z5x false (mk2 a b).1 = z5x false a ++ z5x false b := by
 unfold mk2 at h ⊢
 split
 · rename_i h1
   have hh : han (44032 + (a - 4352) * 588 + (b - 4449) * 28) = true := by simp [han]; omega
   dsimp only
   rw [z32 false (44032 + (a - 4352) * 588 + (b - 4449) * 28), if_pos hh, zc5 (by omega) (by omega), zc5 (by omega) (by omega)]
   unfold syl
   rw [if_pos (by omega)]
   simp only [List.append_nil, List.cons_append, List.nil_append]
   congr 1
   · omega
   · congr 1; omega
 · rename_i h1
   rw [if_neg h1] at h
   split
   · rename_i h2
     have ha : 44032 ≤ a ∧ a ≤ 55203 := by simpa [han] using h2.1
     have hh : han (a + b - 4519) = true := by simp [han]; omega
     dsimp only
     rw [z32 false (a + b - 4519), if_pos hh, z32 false a, if_pos h2.1, zc5 (by omega) (by omega)]
     unfold syl
     rw [if_neg (by omega), if_pos h2.2.1]
     simp only [List.append_nil, List.cons_append, List.nil_append]
     congr 1
     · omega
     · congr 1
       · omega
       · congr 1; omega
   · rename_i h2
     rw [if_neg h2] at h
     obtain ⟨q1, q2, q3, q4⟩ := z8n h
     have qf := y08m q1 q4
     have hst : stop false (pr a b).1 = false := by unfold stop; rw [q1, qf.2.2]; rfl
     rw [z32 false (pr a b).1, y019 q1, if_neg (by simp), if_neg (by rw [hst]; simp), if_neg qf.2.1, q2, q3]
theorem y078 (s : JS) (hs : JI s) (x : Int) (R T : List Int) : z5k R (z0x false (z1p s x).out ++ T) = z5k R (z0x false s.out ++ z5x false x ++ T) := by
 have put : z5k R (z0x false (s.put x).out ++ T) = z5k R (z0x false s.out ++ z5x false x ++ T) := by
   rw [z7j, z71, z1r, show z0x false [] = [] from rfl, List.append_nil]
 unfold z1p
 split
 · exact put
 · rename_i b hb
   split
   · rename_i hall
     split
     · rename_i h2
       have hm : z0x false s.ms = s.ms := z7p false _ hs.ms
       simp only [JS.out, hb, Option.toList, z71, z1r, show z0x false [] = [] from rfl, List.append_nil, y07y h2, hm, List.append_assoc]
       rw [List.all_eq_true] at hall
       by_cases hx : 0 < cls x
       · rw [zni hx]
         refine zca (fun R1 => zca (fun R2 => ?_) _ _) _ _
         have e1 : [x] ++ (s.ms ++ T) = ([x] ++ s.ms) ++ T := by simp
         have e2 : s.ms ++ ([x] ++ T) = (s.ms ++ [x]) ++ T := by simp
         have hmx : ∀ m ∈ [x] ++ s.ms, 0 < cls m := fun m hm => by
           rcases List.mem_append.1 hm with hm | hm
           · simp at hm; subst hm; exact hx
           · exact hs.ms m hm
         have hmx2 : ∀ m ∈ s.ms ++ [x], 0 < cls m := fun m hm => hmx m (by
           rcases List.mem_append.1 hm with hm | hm
           · exact List.mem_append.2 (Or.inr hm)
           · exact List.mem_append.2 (Or.inl hm))
         rw [e1, e2, z6t _ _ _ hmx, z6t _ _ _ hmx2]
         refine z9k T _ _ (Kin.app (Kin.refl cls R2) (Kin.turn fun a ha c hc => ?_))
         simp at ha
         subst ha
         have := hall c hc
         simp at this
         omega
       · have hms : s.ms = [] := by
           cases hq : s.ms with
           | nil => rfl
           | cons m M =>
             have h1 := hall m (by rw [hq]; simp)
             have h2 := hs.ms m (by rw [hq]; simp)
             simp at h1
             omega
         rw [hms]; rfl
     · exact put
   · exact put
theorem zxh : ∀ (l : List Int) (s : JS), JI s → ∀ R T, z5k R (z0x false (l.foldl z1p s).out ++ T) = z5k R (z0x false s.out ++ z0x false l ++ T)
 | [], s, _, R, T => by rw [show z0x false [] = [] from rfl, List.append_nil]; rfl
 | x :: l, s, h, R, T => by
   rw [List.foldl_cons, zxh l (z1p s x) (h.step x) R T, z1r, List.append_assoc, y078 s h x]
   simp only [List.append_assoc]
theorem y06l (l : List Int) : z8m (z0x false (z7b l)) = z8m (z0x false l) := by
 have := zxh l ⟨[], none, []⟩ ⟨by simp, by simp, fun _ => rfl⟩ [] []
 rw [List.append_nil, List.append_nil, show z0x false (JS.out ⟨[], none, []⟩) = [] from rfl, List.nil_append] at this
 exact this
theorem zzz (t : Bool) (l : List Int) : z8m (z0x t (z7b l)) = z8m (z0x t l) := by
 have h1 := zbn false t (z7b l)
 have h2 := zbn false t l
 rw [y06l, h2] at h1
 simpa using h1.symm
theorem zsp (s t i j : Bool) (l : List Int) : z84 t j (z84 s i l) = z84 (s || t) j l := by
 have e : z8m (z0x t (z84 s i l)) = z8m (z0x (s || t) l) := by
   unfold z84
   split
   · rw [zzz, zbn]
   · rw [zbn]
 unfold z84 at e ⊢
 rw [e]
theorem zce {r : Int} (h : 0 ≤ r ∧ r ≤ 1114111 ∧ (r < 55296 ∨ 57343 < r)) : right r = true := (z1t r).2 (by omega)
theorem z9j : ∀ (f : Nat) (soft : Bool) (r : Int), right r = true → ∀ x ∈ za9 f soft r, right x = true
 | 0, _, r, h, x, hx => by simp [za9] at hx; subst hx; exact h
 | f + 1, soft, r, h, x, hx => by
   rw [z50] at hx
   split at hx
   · rename_i hh
     have : 44032 ≤ r ∧ r ≤ 55203 := by simpa [han] using hh
     unfold syl at hx
     split at hx <;> simp at hx <;> exact zce (by omega)
   · split at hx
     · simp at hx; subst hx; exact h
     · rename_i hst
       have hs := (ztx (by simpa using hst)).1
       have hq := z4n (q := fun _ x => right x.2.1 && right x.2.2.1) (by decide +kernel) (by decide +kernel) hs
       simp only [Bool.and_eq_true] at hq
       split at hx
       · exact z9j f soft _ hq.1 x hx
       · rcases List.mem_append.1 hx with hx | hx
         · exact z9j f soft _ hq.1 x hx
         · exact z9j f soft _ hq.2 x hx
theorem y07x {a b : Int} (h : (mk2 a b).2 = true) : right (mk2 a b).1 = true := by
 unfold mk2 at h ⊢
 split
 · exact zce (by dsimp only; omega)
 · rename_i h1
   rw [if_neg h1] at h
   split
   · rename_i h2
     have ha : 44032 ≤ a ∧ a ≤ 55203 := by simpa [han] using h2.1
     exact zce (by dsimp only; omega)
   · rename_i h2
     rw [if_neg h2] at h
     exact z4n (q := fun r _ => right r) (by decide +kernel) (by decide +kernel) (z8n h).1
theorem z22 {l : List Int} : z0r l = true ↔ ∀ r ∈ l, right r = true := by unfold z0r; rw [List.all_eq_true]
theorem zhg {s : JS} {x : Int} (h : ∀ r ∈ s.out, right r = true) (hx : right x = true) : ∀ r ∈ (s.put x).out, right r = true := fun r hr => by
 rw [z7j] at hr
 rcases List.mem_append.1 hr with hr | hr
 · exact h r hr
 · simp at hr; subst hr; exact hx
theorem zsz {s : JS} {x : Int} (h : ∀ r ∈ s.out, right r = true) (hx : right x = true) : ∀ r ∈ (z1p s x).out, right r = true := by
 unfold z1p
 split
 · exact zhg h hx
 · rename_i b hb
   split
   · split
     · rename_i h2
       intro r hr
       simp only [JS.out, hb, Option.toList, List.mem_append, List.mem_singleton, or_assoc] at hr h
       rcases hr with hr | hr | hr
       · exact h r (Or.inl hr)
       · subst hr; exact y07x h2
       · exact h r (Or.inr (Or.inr hr))
     · exact zhg h hx
   · exact zhg h hx
theorem zt0 {l : List Int} (h : z0r l = true) : z0r (z7b l) = true := by
 rw [z22] at h ⊢
 have key : ∀ (l : List Int) (s : JS), (∀ r ∈ s.out, right r = true) → (∀ r ∈ l, right r = true) → ∀ r ∈ (l.foldl z1p s).out, right r = true := fun l => by
   induction l with
   | nil => intro s h _; exact h
   | cons x l ih => intro s h hl; exact ih _ (zsz h (hl x (by simp))) fun r hr => hl r (List.mem_cons_of_mem _ hr)
 exact key l ⟨[], none, []⟩ (by simp [JS.out]) h
theorem zgi {l : List Int} (h : z0r l = true) (soft join : Bool) : z0r (z84 soft join l) = true := by
 have h1 : z0r (z8m (z0x soft l)) = true := by
   rw [z22] at h ⊢
   intro r hr
   obtain ⟨a, ha, hra⟩ := List.mem_flatMap.1 ((zdb _).1.mem.1 hr)
   exact z9j 5 soft a (h a ha) r hra
 unfold z84
 split
 · exact zt0 h1
 · exact h1
theorem y08i {s : List UInt8} {r : Int} {k : Nat} (h : one s = some (r, k)) : right r = true := by
 obtain ⟨h1, _, _, h4⟩ := zc9 h
 by_cases hr : right r = true
 · exact hr
 · have : rlen r = 0 := by unfold rlen; rw [if_neg hr]
   omega
theorem zea : ∀ (f : Nat) (a : Int) (s : List UInt8), ∀ r ∈ (z0z f a s).1, right r = true
 | 0, a, s, r, hr => by simp [z0z] at hr
 | f + 1, a, s, r, hr => by
   rw [z25] at hr
   split at hr
   · simp at hr
   · cases ho : one s with
     | none => rw [ho] at hr; simp [z5y] at hr
     | some p =>
       obtain ⟨q, k⟩ := p
       rw [ho] at hr
       simp only [z5y, List.mem_cons] at hr
       rcases hr with rfl | hr
       · exact y08i ho
       · exact zea f _ _ r hr
theorem z1m (s : List UInt8) : z0r (runes s).1 = true := z22.2 (zea _ _ _)
theorem zx7 {s : List UInt8} (h : ¬ 0 ≤ (runes s).2) (soft join : Bool) : z68 soft join s = (z85 (z84 soft join (runes s).1), true) := by
 unfold z68
 rw [if_neg h, zgi (z1m s)]
theorem y0au (r : Int) : (enc r).length ≤ 4 := by
 unfold enc
 repeat' split
 all_goals simp
theorem z5b (l : List Int) : (z85 l).length ≤ 4 * l.length := by
 unfold z85
 split
 · rename_i h
   clear h
   induction l with
   | nil => simp
   | cons r l ih =>
     have := y0au r
     simp only [List.flatMap_cons, List.length_append, List.length_cons]
     omega
 · simp
theorem y06j (soft join : Bool) (l : List Int) : (z84 soft join l).length ≤ 4 * l.length := by
 have l1 := zfb soft l
 have l2 := (zdb (z0x soft l)).2
 have l3 := zn7 (z8m (z0x soft l))
 unfold z84
 split
 · show (zsy (z8m (z0x soft l))).out.length ≤ _
   omega
 · omega
def zs3 (a : Int) (n : Nat) : Nat := if a < 0 then n else a.toNat
theorem z6j (n : Nat) : zs3 (-1) n = n := rfl
theorem zwp {a : Int} (h : 0 ≤ a) (n : Nat) : zs3 a n = a.toNat := if_neg (by omega)
theorem ztp : ∀ (f : Nat) (s : List UInt8), s.length < f → z0r (z0z f 0 s).1 = true ∧ (z0z f 0 s).1.flatMap enc = s.take (zs3 (z0z f 0 s).2 s.length) ∧ (z0z f 0 s).2 ≤ s.length := by
 intro f
 induction f with
 | zero => intro s h; omega
 | succ f ih =>
   intro s hf
   rw [z25]
   split
   · cases s <;> simp_all [z0r, zs3]
   · cases ho : one s with
     | none => simp [z5y, z0r, zs3]
     | some p =>
       obtain ⟨r, n⟩ := p
       obtain ⟨h1, h2, h3, h4⟩ := zc9 ho
       have h5 := ih (s.drop n) (by simp; omega)
       have h6 := z8u f 0 n (s.drop n) (by omega)
       have hr : right r = true := by
         cases h : right r with
         | true => rfl
         | false => have := (zhp _).2 h; omega
       simp only [z5y]
       rw [h6.1]
       simp only [List.length_drop] at h5
       refine ⟨by simp only [z0r, List.all_cons, hr]; exact h5.1, ?_, ?_⟩
       · rw [List.flatMap_cons, h5.2.1, h2]
         rcases h6.2 with ⟨h7, h8⟩ | ⟨h7, h8⟩
         · rw [h7, h8]
           have e1 : (s.drop n).take (s.length - n) = s.drop n := List.take_of_length_le (by simp)
           rw [z6j, z6j, e1, List.take_append_drop, List.take_length]
         · rw [h8, zwp (by omega), zwp (by omega)]
           rw [show ((z0z f 0 (s.drop n)).2 + (n : Int)).toNat = n + (z0z f 0 (s.drop n)).2.toNat by omega, List.take_add]
       · rcases h6.2 with ⟨h7, h8⟩ | ⟨h7, h8⟩ <;> rw [h8] <;> omega
theorem z9r (s : List UInt8) : z0r (runes s).1 = true ∧ z85 (runes s).1 = s.take (zs3 (runes s).2 s.length) ∧ (runes s).2 ≤ s.length := by
 have h : z0r (runes s).1 = true ∧ (runes s).1.flatMap enc = s.take (zs3 (runes s).2 s.length) ∧ (runes s).2 ≤ s.length := ztp (s.length + 1) s (by omega)
 refine ⟨h.1, ?_, h.2.2⟩
 unfold z85
 rw [if_pos h.1]
 exact h.2.1
theorem zfa (s : List UInt8) : (runes s).2 = -1 ∨ 0 ≤ (runes s).2 := by
 have := (z8u (s.length + 1) 0 0 s (by omega)).2
 unfold runes
 omega
def nar (r : Int) : Int := if wide r then r - 65248 else r
def lw (r : Int) : Int := low (nar r)
theorem y0hx {r : Int} (h : cat r ≠ 1) : low r = r := Classical.byContradiction fun h1 => h (y0mq h1).1
theorem y0hz {r : Int} (h : r ∉ zh1) : low r = r := Classical.byContradiction fun h1 => h (zd9 h1)
theorem y0hw {r : Int} (h1 : 1104 ≤ r) (h2 : r ≤ 7843 ∨ 8492 ≤ r ∧ r ≤ 65280) : low r = r := y0hz fun hm => by
 have := List.all_eq_true.1 (show (zh1.all fun r => decide (r < 1104 ∨ 7843 < r ∧ r < 8492 ∨ 65280 < r)) = true by decide +kernel) r hm
 simp at this
 omega
theorem zxq {r : Int} (h1 : 1104 ≤ r) (h2 : r ≤ 7843 ∨ 8492 ≤ r ∧ r ≤ 65280) : lw r = r := by
 have hw : wide r = false := by simp [wide]; omega
 unfold lw nar
 rw [hw]
 exact y0hw h1 h2
theorem y0i1 (r : Int) : lw (lw r) = lw r := by
 have key : wide (low (nar r)) = false := by
   cases hw : wide r with
   | true =>
     have hb := (y0ci hw)
     have e : nar r = r - 65248 := by unfold nar; rw [hw]; rfl
     rw [e]
     by_cases hl : low (r - 65248) = r - 65248
     · rw [hl]; simp [wide]; omega
     · have := List.all_eq_true.1 (show (zh1.all fun r => decide (126 < r) || !wide (low r)) = true by decide +kernel) _ (zd9 hl)
       simp at this
       rcases this with h | h
       · omega
       · exact h
   | false =>
     have e : nar r = r := by unfold nar; rw [hw]; rfl
     rw [e]
     by_cases hl : low r = r
     · rw [hl]; exact hw
     · have := List.all_eq_true.1 (show (zh1.all fun r => wide r || !wide (low r)) = true by decide +kernel) _ (zd9 hl)
       rw [hw] at this
       simpa using this
 show low (nar (low (nar r))) = low (nar r)
 rw [show nar (low (nar r)) = low (nar r) by rw [nar, key]; rfl, y0hy]
theorem y0bj {r : Int} (h : right r = true) : right (lw r) = true := by
 have hn : right (nar r) = true := by
   unfold nar
   split
   · rename_i hw
     have : 65281 ≤ r ∧ r ≤ 65374 := by simpa [wide] using hw
     exact zce (by omega)
   · exact h
 unfold lw
 by_cases hl : low (nar r) = nar r
 · rw [hl]; exact hn
 · exact List.all_eq_true.1 (show (zh1.all fun r => right (low r)) = true by decide +kernel) _ (zd9 hl)
theorem zna {l : List Int} (h : z0r l = true) : z0r (l.map lw) = true := by
 rw [z22] at h ⊢
 intro r hr
 obtain ⟨a, ha, rfl⟩ := List.mem_map.1 hr
 exact y0bj (h a ha)
def z2r (l : List Int) : List Int := z84 false true (l.map lw)
theorem zbm (l : List Int) : z2r l = z7b (z8m (z0x false (l.map lw))) := rfl
theorem y0lj {r : Int} (h : lw r = r) : ∀ x ∈ z5x false r, lw x = x := by
 by_cases hh : han r = true
 · intro x hx
   rw [z32, if_pos hh] at hx
   have : 44032 ≤ r ∧ r ≤ 55203 := by simpa [han] using hh
   unfold syl at hx
   split at hx
   · simp at hx; exact zxq (by omega) (by omega)
   · simp at hx; exact zxq (by omega) (by omega)
 · have hh : han r = false := by simpa using hh
   cases hs : (spl r).2 with
   | false => rw [zav hh hs]; intro x hx; simp at hx; subst hx; exact h
   | true =>
     have := z4n (q := fun r _ => !decide (lw r = r) || (za9 5 false r).all fun x => decide (lw x = x)) (by decide +kernel) (by decide +kernel) hs
     simp only [h, decide_true, Bool.not_true, Bool.false_or, List.all_eq_true, decide_eq_true_eq] at this
     exact this
theorem y0li {a b : Int} (h : (mk2 a b).2 = true) (ha : lw a = a) (hb : lw b = b) : lw (mk2 a b).1 = (mk2 a b).1 := by
 unfold mk2 at h ⊢
 split
 · exact zxq (by dsimp only; omega) (by dsimp only; omega)
 · rename_i h1
   rw [if_neg h1] at h
   split
   · rename_i h2
     have ha : 44032 ≤ a ∧ a ≤ 55203 := by simpa [han] using h2.1
     exact zxq (by dsimp only; omega) (by dsimp only; omega)
   · rename_i h2
     rw [if_neg h2] at h
     obtain ⟨q1, q2, q3, q4⟩ := z8n h
     have := z4n (q := fun r s => s.2.2.2.2 || !(decide (lw s.2.1 = s.2.1) && decide (lw s.2.2.1 = s.2.2.1)) || decide (lw r = r)) (by decide +kernel) (by decide +kernel) q1
     simp only [q2, q3, q4, ha, hb, decide_true, Bool.and_self, Bool.not_true, Bool.or_self, Bool.false_or, decide_eq_true_eq] at this
     exact this
theorem zth {p : Int → Prop} {s : JS} {x : Int} (h : ∀ r ∈ s.out, p r) (hx : p x) : ∀ r ∈ (s.put x).out, p r := fun r hr => by
 rw [z7j] at hr
 rcases List.mem_append.1 hr with hr | hr
 · exact h r hr
 · simp at hr; subst hr; exact hx
theorem y073 {p : Int → Prop} (hp : ∀ a b, p a → p b → (mk2 a b).2 = true → p (mk2 a b).1) {s : JS} {x : Int} (h : ∀ r ∈ s.out, p r) (hx : p x) : ∀ r ∈ (z1p s x).out, p r := by
 unfold z1p
 split
 · exact zth h hx
 · rename_i b hb
   split
   · split
     · rename_i h2
       intro r hr
       simp only [JS.out, hb, Option.toList, List.mem_append, List.mem_singleton, or_assoc] at hr h
       rcases hr with hr | hr | hr
       · exact h r (Or.inl hr)
       · subst hr; exact hp b x (h b (Or.inr (Or.inl rfl))) hx h2
       · exact h r (Or.inr (Or.inr hr))
     · exact zth h hx
   · exact zth h hx
theorem zpj {p : Int → Prop} (hp : ∀ a b, p a → p b → (mk2 a b).2 = true → p (mk2 a b).1) {l : List Int} (h : ∀ r ∈ l, p r) : ∀ r ∈ z7b l, p r := by
 have key : ∀ (l : List Int) (s : JS), (∀ r ∈ s.out, p r) → (∀ r ∈ l, p r) → ∀ r ∈ (l.foldl z1p s).out, p r := fun l => by
   induction l with
   | nil => intro s h _; exact h
   | cons x l ih => intro s h hl; exact ih _ (y073 hp h (hl x (by simp))) fun r hr => hl r (List.mem_cons_of_mem _ hr)
 exact key l ⟨[], none, []⟩ (by simp [JS.out]) h
theorem y06n (l : List Int) : ∀ r ∈ z2r l, lw r = r := by
 rw [zbm]
 refine zpj (fun a b ha hb h => y0li h ha hb) fun r hr => ?_
 obtain ⟨a, ha, hra⟩ := List.mem_flatMap.1 ((zdb _).1.mem.1 hr)
 obtain ⟨c, hc, rfl⟩ := List.mem_map.1 ha
 exact y0lj (y0i1 c) r hra
theorem y07u {l : List Int} (h : ∀ r ∈ l, lw r = r) : l.map lw = l := by
 induction l with
 | nil => rfl
 | cons x l ih => rw [List.map_cons, h x (by simp), ih fun r hr => h r (List.mem_cons_of_mem _ hr)]
theorem y06k (l : List Int) : z84 false true (z2r l) = z2r l := zsp false false true true (l.map lw)
theorem zpf (l : List Int) : z2r (z2r l) = z2r l := by
 have : z2r (z2r l) = z84 false true ((z2r l).map lw) := rfl
 rw [this, y07u (y06n l), y06k]
def z16 (s : List UInt8) : List UInt8 × Bool := if 0 ≤ (runes s).2 then ([], false) else (z85 (z2r (runes s).1), true)
theorem y0b1 (s : List UInt8) : z16 s = if 0 ≤ (runes s).2 then ([], false) else z68 false true (z85 ((runes s).1.map lw)) := by
 unfold z16
 split
 · rfl
 · have hr := z5m (zna (z1m s))
   rw [zx7 (by rw [hr]; dsimp only; omega), hr]; rfl
theorem z4j {l : List Int} (h : z0r l = true) : z0r (z2r l) = true := zgi (zna h) false true
theorem z2f {s : List UInt8} (h : ¬ 0 ≤ (runes s).2) : z16 s = (z85 (z2r (runes s).1), true) := by unfold z16; rw [if_neg h]
theorem z6y {s : List UInt8} : runes (z85 (z2r (runes s).1)) = (z2r (runes s).1, -1) := z5m (z4j (z1m s))
theorem zsn {s : List UInt8} (h : ¬ 0 ≤ (runes s).2) : z16 (z16 s).1 = z16 s := by
 rw [z2f h, z2f (by rw [z6y]; dsimp only; omega), z6y]
 dsimp only
 rw [zpf]
theorem zpc (l : List Int) : (z2r l).length ≤ 4 * l.length := by have := y06j false true (l.map lw); rw [List.length_map] at this; exact this
theorem y0ga : ((List.range 128).all fun n : Nat => decide (z5x false (n : Int) = [(n : Int)]) && decide (z5x true (n : Int) = [(n : Int)]) && decide (cls (n : Int) = 0)) = true := by decide +kernel
theorem y050 {r : Int} (h : 0 ≤ r) (h' : r < 128) : (∀ soft, z5x soft r = [r]) ∧ cls r = 0 := by
 have := List.all_eq_true.1 y0ga r.toNat (List.mem_range.2 (by omega))
 simp only [Bool.and_eq_true, decide_eq_true_eq] at this
 rw [show ((r.toNat : Nat) : Int) = r by omega] at this
 exact ⟨fun soft => by cases soft; exact this.1.1; exact this.1.2, this.2⟩
def asc (s : List UInt8) : List Int := s.map fun c => (c.toNat : Int)
theorem y0i7 (c : UInt8) (t : List UInt8) (h : c.toNat < 128) : one (c :: t) = some ((c.toNat : Int), 1) := by
 have hl : lead (c.toNat : Int) = (0, (c.toNat : Int)) := by unfold lead; rw [if_pos (by omega)]
 unfold one
 simp only [hl]
 have hr : rlen (c.toNat : Int) = 1 := by
   simp (disch := omega) [rlen, right]
   omega
 simp [z3v, hr]
theorem zlo : ∀ (f : Nat) (s : List UInt8) (a : Int), s.length < f → (∀ c ∈ s, c.toNat < 128) → z0z f a s = (asc s, -1)
 | 0, _, _, h, _ => by omega
 | f + 1, [], _, _, _ => rfl
 | f + 1, c :: t, a, h, hc => by
   simp only [List.length_cons] at h
   rw [z0z, if_neg (by simp), y0i7 c t (hc c (by simp))]
   simp only [z5y, List.drop_succ_cons, List.drop_zero]
   rw [zlo f t _ (by omega) (fun d hd => hc d (by simp [hd]))]
   rfl
theorem y0mz : (splits.all fun s => s.2.2.2.1 || s.2.2.2.2 || decide (128 ≤ s.2.2.1) || decide (s.2.2.1 = 0)) = true := by decide +kernel
theorem y04z {s : List UInt8} (h : ∀ c ∈ s, c.toNat < 128) : ∀ r ∈ asc s, 0 ≤ r ∧ r < 128 := fun r hr => by
 obtain ⟨c, hc, rfl⟩ := List.mem_map.1 hr
 have := h c hc
 omega
theorem zyx {soft : Bool} : ∀ {l : List Int}, (∀ r ∈ l, 0 ≤ r ∧ r < 128) → z0x soft l = l
 | [], _ => rfl
 | a :: l, h => by
   have := zyx (soft := soft) (l := l) (fun r hr => h r (by simp [hr]))
   unfold z0x at this ⊢
   rw [List.flatMap_cons, this, (y050 (h a (by simp)).1 (h a (by simp)).2).1 soft]; rfl
theorem y08j : ∀ {l : List Int}, (∀ r ∈ l, 0 ≤ r ∧ r < 128) → z8m l = l
 | [], _ => rfl
 | a :: l, h => by
   have := y08j (l := l) (fun r hr => h r (by simp [hr]))
   unfold z8m at this ⊢
   rw [z5k, if_neg (by rw [(y050 (h a (by simp)).1 (h a (by simp)).2).2]; omega), this]; rfl
theorem y0i2 {b x : Int} (h0 : 0 ≤ x) (h1 : x < 128) : (mk2 b x).2 = false := by
 unfold mk2
 rw [if_neg (by omega), if_neg (by omega)]
 have hn : splits.find? (z9x b x) = none := by
   by_cases hx : x = 0
   · subst hx; exact y08l b
   · refine List.find?_eq_none.2 fun s hs hp => ?_
     have := List.all_eq_true.1 y0mz s hs
     simp only [z9x, Bool.and_eq_true, Bool.not_eq_true', beq_iff_eq] at hp
     rw [hp.1.1.1, hp.1.1.2, hp.2] at this
     simp at this
     omega
 unfold pr
 rw [hn]; rfl
theorem y0ba {l : List Int} (h : ∀ r ∈ l, 0 ≤ r ∧ r < 128) : z7b l = l := by
 have key : ∀ (l : List Int) (s : JS), (∀ r ∈ l, 0 ≤ r ∧ r < 128) → (l.foldl z1p s).out = s.out ++ l := fun l => by
   induction l with
   | nil => intro s _; simp
   | cons x l ih =>
     intro s hl
     have hs : z1p s x = s.put x := by
       unfold z1p
       split
       · rfl
       · rw [y0i2 (hl x (by simp)).1 (hl x (by simp)).2]
         split <;> simp
     rw [List.foldl_cons, ih _ (fun r hr => hl r (by simp [hr])), hs, z7j]; simp
 exact key l _ h
theorem y0iq {s : List UInt8} (h : ∀ c ∈ s, c.toNat < 128) : z85 (asc s) = s ∧ z0r (asc s) = true := by
 have hok : z0r (asc s) = true := List.all_eq_true.2 fun r hr => by
   have := y04z h r hr
   exact (z1t _).2 (by omega)
 refine ⟨?_, hok⟩
 unfold z85
 rw [if_pos hok]
 clear hok
 induction s with
 | nil => rfl
 | cons c t ih =>
   have hc := h c (by simp)
   have he : enc (c.toNat : Int) = [c] := by
     unfold enc
     rw [if_pos ((z1t _).2 (by omega)), if_pos (by omega)]
     have : ofI (c.toNat : Int) = c := by
       apply UInt8.toNat.inj
       have := c.toNat_lt
       simp [ofI]
     rw [this]
   have := ih (fun d hd => h d (by simp [hd]))
   unfold asc at this ⊢
   rw [List.map_cons, List.flatMap_cons, he, this]; rfl
theorem zz0 (k : Nat) : imps k z0f = (z0f, []) := rfl
theorem y09n (a b c d e : AV) : setCells [a, b, c, d, e] 0 z0f = z0f := rfl
theorem zm7 (k : Nat) : shifts k z0f = z0f := rfl
theorem zb8 : type_of% (And.intro @tbB (And.intro @zz0 (And.intro @zm7 @y09n))) := (And.intro @tbB (And.intro @zz0 (And.intro @zm7 @y09n)))
theorem zii {P Q R S : Prop} (a : Q) (b : R) (c : S) (h : Mk P → Hid Q → Hid R → Hid S → P := by
 intro m q r s
 repeat' first | refine z07 (by first | assumption | (apply_assumption <;> first | assumption | omega)) ?_ ?_ | refine LSp.fit (by assumption) ?_ | simp (maxSteps := 4000000) (disch := omega) only [z13, z12, bun, ↓z05, ↓z01, z03, findLabel, ↓reduceIte, imp, shift, z0g, z0c, unown, names, z08, below, noF, isF, z04, z0a, z09, ren, z0t, z0u, z0h, renO, belowM, seval, -Int.reduceToNat, bT, z14, zb8, List.map_nil, List.nil_append, z18, *] | exact z0n _ | refine z0m _ _ ?_ | exact Cln.cl | refine z02 _ ?_ | refine z00 _ _ ?_ ?_ | refine z10 _ ?_ | (refine Fk.fk ?_ ?_ <;> intro hg <;> (try simp only [hg]) <;> (try simp only [z11] at hg) <;> try (exfalso; first | omega | exact Bool.noConfusion hg | exact hg trivial)) | refine And.intro (by omega) ?_ | omega
 first
 | done
 | all_goals (repeat revert hg)
   fail_if_success with_reducible refine m.use ?_
   exact q.out
   first
   | done
   | exact r.out
     first
     | done
     | exact s.out
       first | done | fail) : P := h ⟨tru⟩ ⟨a⟩ ⟨b⟩ ⟨c⟩
theorem y0bk (r : Int) (hr : okR r) : z0q Tryz.prog 67 [.ag z0f, I32 r] (I32 (nar r)) := by
 have hs := z9s r
 rw [← z0e] at hs
 refine sp [.tmp 4] Tryz.func67 Tryz.ntmps67 ?_
 cases hw : wide r with
 | true =>
   have hw' : 65281 ≤ r ∧ r ≤ 65374 := by simpa [wide] using hw
   have e : nar r = (spl r).1.2.1 := by unfold nar; rw [hw, (zma hw).1]; rfl
   rw [e]
   exact zii tru tru tru
 | false =>
   have hw' : ¬ (65281 ≤ r ∧ r ≤ 65374) := by simpa [wide] using hw
   have e : nar r = r := by unfold nar; rw [hw]; rfl
   rw [e]
   exact zii tru tru tru
   all_goals first | omega | trace_state
theorem zzr (l : List Int) (hl : l.length ≤ 100000) (hr : ∀ r ∈ l, okR r) : z0q Tryz.prog 65 [.sl l.length (l.map I32), .fn 67 [.ag z0f] []] (.own 21 1 l.length ((l.map nar).map I32)) := by
 refine sp [.tmp 4] Tryz.func65 Tryz.ntmps65 ?_
 refine zii ?_ tru tru <;> intros
 refine z0j (fun i : Nat => ⟨[(1, .fn 67 [.ag z0f] []), (5, .ref 1 0 i), (8, .sl l.length (l.map I32)), (9, I64 l.length), (10, I64 i)], [.dead, .arr 21 1 (((l.take i).map nar).map I32)]⟩) (fun i => i ≤ l.length) (fun i => l.length - i) 0 (by simp) (by (simp (disch := omega) [wk, wkT, wkM, noF, isF, get, z0b, belowM, below, belows, I64, I32, Bv, U8, Sv, z0d] <;> try omega)) ?_
 intro i hi
 have hlt0 : (l.take i).length = i := by simp; omega
 by_cases hlt : i < l.length
 · have ht : (l.take (i + 1)).map nar = (l.take i).map nar ++ [nar (l.getD i 0)] := by rw [z1h l i 0 hlt, List.map_append]; rfl
   have hg0 : okR (l.getD i 0) := hr _ (by simp [List.getD, hlt])
   have hs := y0bk (l.getD i 0) hg0
   refine zii ?_ tru tru <;> intros
   refine ⟨i + 1, by omega, by omega, ?_⟩
   rw [ht]
   (simp (disch := omega) [wk, wkT, wkM, noF, isF, get, z0b, belowM, below, belows, I64, I32, Bv, U8, Sv, List.map_append, z0d] <;> try omega)
 · have e : i = l.length := by omega
   subst e
   rw [List.take_length] at *
   exact zii tru tru tru
theorem zzq (l : List Int) (hl : l.length ≤ 100000) (hr : ∀ r ∈ l, okR r) : z0q Tryz.prog 65 [.sl l.length (l.map I32), .fn 66 [.ag z0f] []] (.own 21 1 l.length ((l.map low).map I32)) := by
 refine sp [.tmp 4] Tryz.func65 Tryz.ntmps65 ?_
 refine zii ?_ tru tru <;> intros
 refine z0j (fun i : Nat => ⟨[(1, .fn 66 [.ag z0f] []), (5, .ref 1 0 i), (8, .sl l.length (l.map I32)), (9, I64 l.length), (10, I64 i)], [.dead, .arr 21 1 (((l.take i).map low).map I32)]⟩) (fun i => i ≤ l.length) (fun i => l.length - i) 0 (by simp) (by (simp (disch := omega) [wk, wkT, wkM, noF, isF, get, z0b, belowM, below, belows, I64, I32, Bv, U8, Sv, z0d] <;> try omega)) ?_
 intro i hi
 have hlt0 : (l.take i).length = i := by simp; omega
 by_cases hlt : i < l.length
 · have ht : (l.take (i + 1)).map low = (l.take i).map low ++ [low (l.getD i 0)] := by rw [z1h l i 0 hlt, List.map_append]; rfl
   have hg0 : okR (l.getD i 0) := hr _ (by simp [List.getD, hlt])
   have hs := y00k (l.getD i 0)
   rw [← z0e] at hs
   refine zii ?_ tru tru <;> intros
   refine ⟨i + 1, by omega, by omega, ?_⟩
   rw [ht]
   (simp (disch := omega) [wk, wkT, wkM, noF, isF, get, z0b, belowM, below, belows, I64, I32, Bv, U8, Sv, List.map_append, z0d] <;> try omega)
 · have e : i = l.length := by omega
   subst e
   rw [List.take_length] at *
   exact zii tru tru tru
theorem y01k (l : List Int) (hl : l.length ≤ 100000) (hr : ∀ r ∈ l, okR r) : z0q Tryz.prog 39 [tab, .sl l.length (l.map I32)] (.own 21 1 l.length ((l.map nar).map I32)) := by
 rw [← z0e]
 have h := zzr l hl hr
 refine sp [.tmp 4] Tryz.func39 Tryz.ntmps39 ?_
 exact zii tru tru tru
theorem zq0 (l : List Int) (hl : l.length ≤ 100000) (hr : ∀ r ∈ l, okR r) : z0q Tryz.prog 38 [tab, .sl l.length (l.map I32)] (.own 21 1 l.length ((l.map low).map I32)) := by
 rw [← z0e]
 have h := zzq l hl hr
 refine sp [.tmp 4] Tryz.func38 Tryz.ntmps38 ?_
 exact zii tru tru tru
def plC (c : UInt8) : UInt8 := if 65 ≤ c.toNat ∧ c.toNat ≤ 90 then c + 32 else c
def plS (s : List UInt8) : List UInt8 := s.map plC
theorem y08r {c : UInt8} (h : 65 ≤ c.toNat ∧ c.toNat ≤ 90) : (plC c).toNat = c.toNat + 32 := by
 have e : (32 : UInt8).toNat = 32 := rfl
 unfold plC; rw [if_pos h, UInt8.toNat_add, e]; omega
theorem y08q {c : UInt8} (h : ¬ (65 ≤ c.toNat ∧ c.toNat ≤ 90)) : plC c = c := by unfold plC; rw [if_neg h]
theorem y0f6 {l : List Int} (h : z0r l = true) : ∀ r ∈ l, okR r := fun r hr => by
 have := (z1t r).1 (z22.1 h r hr); unfold okR; omega
theorem y080 {r : Int} (h : right r = true) : right (nar r) = true := by
 unfold nar
 split
 · rename_i hw
   have : 65281 ≤ r ∧ r ≤ 65374 := by simpa [wide] using hw
   exact zce (by omega)
 · exact h
theorem y0ms (l : List Int) : (l.map nar).map low = l.map lw := by rw [List.map_map]; rfl
theorem zd1 (s : List UInt8) (hs : s.length ≤ 10000000) (hl : (runes s).1.length ≤ 10000) : z0q Tryz.prog 25 [tab, Sv s] (.tup [Sv (z16 s).1, Bv (z16 s).2]) := by
 have hr := z1m s
 have h1 := y01k (runes s).1 (by omega) (y0f6 hr)
 have h2 := zq0 ((runes s).1.map nar) (by rw [List.length_map]; omega) (y0f6 (z22.2 fun r hr' => by
   obtain ⟨a, ha, rfl⟩ := List.mem_map.1 hr'
   exact y080 (z22.1 hr a ha)))
 rw [y0ms, List.length_map] at h2
 have h3 := z4t ((runes s).1.map lw) (by rw [List.length_map]; omega)
 rw [List.length_map] at h3
 have hn := z5b ((runes s).1.map lw)
 rw [List.length_map] at hn
 have hrr := z5m (zna hr)
 have h4 := zq4 (z85 ((runes s).1.map lw)) (by omega) (by rw [hrr]; simp; omega)
 have hk1 : List.take (runes s).1.length (((runes s).1.map nar).map I32) = ((runes s).1.map nar).map I32 := List.take_of_length_le (by simp)
 have hk2 : List.take (runes s).1.length (((runes s).1.map lw).map I32) = ((runes s).1.map lw).map I32 := List.take_of_length_le (by simp)
 rw [← z0e] at h1 h2 h4 ⊢
 refine sp [.tmp 4, .tmp 5] Tryz.func25 Tryz.ntmps25 ?_
 rw [y0b1]
 generalize z85 ((runes s).1.map lw) = Z at *
 generalize z0r ((runes s).1.map lw) = zo at *
 generalize hf : z68 false true Z = fz at *
 clear hrr hn
 by_cases h0 : 0 ≤ (runes s).2
 · rw [if_pos h0]
   repeat' first | refine z07 (z2i s (by omega)) ?_ ?_ | simp (maxSteps := 4000000) (disch := omega) only [z13, z12, bun, ↓z05, ↓z01, z03, findLabel, ↓reduceIte, imp, shift, z0g, z0c, unown, names, z08, below, noF, isF, z04, z0a, z09, ren, z0t, z0u, z0h, renO, belowM, seval, -Int.reduceToNat, B9, D29, B21, B63, z14, zb8, List.map_nil, List.nil_append] | exact z0n _ | refine z0m _ _ ?_ | exact Cln.cl | refine z02 _ ?_ | refine z00 _ _ ?_ ?_ | refine z10 _ ?_ | (refine Fk.fk ?_ ?_ <;> intro hg <;> (try simp only [hg]) <;> (try simp only [z11] at hg) <;> try (exfalso; first | omega | exact Bool.noConfusion hg | exact hg trivial)) | refine And.intro (by omega) ?_ | omega
 · rw [if_neg h0]
   repeat' first | refine z07 (z2i s (by omega)) ?_ ?_ | refine y0j2 (.take 2 (.two 0 (.one 1 (.one 3 (.one 4 (.one 5 (.take 6 (.two 7 (.take 9 (.one 8 (.take 10 (.done)))) 8 (.one 7 (.take 9 (.take 10 (.done)))))))))) 1 (.two 0 (.one 3 (.one 4 (.one 5 (.take 6 (.two 7 (.take 9 (.one 8 (.take 10 (.done)))) 8 (.one 7 (.take 9 (.take 10 (.done))))))))) 3 (.one 0 (.one 4 (.one 5 (.take 6 (.two 7 (.take 9 (.one 8 (.take 10 (.done)))) 8 (.one 7 (.take 9 (.take 10 (.done)))))))))))) _ (by decide +kernel) ?_ | simp (maxSteps := 4000000) (disch := omega) only [z13, z12, bun, ↓z05, ↓z01, z03, findLabel, ↓reduceIte, imp, shift, z0g, z0c, unown, names, z08, below, noF, isF, z04, z0a, z09, ren, z0t, z0u, z0h, renO, belowM, seval, -Int.reduceToNat, List.length_map, hk1, hk2, B9, D29, B21, B63, z14, zb8, List.map_nil, List.nil_append] | exact z0n _ | refine z0m _ _ ?_ | exact Cln.cl | refine z02 _ ?_ | refine z00 _ _ ?_ ?_ | refine z10 _ ?_ | (refine Fk.fk ?_ ?_ <;> intro hg <;> (try simp only [hg]) <;> (try simp only [z11] at hg) <;> try (exfalso; first | omega | exact Bool.noConfusion hg | exact hg trivial)) | refine And.intro (by omega) ?_ | omega
   repeat' refine And.intro ?_ ?_
   all_goals (repeat' first | refine z07 (h1) ?_ ?_ | refine z07 (h2) ?_ ?_ | refine z07 (h3) ?_ ?_ | refine z07 (h4) ?_ ?_ | simp (maxSteps := 4000000) (disch := omega) only [z13, z12, bun, ↓z05, ↓z01, z03, findLabel, ↓reduceIte, imp, shift, z0g, z0c, unown, names, z08, below, noF, isF, z04, z0a, z09, ren, z0t, z0u, z0h, renO, belowM, seval, -Int.reduceToNat, List.length_map, hk1, hk2, B9, D29, B21, B63, z14, zb8, List.map_nil, List.nil_append] | exact z0n _ | refine z0m _ _ ?_ | exact Cln.cl | refine z02 _ ?_ | refine z00 _ _ ?_ ?_ | refine z10 _ ?_ | (refine Fk.fk ?_ ?_ <;> intro hg <;> (try simp only [hg]) <;> (try simp only [z11] at hg) <;> try (exfalso; first | omega | exact Bool.noConfusion hg | exact hg trivial)) | refine And.intro (by omega) ?_ | omega)
   all_goals (repeat' refine And.intro ?_ ?_)
   all_goals (repeat' first | refine z07 (h1) ?_ ?_ | refine z07 (h2) ?_ ?_ | refine z07 (h3) ?_ ?_ | refine z07 (h4) ?_ ?_ | simp (maxSteps := 4000000) (disch := omega) only [z13, z12, bun, ↓z05, ↓z01, z03, findLabel, ↓reduceIte, imp, shift, z0g, z0c, unown, names, z08, below, noF, isF, z04, z0a, z09, ren, z0t, z0u, z0h, renO, belowM, seval, -Int.reduceToNat, List.length_map, hk1, hk2, B9, D29, B21, B63, z14, zb8, List.map_nil, List.nil_append] | exact z0n _ | refine z0m _ _ ?_ | exact Cln.cl | refine z02 _ ?_ | refine z00 _ _ ?_ ?_ | refine z10 _ ?_ | (refine Fk.fk ?_ ?_ <;> intro hg <;> (try simp only [hg]) <;> (try simp only [z11] at hg) <;> try (exfalso; first | omega | exact Bool.noConfusion hg | exact hg trivial)) | refine And.intro (by omega) ?_ | omega)
theorem z2t : z0q Tryz.prog 9 [] (.ag z0f) := y0bm
theorem y0id (c : UInt8) : 128 ≤ (plC c).toNat ↔ 128 ≤ c.toNat := by
 by_cases h : 65 ≤ c.toNat ∧ c.toNat ≤ 90
 · rw [y08r h]; omega
 · rw [y08q h]
theorem y0f5 {c : UInt8} (h : c.toNat < 128) : lw (c.toNat : Int) = ((plC c).toNat : Int) := by
 have := List.all_eq_true.1 (show ((List.range 128).all fun n => decide (lw (n : Int) = if 65 ≤ n ∧ n ≤ 90 then (n : Int) + 32 else n)) = true by decide +kernel) c.toNat (by simp; omega)
 have e := of_decide_eq_true this
 rw [e]
 by_cases h : 65 ≤ c.toNat ∧ c.toNat ≤ 90
 · rw [if_pos h, y08r h]; omega
 · rw [if_neg h, y08q h]
theorem y0ie {s : List UInt8} (h : ∀ c ∈ s, c.toNat < 128) : ∀ c ∈ plS s, c.toNat < 128 := fun c hc => by
 obtain ⟨a, ha, rfl⟩ := List.mem_map.1 hc
 have := y0id a
 have := h a ha
 omega
theorem zze {s : List UInt8} (h : ∀ c ∈ s, c.toNat < 128) : (asc s).map lw = asc (plS s) := by
 induction s with
 | nil => rfl
 | cons c s ih =>
   show lw (c.toNat : Int) :: (asc s).map lw = ((plC c).toNat : Int) :: asc (plS s)
   rw [y0f5 (h c (by simp)), ih fun d hd => h d (List.mem_cons_of_mem _ hd)]
theorem y06i {s : List UInt8} (h : ∀ c ∈ s, c.toNat < 128) (soft join : Bool) : z84 soft join (asc s) = asc s := by
 have ha := y04z h
 unfold z84
 rw [zyx ha, y08j ha, y0ba ha]
 split <;> rfl
theorem zht {s : List UInt8} (h : ∀ c ∈ s, c.toNat < 128) : runes s = (asc s, -1) := zlo _ _ _ (by omega) h
theorem zpd {s : List UInt8} (h : ∀ c ∈ s, c.toNat < 128) : z16 s = (plS s, true) := by
 have hp := y0ie h
 rw [z2f (by rw [zht h]; dsimp only; omega), zht h]
 dsimp only
 unfold z2r
 rw [zze h, y06i hp, (y0iq hp).1]
def soB (r : Int) : Bool := (spl r).2 && ((spl r).1.2.2.2.1 || (spl r).1.2.2.2.2)
def lch (r : Int) : Bool := !soB r && (decide (2 ≤ cat r ∧ cat r ≤ 5) || r == 45)
structure Firm (c : Int) : Prop where
 fx : lw c = c
 one : z5x false c = [c]
 cl : cls c = 0
 l : ∀ a, (mk2 a c).2 = false
 r : ∀ b, (mk2 c b).2 = false
theorem y00d (r : Int) : z0q Tryz.prog 153 [tab, I32 r] (Bv (lch r)) := by
 have hs := z9s r
 have hc := zwl r
 rw [← z0e] at hs hc ⊢
 refine sp [.tmp 4] Tryz.func153 Tryz.ntmps153 ?_
 unfold lch soB
 cases h1 : (spl r).2 <;> cases h2 : (spl r).1.2.2.2.1 <;> cases h3 : (spl r).1.2.2.2.2
 all_goals
   repeat' first | refine z07 (hs) ?_ ?_ | refine z07 (hc) ?_ ?_ | simp (maxSteps := 4000000) (disch := omega) only [z13, z12, bun, ↓z05, ↓z01, z03, findLabel, ↓reduceIte, imp, shift, z0g, z0c, unown, names, z08, below, noF, isF, z04, z0a, z09, ren, z0t, z0u, z0h, renO, belowM, seval, -Int.reduceToNat, h1, h2, h3, D29, z14, Int.reduceToNat, zb8, List.map_nil, List.nil_append, z18] | exact z0n _ | refine z0m _ _ ?_ | exact Cln.cl | refine z02 _ ?_ | refine z00 _ _ ?_ ?_ | refine z10 _ ?_ | (refine Fk.fk ?_ ?_ <;> intro hg <;> (try simp only [hg]) <;> (try simp only [z11] at hg) <;> try (exfalso; first | omega | exact Bool.noConfusion hg | exact hg trivial)) | refine And.intro (by omega) ?_ | omega
 all_goals (congr 2; rw [Bool.eq_iff_iff]; simp only [Bool.or_eq_true, decide_eq_true_eq, beq_iff_eq, true_iff]; omega)
theorem y0i4 (L : List Int) (k : Nat) (hk : k < L.length) : need L (k : Int) = z6s L k := by
 unfold need
 rw [if_pos (by omega)]; rfl
theorem zop : (Value.slice none 0 0).cells.toList = [Value.slice none 0 0] := rfl
theorem y04w : ((Value.slice none 0 0).cells.all fun x => x.oneCell') = true := by decide +kernel
theorem y0ac {p : Nat → Bool} {i n : Nat} (h : ∀ j, j < i → p j = false) (hi : i < n) (hp : p i = true) : (List.range n).any p = true := List.any_eq_true.2 ⟨i, List.mem_range.2 hi, hp⟩
theorem y0ab {p : Nat → Bool} {n : Nat} (h : ∀ j, j < n → p j = false) : (List.range n).any p = false := by
 rw [List.any_eq_false]
 intro k hk
 rw [h k (List.mem_range.1 hk)]; simp
def z55 : List (Bool × Int) → Int
 | [] => 0
 | (b, e) :: l => if b then e else z55 l
def zen (s : List UInt8) : Bool := (decide (1 ≤ s.length) && (s.take 1 == [45])) || (decide (1 ≤ s.length) && (s.drop (s.length - 1) == [45])) || (decide (3 < s.length) && ((s.take 4).drop 2 == [45, 45]))
def y0je (L : List Int) (k : Nat) : Bool := z6s L k == 2 || (z6s L k == 0 && !lch (L.getD k 0))
def y0fm (L : List Int) : Bool := (List.range L.length).any (y0je L)
def y0gk (s : List UInt8) : Bool := decide (eight s < 0) || !((z68 false true s).2 && ((z68 false true s).1 == s))
def zet (s : List UInt8) : Int := z55 [(decide (0 ≤ (runes s).2), 7), (y0gk s, 4), (zen s, 11), (cat ((runes s).1.getD 0 0) == 4, 10), (y0fm (runes s).1, 8), (y06v (runes s).1 && !zto (runes s).1, 9),
 (!z0r (runes s).1, 12), (decide (63 < 4 + (pnS (runes s).1).length), 5)]
theorem zgf : ∀ {l : List (Bool × Int)}, (∀ p ∈ l, p.2 ≠ 0) → z55 l = 0 → ∀ p ∈ l, p.1 = false
 | [], _, _, p, hp => by cases hp
 | (b, e) :: l, h, h0, p, hp => by
   unfold z55 at h0
   cases b with
   | true => exact absurd h0 (h (true, e) (by simp))
   | false =>
     rcases List.mem_cons.1 hp with rfl | hp
     · rfl
     · exact zgf (fun q hq => h q (List.mem_cons_of_mem _ hq)) h0 p hp
structure y0g6 (s : List UInt8) : Prop where
 at_ : ¬ 0 ≤ (runes s).2
 big : 0 ≤ eight s
 form : z68 false true s = (s, true)
 dash : zen s = false
 mark : cat ((runes s).1.getD 0 0) ≠ 4
 chars : y0fm (runes s).1 = false
 bidi : (y06v (runes s).1 && !zto (runes s).1) = false
 len : 4 + (pnS (runes s).1).length ≤ 63
theorem zu6 {s : List UInt8} (h : zet s = 0) : y0g6 s := by
 have k := zgf (l := [(decide (0 ≤ (runes s).2), 7), (y0gk s, 4), (zen s, 11), (cat ((runes s).1.getD 0 0) == 4, 10), (y0fm (runes s).1, 8), (y06v (runes s).1 && !zto (runes s).1, 9),
   (!z0r (runes s).1, 12), (decide (63 < 4 + (pnS (runes s).1).length), 5)]) (by simp) h
 simp only [List.mem_cons, List.not_mem_nil, or_false, forall_eq_or_imp, forall_eq, decide_eq_false_iff_not] at k
 obtain ⟨k1, k2, k3, k4, k5, k6, k7, k8⟩ := k
 unfold y0gk at k2
 rw [Bool.or_eq_false_iff] at k2
 obtain ⟨k2, k9⟩ := k2
 simp only [decide_eq_false_iff_not, Bool.not_eq_false', Bool.and_eq_true, beq_iff_eq] at k2 k9
 exact ⟨k1, by omega, Prod.ext k9.2 k9.1, k3, by simpa using k4, k5, k6, by omega⟩
theorem zre {s : List UInt8} (h : y0g6 s) {k : Nat} (hk : k < (runes s).1.length) : z6s (runes s).1 k ≠ 2 ∧ (z6s (runes s).1 k = 0 → lch ((runes s).1.getD k 0) = true) := by
 have := List.any_eq_false.1 h.chars k (List.mem_range.2 hk)
 unfold y0je at this
 simp only [Bool.or_eq_true, Bool.and_eq_true, beq_iff_eq, Bool.not_eq_true', not_or, not_and, Bool.not_eq_false] at this
 exact this
theorem y0mo {r : Int} (h : lch r = true) : lw r = r ∧ cat r ≠ 1 ∧ (cat r = 0 ∨ cat r = 8 → r = 45) := by
 unfold lch at h
 simp only [Bool.and_eq_true, Bool.not_eq_true', Bool.or_eq_true, decide_eq_true_eq, beq_iff_eq] at h
 obtain ⟨h1, h2⟩ := h
 have hw : wide r = false := by
   cases hq : wide r with
   | false => rfl
   | true =>
     obtain ⟨_, a2, _, a4, _⟩ := zma hq
     unfold soB at h1
     rw [a2, a4] at h1
     cases h1
 have hc : cat r ≠ 1 := by
   rcases h2 with h2 | h2
   · omega
   · subst h2; decide +kernel
 refine ⟨?_, hc, ?_⟩
 · unfold lw nar
   rw [hw]
   exact y0hx hc
 · rintro (h | h)
   · rcases h2 with h2 | h2
     · omega
     · exact h2
   · rcases h2 with h2 | h2
     · omega
     · exact h2
theorem rl_fx {r : Int} (h : rl r ≠ .no) : lw r = r ∧ cat r ≠ 1 ∧ cat r ≠ 0 ∧ cat r ≠ 8 := by
 have key : ∀ x ∈ (expand 1632 1641 ++ expand 1776 1785 ++ [8205, 8204, 183, 885, 1523, 1524, 12539]), lw x = x ∧ cat x ≠ 1 ∧ cat x ≠ 0 ∧ cat x ≠ 8 := fun x hx => by
   have := List.all_eq_true.1 (show ((expand 1632 1641 ++ expand 1776 1785 ++ [8205, 8204, 183, 885, 1523, 1524, 12539]).all fun x => decide (lw x = x) && (decide (cat x ≠ 1) && (decide (cat x ≠ 0) && decide (cat x ≠ 8)))) = true by decide +kernel) x hx
   simp only [Bool.and_eq_true, decide_eq_true_eq] at this
   exact this
 rcases zyp r with ⟨q, _⟩ | ⟨_, q, _⟩ | ⟨q, _⟩ | ⟨q, _⟩ | ⟨q, _⟩ | ⟨q, _⟩ | ⟨q, _⟩ | ⟨q, _⟩ | ⟨q, _⟩ | ⟨_, q⟩
 · unfold arA at q
   simp only [Bool.and_eq_true, decide_eq_true_eq] at q
   exact key r (List.mem_append.2 (Or.inl (List.mem_append.2 (Or.inl (z5e q.1 q.2)))))
 · unfold arB at q
   simp only [Bool.and_eq_true, decide_eq_true_eq] at q
   exact key r (List.mem_append.2 (Or.inl (List.mem_append.2 (Or.inr (z5e q.1 q.2)))))
 all_goals first
   | (subst q; exact key _ (List.mem_append.2 (Or.inr (by simp))))
   | exact absurd q h
theorem zq3 {L : List Int} {k : Nat} (h : z6s L k ≠ 2) : z6s L k = 0 ∧ rl (L.getD k 0) = .no ∨ rl (L.getD k 0) ≠ .no := by
 by_cases hr : rl (L.getD k 0) = .no
 · left
   refine ⟨?_, hr⟩
   unfold z6s
   rw [if_pos hr]
 · right; exact hr
theorem zu5 {s : List UInt8} (h : y0g6 s) : ∀ r ∈ (runes s).1, lw r = r ∧ cat r ≠ 1 ∧ (cat r = 0 ∨ cat r = 8 → r = 45) := fun r hr => by
 obtain ⟨k, hk1, hk2⟩ := List.getElem_of_mem hr
 have e : (runes s).1.getD k 0 = r := by simp [List.getD, hk1, hk2]
 have hc := zre h hk1
 rcases zq3 hc.1 with ⟨q1, _⟩ | q
 · have := y0mo (hc.2 q1)
   rwa [e] at this
 · rw [e] at q
   obtain ⟨a, b, c, d⟩ := rl_fx q
   exact ⟨a, b, fun h => by rcases h with h | h <;> contradiction⟩
theorem zrf {s : List UInt8} (h : y0g6 s) : z16 s = (s, true) := by
 have e : z16 s = z68 false true s := by
   rw [z2f h.at_, zx7 h.at_]
   unfold z2r
   rw [y07u fun r hr => (zu5 h r hr).1]
 rw [e, h.form]
theorem zjz {s : List UInt8} (h : 0 ≤ eight s) : s ≠ [] := fun e => by subst e; simp [eight, za2] at h
def ace : List UInt8 := [120, 110, 45, 45]
def y0el (s : List UInt8) : Bool := decide (4 ≤ s.length) && (s.take 4 == ace)
def ldh (c : UInt8) : Bool := (decide (97 ≤ c.toNat) && decide (c.toNat ≤ 122)) || (decide (65 ≤ c.toNat) && decide (c.toNat ≤ 90)) || (decide (48 ≤ c.toNat) && decide (c.toNat ≤ 57)) || c == 45
def y0fb (s : List UInt8) : Int := z55 [(decide (s = []), 13), (decide (63 < s.length), 5), (!s.all ldh, 8), (zen s, 11)]
def y059 (X : List UInt8) : List UInt8 × List UInt8 × Int :=
 if 0 ≤ eight X then (ace ++ pnS (runes X).1, X, zet X)
 else if y0el X = false then (X, X, y0fb X)
 else match zax (X.drop 4) with
   | none => ([], [], 12)
   | some l => if 63 < X.length then ([], [], 5) else if zet (z85 l) ≠ 0 then ([], [], zet (z85 l)) else if pnS l ≠ X.drop 4 then ([], [], 12) else (X, z85 l, 0)
def z6f (s : List UInt8) : List UInt8 × List UInt8 × Int := if (z16 s).2 = false then ([], [], 7) else y059 (z16 s).1
def toA (s : List UInt8) : List UInt8 × Int := if (z6f s).2.2 ≠ 0 then ([], (z6f s).2.2) else ((z6f s).1, 0)
def toU (s : List UInt8) : List UInt8 × Int := if (z6f s).2.2 ≠ 0 then ([], (z6f s).2.2) else ((z6f s).2.1, 0)
theorem zny {s : List UInt8} (h : (z6f s).2.2 ≠ 0) : toA s = ([], (z6f s).2.2) ∧ toU s = ([], (z6f s).2.2) := by unfold toA toU; rw [if_pos h, if_pos h]; exact ⟨rfl, rfl⟩
theorem zz1 {s : List UInt8} (h : (z6f s).2.2 = 0) : toA s = ((z6f s).1, 0) ∧ toU s = ((z6f s).2.1, 0) := by unfold toA toU; rw [if_neg (by simp [h]), if_neg (by simp [h])]; exact ⟨rfl, rfl⟩
theorem zfo {s X : List UInt8} (h : z16 s = (X, true)) : z6f s = y059 X := by unfold z6f; rw [h]; rfl
theorem y0ak {s : List UInt8} (h : ¬ 0 ≤ (runes s).2) : z6f (z16 s).1 = z6f s := by
 have h1 := zsn h
 have h2 : z16 s = ((z16 s).1, true) := by rw [z2f h]
 rw [zfo h2, zfo (h1.trans h2)]
theorem zh7 {s : List UInt8} : y0fb s = 0 ↔ s ≠ [] ∧ s.length ≤ 63 ∧ s.all ldh = true ∧ zen s = false := by
 unfold y0fb z55 z55 z55 z55 z55
 by_cases h1 : s = []
 · simp [h1]
 · by_cases h2 : 63 < s.length
   · simp [h1, h2]; omega
   · cases h3 : s.all ldh <;> cases h4 : zen s <;> simp [h1, h2] <;> omega
theorem zgv {c : UInt8} (h : ldh c = true) : c.toNat < 128 := by
 unfold ldh at h
 simp only [Bool.or_eq_true, Bool.and_eq_true, decide_eq_true_eq, beq_iff_eq] at h
 rcases h with ((h | h) | h) | h
 · omega
 · omega
 · omega
 · subst h; decide
theorem y0if {s : List UInt8} (h : y0fb s = 0) : eight s = -1 ∧ 0 < s.length ∧ s.length ≤ 63 := by
 obtain ⟨h1, h2, h3, h4⟩ := zh7.1 h
 refine ⟨z6l fun c hc => zgv (List.all_eq_true.1 h3 c hc), ?_, h2⟩
 cases s with
 | nil => exact absurd rfl h1
 | cons => simp
theorem y0fc {l : List Int} (h : z0r l = true) : pnS l = z4b l := by unfold pnS; rw [if_pos h]
theorem y089 {r : Int} (h0 : 0 ≤ r) (h : r < 128) : ((ofI r).toNat : Int) = r := by
 unfold ofI
 have : (UInt8.ofNat r.toNat).toNat = r.toNat := by simp; omega
 rw [this]; omega
theorem y062 {l : List Int} (h : z0r l = true) (hl : l.length ≤ 1000) (hf : ∀ r ∈ l, lw r = r) : ∀ c ∈ z4b l, plC c = c := fun c hc => by
 obtain ⟨E, e⟩ := zg6 h hl
 rw [e.enc] at hc
 rcases List.mem_append.1 hc with hc | hc
 · have key : ∀ c ∈ z0o l, plC c = c := fun c hc => by
     obtain ⟨r, hr, rfl⟩ := List.mem_map.1 hc
     obtain ⟨hr1, hr2⟩ := List.mem_filter.1 hr
     have h0 := z8l h r hr1
     have h1 : r < 128 := by simpa using hr2
     have h2 := y089 h0 h1
     have h3 := y0f5 (c := ofI r) (by omega)
     rw [h2, hf r hr1] at h3
     apply UInt8.toNat.inj
     omega
   unfold z2s at hc
   split at hc
   · rcases List.mem_append.1 hc with hc | hc
     · exact key c hc
     · simp only [List.mem_singleton] at hc
       subst hc; decide
   · exact key c hc
 · obtain ⟨v, h1, h2, rfl⟩ := e.dig c hc
   have := zbg h1 h2
   exact y08q (by omega)
theorem y0gx {l : List Int} (h : z0r l = true) (hl : l.length ≤ 1000) (hb : ∃ r ∈ l, 128 ≤ r) : 0 < (z4b l).length := by
 have h1 := ztf h hl
 cases hq : z4b l with
 | cons => simp
 | nil =>
   rw [hq] at h1
   have : zax [] = some [] := by decide +kernel
   rw [this] at h1
   obtain ⟨r, hr, _⟩ := hb
   simp at h1
   rw [h1] at hr
   cases hr
theorem y0ku {s : List UInt8} (h : 0 ≤ eight s) (ha : ¬ 0 ≤ (runes s).2) : ∃ r ∈ (runes s).1, 128 ≤ r := by
 refine Classical.byContradiction fun hn => ?_
 have hall : ∀ r ∈ (runes s).1, r < 128 := fun r hr => by
   refine Classical.byContradiction fun h2 => hn ⟨r, hr, by omega⟩
 have hb := z9r s
 have hat : (runes s).2 = -1 := (zfa s).resolve_right ha
 rw [hat, z6j, List.take_length] at hb
 have hs2 : z85 (runes s).1 = (runes s).1.flatMap enc := by unfold z85; rw [if_pos hb.1]
 have h0 := z8l hb.1
 have hasc : ∀ c ∈ s, c.toNat < 128 := fun c hc => by
   rw [← hb.2.1, hs2] at hc
   obtain ⟨r, hr, hcr⟩ := List.mem_flatMap.1 hc
   have h1 := h0 r hr
   have h2 := hall r hr
   unfold enc at hcr
   rw [if_pos (z22.1 hb.1 r hr), if_pos (by omega)] at hcr
   simp only [List.mem_singleton] at hcr
   subst hcr
   have := y089 h1 h2
   omega
 have := z6l hasc
 omega
theorem y0g7 (t : List UInt8) : y0el (ace ++ t) = true := by
 unfold y0el ace
 simp
theorem y0kf {s : List UInt8} (h : y0el s = true) : s = ace ++ s.drop 4 := by
 unfold y0el at h
 simp only [Bool.and_eq_true, decide_eq_true_eq, beq_iff_eq] at h
 rw [← h.2, List.take_append_drop]
theorem zmq : ∀ c ∈ ace, plC c = c ∧ c.toNat < 128 := by decide
theorem y07v {s : List UInt8} (h : ∀ c ∈ s, plC c = c) : plS s = s := by
 unfold plS
 induction s with
 | nil => rfl
 | cons c s ih => rw [List.map_cons, h c (by simp), ih fun x hx => h x (List.mem_cons_of_mem _ hx)]
theorem y01j {u : List UInt8} (h : y0g6 u) (hl : (runes u).1.length ≤ 1000) (hw : zet u = 0) : z6f u = (ace ++ pnS (runes u).1, u, 0) ∧ z6f (ace ++ pnS (runes u).1) = (ace ++ pnS (runes u).1, u, 0) ∧
   eight (ace ++ pnS (runes u).1) = -1 ∧ 4 < (ace ++ pnS (runes u).1).length ∧ (ace ++ pnS (runes u).1).length ≤ 63 := by
 have hok := z1m u
 have hp := y0fc hok
 have hfx : ∀ r ∈ (runes u).1, lw r = r := fun r hr => (zu5 h r hr).1
 have hpos := y0gx hok hl (y0ku h.big h.at_)
 have hlen := h.len
 rw [hp] at hlen ⊢
 have hlow : ∀ c ∈ ace ++ z4b (runes u).1, plC c = c := fun c hc => by
   rcases List.mem_append.1 hc with hc | hc
   · exact (zmq c hc).1
   · exact y062 hok hl hfx c hc
 have hasc : ∀ c ∈ ace ++ z4b (runes u).1, c.toNat < 128 := fun c hc => by
   rcases List.mem_append.1 hc with hc | hc
   · exact (zmq c hc).2
   · exact zg7 hok hl c hc
 have he := z6l hasc
 have hb := z9r u
 have hat : (runes u).2 = -1 := (zfa u).resolve_right h.at_
 rw [hat, z6j, List.take_length] at hb
 have hal : (ace ++ z4b (runes u).1).length = 4 + (z4b (runes u).1).length := by rw [List.length_append]; rfl
 refine ⟨?_, ?_, he, by omega, by omega⟩
 · rw [zfo (zrf h)]
   unfold y059
   rw [if_pos h.big, hp, hw]
 · have hf : z16 (ace ++ z4b (runes u).1) = (ace ++ z4b (runes u).1, true) := by rw [zpd hasc, y07v hlow]
   rw [zfo hf]
   unfold y059
   rw [if_neg (by omega), if_neg (by rw [y0g7]; simp)]
   have hd : (ace ++ z4b (runes u).1).drop 4 = z4b (runes u).1 := rfl
   rw [hd, ztf hok hl]
   dsimp only
   rw [if_neg (by omega), hb.2.1, if_neg (by simp [hw]), hp, if_neg (by simp)]
def pcs : List UInt8 → List (List UInt8)
 | [] => [[]]
 | c :: s => if c = 46 then [] :: pcs s else match pcs s with
   | p :: ps => (c :: p) :: ps
   | [] => [[c]]
theorem ztc : ∀ s : List UInt8, (pcs s).length ≤ s.length + 1
 | [] => by simp [pcs]
 | c :: s => by
   have ih := ztc s
   unfold pcs
   split
   · simp only [List.length_cons]; omega
   · split
     · rename_i p ps e; rw [e] at ih; simp only [List.length_cons] at ih ⊢; omega
     · simp
theorem y0mh (b : UInt8) (l : List UInt8) : Lib.index (b :: l) [46] = if b = 46 then 0 else if Lib.index l [46] = -1 then -1 else Lib.index l [46] + 1 := by
 rw [Lib.index]
 by_cases h : b = 46
 · subst h; rw [if_pos (by simp [List.isPrefixOf]), if_pos rfl]
 · rw [if_neg (by simp [List.isPrefixOf]; exact fun e => h e.symm), if_neg h]
   by_cases h3 : Lib.index l [46] = -1
   · rw [if_pos (by rw [h3]; rfl), if_pos h3]
   · rw [if_neg (by simpa using h3), if_neg h3]
theorem zya : ∀ s : List UInt8, Lib.index s [46] = -1 → pcs s = [s]
 | [], _ => rfl
 | c :: s, h => by
   rw [y0mh] at h
   by_cases hc : c = 46
   · rw [if_pos hc] at h; cases h
   · rw [if_neg hc] at h
     have h2 : Lib.index s [46] = -1 := by
       by_cases h3 : Lib.index s [46] = -1
       · exact h3
       · rw [if_neg h3] at h; have := Lib.index_ge s [46]; omega
     unfold pcs
     rw [if_neg hc, zya s h2]
theorem zqc : ∀ (s : List UInt8) (i : Nat), Lib.index s [46] = i → pcs s = s.take i :: pcs (s.drop (i + 1))
 | [], i, h => by simp [Lib.index] at h
 | c :: s, i, h => by
   rw [y0mh] at h
   by_cases hc : c = 46
   · rw [if_pos hc] at h
     obtain rfl : i = 0 := by omega
     rw [pcs, if_pos hc]; rfl
   · rw [if_neg hc] at h
     by_cases h3 : Lib.index s [46] = -1
     · rw [if_pos h3] at h; omega
     · rw [if_neg h3] at h
       have hg := Lib.index_ge s [46]
       obtain ⟨j, rfl⟩ : ∃ j, i = j + 1 := ⟨i - 1, by omega⟩
       rw [pcs, if_neg hc, zqc s j (by omega)]
       rfl
def z4c : List (List UInt8) → Int
 | [] => 0
 | x :: l => if (toA x).2 ≠ 0 then (toA x).2 else z4c l
def jA (L : List (List UInt8)) : List UInt8 := Lib.join (L.map fun x => (toA x).1) [46]
def jU (L : List (List UInt8)) : List UInt8 := Lib.join (L.map fun x => (toU x).1) [46]
def zic (L : List (List UInt8)) : List UInt8 × List UInt8 × Int := if z4c L ≠ 0 then ([], [], z4c L) else if 253 < (jA L).length then ([], [], 5) else (jA L, jU L, 0)
theorem zhu {L : List (List UInt8)} : z4c L = 0 ↔ ∀ x ∈ L, (toA x).2 = 0 := by
 induction L with
 | nil => simp [z4c]
 | cons x l ih =>
   unfold z4c
   split
   · rename_i h
     simp [h]
   · rename_i h
     simp only [List.mem_cons, forall_eq_or_imp, ih]
     exact ⟨fun h1 => ⟨by simpa using h, h1⟩, fun h1 => h1.2⟩
theorem y0in {q : List (List UInt8)} {x : List UInt8} {l : List (List UInt8)} (hq : ∀ y ∈ q, (toA y).2 = 0) (hx : (toA x).2 ≠ 0) : z4c (q ++ x :: l) = (toA x).2 := by
 induction q with
 | nil => simp [z4c, hx]
 | cons y q ih =>
   have hy := hq y (by simp)
   simp only [List.cons_append, z4c, hy]
   rw [if_neg (by simp)]
   exact ih fun z hz => hq z (by simp [hz])
def z3u (r : Int) : Bool := decide (r = 46) || decide (r = 12290)
theorem y05r {r : Int} : z3u r = true ↔ r = 46 ∨ r = 12290 := by simp [z3u]
theorem zs8 {d : Int} (h : z3u d = true) : cls d = 0 ∧ z5x false d = [d] ∧ lw d = d := by
 rcases y05r.1 h with rfl | rfl <;> decide +kernel
theorem y0n0 {a b : Int} (h : (pr a b).2 = true) : z3u a = false ∧ z3u b = false ∧ z3u (pr a b).1 = false := by
 obtain ⟨h1, h2, h3, h4⟩ := z8n h
 have hq := z4n (q := fun r x => x.2.2.2.2 || (!z3u x.2.1 && !z3u x.2.2.1 && !z3u r)) (by decide +kernel) (by decide +kernel) h1
 rw [h2, h3, h4] at hq
 simp only [Bool.false_or, Bool.and_eq_true, Bool.not_eq_true'] at hq
 exact ⟨hq.1.1, hq.1.2, hq.2⟩
theorem zt6 {a b : Int} (h : (mk2 a b).2 = true) : z3u a = false ∧ z3u b = false ∧ z3u (mk2 a b).1 = false := by
 unfold mk2 at h ⊢
 have small : ∀ {x : Int}, 4352 ≤ x → x ≠ 12290 → z3u x = false := fun h1 h2 => by
   simp only [z3u, Bool.or_eq_false_iff, decide_eq_false_iff_not]; omega
 split
 · rename_i h1
   exact ⟨small (by omega) (by omega), small (by omega) (by omega), small (by dsimp only; omega) (by dsimp only; omega)⟩
 · rename_i h1
   rw [if_neg h1] at h
   split
   · rename_i h2
     have ha : 44032 ≤ a ∧ a ≤ 55203 := by simpa [han] using h2.1
     exact ⟨small (by omega) (by omega), small (by omega) (by omega), small (by dsimp only; omega) (by dsimp only; omega)⟩
   · rename_i h2
     rw [if_neg h2] at h
     exact y0n0 h
theorem zf6 : ∀ (f : Nat) (r : Int), z3u r = false → ∀ x ∈ za9 f false r, z3u x = false
 | 0, r, h, x, hx => by simp [za9] at hx; subst hx; exact h
 | f + 1, r, h, x, hx => by
   rw [z50] at hx
   split at hx
   · rename_i hh
     have : 44032 ≤ r ∧ r ≤ 55203 := by simpa [han] using hh
     have small : ∀ {x : Int}, 4352 ≤ x → x ≠ 12290 → z3u x = false := fun h1 h2 => by
       simp only [z3u, Bool.or_eq_false_iff, decide_eq_false_iff_not]; omega
     unfold syl at hx
     split at hx <;> simp at hx
     · rcases hx with rfl | rfl <;> exact small (by omega) (by omega)
     · rcases hx with rfl | rfl | rfl <;> exact small (by omega) (by omega)
   · split at hx
     · simp at hx; subst hx; exact h
     · rename_i hst
       have hs := ztx (by simpa using hst)
       have hsoft : (spl r).1.2.2.2.1 = false := by
         cases hq : (spl r).1.2.2.2.1 with
         | false => rfl
         | true => have := hs.2 hq; cases this
       have hq := z4n (q := fun _ x => x.2.2.2.1 || (!z3u x.2.1 && !z3u x.2.2.1)) (by decide +kernel) (by decide +kernel) hs.1
       rw [hsoft] at hq
       simp only [Bool.false_or, Bool.and_eq_true, Bool.not_eq_true'] at hq
       split at hx
       · exact zf6 f _ hq.1 x hx
       · rcases List.mem_append.1 hx with hx | hx
         · exact zf6 f _ hq.1 x hx
         · exact zf6 f _ hq.2 x hx
theorem znk {d : Int} (hd : cls d = 0) (B : List Int) : ∀ (A R : List Int), z5k R (A ++ d :: B) = z5k R A ++ d :: z5k [] B
 | [], R => by
   show (if 0 < cls d then _ else _) = _
   rw [if_neg (by omega)]
   rfl
 | x :: A, R => by
   show (if 0 < cls x then z5k (R ++ [x]) (A ++ d :: B) else ssort cls R ++ x :: z5k [] (A ++ d :: B)) = (if 0 < cls x then z5k (R ++ [x]) A else ssort cls R ++ x :: z5k [] A) ++ d :: z5k [] B
   split
   · exact znk hd B A _
   · rw [znk hd B A]; simp
def y09y (P : List Int) (d : Int) (s t : JS) : Prop := (s.pre = P ∧ s.st = some d ∧ t.pre = [] ∧ t.st = none ∧ s.ms = t.ms) ∨ (s.pre = P ++ d :: t.pre ∧ s.st = t.st ∧ s.ms = t.ms ∧ t.st ≠ none)
theorem y09y.out {P : List Int} {d : Int} {s t : JS} (h : y09y P d s t) : s.out = P ++ d :: t.out := by
 rcases h with ⟨h1, h2, h3, h4, h5⟩ | ⟨h1, h2, h3, h4⟩
 · simp [JS.out, h1, h2, h3, h4, h5]
 · simp [JS.out, h1, h2, h3]
theorem y09y.put {P : List Int} {d : Int} {s t : JS} (h : y09y P d s t) (x : Int) : y09y P d (s.put x) (t.put x) := by
 have ho := h.out
 unfold JS.put
 split
 · exact .inr ⟨by simpa using ho, rfl, rfl, by simp⟩
 · rcases h with ⟨h1, h2, h3, h4, h5⟩ | ⟨h1, h2, h3, h4⟩
   · exact .inl ⟨h1, h2, h3, h4, by simp [h5]⟩
   · exact .inr ⟨h1, h2, by simp [h3], h4⟩
theorem y09y.step {P : List Int} {d : Int} (hd : z3u d = true) {s t : JS} (h : y09y P d s t) (x : Int) : y09y P d (z1p s x) (z1p t x) := by
 have hp := h.put x
 rcases h with ⟨h1, h2, h3, h4, h5⟩ | ⟨h1, h2, h3, h4⟩
 · have hn : (mk2 d x).2 = false := by
     cases hq : (mk2 d x).2 with
     | false => rfl
     | true => have := (zt6 hq).1; rw [hd] at this; cases this
   have e1 : z1p s x = s.put x := by
     unfold z1p; rw [h2]; dsimp only; rw [hn]; split <;> rfl
   have e2 : z1p t x = t.put x := by
     unfold z1p; rw [h4]
   rw [e1, e2]; exact hp
 · unfold z1p
   rw [h2, h3]
   cases hb : t.st with
   | none => exact absurd hb h4
   | some b =>
     dsimp only
     split
     · split
       · exact .inr ⟨h1, rfl, rfl, by simp⟩
       · exact hp
     · exact hp
theorem y077 {d : Int} (hd : z3u d = true) (A B : List Int) : z7b (A ++ d :: B) = z7b A ++ d :: z7b B := by
 unfold z7b zsy
 rw [List.foldl_append, List.foldl_cons]
 obtain ⟨s, hs⟩ : ∃ s, A.foldl z1p ⟨[], none, []⟩ = s := ⟨_, rfl⟩
 rw [hs]
 have e : z1p s d = ⟨s.out, some d, []⟩ := by
   have hput : s.put d = ⟨s.out, some d, []⟩ := by unfold JS.put; rw [if_pos (zs8 hd).1]
   unfold z1p
   split
   · exact hput
   · rename_i b hb
     have hn : (mk2 b d).2 = false := by
       cases hq : (mk2 b d).2 with
       | false => rfl
       | true => have := (zt6 hq).2.1; rw [hd] at this; cases this
     rw [hn]
     split
     · exact hput
     · exact hput
 rw [e]
 have key : ∀ (B : List Int) (s1 s2 : JS), y09y s.out d s1 s2 → y09y s.out d (B.foldl z1p s1) (B.foldl z1p s2) := fun B => by
   induction B with
   | nil => intro s1 s2 h; exact h
   | cons x B ih => intro s1 s2 h; exact ih _ _ (h.step hd x)
 exact (key B ⟨s.out, some d, []⟩ ⟨[], none, []⟩ (.inl ⟨rfl, rfl, rfl, rfl, rfl⟩)).out
theorem zgh {d : Int} (hd : z3u d = true) (A B : List Int) : z2r (A ++ d :: B) = z2r A ++ d :: z2r B := by
 obtain ⟨h1, h2, h3⟩ := zs8 hd
 rw [zbm, zbm, zbm, List.map_append, List.map_cons, h3, z71, z1r, h2]
 show z7b (z5k [] (z0x false (A.map lw) ++ d :: z0x false (B.map lw))) = _
 rw [znk h1, y077 hd]
 rfl
theorem zsm {l : List Int} (h : ∀ r ∈ l, z3u (lw r) = false) : ∀ r ∈ z2r l, z3u r = false := by
 rw [zbm]
 refine zpj (p := fun r => z3u r = false) (fun a b _ _ h => (zt6 h).2.2) fun r hr => ?_
 obtain ⟨a, ha, hra⟩ := List.mem_flatMap.1 ((zdb _).1.mem.1 hr)
 obtain ⟨c, hc, rfl⟩ := List.mem_map.1 ha
 exact zf6 5 _ (h c hc) r hra
def rpcs : List Int → List (List Int)
 | [] => [[]]
 | c :: s => if z3u c then [] :: rpcs s else match rpcs s with
   | p :: ps => (c :: p) :: ps
   | [] => [[c]]
theorem zns (l : List Int) : rpcs l ≠ [] := by
 cases l with
 | nil => simp [rpcs]
 | cons c s =>
   unfold rpcs
   split
   · simp
   · split <;> simp
theorem zf9 {d : Int} (hd : z3u d = true) (B : List Int) : ∀ A : List Int, (∀ r ∈ A, z3u r = false) → rpcs (A ++ d :: B) = A :: rpcs B
 | [], _ => by show (if z3u d then _ else _) = _; rw [if_pos hd]
 | c :: A, h => by
   have hc := h c (by simp)
   show (if z3u c then _ else _) = _
   rw [if_neg (by simp [hc])]
   show (match rpcs (A ++ d :: B) with | p :: ps => (c :: p) :: ps | [] => [[c]]) = _
   rw [zf9 hd B A fun r hr => h r (by simp [hr])]
theorem z9p : ∀ A : List Int, (∀ r ∈ A, z3u r = false) → rpcs A = [A]
 | [], _ => rfl
 | c :: A, h => by
   have hc := h c (by simp)
   show (if z3u c then _ else _) = _
   rw [if_neg (by simp [hc]), z9p A fun r hr => h r (by simp [hr])]
theorem zou (l : List Int) : (∀ r ∈ l, z3u r = false) ∨ ∃ A d B, l = A ++ d :: B ∧ z3u d = true ∧ ∀ r ∈ A, z3u r = false := by
 induction l with
 | nil => exact .inl (by simp)
 | cons c l ih =>
   cases hc : z3u c with
   | true => exact .inr ⟨[], c, l, rfl, hc, by simp⟩
   | false =>
     rcases ih with h | ⟨A, d, B, h1, h2, h3⟩
     · exact .inl fun r hr => by
         rcases List.mem_cons.1 hr with rfl | hr
         · exact hc
         · exact h r hr
     · exact .inr ⟨c :: A, d, B, by rw [h1]; rfl, h2, fun r hr => by
         rcases List.mem_cons.1 hr with rfl | hr
         · exact hc
         · exact h3 r hr⟩
theorem zwr {d e : Int} (hd : z3u d = true) (he : z3u e = true) {B C : List Int} : ∀ {A A' : List Int}, (∀ r ∈ A, z3u r = false) → (∀ r ∈ A', z3u r = false) → A ++ d :: B = A' ++ e :: C → A = A' ∧ B = C
 | [], [], _, _, h => by
   injection h with h1 h2; exact ⟨rfl, h2⟩
 | [], a :: A', _, h2, h => by
   injection h with h3 h4
   have := h2 a (by simp); rw [← h3, hd] at this; cases this
 | a :: A, [], h1, _, h => by
   injection h with h3 h4
   have := h1 a (by simp); rw [h3, he] at this; cases this
 | a :: A, a' :: A', h1, h2, h => by
   injection h with h3 h4
   obtain ⟨q1, q2⟩ := zwr hd he (fun r hr => h1 r (by simp [hr])) (fun r hr => h2 r (by simp [hr])) h4
   exact ⟨by rw [h3, q1], q2⟩
def Fld (l : List Int) : Prop := z2r l = l ∧ ∀ r ∈ l, lw r = r
theorem zx6 (l : List Int) : Fld (z2r l) := ⟨zpf l, y06n l⟩
theorem y0gz {A B : List Int} {d : Int} (hd : z3u d = true) (hA : ∀ r ∈ A, z3u r = false) (h : Fld (A ++ d :: B)) : Fld A ∧ Fld B := by
 obtain ⟨h1, h2⟩ := h
 rw [zgh hd] at h1
 have hA' : ∀ r ∈ z2r A, z3u r = false := zsm fun r hr => by rw [h2 r (by simp [hr])]; exact hA r hr
 obtain ⟨q1, q2⟩ := zwr hd hd hA' hA h1
 exact ⟨⟨q1, fun r hr => h2 r (by simp [hr])⟩, ⟨q2, fun r hr => h2 r (by simp [hr])⟩⟩
theorem y0b0 {A B : List Int} {d : Int} (hd : z3u d = true) (hA : Fld A) (hB : Fld B) : Fld (A ++ d :: B) := by
 refine ⟨by rw [zgh hd, hA.1, hB.1], fun r hr => ?_⟩
 rcases List.mem_append.1 hr with h | h
 · exact hA.2 r h
 · rcases List.mem_cons.1 h with rfl | h
   · exact (zs8 hd).2.2
   · exact hB.2 r h
theorem y0c9 (n : Nat) : ∀ l : List Int, l.length ≤ n → Fld l → ∀ p ∈ rpcs l, Fld p ∧ (∀ r ∈ p, z3u r = false) ∧ p.length ≤ l.length ∧ ∀ r ∈ p, r ∈ l := by
 induction n with
 | zero =>
   intro l hl h p hp
   have : l = [] := List.length_eq_zero_iff.1 (by omega)
   subst this
   simp [rpcs] at hp; subst hp
   exact ⟨h, by simp, by simp, by simp⟩
 | succ n ih =>
   intro l hl h p hp
   rcases zou l with h0 | ⟨A, d, B, rfl, hd, hA⟩
   · rw [z9p l h0] at hp
     simp at hp; subst hp
     exact ⟨h, h0, Nat.le_refl _, fun _ h => h⟩
   · rw [zf9 hd B A hA] at hp
     obtain ⟨f1, f2⟩ := y0gz hd hA h
     rcases List.mem_cons.1 hp with rfl | hp
     · exact ⟨f1, hA, by simp only [List.length_append, List.length_cons]; omega, fun r hr => by simp [hr]⟩
     · have hlen : B.length ≤ n := by simp at hl; omega
       obtain ⟨q1, q2, q3, q4⟩ := ih B hlen f2 p hp
       exact ⟨q1, q2, by simp only [List.length_append, List.length_cons]; omega, fun r hr => by simp [q4 r hr]⟩
end Go.AE
end
