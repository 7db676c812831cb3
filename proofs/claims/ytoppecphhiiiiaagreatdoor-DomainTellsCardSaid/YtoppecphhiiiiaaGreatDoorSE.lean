/- Contracts of functions that the laws of this seat reach, and plain laws of what they compute. No condition beyond each statement's own. -/
import Derived.Test.YtoppecphhiiiiaaGreatDoorSA
import Derived.WalkKit
import Derived.Lib.Walk
import Derived.Lib.SliceRun
import Derived.Lib.AppendZeros
import Derived.Lib.AppendZerosOnto
import Derived.Test.YtoppecphhiiiiaaGreatDoorV1
import Derived.Test.YtoppecphhiiiiaaGreatDoorU1
import Derived.Test.YtoppecphhiiiiaaGreatDoorXE
import Derived.Lib.IndexMore
import Derived.Lib.Join
set_option linter.unusedVariables false
set_option linter.unusedSimpArgs false
section
namespace Go.AE
open Go.Proofs
set_option maxRecDepth 20000
set_option maxHeartbeats 8000000
set_option linter.unusedSimpArgs false
theorem iY {P Q R S : Prop} (a : Q) (b : R) (c : S) (h : Mk P → bD Q → bD R → bD S → P := by
 intro m q r s
 repeat' first | refine aM (by first | assumption | (apply_assumption <;> omega)) ?_ ?_ | refine cM.fit (by assumption) ?_ | simp (maxSteps := 4000000) (disch := omega) only [aZ, aY, bun, ↓aW, ↓aV, aO, findLabel, ↓reduceIte, imp, shift, aR, aJ, unown, names, aQ, below, aD, aC, aT, aU, aS, ren, aN, aP, aX, renO, belowM, seval, -Int.reduceToNat, bT, b9, o3, mU, *] | exact bH _ | refine bG _ _ ?_ | exact bC.cl | refine bE _ ?_ | refine bF _ _ ?_ ?_ | refine bA _ ?_ | refine fkx ?_ tru <;> intro hg | refine fkx ?_ ?_ <;> intro hg | exact fkx tru tru | refine And.intro (by omega) ?_ | omega
 first
 | done
 | all_goals (repeat revert hg)
   exact q.out
   first
   | done
   | exact r.out
     first
     | done
     | exact s.out
       first | done | fail) : P := h ⟨tru⟩ ⟨a⟩ ⟨b⟩ ⟨c⟩
theorem zj8 (l : List Int) (hl : l.length ≤ 500000) (hr : ∀ r ∈ l, bO r) : aG Tryz.prog 80 [.sl l.length (l.map aB)] (.own 21 1 (fT l).length ((fT l).map aB)) := by
 refine sp [.tmp 2] Tryz.func80 Tryz.ntmps80 ?_
 refine iY ?_ tru tru <;> intros
 refine bL (fun i : Nat => ⟨[(0, .sl l.length (l.map aB)), (3, .ref 1 0 (gX (l.take i)).out.length), (4, aA i)], [.dead, .arr 21 1 ((gX (l.take i)).out.map aB)]⟩)
  (fun i => i ≤ l.length) (fun i => l.length - i) 0 (by simp) (by (simp (disch := omega) [wk, aL, aI, aD, aC, get, aK, belowM, below, belows, aA, aB, Bv, U8, Sv, gX, JS.out] <;> try omega)) ?_
 intro i hi
 by_cases hlt : i < l.length
 ·have hjt := TB l i hlt
  have hJ := JI.run (l.take i)
  have hJl := vJ (l.take i)
  have hJr := TA (l := l.take i) (fun r h => hr r (List.mem_of_mem_take h))
  have hlt0 : (l.take i).length = i := by simp; omega
  have hx : bO (l.getD i 0) := hr _ (by simp [List.getD, hlt])
  obtain ⟨x, hxe⟩ : ∃ x, l.getD i 0 = x := ⟨_, rfl⟩
  rw [hxe] at hjt hx
  have hc := kV x hx.1 hx.2
  have hc0 := uP x
  have hc1 := uO x
  generalize gX (l.take i) = J at *
  have hpo := oN J x
  have hms := hJ.ms
  cases hst : J.st with
  | none =>
   have hpre := hJ.none hst
   have hj : cQ J x = J.put x := by unfold cQ; rw [hst]
   have ho : J.out = J.ms := by simp [JS.out, hst, hpre]
   rw [hj] at hjt
   rw [ho] at hJl hJr hpo ⊢
   clear hJ ho hpre
   generalize J.ms = ms at *
   refine iY ?_ tru tru <;> intros
   refine bL (fun p : Nat × Bool => ⟨[(0, .sl l.length (l.map aB)), (3, .ref 1 0 ms.length), (4, aA i), (5, aA (cls x)), (6, aA ((p.1 : Int) - 1)), (7, Bv p.2)], [.dead, .arr 21 1 (ms.map aB)]⟩)
    (fun p => p.1 ≤ ms.length) (fun p => p.1) (ms.length, true) (Nat.le_refl _) bN ?_
   rintro ⟨j, f⟩ hj1
   dsimp only at hj1
   by_cases hj0 : 0 < j
   ·have e1 : ((j : Int) - 1).toNat = j - 1 := by omega
    have hm := pK (X := ms) (k := j - 1) (by omega)
    have hmr := hJr _ hm
    have hmc := hms _ hm
    have hcm := kV _ hmr.1 hmr.2
    generalize hgm : ms.getD (j - 1) 0 = m at *
    by_cases hcmx : cls m < cls x
    ·cases f with
     | true =>
      refine iY ?_ tru tru <;> intros
      refine ⟨(j - 1, true), by dsimp only; omega, by dsimp only; omega, ?_⟩
      (simp (disch := omega) [wk, aL, aI, aD, aC, get, aK, belowM, below, belows, aA, aB, Bv, U8, Sv, ] <;> try omega)
     | false =>
      refine iY ?_ tru tru <;> intros
      refine ⟨(j - 1, false), by dsimp only; omega, by dsimp only; omega, ?_⟩
      (simp (disch := omega) [wk, aL, aI, aD, aC, get, aK, belowM, below, belows, aA, aB, Bv, U8, Sv, ] <;> try omega)
    ·cases f with
     | true =>
      refine iY ?_ tru tru <;> intros
      refine ⟨(j - 1, false), by dsimp only; omega, by dsimp only; omega, ?_⟩
      (simp (disch := omega) [wk, aL, aI, aD, aC, get, aK, belowM, below, belows, aA, aB, Bv, U8, Sv, ] <;> try omega)
     | false =>
      refine iY ?_ tru tru <;> intros
      refine ⟨(j - 1, false), by dsimp only; omega, by dsimp only; omega, ?_⟩
      (simp (disch := omega) [wk, aL, aI, aD, aC, get, aK, belowM, below, belows, aA, aB, Bv, U8, Sv, ] <;> try omega)
   ·have e : j = 0 := by omega
    subst e
    refine iY ?_ tru tru <;> intros
    refine ⟨i + 1, by omega, by omega, ?_⟩
    rw [hjt, hpo]
    (simp (disch := omega) [wk, aL, aI, aD, aC, get, aK, belowM, below, belows, aA, aB, Bv, U8, Sv, ] <;> try omega)
  | some b =>
   have ho : J.out = J.pre ++ b :: J.ms := by simp [JS.out, hst]
   have hbc := hJ.st b hst
   have hj : cQ J x = if J.ms.all (fun m => decide (cls m < cls x)) then (if (bP b x).2 then ⟨J.pre, some (bP b x).1, J.ms⟩ else J.put x) else J.put x := by unfold cQ; rw [hst]
   have o1 : (JS.out ⟨J.pre, some (bP b x).1, J.ms⟩) = J.pre ++ (bP b x).1 :: J.ms := by simp [JS.out]
   rw [hj] at hjt
   rw [ho] at hJl hJr hpo ⊢
   have hbo : bO b := hJr b (by simp)
   have hmk := zje b x hbo hx
   have hcb := kV b hbo.1 hbo.2
   have hfin : ∀ f : Bool, (J.ms.all fun m => decide (cls m < cls x)) = f → (gX (l.take (i + 1))).out = if f = true ∧ (bP b x).2 = true then J.pre ++ (bP b x).1 :: J.ms else J.pre ++ b :: J.ms ++ [x] := fun f hf => by
    rw [hjt, hf]
    cases f <;> cases hk : (bP b x).2 <;> simp [hpo, o1]
   clear hJ ho hj hjt o1
   generalize J.ms = ms at *
   generalize J.pre = pre at *
   have hol : (pre ++ b :: ms).length = pre.length + (ms.length + 1) := by simp
   have hgb : (pre ++ b :: ms).getD pre.length 0 = b := kP rfl
   refine iY ?_ tru tru <;> intros
   refine bL (fun p : Nat × Bool => ⟨[(0, .sl l.length (l.map aB)), (3, .ref 1 0 (pre ++ b :: ms).length), (4, aA i), (5, aA (cls x)), (6, aA ((pre.length : Int) + p.1)), (7, Bv p.2)], [.dead, .arr 21 1 ((pre ++ b :: ms).map aB)]⟩)
    (fun p => p.1 ≤ ms.length ∧ ((ms.drop p.1).all fun m => decide (cls m < cls x)) = p.2) (fun p => p.1) (ms.length, true) ⟨Nat.le_refl _, by simp⟩ (by (simp (disch := omega) [wk, aL, aI, aD, aC, get, aK, belowM, below, belows, aA, aB, Bv, U8, Sv, hol] <;> try omega)) ?_
   rintro ⟨j, f⟩ ⟨hj1, hf⟩
   dsimp only at hj1 hf
   by_cases hj0 : 0 < j
   ·obtain ⟨t1, t2⟩ := wV hj0 hj1
    have e1 : ((pre.length : Int) + (j : Int)).toNat = pre.length + j := by omega
    have hm := pK (X := ms) (k := j - 1) (by omega)
    have hmr := hJr _ (List.mem_append_right _ (List.mem_cons_of_mem _ hm))
    have hmc := hms _ hm
    have hcm := kV _ hmr.1 hmr.2
    have hgm : (pre ++ b :: ms).getD (pre.length + j) 0 = ms.getD (j - 1) 0 := by
     have := qW (A := pre ++ [b]) (X := ms) (R := []) (k := j - 1) (by omega)
     rw [List.append_nil] at this
     rw [← this, show pre ++ b :: ms = pre ++ [b] ++ ms by simp]
     congr 1
     simp; omega
    have hf2 : ((ms.drop (j - 1)).all fun m => decide (cls m < cls x)) = (decide (cls (ms.getD (j - 1) 0) < cls x) && f) := by rw [t2, List.all_cons, hf]
    generalize ms.getD (j - 1) 0 = m at *
    by_cases hcmx : cls m < cls x
    ·cases f with
     | true =>
      refine iY ?_ tru tru <;> intros
      refine ⟨(j - 1, true), ⟨by dsimp only; omega, by rw [hf2, decide_eq_true hcmx]; rfl⟩, by dsimp only; omega, ?_⟩
      (simp (disch := omega) [wk, aL, aI, aD, aC, get, aK, belowM, below, belows, aA, aB, Bv, U8, Sv, hol] <;> try omega)
     | false =>
      refine iY ?_ tru tru <;> intros
      refine ⟨(j - 1, false), ⟨by dsimp only; omega, by rw [hf2, decide_eq_true hcmx]; rfl⟩, by dsimp only; omega, ?_⟩
      (simp (disch := omega) [wk, aL, aI, aD, aC, get, aK, belowM, below, belows, aA, aB, Bv, U8, Sv, hol] <;> try omega)
    ·cases f with
     | true =>
      refine iY ?_ tru tru <;> intros
      refine ⟨(j - 1, false), ⟨by dsimp only; omega, by rw [hf2, decide_eq_false hcmx]; rfl⟩, by dsimp only; omega, ?_⟩
      (simp (disch := omega) [wk, aL, aI, aD, aC, get, aK, belowM, below, belows, aA, aB, Bv, U8, Sv, hol] <;> try omega)
     | false =>
      refine iY ?_ tru tru <;> intros
      refine ⟨(j - 1, false), ⟨by dsimp only; omega, by rw [hf2, decide_eq_false hcmx]; rfl⟩, by dsimp only; omega, ?_⟩
      (simp (disch := omega) [wk, aL, aI, aD, aC, get, aK, belowM, below, belows, aA, aB, Bv, U8, Sv, hol] <;> try omega)
   ·have e : j = 0 := by omega
    subst e
    have e1 : ((pre.length : Int) + ((0 : Nat) : Int)).toNat = pre.length := by omega
    have e2 : ((pre.length : Int) + 0).toNat = pre.length := by omega
    rw [List.drop_zero] at hf
    have hfin := hfin f hf
    cases f with
    | true =>
     cases hk : (bP b x).2 with
     | true =>
      rw [if_pos ⟨rfl, hk⟩] at hfin
      have hset : (pre ++ b :: ms).set pre.length (bP b x).1 = pre ++ (bP b x).1 :: ms := wQ rfl
      refine iY ?_ tru tru <;> intros
      refine ⟨i + 1, by omega, by omega, ?_⟩
      rw [hfin]
      (simp (disch := omega) [wk, aL, aI, aD, aC, get, aK, belowM, below, belows, aA, aB, Bv, U8, Sv, hol] <;> try omega)
     | false =>
      rw [if_neg (by rw [hk]; simp)] at hfin
      refine iY ?_ tru tru <;> intros
      refine ⟨i + 1, by omega, by omega, ?_⟩
      rw [hfin]
      (simp (disch := omega) [wk, aL, aI, aD, aC, get, aK, belowM, below, belows, aA, aB, Bv, U8, Sv, hol, List.append_assoc] <;> try omega)
    | false =>
     rw [if_neg (by simp)] at hfin
     refine iY ?_ tru tru <;> intros
     refine ⟨i + 1, by omega, by omega, ?_⟩
     rw [hfin]
     (simp (disch := omega) [wk, aL, aI, aD, aC, get, aK, belowM, below, belows, aA, aB, Bv, U8, Sv, hol, List.append_assoc] <;> try omega)
 ·have e : i = l.length := by omega
  subst e
  rw [List.take_length] at *
  refine iY ?_ tru tru <;> intros
  rfl
end Go.AE
-- types: B0 B3 B4 B21 B63 B139
end
section
set_option linter.unusedSimpArgs false
set_option linter.unusedVariables false
namespace Go.AE
open Go.Proofs Go.Lib
set_option maxHeartbeats 4000000 in
set_option maxRecDepth 100000 in
theorem zeg (w : World) (n : Nat) (h0 : 0 < n) (hn : n ≤ 1000000) : Calls Tryz.prog 209 #[.slice none 0 0, .int .i64 n] w fun e w' =>
  e = .returned (.slice (some ⟨w.heap.size, 0, none⟩) 0 (grownCap w n 0 21)) ∧ w' = w.drew.alloc (.cells (Builtin.zeroCells (Value.int .i32 0).cells n ++ Builtin.zeroCells (Value.int .i32 0).cells (grownCap w n 0 21 - n)) 21) := by
 have happ : ∀ ty, (Builtin.append_ #[63, 3] ty #[.slice none 0 0, .int .i64 n]).run Tryz.prog w = _ := fun ty =>
  run_append_nil_zeros (P := Tryz.prog) w 63 3 ty 21 _ (.int .i32 0) .i64 .i64 Tryz.underlying63 Tryz.underlying3 rfl rfl n h0 (by decide) (by omega) (by show n * 4 ≤ _; omega)
 have hge : n ≤ grownCap w n 0 21 := grownCap_ge w _ 0 21
 have hle : grownCap w n 0 21 ≤ maxLen := grownCap_le_maxLen w _ 0 21 (by unfold maxLen; omega)
 go_enter Tryz.func209, Tryz.ntmps209
 go_wp2_with (at_builtin; refine Lib.wpList_append_run _ rfl _ _ _ _ rfl _ _ rfl rfl _ _ (happ _) ?_)
 go_ret
 exact ⟨rfl, rfl⟩
set_option maxHeartbeats 4000000 in
set_option maxRecDepth 100000 in
theorem zeh (w : World) : Calls Tryz.prog 209 #[.slice none 0 0, .int .i64 0] w fun e w' => e = .returned (.slice none 0 0) ∧ w' = w := by
 go_enter Tryz.func209, Tryz.ntmps209
 go_wp2
 go_ret
 exact ⟨rfl, rfl⟩
theorem zei (n : Nat) (hn : n ≤ 1000000) : aG Tryz.prog 209 [.v (.slice none 0 0), aA n] (.own 21 1 0 []) := by
 refine ⟨⟨_, Tryz.func209, by decide +kernel, by decide +kernel⟩, fun w F vs hw hT hr => ?_⟩
 obtain ⟨v0, v1, rfl, h0, h1⟩ : ∃ v0 v1, vs = [v0, v1] ∧ aH w F [] (.v (.slice none 0 0)) v0 ∧ aH w F [] (aA n) v1 := by
  cases hr with
  | cons h0 hr => cases hr with
   | cons h1 hr => cases hr; exact ⟨_, _, rfl, h0, h1⟩
 cases h0
 cases h1
 rcases Nat.eq_zero_or_pos n with rfl | hp
 ·refine (zeh w).mono ?_
  rintro e w' ⟨rfl, rfl⟩
  refine ⟨_, F, [none], rfl, d7.refl _, fun b h => h, fun b h => ⟨.inl h, hw b h⟩, .ref0 rfl, ?_, ?_⟩
  ·refine ⟨rfl, fun id x hx => ?_, fun id L hx => ?_, fun i j L M hi hj => ?_⟩
   ·cases id with
    | zero => cases hx; exact ⟨0, [], ⟨rfl, .inl ⟨rfl, rfl⟩⟩, .nil, by simp, by decide, fun L h => by cases h⟩
    | succ id => cases hx
   ·cases id with
    | zero => cases hx
    | succ id => cases hx
   ·cases i with
    | zero => cases hi
    | succ i => cases hi
  ·intro id L hL
   cases id with
   | zero => cases hL
   | succ id => cases hL
 ·refine (zeg w n hp hn).mono ?_
  rintro e w' ⟨rfl, hw'⟩
  have hge : n ≤ grownCap w n 0 21 := grownCap_ge w _ 0 21
  have hle : grownCap w n 0 21 ≤ maxLen := grownCap_le_maxLen w _ 0 21 (by unfold maxLen; omega)
  have hsz : w'.heap.size = w.heap.size + 1 := by rw [hw']; exact Array.size_push _
  have hold : ∀ k, k < w.heap.size → w'.heap[k]? = w.heap[k]? := fun k hk => by
   rw [hw']
   exact RowKit.Below.heap_alloc w.drew _ k hk
  have hnew : w'.heap[w.heap.size]? = some (.cells (Builtin.zeroCells (Value.int .i32 0).cells n ++ Builtin.zeroCells (Value.int .i32 0).cells (grownCap w n 0 21 - n)) 21 (0, 0)) := by
   rw [hw']
   exact heap_alloc_new w.drew _
  have hrep : aH w' F [some ⟨w.heap.size, 0, grownCap w n 0 21⟩] (.ref 0 0 0) (.slice (some ⟨w.heap.size, 0, none⟩) 0 (grownCap w n 0 21)) := aH.ref (L := ⟨w.heap.size, 0, grownCap w n 0 21⟩) rfl (fun _ => rfl) (Nat.zero_le _)
  refine ⟨_, F, [some ⟨w.heap.size, 0, grownCap w n 0 21⟩], rfl, ⟨by rw [hw']; rfl, by rw [hw']; rfl, by rw [hw']; rfl, by omega, hold⟩, fun b h => h, fun b h => ⟨.inl h, by have := hw b h; omega⟩, hrep, ?_, ?_⟩
  ·refine ⟨rfl, fun id x hx => ?_, fun id L hx => ?_, fun i j L M hi hj _ => ?_⟩
   ·cases id with
    | zero =>
     cases hx
     refine ⟨0, [], ⟨rfl, .inr ⟨w.heap.size, grownCap w n 0 21, _, rfl, Nat.zero_le _, hnew, Nat.zero_le _, hle, ?_, by simp⟩⟩, .nil, by simp, by decide, fun L h => by cases h; rfl⟩
     simp [size_zeroCells, Value.cells]; omega
    | succ id => cases hx
   ·cases id with
    | zero =>
     cases hx
     refine ⟨fun h => ?_, by dsimp only; omega⟩
     have := hw _ h
     dsimp only at this
     omega
    | succ id => cases hx
   ·cases i with
    | zero => cases j with
     | zero => rfl
     | succ j => cases hj
    | succ i => cases hi
  ·intro id L hL
   cases id with
   | zero => cases hL; exact Nat.le_refl _
   | succ id => cases hL
end Go.AE
end
section
namespace Go.AE
open Go.Proofs
set_option maxRecDepth 20000
set_option maxHeartbeats 8000000
set_option linter.unusedSimpArgs false
theorem zb6 (A B : List Int) (hA : A.length ≤ 400000) (hB : B.length ≤ 400000) : aG Tryz.prog 194 [.sl 2 [.sl A.length (A.map aB), .sl B.length (B.map aB)]] (.own 21 1 (A ++ B).length ((A ++ B).map aB)) := by
 refine sp [.tmp 2] Tryz.func194 Tryz.ntmps194 ?_
 refine iH ?_ tru tru <;> intros
 refine bL (fun x : Nat × Nat => ⟨[(0, .sl 2 [.sl A.length (A.map aB), .sl B.length (B.map aB)]), (3, aA x.2), (9, .sl 2 [.sl A.length (A.map aB), .sl B.length (B.map aB)]), (10, aA 2), (11, aA x.1)], [.dead]⟩)
  (fun x => (x.1 = 0 ∧ x.2 = 0) ∨ (x.1 = 1 ∧ x.2 = A.length) ∨ (x.1 = 2 ∧ x.2 = A.length + B.length)) (fun x => 2 - x.1) (0, 0) (.inl ⟨rfl, rfl⟩) bN ?_
 rintro ⟨i, k⟩ h
 dsimp only at h
 rcases h with ⟨rfl, rfl⟩ | ⟨rfl, rfl⟩ | ⟨rfl, rfl⟩
 ·refine iH ?_ tru tru <;> intros
  refine ⟨(1, A.length), .inr (.inl ⟨rfl, rfl⟩), by simp, ?_⟩
  (simp (disch := omega) [wk, aL, aI, aD, aC, get, aK, belowM, below, belows, aA, aB, Bv, U8, Sv, ] <;> try omega)
 ·refine iH ?_ tru tru <;> intros
  refine ⟨(2, A.length + B.length), .inr (.inr ⟨rfl, rfl⟩), by simp, ?_⟩
  (simp (disch := omega) [wk, aL, aI, aD, aC, get, aK, belowM, below, belows, aA, aB, Bv, U8, Sv, ] <;> try omega)
 ·(have := zei (A.length + B.length) (by omega); refine iH ?_ tru tru <;> intros)
  refine bL (fun x : Nat × List Int => ⟨[(6, .ref 1 0 x.2.length), (25, .sl 2 [.sl A.length (A.map aB), .sl B.length (B.map aB)]), (26, aA 2), (27, aA x.1)], [.dead, .arr 21 1 (x.2.map aB)]⟩)
   (fun x => (x.1 = 0 ∧ x.2 = []) ∨ (x.1 = 1 ∧ x.2 = A) ∨ (x.1 = 2 ∧ x.2 = A ++ B)) (fun x => 2 - x.1) (0, []) (.inl ⟨rfl, rfl⟩) (by (simp (disch := omega) [wk, aL, aI, aD, aC, get, aK, belowM, below, belows, aA, aB, Bv, U8, Sv, ] <;> try omega)) ?_
  rintro ⟨i, k⟩ h
  dsimp only at h
  rcases h with ⟨rfl, rfl⟩ | ⟨rfl, rfl⟩ | ⟨rfl, rfl⟩
  ·refine iH ?_ tru tru <;> intros
   refine ⟨(1, A), .inr (.inl ⟨rfl, rfl⟩), by simp, ?_⟩
   (simp (disch := omega) [wk, aL, aI, aD, aC, get, aK, belowM, below, belows, aA, aB, Bv, U8, Sv, ] <;> try omega)
  ·refine iH ?_ tru tru <;> intros
   refine ⟨(2, k ++ B), .inr (.inr ⟨rfl, rfl⟩), by simp, ?_⟩
   (simp (disch := omega) [wk, aL, aI, aD, aC, get, aK, belowM, below, belows, aA, aB, Bv, U8, Sv, List.map_append] <;> try omega)
  ·exact iH tru tru tru
end Go.AE
-- types: B0 B3 B4 B9 B20 B63 B201
end
section
namespace Go.AE
open Go.Proofs
set_option maxRecDepth 20000
set_option maxHeartbeats 8000000
set_option linter.unusedSimpArgs false
theorem kC {P Q R S : Prop} (a : Q) (b : R) (c : S) (h : Mk P → bD Q → bD R → bD S → P := by
 intro m q r s
 repeat' first | refine aM (by first | assumption | (apply_assumption <;> omega)) ?_ ?_ | refine cM.fit (by assumption) ?_ | simp (maxSteps := 4000000) (disch := omega) only [aZ, aY, bun, ↓aW, ↓aV, aO, findLabel, ↓reduceIte, imp, shift, aR, aJ, unown, names, aQ, below, aD, aC, aT, aU, aS, ren, aN, aP, aX, renO, belowM, seval, -Int.reduceToNat, bT, b9, o4, bR, *] | exact bH _ | refine bG _ _ ?_ | exact bC.cl | refine bE _ ?_ | refine bF _ _ ?_ ?_ | refine bA _ ?_ | refine fkx ?_ tru <;> intro hg | refine fkx ?_ ?_ <;> intro hg | exact fkx tru tru | refine And.intro (by omega) ?_ | omega
 first
 | done
 | all_goals (repeat revert hg)
   exact q.out
   first
   | done
   | exact r.out
     first
     | done
     | exact s.out
       first | done | fail) : P := h ⟨tru⟩ ⟨a⟩ ⟨b⟩ ⟨c⟩
theorem zhd (r : Int) (h : 44032 ≤ r ∧ r ≤ 55203) : aG Tryz.prog 193 [aB r] (.own 21 1 (syl r).length ((syl r).map aB)) := by
 by_cases h28 : (r - 44032) % 28 = 0
 ·have hs : syl r = [4352 + (r - 44032) / 588, 4449 + (r - 44032) % 588 / 28] := by rw [syl, if_pos h28]; rfl
  have e : (r - 44032) % 588 / 28 = (r - 44032) / 28 % 21 := by omega
  rw [hs, e]
  refine sp [.tmp 2] Tryz.func193 Tryz.ntmps193 ?_
  exact kC tru tru tru
 ·have hs : syl r = [4352 + (r - 44032) / 588, 4449 + (r - 44032) % 588 / 28, 4519 + (r - 44032) % 28] := by rw [syl, if_neg h28]; rfl
  have e : (r - 44032) % 588 / 28 = (r - 44032) / 28 % 21 := by omega
  rw [hs, e]
  refine sp [.tmp 2] Tryz.func193 Tryz.ntmps193 ?_
  exact kC tru tru tru
theorem WI (r : Int) (soft : Bool) (hr : bO r) (h : han r = true ∨ stop soft r = true) : aG Tryz.prog 166 [tab, aB r, Bv soft] (.sl (cE soft r).length ((cE soft r).map aB)) := by
 have he := iB soft r
 have hsp := A8 r
 have n3 := tJ r 44032 11172 (by decide) (by decide) (by decide)
 rw [← cT] at hsp ⊢
 refine qC (z := true) (ts := [.tmp 6]) bZ Tryz.func166 rfl rfl (by decide +kernel) (by simp [Tryz.ntmps166]) rfl ?_
 cases hh : han r with
 | true =>
  rw [hh, if_pos rfl] at he
  have hb : 44032 ≤ r ∧ r ≤ 55203 := by simpa [han] using hh
  rw [decide_eq_true (show 44032 ≤ r ∧ r < 44032 + 11172 by omega)] at n3
  rw [he]
  (have := zhd r hb; exact kC tru tru tru)
 | false =>
  have hst := h.resolve_left (by rw [hh]; simp)
  rw [hh, hst] at he
  have hb : ¬ (44032 ≤ r ∧ r < 44032 + 11172) := by intro h'; simp [han] at hh; omega
  rw [decide_eq_false hb] at n3
  have hs : cE soft r = [r] := by rw [he]; simp
  rw [hs]
  unfold stop at hst
  cases h2 : (spl r).2 with
  | false => exact kC tru tru tru
  | true =>
   rw [h2] at hst
   cases h3 : (spl r).1.2.2.2.1 with
   | false => rw [h3] at hst; simp at hst
   | true =>
    cases soft with
    | true => rw [h3] at hst; simp at hst
    | false => exact kC tru tru tru
theorem zh9 : ∀ (n : Nat) (r : Int) (soft : Bool), lA n r → bO r → aG Tryz.prog 166 [tab, aB r, Bv soft] (.sl (cE soft r).length ((cE soft r).map aB)) := by
 intro n
 induction n with
 | zero => intro r soft hd hr; exact WI r soft hr (.inr (by simp [stop, show (spl r).2 = false from hd]))
 | succ n ih =>
  intro r soft hd hr
  by_cases hs : han r = true ∨ stop soft r = true
  ·exact WI r soft hr hs
  ·have h1 : han r = false := by simpa using fun h => hs (.inl h)
   have h2 : stop soft r = false := by simpa using fun h => hs (.inr h)
   have he := iB soft r
   rw [h1, h2] at he
   have hsp : (spl r).2 = true := by
    unfold stop at h2
    cases hq : (spl r).2
    ·rw [hq] at h2; simp at h2
    ·rfl
   have hsoft : ((spl r).1.2.2.2.1 && !soft) = false := by
    unfold stop at h2
    rw [hsp] at h2
    simpa using h2
   obtain ⟨b1, b2, b3, b4⟩ := ER hsp
   have i1 := ih (spl r).1.2.1 soft (hd hsp).1 (by unfold bO; omega)
   have l1 := pT 5 soft (spl r).1.2.1
   have l2 := pT 5 soft (spl r).1.2.2.1
   rw [show dR 5 soft (spl r).1.2.1 = cE soft (spl r).1.2.1 from rfl] at l1
   rw [show dR 5 soft (spl r).1.2.2.1 = cE soft (spl r).1.2.2.1 from rfl] at l2
   have hspl := A8 r
   have n3 := tJ r 44032 11172 (by decide) (by decide) (by decide)
   have hb : ¬ (44032 ≤ r ∧ r < 44032 + 11172) := by intro h'; simp [han] at h1; omega
   rw [decide_eq_false hb] at n3
   by_cases h0 : (spl r).1.2.2.1 = 0
   ·have hs1 : cE soft r = cE soft (spl r).1.2.1 := by rw [he]; simp [h0]
    rw [hs1]
    rw [← cT] at hspl i1 ⊢
    refine qC (z := true) (ts := [.tmp 6]) bZ Tryz.func166 rfl rfl (by decide +kernel) (by simp [Tryz.ntmps166]) rfl ?_
    cases h3 : (spl r).1.2.2.2.1 with
    | false => repeat' first | refine aM (hspl) ?_ ?_ | refine aM (n3) ?_ ?_ | refine aM (i1) ?_ ?_ | simp (maxSteps := 4000000) (disch := omega) only [aZ, aY, bun, ↓aW, ↓aV, aO, findLabel, ↓reduceIte, imp, shift, aR, aJ, unown, names, aQ, below, aD, aC, aT, aU, aS, ren, aN, aP, aX, renO, belowM, seval, -Int.reduceToNat, hsp, h3, h0, bT, b9, o4, bR] | exact bH _ | refine bG _ _ ?_ | exact bC.cl | refine bE _ ?_ | refine bF _ _ ?_ ?_ | refine bA _ ?_ | refine fkx ?_ tru <;> intro hg | refine fkx ?_ ?_ <;> intro hg | exact fkx tru tru | refine And.intro (by omega) ?_ | omega
    | true =>
     have : soft = true := by rw [h3] at hsoft; simpa using hsoft
     subst this
     repeat' first | refine aM (hspl) ?_ ?_ | refine aM (n3) ?_ ?_ | refine aM (i1) ?_ ?_ | simp (maxSteps := 4000000) (disch := omega) only [aZ, aY, bun, ↓aW, ↓aV, aO, findLabel, ↓reduceIte, imp, shift, aR, aJ, unown, names, aQ, below, aD, aC, aT, aU, aS, ren, aN, aP, aX, renO, belowM, seval, -Int.reduceToNat, hsp, h3, h0, bT, b9, o4, bR] | exact bH _ | refine bG _ _ ?_ | exact bC.cl | refine bE _ ?_ | refine bF _ _ ?_ ?_ | refine bA _ ?_ | refine fkx ?_ tru <;> intro hg | refine fkx ?_ ?_ <;> intro hg | exact fkx tru tru | refine And.intro (by omega) ?_ | omega
   ·have i2 := ih (spl r).1.2.2.1 soft ((hd hsp).2 h0) (by unfold bO; omega)
    have hs1 : cE soft r = cE soft (spl r).1.2.1 ++ cE soft (spl r).1.2.2.1 := by rw [he]; simp [h0]
    have hcc := zb6 (cE soft (spl r).1.2.1) (cE soft (spl r).1.2.2.1) (by omega) (by omega)
    rw [hs1]
    rw [← cT] at hspl i1 i2 ⊢
    refine qC (z := true) (ts := [.tmp 6]) bZ Tryz.func166 rfl rfl (by decide +kernel) (by simp [Tryz.ntmps166]) rfl ?_
    cases h3 : (spl r).1.2.2.2.1 with
    | false =>
     repeat' first | refine aM (hspl) ?_ ?_ | refine aM (n3) ?_ ?_ | refine aM (i1) ?_ ?_ | refine aM (i2) ?_ ?_ | refine aM (hcc) ?_ ?_ | simp (maxSteps := 4000000) (disch := omega) only [aZ, aY, bun, ↓aW, ↓aV, aO, findLabel, ↓reduceIte, imp, shift, aR, aJ, unown, names, aQ, below, aD, aC, aT, aU, aS, ren, aN, aP, aX, renO, belowM, seval, -Int.reduceToNat, hsp, h3, bT, b9, o4, bR] | exact bH _ | refine bG _ _ ?_ | exact bC.cl | refine bE _ ?_ | refine bF _ _ ?_ ?_ | refine bA _ ?_ | refine fkx ?_ tru <;> intro hg | refine fkx ?_ ?_ <;> intro hg | exact fkx tru tru | refine And.intro (by omega) ?_ | omega
    | true =>
     have : soft = true := by rw [h3] at hsoft; simpa using hsoft
     subst this
     repeat' first | refine aM (hspl) ?_ ?_ | refine aM (n3) ?_ ?_ | refine aM (i1) ?_ ?_ | refine aM (i2) ?_ ?_ | refine aM (hcc) ?_ ?_ | simp (maxSteps := 4000000) (disch := omega) only [aZ, aY, bun, ↓aW, ↓aV, aO, findLabel, ↓reduceIte, imp, shift, aR, aJ, unown, names, aQ, below, aD, aC, aT, aU, aS, ren, aN, aP, aX, renO, belowM, seval, -Int.reduceToNat, hsp, h3, bT, b9, o4, bR] | exact bH _ | refine bG _ _ ?_ | exact bC.cl | refine bE _ ?_ | refine bF _ _ ?_ ?_ | refine bA _ ?_ | refine fkx ?_ tru <;> intro hg | refine fkx ?_ ?_ <;> intro hg | exact fkx tru tru | refine And.intro (by omega) ?_ | omega
end Go.AE
-- types: B0 B3 B4 B21 B29 B53 B63 B134 B201
end
section
namespace Go.AE
open Go.Proofs
set_option maxRecDepth 20000
set_option maxHeartbeats 8000000
set_option linter.unusedSimpArgs false
theorem zh8 (r : Int) (soft : Bool) (hr : bO r) : aG Tryz.prog 166 [tab, aB r, Bv soft] (.sl (cE soft r).length ((cE soft r).map aB)) := zh9 4 r soft (xU r) hr
theorem zhc (l : List Int) (soft : Bool) (hl : l.length ≤ 20000) (hr : ∀ r ∈ l, bO r) : aG Tryz.prog 125 [tab, .sl l.length (l.map aB), Bv soft] (.own 21 1 (bM soft l).length ((bM soft l).map aB)) := by
 rw [← cT]
 refine sp [.tmp 6] Tryz.func125 Tryz.ntmps125 ?_
 refine kC ?_ tru tru <;> intros
 refine bL (fun i : Nat => ⟨[(2, Bv soft), (3, .ptr 0 0), (7, .ref 2 0 (bM soft (l.take i)).length), (10, .sl l.length (l.map aB)), (11, aA l.length), (12, aA i)], [.row true 1 bK, .dead, .arr 21 1 ((bM soft (l.take i)).map aB)]⟩) (fun i => i ≤ l.length) (fun i => l.length - i) 0 (by simp) (by (simp (disch := omega) [wk, aL, aI, aD, aC, get, aK, belowM, below, belows, aA, aB, Bv, U8, Sv, bM, bJ] <;> try omega)) ?_
 intro i hi
 have hln := tW soft (l.take i)
 have hlt0 : (l.take i).length = i := by simp; omega
 by_cases hlt : i < l.length
 ·have ht := z1t soft l i hlt
  have hg0 : bO (l.getD i 0) := hr _ (by simp [List.getD, hlt])
  have hno := zh8 (l.getD i 0) soft hg0
  rw [← cT] at hno
  have l1 := pT 5 soft (l.getD i 0)
  rw [show dR 5 soft (l.getD i 0) = cE soft (l.getD i 0) from rfl] at l1
  refine kC ?_ tru tru <;> intros
  refine ⟨i + 1, by omega, by omega, ?_⟩
  rw [ht]
  (simp (disch := omega) [wk, aL, aI, aD, aC, get, aK, belowM, below, belows, aA, aB, Bv, U8, Sv, List.map_append, bJ] <;> try omega)
 ·have e : i = l.length := by omega
  subst e
  rw [List.take_length] at *
  exact kC tru tru tru
end Go.AE
-- types: B0 B3 B4 B21 B29 B63
end
section
namespace Go.AE
open Go.Proofs
set_option maxRecDepth 20000
set_option maxHeartbeats 8000000
set_option linter.unusedSimpArgs false
theorem zI : ∀ (f : Nat) (soft : Bool) (r : Int), bO r → ∀ x ∈ dR f soft r, bO x
 | 0, _, r, h, x, hx => by simp [dR] at hx; subst hx; exact h
 | f + 1, soft, r, h, x, hx => by
  rw [pU] at hx
  split at hx
  ·rename_i hh
   have : 44032 ≤ r ∧ r ≤ 55203 := by simpa [han] using hh
   unfold syl at hx
   split at hx <;> simp at hx <;> unfold bO <;> omega
  ·split at hx
   ·simp at hx; subst hx; exact h
   ·rename_i hst
    have hs : (spl r).2 = true := by
     unfold stop at hst
     cases hq : (spl r).2
     ·rw [hq] at hst; simp at hst
     ·rfl
    obtain ⟨b1, b2, b3, b4⟩ := ER hs
    split at hx
    ·exact zI f soft _ (by unfold bO; omega) x hx
    ·rcases List.mem_append.1 hx with hx | hx
     ·exact zI f soft _ (by unfold bO; omega) x hx
     ·exact zI f soft _ (by unfold bO; omega) x hx
theorem z1r {soft : Bool} {l : List Int} (h : ∀ r ∈ l, bO r) : ∀ r ∈ bM soft l, bO r := fun r hr => by
 obtain ⟨a, ha, hra⟩ := List.mem_flatMap.1 hr
 exact zI 5 soft a (h a ha) r hra
theorem DI : ∀ (T R : List Int), bQ cls (cS R T) (R ++ T) ∧ (cS R T).length = R.length + T.length
 | [], R => by rw [cS, List.append_nil]; exact ⟨(jW cls R).2, nV cls R⟩
 | x :: T, R => by
  rw [cS]
  split
  ·have h1 := DI T (R ++ [x])
   refine ⟨by simpa using h1.1, by have := h1.2; simp at this ⊢; omega⟩
  ·have h1 := DI T []
   exact ⟨bQ.app (jW cls R).2 (bQ.app (bQ.refl cls [x]) (by simpa using h1.1)), by have := h1.2; have := nV cls R; simp at *; omega⟩
theorem rE (l : List Int) : bQ cls (cX l) l ∧ (cX l).length = l.length := by simpa [cX] using DI l []
theorem XE {l : List Int} (h : ∀ r ∈ l, bO r) : ∀ r ∈ cX l, bO r := fun r hr => h r ((rE l).1.mem.1 hr)
def iZ (soft join : Bool) (l : List Int) : List Int := if join then fT (cX (bM soft l)) else cX (bM soft l)
def eG (soft join : Bool) (s : List UInt8) : List UInt8 × Bool := if 0 ≤ (runes s).2 then ([], false) else (d5 (iZ soft join (runes s).1), bW (iZ soft join (runes s).1))
theorem oB {P Q R S : Prop} (a : Q) (b : R) (c : S) (h : Mk P → bD Q → bD R → bD S → P := by
 intro m q r s
 repeat' first | refine aM (by first | assumption | (apply_assumption <;> omega)) ?_ ?_ | refine cM.fit (by assumption) ?_ | simp (maxSteps := 4000000) (disch := omega) only [aZ, aY, bun, ↓aW, ↓aV, aO, findLabel, ↓reduceIte, imp, shift, aR, aJ, unown, names, aQ, below, aD, aC, aT, aU, aS, ren, aN, aP, aX, renO, belowM, seval, -Int.reduceToNat, bT, b9, o4, bR, *] | exact bH _ | refine bG _ _ ?_ | exact bC.cl | refine bE _ ?_ | refine bF _ _ ?_ ?_ | refine bA _ ?_ | refine fkx ?_ tru <;> intro hg | refine fkx ?_ ?_ <;> intro hg | exact fkx tru tru | refine And.intro (by omega) ?_ | omega
 first
 | done
 | all_goals (repeat revert hg)
   fail_if_success with_reducible refine m.use ?_
   exact q.out
   first
   | done
   | exact r.out
     first
     | done
     | exact s.out
       first | done | fail) : P := h ⟨tru⟩ ⟨a⟩ ⟨b⟩ ⟨c⟩
theorem zcu (s : List UInt8) (soft join : Bool) (hs : s.length ≤ 10000000) (hl : (runes s).1.length ≤ 10000) (hr : ∀ r ∈ (runes s).1, bO r) : aG Tryz.prog 68 [tab, Sv s, Bv soft, Bv join] (.tup [Sv (eG soft join s).1, Bv (eG soft join s).2]) := by
 have h1 := zhc (runes s).1 soft (by omega) hr
 have l1 := tW soft (runes s).1
 have o1 := z1r (soft := soft) hr
 have h2 := zhy (bM soft (runes s).1) (by omega) o1
 have l2 := (rE (bM soft (runes s).1)).2
 have o2 := XE o1
 have htk : List.take (bM soft (runes s).1).length ((cX (bM soft (runes s).1)).map aB) = (cX (bM soft (runes s).1)).map aB := List.take_of_length_le (by simp; omega)
 have h3 := zfc (cX (bM soft (runes s).1)) (by omega) o2
 have l3 : (fT (cX (bM soft (runes s).1))).length ≤ (bM soft (runes s).1).length := by rw [← l2]; exact vJ _
 rw [l2] at h3
 rw [← cT] at h1 h2 h3 ⊢
 simp only [Bv] at h1
 refine sp [.tmp 8, .tmp 9] Tryz.func68 Tryz.ntmps68 ?_
 by_cases h0 : 0 ≤ (runes s).2
 ·have e : eG soft join s = ([], false) := by unfold eG; rw [if_pos h0]
  rw [e]
  (have := rT s (by omega); exact oB tru tru tru)
 ·cases join with
  | false =>
   have us := AK (cX (bM soft (runes s).1)) (by omega)
   rw [l2] at us
   have e : eG soft false s = (d5 (cX (bM soft (runes s).1)), bW (cX (bM soft (runes s).1))) := by unfold eG; rw [if_neg h0]; rfl
   rw [e]
   (have := rT s (by omega); repeat' first | refine rW (.take 2 (.take 3 (.two 0 (.one 1 (.one 4 (.one 5 (.take 6 (.done))))) 1 (.two 0 (.one 4 (.one 5 (.take 6 (.done)))) 4 (.one 0 (.one 5 (.take 6 (.done)))))))) _ (by decide +kernel) ?_ | refine oB ?_ tru tru <;> intros | refine oB ?_ ?_ tru <;> intros | refine oB ?_ ?_ ?_ <;> intros | exact oB tru tru tru | fail)
   repeat' refine And.intro ?_ ?_
   all_goals (repeat' first | refine aM (h1) ?_ ?_ | refine aM (h2) ?_ ?_ | refine aM (us) ?_ ?_ | simp (maxSteps := 4000000) (disch := omega) only [aZ, aY, bun, ↓aW, ↓aV, aO, findLabel, ↓reduceIte, imp, shift, aR, aJ, unown, names, aQ, below, aD, aC, aT, aU, aS, ren, aN, aP, aX, renO, belowM, seval, -Int.reduceToNat, l2, htk, bT, b9, o4, bR] | exact bH _ | refine bG _ _ ?_ | exact bC.cl | refine bE _ ?_ | refine bF _ _ ?_ ?_ | refine bA _ ?_ | refine fkx ?_ tru <;> intro hg | refine fkx ?_ ?_ <;> intro hg | exact fkx tru tru | refine And.intro (by omega) ?_ | omega)
  | true =>
   have us := AK (fT (cX (bM soft (runes s).1))) (by omega)
   have e : eG soft true s = (d5 (fT (cX (bM soft (runes s).1))), bW (fT (cX (bM soft (runes s).1)))) := by unfold eG; rw [if_neg h0]; rfl
   rw [e]
   (have := rT s (by omega); repeat' first | refine rW (.take 2 (.take 3 (.two 0 (.one 1 (.one 4 (.one 5 (.take 6 (.done))))) 1 (.two 0 (.one 4 (.one 5 (.take 6 (.done)))) 4 (.one 0 (.one 5 (.take 6 (.done)))))))) _ (by decide +kernel) ?_ | refine oB ?_ tru tru <;> intros | refine oB ?_ ?_ tru <;> intros | refine oB ?_ ?_ ?_ <;> intros | exact oB tru tru tru | fail)
   repeat' refine And.intro ?_ ?_
   all_goals (repeat' first | refine aM (h1) ?_ ?_ | refine aM (h2) ?_ ?_ | refine aM (h3) ?_ ?_ | refine aM (us) ?_ ?_ | simp (maxSteps := 4000000) (disch := omega) only [aZ, aY, bun, ↓aW, ↓aV, aO, findLabel, ↓reduceIte, imp, shift, aR, aJ, unown, names, aQ, below, aD, aC, aT, aU, aS, ren, aN, aP, aX, renO, belowM, seval, -Int.reduceToNat, l2, htk, bT, b9, o4, bR] | exact bH _ | refine bG _ _ ?_ | exact bC.cl | refine bE _ ?_ | refine bF _ _ ?_ ?_ | refine bA _ ?_ | refine fkx ?_ tru <;> intro hg | refine fkx ?_ ?_ <;> intro hg | exact fkx tru tru | refine And.intro (by omega) ?_ | omega)
end Go.AE
-- types: B0 B3 B4 B9 B29 B56 B63 B64
end
section
namespace Go.AE
open Go.Proofs
set_option maxRecDepth 20000
set_option maxHeartbeats 8000000
set_option linter.unusedSimpArgs false
theorem zhw {s : List UInt8} {r : Int} {k : Nat} (h : one s = some (r, k)) : bO r := by
 obtain ⟨h1, _, _, h4⟩ := rC h
 by_cases hr : right r = true
 ·have := (lU r).1 hr; unfold bO; omega
 ·have : rlen r = 0 := by unfold rlen; rw [if_neg hr]
  omega
theorem z0o : ∀ (f : Nat) (a : Int) (s : List UInt8), ∀ r ∈ (cZ f a s).1, bO r
 | 0, a, s, r, hr => by simp [cZ] at hr
 | f + 1, a, s, r, hr => by
  rw [nT] at hr
  split at hr
  ·simp at hr
  ·cases ho : one s with
   | none => rw [ho] at hr; simp [kX] at hr
   | some p =>
    obtain ⟨q, k⟩ := p
    rw [ho] at hr
    simp only [kX, List.mem_cons] at hr
    rcases hr with rfl | hr
    ·exact zhw ho
    ·exact z0o f _ _ r hr
theorem A3 (s : List UInt8) : ∀ r ∈ (runes s).1, bO r := z0o _ _ _
theorem WB (s : List UInt8) (hs : s.length ≤ 10000000) (hl : (runes s).1.length ≤ 10000) : aG Tryz.prog 40 [tab, Sv s] (.tup [Sv (eG false true s).1, Bv (eG false true s).2]) := by
 have h := zcu s false true hs hl (A3 s)
 rw [← cT] at h ⊢
 refine sp [.tmp 4, .tmp 5] Tryz.func40 Tryz.ntmps40 ?_
 exact kC tru tru tru
theorem zh7 (s : List UInt8) (hs : s.length ≤ 10000000) (hl : (runes s).1.length ≤ 10000) : aG Tryz.prog 100 [tab, Sv s] (Bv ((eG false true s).2 && ((eG false true s).1 == s))) := by
 have h := WB s hs hl
 rw [← cT] at h ⊢
 refine sp [.tmp 4] Tryz.func100 Tryz.ntmps100 ?_
 cases hf : (eG false true s).2 with
 | false => exact kC tru tru tru
 | true => exact kC tru tru tru
theorem z05 (s : List UInt8) (soft join : Bool) (hs : s.length ≤ 10000000) (hl : (runes s).1.length ≤ 10000) : aG Tryz.prog 47 [Sv s, Bv soft, Bv join] (.tup [Sv (eG soft join s).1, Bv (eG soft join s).2]) := by
 have hr := A3 s
 have h1 := zjo (runes s).1 soft (by omega) hr
 have l1 := tW soft (runes s).1
 have o1 := z1r (soft := soft) hr
 have h2 := zjh (bM soft (runes s).1) (by omega) o1
 have l2 := (rE (bM soft (runes s).1)).2
 have o2 := XE o1
 have htk : List.take (bM soft (runes s).1).length ((cX (bM soft (runes s).1)).map aB) = (cX (bM soft (runes s).1)).map aB := List.take_of_length_le (by simp; omega)
 have h3 := zj8 (cX (bM soft (runes s).1)) (by omega) o2
 have l3 : (fT (cX (bM soft (runes s).1))).length ≤ (bM soft (runes s).1).length := by rw [← l2]; exact vJ _
 rw [l2] at h3
 refine sp [.tmp 6, .tmp 7] Tryz.func47 Tryz.ntmps47 ?_
 by_cases h0 : 0 ≤ (runes s).2
 ·have e : eG soft join s = ([], false) := by unfold eG; rw [if_pos h0]
  rw [e]
  (have := pX s (by omega); exact kC tru tru tru)
 ·cases join with
  | false =>
   have us := wH (cX (bM soft (runes s).1)) (by omega)
   rw [l2] at us
   have e : eG soft false s = (d5 (cX (bM soft (runes s).1)), bW (cX (bM soft (runes s).1))) := by unfold eG; rw [if_neg h0]; rfl
   rw [e]
   (have := pX s (by omega); exact kC tru tru tru)
  | true =>
   have us := wH (fT (cX (bM soft (runes s).1))) (by omega)
   have e : eG soft true s = (d5 (fT (cX (bM soft (runes s).1))), bW (fT (cX (bM soft (runes s).1)))) := by unfold eG; rw [if_neg h0]; rfl
   rw [e]
   (have := pX s (by omega); exact kC tru tru tru)
end Go.AE
-- types: B0 B3 B4 B9 B29 B56 B63 B64
end
section
namespace Go.AE
open Go.Proofs
set_option maxHeartbeats 8000000
set_option maxRecDepth 20000
theorem zk5 : ∀ (f g : Nat) (a : Int) (s : List UInt8), s.length < f → s.length < g → cZ f a s = cZ g a s := by
 intro f
 induction f with
 | zero => intro g a s h; omega
 | succ f ih =>
  intro g a s hf hg
  obtain ⟨g, rfl⟩ : ∃ k, g = k + 1 := ⟨g - 1, by omega⟩
  rw [nT, nT]
  split
  ·rfl
  ·cases ho : one s with
   | none => rfl
   | some p =>
    obtain ⟨r, k⟩ := p
    obtain ⟨h1, h2, h3, h4⟩ := rC ho
    simp only [kX]
    rw [ih g (a + k) (s.drop k) (by simp; omega) (by simp; omega)]
theorem zk3 {r : Int} (h : right r = true) (f : Nat) (a : Int) (t : List UInt8) : cZ (f + 1) a (enc r ++ t) = (r :: (cZ f (a + (enc r).length) t).1, (cZ f (a + (enc r).length) t).2) := by
 have hp : 0 < (enc r).length := by
  have h1 := y6 r
  have h2 := pZ r
  have h3 := iL r
  rw [h] at h3
  simp at h3
  omega
 have := EI (f := f) (a := a) (s := enc r ++ t) (by simp; omega) (XB h t)
 rw [List.drop_left] at this
 exact this
theorem zk1 (g : Nat) (t : List UInt8) : ∀ (l : List Int) (a : Int), bW l = true → cZ (l.length + g) a (l.flatMap enc ++ t) = (l ++ (cZ g (a + (l.flatMap enc).length) t).1, (cZ g (a + (l.flatMap enc).length) t).2) := by
 intro l
 induction l with
 | nil => intro a _; simp
 | cons r l ih =>
  intro a h
  simp only [bW, List.all_cons, Bool.and_eq_true] at h
  rw [List.length_cons, show l.length + 1 + g = (l.length + g) + 1 by omega, List.flatMap_cons, List.append_assoc, zk3 h.1, ih _ h.2]
  simp only [List.length_append, Int.natCast_add, Int.add_assoc, List.cons_append]
theorem zce (l : List Int) (h : bW l = true) : l.length ≤ (l.flatMap enc).length := by
 induction l with
 | nil => simp
 | cons r l ih =>
  simp only [bW, List.all_cons, Bool.and_eq_true] at h
  have h1 := y6 r
  have h2 := pZ r
  have h3 := iL r
  rw [h.1] at h3
  simp at h3
  have := ih h.2
  simp only [List.flatMap_cons, List.length_append, List.length_cons]
  omega
theorem EH : ∀ (f : Nat) (a k : Int) (s : List UInt8), 0 ≤ a → (cZ f (a + k) s).1 = (cZ f a s).1 ∧ ((cZ f a s).2 = -1 ∧ (cZ f (a + k) s).2 = -1 ∨ 0 ≤ (cZ f a s).2 ∧ (cZ f (a + k) s).2 = (cZ f a s).2 + k) := by
 intro f
 induction f with
 | zero => intro a k s h; simp [cZ]
 | succ f ih =>
  intro a k s h
  rw [nT, nT]
  split
  ·simp
  ·cases ho : one s with
   | none => simp [kX]; omega
   | some p =>
    obtain ⟨r, n⟩ := p
    have := ih (a + n) k (s.drop n) (by omega)
    simp only [kX]
    rw [show a + k + n = a + n + k by omega]
    exact ⟨by rw [this.1], this.2⟩
theorem zk6 (l : List Int) (t : List UInt8) (h : bW l = true) : (runes (l.flatMap enc ++ t)).1 = l ++ (runes t).1 ∧
  ((runes t).2 = -1 ∧ (runes (l.flatMap enc ++ t)).2 = -1 ∨ 0 ≤ (runes t).2 ∧ (runes (l.flatMap enc ++ t)).2 = (runes t).2 + (l.flatMap enc).length) := by
 have hl := zce l h
 have e : runes (l.flatMap enc ++ t) = cZ (l.length + ((l.flatMap enc).length - l.length + t.length + 1)) 0 (l.flatMap enc ++ t) := by
  unfold runes
  rw [List.length_append, show l.length + ((l.flatMap enc).length - l.length + t.length + 1) = (l.flatMap enc).length + t.length + 1 by omega]
 rw [e, zk1 _ t l 0 h, zk5 _ (t.length + 1) _ t (by omega) (by omega)]
 have h2 := EH (t.length + 1) 0 (l.flatMap enc).length t (by omega)
 refine ⟨?_, ?_⟩
 ·simp only [h2.1]; rfl
 ·exact h2.2
theorem rQ {l : List Int} (h : bW l = true) : runes (d5 l) = (l, -1) := by
 have := zk6 l [] h
 have e : runes [] = ([], -1) := rfl
 rw [e, List.append_nil, List.append_nil] at this
 simp only [d5, h, if_true]
 obtain ⟨h1, h2⟩ := this
 refine Prod.ext h1 ?_
 rcases h2 with h2 | h2
 ·exact h2.2
 ·simp at h2
theorem zL : ∀ (T R R' : List Int), bQ cls R R' → cS R T = cS R' T
 | [], R, R', h => by rw [cS, cS]; exact EU h
 | x :: T, R, R', h => by
  rw [cS, cS]
  split
  ·exact zL T _ _ (h.app (bQ.refl cls [x]))
  ·rw [EU h]
theorem DG {r : Int} (h : 0 < cls r) (soft : Bool) : cE soft r = [r] := by
 have hs : (spl r).2 = false := by
  cases hq : (spl r).2 with
  | false => rfl
  | true => have := (z1p hq).2.1; omega
 have hh : han r = false := by
  cases hq : han r with
  | false => rfl
  | true =>
   have := CM (r := r) (by simpa [han] using hq)
   omega
 rw [iB, hh, if_neg (by simp), if_pos (by simp [stop, hs])]
theorem zkj {r : Int} (h : (spl r).2 = true) : han r = false := by
 have := l5 (q := fun r _ => !han r) (by decide +kernel) (by decide +kernel) h
 simpa using this
theorem TC {r : Int} (h1 : 4352 ≤ r) (h2 : r ≤ 4600) : han r = false ∧ (spl r).2 = false := by
 refine ⟨by simp [han]; omega, ?_⟩
 cases hq : (spl r).2 with
 | false => rfl
 | true =>
  have := l5 (q := fun r _ => decide (r < 4352 ∨ 4600 < r)) (by decide +kernel) (by decide +kernel) hq
  simp at this
  omega
theorem rB {r : Int} (h1 : han r = false) (h2 : (spl r).2 = false) (soft : Bool) : cE soft r = [r] := by
 rw [iB, h1, if_neg (by simp), if_pos (by simp [stop, h2])]
theorem zF {r : Int} (h1 : 4352 ≤ r) (h2 : r ≤ 4600) (soft : Bool) : cE soft r = [r] := rB (TC h1 h2).1 (TC h1 h2).2 soft
theorem tV (soft : Bool) (A B : List Int) : bM soft (A ++ B) = bM soft A ++ bM soft B := List.flatMap_append
theorem l7 (soft : Bool) (x : Int) (B : List Int) : bM soft (x :: B) = cE soft x ++ bM soft B := rfl
theorem z1q {r : Int} (h : han r = true) (soft : Bool) : bM soft (syl r) = syl r := by
 have : 44032 ≤ r ∧ r ≤ 55203 := by simpa [han] using h
 have key : ∀ l : List Int, (∀ x ∈ l, 4352 ≤ x ∧ x ≤ 4600) → bM soft l = l := fun l => by
  induction l with
  | nil => intro _; rfl
  | cons x l ih =>
   intro h
   rw [l7, ih fun y hy => h y (List.mem_cons_of_mem _ hy), zF (h x (by simp)).1 (h x (by simp)).2]; rfl
 refine key _ fun x hx => ?_
 unfold syl at hx
 split at hx
 ·simp at hx; omega
 ·simp at hx; omega
theorem EV {soft : Bool} {r : Int} (h : stop soft r = false) : (spl r).2 = true ∧ ((spl r).1.2.2.2.1 = true → soft = true) := by
 unfold stop at h
 cases hq : (spl r).2 <;> rw [hq] at h
 ·simp at h
 ·refine ⟨rfl, fun h1 => ?_⟩
  rw [h1] at h
  simpa using h
theorem zG : ∀ (n : Nat) (r : Int), lA n r → ∀ s t : Bool, bM t (cE s r) = cE (s || t) r
 | 0, r, h, s, t => by
  by_cases hh : han r = true
  ·rw [iB s, iB (s || t), hh, if_pos rfl, if_pos rfl, z1q hh]
  ·have hh : han r = false := by simpa using hh
   rw [rB hh h, rB hh h, l7, rB hh h]; rfl
 | n + 1, r, h, s, t => by
  by_cases hh : han r = true
  ·rw [iB s, iB (s || t), hh, if_pos rfl, if_pos rfl, z1q hh]
  ·have hh : han r = false := by simpa using hh
   cases hst : stop s r with
   | true =>
    have e : cE s r = [r] := by rw [iB, hh, if_neg (by simp), if_pos hst]
    rw [e, l7, show bM t [] = [] from rfl, List.append_nil]
    cases s with
    | false => rfl
    | true =>
     have h2 : (spl r).2 = false := by
      unfold stop at hst
      cases hq : (spl r).2
      ·rfl
      ·rw [hq] at hst; simp at hst
     rw [rB hh h2, rB hh h2]
   | false =>
    obtain ⟨h1, h2⟩ := EV hst
    have hst2 : stop (s || t) r = false := by
     unfold stop
     rw [h1]
     cases hq : (spl r).1.2.2.2.1
     ·rfl
     ·rw [h2 hq]; rfl
    have hd := h h1
    rw [iB s, iB (s || t)]
    simp only [hh, hst, hst2, Bool.false_eq_true, if_false]
    by_cases h0 : (spl r).1.2.2.1 = 0
    ·rw [if_pos h0, if_pos h0, zG n _ hd.1]
    ·rw [if_neg h0, if_neg h0, tV, zG n _ hd.1, zG n _ (hd.2 h0)]
theorem z1s (s t : Bool) : ∀ l : List Int, bM t (bM s l) = bM (s || t) l
 | [] => rfl
 | x :: l => by rw [l7, l7, tV, z1s s t l, zG 4 x (xU x)]
theorem vW : ∀ (M R T : List Int), (∀ m ∈ M, 0 < cls m) → cS R (M ++ T) = cS (R ++ M) T
 | [], R, T, _ => by simp
 | m :: M, R, T, h => by
  rw [List.cons_append, cS, if_pos (h m (by simp)), vW M (R ++ [m]) T fun x hx => h x (List.mem_cons_of_mem _ hx)]
  simp
theorem A9 (soft : Bool) : ∀ M : List Int, (∀ m ∈ M, 0 < cls m) → bM soft M = M
 | [], _ => rfl
 | m :: M, h => by rw [l7, A9 soft M fun x hx => h x (List.mem_cons_of_mem _ hx), DG (h m (by simp))]; rfl
theorem vX {A B : List Int} (h : ∀ R, cS R A = cS R B) : ∀ (P R : List Int), cS R (P ++ A) = cS R (P ++ B)
 | [], R => h R
 | p :: P, R => by
  rw [List.cons_append, List.cons_append, cS, cS]
  split
  ·exact vX h P _
  ·rw [vX h P []]
theorem DJ (soft : Bool) : ∀ (T R Q : List Int), (∀ r ∈ R, 0 < cls r) → cS Q (bM soft (cS R T)) = cS (Q ++ R) (bM soft T)
 | [], R, Q, h => by
  have hk := (jW cls R).2
  have hm : ∀ m ∈ ssort cls R, 0 < cls m := fun m hm => h m (hk.mem.1 hm)
  rw [cS, A9 soft _ hm]
  have e := vW (ssort cls R) Q [] hm
  rw [List.append_nil] at e
  rw [e]
  exact zL [] _ _ (bQ.app (bQ.refl cls Q) hk)
 | x :: T, R, Q, h => by
  rw [cS]
  split
  ·rename_i hx
   rw [DJ soft T (R ++ [x]) Q (fun r hr => by
    rcases List.mem_append.1 hr with hr | hr
    ·exact h r hr
    ·simp at hr; subst hr; exact hx), l7, DG hx, List.cons_append, List.nil_append, cS, if_pos hx, List.append_assoc]
  ·have hk := (jW cls R).2
   have hm : ∀ m ∈ ssort cls R, 0 < cls m := fun m hm => h m (hk.mem.1 hm)
   rw [tV, A9 soft _ hm, vW _ _ _ hm, l7, l7]
   rw [zL _ _ _ (bQ.app (bQ.refl cls Q) hk)]
   exact vX (fun P => by
    have := DJ soft T [] P (by simp)
    rwa [List.append_nil] at this) (cE soft x) (Q ++ R)
theorem y8 (s t : Bool) (l : List Int) : cX (bM t (cX (bM s l))) = cX (bM (s || t) l) := by
 have := DJ t (bM s l) [] [] (by simp)
 rw [List.append_nil, z1s] at this
 exact this
theorem zgu {a b : Int} (h : (bP a b).2 = true) : cE false (bP a b).1 = cE false a ++ cE false b := by
 unfold bP at h ⊢
 split
 ·rename_i h1
  have hh : han (44032 + (a - 4352) * 588 + (b - 4449) * 28) = true := by simp [han]; omega
  dsimp only
  rw [iB false (44032 + (a - 4352) * 588 + (b - 4449) * 28), if_pos hh, zF (by omega) (by omega), zF (by omega) (by omega)]
  unfold syl
  rw [if_pos (by omega)]
  simp only [List.append_nil, List.cons_append, List.nil_append]
  congr 1
  ·omega
  ·congr 1; omega
 ·rename_i h1
  rw [if_neg h1] at h
  split
  ·rename_i h2
   have ha : 44032 ≤ a ∧ a ≤ 55203 := by simpa [han] using h2.1
   have hh : han (a + b - 4519) = true := by simp [han]; omega
   dsimp only
   rw [iB false (a + b - 4519), if_pos hh, iB false a, if_pos h2.1, zF (by omega) (by omega)]
   unfold syl
   rw [if_neg (by omega), if_pos h2.2.1]
   simp only [List.append_nil, List.cons_append, List.nil_append]
   congr 1
   ·omega
   ·congr 1
    ·omega
    ·congr 1; omega
  ·rename_i h2
   rw [if_neg h2] at h
   obtain ⟨q1, q2, q3, q4⟩ := vY h
   have qf := zi7 q1 q4
   have hst : stop false (pr a b).1 = false := by unfold stop; rw [q1, qf.2.2]; rfl
   rw [iB false (pr a b).1, zkj q1, if_neg (by simp), if_neg (by rw [hst]; simp), if_neg qf.2.1, q2, q3]
theorem zfd (s : JS) (hs : JI s) (x : Int) (R T : List Int) : cS R (bM false (cQ s x).out ++ T) = cS R (bM false s.out ++ cE false x ++ T) := by
 have put : cS R (bM false (s.put x).out ++ T) = cS R (bM false s.out ++ cE false x ++ T) := by
  rw [oN, tV, l7, show bM false [] = [] from rfl, List.append_nil]
 unfold cQ
 split
 ·exact put
 ·rename_i b hb
  split
  ·rename_i hall
   split
   ·rename_i h2
    have hm : bM false s.ms = s.ms := A9 false _ hs.ms
    simp only [JS.out, hb, Option.toList, tV, l7, show bM false [] = [] from rfl, List.append_nil, zgu h2, hm, List.append_assoc]
    rw [List.all_eq_true] at hall
    by_cases hx : 0 < cls x
    ·rw [DG hx]
     refine vX (fun R1 => vX (fun R2 => ?_) _ _) _ _
     have e1 : [x] ++ (s.ms ++ T) = ([x] ++ s.ms) ++ T := by simp
     have e2 : s.ms ++ ([x] ++ T) = (s.ms ++ [x]) ++ T := by simp
     have hmx : ∀ m ∈ [x] ++ s.ms, 0 < cls m := fun m hm => by
      rcases List.mem_append.1 hm with hm | hm
      ·simp at hm; subst hm; exact hx
      ·exact hs.ms m hm
     have hmx2 : ∀ m ∈ s.ms ++ [x], 0 < cls m := fun m hm => hmx m (by
      rcases List.mem_append.1 hm with hm | hm
      ·exact List.mem_append.2 (Or.inr hm)
      ·exact List.mem_append.2 (Or.inl hm))
     rw [e1, e2, vW _ _ _ hmx, vW _ _ _ hmx2]
     refine zL T _ _ (bQ.app (bQ.refl cls R2) (bQ.turn fun a ha c hc => ?_))
     simp at ha
     subst ha
     have := hall c hc
     simp at this
     omega
    ·have hms : s.ms = [] := by
      cases hq : s.ms with
      | nil => rfl
      | cons m M =>
       have h1 := hall m (by rw [hq]; simp)
       have h2 := hs.ms m (by rw [hq]; simp)
       simp at h1
       omega
     rw [hms]; rfl
   ·exact put
  ·exact put
theorem TJ : ∀ (l : List Int) (s : JS), JI s → ∀ R T, cS R (bM false (l.foldl cQ s).out ++ T) = cS R (bM false s.out ++ bM false l ++ T)
 | [], s, _, R, T => by rw [show bM false [] = [] from rfl, List.append_nil]; rfl
 | x :: l, s, h, R, T => by
  rw [List.foldl_cons, TJ l (cQ s x) (h.step x) R T, l7, List.append_assoc, zfd s h x]
  simp only [List.append_assoc]
theorem zcs (l : List Int) : cX (bM false (fT l)) = cX (bM false l) := by
 have := TJ l ⟨[], none, []⟩ ⟨by simp, by simp, fun _ => rfl⟩ [] []
 rw [List.append_nil, List.append_nil, show bM false (JS.out ⟨[], none, []⟩) = [] from rfl, List.nil_append] at this
 exact this
theorem zct (t : Bool) (l : List Int) : cX (bM t (fT l)) = cX (bM t l) := by
 have h1 := y8 false t (fT l)
 have h2 := y8 false t l
 rw [zcs, h2] at h1
 simpa using h1.symm
theorem zcp (s t i j : Bool) (l : List Int) : iZ t j (iZ s i l) = iZ (s || t) j l := by
 have e : cX (bM t (iZ s i l)) = cX (bM (s || t) l) := by
  unfold iZ
  split
  ·rw [zct, y8]
  ·rw [y8]
 unfold iZ at e ⊢
 rw [e]
theorem wL {r : Int} (h : 0 ≤ r ∧ r ≤ 1114111 ∧ (r < 55296 ∨ 57343 < r)) : right r = true := (lU r).2 (by omega)
theorem zJ : ∀ (f : Nat) (soft : Bool) (r : Int), right r = true → ∀ x ∈ dR f soft r, right x = true
 | 0, _, r, h, x, hx => by simp [dR] at hx; subst hx; exact h
 | f + 1, soft, r, h, x, hx => by
  rw [pU] at hx
  split at hx
  ·rename_i hh
   have : 44032 ≤ r ∧ r ≤ 55203 := by simpa [han] using hh
   unfold syl at hx
   split at hx <;> simp at hx <;> exact wL (by omega)
  ·split at hx
   ·simp at hx; subst hx; exact h
   ·rename_i hst
    have hs := (EV (by simpa using hst)).1
    have hq := l5 (q := fun _ x => right x.2.1 && right x.2.2.1) (by decide +kernel) (by decide +kernel) hs
    simp only [Bool.and_eq_true] at hq
    split at hx
    ·exact zJ f soft _ hq.1 x hx
    ·rcases List.mem_append.1 hx with hx | hx
     ·exact zJ f soft _ hq.1 x hx
     ·exact zJ f soft _ hq.2 x hx
theorem zgt {a b : Int} (h : (bP a b).2 = true) : right (bP a b).1 = true := by
 unfold bP at h ⊢
 split
 ·exact wL (by dsimp only; omega)
 ·rename_i h1
  rw [if_neg h1] at h
  split
  ·rename_i h2
   have ha : 44032 ≤ a ∧ a ≤ 55203 := by simpa [han] using h2.1
   exact wL (by dsimp only; omega)
  ·rename_i h2
   rw [if_neg h2] at h
   exact l5 (q := fun r _ => right r) (by decide +kernel) (by decide +kernel) (vY h).1
theorem l8 {l : List Int} : bW l = true ↔ ∀ r ∈ l, right r = true := by unfold bW; rw [List.all_eq_true]
theorem DV {s : JS} {x : Int} (h : ∀ r ∈ s.out, right r = true) (hx : right x = true) : ∀ r ∈ (s.put x).out, right r = true := fun r hr => by
 rw [oN] at hr
 rcases List.mem_append.1 hr with hr | hr
 ·exact h r hr
 ·simp at hr; subst hr; exact hx
theorem zf5 {s : JS} {x : Int} (h : ∀ r ∈ s.out, right r = true) (hx : right x = true) : ∀ r ∈ (cQ s x).out, right r = true := by
 unfold cQ
 split
 ·exact DV h hx
 ·rename_i b hb
  split
  ·split
   ·rename_i h2
    intro r hr
    simp only [JS.out, hb, Option.toList, List.mem_append, List.mem_singleton, or_assoc] at hr h
    rcases hr with hr | hr | hr
    ·exact h r (Or.inl hr)
    ·subst hr; exact zgt h2
    ·exact h r (Or.inr (Or.inr hr))
   ·exact DV h hx
  ·exact DV h hx
theorem zfb {l : List Int} (h : bW l = true) : bW (fT l) = true := by
 rw [l8] at h ⊢
 have key : ∀ (l : List Int) (s : JS), (∀ r ∈ s.out, right r = true) → (∀ r ∈ l, right r = true) → ∀ r ∈ (l.foldl cQ s).out, right r = true := fun l => by
  induction l with
  | nil => intro s h _; exact h
  | cons x l ih => intro s h hl; exact ih _ (zf5 h (hl x (by simp))) fun r hr => hl r (List.mem_cons_of_mem _ hr)
 exact key l ⟨[], none, []⟩ (by simp [JS.out]) h
theorem RU {l : List Int} (h : bW l = true) (soft join : Bool) : bW (iZ soft join l) = true := by
 have h1 : bW (cX (bM soft l)) = true := by
  rw [l8] at h ⊢
  intro r hr
  obtain ⟨a, ha, hra⟩ := List.mem_flatMap.1 ((rE _).1.mem.1 hr)
  exact zJ 5 soft a (h a ha) r hra
 unfold iZ
 split
 ·exact zfb h1
 ·exact h1
theorem zhx {s : List UInt8} {r : Int} {k : Nat} (h : one s = some (r, k)) : right r = true := by
 obtain ⟨h1, _, _, h4⟩ := rC h
 by_cases hr : right r = true
 ·exact hr
 ·have : rlen r = 0 := by unfold rlen; rw [if_neg hr]
  omega
theorem z0p : ∀ (f : Nat) (a : Int) (s : List UInt8), ∀ r ∈ (cZ f a s).1, right r = true
 | 0, a, s, r, hr => by simp [cZ] at hr
 | f + 1, a, s, r, hr => by
  rw [nT] at hr
  split at hr
  ·simp at hr
  ·cases ho : one s with
   | none => rw [ho] at hr; simp [kX] at hr
   | some p =>
    obtain ⟨q, k⟩ := p
    rw [ho] at hr
    simp only [kX, List.mem_cons] at hr
    rcases hr with rfl | hr
    ·exact zhx ho
    ·exact z0p f _ _ r hr
theorem oR (s : List UInt8) : bW (runes s).1 = true := l8.2 (z0p _ _ _)
theorem RV {s : List UInt8} (h : ¬ 0 ≤ (runes s).2) (soft join : Bool) : eG soft join s = (d5 (iZ soft join (runes s).1), true) := by
 unfold eG
 rw [if_neg h, RU (oR s)]
theorem QB (r : Int) : (enc r).length ≤ 4 := by
 unfold enc
 repeat' split
 all_goals simp
theorem nY (l : List Int) : (d5 l).length ≤ 4 * l.length := by
 unfold d5
 split
 ·rename_i h
  clear h
  induction l with
  | nil => simp
  | cons r l ih =>
   have := QB r
   simp only [List.flatMap_cons, List.length_append, List.length_cons]
   omega
 ·simp
theorem zcq (soft join : Bool) (l : List Int) : (iZ soft join l).length ≤ 4 * l.length := by
 have l1 := tW soft l
 have l2 := (rE (bM soft l)).2
 have l3 := vJ (cX (bM soft l))
 unfold iZ
 split
 ·show (gX (cX (bM soft l))).out.length ≤ _
  omega
 ·omega
def qO (a : Int) (n : Nat) : Nat := if a < 0 then n else a.toNat
theorem xR (n : Nat) : qO (-1) n = n := rfl
theorem P9 {a : Int} (h : 0 ≤ a) (n : Nat) : qO a n = a.toNat := if_neg (by omega)
theorem zk2 : ∀ (f : Nat) (s : List UInt8), s.length < f → bW (cZ f 0 s).1 = true ∧ (cZ f 0 s).1.flatMap enc = s.take (qO (cZ f 0 s).2 s.length) ∧ (cZ f 0 s).2 ≤ s.length := by
 intro f
 induction f with
 | zero => intro s h; omega
 | succ f ih =>
  intro s hf
  rw [nT]
  split
  ·cases s <;> simp_all [bW, qO]
  ·cases ho : one s with
   | none => simp [kX, bW, qO]
   | some p =>
    obtain ⟨r, n⟩ := p
    obtain ⟨h1, h2, h3, h4⟩ := rC ho
    have h5 := ih (s.drop n) (by simp; omega)
    have h6 := EH f 0 n (s.drop n) (by omega)
    have hr : right r = true := by
     cases h : right r with
     | true => rfl
     | false => have := (iL _).2 h; omega
    simp only [kX]
    rw [h6.1]
    simp only [List.length_drop] at h5
    refine ⟨by simp only [bW, List.all_cons, hr]; exact h5.1, ?_, ?_⟩
    ·rw [List.flatMap_cons, h5.2.1, h2]
     rcases h6.2 with ⟨h7, h8⟩ | ⟨h7, h8⟩
     ·rw [h7, h8]
      have e1 : (s.drop n).take (s.length - n) = s.drop n := List.take_of_length_le (by simp)
      rw [xR, xR, e1, List.take_append_drop, List.take_length]
     ·rw [h8, P9 (by omega), P9 (by omega)]
      rw [show ((cZ f 0 (s.drop n)).2 + (n : Int)).toNat = n + (cZ f 0 (s.drop n)).2.toNat by omega, List.take_add]
    ·rcases h6.2 with ⟨h7, h8⟩ | ⟨h7, h8⟩ <;> rw [h8] <;> omega
theorem z0s (s : List UInt8) : bW (runes s).1 = true ∧ d5 (runes s).1 = s.take (qO (runes s).2 s.length) ∧ (runes s).2 ≤ s.length := by
 have h : bW (runes s).1 = true ∧ (runes s).1.flatMap enc = s.take (qO (runes s).2 s.length) ∧ (runes s).2 ≤ s.length := zk2 (s.length + 1) s (by omega)
 refine ⟨h.1, ?_, h.2.2⟩
 unfold d5
 rw [if_pos h.1]
 exact h.2.1
theorem z0r (s : List UInt8) : (runes s).2 = -1 ∨ 0 ≤ (runes s).2 := by
 have := (EH (s.length + 1) 0 0 s (by omega)).2
 unfold runes
 omega
def nar (r : Int) : Int := if wide r then r - 65248 else r
def lw (r : Int) : Int := low (nar r)
theorem zgg {r : Int} (h : r ∉ r9) : low r = r := Classical.byContradiction fun h1 => h (vR h1)
theorem zgb {r : Int} (h1 : 1104 ≤ r) (h2 : r ≤ 7843 ∨ 8492 ≤ r ∧ r ≤ 65280) : low r = r := zgg fun hm => by
 have := List.all_eq_true.1 (show (r9.all fun r => decide (r < 1104 ∨ 7843 < r ∧ r < 8492 ∨ 65280 < r)) = true by decide +kernel) r hm
 simp at this
 omega
theorem yY {r : Int} (h1 : 1104 ≤ r) (h2 : r ≤ 7843 ∨ 8492 ≤ r ∧ r ≤ 65280) : lw r = r := by
 have hw : wide r = false := by simp [wide]; omega
 unfold lw nar
 rw [hw]
 exact zgb h1 h2
theorem zgl (r : Int) : lw (lw r) = lw r := by
 have key : wide (low (nar r)) = false := by
  cases hw : wide r with
  | true =>
   have hb := (zli hw)
   have e : nar r = r - 65248 := by unfold nar; rw [hw]; rfl
   rw [e]
   by_cases hl : low (r - 65248) = r - 65248
   ·rw [hl]; simp [wide]; omega
   ·have := List.all_eq_true.1 (show (r9.all fun r => decide (126 < r) || !wide (low r)) = true by decide +kernel) _ (vR hl)
    simp at this
    rcases this with h | h
    ·omega
    ·exact h
  | false =>
   have e : nar r = r := by unfold nar; rw [hw]; rfl
   rw [e]
   by_cases hl : low r = r
   ·rw [hl]; exact hw
   ·have := List.all_eq_true.1 (show (r9.all fun r => wide r || !wide (low r)) = true by decide +kernel) _ (vR hl)
    rw [hw] at this
    simpa using this
 show low (nar (low (nar r))) = low (nar r)
 rw [show nar (low (nar r)) = low (nar r) by rw [nar, key]; rfl, zge]
theorem zgm {r : Int} (h : right r = true) : right (lw r) = true := by
 have hn : right (nar r) = true := by
  unfold nar
  split
  ·rename_i hw
   have : 65281 ≤ r ∧ r ≤ 65374 := by simpa [wide] using hw
   exact wL (by omega)
  ·exact h
 unfold lw
 by_cases hl : low (nar r) = nar r
 ·rw [hl]; exact hn
 ·exact List.all_eq_true.1 (show (r9.all fun r => right (low r)) = true by decide +kernel) _ (vR hl)
theorem yZ {l : List Int} (h : bW l = true) : bW (l.map lw) = true := by
 rw [l8] at h ⊢
 intro r hr
 obtain ⟨a, ha, rfl⟩ := List.mem_map.1 hr
 exact zgm (h a ha)
def dL (l : List Int) : List Int := iZ false true (l.map lw)
theorem uZ (l : List Int) : dL l = fT (cX (bM false (l.map lw))) := rfl
theorem zcy {r : Int} (h : lw r = r) : ∀ x ∈ cE false r, lw x = x := by
 by_cases hh : han r = true
 ·intro x hx
  rw [iB, if_pos hh] at hx
  have : 44032 ≤ r ∧ r ≤ 55203 := by simpa [han] using hh
  unfold syl at hx
  split at hx
  ·simp at hx; exact yY (by omega) (by omega)
  ·simp at hx; exact yY (by omega) (by omega)
 ·have hh : han r = false := by simpa using hh
  cases hs : (spl r).2 with
  | false => rw [rB hh hs]; intro x hx; simp at hx; subst hx; exact h
  | true =>
   have := l5 (q := fun r _ => !decide (lw r = r) || (dR 5 false r).all fun x => decide (lw x = x)) (by decide +kernel) (by decide +kernel) hs
   simp only [h, decide_true, Bool.not_true, Bool.false_or, List.all_eq_true, decide_eq_true_eq] at this
   exact this
theorem zcx {a b : Int} (h : (bP a b).2 = true) (ha : lw a = a) (hb : lw b = b) : lw (bP a b).1 = (bP a b).1 := by
 unfold bP at h ⊢
 split
 ·exact yY (by dsimp only; omega) (by dsimp only; omega)
 ·rename_i h1
  rw [if_neg h1] at h
  split
  ·rename_i h2
   have ha : 44032 ≤ a ∧ a ≤ 55203 := by simpa [han] using h2.1
   exact yY (by dsimp only; omega) (by dsimp only; omega)
  ·rename_i h2
   rw [if_neg h2] at h
   obtain ⟨q1, q2, q3, q4⟩ := vY h
   have := l5 (q := fun r s => s.2.2.2.2 || !(decide (lw s.2.1 = s.2.1) && decide (lw s.2.2.1 = s.2.2.1)) || decide (lw r = r)) (by decide +kernel) (by decide +kernel) q1
   simp only [q2, q3, q4, ha, hb, decide_true, Bool.and_self, Bool.not_true, Bool.or_self, Bool.false_or, decide_eq_true_eq] at this
   exact this
theorem DU {p : Int → Prop} {s : JS} {x : Int} (h : ∀ r ∈ s.out, p r) (hx : p x) : ∀ r ∈ (s.put x).out, p r := fun r hr => by
 rw [oN] at hr
 rcases List.mem_append.1 hr with hr | hr
 ·exact h r hr
 ·simp at hr; subst hr; exact hx
theorem zf3 {p : Int → Prop} (hp : ∀ a b, p a → p b → (bP a b).2 = true → p (bP a b).1) {s : JS} {x : Int} (h : ∀ r ∈ s.out, p r) (hx : p x) : ∀ r ∈ (cQ s x).out, p r := by
 unfold cQ
 split
 ·exact DU h hx
 ·rename_i b hb
  split
  ·split
   ·rename_i h2
    intro r hr
    simp only [JS.out, hb, Option.toList, List.mem_append, List.mem_singleton, or_assoc] at hr h
    rcases hr with hr | hr | hr
    ·exact h r (Or.inl hr)
    ·subst hr; exact hp b x (h b (Or.inr (Or.inl rfl))) hx h2
    ·exact h r (Or.inr (Or.inr hr))
   ·exact DU h hx
  ·exact DU h hx
theorem TF {p : Int → Prop} (hp : ∀ a b, p a → p b → (bP a b).2 = true → p (bP a b).1) {l : List Int} (h : ∀ r ∈ l, p r) : ∀ r ∈ fT l, p r := by
 have key : ∀ (l : List Int) (s : JS), (∀ r ∈ s.out, p r) → (∀ r ∈ l, p r) → ∀ r ∈ (l.foldl cQ s).out, p r := fun l => by
  induction l with
  | nil => intro s h _; exact h
  | cons x l ih => intro s h hl; exact ih _ (zf3 hp h (hl x (by simp))) fun r hr => hl r (List.mem_cons_of_mem _ hr)
 exact key l ⟨[], none, []⟩ (by simp [JS.out]) h
theorem RY (l : List Int) : ∀ r ∈ dL l, lw r = r := by
 rw [uZ]
 refine TF (fun a b ha hb h => zcx h ha hb) fun r hr => ?_
 obtain ⟨a, ha, hra⟩ := List.mem_flatMap.1 ((rE _).1.mem.1 hr)
 obtain ⟨c, hc, rfl⟩ := List.mem_map.1 ha
 exact zcy (zgl c) r hra
theorem zgr {l : List Int} (h : ∀ r ∈ l, lw r = r) : l.map lw = l := by
 induction l with
 | nil => rfl
 | cons x l ih => rw [List.map_cons, h x (by simp), ih fun r hr => h r (List.mem_cons_of_mem _ hr)]
theorem zcr (l : List Int) : iZ false true (dL l) = dL l := zcp false false true true (l.map lw)
theorem zcm (l : List Int) : dL (dL l) = dL l := by
 have : dL (dL l) = iZ false true ((dL l).map lw) := rfl
 rw [this, zgr (RY l), zcr]
def cF (s : List UInt8) : List UInt8 × Bool := if 0 ≤ (runes s).2 then ([], false) else (d5 (dL (runes s).1), true)
theorem RT (s : List UInt8) : cF s = if 0 ≤ (runes s).2 then ([], false) else eG false true (d5 ((runes s).1.map lw)) := by
 unfold cF
 split
 ·rfl
 ·have hr := rQ (yZ (oR s))
  rw [RV (by rw [hr]; dsimp only; omega), hr]; rfl
theorem C9 {l : List Int} (h : bW l = true) : bW (dL l) = true := RU (yZ h) false true
theorem t7 {s : List UInt8} (h : ¬ 0 ≤ (runes s).2) : cF s = (d5 (dL (runes s).1), true) := by unfold cF; rw [if_neg h]
theorem EJ {s : List UInt8} : runes (d5 (dL (runes s).1)) = (dL (runes s).1, -1) := rQ (C9 (oR s))
theorem RS (l : List Int) : (dL l).length ≤ 4 * l.length := by have := zcq false true (l.map lw); rw [List.length_map] at this; exact this
def asc (s : List UInt8) : List Int := s.map fun c => (c.toNat : Int)
end Go.AE
end
section
namespace Go.AE
open Go.Proofs
set_option maxRecDepth 20000
set_option maxHeartbeats 8000000
set_option linter.unusedSimpArgs false
theorem z2o (k : Nat) : imps k bK = (bK, []) := rfl
theorem z2p (a b c d e : AV) : setCells [a, b, c, d, e] 0 bK = bK := rfl
theorem z2q (k : Nat) : shifts k bK = bK := rfl
theorem eA : type_of% (And.intro @o4 (And.intro @z2o (And.intro @z2q @z2p))) := (And.intro @o4 (And.intro @z2o (And.intro @z2q @z2p)))
theorem iR {P Q R S : Prop} (a : Q) (b : R) (c : S) (h : Mk P → bD Q → bD R → bD S → P := by
 intro m q r s
 repeat' first | refine aM (by first | assumption | (apply_assumption <;> omega)) ?_ ?_ | refine cM.fit (by assumption) ?_ | simp (maxSteps := 4000000) (disch := omega) only [aZ, aY, bun, ↓aW, ↓aV, aO, findLabel, ↓reduceIte, imp, shift, aR, aJ, unown, names, aQ, below, aD, aC, aT, aU, aS, ren, aN, aP, aX, renO, belowM, seval, -Int.reduceToNat, bT, b9, eA, List.map_nil, List.nil_append, bR, *] | exact bH _ | refine bG _ _ ?_ | exact bC.cl | refine bE _ ?_ | refine bF _ _ ?_ ?_ | refine bA _ ?_ | refine fkx ?_ tru <;> intro hg | refine fkx ?_ ?_ <;> intro hg | exact fkx tru tru | refine And.intro (by omega) ?_ | omega
 first
 | done
 | all_goals (repeat revert hg)
   exact q.out
   first
   | done
   | exact r.out
     first
     | done
     | exact s.out
       first | done | fail) : P := h ⟨tru⟩ ⟨a⟩ ⟨b⟩ ⟨c⟩
theorem zgz (r : Int) (hr : bO r) : aG Tryz.prog 67 [.ag bK, aB r] (aB (nar r)) := by
 have hs := A8 r
 rw [← cT] at hs
 refine sp [.tmp 4] Tryz.func67 Tryz.ntmps67 ?_
 cases hw : wide r with
 | true =>
  have hw' : 65281 ≤ r ∧ r ≤ 65374 := by simpa [wide] using hw
  have e : nar r = (spl r).1.2.1 := by unfold nar; rw [hw, (zlk hw).1]; rfl
  rw [e]
  exact iR tru tru tru
 | false =>
  have hw' : ¬ (65281 ≤ r ∧ r ≤ 65374) := by simpa [wide] using hw
  have e : nar r = r := by unfold nar; rw [hw]; rfl
  rw [e]
  exact iR tru tru tru
  all_goals first | omega | trace_state
theorem zbt (l : List Int) (hl : l.length ≤ 100000) (hr : ∀ r ∈ l, bO r) : aG Tryz.prog 65 [.sl l.length (l.map aB), .fn 67 [.ag bK] []] (.own 21 1 l.length ((l.map nar).map aB)) := by
 refine sp [.tmp 4] Tryz.func65 Tryz.ntmps65 ?_
 refine iR ?_ tru tru <;> intros
 refine bL (fun i : Nat => ⟨[(1, .fn 67 [.ag bK] []), (5, .ref 1 0 i), (8, .sl l.length (l.map aB)), (9, aA l.length), (10, aA i)], [.dead, .arr 21 1 (((l.take i).map nar).map aB)]⟩) (fun i => i ≤ l.length) (fun i => l.length - i) 0 (by simp) (by (simp (disch := omega) [wk, aL, aI, aD, aC, get, aK, belowM, below, belows, aA, aB, Bv, U8, Sv, bJ] <;> try omega)) ?_
 intro i hi
 have hlt0 : (l.take i).length = i := by simp; omega
 by_cases hlt : i < l.length
 ·have ht : (l.take (i + 1)).map nar = (l.take i).map nar ++ [nar (l.getD i 0)] := by rw [gB l i 0 hlt, List.map_append]; rfl
  have hg0 : bO (l.getD i 0) := hr _ (by simp [List.getD, hlt])
  have hs := zgz (l.getD i 0) hg0
  refine iR ?_ tru tru <;> intros
  refine ⟨i + 1, by omega, by omega, ?_⟩
  rw [ht]
  (simp (disch := omega) [wk, aL, aI, aD, aC, get, aK, belowM, below, belows, aA, aB, Bv, U8, Sv, List.map_append, bJ] <;> try omega)
 ·have e : i = l.length := by omega
  subst e
  rw [List.take_length] at *
  exact iR tru tru tru
theorem zbs (l : List Int) (hl : l.length ≤ 100000) (hr : ∀ r ∈ l, bO r) : aG Tryz.prog 65 [.sl l.length (l.map aB), .fn 66 [.ag bK] []] (.own 21 1 l.length ((l.map low).map aB)) := by
 refine sp [.tmp 4] Tryz.func65 Tryz.ntmps65 ?_
 refine iR ?_ tru tru <;> intros
 refine bL (fun i : Nat => ⟨[(1, .fn 66 [.ag bK] []), (5, .ref 1 0 i), (8, .sl l.length (l.map aB)), (9, aA l.length), (10, aA i)], [.dead, .arr 21 1 (((l.take i).map low).map aB)]⟩) (fun i => i ≤ l.length) (fun i => l.length - i) 0 (by simp) (by (simp (disch := omega) [wk, aL, aI, aD, aC, get, aK, belowM, below, belows, aA, aB, Bv, U8, Sv, bJ] <;> try omega)) ?_
 intro i hi
 have hlt0 : (l.take i).length = i := by simp; omega
 by_cases hlt : i < l.length
 ·have ht : (l.take (i + 1)).map low = (l.take i).map low ++ [low (l.getD i 0)] := by rw [gB l i 0 hlt, List.map_append]; rfl
  have hg0 : bO (l.getD i 0) := hr _ (by simp [List.getD, hlt])
  have hs := zgj (l.getD i 0)
  rw [← cT] at hs
  refine iR ?_ tru tru <;> intros
  refine ⟨i + 1, by omega, by omega, ?_⟩
  rw [ht]
  (simp (disch := omega) [wk, aL, aI, aD, aC, get, aK, belowM, below, belows, aA, aB, Bv, U8, Sv, List.map_append, bJ] <;> try omega)
 ·have e : i = l.length := by omega
  subst e
  rw [List.take_length] at *
  exact iR tru tru tru
theorem zlm (l : List Int) (hl : l.length ≤ 100000) (hr : ∀ r ∈ l, bO r) : aG Tryz.prog 39 [tab, .sl l.length (l.map aB)] (.own 21 1 l.length ((l.map nar).map aB)) := by
 rw [← cT]
 have h := zbt l hl hr
 refine sp [.tmp 4] Tryz.func39 Tryz.ntmps39 ?_
 exact iR tru tru tru
theorem zgk (l : List Int) (hl : l.length ≤ 100000) (hr : ∀ r ∈ l, bO r) : aG Tryz.prog 38 [tab, .sl l.length (l.map aB)] (.own 21 1 l.length ((l.map low).map aB)) := by
 rw [← cT]
 have h := zbs l hl hr
 refine sp [.tmp 4] Tryz.func38 Tryz.ntmps38 ?_
 exact iR tru tru tru
theorem zk9 (l : List Int) (hl : l.length ≤ 100000) : aG Tryz.prog 46 [.sl l.length (l.map aB)] (.own 21 1 l.length ((l.map nar).map aB)) := by
 refine sp [.tmp 2] Tryz.func46 Tryz.ntmps46 ?_
 refine iR ?_ tru tru <;> intros
 refine bL (fun i : Nat => ⟨[(0, .sl l.length (l.map aB)), (3, .ref 1 0 i), (4, aA i)], [.dead, .arr 21 1 (((l.take i).map nar).map aB)]⟩) (fun i => i ≤ l.length) (fun i => l.length - i) 0 (by simp) bN ?_
 intro i hi
 have hlt0 : (l.take i).length = i := by simp; omega
 by_cases hlt : i < l.length
 ·have ht : (l.take (i + 1)).map nar = (l.take i).map nar ++ [nar (l.getD i 0)] := by rw [gB l i 0 hlt, List.map_append]; rfl
  cases hw : wide (l.getD i 0) with
  | true =>
   have hw' : 65281 ≤ l.getD i 0 ∧ l.getD i 0 ≤ 65374 := by simpa [wide] using hw
   have e : nar (l.getD i 0) = l.getD i 0 - 65248 := by unfold nar; rw [hw]; rfl
   (have := @A4; refine iR ?_ tru tru <;> intros)
   refine ⟨i + 1, by omega, by omega, ?_⟩
   rw [ht, e]
   (simp (disch := omega) [wk, aL, aI, aD, aC, get, aK, belowM, below, belows, aA, aB, Bv, U8, Sv, List.map_append] <;> try omega)
  | false =>
   have e : nar (l.getD i 0) = l.getD i 0 := by unfold nar; rw [hw]; rfl
   (have := @A4; refine iR ?_ tru tru <;> intros)
   refine ⟨i + 1, by omega, by omega, ?_⟩
   rw [ht, e]
   (simp (disch := omega) [wk, aL, aI, aD, aC, get, aK, belowM, below, belows, aA, aB, Bv, U8, Sv, List.map_append] <;> try omega)
 ·have e : i = l.length := by omega
  subst e
  rw [List.take_length] at *
  exact iR tru tru tru
theorem zjd (l : List Int) (hl : l.length ≤ 100000) : aG Tryz.prog 45 [.sl l.length (l.map aB)] (.own 21 1 l.length ((l.map low).map aB)) := by
 refine sp [.tmp 2] Tryz.func45 Tryz.ntmps45 ?_
 refine iR ?_ tru tru <;> intros
 refine bL (fun i : Nat => ⟨[(0, .sl l.length (l.map aB)), (3, .ref 1 0 i), (4, aA i)], [.dead, .arr 21 1 (((l.take i).map low).map aB)]⟩) (fun i => i ≤ l.length) (fun i => l.length - i) 0 (by simp) bN ?_
 intro i hi
 have hlt0 : (l.take i).length = i := by simp; omega
 by_cases hlt : i < l.length
 ·have ht : (l.take (i + 1)).map low = (l.take i).map low ++ [low (l.getD i 0)] := by rw [gB l i 0 hlt, List.map_append]; rfl
  (have := @zjc; refine iR ?_ tru tru <;> intros)
  refine ⟨i + 1, by omega, by omega, ?_⟩
  rw [ht]
  (simp (disch := omega) [wk, aL, aI, aD, aC, get, aK, belowM, below, belows, aA, aB, Bv, U8, Sv, List.map_append] <;> try omega)
 ·have e : i = l.length := by omega
  subst e
  rw [List.take_length] at *
  exact iR tru tru tru
end Go.AE
-- types: B0 B3 B4 B21 B29 B53 B63 B99 B101 B134
end
section
namespace Go.AE
open Go.Proofs
set_option maxRecDepth 20000
set_option maxHeartbeats 8000000
set_option linter.unusedSimpArgs false
theorem VV {l : List Int} (h : bW l = true) : ∀ r ∈ l, bO r := fun r hr => by
 have := (lU r).1 (l8.1 h r hr); unfold bO; omega
theorem zgy {r : Int} (h : right r = true) : right (nar r) = true := by
 unfold nar
 split
 ·rename_i hw
  have : 65281 ≤ r ∧ r ≤ 65374 := by simpa [wide] using hw
  exact wL (by omega)
 ·exact h
theorem VZ (l : List Int) : (l.map nar).map low = l.map lw := by rw [List.map_map]; rfl
theorem CE (s : List UInt8) (hs : s.length ≤ 10000000) (hl : (runes s).1.length ≤ 10000) : aG Tryz.prog 25 [tab, Sv s] (.tup [Sv (cF s).1, Bv (cF s).2]) := by
 have hr := oR s
 have h1 := zlm (runes s).1 (by omega) (VV hr)
 have h2 := zgk ((runes s).1.map nar) (by rw [List.length_map]; omega) (VV (l8.2 fun r hr' => by
  obtain ⟨a, ha, rfl⟩ := List.mem_map.1 hr'
  exact zgy (l8.1 hr a ha)))
 rw [VZ, List.length_map] at h2
 have h3 := AK ((runes s).1.map lw) (by rw [List.length_map]; omega)
 rw [List.length_map] at h3
 have hn := nY ((runes s).1.map lw)
 rw [List.length_map] at hn
 have hrr := rQ (yZ hr)
 have h4 := WB (d5 ((runes s).1.map lw)) (by omega) (by rw [hrr]; simp; omega)
 have hk1 : List.take (runes s).1.length (((runes s).1.map nar).map aB) = ((runes s).1.map nar).map aB := List.take_of_length_le (by simp)
 have hk2 : List.take (runes s).1.length (((runes s).1.map lw).map aB) = ((runes s).1.map lw).map aB := List.take_of_length_le (by simp)
 rw [← cT] at h1 h2 h4 ⊢
 refine sp [.tmp 4, .tmp 5] Tryz.func25 Tryz.ntmps25 ?_
 rw [RT]
 generalize d5 ((runes s).1.map lw) = Z at *
 generalize bW ((runes s).1.map lw) = zo at *
 generalize hf : eG false true Z = fz at *
 clear hrr hn
 by_cases h0 : 0 ≤ (runes s).2
 ·rw [if_pos h0]
  repeat' first | refine aM (rT s (by omega)) ?_ ?_ | simp (maxSteps := 4000000) (disch := omega) only [aZ, aY, bun, ↓aW, ↓aV, aO, findLabel, ↓reduceIte, imp, shift, aR, aJ, unown, names, aQ, below, aD, aC, aT, aU, aS, ren, aN, aP, aX, renO, belowM, seval, -Int.reduceToNat, bT, b9, eA, List.map_nil, List.nil_append] | exact bH _ | refine bG _ _ ?_ | exact bC.cl | refine bE _ ?_ | refine bF _ _ ?_ ?_ | refine bA _ ?_ | refine fkx ?_ tru <;> intro hg | refine fkx ?_ ?_ <;> intro hg | exact fkx tru tru | refine And.intro (by omega) ?_ | omega
 ·rw [if_neg h0]
  repeat' first | refine aM (rT s (by omega)) ?_ ?_ | refine rW (.take 2 (.two 0 (.one 1 (.one 3 (.one 4 (.one 5 (.take 6 (.two 7 (.take 9 (.one 8 (.take 10 (.done)))) 8 (.one 7 (.take 9 (.take 10 (.done)))))))))) 1 (.two 0 (.one 3 (.one 4 (.one 5 (.take 6 (.two 7 (.take 9 (.one 8 (.take 10 (.done)))) 8 (.one 7 (.take 9 (.take 10 (.done))))))))) 3 (.one 0 (.one 4 (.one 5 (.take 6 (.two 7 (.take 9 (.one 8 (.take 10 (.done)))) 8 (.one 7 (.take 9 (.take 10 (.done)))))))))))) _ (by decide +kernel) ?_ | simp (maxSteps := 4000000) (disch := omega) only [aZ, aY, bun, ↓aW, ↓aV, aO, findLabel, ↓reduceIte, imp, shift, aR, aJ, unown, names, aQ, below, aD, aC, aT, aU, aS, ren, aN, aP, aX, renO, belowM, seval, -Int.reduceToNat, List.length_map, hk1, hk2, bT, b9, eA, List.map_nil, List.nil_append] | exact bH _ | refine bG _ _ ?_ | exact bC.cl | refine bE _ ?_ | refine bF _ _ ?_ ?_ | refine bA _ ?_ | refine fkx ?_ tru <;> intro hg | refine fkx ?_ ?_ <;> intro hg | exact fkx tru tru | refine And.intro (by omega) ?_ | omega
  repeat' refine And.intro ?_ ?_
  all_goals (repeat' first | refine aM (h1) ?_ ?_ | refine aM (h2) ?_ ?_ | refine aM (h3) ?_ ?_ | refine aM (h4) ?_ ?_ | simp (maxSteps := 4000000) (disch := omega) only [aZ, aY, bun, ↓aW, ↓aV, aO, findLabel, ↓reduceIte, imp, shift, aR, aJ, unown, names, aQ, below, aD, aC, aT, aU, aS, ren, aN, aP, aX, renO, belowM, seval, -Int.reduceToNat, List.length_map, hk1, hk2, bT, b9, eA, List.map_nil, List.nil_append] | exact bH _ | refine bG _ _ ?_ | exact bC.cl | refine bE _ ?_ | refine bF _ _ ?_ ?_ | refine bA _ ?_ | refine fkx ?_ tru <;> intro hg | refine fkx ?_ ?_ <;> intro hg | exact fkx tru tru | refine And.intro (by omega) ?_ | omega)
  all_goals (repeat' refine And.intro ?_ ?_)
  all_goals (repeat' first | refine aM (h1) ?_ ?_ | refine aM (h2) ?_ ?_ | refine aM (h3) ?_ ?_ | refine aM (h4) ?_ ?_ | simp (maxSteps := 4000000) (disch := omega) only [aZ, aY, bun, ↓aW, ↓aV, aO, findLabel, ↓reduceIte, imp, shift, aR, aJ, unown, names, aQ, below, aD, aC, aT, aU, aS, ren, aN, aP, aX, renO, belowM, seval, -Int.reduceToNat, List.length_map, hk1, hk2, bT, b9, eA, List.map_nil, List.nil_append] | exact bH _ | refine bG _ _ ?_ | exact bC.cl | refine bE _ ?_ | refine bF _ _ ?_ ?_ | refine bA _ ?_ | refine fkx ?_ tru <;> intro hg | refine fkx ?_ ?_ <;> intro hg | exact fkx tru tru | refine And.intro (by omega) ?_ | omega)
end Go.AE
-- types: B0 B3 B4 B9 B29 B56 B63 B64
end
section
namespace Go.AE
open Go.Proofs
set_option maxRecDepth 20000
set_option maxHeartbeats 8000000
set_option linter.unusedSimpArgs false
theorem mN : aG Tryz.prog 9 [] (.ag bK) := zh3
end Go.AE
-- types: B3 B4 B9 B56 B63 B64
end
section
namespace Go.AE
open Go.Proofs
set_option maxHeartbeats 8000000
set_option maxRecDepth 20000
def soB (r : Int) : Bool := (spl r).2 && ((spl r).1.2.2.2.1 || (spl r).1.2.2.2.2)
def lch (r : Int) : Bool := !soB r && (decide (2 ≤ cat r ∧ cat r ≤ 5) || r == 45)
structure Firm (c : Int) : Prop where
 fx : lw c = c
 one : cE false c = [c]
 cl : cls c = 0
 l : ∀ a, (bP a c).2 = false
 r : ∀ b, (bP c b).2 = false
end Go.AE
end
section
namespace Go.AE
open Go.Proofs
set_option maxRecDepth 20000
set_option maxHeartbeats 8000000
set_option linter.unusedSimpArgs false
theorem zfo (r : Int) : aG Tryz.prog 153 [tab, aB r] (Bv (lch r)) := by
 have hs := A8 r
 have hc := OG r
 rw [← cT] at hs hc ⊢
 refine sp [.tmp 4] Tryz.func153 Tryz.ntmps153 ?_
 unfold lch soB
 cases h1 : (spl r).2 <;> cases h2 : (spl r).1.2.2.2.1 <;> cases h3 : (spl r).1.2.2.2.2
 all_goals
  repeat' first | refine aM (hs) ?_ ?_ | refine aM (hc) ?_ ?_ | simp (maxSteps := 4000000) (disch := omega) only [aZ, aY, bun, ↓aW, ↓aV, aO, findLabel, ↓reduceIte, imp, shift, aR, aJ, unown, names, aQ, below, aD, aC, aT, aU, aS, ren, aN, aP, aX, renO, belowM, seval, -Int.reduceToNat, h1, h2, h3, bT, b9, Int.reduceToNat, eA, List.map_nil, List.nil_append, bR] | exact bH _ | refine bG _ _ ?_ | exact bC.cl | refine bE _ ?_ | refine bF _ _ ?_ ?_ | refine bA _ ?_ | refine fkx ?_ tru <;> intro hg | refine fkx ?_ ?_ <;> intro hg | exact fkx tru tru | refine And.intro (by omega) ?_ | omega
 all_goals (congr 2; rw [Bool.eq_iff_iff]; simp only [Bool.or_eq_true, decide_eq_true_eq, beq_iff_eq, true_iff]; omega)
theorem zh0 (L : List Int) (k : Nat) (hk : k < L.length) : need L (k : Int) = fI L k := by
 unfold need
 rw [if_pos (by omega)]; rfl
end Go.AE
-- types: B0 B3 B4 B21 B29 B53 B134
end
section
namespace Go.AE
open Go.Proofs
set_option maxHeartbeats 8000000
set_option maxRecDepth 20000
theorem OY : (Value.slice none 0 0).cells.toList = [Value.slice none 0 0] := rfl
theorem NN : ((Value.slice none 0 0).cells.all fun x => x.oneCell') = true := by decide +kernel
theorem z9a {p : Nat → Bool} {i n : Nat} (h : ∀ j, j < i → p j = false) (hi : i < n) (hp : p i = true) : (List.range n).any p = true := List.any_eq_true.2 ⟨i, List.mem_range.2 hi, hp⟩
theorem z99 {p : Nat → Bool} {n : Nat} (h : ∀ j, j < n → p j = false) : (List.range n).any p = false := by
 rw [List.any_eq_false]
 intro k hk
 rw [h k (List.mem_range.1 hk)]; simp
def gN : List (Bool × Int) → Int
 | [] => 0
 | (b, e) :: l => if b then e else gN l
def i6 (s : List UInt8) : Bool := (decide (1 ≤ s.length) && (s.take 1 == [45])) || (decide (1 ≤ s.length) && (s.drop (s.length - 1) == [45])) || (decide (3 < s.length) && ((s.take 4).drop 2 == [45, 45]))
def n5 (L : List Int) (k : Nat) : Bool := fI L k == 2 || (fI L k == 0 && !lch (L.getD k 0))
def n6 (L : List Int) : Bool := (List.range L.length).any (n5 L)
def oA (s : List UInt8) : Bool := decide (eight s < 0) || !((eG false true s).2 && ((eG false true s).1 == s))
def jC (s : List UInt8) : Int := gN [(decide (0 ≤ (runes s).2), 7), (oA s, 4), (i6 s, 11), (cat ((runes s).1.getD 0 0) == 4, 10), (n6 (runes s).1, 8), (gW (runes s).1 && !iE (runes s).1, 9),
 (!bW (runes s).1, 12), (decide (63 < 4 + (fJ (runes s).1).length), 5)]
theorem RQ : ∀ {l : List (Bool × Int)}, (∀ p ∈ l, p.2 ≠ 0) → gN l = 0 → ∀ p ∈ l, p.1 = false
 | [], _, _, p, hp => by cases hp
 | (b, e) :: l, h, h0, p, hp => by
  unfold gN at h0
  cases b with
  | true => exact absurd h0 (h (true, e) (by simp))
  | false =>
   rcases List.mem_cons.1 hp with rfl | hp
   ·rfl
   ·exact RQ (fun q hq => h q (List.mem_cons_of_mem _ hq)) h0 p hp
structure Wide (s : List UInt8) : Prop where
 at_ : ¬ 0 ≤ (runes s).2
 big : 0 ≤ eight s
 form : eG false true s = (s, true)
 dash : i6 s = false
 mark : cat ((runes s).1.getD 0 0) ≠ 4
 chars : n6 (runes s).1 = false
 bidi : (gW (runes s).1 && !iE (runes s).1) = false
 len : 4 + (fJ (runes s).1).length ≤ 63
theorem zlj {s : List UInt8} (h : jC s = 0) : Wide s := by
 have k := RQ (l := [(decide (0 ≤ (runes s).2), 7), (oA s, 4), (i6 s, 11), (cat ((runes s).1.getD 0 0) == 4, 10), (n6 (runes s).1, 8), (gW (runes s).1 && !iE (runes s).1, 9),
  (!bW (runes s).1, 12), (decide (63 < 4 + (fJ (runes s).1).length), 5)]) (by simp) h
 simp only [List.mem_cons, List.not_mem_nil, or_false, forall_eq_or_imp, forall_eq, decide_eq_false_iff_not] at k
 obtain ⟨k1, k2, k3, k4, k5, k6, k7, k8⟩ := k
 unfold oA at k2
 rw [Bool.or_eq_false_iff] at k2
 obtain ⟨k2, k9⟩ := k2
 simp only [decide_eq_false_iff_not, Bool.not_eq_false', Bool.and_eq_true, beq_iff_eq] at k2 k9
 exact ⟨k1, by omega, Prod.ext k9.2 k9.1, k3, by simpa using k4, k5, k6, by omega⟩
theorem Q4 {s : List UInt8} (h : 0 ≤ eight s) : s ≠ [] := fun e => by subst e; simp [eight, nG] at h
def ace : List UInt8 := [120, 110, 45, 45]
def qK (s : List UInt8) : Bool := decide (4 ≤ s.length) && (s.take 4 == ace)
def ldh (c : UInt8) : Bool := (decide (97 ≤ c.toNat) && decide (c.toNat ≤ 122)) || (decide (65 ≤ c.toNat) && decide (c.toNat ≤ 90)) || (decide (48 ≤ c.toNat) && decide (c.toNat ≤ 57)) || c == 45
def iD (s : List UInt8) : Int := gN [(decide (s = []), 13), (decide (63 < s.length), 5), (!s.all ldh, 8), (i6 s, 11)]
def uL (X : List UInt8) : List UInt8 × List UInt8 × Int :=
 if 0 ≤ eight X then (ace ++ fJ (runes X).1, X, jC X)
 else if qK X = false then (X, X, iD X)
 else match j5 (X.drop 4) with
  | none => ([], [], 12)
  | some l => if 63 < X.length then ([], [], 5) else if jC (d5 l) ≠ 0 then ([], [], jC (d5 l)) else if fJ l ≠ X.drop 4 then ([], [], 12) else (X, d5 l, 0)
def dK (s : List UInt8) : List UInt8 × List UInt8 × Int := if (cF s).2 = false then ([], [], 7) else uL (cF s).1
def bX (s : List UInt8) : List UInt8 × Int := if (dK s).2.2 ≠ 0 then ([], (dK s).2.2) else ((dK s).1, 0)
def dF (s : List UInt8) : List UInt8 × Int := if (dK s).2.2 ≠ 0 then ([], (dK s).2.2) else ((dK s).2.1, 0)
theorem zl2 {s : List UInt8} (h : (dK s).2.2 ≠ 0) : bX s = ([], (dK s).2.2) ∧ dF s = ([], (dK s).2.2) := by unfold bX dF; rw [if_pos h, if_pos h]; exact ⟨rfl, rfl⟩
theorem zl4 {s : List UInt8} (h : (dK s).2.2 = 0) : bX s = ((dK s).1, 0) ∧ dF s = ((dK s).2.1, 0) := by unfold bX dF; rw [if_neg (by simp [h]), if_neg (by simp [h])]; exact ⟨rfl, rfl⟩
theorem za7 {s X : List UInt8} (h : cF s = (X, true)) : dK s = uL X := by unfold dK; rw [h]; rfl
theorem zia {s : List UInt8} : iD s = 0 ↔ s ≠ [] ∧ s.length ≤ 63 ∧ s.all ldh = true ∧ i6 s = false := by
 unfold iD gN gN gN gN gN
 by_cases h1 : s = []
 ·simp [h1]
 ·by_cases h2 : 63 < s.length
  ·simp [h1, h2]; omega
  ·cases h3 : s.all ldh <;> cases h4 : i6 s <;> simp [h1, h2] <;> omega
theorem zfq {c : UInt8} (h : ldh c = true) : c.toNat < 128 := by
 unfold ldh at h
 simp only [Bool.or_eq_true, Bool.and_eq_true, decide_eq_true_eq, beq_iff_eq] at h
 rcases h with ((h | h) | h) | h
 ·omega
 ·omega
 ·omega
 ·subst h; decide
def pcs : List UInt8 → List (List UInt8)
 | [] => [[]]
 | c :: s => if c = 46 then [] :: pcs s else match pcs s with
  | p :: ps => (c :: p) :: ps
  | [] => [[c]]
theorem DM : ∀ s : List UInt8, (pcs s).length ≤ s.length + 1
 | [] => by simp [pcs]
 | c :: s => by
  have ih := DM s
  unfold pcs
  split
  ·simp only [List.length_cons]; omega
  ·split
   ·rename_i p ps e; rw [e] at ih; simp only [List.length_cons] at ih ⊢; omega
   ·simp
theorem SX (b : UInt8) (l : List UInt8) : Lib.index (b :: l) [46] = if b = 46 then 0 else if Lib.index l [46] = -1 then -1 else Lib.index l [46] + 1 := by
 rw [Lib.index]
 by_cases h : b = 46
 ·subst h; rw [if_pos (by simp [List.isPrefixOf]), if_pos rfl]
 ·rw [if_neg (by simp [List.isPrefixOf]; exact fun e => h e.symm), if_neg h]
  by_cases h3 : Lib.index l [46] = -1
  ·rw [if_pos (by rw [h3]; rfl), if_pos h3]
  ·rw [if_neg (by simpa using h3), if_neg h3]
theorem XQ : ∀ s : List UInt8, Lib.index s [46] = -1 → pcs s = [s]
 | [], _ => rfl
 | c :: s, h => by
  rw [SX] at h
  by_cases hc : c = 46
  ·rw [if_pos hc] at h; cases h
  ·rw [if_neg hc] at h
   have h2 : Lib.index s [46] = -1 := by
    by_cases h3 : Lib.index s [46] = -1
    ·exact h3
    ·rw [if_neg h3] at h; have := Lib.index_ge s [46]; omega
   unfold pcs
   rw [if_neg hc, XQ s h2]
theorem XP : ∀ (s : List UInt8) (i : Nat), Lib.index s [46] = i → pcs s = s.take i :: pcs (s.drop (i + 1))
 | [], i, h => by simp [Lib.index] at h
 | c :: s, i, h => by
  rw [SX] at h
  by_cases hc : c = 46
  ·rw [if_pos hc] at h
   obtain rfl : i = 0 := by omega
   rw [pcs, if_pos hc]; rfl
  ·rw [if_neg hc] at h
   by_cases h3 : Lib.index s [46] = -1
   ·rw [if_pos h3] at h; omega
   ·rw [if_neg h3] at h
    have hg := Lib.index_ge s [46]
    obtain ⟨j, rfl⟩ : ∃ j, i = j + 1 := ⟨i - 1, by omega⟩
    rw [pcs, if_neg hc, XP s j (by omega)]
    rfl
def kZ : List (List UInt8) → Int
 | [] => 0
 | x :: l => if (bX x).2 ≠ 0 then (bX x).2 else kZ l
def jA (L : List (List UInt8)) : List UInt8 := Lib.join (L.map fun x => (bX x).1) [46]
def jU (L : List (List UInt8)) : List UInt8 := Lib.join (L.map fun x => (dF x).1) [46]
def jY (L : List (List UInt8)) : List UInt8 × List UInt8 × Int := if kZ L ≠ 0 then ([], [], kZ L) else if 253 < (jA L).length then ([], [], 5) else (jA L, jU L, 0)
theorem z0w {L : List (List UInt8)} : kZ L = 0 ↔ ∀ x ∈ L, (bX x).2 = 0 := by
 induction L with
 | nil => simp [kZ]
 | cons x l ih =>
  unfold kZ
  split
  ·rename_i h
   simp [h]
  ·rename_i h
   simp only [List.mem_cons, forall_eq_or_imp, ih]
   exact ⟨fun h1 => ⟨by simpa using h, h1⟩, fun h1 => h1.2⟩
theorem z0v {q : List (List UInt8)} {x : List UInt8} {l : List (List UInt8)} (hq : ∀ y ∈ q, (bX y).2 = 0) (hx : (bX x).2 ≠ 0) : kZ (q ++ x :: l) = (bX x).2 := by
 induction q with
 | nil => simp [kZ, hx]
 | cons y q ih =>
  have hy := hq y (by simp)
  simp only [List.cons_append, kZ, hy]
  rw [if_neg (by simp)]
  exact ih fun z hz => hq z (by simp [hz])
def c9 (r : Int) : Bool := decide (r = 46) || decide (r = 12290)
theorem PS {r : Int} : c9 r = true ↔ r = 46 ∨ r = 12290 := by simp [c9]
theorem PQ {d : Int} (h : c9 d = true) : cls d = 0 ∧ cE false d = [d] ∧ lw d = d := by
 rcases PS.1 h with rfl | rfl <;> decide +kernel
theorem zie {a b : Int} (h : (pr a b).2 = true) : c9 a = false ∧ c9 b = false ∧ c9 (pr a b).1 = false := by
 obtain ⟨h1, h2, h3, h4⟩ := vY h
 have hq := l5 (q := fun r x => x.2.2.2.2 || (!c9 x.2.1 && !c9 x.2.2.1 && !c9 r)) (by decide +kernel) (by decide +kernel) h1
 rw [h2, h3, h4] at hq
 simp only [Bool.false_or, Bool.and_eq_true, Bool.not_eq_true'] at hq
 exact ⟨hq.1.1, hq.1.2, hq.2⟩
theorem D8 {a b : Int} (h : (bP a b).2 = true) : c9 a = false ∧ c9 b = false ∧ c9 (bP a b).1 = false := by
 unfold bP at h ⊢
 have small : ∀ {x : Int}, 4352 ≤ x → x ≠ 12290 → c9 x = false := fun h1 h2 => by
  simp only [c9, Bool.or_eq_false_iff, decide_eq_false_iff_not]; omega
 split
 ·rename_i h1
  exact ⟨small (by omega) (by omega), small (by omega) (by omega), small (by dsimp only; omega) (by dsimp only; omega)⟩
 ·rename_i h1
  rw [if_neg h1] at h
  split
  ·rename_i h2
   have ha : 44032 ≤ a ∧ a ≤ 55203 := by simpa [han] using h2.1
   exact ⟨small (by omega) (by omega), small (by omega) (by omega), small (by dsimp only; omega) (by dsimp only; omega)⟩
  ·rename_i h2
   rw [if_neg h2] at h
   exact zie h
theorem zH : ∀ (f : Nat) (r : Int), c9 r = false → ∀ x ∈ dR f false r, c9 x = false
 | 0, r, h, x, hx => by simp [dR] at hx; subst hx; exact h
 | f + 1, r, h, x, hx => by
  rw [pU] at hx
  split at hx
  ·rename_i hh
   have : 44032 ≤ r ∧ r ≤ 55203 := by simpa [han] using hh
   have small : ∀ {x : Int}, 4352 ≤ x → x ≠ 12290 → c9 x = false := fun h1 h2 => by
    simp only [c9, Bool.or_eq_false_iff, decide_eq_false_iff_not]; omega
   unfold syl at hx
   split at hx <;> simp at hx
   ·rcases hx with rfl | rfl <;> exact small (by omega) (by omega)
   ·rcases hx with rfl | rfl | rfl <;> exact small (by omega) (by omega)
  ·split at hx
   ·simp at hx; subst hx; exact h
   ·rename_i hst
    have hs := EV (by simpa using hst)
    have hsoft : (spl r).1.2.2.2.1 = false := by
     cases hq : (spl r).1.2.2.2.1 with
     | false => rfl
     | true => have := hs.2 hq; cases this
    have hq := l5 (q := fun _ x => x.2.2.2.1 || (!c9 x.2.1 && !c9 x.2.2.1)) (by decide +kernel) (by decide +kernel) hs.1
    rw [hsoft] at hq
    simp only [Bool.false_or, Bool.and_eq_true, Bool.not_eq_true'] at hq
    split at hx
    ·exact zH f _ hq.1 x hx
    ·rcases List.mem_append.1 hx with hx | hx
     ·exact zH f _ hq.1 x hx
     ·exact zH f _ hq.2 x hx
theorem DH {d : Int} (hd : cls d = 0) (B : List Int) : ∀ (A R : List Int), cS R (A ++ d :: B) = cS R A ++ d :: cS [] B
 | [], R => by
  show (if 0 < cls d then _ else _) = _
  rw [if_neg (by omega)]
  rfl
 | x :: A, R => by
  show (if 0 < cls x then cS (R ++ [x]) (A ++ d :: B) else ssort cls R ++ x :: cS [] (A ++ d :: B)) = (if 0 < cls x then cS (R ++ [x]) A else ssort cls R ++ x :: cS [] A) ++ d :: cS [] B
  split
  ·exact DH hd B A _
  ·rw [DH hd B A]; simp
def nB (P : List Int) (d : Int) (s t : JS) : Prop := (s.pre = P ∧ s.st = some d ∧ t.pre = [] ∧ t.st = none ∧ s.ms = t.ms) ∨ (s.pre = P ++ d :: t.pre ∧ s.st = t.st ∧ s.ms = t.ms ∧ t.st ≠ none)
theorem nB.out {P : List Int} {d : Int} {s t : JS} (h : nB P d s t) : s.out = P ++ d :: t.out := by
 rcases h with ⟨h1, h2, h3, h4, h5⟩ | ⟨h1, h2, h3, h4⟩
 ·simp [JS.out, h1, h2, h3, h4, h5]
 ·simp [JS.out, h1, h2, h3]
theorem nB.put {P : List Int} {d : Int} {s t : JS} (h : nB P d s t) (x : Int) : nB P d (s.put x) (t.put x) := by
 have ho := h.out
 unfold JS.put
 split
 ·exact .inr ⟨by simpa using ho, rfl, rfl, by simp⟩
 ·rcases h with ⟨h1, h2, h3, h4, h5⟩ | ⟨h1, h2, h3, h4⟩
  ·exact .inl ⟨h1, h2, h3, h4, by simp [h5]⟩
  ·exact .inr ⟨h1, h2, by simp [h3], h4⟩
theorem nB.step {P : List Int} {d : Int} (hd : c9 d = true) {s t : JS} (h : nB P d s t) (x : Int) : nB P d (cQ s x) (cQ t x) := by
 have hp := h.put x
 rcases h with ⟨h1, h2, h3, h4, h5⟩ | ⟨h1, h2, h3, h4⟩
 ·have hn : (bP d x).2 = false := by
   cases hq : (bP d x).2 with
   | false => rfl
   | true => have := (D8 hq).1; rw [hd] at this; cases this
  have e1 : cQ s x = s.put x := by
   unfold cQ; rw [h2]; dsimp only; rw [hn]; split <;> rfl
  have e2 : cQ t x = t.put x := by
   unfold cQ; rw [h4]
  rw [e1, e2]; exact hp
 ·unfold cQ
  rw [h2, h3]
  cases hb : t.st with
  | none => exact absurd hb h4
  | some b =>
   dsimp only
   split
   ·split
    ·exact .inr ⟨h1, rfl, rfl, by simp⟩
    ·exact hp
   ·exact hp
theorem zfa {d : Int} (hd : c9 d = true) (A B : List Int) : fT (A ++ d :: B) = fT A ++ d :: fT B := by
 unfold fT gX
 rw [List.foldl_append, List.foldl_cons]
 obtain ⟨s, hs⟩ : ∃ s, A.foldl cQ ⟨[], none, []⟩ = s := ⟨_, rfl⟩
 rw [hs]
 have e : cQ s d = ⟨s.out, some d, []⟩ := by
  have hput : s.put d = ⟨s.out, some d, []⟩ := by unfold JS.put; rw [if_pos (PQ hd).1]
  unfold cQ
  split
  ·exact hput
  ·rename_i b hb
   have hn : (bP b d).2 = false := by
    cases hq : (bP b d).2 with
    | false => rfl
    | true => have := (D8 hq).2.1; rw [hd] at this; cases this
   rw [hn]
   split
   ·exact hput
   ·exact hput
 rw [e]
 have key : ∀ (B : List Int) (s1 s2 : JS), nB s.out d s1 s2 → nB s.out d (B.foldl cQ s1) (B.foldl cQ s2) := fun B => by
  induction B with
  | nil => intro s1 s2 h; exact h
  | cons x B ih => intro s1 s2 h; exact ih _ _ (h.step hd x)
 exact (key B ⟨s.out, some d, []⟩ ⟨[], none, []⟩ (.inl ⟨rfl, rfl, rfl, rfl, rfl⟩)).out
theorem zcj {d : Int} (hd : c9 d = true) (A B : List Int) : dL (A ++ d :: B) = dL A ++ d :: dL B := by
 obtain ⟨h1, h2, h3⟩ := PQ hd
 rw [uZ, uZ, uZ, List.map_append, List.map_cons, h3, tV, l7, h2]
 show fT (cS [] (bM false (A.map lw) ++ d :: bM false (B.map lw))) = _
 rw [DH h1, zfa hd]
 rfl
theorem zck {l : List Int} (h : ∀ r ∈ l, c9 (lw r) = false) : ∀ r ∈ dL l, c9 r = false := by
 rw [uZ]
 refine TF (p := fun r => c9 r = false) (fun a b _ _ h => (D8 h).2.2) fun r hr => ?_
 obtain ⟨a, ha, hra⟩ := List.mem_flatMap.1 ((rE _).1.mem.1 hr)
 obtain ⟨c, hc, rfl⟩ := List.mem_map.1 ha
 exact zH 5 _ (h c hc) r hra
def rpcs : List Int → List (List Int)
 | [] => [[]]
 | c :: s => if c9 c then [] :: rpcs s else match rpcs s with
  | p :: ps => (c :: p) :: ps
  | [] => [[c]]
theorem z0f (l : List Int) : rpcs l ≠ [] := by
 cases l with
 | nil => simp [rpcs]
 | cons c s =>
  unfold rpcs
  split
  ·simp
  ·split <;> simp
theorem z0d {d : Int} (hd : c9 d = true) (B : List Int) : ∀ A : List Int, (∀ r ∈ A, c9 r = false) → rpcs (A ++ d :: B) = A :: rpcs B
 | [], _ => by show (if c9 d then _ else _) = _; rw [if_pos hd]
 | c :: A, h => by
  have hc := h c (by simp)
  show (if c9 c then _ else _) = _
  rw [if_neg (by simp [hc])]
  show (match rpcs (A ++ d :: B) with | p :: ps => (c :: p) :: ps | [] => [[c]]) = _
  rw [z0d hd B A fun r hr => h r (by simp [hr])]
theorem z0g : ∀ A : List Int, (∀ r ∈ A, c9 r = false) → rpcs A = [A]
 | [], _ => rfl
 | c :: A, h => by
  have hc := h c (by simp)
  show (if c9 c then _ else _) = _
  rw [if_neg (by simp [hc]), z0g A fun r hr => h r (by simp [hr])]
theorem zbq (l : List Int) : (∀ r ∈ l, c9 r = false) ∨ ∃ A d B, l = A ++ d :: B ∧ c9 d = true ∧ ∀ r ∈ A, c9 r = false := by
 induction l with
 | nil => exact .inl (by simp)
 | cons c l ih =>
  cases hc : c9 c with
  | true => exact .inr ⟨[], c, l, rfl, hc, by simp⟩
  | false =>
   rcases ih with h | ⟨A, d, B, h1, h2, h3⟩
   ·exact .inl fun r hr => by
     rcases List.mem_cons.1 hr with rfl | hr
     ·exact hc
     ·exact h r hr
   ·exact .inr ⟨c :: A, d, B, by rw [h1]; rfl, h2, fun r hr => by
     rcases List.mem_cons.1 hr with rfl | hr
     ·exact hc
     ·exact h3 r hr⟩
theorem PT {d e : Int} (hd : c9 d = true) (he : c9 e = true) {B C : List Int} : ∀ {A A' : List Int}, (∀ r ∈ A, c9 r = false) → (∀ r ∈ A', c9 r = false) → A ++ d :: B = A' ++ e :: C → A = A' ∧ B = C
 | [], [], _, _, h => by
  injection h with h1 h2; exact ⟨rfl, h2⟩
 | [], a :: A', _, h2, h => by
  injection h with h3 h4
  have := h2 a (by simp); rw [← h3, hd] at this; cases this
 | a :: A, [], h1, _, h => by
  injection h with h3 h4
  have := h1 a (by simp); rw [h3, he] at this; cases this
 | a :: A, a' :: A', h1, h2, h => by
  injection h with h3 h4
  obtain ⟨q1, q2⟩ := PT hd he (fun r hr => h1 r (by simp [hr])) (fun r hr => h2 r (by simp [hr])) h4
  exact ⟨by rw [h3, q1], q2⟩
def oV (l : List Int) : Prop := dL l = l ∧ ∀ r ∈ l, lw r = r
theorem RR (l : List Int) : oV (dL l) := ⟨zcm l, RY l⟩
theorem zcf {A B : List Int} {d : Int} (hd : c9 d = true) (hA : ∀ r ∈ A, c9 r = false) (h : oV (A ++ d :: B)) : oV A ∧ oV B := by
 obtain ⟨h1, h2⟩ := h
 rw [zcj hd] at h1
 have hA' : ∀ r ∈ dL A, c9 r = false := zck fun r hr => by rw [h2 r (by simp [hr])]; exact hA r hr
 obtain ⟨q1, q2⟩ := PT hd hd hA' hA h1
 exact ⟨⟨q1, fun r hr => h2 r (by simp [hr])⟩, ⟨q2, fun r hr => h2 r (by simp [hr])⟩⟩
theorem zjk (n : Nat) : ∀ l : List Int, l.length ≤ n → oV l → ∀ p ∈ rpcs l, oV p ∧ (∀ r ∈ p, c9 r = false) ∧ p.length ≤ l.length ∧ ∀ r ∈ p, r ∈ l := by
 induction n with
 | zero =>
  intro l hl h p hp
  have : l = [] := List.length_eq_zero_iff.1 (by omega)
  subst this
  simp [rpcs] at hp; subst hp
  exact ⟨h, by simp, by simp, by simp⟩
 | succ n ih =>
  intro l hl h p hp
  rcases zbq l with h0 | ⟨A, d, B, rfl, hd, hA⟩
  ·rw [z0g l h0] at hp
   simp at hp; subst hp
   exact ⟨h, h0, Nat.le_refl _, fun _ h => h⟩
  ·rw [z0d hd B A hA] at hp
   obtain ⟨f1, f2⟩ := zcf hd hA h
   rcases List.mem_cons.1 hp with rfl | hp
   ·exact ⟨f1, hA, by simp only [List.length_append, List.length_cons]; omega, fun r hr => by simp [hr]⟩
   ·have hlen : B.length ≤ n := by simp at hl; omega
    obtain ⟨q1, q2, q3, q4⟩ := ih B hlen f2 p hp
    exact ⟨q1, q2, by simp only [List.length_append, List.length_cons]; omega, fun r hr => by simp [q4 r hr]⟩
end Go.AE
end
