/- Contracts of functions that the laws of this seat reach, and plain laws of what they compute. No condition beyond each statement's own. -/
import Derived.Test.YtoppecphhiiiiaaGreatDoorK1
import Derived.Test.YtoppecphhiiiiaaGreatDoorV1
import Derived.Test.YtoppecphhiiiiaaGreatDoorU1
set_option linter.unusedVariables false
set_option linter.unusedSimpArgs false
section
namespace Go.AE
open Go.Proofs
set_option maxRecDepth 20000
set_option maxHeartbeats 4000000
set_option linter.unusedSimpArgs false
def bO (r : Int) : Prop := -2147483648 ≤ r ∧ r ≤ 2147483647
theorem uO (r : Int) : cls r ≤ 300 := by
 by_cases h : cls r = 0
 ·omega
 ·have := List.all_eq_true.1 (show (xQ.all fun r => decide (cls r ≤ 300)) = true by decide +kernel) r (BO h)
  simpa using this
def bK : List AV := cN (sM 42) (pM 42)
theorem cT : (AV.ag bK) = tab := rfl
theorem nZ : bK.length = 5 := rfl
theorem fC (ρ : Nat → Nat) : rens ρ bK = bK := rfl
theorem gJ : bK.all dI = true := rfl
theorem oT : bK.take 5 = bK := rfl
theorem bJ (n : Nat) : belows n bK = true := rfl
theorem nK (a b : Int) (ha : bO a) (hb : bO b) : aG Tryz.prog 165 [aB a, aB b, .cp bK] (aA (cls a - cls b)) := by
 refine sp [.tmp 5] Tryz.func165 Tryz.ntmps165 ?_
 have h1 := uP a
 have h2 := uP b
 have h3 := uO a
 have h4 := uO b
 repeat' first | refine aM (sE a ha.1 ha.2) ?_ ?_ | refine aM (sE b hb.1 hb.2) ?_ ?_ | simp (maxSteps := 4000000) (disch := omega) only [aZ, aY, bun, ↓aW, ↓aV, aO, findLabel, ↓reduceIte, imp, shift, aR, aJ, unown, names, aQ, below, aD, aC, aT, aU, aS, ren, aN, aP, aX, renO, belowM, seval, -Int.reduceToNat, bK, cN, tab, bT, b9, Int.toNat_zero] | exact bH _ | refine bG _ _ ?_ | exact bC.cl | refine bE _ ?_ | refine bF _ _ ?_ ?_ | refine bA _ ?_ | refine fkx ?_ tru <;> intro hg | refine fkx ?_ ?_ <;> intro hg | exact fkx tru tru | refine And.intro (by omega) ?_ | omega
theorem zau (l : List Int) (hl : l.length ≤ 1000000) : aG Tryz.prog 162 [.sl l.length (l.map aB)] (.own 21 1 l.length (l.map aB)) := by
 by_cases h0 : 0 < l.length
 ·refine sp [.tmp 2] Tryz.func162 Tryz.ntmps162 ?_
  repeat' first | simp (maxSteps := 4000000) (disch := omega) only [aZ, aY, bun, ↓aW, ↓aV, aO, findLabel, ↓reduceIte, imp, shift, aR, aJ, unown, names, aQ, below, aD, aC, aT, aU, aS, ren, aN, aP, aX, renO, belowM, seval, -Int.reduceToNat, bT, b9, Int.toNat_zero] | refine bA _ ?_ | refine fkx ?_ tru <;> intro hg | refine fkx ?_ ?_ <;> intro hg | exact fkx tru tru | refine And.intro (by omega) ?_ | omega
 ·have e : l = [] := List.length_eq_zero_iff.1 (by omega)
  subst e
  have c0 : aG Tryz.prog 162 [.v (.slice none 0 0)] (.own 21 1 0 []) := by
   refine sp [.tmp 2] Tryz.func162 Tryz.ntmps162 ?_
   repeat' first | simp (maxSteps := 4000000) (disch := omega) only [aZ, aY, bun, ↓aW, ↓aV, aO, findLabel, ↓reduceIte, imp, shift, aR, aJ, unown, names, aQ, below, aD, aC, aT, aU, aS, ren, aN, aP, aX, renO, belowM, seval, -Int.reduceToNat, bT, b9, Int.toNat_zero] | refine bA _ ?_ | refine fkx ?_ tru <;> intro hg | refine fkx ?_ ?_ <;> intro hg | exact fkx tru tru | refine And.intro (by omega) ?_ | omega
  have c1 : ∀ b o c, aG Tryz.prog 162 [.v (.slice (some ⟨b, o, none⟩) 0 c)] (.own 21 1 0 []) := by
   intro b o c
   refine sp [.tmp 2] Tryz.func162 Tryz.ntmps162 ?_
   repeat' first | simp (maxSteps := 4000000) (disch := omega) only [aZ, aY, bun, ↓aW, ↓aV, aO, findLabel, ↓reduceIte, imp, shift, aR, aJ, unown, names, aQ, below, aD, aC, aT, aU, aS, ren, aN, aP, aX, renO, belowM, seval, -Int.reduceToNat, bT, b9, Int.toNat_zero] | refine bA _ ?_ | refine fkx ?_ tru <;> intro hg | refine fkx ?_ ?_ <;> intro hg | exact fkx tru tru | refine And.intro (by omega) ?_ | omega
  refine ⟨c0.1, fun w F vs hw hT hr => ?_⟩
  cases hr with
  | cons h0 hr =>
   cases hr
   rcases h0.sl_inv with ⟨h1, _⟩ | ⟨a, cap, us, h1, _, _, h4, _⟩
   ·rw [h1]
    exact c0.2 w F _ hw hT (.cons (.v _) .nil)
   ·rw [h1]
    obtain ⟨b, o, sp⟩ := a
    have h5 : sp = none := h4.1
    subst h5
    exact (c1 b o cap).2 w F _ hw hT (.cons (.v _) .nil)
theorem mU : ∀ (L : List Int) (k : Nat) (x : Int), nU (L.map aB) k (.v (.int .i32 x)) = (L.set k x).map aB
 | [], _, _ => rfl
 | a :: L, 0, x => rfl
 | a :: L, k + 1, x => by
  have := mU L k x
  simp only [List.map_cons, nU, List.set_cons_succ, this]
theorem FB (L : List Int) (off len a b n : Nat) (h1 : a + n ≤ len) (h2 : b + n ≤ len) (h3 : off + len ≤ L.length) (hd : a + n ≤ b) (hL : L.length ≤ 1000000) : eV Tryz.prog 222 [.row true 1 bK, .row false 1 (L.map aB)] [.ref 1 off len, aA a, aA b, aA n, .fn 165 [] [.ptr 0 0]] [.row true 1 bK, .row false 1 ((kI L (off + a) (off + b) n).map aB), .fence] (.tup []) := by
 refine jV (ts := []) bZ Tryz.func222 rfl rfl (by decide +kernel) (by simp [Tryz.ntmps222]) rfl ?_
 have hbt : belows 3 bK = true := rfl
 repeat' first | simp (maxSteps := 4000000) (disch := omega) only [aZ, aY, bun, ↓aW, ↓aV, aO, findLabel, ↓reduceIte, imp, shift, aR, aJ, unown, names, aQ, below, aD, aC, aT, aU, aS, ren, aN, aP, aX, renO, belowM, seval, -Int.reduceToNat, bT, b9, Int.toNat_zero] | refine bA _ ?_ | refine fkx ?_ tru <;> intro hg | refine fkx ?_ ?_ <;> intro hg | exact fkx tru tru | refine And.intro (by omega) ?_ | omega
 refine bL (fun i : Nat => ⟨[(0, .ref 1 off len), (1, aA a), (2, aA b), (3, aA n), (10, aA i)], [.row true 1 bK, .row false 1 ((kI L (off + a) (off + b) i).map aB), .fence]⟩) (fun i => i ≤ n) (fun i => n - i) 0 (by simp) (by (simp (disch := omega) [wk, aL, aI, aD, aC, get, aK, belowM, below, belows, aA, aB, Bv, U8, Sv, kI, hbt] <;> try omega)) ?_
 intro i hi
 have hsl := zku L (off + a) (off + b) i
 by_cases hlt : i < n
 ·have e1 : ((a : Int) + (i : Int)).toNat = a + i := by omega
  have e2 : ((b : Int) + (i : Int)).toNat = b + i := by omega
  repeat' first | simp (maxSteps := 4000000) (disch := omega) only [aZ, aY, bun, ↓aW, ↓aV, aO, findLabel, ↓reduceIte, imp, shift, aR, aJ, unown, names, aQ, below, aD, aC, aT, aU, aS, ren, aN, aP, aX, renO, belowM, seval, -Int.reduceToNat, hsl, mU, e1, e2, List.length_set, bT, b9, Int.toNat_zero] | refine bA _ ?_ | refine fkx ?_ tru <;> intro hg | refine fkx ?_ ?_ <;> intro hg | exact fkx tru tru | refine And.intro (by omega) ?_ | omega
  refine ⟨i + 1, by omega, by omega, ?_⟩
  rw [kI, ← Nat.add_assoc, ← Nat.add_assoc]
  (simp (disch := omega) [wk, aL, aI, aD, aC, get, aK, belowM, below, belows, aA, aB, Bv, U8, Sv, hbt] <;> try omega)
 ·have e : i = n := by omega
  subst e
  repeat' first | simp (maxSteps := 4000000) (disch := omega) only [aZ, aY, bun, ↓aW, ↓aV, aO, findLabel, ↓reduceIte, imp, shift, aR, aJ, unown, names, aQ, below, aD, aC, aT, aU, aS, ren, aN, aP, aX, renO, belowM, seval, -Int.reduceToNat, bT, b9, Int.toNat_zero] | refine bA _ ?_ | refine fkx ?_ tru <;> intro hg | refine fkx ?_ ?_ <;> intro hg | exact fkx tru tru | refine And.intro (by omega) ?_ | omega
end Go.AE
-- types: B0 B3 B4 B21 B29 B63 B162
end
section
namespace Go.AE
open Go.Proofs
set_option maxRecDepth 20000
set_option maxHeartbeats 4000000
set_option linter.unusedSimpArgs false
theorem y4 {P Q R S : Prop} {H : Prop} (o : H) (a : Q) (b : R) (c : S) (h : H → Mk P → bD Q → bD R → bD S → P := by
 intro w m q r s
 repeat' first | refine aM (by first | assumption | (apply_assumption <;> omega)) ?_ ?_ | refine cM.fit (by assumption) ?_ | simp (maxSteps := 4000000) (disch := omega) only [aZ, aY, bun, ↓aW, ↓aV, aO, findLabel, ↓reduceIte, imp, shift, aR, aJ, unown, names, aQ, below, aD, aC, aT, aU, aS, ren, aN, aP, aX, renO, belowM, seval, -Int.reduceToNat, bT, b9, fC, bJ, w] | exact bH _ | refine bG _ _ ?_ | exact bC.cl | refine bE _ ?_ | refine bF _ _ ?_ ?_ | refine bA _ ?_ | refine fkx ?_ tru <;> intro hg | refine fkx ?_ ?_ <;> intro hg | exact fkx tru tru | refine And.intro (by omega) ?_ | omega
 first
 | done
 | all_goals (repeat revert hg)
   exact q.out
   first
   | done
   | exact r.out
     first
     | done
     | exact s.out
       first | done | fail) : P := h o ⟨tru⟩ ⟨a⟩ ⟨b⟩ ⟨c⟩
theorem zji (A X Y B : List Int) (off len a m b : Nat) (hX : 0 < X.length) (hY : 0 < Y.length) (ha : off + a = A.length) (hm : m = a + X.length) (hb : b = m + Y.length) (hl : b ≤ len) (ho : off + len ≤ (A ++ X ++ Y ++ B).length) (hL : (A ++ X ++ Y ++ B).length ≤ 1000000) :
  eV Tryz.prog 217 [.row true 1 bK, .row false 1 ((A ++ X ++ Y ++ B).map aB)] [.ref 1 off len, aA a, aA m, aA b, .fn 165 [] [.ptr 0 0]] [.row true 1 bK, .row false 1 ((A ++ Y ++ X ++ B).map aB), .fence] (.tup []) := by
 refine jV (ts := []) bZ Tryz.func217 rfl rfl (by decide +kernel) (by simp [Tryz.ntmps217]) rfl ?_
 refine y4 tru ?_ tru tru <;> intros
 refine bL (fun x : List Int × List Int × List Int × List Int => ⟨[(0, .ref 1 off len), (2, aA m), (4, .fn 165 [] [.ptr 0 0]), (10, aA x.2.1.length), (11, aA x.2.2.1.length)], [.row true 1 bK, .row false 1 ((x.1 ++ x.2.1 ++ x.2.2.1 ++ x.2.2.2).map aB), .fence]⟩)
  (fun x => 0 < x.2.1.length ∧ 0 < x.2.2.1.length ∧ off + m = x.1.length + x.2.1.length ∧ (x.1 ++ x.2.1 ++ x.2.2.1 ++ x.2.2.2).length = (A ++ X ++ Y ++ B).length ∧ x.1 ++ x.2.2.1 ++ x.2.1 ++ x.2.2.2 = A ++ Y ++ X ++ B ∧ off + a ≤ x.1.length ∧ x.1.length + x.2.1.length + x.2.2.1.length ≤ off + b) (fun x => x.2.1.length + x.2.2.1.length) (A, X, Y, B) ⟨hX, hY, by dsimp only; omega, rfl, rfl, by dsimp only; omega, by dsimp only; omega⟩ ?_ ?_
 ·have e1 : (m : Int) - a = X.length := by omega
  have e2 : (b : Int) - m = Y.length := by omega
  (simp (disch := omega) [wk, aL, aI, aD, aC, get, aK, belowM, below, belows, aA, aB, Bv, U8, Sv, bJ, e1, e2] <;> try omega)
 ·rintro ⟨P, X', Y', Q⟩ ⟨q1, q2, q3, q4, q5, q6, q7⟩
  dsimp only at q1 q2 q3 q4 q5 q6 q7
  have hlen : (P ++ X' ++ Y' ++ Q).length = P.length + X'.length + Y'.length + Q.length := by simp; omega
  have hlen2 : (A ++ X ++ Y ++ B).length = A.length + X.length + Y.length + B.length := by simp; omega
  have c1 : (m : Int) - X'.length = ((m - X'.length : Nat) : Int) := by omega
  by_cases hij : X'.length = Y'.length
  ·have hs : kI (P ++ X' ++ Y' ++ Q) (off + (m - X'.length)) (off + m) X'.length = P ++ Y' ++ X' ++ Q := by
    have := AC X'.length P X' [] Y' Q rfl hij.symm
    simp only [List.append_nil, List.length_nil, Nat.add_zero] at this
    rw [show off + (m - X'.length) = P.length by omega, show off + m = P.length + X'.length by omega]
    exact this
   (have := cM.mk (σ := [0, 1]) (FB (P ++ X' ++ Y' ++ Q) off len (m - X'.length) m X'.length (by omega) (by omega) (by omega) (by omega) (by omega)); refine y4 (And.intro c1 hs) ?_ tru tru <;> intros)
   rw [q5]
  ·by_cases hgt : Y'.length < X'.length
   ·have hX' : X' = X'.take Y'.length ++ X'.drop Y'.length := (List.take_append_drop _ _).symm
    have l1 : (X'.take Y'.length).length = Y'.length := by simp; omega
    have l2 : (X'.drop Y'.length).length = X'.length - Y'.length := by simp
    have hs : kI (P ++ X' ++ Y' ++ Q) (off + (m - X'.length)) (off + m) Y'.length = P ++ Y' ++ X'.drop Y'.length ++ X'.take Y'.length ++ Q := by
     have := AC Y'.length P (X'.take Y'.length) (X'.drop Y'.length) Y' Q l1 rfl
     rw [List.append_assoc P, List.take_append_drop] at this
     rw [show off + (m - X'.length) = P.length by omega, show off + m = P.length + Y'.length + (X'.drop Y'.length).length by omega]
     exact this
    have c2 : (X'.length : Int) - Y'.length = ((X'.drop Y'.length).length : Int) := by omega
    (have := cM.mk (σ := [0, 1]) (FB (P ++ X' ++ Y' ++ Q) off len (m - X'.length) m Y'.length (by omega) (by omega) (by omega) (by omega) (by omega)); refine y4 (And.intro c1 (And.intro hs c2)) ?_ tru tru <;> intros)
    refine ⟨(P ++ Y', X'.drop Y'.length, X'.take Y'.length, Q), ⟨?_, ?_, ?_, ?_, ?_, ?_, ?_⟩, ?_, ?_⟩
    ·rw [l2]; omega
    ·rw [l1]; omega
    ·rw [List.length_append, l2]; omega
    ·simp only [List.length_append, l1, l2]; omega
    ·rw [← q5]
     conv => rhs; rw [hX']
     simp only [List.append_assoc]
    ·rw [List.length_append]; omega
    ·rw [List.length_append, l1, l2]; omega
    ·dsimp only; rw [l1, l2]; omega
    ·(simp (disch := omega) [wk, aL, aI, aD, aC, get, aK, belowM, below, belows, aA, aB, Bv, U8, Sv, bJ] <;> try omega)
   ·have hY' : Y' = Y'.take (Y'.length - X'.length) ++ Y'.drop (Y'.length - X'.length) := (List.take_append_drop _ _).symm
    have l1 : (Y'.take (Y'.length - X'.length)).length = Y'.length - X'.length := by simp
    have l2 : (Y'.drop (Y'.length - X'.length)).length = X'.length := by simp; omega
    have hs : kI (P ++ X' ++ Y' ++ Q) (off + (m - X'.length)) (off + (m + Y'.length - X'.length)) X'.length = P ++ Y'.drop (Y'.length - X'.length) ++ Y'.take (Y'.length - X'.length) ++ X' ++ Q := by
     have := AC X'.length P X' (Y'.take (Y'.length - X'.length)) (Y'.drop (Y'.length - X'.length)) Q rfl l2
     rw [List.append_assoc (P ++ X'), List.take_append_drop] at this
     rw [show off + (m - X'.length) = P.length by omega, show off + (m + Y'.length - X'.length) = P.length + X'.length + (Y'.take (Y'.length - X'.length)).length by omega]
     exact this
    have c2 : (Y'.length : Int) - X'.length = ((Y'.take (Y'.length - X'.length)).length : Int) := by omega
    have c3 : (m : Int) + Y'.length - X'.length = ((m + Y'.length - X'.length : Nat) : Int) := by omega
    (have := cM.mk (σ := [0, 1]) (FB (P ++ X' ++ Y' ++ Q) off len (m - X'.length) (m + Y'.length - X'.length) X'.length (by omega) (by omega) (by omega) (by omega) (by omega)); refine y4 (And.intro c1 (And.intro hs (And.intro c2 c3))) ?_ tru tru <;> intros)
    refine ⟨(P, Y'.drop (Y'.length - X'.length), Y'.take (Y'.length - X'.length), X' ++ Q), ⟨?_, ?_, ?_, ?_, ?_, ?_, ?_⟩, ?_, ?_⟩
    ·rw [l2]; omega
    ·rw [l1]; omega
    ·rw [l2]; omega
    ·simp only [List.length_append, l1, l2]; omega
    ·rw [← q5]
     conv => rhs; rw [hY']
     simp only [List.append_assoc]
    ·exact q6
    ·dsimp only; rw [l1, l2]; omega
    ·dsimp only; rw [l1, l2]; omega
    ·(simp (disch := omega) [wk, aL, aI, aD, aC, get, aK, belowM, below, belows, aA, aB, Bv, U8, Sv, bJ, l2] <;> try omega)
end Go.AE
-- types: B0 B3 B4 B63 B162
end
section
namespace Go.AE
open Go.Proofs
set_option maxRecDepth 20000
set_option maxHeartbeats 4000000
set_option linter.unusedSimpArgs false
theorem z22 {P Q : List Int} {u v : Int} {k : Nat} (h : k = P.length) : ((P ++ u :: v :: Q).set (k + 1) u).set k v = P ++ v :: u :: Q := by
 subst h; simp
theorem wV {T : List Int} {j : Nat} (h0 : 0 < j) (h : j ≤ T.length) : T.take j = T.take (j - 1) ++ [T.getD (j - 1) 0] ∧ T.drop (j - 1) = T.getD (j - 1) 0 :: T.drop j := by
 obtain ⟨j, rfl⟩ : ∃ k, j = k + 1 := ⟨j - 1, by omega⟩
 simp only [Nat.add_sub_cancel]
 exact ⟨gB T j 0 (by omega), by rw [List.drop_eq_getElem_cons (by omega)]; simp [List.getD, show j < T.length by omega]⟩
theorem T1 {T : List Int} {x : Int} {j : Nat} (hT : Up cls T) (hj : j ≤ T.length) (h1 : ∀ w ∈ T.drop j, cls x < cls w) (h2 : 0 < j → cls (T.getD (j - 1) 0) ≤ cls x) : T.take j ++ x :: T.drop j = ssort cls (T ++ [x]) := by
 have := z1u (f := cls) (x := x) (A := T.take j) (B := T.drop j) (by rw [List.take_append_drop]; exact hT) (fun w hw => ?_) h1
 ·rw [List.take_append_drop] at this; exact this
 ·by_cases h0 : 0 < j
  ·obtain ⟨e1, _⟩ := wV h0 hj
   have hT' : Up cls (T.take j) := by
    rw [← List.take_append_drop j T] at hT
    exact (Up.append.1 hT).1
   rw [e1] at hT' hw
   rcases List.mem_append.1 hw with hw | hw
   ·have := z38 hT' w hw
    have := h2 h0; omega
   ·simp at hw; subst hw; exact h2 h0
  ·have : j = 0 := by omega
   subst this
   simp at hw
theorem xZ {P Q R S : Prop} (a : Q) (b : R) (c : S) (h : Mk P → bD Q → bD R → bD S → P := by
 intro m q r s
 repeat' first | refine aM (by first | assumption | (apply_assumption <;> omega)) ?_ ?_ | refine cM.fit (by assumption) ?_ | simp (maxSteps := 4000000) (disch := omega) only [aZ, aY, bun, ↓aW, ↓aV, aO, findLabel, ↓reduceIte, imp, shift, aR, aJ, unown, names, aQ, below, aD, aC, aT, aU, aS, ren, aN, aP, aX, renO, belowM, seval, -Int.reduceToNat, bT, b9, fC, bJ, mU, List.length_set, *] | exact bH _ | refine bG _ _ ?_ | exact bC.cl | refine bE _ ?_ | refine bF _ _ ?_ ?_ | refine bA _ ?_ | refine fkx ?_ tru <;> intro hg | refine fkx ?_ ?_ <;> intro hg | exact fkx tru tru | refine And.intro (by omega) ?_ | omega
 first
 | done
 | all_goals (repeat revert hg)
   exact q.out
   first
   | done
   | exact r.out
     first
     | done
     | exact s.out
       first | done | fail) : P := h ⟨tru⟩ ⟨a⟩ ⟨b⟩ ⟨c⟩
theorem T6 (A S B : List Int) (off len a b : Nat) (ha : off + a = A.length) (hb : b = a + S.length) (hl : b ≤ len) (ho : off + len ≤ (A ++ S ++ B).length) (hL : (A ++ S ++ B).length ≤ 1000000) (hr : ∀ r ∈ S, bO r) :
  eV Tryz.prog 207 [.row true 1 bK, .row false 1 ((A ++ S ++ B).map aB)] [.ref 1 off len, aA a, aA b, .fn 165 [] [.ptr 0 0]] [.row true 1 bK, .row false 1 ((A ++ ssort cls S ++ B).map aB), .fence] (.tup []) := by
 refine jV (ts := []) bZ Tryz.func207 rfl rfl (by decide +kernel) (by simp [Tryz.ntmps207]) rfl ?_
 have hlen : (A ++ S ++ B).length = A.length + S.length + B.length := by simp; omega
 refine xZ ?_ tru tru <;> intros
 refine bL (fun i : Nat => ⟨[(0, .ref 1 off len), (1, aA a), (2, aA b), (3, .fn 165 [] [.ptr 0 0]), (8, aA (a + i))], [.row true 1 bK, .row false 1 ((A ++ ssort cls (S.take i) ++ S.drop i ++ B).map aB), .fence]⟩)
  (fun i => 1 ≤ i ∧ (i ≤ S.length ∨ i = 1)) (fun i => S.length + 1 - i) 1 ⟨Nat.le_refl _, .inr rfl⟩ ?_ ?_
 ·have e : A ++ ssort cls (S.take 1) ++ S.drop 1 ++ B = A ++ S ++ B := by
   have : ssort cls (S.take 1) = S.take 1 := wS (by cases S <;> simp [Up])
   rw [this, List.append_assoc A, List.take_append_drop]
  rw [e]
  (simp (disch := omega) [wk, aL, aI, aD, aC, get, aK, belowM, below, belows, aA, aB, Bv, U8, Sv, bJ] <;> try omega)
 ·rintro i ⟨hi1, hi2⟩
  by_cases hlt : i < S.length
  ·obtain ⟨hTu, hTk⟩ := jW cls (S.take i)
   have hTl := nV cls (S.take i)
   rw [List.length_take, Nat.min_eq_left (by omega)] at hTl
   have hsx : S.drop i = S.getD i 0 :: S.drop (i + 1) := by rw [List.drop_eq_getElem_cons hlt]; simp [List.getD, hlt]
   have hst := gB S i 0 hlt
   have hrx : bO (S.getD i 0) := hr _ (by simp [List.getD, hlt])
   have hrT : ∀ w ∈ ssort cls (S.take i), bO w := fun w hw => hr w (List.mem_of_mem_take (hTk.mem.1 hw))
   have hfin : ssort cls (S.take (i + 1)) = ssort cls (ssort cls (S.take i) ++ [S.getD i 0]) := by rw [hst]; exact EU ((hTk.app (bQ.refl _ _)).symm)
   have hdl : (S.drop (i + 1)).length = S.length - (i + 1) := List.length_drop
   rw [hsx]
   generalize S.getD i 0 = x at *
   generalize ssort cls (S.take i) = T at *
   generalize hD : S.drop (i + 1) = D at *
   refine xZ ?_ tru tru <;> intros
   refine bL (fun j : Nat => ⟨[(0, .ref 1 off len), (1, aA a), (2, aA b), (3, .fn 165 [] [.ptr 0 0]), (8, aA (a + i)), (9, aA (a + j))], [.row true 1 bK, .row false 1 ((A ++ T.take j ++ x :: T.drop j ++ D ++ B).map aB), .fence]⟩)
    (fun j => j ≤ T.length ∧ ∀ w ∈ T.drop j, cls x < cls w) (fun j => j) i ⟨by omega, by rw [List.drop_of_length_le (by omega)]; simp⟩ ?_ ?_
   ·rw [List.take_of_length_le (by omega), List.drop_of_length_le (by omega)]
    (simp (disch := omega) [wk, aL, aI, aD, aC, get, aK, belowM, below, belows, aA, aB, Bv, U8, Sv, bJ] <;> try omega)
   ·rintro j ⟨hj, hw⟩
    have hlj : (A ++ T.take j ++ x :: T.drop j ++ D ++ B).length = A.length + S.length + B.length := by simp; omega
    have hx : (A ++ T.take j ++ x :: T.drop j ++ D ++ B).getD (off + (a + j)) 0 = x := by
     rw [List.append_assoc _ _ D, List.append_assoc _ _ B, List.cons_append, List.cons_append]
     exact kP (by simp; omega)
    have e1 : ((a : Int) + (j : Int)).toNat = a + j := by omega
    by_cases h0 : 0 < j
    ·obtain ⟨t1, t2⟩ := wV h0 hj
     have e2 : ((a : Int) + (j : Int) - 1).toNat = a + (j - 1) := by omega
     have hru : bO (T.getD (j - 1) 0) := hrT _ (by simp [List.getD, show j - 1 < T.length by omega])
     have hu : (A ++ T.take j ++ x :: T.drop j ++ D ++ B).getD (off + (a + (j - 1))) 0 = T.getD (j - 1) 0 := by
      rw [t1]
      have : A ++ (T.take (j - 1) ++ [T.getD (j - 1) 0]) ++ x :: T.drop j ++ D ++ B = (A ++ T.take (j - 1)) ++ T.getD (j - 1) 0 :: (x :: T.drop j ++ D ++ B) := by simp
      rw [this]
      exact kP (by simp; omega)
     have hsw : ((A ++ T.take j ++ x :: T.drop j ++ D ++ B).set (off + (a + j)) (T.getD (j - 1) 0)).set (off + (a + (j - 1))) x = A ++ T.take (j - 1) ++ x :: T.drop (j - 1) ++ D ++ B := by
      rw [t1, t2]
      have : A ++ (T.take (j - 1) ++ [T.getD (j - 1) 0]) ++ x :: T.drop j ++ D ++ B = (A ++ T.take (j - 1)) ++ T.getD (j - 1) 0 :: x :: (T.drop j ++ D ++ B) := by simp
      rw [this, show off + (a + j) = off + (a + (j - 1)) + 1 by omega, z22 (by simp; omega)]
      simp
     generalize hue : T.getD (j - 1) 0 = u at *
     by_cases hc : cls x < cls u
     ·repeat' first | refine aM (nK x u hrx hru) ?_ ?_ | simp (maxSteps := 4000000) (disch := omega) only [aZ, aY, bun, ↓aW, ↓aV, aO, findLabel, ↓reduceIte, imp, shift, aR, aJ, unown, names, aQ, below, aD, aC, aT, aU, aS, ren, aN, aP, aX, renO, belowM, seval, -Int.reduceToNat, e1, e2, hx, hu, hlj, mU, List.length_set, hsw, bT, b9, fC, bJ] | exact bH _ | refine bG _ _ ?_ | exact bC.cl | refine bE _ ?_ | refine bF _ _ ?_ ?_ | refine bA _ ?_ | refine fkx ?_ tru <;> intro hg | refine fkx ?_ ?_ <;> intro hg | exact fkx tru tru | refine And.intro (by omega) ?_ | omega
      refine ⟨j - 1, ⟨by omega, fun w hw' => ?_⟩, by omega, ?_⟩
      ·rw [t2] at hw'
       rcases List.mem_cons.1 hw' with rfl | hw'
       ·exact hc
       ·exact hw w hw'
      ·(simp (disch := omega) [wk, aL, aI, aD, aC, get, aK, belowM, below, belows, aA, aB, Bv, U8, Sv, bJ] <;> try omega)
     ·repeat' first | refine aM (nK x u hrx hru) ?_ ?_ | simp (maxSteps := 4000000) (disch := omega) only [aZ, aY, bun, ↓aW, ↓aV, aO, findLabel, ↓reduceIte, imp, shift, aR, aJ, unown, names, aQ, below, aD, aC, aT, aU, aS, ren, aN, aP, aX, renO, belowM, seval, -Int.reduceToNat, e1, e2, hx, hu, hlj, mU, List.length_set, bT, b9, fC, bJ] | exact bH _ | refine bG _ _ ?_ | exact bC.cl | refine bE _ ?_ | refine bF _ _ ?_ ?_ | refine bA _ ?_ | refine fkx ?_ tru <;> intro hg | refine fkx ?_ ?_ <;> intro hg | exact fkx tru tru | refine And.intro (by omega) ?_ | omega
      have hio := T1 (j := j) hTu hj hw (fun _ => by rw [hue]; omega)
      refine ⟨i + 1, ⟨by omega, .inl (by omega)⟩, by omega, ?_⟩
      rw [hD, hfin, ← hio, ← List.append_assoc A]
      (simp (disch := omega) [wk, aL, aI, aD, aC, get, aK, belowM, below, belows, aA, aB, Bv, U8, Sv, bJ] <;> try omega)
    ·have e : j = 0 := by omega
     subst e
     have hio := T1 (j := 0) hTu hj hw (fun h => by omega)
     refine xZ ?_ tru tru <;> intros
     refine ⟨i + 1, ⟨by omega, .inl (by omega)⟩, by omega, ?_⟩
     rw [hD, hfin, ← hio]
     (simp (disch := omega) [wk, aL, aI, aD, aC, get, aK, belowM, below, belows, aA, aB, Bv, U8, Sv, bJ] <;> try omega)
  ·have e1 : S.take i = S := List.take_of_length_le (by omega)
   have e2 : S.drop i = [] := List.drop_of_length_le (by omega)
   exact xZ tru tru tru
end Go.AE
-- types: B0 B3 B4 B21 B63 B162
end
section
namespace Go.AE
open Go.Proofs
set_option maxRecDepth 20000
set_option maxHeartbeats 8000000
set_option linter.unusedSimpArgs false
theorem z23 {P Q : List Int} {u v : Int} {k : Nat} (h : k = P.length) : ((P ++ u :: v :: Q).set k v).set (k + 1) u = P ++ v :: u :: Q := by
 subst h; simp
theorem AJ {f : Int → Int} {T : List Int} {j : Nat} {x : Int} (hT : Up f T) (hj : j ≤ T.length) (h2 : 0 < j → f (T.getD (j - 1) 0) ≤ x) : ∀ w ∈ T.take j, f w ≤ x := fun w hw => by
 by_cases h0 : 0 < j
 ·obtain ⟨e1, _⟩ := wV h0 hj
  have hT' : Up f (T.take j) := by
   rw [← List.take_append_drop j T] at hT
   exact (Up.append.1 hT).1
  rw [e1] at hT' hw
  rcases List.mem_append.1 hw with hw | hw
  ·have := z38 hT' w hw
   have := h2 h0; omega
  ·simp at hw; subst hw; exact h2 h0
 ·have : j = 0 := by omega
  subst this
  simp at hw
theorem AI {f : Int → Int} {T : List Int} {j : Nat} {x : Int} (hT : Up f T) (h2 : j < T.length → x ≤ f (T.getD j 0)) : ∀ w ∈ T.drop j, x ≤ f w := fun w hw => by
 by_cases h0 : j < T.length
 ·have e : T.drop j = T.getD j 0 :: T.drop (j + 1) := by rw [List.drop_eq_getElem_cons h0]; simp [List.getD, h0]
  have hT' : Up f (T.drop j) := by
   rw [← List.take_append_drop j T] at hT
   exact (Up.append.1 hT).2.1
  rw [e] at hT' hw
  rcases List.mem_cons.1 hw with rfl | hw
  ·exact h2 h0
  ·have := hT'.1 w hw
   have := h2 h0; omega
 ·rw [List.drop_of_length_le (by omega)] at hw; cases hw
theorem qW {A X R : List Int} {k : Nat} (h : k < X.length) : (A ++ X ++ R).getD (A.length + k) 0 = X.getD k 0 := by
 rw [List.append_assoc, List.getD_eq_getElem?_getD, List.getElem?_append_right (by omega), List.getElem?_append_left (by omega), ← List.getD_eq_getElem?_getD]
 congr 1; omega
theorem pK {X : List Int} {k : Nat} (h : k < X.length) : X.getD k 0 ∈ X := by simp [List.getD, h]
abbrev fnO : AV := .fn 165 [] [.ptr 0 0]
def xB (n : Nat) : Prop := ∀ (A X Y B : List Int) (off len a m b : Nat), X.length + Y.length ≤ n → 0 < X.length → 0 < Y.length → off + a = A.length → m = a + X.length → b = m + Y.length → b ≤ len → off + len ≤ (A ++ X ++ Y ++ B).length → (A ++ X ++ Y ++ B).length ≤ 1000000 → (∀ r ∈ X, bO r) → (∀ r ∈ Y, bO r) → Up cls X → Up cls Y →
  eV Tryz.prog 208 [.row true 1 bK, .row false 1 ((A ++ X ++ Y ++ B).map aB)] [.ref 1 off len, aA a, aA m, aA b, .fn 165 [] [.ptr 0 0]] [.row true 1 bK, .row false 1 ((A ++ ssort cls (X ++ Y) ++ B).map aB), .fence] (.tup [])
theorem sO {P Q R S : Prop} (a : Q) (b : R) (c : S) (h : Mk P → bD Q → bD R → bD S → P := by
 intro m q r s
 repeat' first | refine aM (by first | assumption | (apply_assumption <;> omega)) ?_ ?_ | refine cM.fit (by assumption) ?_ | simp (maxSteps := 4000000) (disch := omega) only [aZ, aY, bun, ↓aW, ↓aV, aO, findLabel, ↓reduceIte, imp, shift, aR, aJ, unown, names, aQ, below, aD, aC, aT, aU, aS, ren, aN, aP, aX, renO, belowM, seval, -Int.reduceToNat, bT, b9, fC, bJ, mU, List.length_set, List.append_assoc, *] | exact bH _ | refine bG _ _ ?_ | exact bC.cl | refine bE _ ?_ | refine bF _ _ ?_ ?_ | refine bA _ ?_ | refine fkx ?_ tru <;> intro hg | refine fkx ?_ ?_ <;> intro hg | exact fkx tru tru | refine And.intro (by omega) ?_ | omega
 first
 | done
 | all_goals (repeat revert hg)
   exact q.out
   first
   | done
   | exact r.out
     first
     | done
     | exact s.out
       first | done | fail) : P := h ⟨tru⟩ ⟨a⟩ ⟨b⟩ ⟨c⟩
theorem zkv {A Y B : List Int} {x : Int} {off len a m b : Nat} (hY0 : 0 < Y.length) (ha : off + a = A.length) (hm : m = a + 1) (hb : b = m + Y.length) (hl : b ≤ len) (ho : off + len ≤ (A ++ [x] ++ Y ++ B).length) (hL : (A ++ [x] ++ Y ++ B).length ≤ 1000000) (hx : bO x) (hy : ∀ r ∈ Y, bO r) (hu : Up cls Y) :
  eV Tryz.prog 208 [.row true 1 bK, .row false 1 ((A ++ [x] ++ Y ++ B).map aB)] [.ref 1 off len, aA a, aA m, aA b, .fn 165 [] [.ptr 0 0]] [.row true 1 bK, .row false 1 ((A ++ ssort cls (x :: Y) ++ B).map aB), .fence] (.tup []) := by
 refine jV (ts := []) bZ Tryz.func208 rfl rfl (by decide +kernel) (by simp [Tryz.ntmps208]) rfl ?_
 have hlen : (A ++ [x] ++ Y ++ B).length = A.length + 1 + Y.length + B.length := by simp; omega
 have hgx : (A ++ [x] ++ Y ++ B).getD (off + a) 0 = x := by
  rw [ha, List.append_assoc _ Y]
  exact qW (X := [x]) (k := 0) (by simp)
 refine sO ?_ tru tru <;> intros
 refine bL (fun p : Nat × Nat => ⟨[(0, .ref 1 off len), (1, aA a), (4, .fn 165 [] [.ptr 0 0]), (10, aA (m + p.1)), (11, aA (m + p.2))], [.row true 1 bK, .row false 1 ((A ++ [x] ++ Y ++ B).map aB), .fence]⟩)
  (fun p => p.1 ≤ p.2 ∧ p.2 ≤ Y.length ∧ (0 < p.1 → cls (Y.getD (p.1 - 1) 0) < cls x) ∧ (p.2 < Y.length → cls x ≤ cls (Y.getD p.2 0))) (fun p => p.2 - p.1) (0, Y.length) ⟨by simp, Nat.le_refl _, fun h => absurd h (by simp), fun h => absurd h (by simp)⟩ ?_ ?_
 ·(simp (disch := omega) [wk, aL, aI, aD, aC, get, aK, belowM, below, belows, aA, aB, Bv, U8, Sv, bJ] <;> try omega)
 ·rintro ⟨p, q⟩ ⟨h1, h2, h3, h4⟩
  dsimp only at h1 h2 h3 h4
  by_cases hlt : p < q
  ·have e1 : ((m : Int) + (p : Int) + ((m : Int) + (q : Int))) / 2 = ((m + (p + q) / 2 : Nat) : Int) := by omega
   have hgy : (A ++ [x] ++ Y ++ B).getD (off + (m + (p + q) / 2)) 0 = Y.getD ((p + q) / 2) 0 := by
    have := qW (A := A ++ [x]) (X := Y) (R := B) (k := (p + q) / 2) (by omega)
    rw [← this]
    congr 1
    simp; omega
   have hyr := hy _ (pK (X := Y) (k := (p + q) / 2) (by omega))
   by_cases hc : cls (Y.getD ((p + q) / 2) 0) < cls x
   ·repeat' first | refine aM (nK _ _ hyr hx) ?_ ?_ | simp (maxSteps := 4000000) (disch := omega) only [aZ, aY, bun, ↓aW, ↓aV, aO, findLabel, ↓reduceIte, imp, shift, aR, aJ, unown, names, aQ, below, aD, aC, aT, aU, aS, ren, aN, aP, aX, renO, belowM, seval, -Int.reduceToNat, e1, hgx, hgy, bT, b9, fC, bJ] | exact bH _ | refine bG _ _ ?_ | exact bC.cl | refine bE _ ?_ | refine bF _ _ ?_ ?_ | refine bA _ ?_ | refine fkx ?_ tru <;> intro hg | refine fkx ?_ ?_ <;> intro hg | exact fkx tru tru | refine And.intro (by omega) ?_ | omega
    refine ⟨((p + q) / 2 + 1, q), ⟨by dsimp only; omega, h2, fun _ => by dsimp only; rw [Nat.add_sub_cancel]; exact hc, h4⟩, by dsimp only; omega, ?_⟩
    (simp (disch := omega) [wk, aL, aI, aD, aC, get, aK, belowM, below, belows, aA, aB, Bv, U8, Sv, bJ] <;> try omega)
   ·repeat' first | refine aM (nK _ _ hyr hx) ?_ ?_ | simp (maxSteps := 4000000) (disch := omega) only [aZ, aY, bun, ↓aW, ↓aV, aO, findLabel, ↓reduceIte, imp, shift, aR, aJ, unown, names, aQ, below, aD, aC, aT, aU, aS, ren, aN, aP, aX, renO, belowM, seval, -Int.reduceToNat, e1, hgx, hgy, bT, b9, fC, bJ] | exact bH _ | refine bG _ _ ?_ | exact bC.cl | refine bE _ ?_ | refine bF _ _ ?_ ?_ | refine bA _ ?_ | refine fkx ?_ tru <;> intro hg | refine fkx ?_ ?_ <;> intro hg | exact fkx tru tru | refine And.intro (by omega) ?_ | omega
    refine ⟨(p, (p + q) / 2), ⟨by dsimp only; omega, by dsimp only; omega, h3, fun _ => by dsimp only; omega⟩, by dsimp only; omega, ?_⟩
    (simp (disch := omega) [wk, aL, aI, aD, aC, get, aK, belowM, below, belows, aA, aB, Bv, U8, Sv, bJ] <;> try omega)
  ·have e : p = q := by omega
   subst e
   have hfin := zkk (f := cls) (x := x) (A := Y.take p) (B := Y.drop p) (by rw [List.take_append_drop]; exact hu) (fun w hw => by
    have := AJ (x := cls x - 1) hu h2 (fun h => by have := h3 h; omega) w hw
    omega) (AI hu h4)
   rw [List.take_append_drop] at hfin
   refine sO ?_ tru tru <;> intros
   refine bL (fun r : Nat => ⟨[(0, .ref 1 off len), (10, aA (m + p)), (13, aA (a + r))], [.row true 1 bK, .row false 1 ((A ++ Y.take r ++ x :: Y.drop r ++ B).map aB), .fence]⟩) (fun r => r ≤ p) (fun r => p - r) 0 (by simp) (by (simp (disch := omega) [wk, aL, aI, aD, aC, get, aK, belowM, below, belows, aA, aB, Bv, U8, Sv, bJ] <;> try omega)) ?_
   intro r hr
   have hlr : (A ++ Y.take r ++ x :: Y.drop r ++ B).length = A.length + 1 + Y.length + B.length := by simp; omega
   by_cases hrp : r < p
   ·have e1 : ((a : Int) + (r : Int)).toNat = a + r := by omega
    have e2 : ((a : Int) + (r : Int) + 1).toNat = a + r + 1 := by omega
    have hd : Y.drop r = Y.getD r 0 :: Y.drop (r + 1) := by rw [List.drop_eq_getElem_cons (by omega)]; simp [List.getD, show r < Y.length by omega]
    have ht := gB Y r 0 (by omega)
    have hga : (A ++ Y.take r ++ x :: Y.drop r ++ B).getD (off + (a + r)) 0 = x := by
     rw [List.append_assoc, List.cons_append]
     exact kP (by simp; omega)
    have hgb : (A ++ Y.take r ++ x :: Y.drop r ++ B).getD (off + (a + r + 1)) 0 = Y.getD r 0 := by
     rw [hd]
     have : A ++ Y.take r ++ x :: Y.getD r 0 :: Y.drop (r + 1) ++ B = (A ++ Y.take r ++ [x]) ++ Y.getD r 0 :: (Y.drop (r + 1) ++ B) := by simp
     rw [this]
     exact kP (by simp; omega)
    have hsw : ((A ++ Y.take r ++ x :: Y.drop r ++ B).set (off + (a + r)) (Y.getD r 0)).set (off + (a + r + 1)) x = A ++ Y.take (r + 1) ++ x :: Y.drop (r + 1) ++ B := by
     rw [hd, ht]
     have : A ++ Y.take r ++ x :: Y.getD r 0 :: Y.drop (r + 1) ++ B = (A ++ Y.take r) ++ x :: Y.getD r 0 :: (Y.drop (r + 1) ++ B) := by simp
     rw [this, show off + (a + r + 1) = off + (a + r) + 1 by omega, z23 (by simp; omega)]
     simp
    repeat' first | simp (maxSteps := 4000000) (disch := omega) only [aZ, aY, bun, ↓aW, ↓aV, aO, findLabel, ↓reduceIte, imp, shift, aR, aJ, unown, names, aQ, below, aD, aC, aT, aU, aS, ren, aN, aP, aX, renO, belowM, seval, -Int.reduceToNat, e1, e2, hga, hgb, hlr, mU, List.length_set, hsw, bT, b9, fC, bJ] | refine bA _ ?_ | refine fkx ?_ tru <;> intro hg | refine fkx ?_ ?_ <;> intro hg | exact fkx tru tru | refine And.intro (by omega) ?_ | omega
    refine ⟨r + 1, by omega, by omega, ?_⟩
    (simp (disch := omega) [wk, aL, aI, aD, aC, get, aK, belowM, below, belows, aA, aB, Bv, U8, Sv, bJ] <;> try omega)
   ·have e : r = p := by omega
    subst e
    rw [← hfin]
    exact sO tru tru tru
theorem zkx {A X B : List Int} {y : Int} {off len a m b : Nat} (hX0 : 1 < X.length) (ha : off + a = A.length) (hm : m = a + X.length) (hb : b = m + 1) (hl : b ≤ len) (ho : off + len ≤ (A ++ X ++ [y] ++ B).length) (hL : (A ++ X ++ [y] ++ B).length ≤ 1000000) (hy : bO y) (hx : ∀ r ∈ X, bO r) (hu : Up cls X) :
  eV Tryz.prog 208 [.row true 1 bK, .row false 1 ((A ++ X ++ [y] ++ B).map aB)] [.ref 1 off len, aA a, aA m, aA b, .fn 165 [] [.ptr 0 0]] [.row true 1 bK, .row false 1 ((A ++ ssort cls (X ++ [y]) ++ B).map aB), .fence] (.tup []) := by
 refine jV (ts := []) bZ Tryz.func208 rfl rfl (by decide +kernel) (by simp [Tryz.ntmps208]) rfl ?_
 have hlen : (A ++ X ++ [y] ++ B).length = A.length + X.length + 1 + B.length := by simp; omega
 have hgy : (A ++ X ++ [y] ++ B).getD (off + m) 0 = y := by
  rw [show off + m = (A ++ X).length + 0 by simp; omega]
  exact qW (A := A ++ X) (X := [y]) (R := B) (by simp)
 refine sO ?_ tru tru <;> intros
 refine bL (fun p : Nat × Nat => ⟨[(0, .ref 1 off len), (2, aA m), (4, .fn 165 [] [.ptr 0 0]), (14, aA (a + p.1)), (15, aA (a + p.2))], [.row true 1 bK, .row false 1 ((A ++ X ++ [y] ++ B).map aB), .fence]⟩)
  (fun p => p.1 ≤ p.2 ∧ p.2 ≤ X.length ∧ (0 < p.1 → cls (X.getD (p.1 - 1) 0) ≤ cls y) ∧ (p.2 < X.length → cls y < cls (X.getD p.2 0))) (fun p => p.2 - p.1) (0, X.length) ⟨by simp, Nat.le_refl _, fun h => absurd h (by simp), fun h => absurd h (by simp)⟩ ?_ ?_
 ·(simp (disch := omega) [wk, aL, aI, aD, aC, get, aK, belowM, below, belows, aA, aB, Bv, U8, Sv, bJ] <;> try omega)
 ·rintro ⟨p, q⟩ ⟨h1, h2, h3, h4⟩
  dsimp only at h1 h2 h3 h4
  by_cases hlt : p < q
  ·have e1 : ((a : Int) + (p : Int) + ((a : Int) + (q : Int))) / 2 = ((a + (p + q) / 2 : Nat) : Int) := by omega
   have hgx : (A ++ X ++ [y] ++ B).getD (off + (a + (p + q) / 2)) 0 = X.getD ((p + q) / 2) 0 := by
    rw [List.append_assoc (A ++ X), show off + (a + (p + q) / 2) = A.length + (p + q) / 2 by omega]
    exact qW (by omega)
   have hxr := hx _ (pK (X := X) (k := (p + q) / 2) (by omega))
   by_cases hc : cls y < cls (X.getD ((p + q) / 2) 0)
   ·repeat' first | refine aM (nK _ _ hy hxr) ?_ ?_ | simp (maxSteps := 4000000) (disch := omega) only [aZ, aY, bun, ↓aW, ↓aV, aO, findLabel, ↓reduceIte, imp, shift, aR, aJ, unown, names, aQ, below, aD, aC, aT, aU, aS, ren, aN, aP, aX, renO, belowM, seval, -Int.reduceToNat, e1, hgx, hgy, bT, b9, fC, bJ] | exact bH _ | refine bG _ _ ?_ | exact bC.cl | refine bE _ ?_ | refine bF _ _ ?_ ?_ | refine bA _ ?_ | refine fkx ?_ tru <;> intro hg | refine fkx ?_ ?_ <;> intro hg | exact fkx tru tru | refine And.intro (by omega) ?_ | omega
    refine ⟨(p, (p + q) / 2), ⟨by dsimp only; omega, by dsimp only; omega, h3, fun _ => hc⟩, by dsimp only; omega, ?_⟩
    (simp (disch := omega) [wk, aL, aI, aD, aC, get, aK, belowM, below, belows, aA, aB, Bv, U8, Sv, bJ] <;> try omega)
   ·repeat' first | refine aM (nK _ _ hy hxr) ?_ ?_ | simp (maxSteps := 4000000) (disch := omega) only [aZ, aY, bun, ↓aW, ↓aV, aO, findLabel, ↓reduceIte, imp, shift, aR, aJ, unown, names, aQ, below, aD, aC, aT, aU, aS, ren, aN, aP, aX, renO, belowM, seval, -Int.reduceToNat, e1, hgx, hgy, bT, b9, fC, bJ] | exact bH _ | refine bG _ _ ?_ | exact bC.cl | refine bE _ ?_ | refine bF _ _ ?_ ?_ | refine bA _ ?_ | refine fkx ?_ tru <;> intro hg | refine fkx ?_ ?_ <;> intro hg | exact fkx tru tru | refine And.intro (by omega) ?_ | omega
    refine ⟨((p + q) / 2 + 1, q), ⟨by dsimp only; omega, h2, fun _ => by dsimp only; rw [Nat.add_sub_cancel]; omega, h4⟩, by dsimp only; omega, ?_⟩
    (simp (disch := omega) [wk, aL, aI, aD, aC, get, aK, belowM, below, belows, aA, aB, Bv, U8, Sv, bJ] <;> try omega)
  ·have e : p = q := by omega
   subst e
   have hfin := z1u (f := cls) (x := y) (A := X.take p) (B := X.drop p) (by rw [List.take_append_drop]; exact hu) (AJ hu h2 h3) (fun w hw => by
    have := AI (x := cls y + 1) hu (fun h => by have := h4 h; omega) w hw
    omega)
   rw [List.take_append_drop] at hfin
   refine sO ?_ tru tru <;> intros
   refine bL (fun r : Nat => ⟨[(0, .ref 1 off len), (14, aA (a + p)), (17, aA (a + r))], [.row true 1 bK, .row false 1 ((A ++ X.take r ++ y :: X.drop r ++ B).map aB), .fence]⟩) (fun r => p ≤ r ∧ r ≤ X.length) (fun r => r) X.length ⟨h2, Nat.le_refl _⟩ (by rw [List.take_length, List.drop_length]; (simp (disch := omega) [wk, aL, aI, aD, aC, get, aK, belowM, below, belows, aA, aB, Bv, U8, Sv, bJ, hm] <;> try omega)) ?_
   rintro r ⟨hr, hr2⟩
   have hlr : (A ++ X.take r ++ y :: X.drop r ++ B).length = A.length + X.length + 1 + B.length := by simp; omega
   by_cases hrp : p < r
   ·have e1 : ((a : Int) + (r : Int)).toNat = a + r := by omega
    have e2 : ((a : Int) + (r : Int) - 1).toNat = a + (r - 1) := by omega
    obtain ⟨t1, t2⟩ := wV (show 0 < r by omega) hr2
    have hga : (A ++ X.take r ++ y :: X.drop r ++ B).getD (off + (a + r)) 0 = y := by
     rw [List.append_assoc, List.cons_append]
     exact kP (by simp; omega)
    have hgb : (A ++ X.take r ++ y :: X.drop r ++ B).getD (off + (a + (r - 1))) 0 = X.getD (r - 1) 0 := by
     rw [t1]
     have : A ++ (X.take (r - 1) ++ [X.getD (r - 1) 0]) ++ y :: X.drop r ++ B = (A ++ X.take (r - 1)) ++ X.getD (r - 1) 0 :: (y :: X.drop r ++ B) := by simp
     rw [this]
     exact kP (by simp; omega)
    have hsw : ((A ++ X.take r ++ y :: X.drop r ++ B).set (off + (a + r)) (X.getD (r - 1) 0)).set (off + (a + (r - 1))) y = A ++ X.take (r - 1) ++ y :: X.drop (r - 1) ++ B := by
     rw [t1, t2]
     have : A ++ (X.take (r - 1) ++ [X.getD (r - 1) 0]) ++ y :: X.drop r ++ B = (A ++ X.take (r - 1)) ++ X.getD (r - 1) 0 :: y :: (X.drop r ++ B) := by simp
     rw [this, show off + (a + r) = off + (a + (r - 1)) + 1 by omega, z22 (by simp; omega)]
     simp
    repeat' first | simp (maxSteps := 4000000) (disch := omega) only [aZ, aY, bun, ↓aW, ↓aV, aO, findLabel, ↓reduceIte, imp, shift, aR, aJ, unown, names, aQ, below, aD, aC, aT, aU, aS, ren, aN, aP, aX, renO, belowM, seval, -Int.reduceToNat, e1, e2, hga, hgb, hlr, mU, List.length_set, hsw, bT, b9, fC, bJ] | refine bA _ ?_ | refine fkx ?_ tru <;> intro hg | refine fkx ?_ ?_ <;> intro hg | exact fkx tru tru | refine And.intro (by omega) ?_ | omega
    refine ⟨r - 1, ⟨by omega, by omega⟩, by omega, ?_⟩
    (simp (disch := omega) [wk, aL, aI, aD, aC, get, aK, belowM, below, belows, aA, aB, Bv, U8, Sv, bJ] <;> try omega)
   ·have e : r = p := by omega
    subst e
    rw [← hfin]
    exact sO tru tru tru
end Go.AE
-- types: B0 B3 B4 B21 B63 B96 B162
end
section
namespace Go.AE
open Go.Proofs
set_option maxRecDepth 20000
set_option maxHeartbeats 8000000
set_option linter.unusedSimpArgs false
structure Cut (X Y : List Int) (a m mid s : Nat) : Prop where
 h1 : ∀ x ∈ X.take (s - a), ∀ y ∈ Y.drop (mid - s), cls x ≤ cls y
 h2 : ∀ y ∈ Y.take (mid - s), ∀ x ∈ X.drop (s - a), cls y < cls x
theorem PA {X Y : List Int} {a m b mid lo hi s : Nat} (hm : m = a + X.length) (hb : b = m + Y.length) (huX : Up cls X) (huY : Up cls Y) (hlo : mid < m → (lo : Int) = (mid : Int) + m - b ∧ hi = mid) (hhi : ¬ mid < m → lo = a ∧ hi = m)
  (g1 : a ≤ lo) (g2 : lo ≤ s) (g3 : s ≤ hi) (g4 : hi ≤ m) (g5 : hi ≤ mid) (hmb : mid + m - lo ≤ b) (h3 : lo < s → cls (X.getD (s - 1 - a) 0) ≤ cls (Y.getD (mid - s) 0)) (h4 : s < hi → cls (Y.getD (mid - 1 - s) 0) < cls (X.getD (s - a) 0)) : Cut X Y a m mid s := by
 constructor
 ·intro x hx y hy
  by_cases hl : lo < s
  ·have q := h3 hl
   have q1 := AJ (f := cls) (T := X) (j := s - a) (x := cls (X.getD (s - 1 - a) 0)) huX (by omega) (fun _ => by rw [show s - a - 1 = s - 1 - a by omega]; exact Int.le_refl _) x hx
   have q2 := AI (f := cls) (T := Y) (j := mid - s) (x := cls (Y.getD (mid - s) 0)) huY (fun _ => Int.le_refl _) y hy
   omega
  ·by_cases hc : mid < m
   ·have := hlo hc
    rw [List.drop_of_length_le (by omega)] at hy; cases hy
   ·have := hhi hc
    rw [show s - a = 0 by omega] at hx; simp at hx
 ·intro y hy x hx
  by_cases hl : s < hi
  ·have q := h4 hl
   have q1 := AJ (f := cls) (T := Y) (j := mid - s) (x := cls (Y.getD (mid - 1 - s) 0)) huY (by
    have := hmb
    by_cases hc : mid < m
    ·have := hlo hc; omega
    ·have := hhi hc; omega) (fun _ => by rw [show mid - s - 1 = mid - 1 - s by omega]; exact Int.le_refl _) y hy
   have q2 := AI (f := cls) (T := X) (j := s - a) (x := cls (X.getD (s - a) 0)) huX (fun _ => Int.le_refl _) x hx
   omega
  ·by_cases hc : mid < m
   ·have := hlo hc
    rw [show mid - s = 0 by omega] at hy; simp at hy
   ·have := hhi hc
    rw [List.drop_of_length_le (by omega)] at hx; cases hx
structure z8u (off len a m b mid s : Nat) (L0 L3 : List Int) : Prop where
 p : ∃ L1 L2 : List Int,
  ((s < m ∧ m < mid + m - s) → eV Tryz.prog 217 [.row true 1 bK, .row false 1 (L0.map aB)] [.ref 1 off len, aA s, aA m, aA (mid + m - s : Nat), .fn 165 [] [.ptr 0 0]] [.row true 1 bK, .row false 1 (L1.map aB), .fence] (.tup [])) ∧
  (¬ (s < m ∧ m < mid + m - s) → L0 = L1) ∧
  ((a < s ∧ s < mid) → eV Tryz.prog 208 [.row true 1 bK, .row false 1 (L1.map aB)] [.ref 1 off len, aA a, aA s, aA mid, .fn 165 [] [.ptr 0 0]] [.row true 1 bK, .row false 1 (L2.map aB), .fence] (.tup [])) ∧
  (¬ (a < s ∧ s < mid) → L1 = L2) ∧
  ((mid < mid + m - s ∧ mid + m - s < b) → eV Tryz.prog 208 [.row true 1 bK, .row false 1 (L2.map aB)] [.ref 1 off len, aA mid, aA (mid + m - s : Nat), aA b, .fn 165 [] [.ptr 0 0]] [.row true 1 bK, .row false 1 (L3.map aB), .fence] (.tup [])) ∧
  (¬ (mid < mid + m - s ∧ mid + m - s < b) → L2 = L3)
theorem XL {n : Nat} (ih : xB n) {A X Y B : List Int} {off len a m b mid s : Nat} (hn : X.length + Y.length ≤ n + 1) (ha : off + a = A.length) (hm : m = a + X.length) (hb : b = m + Y.length) (hl : b ≤ len) (ho : off + len ≤ (A ++ X ++ Y ++ B).length) (hL : (A ++ X ++ Y ++ B).length ≤ 1000000) (hx : ∀ r ∈ X, bO r) (hy : ∀ r ∈ Y, bO r) (huX : Up cls X) (huY : Up cls Y)
  (hmid : mid = (a + b) / 2) (hX1 : 1 < X.length) (hY1 : 1 < Y.length) (g1 : a ≤ s) (g2 : s ≤ m) (g3 : s ≤ mid) (g4 : mid + m - s ≤ b) (hC : Cut X Y a m mid s) :
  z8u off len a m b mid s (A ++ X ++ Y ++ B) (A ++ ssort cls (X ++ Y) ++ B) := by
 have hlen : (A ++ X ++ Y ++ B).length = A.length + X.length + Y.length + B.length := by simp; omega
 have eX : X.take (s - a) ++ X.drop (s - a) = X := List.take_append_drop _ _
 have eY : Y.take (mid - s) ++ Y.drop (mid - s) = Y := List.take_append_drop _ _
 have lX1 : (X.take (s - a)).length = s - a := by simp; omega
 have lX2 : (X.drop (s - a)).length = m - s := by simp; omega
 have lY1 : (Y.take (mid - s)).length = mid - s := by simp; omega
 have lY2 : (Y.drop (mid - s)).length = b - (mid + m - s) := by simp; omega
 have hx1 : ∀ r ∈ X.take (s - a), bO r := fun r hr => hx r (List.mem_of_mem_take hr)
 have hx2 : ∀ r ∈ X.drop (s - a), bO r := fun r hr => hx r (List.mem_of_mem_drop hr)
 have hy1 : ∀ r ∈ Y.take (mid - s), bO r := fun r hr => hy r (List.mem_of_mem_take hr)
 have hy2 : ∀ r ∈ Y.drop (mid - s), bO r := fun r hr => hy r (List.mem_of_mem_drop hr)
 have hq := zkl (f := cls) (X1 := X.take (s - a)) (X2 := X.drop (s - a)) (Y1 := Y.take (mid - s)) (Y2 := Y.drop (mid - s)) (by rw [eX]; exact huX) (by rw [eY]; exact huY) hC.h1 hC.h2
 have huX' := Up.append.1 (show Up cls (X.take (s - a) ++ X.drop (s - a)) by rw [eX]; exact huX)
 have huY' := Up.append.1 (show Up cls (Y.take (mid - s) ++ Y.drop (mid - s)) by rw [eY]; exact huY)
 rw [eX, eY] at hq
 rw [← hq, show A ++ X ++ Y ++ B = (A ++ X.take (s - a)) ++ X.drop (s - a) ++ Y.take (mid - s) ++ (Y.drop (mid - s) ++ B) by rw [show A ++ X.take (s - a) ++ X.drop (s - a) = A ++ X by rw [List.append_assoc, eX], ← List.append_assoc, show A ++ X ++ Y.take (mid - s) ++ Y.drop (mid - s) = A ++ X ++ Y by rw [List.append_assoc (A ++ X), eY]]]
 clear hq hC
 generalize X.take (s - a) = X1 at *
 generalize X.drop (s - a) = X2 at *
 generalize Y.take (mid - s) = Y1 at *
 generalize Y.drop (mid - s) = Y2 at *
 have hl1 : ((A ++ X1) ++ X2 ++ Y1 ++ (Y2 ++ B)).length = A.length + X.length + Y.length + B.length := by simp; omega
 have hs1 := nV cls (X1 ++ Y1)
 rw [List.length_append] at hs1
 refine ⟨(A ++ X1) ++ Y1 ++ X2 ++ (Y2 ++ B), A ++ ssort cls (X1 ++ Y1) ++ (X2 ++ Y2 ++ B), fun h => ?_, fun h => ?_, fun h => ?_, fun h => ?_, fun h => ?_, fun h => ?_⟩
 ·exact zji (A ++ X1) X2 Y1 (Y2 ++ B) off len s m (mid + m - s) (by omega) (by omega) (by simp; omega) (by omega) (by omega) (by omega) (by omega) (by omega)
 ·by_cases h5 : s < m
  ·have : Y1 = [] := List.length_eq_zero_iff.1 (by omega)
   subst this; simp
  ·have : X2 = [] := List.length_eq_zero_iff.1 (by omega)
   subst this; simp
 ·have := ih A X1 Y1 (X2 ++ (Y2 ++ B)) off len a s mid (by omega) (by omega) (by omega) ha (by omega) (by omega) (by omega) (by simp; omega) (by simp; omega) hx1 hy1 huX'.1 huY'.1
  simp only [List.append_assoc] at this ⊢
  exact this
 ·by_cases h5 : a < s
  ·have : Y1 = [] := List.length_eq_zero_iff.1 (by omega)
   subst this
   rw [List.append_nil, List.append_nil, wS huX'.1]; simp
  ·have : X1 = [] := List.length_eq_zero_iff.1 (by omega)
   subst this
   rw [List.nil_append, List.append_nil, wS huY'.1]; simp
 ·have := ih (A ++ ssort cls (X1 ++ Y1)) X2 Y2 B off len mid (mid + m - s) b (by omega) (by omega) (by omega) (by rw [List.length_append]; omega) (by omega) (by omega) (by omega) (by simp; omega) (by simp; omega) hx2 hy2 huX'.2.1 huY'.2.1
  simp only [List.append_assoc] at this ⊢
  exact this
 ·by_cases h5 : mid < mid + m - s
  ·have : Y2 = [] := List.length_eq_zero_iff.1 (by omega)
   subst this
   rw [List.append_nil X2, wS huX'.2.1]; simp
  ·have : X2 = [] := List.length_eq_zero_iff.1 (by omega)
   subst this
   rw [List.nil_append, wS huY'.2.1]; simp
theorem bY {P Q R S : Prop} {H : Prop} (o : H) (a : Q) (b : R) (c : S) (h : H → Mk P → bD Q → bD R → bD S → P := by
 intro w m q r s
 repeat' first | refine aM (by first | assumption | (apply_assumption <;> omega)) ?_ ?_ | refine cM.fit (by assumption) ?_ | simp (maxSteps := 4000000) (disch := omega) only [aZ, aY, bun, ↓aW, ↓aV, aO, findLabel, ↓reduceIte, imp, shift, aR, aJ, unown, names, aQ, below, aD, aC, aT, aU, aS, ren, aN, aP, aX, renO, belowM, seval, -Int.reduceToNat, bT, b9, fC, bJ, w] | exact bH _ | refine bG _ _ ?_ | exact bC.cl | refine bE _ ?_ | refine bF _ _ ?_ ?_ | refine bA _ ?_ | (refine Fk.fk ?_ ?_ <;> intro hg <;> (try simp only [hg]) <;> (try simp only [eC] at hg) <;> try (exfalso; first | omega | exact Bool.noConfusion hg | exact hg trivial)) | refine And.intro (by omega) ?_ | omega
 first
 | done
 | all_goals (repeat revert hg)
   fail_if_success with_reducible refine m.use ?_
   exact q.out
   first
   | done
   | exact r.out
     first
     | done
     | exact s.out
       first | done | fail) : P := h o ⟨tru⟩ ⟨a⟩ ⟨b⟩ ⟨c⟩
theorem zkw {n : Nat} (ih : xB n) : xB (n + 1) := by
 intro A X Y B off len a m b hn hX0 hY0 ha hm hb hl ho hL hx hy huX huY
 by_cases hX1 : X.length = 1
 ·obtain ⟨x, rfl⟩ : ∃ x, X = [x] := List.length_eq_one_iff.1 hX1
  exact zkv hY0 ha hm hb hl ho hL (hx x (by simp)) hy huY
 ·by_cases hY1 : Y.length = 1
  ·obtain ⟨y, rfl⟩ : ∃ x, Y = [x] := List.length_eq_one_iff.1 hY1
   exact zkx (by omega) ha hm hb hl ho hL (hy y (by simp)) hx huX
  ·refine jV (ts := []) bZ Tryz.func208 rfl rfl (by decide +kernel) (by simp [Tryz.ntmps208]) rfl ?_
   have hlen : (A ++ X ++ Y ++ B).length = A.length + X.length + Y.length + B.length := by simp; omega
   have hgX : ∀ k, a ≤ k → k < m → (A ++ X ++ Y ++ B).getD (off + k) 0 = X.getD (k - a) 0 := fun k h1 h2 => by
    rw [List.append_assoc (A ++ X), show off + k = A.length + (k - a) by omega]
    exact qW (by omega)
   have hgY : ∀ k, m ≤ k → k < b → (A ++ X ++ Y ++ B).getD (off + k) 0 = Y.getD (k - m) 0 := fun k h1 h2 => by
    rw [show off + k = (A ++ X).length + (k - m) by simp; omega]
    exact qW (A := A ++ X) (by omega)
   obtain ⟨mid, hmid⟩ : ∃ mid, mid = (a + b) / 2 := ⟨_, rfl⟩
   have e0 : ((a : Int) + (b : Int)) / 2 = (mid : Int) := by omega
   obtain ⟨lo, hi, hlo, hhi, hlohi⟩ : ∃ lo hi : Nat, (mid < m → (lo : Int) = (mid : Int) + m - b ∧ hi = mid) ∧ (¬ mid < m → lo = a ∧ hi = m) ∧ a ≤ lo ∧ lo ≤ hi ∧ hi ≤ m ∧ hi ≤ mid ∧ m ≤ mid + m - hi ∧ mid + m - lo ≤ b := by
    by_cases h : mid < m
    ·exact ⟨mid + m - b, mid, fun _ => by omega, fun h' => absurd h h', by omega⟩
    ·exact ⟨a, m, fun h' => absurd h' h, fun _ => ⟨rfl, rfl⟩, by omega⟩
   obtain ⟨g1, g2, g3, g4, g5, g6⟩ := hlohi
   by_cases hmm : mid < m
   ·obtain ⟨hlo1, hlo2⟩ := hlo hmm
    refine bY e0 ?_ tru tru <;> intros
    refine bL (fun p : Nat × Nat => ⟨[(0, .ref 1 off len), (1, aA a), (2, aA m), (3, aA b), (4, .fn 165 [] [.ptr 0 0]), (18, aA mid), (19, aA (mid + m)), (20, aA p.1), (21, aA p.2), (22, aA (mid + m - 1))], [.row true 1 bK, .row false 1 ((A ++ X ++ Y ++ B).map aB), .fence]⟩)
     (fun p => lo ≤ p.1 ∧ p.1 ≤ p.2 ∧ p.2 ≤ hi ∧ (lo < p.1 → cls (X.getD (p.1 - 1 - a) 0) ≤ cls (Y.getD (mid - p.1) 0)) ∧ (p.2 < hi → cls (Y.getD (mid - 1 - p.2) 0) < cls (X.getD (p.2 - a) 0))) (fun p => p.2 - p.1) (lo, hi) ⟨Nat.le_refl _, g2, Nat.le_refl _, fun h => absurd h (by simp), fun h => absurd h (by simp)⟩ ?_ ?_
    ·(simp (disch := omega) [wk, aL, aI, aD, aC, get, aK, belowM, below, belows, aA, aB, Bv, U8, Sv, bJ] <;> try omega)
    ·rintro ⟨s, r⟩ ⟨h0, h1, h2, h3, h4⟩
     dsimp only at h0 h1 h2 h3 h4
     by_cases hlt : s < r
     ·have e1 : ((s : Int) + (r : Int)) / 2 = (((s + r) / 2 : Nat) : Int) := by omega
      obtain ⟨c, hc⟩ : ∃ c, c = (s + r) / 2 := ⟨_, rfl⟩
      rw [← hc] at e1
      have e2 : ((mid : Int) + (m : Int) - 1 - (c : Int)).toNat = mid + m - 1 - c := by omega
      have hp : (A ++ X ++ Y ++ B).getD (off + (mid + m - 1 - c)) 0 = Y.getD (mid - 1 - c) 0 := by
       rw [hgY _ (by omega) (by omega)]; congr 1; omega
      have hcx := hgX c (by omega) (by omega)
      have hyr := hy _ (pK (X := Y) (k := mid - 1 - c) (by omega))
      have hxr := hx _ (pK (X := X) (k := c - a) (by omega))
      by_cases hcc : cls (Y.getD (mid - 1 - c) 0) < cls (X.getD (c - a) 0)
      ·(have := @nK; refine bY (And.intro e1 (And.intro e2 (And.intro hp hcx))) ?_ tru tru <;> intros)
       refine ⟨(s, c), ⟨h0, by dsimp only; omega, by dsimp only; omega, h3, fun _ => hcc⟩, by dsimp only; omega, ?_⟩
       (simp (disch := omega) [wk, aL, aI, aD, aC, get, aK, belowM, below, belows, aA, aB, Bv, U8, Sv, bJ] <;> try omega)
      ·(have := @nK; refine bY (And.intro e1 (And.intro e2 (And.intro hp hcx))) ?_ tru tru <;> intros)
       refine ⟨(c + 1, r), ⟨by dsimp only; omega, by dsimp only; omega, h2, fun _ => ?_, h4⟩, by dsimp only; omega, ?_⟩
       ·dsimp only
        rw [show c + 1 - 1 - a = c - a by omega, show mid - (c + 1) = mid - 1 - c by omega]
        omega
       ·(simp (disch := omega) [wk, aL, aI, aD, aC, get, aK, belowM, below, belows, aA, aB, Bv, U8, Sv, bJ] <;> try omega)
     ·have e : s = r := by omega
      subst e
      have hC := PA hm hb huX huY hlo hhi g1 h0 h2 g3 g4 g6 h3 h4
      obtain ⟨L1, L2, r1, n1, r2, n2, r3, n3⟩ := (XL ih hn ha hm hb hl ho hL hx hy huX huY hmid (by omega) (by omega) (show a ≤ s by omega) (by omega) (by omega) (by omega) hC).p
      generalize A ++ X ++ Y ++ B = L0 at *
      generalize A ++ ssort cls (X ++ Y) ++ B = L3 at *
      have e3 : ((mid : Int) + (m : Int) - (s : Int)) = ((mid + m - s : Nat) : Int) := by omega
      have d1 : s < m ∧ m < mid + m - s ∨ ¬ (s < m ∧ m < mid + m - s) := Decidable.em _
      have d2 : a < s ∧ s < mid ∨ ¬ (a < s ∧ s < mid) := Decidable.em _
      have d3 : mid < mid + m - s ∧ mid + m - s < b ∨ ¬ (mid < mid + m - s ∧ mid + m - s < b) := Decidable.em _
      generalize mid + m - s = en at *
      rcases d1 with d1 | d1
      ·have r1 := r1 d1
       rcases d2 with d2 | d2
       ·have r2 := r2 d2
        rcases d3 with d3 | d3
        ·have r3 := r3 d3
         repeat' first | (refine dG [0, 1] r1 ?_; clear r1) | (refine dG [0, 1] r2 ?_; clear r2) | (refine dG [0, 1] r3 ?_; clear r3) | refine bY e3 ?_ tru tru <;> intros | refine bY e3 ?_ ?_ tru <;> intros | refine bY e3 ?_ ?_ ?_ <;> intros | exact bY e3 tru tru tru | fail
        ·have n3 := n3 d3
         subst n3
         repeat' first | (refine dG [0, 1] r1 ?_; clear r1) | (refine dG [0, 1] r2 ?_; clear r2) | refine bY e3 ?_ tru tru <;> intros | refine bY e3 ?_ ?_ tru <;> intros | refine bY e3 ?_ ?_ ?_ <;> intros | exact bY e3 tru tru tru | fail
       ·have n2 := n2 d2
        subst n2
        rcases d3 with d3 | d3
        ·have r3 := r3 d3
         repeat' first | (refine dG [0, 1] r1 ?_; clear r1) | (refine dG [0, 1] r3 ?_; clear r3) | refine bY e3 ?_ tru tru <;> intros | refine bY e3 ?_ ?_ tru <;> intros | refine bY e3 ?_ ?_ ?_ <;> intros | exact bY e3 tru tru tru | fail
        ·have n3 := n3 d3
         subst n3
         repeat' first | (refine dG [0, 1] r1 ?_; clear r1) | refine bY e3 ?_ tru tru <;> intros | refine bY e3 ?_ ?_ tru <;> intros | refine bY e3 ?_ ?_ ?_ <;> intros | exact bY e3 tru tru tru | fail
      ·have n1 := n1 d1
       subst n1
       rcases d2 with d2 | d2
       ·have r2 := r2 d2
        rcases d3 with d3 | d3
        ·have r3 := r3 d3
         repeat' first | (refine dG [0, 1] r2 ?_; clear r2) | (refine dG [0, 1] r3 ?_; clear r3) | refine bY e3 ?_ tru tru <;> intros | refine bY e3 ?_ ?_ tru <;> intros | refine bY e3 ?_ ?_ ?_ <;> intros | exact bY e3 tru tru tru | fail
        ·have n3 := n3 d3
         subst n3
         repeat' first | (refine dG [0, 1] r2 ?_; clear r2) | refine bY e3 ?_ tru tru <;> intros | refine bY e3 ?_ ?_ tru <;> intros | refine bY e3 ?_ ?_ ?_ <;> intros | exact bY e3 tru tru tru | fail
       ·have n2 := n2 d2
        subst n2
        rcases d3 with d3 | d3
        ·have r3 := r3 d3
         repeat' first | (refine dG [0, 1] r3 ?_; clear r3) | refine bY e3 ?_ tru tru <;> intros | refine bY e3 ?_ ?_ tru <;> intros | refine bY e3 ?_ ?_ ?_ <;> intros | exact bY e3 tru tru tru | fail
        ·have n3 := n3 d3
         subst n3
         exact bY e3 tru tru tru
   ·obtain ⟨hlo1, hlo2⟩ := hhi hmm
    refine bY e0 ?_ tru tru <;> intros
    refine bL (fun p : Nat × Nat => ⟨[(0, .ref 1 off len), (1, aA a), (2, aA m), (3, aA b), (4, .fn 165 [] [.ptr 0 0]), (18, aA mid), (19, aA (mid + m)), (20, aA p.1), (21, aA p.2), (22, aA (mid + m - 1))], [.row true 1 bK, .row false 1 ((A ++ X ++ Y ++ B).map aB), .fence]⟩)
     (fun p => lo ≤ p.1 ∧ p.1 ≤ p.2 ∧ p.2 ≤ hi ∧ (lo < p.1 → cls (X.getD (p.1 - 1 - a) 0) ≤ cls (Y.getD (mid - p.1) 0)) ∧ (p.2 < hi → cls (Y.getD (mid - 1 - p.2) 0) < cls (X.getD (p.2 - a) 0))) (fun p => p.2 - p.1) (lo, hi) ⟨Nat.le_refl _, g2, Nat.le_refl _, fun h => absurd h (by simp), fun h => absurd h (by simp)⟩ ?_ ?_
    ·(simp (disch := omega) [wk, aL, aI, aD, aC, get, aK, belowM, below, belows, aA, aB, Bv, U8, Sv, bJ] <;> try omega)
    ·rintro ⟨s, r⟩ ⟨h0, h1, h2, h3, h4⟩
     dsimp only at h0 h1 h2 h3 h4
     by_cases hlt : s < r
     ·have e1 : ((s : Int) + (r : Int)) / 2 = (((s + r) / 2 : Nat) : Int) := by omega
      obtain ⟨c, hc⟩ : ∃ c, c = (s + r) / 2 := ⟨_, rfl⟩
      rw [← hc] at e1
      have e2 : ((mid : Int) + (m : Int) - 1 - (c : Int)).toNat = mid + m - 1 - c := by omega
      have hp : (A ++ X ++ Y ++ B).getD (off + (mid + m - 1 - c)) 0 = Y.getD (mid - 1 - c) 0 := by
       rw [hgY _ (by omega) (by omega)]; congr 1; omega
      have hcx := hgX c (by omega) (by omega)
      have hyr := hy _ (pK (X := Y) (k := mid - 1 - c) (by omega))
      have hxr := hx _ (pK (X := X) (k := c - a) (by omega))
      by_cases hcc : cls (Y.getD (mid - 1 - c) 0) < cls (X.getD (c - a) 0)
      ·(have := @nK; refine bY (And.intro e1 (And.intro e2 (And.intro hp hcx))) ?_ tru tru <;> intros)
       refine ⟨(s, c), ⟨h0, by dsimp only; omega, by dsimp only; omega, h3, fun _ => hcc⟩, by dsimp only; omega, ?_⟩
       (simp (disch := omega) [wk, aL, aI, aD, aC, get, aK, belowM, below, belows, aA, aB, Bv, U8, Sv, bJ] <;> try omega)
      ·(have := @nK; refine bY (And.intro e1 (And.intro e2 (And.intro hp hcx))) ?_ tru tru <;> intros)
       refine ⟨(c + 1, r), ⟨by dsimp only; omega, by dsimp only; omega, h2, fun _ => ?_, h4⟩, by dsimp only; omega, ?_⟩
       ·dsimp only
        rw [show c + 1 - 1 - a = c - a by omega, show mid - (c + 1) = mid - 1 - c by omega]
        omega
       ·(simp (disch := omega) [wk, aL, aI, aD, aC, get, aK, belowM, below, belows, aA, aB, Bv, U8, Sv, bJ] <;> try omega)
     ·have e : s = r := by omega
      subst e
      have hC := PA hm hb huX huY hlo hhi g1 h0 h2 g3 g4 g6 h3 h4
      obtain ⟨L1, L2, r1, n1, r2, n2, r3, n3⟩ := (XL ih hn ha hm hb hl ho hL hx hy huX huY hmid (by omega) (by omega) (show a ≤ s by omega) (by omega) (by omega) (by omega) hC).p
      generalize A ++ X ++ Y ++ B = L0 at *
      generalize A ++ ssort cls (X ++ Y) ++ B = L3 at *
      have e3 : ((mid : Int) + (m : Int) - (s : Int)) = ((mid + m - s : Nat) : Int) := by omega
      have d1 : s < m ∧ m < mid + m - s ∨ ¬ (s < m ∧ m < mid + m - s) := Decidable.em _
      have d2 : a < s ∧ s < mid ∨ ¬ (a < s ∧ s < mid) := Decidable.em _
      have d3 : mid < mid + m - s ∧ mid + m - s < b ∨ ¬ (mid < mid + m - s ∧ mid + m - s < b) := Decidable.em _
      generalize mid + m - s = en at *
      rcases d1 with d1 | d1
      ·have r1 := r1 d1
       rcases d2 with d2 | d2
       ·have r2 := r2 d2
        rcases d3 with d3 | d3
        ·have r3 := r3 d3
         repeat' first | (refine dG [0, 1] r1 ?_; clear r1) | (refine dG [0, 1] r2 ?_; clear r2) | (refine dG [0, 1] r3 ?_; clear r3) | refine bY e3 ?_ tru tru <;> intros | refine bY e3 ?_ ?_ tru <;> intros | refine bY e3 ?_ ?_ ?_ <;> intros | exact bY e3 tru tru tru | fail
        ·have n3 := n3 d3
         subst n3
         repeat' first | (refine dG [0, 1] r1 ?_; clear r1) | (refine dG [0, 1] r2 ?_; clear r2) | refine bY e3 ?_ tru tru <;> intros | refine bY e3 ?_ ?_ tru <;> intros | refine bY e3 ?_ ?_ ?_ <;> intros | exact bY e3 tru tru tru | fail
       ·have n2 := n2 d2
        subst n2
        rcases d3 with d3 | d3
        ·have r3 := r3 d3
         repeat' first | (refine dG [0, 1] r1 ?_; clear r1) | (refine dG [0, 1] r3 ?_; clear r3) | refine bY e3 ?_ tru tru <;> intros | refine bY e3 ?_ ?_ tru <;> intros | refine bY e3 ?_ ?_ ?_ <;> intros | exact bY e3 tru tru tru | fail
        ·have n3 := n3 d3
         subst n3
         repeat' first | (refine dG [0, 1] r1 ?_; clear r1) | refine bY e3 ?_ tru tru <;> intros | refine bY e3 ?_ ?_ tru <;> intros | refine bY e3 ?_ ?_ ?_ <;> intros | exact bY e3 tru tru tru | fail
      ·have n1 := n1 d1
       subst n1
       rcases d2 with d2 | d2
       ·have r2 := r2 d2
        rcases d3 with d3 | d3
        ·have r3 := r3 d3
         repeat' first | (refine dG [0, 1] r2 ?_; clear r2) | (refine dG [0, 1] r3 ?_; clear r3) | refine bY e3 ?_ tru tru <;> intros | refine bY e3 ?_ ?_ tru <;> intros | refine bY e3 ?_ ?_ ?_ <;> intros | exact bY e3 tru tru tru | fail
        ·have n3 := n3 d3
         subst n3
         repeat' first | (refine dG [0, 1] r2 ?_; clear r2) | refine bY e3 ?_ tru tru <;> intros | refine bY e3 ?_ ?_ tru <;> intros | refine bY e3 ?_ ?_ ?_ <;> intros | exact bY e3 tru tru tru | fail
       ·have n2 := n2 d2
        subst n2
        rcases d3 with d3 | d3
        ·have r3 := r3 d3
         repeat' first | (refine dG [0, 1] r3 ?_; clear r3) | refine bY e3 ?_ tru tru <;> intros | refine bY e3 ?_ ?_ tru <;> intros | refine bY e3 ?_ ?_ ?_ <;> intros | exact bY e3 tru tru tru | fail
        ·have n3 := n3 d3
         subst n3
         exact bY e3 tru tru tru
theorem z25 (n : Nat) : xB n := by
 induction n with
 | zero => intro A X Y B off len a m b hn hX0; omega
 | succ n ih => exact zkw ih
end Go.AE
-- types: B0 B3 B4 B21 B63 B96 B162
end
section
namespace Go.AE
open Go.Proofs
set_option maxRecDepth 20000
set_option maxHeartbeats 8000000
set_option linter.unusedSimpArgs false
def seg (k j : Nat) (W : List Int) : List Int := (W.drop (k * j)).take k
theorem qB {k j : Nat} {P Q : List Int} (h : k * j + k ≤ P.length) : seg k j (P ++ Q) = seg k j P := by
 unfold seg
 rw [List.drop_append_of_le_length (by omega), List.take_append_of_le_length (by simp; omega)]
theorem zkd {k j : Nat} {P P' Q : List Int} (h : P.length ≤ k * j) (he : P'.length = P.length) : seg k j (P ++ Q) = seg k j (P' ++ Q) := by
 unfold seg
 rw [List.drop_append, List.drop_append, List.drop_of_length_le h, List.drop_of_length_le (l := P') (by omega), he]
theorem z15 {k j : Nat} {P M Q : List Int} (h : P.length = k * j) (hM : M.length = k) : seg k j (P ++ M ++ Q) = M := by
 unfold seg
 rw [List.append_assoc, ← h, List.drop_left, ← hM, List.take_left]
theorem z14 {k j : Nat} {P M : List Int} (h : P.length = k * j) (hM : M.length ≤ k) : seg k j (P ++ M) = M := by
 unfold seg
 rw [← h, List.drop_left, List.take_of_length_le hM]
theorem EN {k j : Nat} {W : List Int} (h : W.length ≤ k * j) : seg k j W = [] := by
 unfold seg
 rw [List.drop_of_length_le h, List.take_nil]
theorem yO {P M Q S : List Int} (h : bQ cls (P ++ M ++ Q) S) : bQ cls (P ++ ssort cls M ++ Q) S :=
 (bQ.app (bQ.app (bQ.refl _ P) (jW cls M).2) (bQ.refl _ Q)).trans h
theorem sP {P Q R S : Prop} (a : Q) (b : R) (c : S) (h : Mk P → bD Q → bD R → bD S → P := by
 intro m q r s
 repeat' first | refine aM (by first | assumption | (apply_assumption <;> omega)) ?_ ?_ | refine cM.fit (by assumption) ?_ | simp (maxSteps := 4000000) (disch := omega) only [aZ, aY, bun, ↓aW, ↓aV, aO, findLabel, ↓reduceIte, imp, shift, aR, aJ, unown, names, aQ, below, aD, aC, aT, aU, aS, ren, aN, aP, aX, renO, belowM, seval, -Int.reduceToNat, bT, b9, fC, bJ, *] | exact bH _ | refine bG _ _ ?_ | exact bC.cl | refine bE _ ?_ | refine bF _ _ ?_ ?_ | refine bA _ ?_ | refine fkx ?_ tru <;> intro hg | refine fkx ?_ ?_ <;> intro hg | exact fkx tru tru | refine And.intro (by omega) ?_ | omega
 first
 | done
 | all_goals (repeat revert hg)
   fail_if_success with_reducible refine m.use ?_
   exact q.out
   first
   | done
   | exact r.out
     first
     | done
     | exact s.out
       first | done | fail) : P := h ⟨tru⟩ ⟨a⟩ ⟨b⟩ ⟨c⟩
theorem zkn (A S B : List Int) (off n : Nat) (ho : off = A.length) (hn : n = S.length) (hL : (A ++ S ++ B).length ≤ 1000000) (hr : ∀ r ∈ S, bO r) :
  eV Tryz.prog 191 [.row true 1 bK, .row false 1 ((A ++ S ++ B).map aB)] [.ref 1 off n, aA n, .fn 165 [] [.ptr 0 0]] [.row true 1 bK, .row false 1 ((A ++ ssort cls S ++ B).map aB), .fence] (.tup []) := by
 refine jV (ts := []) bZ Tryz.func191 rfl rfl (by decide +kernel) (by simp [Tryz.ntmps191]) rfl ?_
 have hlen : (A ++ S ++ B).length = A.length + S.length + B.length := by simp; omega
 refine sP ?_ tru tru <;> intros
 refine bL (fun x : Nat × List Int => ⟨[(0, .ref 1 off n), (1, aA n), (2, .fn 165 [] [.ptr 0 0]), (6, aA 20), (7, aA (20 * x.1)), (8, aA (20 * x.1 + 20))], [.row true 1 bK, .row false 1 ((A ++ x.2 ++ B).map aB), .fence]⟩)
  (fun x => x.2.length = n ∧ bQ cls x.2 S ∧ 20 * x.1 ≤ n ∧ ∀ j, j < x.1 → Up cls (seg 20 j x.2)) (fun x => n - 20 * x.1) (0, S) ⟨hn.symm, bQ.refl _ _, by simp, fun j hj => absurd hj (by simp)⟩ (by (simp (disch := omega) [wk, aL, aI, aD, aC, get, aK, belowM, below, belows, aA, aB, Bv, U8, Sv, bJ] <;> try omega)) ?_
 rintro ⟨i, W⟩ ⟨w1, w2, w3, w4⟩
 dsimp only at w1 w2 w3 w4
 have hrW : ∀ r ∈ W, bO r := fun r hr' => hr r (w2.mem.1 hr')
 by_cases hlt : 20 * i + 20 ≤ n
 ·have eW : W = W.take (20 * i) ++ (W.drop (20 * i)).take 20 ++ W.drop (20 * i + 20) := by
   rw [List.append_assoc, ← List.drop_drop, List.take_append_drop, List.take_append_drop]
  have l1 : (W.take (20 * i)).length = 20 * i := by simp; omega
  have l2 : ((W.drop (20 * i)).take 20).length = 20 := by simp; omega
  have l3 : (W.drop (20 * i + 20)).length = n - (20 * i + 20) := by simp; omega
  generalize W.take (20 * i) = P at *
  generalize (W.drop (20 * i)).take 20 = M at *
  generalize W.drop (20 * i + 20) = Q at *
  subst eW
  have hc := T6 (A ++ P) M (Q ++ B) off n (20 * i) (20 * i + 20) (by simp; omega) (by omega) hlt (by simp; omega) (by simp; omega) (fun r hr' => hrW r (by simp [hr']))
  rw [show A ++ P ++ M ++ (Q ++ B) = A ++ (P ++ M ++ Q) ++ B by simp] at hc
  have e1 : (20 : Int) * (i : Int) = ((20 * i : Nat) : Int) := by omega
  have e2 : ((20 * i : Nat) : Int) + 20 = ((20 * i + 20 : Nat) : Int) := by omega
  repeat' first | (refine dG [0, 1] (hc) ?_; clear hc) | simp (maxSteps := 4000000) (disch := omega) only [aZ, aY, bun, ↓aW, ↓aV, aO, findLabel, ↓reduceIte, imp, shift, aR, aJ, unown, names, aQ, below, aD, aC, aT, aU, aS, ren, aN, aP, aX, renO, belowM, seval, -Int.reduceToNat, e1, e2, bT, b9, fC, bJ] | exact bH _ | refine bG _ _ ?_ | exact bC.cl | refine bE _ ?_ | refine bF _ _ ?_ ?_ | refine bA _ ?_ | refine fkx ?_ tru <;> intro hg | refine fkx ?_ ?_ <;> intro hg | exact fkx tru tru | refine And.intro (by omega) ?_ | omega
  have hsl := nV cls M
  refine ⟨(i + 1, P ++ ssort cls M ++ Q), ⟨by simp; omega, yO w2, by dsimp only; omega, fun j hj => ?_⟩, by dsimp only; omega, ?_⟩
  ·by_cases hji : j < i
   ·have := w4 j hji
    rw [List.append_assoc, qB (by omega)] at this
    rw [List.append_assoc, qB (by omega)]
    exact this
   ·have : j = i := by omega
    subst this
    rw [z15 (by omega) (by omega)]
    exact (jW cls M).1
  ·(simp (disch := omega) [wk, aL, aI, aD, aC, get, aK, belowM, below, belows, aA, aB, Bv, U8, Sv, bJ, List.append_assoc] <;> try omega)
 ·have eW : W = W.take (20 * i) ++ W.drop (20 * i) := (List.take_append_drop _ _).symm
  have l1 : (W.take (20 * i)).length = 20 * i := by simp; omega
  have l2 : (W.drop (20 * i)).length = n - 20 * i := by simp; omega
  generalize W.take (20 * i) = P at *
  generalize W.drop (20 * i) = M at *
  subst eW
  have hc := T6 (A ++ P) M B off n (20 * i) n (by simp; omega) (by omega) (by omega) (by simp; omega) (by simp; omega) (fun r hr' => hrW r (by simp [hr']))
  rw [show A ++ P ++ M ++ B = A ++ (P ++ M) ++ B by simp] at hc
  have e1 : (20 : Int) * (i : Int) = ((20 * i : Nat) : Int) := by omega
  have hsl := nV cls M
  have hW : ∃ W : List Int, P ++ ssort cls M = W ∧ W.length = n ∧ bQ cls W S ∧ ∀ j, Up cls (seg 20 j W) := by
   refine ⟨_, rfl, by simp; omega, ?_, fun j => ?_⟩
   ·have := yO (P := P) (M := M) (Q := []) (by simpa using w2)
    simpa using this
   ·by_cases hji : j < i
    ·have := w4 j hji
     rw [qB (by omega)] at this
     rw [qB (by omega)]
     exact this
    ·by_cases hje : j = i
     ·subst hje
      rw [z14 (by omega) (by omega)]
      exact (jW cls M).1
     ·rw [EN (by simp; omega)]; trivial
  obtain ⟨W, hWe, v1, v2, v3⟩ := hW
  rw [show A ++ P ++ ssort cls M ++ B = A ++ W ++ B by rw [← hWe, List.append_assoc A]] at hc
  repeat' first | (refine dG [0, 1] (hc) ?_; clear hc) | simp (maxSteps := 4000000) (disch := omega) only [aZ, aY, bun, ↓aW, ↓aV, aO, findLabel, ↓reduceIte, imp, shift, aR, aJ, unown, names, aQ, below, aD, aC, aT, aU, aS, ren, aN, aP, aX, renO, belowM, seval, -Int.reduceToNat, e1, bT, b9, fC, bJ] | exact bH _ | refine bG _ _ ?_ | exact bC.cl | refine bE _ ?_ | refine bF _ _ ?_ ?_ | refine bA _ ?_ | refine fkx ?_ tru <;> intro hg | refine fkx ?_ ?_ <;> intro hg | exact fkx tru tru | refine And.intro (by omega) ?_ | omega
  clear hWe hsl e1 l2 l1 w4 w3 w2 w1 hrW hlt
  refine bL (fun x : Nat × List Int => ⟨[(0, .ref 1 off n), (1, aA n), (2, .fn 165 [] [.ptr 0 0]), (6, aA x.1)], [.row true 1 bK, .row false 1 ((A ++ x.2 ++ B).map aB), .fence]⟩)
   (fun x => x.2.length = n ∧ bQ cls x.2 S ∧ 0 < x.1 ∧ x.1 ≤ 2 * n + 20 ∧ ∀ j, Up cls (seg x.1 j x.2)) (fun x => n - x.1) (20, W) ⟨v1, v2, by simp, by dsimp only; omega, v3⟩ (by (simp (disch := omega) [wk, aL, aI, aD, aC, get, aK, belowM, below, belows, aA, aB, Bv, U8, Sv, bJ] <;> try omega)) ?_
  clear v1 v2 v3 W
  rintro ⟨bs, W⟩ ⟨w1, w2, hb0, hb1, w3⟩
  dsimp only at w1 w2 hb0 hb1 w3
  by_cases hbn : bs < n
  ·repeat' first | simp (maxSteps := 4000000) (disch := omega) only [aZ, aY, bun, ↓aW, ↓aV, aO, findLabel, ↓reduceIte, imp, shift, aR, aJ, unown, names, aQ, below, aD, aC, aT, aU, aS, ren, aN, aP, aX, renO, belowM, seval, -Int.reduceToNat, bT, b9, fC, bJ] | refine bA _ ?_ | refine fkx ?_ tru <;> intro hg | refine fkx ?_ ?_ <;> intro hg | exact fkx tru tru | refine And.intro (by omega) ?_ | omega
   refine bL (fun x : Nat × Nat × List Int => ⟨[(0, .ref 1 off n), (1, aA n), (2, .fn 165 [] [.ptr 0 0]), (6, aA bs), (7, aA x.2.1), (8, aA (x.2.1 + 2 * bs))], [.row true 1 bK, .row false 1 ((A ++ x.2.2 ++ B).map aB), .fence]⟩)
    (fun x => x.2.1 = 2 * bs * x.1 ∧ x.2.1 ≤ n ∧ x.2.2.length = n ∧ bQ cls x.2.2 S ∧ (∀ j, j < x.1 → Up cls (seg (2 * bs) j x.2.2)) ∧ ∀ j, 2 * x.1 ≤ j → Up cls (seg bs j x.2.2)) (fun x => n - x.2.1) (0, 0, W) ⟨by simp, by simp, w1, w2, fun j hj => absurd hj (by simp), fun j _ => w3 j⟩ (by (simp (disch := omega) [wk, aL, aI, aD, aC, get, aK, belowM, below, belows, aA, aB, Bv, U8, Sv, bJ] <;> try omega)) ?_
   clear w1 w2 w3
   rintro ⟨i, k, W⟩ ⟨hk, hkn, w1, w2, w3, w4⟩
   dsimp only at hk hkn w1 w2 w3 w4
   have hrW : ∀ r ∈ W, bO r := fun r hr' => hr r (w2.mem.1 hr')
   have hk2 : bs * (2 * i) = k := by rw [hk, Nat.mul_comm 2 bs, Nat.mul_assoc]
   have hk3 : bs * (2 * i + 1) = k + bs := by rw [Nat.mul_succ, hk2]
   have hk4 : bs * (2 * (i + 1)) = k + 2 * bs := by rw [show 2 * (i + 1) = 2 * i + 1 + 1 by omega, Nat.mul_succ, hk3]; omega
   have hk5 : 2 * bs * (i + 1) = k + 2 * bs := by rw [Nat.mul_succ, ← hk]
   have hkj : ∀ j, j < i → 2 * bs * j + 2 * bs ≤ k := fun j hj => by
    rw [hk, ← Nat.mul_succ]; exact Nat.mul_le_mul_left _ hj
   have hkj2 : ∀ j, i < j → k + 2 * bs ≤ 2 * bs * j := fun j hj => by
    rw [← hk5]; exact Nat.mul_le_mul_left _ hj
   have hkj3 : ∀ j, 2 * (i + 1) ≤ j → k + 2 * bs ≤ bs * j := fun j hj => by
    rw [← hk4]; exact Nat.mul_le_mul_left _ hj
   have uX := w4 (2 * i) (Nat.le_refl _)
   have uY := w4 (2 * i + 1) (by omega)
   unfold seg at uX uY
   rw [hk2] at uX
   rw [hk3] at uY
   by_cases hlt2 : k + 2 * bs ≤ n
   ·have eW : W = W.take k ++ (W.drop k).take bs ++ (W.drop (k + bs)).take bs ++ W.drop (k + bs + bs) := by
     have d1 : W.drop (k + bs + bs) = (W.drop (k + bs)).drop bs := by rw [List.drop_drop]
     have d2 : W.drop (k + bs) = (W.drop k).drop bs := by rw [List.drop_drop]
     rw [d1, List.append_assoc, List.take_append_drop, d2, List.append_assoc, List.take_append_drop, List.take_append_drop]
    have l1 : (W.take k).length = k := by simp; omega
    have l2 : ((W.drop k).take bs).length = bs := by simp; omega
    have l3 : ((W.drop (k + bs)).take bs).length = bs := by simp; omega
    have l4 : (W.drop (k + bs + bs)).length = n - (k + bs + bs) := by simp; omega
    generalize W.take k = P at *
    generalize (W.drop k).take bs = X at *
    generalize (W.drop (k + bs)).take bs = Y at *
    generalize W.drop (k + bs + bs) = Q at *
    subst eW
    have hc := z25 _ (A ++ P) X Y (Q ++ B) off n k (k + bs) (k + 2 * bs) (Nat.le_refl _) (by omega) (by omega) (by simp; omega) (by omega) (by omega) (by omega) (by simp; omega) (by simp; omega) (fun r hr' => hrW r (by simp [hr'])) (fun r hr' => hrW r (by simp [hr'])) uX uY
    rw [show A ++ P ++ X ++ Y ++ (Q ++ B) = A ++ (P ++ X ++ Y ++ Q) ++ B by simp] at hc
    have e1 : (k : Int) + (bs : Int) = ((k + bs : Nat) : Int) := by omega
    have e2 : (k : Int) + 2 * (bs : Int) = ((k + 2 * bs : Nat) : Int) := by omega
    have hsl := nV cls (X ++ Y)
    rw [List.length_append] at hsl
    repeat' first | (refine dG [0, 1] (hc) ?_; clear hc) | simp (maxSteps := 4000000) (disch := omega) only [aZ, aY, bun, ↓aW, ↓aV, aO, findLabel, ↓reduceIte, imp, shift, aR, aJ, unown, names, aQ, below, aD, aC, aT, aU, aS, ren, aN, aP, aX, renO, belowM, seval, -Int.reduceToNat, e1, e2, bT, b9, fC, bJ] | exact bH _ | refine bG _ _ ?_ | exact bC.cl | refine bE _ ?_ | refine bF _ _ ?_ ?_ | refine bA _ ?_ | refine fkx ?_ tru <;> intro hg | refine fkx ?_ ?_ <;> intro hg | exact fkx tru tru | refine And.intro (by omega) ?_ | omega
    refine ⟨(i + 1, k + 2 * bs, P ++ ssort cls (X ++ Y) ++ Q), ⟨hk5.symm, hlt2, by simp; omega, yO (by rw [← List.append_assoc P]; exact w2), fun j hj => ?_, fun j hj => ?_⟩, by dsimp only; omega, ?_⟩
    ·by_cases hji : j < i
     ·have q := w3 j hji
      have := hkj j hji
      rw [List.append_assoc, List.append_assoc, qB (by omega)] at q
      rw [List.append_assoc, qB (by omega)]
      exact q
     ·have : j = i := by omega
      subst this
      rw [z15 (by omega) (by omega)]
      exact (jW cls (X ++ Y)).1
    ·have q := w4 j (by omega)
     have := hkj3 j hj
     rw [zkd (P' := P ++ X ++ Y) (by simp; omega) (by simp; omega)]
     exact q
    ·(simp (disch := omega) [wk, aL, aI, aD, aC, get, aK, belowM, below, belows, aA, aB, Bv, U8, Sv, bJ, List.append_assoc] <;> try omega)
   ·by_cases hm : k + bs < n
    ·have eW : W = W.take k ++ (W.drop k).take bs ++ W.drop (k + bs) := by
      rw [List.append_assoc, ← List.drop_drop, List.take_append_drop, List.take_append_drop]
     have l1 : (W.take k).length = k := by simp; omega
     have l2 : ((W.drop k).take bs).length = bs := by simp; omega
     have l3 : (W.drop (k + bs)).length = n - (k + bs) := by simp; omega
     rw [List.take_of_length_le (by omega)] at uY
     generalize W.take k = P at *
     generalize (W.drop k).take bs = X at *
     generalize W.drop (k + bs) = Y at *
     subst eW
     have hc := z25 _ (A ++ P) X Y B off n k (k + bs) n (Nat.le_refl _) (by omega) (by omega) (by simp; omega) (by omega) (by omega) (by omega) (by simp; omega) (by simp; omega) (fun r hr' => hrW r (by simp [hr'])) (fun r hr' => hrW r (by simp [hr'])) uX uY
     rw [show A ++ P ++ X ++ Y ++ B = A ++ (P ++ X ++ Y) ++ B by simp] at hc
     have e1 : (k : Int) + (bs : Int) = ((k + bs : Nat) : Int) := by omega
     have hsl := nV cls (X ++ Y)
     rw [List.length_append] at hsl
     repeat' first | (refine dG [0, 1] (hc) ?_; clear hc) | simp (maxSteps := 4000000) (disch := omega) only [aZ, aY, bun, ↓aW, ↓aV, aO, findLabel, ↓reduceIte, imp, shift, aR, aJ, unown, names, aQ, below, aD, aC, aT, aU, aS, ren, aN, aP, aX, renO, belowM, seval, -Int.reduceToNat, e1, bT, b9, fC, bJ] | exact bH _ | refine bG _ _ ?_ | exact bC.cl | refine bE _ ?_ | refine bF _ _ ?_ ?_ | refine bA _ ?_ | refine fkx ?_ tru <;> intro hg | refine fkx ?_ ?_ <;> intro hg | exact fkx tru tru | refine And.intro (by omega) ?_ | omega
     refine ⟨(bs * 2, P ++ ssort cls (X ++ Y)), ⟨by simp; omega, ?_, by dsimp only; omega, by dsimp only; omega, fun j => ?_⟩, by dsimp only; omega, ?_⟩
     ·have := yO (P := P) (M := X ++ Y) (Q := []) (by simpa using w2)
      simpa using this
     ·dsimp only
      rw [Nat.mul_comm bs 2]
      by_cases hji : j < i
      ·have q := w3 j hji
       have := hkj j hji
       rw [List.append_assoc, qB (by omega)] at q
       rw [qB (by omega)]
       exact q
      ·by_cases hje : j = i
       ·subst hje
        rw [z14 (by omega) (by omega)]
        exact (jW cls (X ++ Y)).1
       ·have := hkj2 j (by omega)
        rw [EN (by simp; omega)]; trivial
     ·(simp (disch := omega) [wk, aL, aI, aD, aC, get, aK, belowM, below, belows, aA, aB, Bv, U8, Sv, bJ, List.append_assoc] <;> try omega)
    ·have e1 : (k : Int) + (bs : Int) = ((k + bs : Nat) : Int) := by omega
     repeat' first | simp (maxSteps := 4000000) (disch := omega) only [aZ, aY, bun, ↓aW, ↓aV, aO, findLabel, ↓reduceIte, imp, shift, aR, aJ, unown, names, aQ, below, aD, aC, aT, aU, aS, ren, aN, aP, aX, renO, belowM, seval, -Int.reduceToNat, e1, bT, b9, fC, bJ] | refine bA _ ?_ | refine fkx ?_ tru <;> intro hg | refine fkx ?_ ?_ <;> intro hg | exact fkx tru tru | refine And.intro (by omega) ?_ | omega
     refine ⟨(bs * 2, W), ⟨w1, w2, by dsimp only; omega, by dsimp only; omega, fun j => ?_⟩, by dsimp only; omega, ?_⟩
     ·dsimp only
      rw [Nat.mul_comm bs 2]
      by_cases hji : j < i
      ·exact w3 j hji
      ·by_cases hje : j = i
       ·subst hje
        unfold seg
        rw [← hk, List.take_of_length_le (by simp; omega)]
        rw [List.take_of_length_le (by simp; omega)] at uX
        exact uX
       ·have := hkj2 j (by omega)
        rw [EN (by omega)]; trivial
     ·(simp (disch := omega) [wk, aL, aI, aD, aC, get, aK, belowM, below, belows, aA, aB, Bv, U8, Sv, bJ] <;> try omega)
  ·have hup : Up cls W := by
    have := w3 0
    unfold seg at this
    rw [Nat.mul_zero, List.drop_zero, List.take_of_length_le (by omega)] at this
    exact this
   rw [← rR hup w2]
   exact sP tru tru tru
theorem z1n (A S B : List Int) (off n : Nat) (ho : off = A.length) (hn : n = S.length) (hL : (A ++ S ++ B).length ≤ 1000000) (hr : ∀ r ∈ S, bO r) :
  eV Tryz.prog 164 [.row true 1 bK, .row false 1 ((A ++ S ++ B).map aB)] [.ref 1 off n, .fn 165 [] [.ptr 0 0]] [.row true 1 bK, .row false 1 ((A ++ ssort cls S ++ B).map aB), .fence] (.tup []) := by
 refine jV (ts := []) bZ Tryz.func164 rfl rfl (by decide +kernel) (by simp [Tryz.ntmps164]) rfl ?_
 have hc := zkn A S B off n ho hn hL hr
 repeat' first | (refine dG [0, 1] hc ?_; clear hc) | refine sP ?_ tru tru <;> intros | refine sP ?_ ?_ tru <;> intros | refine sP ?_ ?_ ?_ <;> intros | exact sP tru tru tru | fail
end Go.AE
-- types: B0 B3 B4 B63 B162
end
section
namespace Go.AE
open Go.Proofs
set_option maxRecDepth 20000
set_option maxHeartbeats 8000000
set_option linter.unusedSimpArgs false
theorem o3 (s : St) : fz s tab = tab := rfl
theorem qD (n : Nat) : below n tab = true := rfl
theorem qE : names tab = false := rfl
theorem z2n (s : St) : bK.map (dW s) = bK := rfl
theorem sQ {P Q R S : Prop} (a : Q) (b : R) (c : S) (h : Mk P → bD Q → bD R → bD S → P := by
 intro m q r s
 repeat' first | refine aM (by first | assumption | (apply_assumption <;> omega)) ?_ ?_ | refine cM.fit (by assumption) ?_ | simp (maxSteps := 4000000) (disch := omega) only [aZ, aY, bun, ↓aW, ↓aV, aO, findLabel, ↓reduceIte, imp, shift, aR, aJ, unown, names, aQ, below, aD, aC, aT, aU, aS, ren, aN, aP, aX, renO, belowM, seval, -Int.reduceToNat, bT, b9, fC, bJ, o3, qD, qE, nZ, gJ, oT, z2n, cT, List.append_nil, *] | exact bH _ | refine bG _ _ ?_ | exact bC.cl | refine bE _ ?_ | refine bF _ _ ?_ ?_ | refine bA _ ?_ | refine fkx ?_ tru <;> intro hg | refine fkx ?_ ?_ <;> intro hg | exact fkx tru tru | refine And.intro (by omega) ?_ | omega
 first
 | done
 | all_goals (repeat revert hg)
   exact q.out
   first
   | done
   | exact r.out
     first
     | done
     | exact s.out
       first | done | fail) : P := h ⟨tru⟩ ⟨a⟩ ⟨b⟩ ⟨c⟩
theorem zey : aG Tryz.prog 207 [.sl 0 [], aA 0, aA 0, .fn 165 [] [.cp bK]] (.tup []) := by
 refine sp [] Tryz.func207 Tryz.ntmps207 ?_
 refine sQ ?_ tru tru <;> intros
 refine bL (fun i : Nat => ⟨[(2, aA 0), (8, aA 1)], []⟩) (fun i => i = 0) (fun i => 0) 0 rfl bN ?_
 rintro i rfl
 exact sQ tru tru tru
theorem zkm : aG Tryz.prog 191 [.sl 0 [], aA 0, .fn 165 [] [.cp bK]] (.tup []) := by
 refine sp [] Tryz.func191 Tryz.ntmps191 ?_
 refine sQ ?_ tru tru <;> intros
 refine bL (fun i : Nat => ⟨[(0, .sl 0 []), (1, aA 0), (2, .fn 165 [] [.cp bK]), (6, aA 20), (7, aA 0), (8, aA 20)], []⟩) (fun i => i = 0) (fun i => 0) 0 rfl bN ?_
 rintro i rfl
 (have := zey; refine sQ ?_ tru tru <;> intros)
 refine bL (fun i : Nat => ⟨[(1, aA 0), (6, aA 20)], []⟩) (fun i => i = 0) (fun i => 0) 0 rfl bN ?_
 rintro i rfl
 exact sQ tru tru tru
theorem zkg : aG Tryz.prog 164 [.sl 0 [], .fn 165 [] [.cp bK]] (.tup []) := by
 refine sp [] Tryz.func164 Tryz.ntmps164 ?_
 (have := zkm; exact sQ tru tru tru)
theorem zhy (l : List Int) (hl : l.length ≤ 500000) (hr : ∀ r ∈ l, bO r) : aG Tryz.prog 124 [tab, .sl l.length (l.map aB)] (.own 21 1 l.length ((cX l).map aB)) := by
 rw [← cT]
 refine sp [.tmp 4] Tryz.func124 Tryz.ntmps124 ?_
 repeat' first | refine aM (zau l (by omega)) ?_ ?_ | simp (maxSteps := 4000000) (disch := omega) only [aZ, aY, bun, ↓aW, ↓aV, aO, findLabel, ↓reduceIte, imp, shift, aR, aJ, unown, names, aQ, below, aD, aC, aT, aU, aS, ren, aN, aP, aX, renO, belowM, seval, -Int.reduceToNat, nZ, gJ, bT, b9, fC, bJ, o3, qD, qE] | exact bH _ | refine bG _ _ ?_ | exact bC.cl | refine bE _ ?_ | refine bF _ _ ?_ ?_ | refine bA _ ?_ | refine fkx ?_ tru <;> intro hg | refine fkx ?_ ?_ <;> intro hg | exact fkx tru tru | refine And.intro (by omega) ?_ | omega
 refine bL (fun x : Nat × Nat × List Int × List Int × List Int => ⟨[(2, .ptr 0 0), (5, .ref 2 0 l.length), (6, aA x.1), (7, aA x.2.1)], [.row true 1 bK, .dead, .arr 21 1 ((x.2.2.1 ++ x.2.2.2.1 ++ x.2.2.2.2).map aB)]⟩)
  (fun x => (x.2.2.1 ++ x.2.2.2.1 ++ x.2.2.2.2).length = l.length ∧ ((x.1 = x.2.2.1.length ∧ x.2.1 = x.1 + x.2.2.2.1.length ∧ x.2.2.1 ++ cS x.2.2.2.1 x.2.2.2.2 = cX l ∧ (∀ r ∈ x.2.2.2.1, bO r) ∧ ∀ r ∈ x.2.2.2.2, bO r) ∨ (x.2.1 = l.length + 1 ∧ x.2.2.2.1 = [] ∧ x.2.2.2.2 = [] ∧ x.2.2.1 = cX l)))
  (fun x => l.length + 1 - x.2.1) (0, 0, [], [], l) ⟨by simp, .inl ⟨rfl, rfl, rfl, by simp, hr⟩⟩ (by (simp (disch := omega) [wk, aL, aI, aD, aC, get, aK, belowM, below, belows, aA, aB, Bv, U8, Sv, bJ] <;> try omega)) ?_
 rintro ⟨fr, k, D, R, T⟩ ⟨h1, h2⟩
 dsimp only at h1 h2
 rcases h2 with ⟨q1, q2, q3, q4, q5⟩ | ⟨q1, q2, q3, q4⟩
 ·have hlen : D.length + R.length + T.length = l.length := by simpa [Nat.add_assoc] using h1
  cases T with
  | nil =>
   simp only [List.append_nil] at *
   rw [cS] at q3
   have hk : k = l.length := by simp at hlen; omega
   by_cases h0 : 0 < l.length
   ·have hc := z1n D R [] fr R.length q1 rfl (by simp at hlen; simp; omega) q4
    simp only [List.append_nil] at hc
    have e1 : k - fr = R.length := by omega
    repeat' first | (refine dG [0, 2] (hc) ?_; clear hc) | simp (maxSteps := 4000000) (disch := omega) only [aZ, aY, bun, ↓aW, ↓aV, aO, findLabel, ↓reduceIte, imp, shift, aR, aJ, unown, names, aQ, below, aD, aC, aT, aU, aS, ren, aN, aP, aX, renO, belowM, seval, -Int.reduceToNat, nZ, gJ, oT, e1, h1, bT, b9, fC, bJ, o3, qD, qE] | exact bH _ | refine bG _ _ ?_ | exact bC.cl | refine bE _ ?_ | refine bF _ _ ?_ ?_ | refine bA _ ?_ | refine fkx ?_ tru <;> intro hg | refine fkx ?_ ?_ <;> intro hg | exact fkx tru tru | refine And.intro (by omega) ?_ | omega
    have hsl := nV cls R
    refine ⟨(k + 1, k + 1, cX l, [], []), ⟨by dsimp only; rw [← q3]; simp at hlen; simp; omega, .inr ⟨by dsimp only; omega, rfl, rfl, rfl⟩⟩, by dsimp only; omega, ?_⟩
    rw [← q3]
    (simp (disch := omega) [wk, aL, aI, aD, aC, get, aK, belowM, below, belows, aA, aB, Bv, U8, Sv, bJ] <;> try omega)
   ·have hR : R = [] := List.length_eq_zero_iff.1 (by simp at hlen; omega)
    have hD : D = [] := List.length_eq_zero_iff.1 (by simp at hlen; omega)
    have hl0 : l = [] := List.length_eq_zero_iff.1 (by omega)
    subst hR; subst hD; subst hl0
    simp only [List.length_nil] at *
    subst q1
    have hk0 : k = 0 := hk
    subst hk0
    repeat' first | refine aM (zkg) ?_ ?_ | simp (maxSteps := 4000000) (disch := omega) only [aZ, aY, bun, ↓aW, ↓aV, aO, findLabel, ↓reduceIte, imp, shift, aR, aJ, unown, names, aQ, below, aD, aC, aT, aU, aS, ren, aN, aP, aX, renO, belowM, seval, -Int.reduceToNat, nZ, gJ, oT, z2n, bT, b9, fC, bJ, o3, qD, qE] | exact bH _ | refine bG _ _ ?_ | exact bC.cl | refine bE _ ?_ | refine bF _ _ ?_ ?_ | refine bA _ ?_ | refine fkx ?_ tru <;> intro hg | refine fkx ?_ ?_ <;> intro hg | exact fkx tru tru | refine And.intro (by omega) ?_ | omega
    refine ⟨(1, 1, [], [], []), ⟨rfl, .inr ⟨rfl, rfl, rfl, rfl⟩⟩, by simp, ?_⟩
    (simp (disch := omega) [wk, aL, aI, aD, aC, get, aK, belowM, below, belows, aA, aB, Bv, U8, Sv, bJ] <;> try omega)
  | cons x T =>
   have hx : bO x := q5 x (by simp)
   have hT : ∀ r ∈ T, bO r := fun r hr' => q5 r (by simp [hr'])
   rw [cS] at q3
   simp only [List.length_cons] at hlen
   have e0 : (D ++ R ++ x :: T).getD k 0 = x := kP (by simp; omega)
   by_cases hc : 0 < cls x
   ·rw [if_pos hc] at q3
    repeat' first | refine aM (sE x hx.1 hx.2) ?_ ?_ | simp (maxSteps := 4000000) (disch := omega) only [aZ, aY, bun, ↓aW, ↓aV, aO, findLabel, ↓reduceIte, imp, shift, aR, aJ, unown, names, aQ, below, aD, aC, aT, aU, aS, ren, aN, aP, aX, renO, belowM, seval, -Int.reduceToNat, nZ, gJ, oT, h1, e0, cT, bT, b9, fC, bJ, o3, qD, qE] | exact bH _ | refine bG _ _ ?_ | exact bC.cl | refine bE _ ?_ | refine bF _ _ ?_ ?_ | refine bA _ ?_ | refine fkx ?_ tru <;> intro hg | refine fkx ?_ ?_ <;> intro hg | exact fkx tru tru | refine And.intro (by omega) ?_ | omega
    refine ⟨(fr, k + 1, D, R ++ [x], T), ⟨by simp; omega, .inl ⟨q1, by simp; omega, q3, fun r hr' => ?_, hT⟩⟩, by dsimp only; omega, ?_⟩
    ·rcases List.mem_append.1 hr' with h | h
     ·exact q4 r h
     ·simp at h; subst h; exact hx
    ·(simp (disch := omega) [wk, aL, aI, aD, aC, get, aK, belowM, below, belows, aA, aB, Bv, U8, Sv, bJ, List.append_assoc] <;> try omega)
   ·rw [if_neg hc] at q3
    have hs := z1n D R (x :: T) fr R.length q1 rfl (by simp; omega) q4
    have e1 : k - fr = R.length := by omega
    have hsl := nV cls R
    repeat' first | refine aM (sE x hx.1 hx.2) ?_ ?_ | (refine dG [0, 2] (hs) ?_; clear hs) | simp (maxSteps := 4000000) (disch := omega) only [aZ, aY, bun, ↓aW, ↓aV, aO, findLabel, ↓reduceIte, imp, shift, aR, aJ, unown, names, aQ, below, aD, aC, aT, aU, aS, ren, aN, aP, aX, renO, belowM, seval, -Int.reduceToNat, nZ, gJ, oT, e1, h1, e0, cT, bT, b9, fC, bJ, o3, qD, qE] | exact bH _ | refine bG _ _ ?_ | exact bC.cl | refine bE _ ?_ | refine bF _ _ ?_ ?_ | refine bA _ ?_ | refine fkx ?_ tru <;> intro hg | refine fkx ?_ ?_ <;> intro hg | exact fkx tru tru | refine And.intro (by omega) ?_ | omega
    refine ⟨(k + 1, k + 1, D ++ ssort cls R ++ [x], [], T), ⟨by simp; omega, .inl ⟨by simp; omega, by simp, ?_, by simp, hT⟩⟩, by dsimp only; omega, ?_⟩
    ·simpa using q3
    ·(simp (disch := omega) [wk, aL, aI, aD, aC, get, aK, belowM, below, belows, aA, aB, Bv, U8, Sv, bJ, List.append_assoc] <;> try omega)
 ·subst q2; subst q3; subst q4
  simp only [List.append_nil] at h1
  repeat' first | simp (maxSteps := 4000000) (disch := omega) only [aZ, aY, bun, ↓aW, ↓aV, aO, findLabel, ↓reduceIte, imp, shift, aR, aJ, unown, names, aQ, below, aD, aC, aT, aU, aS, ren, aN, aP, aX, renO, belowM, seval, -Int.reduceToNat, h1, List.append_nil, bT, b9, fC, bJ, o3, qD, qE] | refine bA _ ?_ | refine fkx ?_ tru <;> intro hg | refine fkx ?_ ?_ <;> intro hg | exact fkx tru tru | refine And.intro (by omega) ?_ | omega
end Go.AE
-- types: B0 B3 B4 B21 B29 B63 B162
end
section
namespace Go.AE
open Go.Proofs
set_option maxRecDepth 20000
set_option maxHeartbeats 4000000
set_option linter.unusedSimpArgs false
theorem gK {P Q R S : Prop} (a : Q) (b : R) (c : S) (h : Mk P → bD Q → bD R → bD S → P := by
 intro m q r s
 repeat' first | refine aM (by first | assumption | (apply_assumption <;> omega)) ?_ ?_ | refine cM.fit (by assumption) ?_ | simp (maxSteps := 4000000) (disch := omega) only [aZ, aY, bun, ↓aW, ↓aV, aO, findLabel, ↓reduceIte, imp, shift, aR, aJ, unown, names, aQ, below, aD, aC, aT, aU, aS, ren, aN, aP, aX, renO, belowM, seval, -Int.reduceToNat, bT, b9, o3, qD, qE, bR, List.map_append, *] | exact bH _ | refine bG _ _ ?_ | exact bC.cl | refine bE _ ?_ | refine bF _ _ ?_ ?_ | refine bA _ ?_ | refine fkx ?_ tru <;> intro hg | refine fkx ?_ ?_ <;> intro hg | exact fkx tru tru | refine And.intro (by omega) ?_ | omega
 first
 | done
 | all_goals (repeat revert hg)
   exact q.out
   first
   | done
   | exact r.out
     first
     | done
     | exact s.out
       first | done | fail) : P := h ⟨tru⟩ ⟨a⟩ ⟨b⟩ ⟨c⟩
theorem jB (r : Int) : aG Tryz.prog 174 [aB r] (Bv (han r)) := by
 refine sp [.tmp 2] Tryz.func174 Tryz.ntmps174 ?_
 refine gK ?_ ?_ tru <;> intros
 all_goals (simp [han]; omega)
theorem zje (a b : Int) (ha : bO a) (hb : bO b) : aG Tryz.prog 135 [aB a, aB b] (.tup [aB (bP a b).1, Bv (bP a b).2]) := by
 refine sp [.tmp 4, .tmp 5] Tryz.func135 Tryz.ntmps135 ?_
 obtain ⟨ha0, ha1⟩ := ha
 obtain ⟨hb0, hb1⟩ := hb
 by_cases h1 : 4352 ≤ a ∧ a ≤ 4370 ∧ 4449 ≤ b ∧ b ≤ 4469
 ·have e : bP a b = (44032 + (a - 4352) * 588 + (b - 4449) * 28, true) := by unfold bP; rw [if_pos h1]
  rw [e]
  exact gK tru tru tru
 ·cases hh : han a with
  | false =>
   have e : bP a b = pr a b := by unfold bP; rw [if_neg h1, if_neg (by rw [hh]; simp)]
   rw [e]
   by_cases c1 : 4352 ≤ a
   ·by_cases c2 : a ≤ 4370
    ·by_cases c3 : 4449 ≤ b
     ·(have := jB a; have := q9 a b; exact gK tru tru tru)
     ·(have := jB a; have := q9 a b; exact gK tru tru tru)
    ·(have := jB a; have := q9 a b; exact gK tru tru tru)
   ·(have := jB a; have := q9 a b; exact gK tru tru tru)
  | true =>
   have hb' : 44032 ≤ a ∧ a ≤ 55203 := by simpa [han] using hh
   by_cases h2 : (a - 44032) % 28 = 0 ∧ 4520 ≤ b ∧ b ≤ 4546
   ·have e : bP a b = (a + b - 4519, true) := by unfold bP; rw [if_neg h1, if_pos ⟨hh, h2⟩]
    rw [e]
    (have := jB a; have := q9 a b; exact gK tru tru tru)
   ·have e : bP a b = pr a b := by unfold bP; rw [if_neg h1, if_neg (fun h => h2 h.2)]
    rw [e]
    by_cases c1 : (a - 44032) % 28 = 0
    ·by_cases c2 : 4520 ≤ b
     ·(have := jB a; have := q9 a b; exact gK tru tru tru)
     ·(have := jB a; have := q9 a b; exact gK tru tru tru)
    ·(have := jB a; have := q9 a b; exact gK tru tru tru)
theorem z0a (r : Int) (soft : Bool) (hr : bO r) (h : han r = true ∨ stop soft r = true) : aG Tryz.prog 134 [aB r, Bv soft] (.own 21 1 (cE soft r).length ((cE soft r).map aB)) := by
 have he := iB soft r
 refine sp [.tmp 4] Tryz.func134 Tryz.ntmps134 ?_
 cases hh : han r with
 | true =>
  rw [hh, if_pos rfl] at he
  have hb : 44032 ≤ r ∧ r ≤ 55203 := by simpa [han] using hh
  by_cases h28 : (r - 44032) % 28 = 0
  ·have hs : cE soft r = [4352 + (r - 44032) / 588, 4449 + (r - 44032) % 588 / 28] := by rw [he, syl, if_pos h28]; rfl
   rw [hs]
   (have := jB r; exact gK tru tru tru)
  ·have hs : cE soft r = [4352 + (r - 44032) / 588, 4449 + (r - 44032) % 588 / 28, 4519 + (r - 44032) % 28] := by rw [he, syl, if_neg h28]; rfl
   rw [hs]
   (have := jB r; exact gK tru tru tru)
 | false =>
  have hst := h.resolve_left (by rw [hh]; simp)
  rw [hh, hst] at he
  have hs : cE soft r = [r] := by rw [he]; simp
  rw [hs]
  unfold stop at hst
  cases h2 : (spl r).2 with
  | false => (have := jB r; have := rN r; exact gK tru tru tru)
  | true =>
   rw [h2] at hst
   cases h3 : (spl r).1.2.2.2.1 with
   | false => rw [h3] at hst; simp at hst
   | true =>
    cases soft with
    | true => rw [h3] at hst; simp at hst
    | false => (have := jB r; have := rN r; exact gK tru tru tru)
theorem zjg : ∀ (n : Nat) (r : Int) (soft : Bool), lA n r → bO r → aG Tryz.prog 134 [aB r, Bv soft] (.own 21 1 (cE soft r).length ((cE soft r).map aB)) := by
 intro n
 induction n with
 | zero => intro r soft hd hr; exact z0a r soft hr (.inr (by simp [stop, show (spl r).2 = false from hd]))
 | succ n ih =>
  intro r soft hd hr
  by_cases hs : han r = true ∨ stop soft r = true
  ·exact z0a r soft hr hs
  ·have h1 : han r = false := by simpa using fun h => hs (.inl h)
   have h2 : stop soft r = false := by simpa using fun h => hs (.inr h)
   have he := iB soft r
   rw [h1, h2] at he
   have hsp : (spl r).2 = true := by
    unfold stop at h2
    cases hq : (spl r).2
    ·rw [hq] at h2; simp at h2
    ·rfl
   have hsoft : ((spl r).1.2.2.2.1 && !soft) = false := by
    unfold stop at h2
    rw [hsp] at h2
    simpa using h2
   obtain ⟨b1, b2, b3, b4⟩ := ER hsp
   have i1 := ih (spl r).1.2.1 soft (hd hsp).1 (by unfold bO; omega)
   have l1 := pT 5 soft (spl r).1.2.1
   have l2 := pT 5 soft (spl r).1.2.2.1
   rw [show dR 5 soft (spl r).1.2.1 = cE soft (spl r).1.2.1 from rfl] at l1
   rw [show dR 5 soft (spl r).1.2.2.1 = cE soft (spl r).1.2.2.1 from rfl] at l2
   by_cases h0 : (spl r).1.2.2.1 = 0
   ·have hs1 : cE soft r = cE soft (spl r).1.2.1 := by rw [he]; simp [h0]
    rw [hs1]
    refine sp [.tmp 4] Tryz.func134 Tryz.ntmps134 ?_
    cases h3 : (spl r).1.2.2.2.1 with
    | false => (have := jB r; have := rN r; exact gK tru tru tru)
    | true =>
     have : soft = true := by rw [h3] at hsoft; simpa using hsoft
     subst this
     (have := jB r; have := rN r; exact gK tru tru tru)
   ·have i2 := ih (spl r).1.2.2.1 soft ((hd hsp).2 h0) (by unfold bO; omega)
    have hs1 : cE soft r = cE soft (spl r).1.2.1 ++ cE soft (spl r).1.2.2.1 := by rw [he]; simp [h0]
    rw [hs1]
    refine sp [.tmp 4] Tryz.func134 Tryz.ntmps134 ?_
    cases h3 : (spl r).1.2.2.2.1 with
    | false => (have := jB r; have := rN r; exact gK tru tru tru)
    | true =>
     have : soft = true := by rw [h3] at hsoft; simpa using hsoft
     subst this
     (have := jB r; have := rN r; exact gK tru tru tru)
theorem rone (r : Int) (soft : Bool) (hr : bO r) : aG Tryz.prog 134 [aB r, Bv soft] (.own 21 1 (cE soft r).length ((cE soft r).map aB)) := zjg 4 r soft (xU r) hr
theorem z1t (soft : Bool) (l : List Int) (i : Nat) (h : i < l.length) : bM soft (l.take (i + 1)) = bM soft (l.take i) ++ cE soft (l.getD i 0) := by
 unfold bM
 rw [gB l i 0 h, List.flatMap_append]; simp
theorem zhn (soft : Bool) (r : Int) : (cE soft r).length ≤ 4 := by
 rw [iB]
 split
 ·unfold syl; split <;> simp
 ·split
  ·simp
  ·rename_i hst
   have hs : (spl r).2 = true := by
    unfold stop at hst
    cases hq : (spl r).2
    ·rw [hq] at hst; simp at hst
    ·rfl
   have h := l5 (q := fun _ s => decide ((dR 5 true s.2.1).length + (dR 5 true s.2.2.1).length ≤ 4) && decide ((dR 5 false s.2.1).length + (dR 5 false s.2.2.1).length ≤ 4)) (by decide +kernel) (by decide +kernel) hs
   simp only [Bool.and_eq_true, decide_eq_true_eq] at h
   have h' : (dR 5 soft (spl r).1.2.1).length + (dR 5 soft (spl r).1.2.2.1).length ≤ 4 := by cases soft; exact h.2; exact h.1
   change (dR 5 soft (spl r).1.2.1).length + _ ≤ 4 at h'
   split
   ·show (dR 5 soft (spl r).1.2.1).length ≤ 4; omega
   ·rw [List.length_append]; exact h'
theorem tW (soft : Bool) : ∀ (l : List Int), (bM soft l).length ≤ 4 * l.length
 | [] => by simp [bM]
 | a :: l => by
  have h1 := tW soft l
  have h2 := zhn soft a
  simp only [bM, List.flatMap_cons, List.length_append, List.length_cons] at h1 ⊢
  omega
theorem zjo (l : List Int) (soft : Bool) (hl : l.length ≤ 20000) (hr : ∀ r ∈ l, bO r) : aG Tryz.prog 79 [.sl l.length (l.map aB), Bv soft] (.own 21 1 (bM soft l).length ((bM soft l).map aB)) := by
 refine sp [.tmp 4] Tryz.func79 Tryz.ntmps79 ?_
 refine gK ?_ tru tru <;> intros
 refine bL (fun i : Nat => ⟨[(0, .sl l.length (l.map aB)), (1, Bv soft), (5, .ref 1 0 (bM soft (l.take i)).length), (6, aA i)], [.dead, .arr 21 1 ((bM soft (l.take i)).map aB)]⟩) (fun i => i ≤ l.length) (fun i => l.length - i) 0 (by simp) (by (simp (disch := omega) [wk, aL, aI, aD, aC, get, aK, belowM, below, belows, aA, aB, Bv, U8, Sv, bM] <;> try omega)) ?_
 intro i hi
 have hln := tW soft (l.take i)
 have hlt0 : (l.take i).length = i := by simp; omega
 by_cases hlt : i < l.length
 ·have ht := z1t soft l i hlt
  have hg0 : bO (l.getD i 0) := hr _ (by simp [List.getD, hlt])
  have l1 := pT 5 soft (l.getD i 0)
  rw [show dR 5 soft (l.getD i 0) = cE soft (l.getD i 0) from rfl] at l1
  (have := rone (l.getD i 0) soft hg0; refine gK ?_ tru tru <;> intros)
  refine ⟨i + 1, by omega, by omega, ?_⟩
  rw [ht]
  (simp (disch := omega) [wk, aL, aI, aD, aC, get, aK, belowM, below, belows, aA, aB, Bv, U8, Sv, List.map_append] <;> try omega)
 ·have e : i = l.length := by omega
  subst e
  rw [List.take_length] at *
  exact gK tru tru tru
end Go.AE
-- types: B0 B3 B4 B21 B53 B63 B134 B139
end
section
namespace Go.AE
open Go.Proofs
set_option maxRecDepth 20000
set_option maxHeartbeats 4000000
set_option linter.unusedSimpArgs false
theorem qU {P Q R S : Prop} {H : Prop} (o : H) (a : Q) (b : R) (c : S) (h : H → Mk P → bD Q → bD R → bD S → P := by
 intro w m q r s
 repeat' first | refine aM (by first | assumption | (apply_assumption <;> omega)) ?_ ?_ | refine cM.fit (by assumption) ?_ | simp (maxSteps := 4000000) (disch := omega) only [aZ, aY, bun, ↓aW, ↓aV, aO, findLabel, ↓reduceIte, imp, shift, aR, aJ, unown, names, aQ, below, aD, aC, aT, aU, aS, ren, aN, aP, aX, renO, belowM, seval, -Int.reduceToNat, bT, b9, o3, mU, List.length_set, w] | exact bH _ | refine bG _ _ ?_ | exact bC.cl | refine bE _ ?_ | refine bF _ _ ?_ ?_ | refine bA _ ?_ | refine fkx ?_ tru <;> intro hg | refine fkx ?_ ?_ <;> intro hg | exact fkx tru tru | refine And.intro (by omega) ?_ | omega
 first
 | done
 | all_goals (repeat revert hg)
   exact q.out
   first
   | done
   | exact r.out
     first
     | done
     | exact s.out
       first | done | fail) : P := h o ⟨tru⟩ ⟨a⟩ ⟨b⟩ ⟨c⟩
theorem zjh (l : List Int) (hl : l.length ≤ 500000) (hr : ∀ r ∈ l, bO r) : aG Tryz.prog 78 [.sl l.length (l.map aB)] (.own 21 1 l.length ((cX l).map aB)) := by
 rw [← zl7]
 refine sp [.tmp 2] Tryz.func78 Tryz.ntmps78 ?_
 refine qU tru ?_ tru tru <;> intros
 refine bL (fun k : Nat => ⟨[(3, .ref 1 0 l.length), (4, aA k)], [.dead, .arr 21 1 ((iF k l).map aB)]⟩) (fun k => k ≤ l.length) (fun k => l.length - k) 0 (by simp) (by (simp (disch := omega) [wk, aL, aI, aD, aC, get, aK, belowM, below, belows, aA, aB, Bv, U8, Sv, iF] <;> try omega)) ?_
 intro k hk
 obtain ⟨hkin, hlen⟩ := AG k l
 have hsucc := FK k l
 have hrW : ∀ r ∈ iF k l, bO r := fun r h => hr r (hkin.mem.1 h)
 by_cases hlt : k < l.length
 ·generalize iF k l = W at *
  refine qU hlen ?_ tru tru <;> intros
  obtain ⟨x0, T0, hW⟩ : ∃ x T, W = x :: T := by
   cases W with
   | nil => simp at hlen; omega
   | cons x T => exact ⟨x, T, rfl⟩
  refine bL (fun x : List Int × Int × List Int => ⟨[(3, .ref 1 0 l.length), (4, aA k), (5, aA (x.1.length + 1))], [.dead, .arr 21 1 ((x.1 ++ x.2.1 :: x.2.2).map aB)]⟩)
   (fun x => (x.1 ++ x.2.1 :: x.2.2).length = l.length ∧ x.1 ++ u5 x.2.1 x.2.2 = f6 W ∧ ∀ r ∈ x.1 ++ x.2.1 :: x.2.2, bO r) (fun x => x.2.2.length) ([], x0, T0) ⟨by rw [← hlen, hW]; rfl, by rw [hW]; rfl, by rw [hW] at hrW; exact hrW⟩ (by subst hW; (simp (disch := omega) [wk, aL, aI, aD, aC, get, aK, belowM, below, belows, aA, aB, Bv, U8, Sv, ] <;> try omega)) ?_
  rintro ⟨D, x, T⟩ ⟨h1, h2, h3⟩
  dsimp only at h1 h2 h3
  have hl1 : D.length + (T.length + 1) = l.length := by simpa using h1
  have hx := h3 x (by simp)
  have ex : (D ++ x :: T).getD D.length 0 = x := kP rfl
  cases T with
  | nil =>
   simp only [List.length_nil] at hl1
   refine qU h1 ?_ tru tru <;> intros
   refine ⟨k + 1, by omega, by omega, ?_⟩
   rw [hsucc, ← h2]
   (simp (disch := omega) [wk, aL, aI, aD, aC, get, aK, belowM, below, belows, aA, aB, Bv, U8, Sv, u5] <;> try omega)
  | cons y T =>
   simp only [List.length_cons] at hl1
   have hy := h3 y (by simp)
   have ey : (D ++ x :: y :: T).getD (D.length + 1) 0 = y := by
    rw [show D ++ x :: y :: T = (D ++ [x]) ++ y :: T by simp]
    exact kP (by simp)
   have e1 : ((D.length : Int) + 1 - 1).toNat = D.length := by omega
   have e2 : ((D.length : Int) + 1).toNat = D.length + 1 := by omega
   have esw : ((D ++ x :: y :: T).set D.length y).set (D.length + 1) x = D ++ y :: x :: T := z23 rfl
   simp only [u5] at h2
   by_cases c1 : 0 < cls y
   ·by_cases c2 : cls y < cls x
    ·rw [if_pos ⟨c1, c2⟩] at h2
     (have := kV x hx.1 hx.2; have := kV y hy.1 hy.2; refine qU (And.intro h1 (And.intro e1 (And.intro e2 (And.intro ex (And.intro ey esw))))) ?_ tru tru <;> intros)
     refine ⟨(D ++ [y], x, T), ⟨by simp; omega, by rw [← h2]; simp, fun r h => h3 r (by simp only [List.mem_append, List.mem_cons, List.not_mem_nil, or_false] at h ⊢; rcases h with (h | h) | h | h <;> simp [h])⟩, by simp, ?_⟩
     (simp (disch := omega) [wk, aL, aI, aD, aC, get, aK, belowM, below, belows, aA, aB, Bv, U8, Sv, List.append_assoc] <;> try omega)
    ·rw [if_neg (fun h => c2 h.2)] at h2
     (have := kV x hx.1 hx.2; have := kV y hy.1 hy.2; refine qU (And.intro h1 (And.intro e1 (And.intro e2 (And.intro ex ey)))) ?_ tru tru <;> intros)
     refine ⟨(D ++ [x], y, T), ⟨by simp; omega, by rw [← h2]; simp, fun r h => h3 r (by simp at h ⊢; exact h)⟩, by simp, ?_⟩
     (simp (disch := omega) [wk, aL, aI, aD, aC, get, aK, belowM, below, belows, aA, aB, Bv, U8, Sv, List.append_assoc] <;> try omega)
   ·rw [if_neg (fun h => c1 h.1)] at h2
    (have := kV x hx.1 hx.2; have := kV y hy.1 hy.2; refine qU (And.intro h1 (And.intro e1 (And.intro e2 (And.intro ex ey)))) ?_ tru tru <;> intros)
    refine ⟨(D ++ [x], y, T), ⟨by simp; omega, by rw [← h2]; simp, fun r h => h3 r (by simp at h ⊢; exact h)⟩, by simp, ?_⟩
    (simp (disch := omega) [wk, aL, aI, aD, aC, get, aK, belowM, below, belows, aA, aB, Bv, U8, Sv, List.append_assoc] <;> try omega)
 ·have e : k = l.length := by omega
  subst e
  exact qU hlen tru tru tru
end Go.AE
-- types: B0 B3 B4 B21 B63
end
section
namespace Go.AE
open Go.Proofs
set_option maxRecDepth 20000
set_option maxHeartbeats 4000000
set_option linter.unusedSimpArgs false
theorem tZ (s : St) : fzs s bK = bK := rfl
theorem u3 : namess bK = false := rfl
theorem qS {P Q R S : Prop} (a : Q) (b : R) (c : S) (h : Mk P → bD Q → bD R → bD S → P := by
 intro m q r s
 repeat' first | refine aM (by first | assumption | (apply_assumption <;> omega)) ?_ ?_ | refine cM.fit (by assumption) ?_ | simp (maxSteps := 4000000) (disch := omega) only [aZ, aY, bun, ↓aW, ↓aV, aO, findLabel, ↓reduceIte, imp, shift, aR, aJ, unown, names, aQ, below, aD, aC, aT, aU, aS, ren, aN, aP, aX, renO, belowM, seval, -Int.reduceToNat, bT, b9, tZ, bJ, u3, nZ, gJ, oT, *] | exact bH _ | refine bG _ _ ?_ | exact bC.cl | refine bE _ ?_ | refine bF _ _ ?_ ?_ | refine bA _ ?_ | refine fkx ?_ tru <;> intro hg | refine fkx ?_ ?_ <;> intro hg | exact fkx tru tru | refine And.intro (by omega) ?_ | omega
 first
 | done
 | all_goals (repeat revert hg)
   exact q.out
   first
   | done
   | exact r.out
     first
     | done
     | exact s.out
       first | done | fail) : P := h ⟨tru⟩ ⟨a⟩ ⟨b⟩ ⟨c⟩
theorem tJ (r a n : Int) (h0 : 0 ≤ a) (h1 : 0 ≤ n) (h2 : a + n ≤ 2147483647) : aG Tryz.prog 192 [aB r, aB a, aA n] (Bv (decide (a ≤ r ∧ r < a + n))) := by
 refine sp [.tmp 6] Tryz.func192 Tryz.ntmps192 ?_
 by_cases c1 : a ≤ r
 ·by_cases c2 : r < a + n
  ·repeat' first | simp (maxSteps := 4000000) (disch := omega) only [aZ, aY, bun, ↓aW, ↓aV, aO, findLabel, ↓reduceIte, imp, shift, aR, aJ, unown, names, aQ, below, aD, aC, aT, aU, aS, ren, aN, aP, aX, renO, belowM, seval, -Int.reduceToNat, bT, b9, tZ, bJ, u3] | refine bA _ ?_ | refine fkx ?_ tru <;> intro hg | refine fkx ?_ ?_ <;> intro hg | exact fkx tru tru | refine And.intro (by omega) ?_ | omega
   all_goals (simp [c1, c2])
  ·repeat' first | simp (maxSteps := 4000000) (disch := omega) only [aZ, aY, bun, ↓aW, ↓aV, aO, findLabel, ↓reduceIte, imp, shift, aR, aJ, unown, names, aQ, below, aD, aC, aT, aU, aS, ren, aN, aP, aX, renO, belowM, seval, -Int.reduceToNat, bT, b9, tZ, bJ, u3] | refine bA _ ?_ | refine fkx ?_ tru <;> intro hg | refine fkx ?_ ?_ <;> intro hg | exact fkx tru tru | refine And.intro (by omega) ?_ | omega
   all_goals (simp [c1, c2])
 ·refine qS ?_ tru tru <;> intros
  all_goals (simp [c1])
theorem zhb (a b : Int) (ha : bO a) (hb : bO b) : aG Tryz.prog 167 [tab, aB a, aB b] (.tup [aB (bP a b).1, Bv (bP a b).2]) := by
 rw [← cT]
 refine sp [.tmp 6, .tmp 7] Tryz.func167 Tryz.ntmps167 ?_
 have hp := zi5 a b
 rw [← cT] at hp
 obtain ⟨ha0, ha1⟩ := ha
 obtain ⟨hb0, hb1⟩ := hb
 have n1 := tJ a 4352 19 (by decide) (by decide) (by decide)
 have n2 := tJ b 4449 21 (by decide) (by decide) (by decide)
 have n3 := tJ a 44032 11172 (by decide) (by decide) (by decide)
 have n4 := tJ b 4520 27 (by decide) (by decide) (by decide)
 by_cases h1 : 4352 ≤ a ∧ a < 4352 + 19
 ·rw [decide_eq_true h1] at n1
  rw [decide_eq_false (show ¬ (44032 ≤ a ∧ a < 44032 + 11172) by omega)] at n3
  have hh : han a = false := by simp [han]; omega
  by_cases h2 : 4449 ≤ b ∧ b < 4449 + 21
  ·rw [decide_eq_true h2] at n2
   have e : bP a b = (44032 + (a - 4352) * 588 + (b - 4449) * 28, true) := by unfold bP; rw [if_pos (by omega)]
   rw [e]
   refine qS ?_ tru tru <;> intros
   all_goals (congr 4; omega)
  ·rw [decide_eq_false h2] at n2
   have e : bP a b = pr a b := by unfold bP; rw [if_neg (by omega), if_neg (by rw [hh]; simp)]
   rw [e]
   exact qS tru tru tru
 ·rw [decide_eq_false h1] at n1
  by_cases h3 : 44032 ≤ a ∧ a < 44032 + 11172
  ·rw [decide_eq_true h3] at n3
   have hh : han a = true := by simp [han]; omega
   by_cases h5 : (a - 44032) % 28 = 0
   ·by_cases h4 : 4520 ≤ b ∧ b < 4520 + 27
    ·rw [decide_eq_true h4] at n4
     have e : bP a b = (a + b - 4519, true) := by unfold bP; rw [if_neg (by omega), if_pos ⟨hh, h5, by omega⟩]
     rw [e]
     exact qS tru tru tru
    ·rw [decide_eq_false h4] at n4
     have e : bP a b = pr a b := by unfold bP; rw [if_neg (by omega), if_neg (by rintro ⟨_, _, h⟩; omega)]
     rw [e]
     exact qS tru tru tru
   ·have e : bP a b = pr a b := by unfold bP; rw [if_neg (by omega), if_neg (by rintro ⟨_, h, _⟩; omega)]
    rw [e]
    exact qS tru tru tru
  ·rw [decide_eq_false h3] at n3
   have hh : han a = false := by simp [han]; omega
   have e : bP a b = pr a b := by unfold bP; rw [if_neg (by omega), if_neg (by rw [hh]; simp)]
   rw [e]
   exact qS tru tru tru
end Go.AE
-- types: B0 B3 B4 B21 B29 B139
end
section
namespace Go.AE
open Go.Proofs
set_option maxRecDepth 20000
set_option maxHeartbeats 8000000
set_option linter.unusedSimpArgs false
theorem FH (k : Nat) : fF k bK = false := rfl
theorem FI (k : Nat) : j1 k bK = bK := rfl
theorem o4 : type_of% (And.intro @tZ (And.intro @bJ (And.intro @u3 (And.intro @nZ (And.intro @gJ (And.intro @oT (And.intro @FH @FI))))))) := (And.intro @tZ (And.intro @bJ (And.intro @u3 (And.intro @nZ (And.intro @gJ (And.intro @oT (And.intro @FH @FI)))))))
def mx (ms : List Int) : Int := ms.foldl (fun a m => max a (cls m)) 0
theorem zgx (ms : List Int) (x : Int) : mx (ms ++ [x]) = max (mx ms) (cls x) := by simp [mx]
theorem zgw (ms : List Int) : 0 ≤ mx ms ∧ mx ms ≤ 300 := by
 have key : ∀ (ms : List Int) (a : Int), 0 ≤ a → a ≤ 300 → 0 ≤ ms.foldl (fun a m => max a (cls m)) a ∧ ms.foldl (fun a m => max a (cls m)) a ≤ 300 := fun ms => by
  induction ms with
  | nil => intro a h h'; exact ⟨h, h'⟩
  | cons m ms ih => intro a h h'; have := uO m; exact ih _ (show 0 ≤ max a (cls m) by omega) (show max a (cls m) ≤ 300 by omega)
 exact key ms 0 (Int.le_refl 0) (by decide)
theorem zgv {c : Int} : ∀ {ms : List Int}, ms ≠ [] → (∀ m ∈ ms, 0 < cls m) → ((ms.all fun m => decide (cls m < c)) = true ↔ mx ms < c) := by
 intro ms h0 hp
 have key : ∀ (ms : List Int) (a : Int), (ms.foldl (fun a m => max a (cls m)) a < c ↔ a < c ∧ ∀ m ∈ ms, cls m < c) := fun ms => by
  induction ms with
  | nil => intro a; simp
  | cons m ms ih =>
   intro a
   rw [List.foldl_cons, ih]
   simp only [List.mem_cons, forall_eq_or_imp]
   constructor
   ·rintro ⟨h1, h2⟩; exact ⟨by omega, by omega, h2⟩
   ·rintro ⟨h1, h2, h3⟩; exact ⟨by omega, h3⟩
 have := key ms 0
 unfold mx
 rw [this]
 simp only [List.all_eq_true, decide_eq_true_eq]
 refine ⟨fun h => ⟨?_, h⟩, fun h => h.2⟩
 cases ms with
 | nil => exact absurd rfl h0
 | cons m ms =>
  have h1 := h m (by simp)
  have h2 := hp m (by simp)
  omega
def nW (s : JS) : Int := match s.st with
 | none => -1
 | some _ => s.pre.length
theorem zih (s : JS) (x : Int) : nW (s.put x) = (if cls x = 0 then (s.out.length : Int) else nW s) ∧ mx (s.put x).ms = (if cls x = 0 then 0 else max (mx s.ms) (cls x)) := by
 unfold JS.put
 split
 ·exact ⟨rfl, rfl⟩
 ·exact ⟨rfl, zgx _ _⟩
structure JOk (s : JS) : Prop where
 pre : ∀ r ∈ s.out, bO r
theorem TA {l : List Int} (h : ∀ r ∈ l, bO r) : ∀ r ∈ (gX l).out, bO r := by
 have key : ∀ (l : List Int) (s : JS), (∀ r ∈ l, bO r) → (∀ r ∈ s.out, bO r) → ∀ r ∈ (l.foldl cQ s).out, bO r := fun l => by
  induction l with
  | nil => intro s _ h; exact h
  | cons x l ih =>
   intro s h1 h2
   refine ih _ (fun r hr => h1 r (by simp [hr])) ?_
   have hp : ∀ r ∈ (s.put x).out, bO r := fun r hr => by
    rw [oN] at hr
    rcases List.mem_append.1 hr with hr | hr
    ·exact h2 r hr
    ·simp at hr; subst hr; exact h1 _ (by simp)
   unfold cQ
   split
   ·exact hp
   ·rename_i b hb
    split
    ·split
     ·rename_i h3
      intro r hr
      simp only [JS.out, Option.toList_some, List.mem_append, List.mem_cons, List.not_mem_nil, or_false] at hr
      rcases hr with (hr | hr) | hr
      ·exact h2 r (by simp [JS.out, hr])
      ·subst hr; have := W5 h3; unfold bO; omega
      ·exact h2 r (by simp [JS.out, hr])
     ·exact hp
    ·exact hp
 exact key l _ h (by simp [JS.out])
theorem lJ {P Q R S : Prop} {H : Prop} (o : H) (a : Q) (b : R) (c : S) (h : H → Mk P → bD Q → bD R → bD S → P := by
 intro w m q r s
 repeat' first | refine aM (by first | assumption | (apply_assumption <;> omega)) ?_ ?_ | refine cM.fit (by assumption) ?_ | simp (maxSteps := 4000000) (disch := omega) only [aZ, aY, bun, ↓aW, ↓aV, aO, findLabel, ↓reduceIte, imp, shift, aR, aJ, unown, names, aQ, below, aD, aC, aT, aU, aS, ren, aN, aP, aX, renO, belowM, seval, -Int.reduceToNat, bT, b9, tZ, bJ, u3, nZ, gJ, oT, FH, FI, mU, w] | exact bH _ | refine bG _ _ ?_ | exact bC.cl | refine bE _ ?_ | refine bF _ _ ?_ ?_ | refine bA _ ?_ | refine fkx ?_ tru <;> intro hg | refine fkx ?_ ?_ <;> intro hg | exact fkx tru tru | refine And.intro (by omega) ?_ | omega
 first
 | done
 | all_goals (repeat revert hg)
   exact q.out
   first
   | done
   | exact r.out
     first
     | done
     | exact s.out
       first | done | fail) : P := h o ⟨tru⟩ ⟨a⟩ ⟨b⟩ ⟨c⟩
theorem zfc (l : List Int) (hl : l.length ≤ 500000) (hr : ∀ r ∈ l, bO r) : aG Tryz.prog 126 [tab, .sl l.length (l.map aB)] (.own 21 1 (fT l).length ((fT l).map aB)) := by
 rw [← cT]
 refine sp [.tmp 4] Tryz.func126 Tryz.ntmps126 ?_
 refine lJ tru ?_ tru tru <;> intros
 refine bL (fun i : Nat => ⟨[(2, .ptr 0 0), (5, .ref 2 0 (gX (l.take i)).out.length), (6, aA (nW (gX (l.take i)))), (7, aA (mx (gX (l.take i)).ms)), (13, .sl l.length (l.map aB)), (14, aA l.length), (15, aA i)], [.row true 1 bK, .dead, .arr 21 1 ((gX (l.take i)).out.map aB)]⟩)
  (fun i => i ≤ l.length) (fun i => l.length - i) 0 (by simp) (by (simp (disch := omega) [wk, aL, aI, aD, aC, get, aK, belowM, below, belows, aA, aB, Bv, U8, Sv, bJ, gX, JS.out, nW, mx] <;> try omega)) ?_
 intro i hi
 by_cases hlt : i < l.length
 ·have hjt := TB l i hlt
  have hJ := JI.run (l.take i)
  have hJl := vJ (l.take i)
  have hJr := TA (l := l.take i) (fun r h => hr r (List.mem_of_mem_take h))
  have hlt0 : (l.take i).length = i := by simp; omega
  have hx : bO (l.getD i 0) := hr _ (by simp [List.getD, hlt])
  obtain ⟨x, hxe⟩ : ∃ x, l.getD i 0 = x := ⟨_, rfl⟩
  rw [hxe] at hjt hx
  have hc := sE x hx.1 hx.2
  rw [← cT] at hc
  have hc0 := uP x
  have hc1 := uO x
  generalize gX (l.take i) = J at *
  obtain ⟨hp1, hp2⟩ := zih J x
  have hpo := oN J x
  have hmx := zgw J.ms
  cases hst : J.st with
  | none =>
   have hj : cQ J x = J.put x := by unfold cQ; rw [hst]
   have hs0 : nW J = -1 := by unfold nW; rw [hst]
   by_cases hcx : cls x = 0
   ·rw [if_pos hcx] at hp1 hp2
    refine lJ (And.intro hxe (And.intro hcx hs0)) ?_ tru tru <;> intros
    refine ⟨i + 1, by omega, by omega, ?_⟩
    rw [hjt, hj, hp1, hp2, hpo]
    (simp (disch := omega) [wk, aL, aI, aD, aC, get, aK, belowM, below, belows, aA, aB, Bv, U8, Sv, bJ] <;> try omega)
   ·rw [if_neg hcx] at hp1 hp2
    refine lJ (And.intro hxe hs0) ?_ tru tru <;> intros
    refine ⟨i + 1, by omega, by omega, ?_⟩
    rw [hjt, hj, hp1, hp2, hpo, hs0]
    (simp (disch := omega) [wk, aL, aI, aD, aC, get, aK, belowM, below, belows, aA, aB, Bv, U8, Sv, bJ] <;> try omega)
  | some b =>
   have hs0 : nW J = J.pre.length := by unfold nW; rw [hst]
   have hout : J.out = J.pre ++ b :: J.ms := by simp [JS.out, hst]
   have hbo : bO b := hJr b (by rw [hout]; simp)
   have hnp := zhb b x hbo hx
   rw [← cT] at hnp
   have hol : J.out.length = J.pre.length + (J.ms.length + 1) := by rw [hout]; simp
   have hgb : J.out.getD J.pre.length 0 = b := by rw [hout]; exact kP rfl
   have hall : ((J.ms.all fun m => decide (cls m < cls x)) = true) ↔ (J.ms = [] ∨ mx J.ms < cls x) := by
    by_cases h0 : J.ms = []
    ·rw [h0]; simp
    ·rw [zgv h0 hJ.ms]; simp [h0]
   by_cases hm : mx J.ms < cls x
   ·skip
    have hal := hall.2 (.inr hm)
    cases hmk : (bP b x).2 with
    | true =>
     have hj : cQ J x = ⟨J.pre, some (bP b x).1, J.ms⟩ := by
      unfold cQ; rw [hst]; dsimp only; rw [if_pos hal, if_pos hmk]
     have hset : J.out.set J.pre.length (bP b x).1 = J.pre ++ (bP b x).1 :: J.ms := by rw [hout]; exact wQ rfl
     refine lJ (And.intro hxe (And.intro hs0 (And.intro hgb (And.intro hmk hset)))) ?_ tru tru <;> intros
     refine ⟨i + 1, by omega, by omega, ?_⟩
     have o1 : (JS.out ⟨J.pre, some (bP b x).1, J.ms⟩) = J.pre ++ (bP b x).1 :: J.ms := by simp [JS.out]
     have o2 : nW ⟨J.pre, some (bP b x).1, J.ms⟩ = J.pre.length := rfl
     rw [hjt, hj, o1, o2]
     (simp (disch := omega) [wk, aL, aI, aD, aC, get, aK, belowM, below, belows, aA, aB, Bv, U8, Sv, bJ, hol] <;> try omega)
    | false =>
     have hj : cQ J x = J.put x := by
      unfold cQ; rw [hst]; dsimp only; rw [if_pos hal, if_neg (by rw [hmk]; simp)]
     by_cases hcx : cls x = 0
     ·rw [if_pos hcx] at hp1 hp2
      exact lJ (And.intro hxe (And.intro hcx (And.intro hs0 (And.intro hgb hmk)))) tru tru tru
      all_goals refine ⟨i + 1, by omega, by omega, ?_⟩
      all_goals rw [hjt, hj, hp1, hp2, hpo]
      all_goals (simp (disch := omega) [wk, aL, aI, aD, aC, get, aK, belowM, below, belows, aA, aB, Bv, U8, Sv, bJ] <;> try omega)
     ·rw [if_neg hcx] at hp1 hp2
      refine lJ (And.intro hxe (And.intro hs0 (And.intro hgb hmk))) ?_ tru tru <;> intros
      all_goals refine ⟨i + 1, by omega, by omega, ?_⟩
      all_goals rw [hjt, hj, hp1, hp2, hpo, hs0]
      all_goals (simp (disch := omega) [wk, aL, aI, aD, aC, get, aK, belowM, below, belows, aA, aB, Bv, U8, Sv, bJ] <;> try omega)
   ·by_cases h0 : J.ms = []
    ·have hml : J.ms.length = 0 := by rw [h0]; rfl
     have hal := hall.2 (.inl h0)
     cases hmk : (bP b x).2 with
     | true =>
      have hj : cQ J x = ⟨J.pre, some (bP b x).1, J.ms⟩ := by
       unfold cQ; rw [hst]; dsimp only; rw [if_pos hal, if_pos hmk]
      have hset : J.out.set J.pre.length (bP b x).1 = J.pre ++ (bP b x).1 :: J.ms := by rw [hout]; exact wQ rfl
      refine lJ (And.intro hxe (And.intro hs0 (And.intro hgb (And.intro hmk hset)))) ?_ tru tru <;> intros
      refine ⟨i + 1, by omega, by omega, ?_⟩
      have o1 : (JS.out ⟨J.pre, some (bP b x).1, J.ms⟩) = J.pre ++ (bP b x).1 :: J.ms := by simp [JS.out]
      have o2 : nW ⟨J.pre, some (bP b x).1, J.ms⟩ = J.pre.length := rfl
      rw [hjt, hj, o1, o2]
      (simp (disch := omega) [wk, aL, aI, aD, aC, get, aK, belowM, below, belows, aA, aB, Bv, U8, Sv, bJ, hol] <;> try omega)
     | false =>
      have hj : cQ J x = J.put x := by
       unfold cQ; rw [hst]; dsimp only; rw [if_pos hal, if_neg (by rw [hmk]; simp)]
      by_cases hcx : cls x = 0
      ·rw [if_pos hcx] at hp1 hp2
       refine lJ (And.intro hxe (And.intro hcx (And.intro hs0 (And.intro hgb hmk)))) ?_ tru tru <;> intros
       all_goals refine ⟨i + 1, by omega, by omega, ?_⟩
       all_goals rw [hjt, hj, hp1, hp2, hpo]
       all_goals (simp (disch := omega) [wk, aL, aI, aD, aC, get, aK, belowM, below, belows, aA, aB, Bv, U8, Sv, bJ] <;> try omega)
      ·rw [if_neg hcx] at hp1 hp2
       refine lJ (And.intro hxe (And.intro hs0 (And.intro hgb hmk))) ?_ tru tru <;> intros
       all_goals refine ⟨i + 1, by omega, by omega, ?_⟩
       all_goals rw [hjt, hj, hp1, hp2, hpo, hs0]
       all_goals (simp (disch := omega) [wk, aL, aI, aD, aC, get, aK, belowM, below, belows, aA, aB, Bv, U8, Sv, bJ] <;> try omega)
    ·have hml : 0 < J.ms.length := List.length_pos_iff.2 h0
     have hj : cQ J x = J.put x := by
      unfold cQ; rw [hst]; dsimp only; rw [if_neg (fun h => (hall.1 h).elim h0 hm)]
     by_cases hcx : cls x = 0
     ·rw [if_pos hcx] at hp1 hp2
      refine lJ (And.intro hxe (And.intro hcx (And.intro hs0 hgb))) ?_ tru tru <;> intros
      all_goals refine ⟨i + 1, by omega, by omega, ?_⟩
      all_goals rw [hjt, hj, hp1, hp2, hpo]
      all_goals (simp (disch := omega) [wk, aL, aI, aD, aC, get, aK, belowM, below, belows, aA, aB, Bv, U8, Sv, bJ] <;> try omega)
     ·rw [if_neg hcx] at hp1 hp2
      refine lJ (And.intro hxe (And.intro hs0 hgb)) ?_ tru tru <;> intros
      all_goals refine ⟨i + 1, by omega, by omega, ?_⟩
      all_goals rw [hjt, hj, hp1, hp2, hpo, hs0]
      all_goals (simp (disch := omega) [wk, aL, aI, aD, aC, get, aK, belowM, below, belows, aA, aB, Bv, U8, Sv, bJ] <;> try omega)
 ·have e : i = l.length := by omega
  subst e
  rw [List.take_length] at *
  refine lJ tru ?_ tru tru <;> intros
  rfl
end Go.AE
-- types: B0 B3 B4 B21 B29 B63 B139
end
