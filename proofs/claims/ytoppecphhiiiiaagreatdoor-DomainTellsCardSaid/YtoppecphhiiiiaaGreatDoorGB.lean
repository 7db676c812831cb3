/- Contracts of functions that the laws of this seat reach, and plain laws of what they compute. No condition beyond each statement's own. -/
import Derived.Test.YtoppecphhiiiiaaGreatDoorDB
set_option linter.unusedVariables false
set_option linter.unusedSimpArgs false
section
namespace Go.AE
open Go.Proofs
set_option maxRecDepth 20000
set_option maxHeartbeats 8000000
set_option linter.unusedSimpArgs false
def nR (s : List UInt8) : List (List UInt8) := if dM s = 0 then dD s else []
theorem z07 (s : List UInt8) (hs : s.length ≤ 10000000) (hl : (runes s).1.length ≤ 2500) : aG Tryz.prog 11 [Sv s] (.tup [.own 9 1 (nR s).length ((nR s).map Sv), aA (dM s)]) := by
 unfold nR
 by_cases h : (cF s).2 = true ∧ (cF s).1 ≠ []
 ·have c := zja s hs hl h.1 h.2
  have e0 : dM s = if 32 < (dD s).length then 2 else 0 := by
   unfold dM dD
   rw [if_neg (by simp [h.1]), if_neg h.2]
  by_cases h32 : 32 < (dD s).length
  ·rw [if_pos h32] at e0
   rw [if_pos h32, if_pos h32] at c
   rw [if_neg (by rw [e0]; decide)]
   exact c
  ·rw [if_neg h32] at e0
   rw [if_neg h32, if_neg h32] at c
   rw [if_pos e0]
   exact c
 ·have h' : (cF s).2 = false ∨ (cF s).1 = [] := by
   cases hq : (cF s).2 with
   | false => exact .inl rfl
   | true => exact .inr (Classical.byContradiction fun h1 => h ⟨hq, h1⟩)
  have c := zj9 s hs hl h'
  have e0 : dM s ≠ 0 := by
   unfold dM
   rcases h' with h' | h'
   ·rw [if_pos (by rw [h']; rfl)]; decide
   ·by_cases hq : (!(cF s).2) = true
    ·rw [if_pos hq]; decide
    ·rw [if_neg hq, if_pos h']; decide
  rw [if_neg e0]
  exact c
theorem i7 {P Q R S : Prop} (a : Q) (b : R) (c : S) (h : Mk P → bD Q → bD R → bD S → P := by
 intro m q r s
 repeat' first | refine aM (by first | assumption | (apply_assumption <;> omega)) ?_ ?_ | refine cM.fit (by assumption) ?_ | simp (maxSteps := 4000000) (disch := omega) only [aZ, aY, bun, ↓aW, ↓aV, aO, findLabel, ↓reduceIte, imp, shift, aR, aJ, unown, names, aQ, below, aD, aC, aT, aU, aS, ren, aN, aP, aX, renO, belowM, seval, -Int.reduceToNat, bT, b9, Int.reduceToNat, eA, List.map_nil, List.nil_append, sD, m5, gJ, List.length_nil, *] | exact bH _ | refine bG _ _ ?_ | exact bC.cl | refine bE _ ?_ | refine bF _ _ ?_ ?_ | refine bA _ ?_ | refine fkx ?_ tru <;> intro hg | refine fkx ?_ ?_ <;> intro hg | exact fkx tru tru | refine And.intro (by omega) ?_ | omega
 first
 | done
 | all_goals (repeat revert hg)
   exact q.out
   first
   | done
   | exact r.out
     first
     | done
     | exact s.out
       first | done | fail) : P := h ⟨tru⟩ ⟨a⟩ ⟨b⟩ ⟨c⟩
theorem DY (s : List UInt8) (ds : n8 s) (hl : (runes s).1.length ≤ 2500) : aG Tryz.prog 14 [Sv s] (.tup [Sv (eR s).1, Sv (eR s).2.1, aA (eR s).2.2]) := by
 have hlen := ds.len
 have c1 := z07 s (by omega) hl
 unfold eR
 unfold nR at c1
 refine sp [.tmp 2, .tmp 3, .tmp 4] Tryz.func14 Tryz.ntmps14 ?_
 by_cases he : dM s = 0
 ·have hlab := ds.lab he
  have h32 := (D0 he).2.2
  rw [if_neg (by simp [he])]
  rw [if_pos he, he] at c1
  generalize dD s = L at *
  have cB : ∀ x ∈ L, aG Tryz.prog 33 [Sv x] (.tup [Sv (bX x).1, Sv (dF x).1, aA (bX x).2]) := fun x hx => by
   obtain ⟨q1, q2⟩ := hlab x hx
   obtain ⟨_, p2, _, p4⟩ := PG.at_ q1
   have hxl := nY (runes x).1
   rw [tX p4, ← p2] at hxl
   have := ziq x x true (by omega) (by omega) q1 (by omega) q2
   rw [zip] at this
   exact this
  have hA : ∀ x ∈ L, (bX x).1.length ≤ 63 ∧ (dF x).1.length ≤ 4000 := fun x hx => FJ (hlab x hx).1 (hlab x hx).2
  have hJA : ∀ i, (Lib.join ((L.take i).map fun x => (bX x).1) [46]).length ≤ 32 * 64 := fun i => by
   have h1 := vK (m := 63) (l := (L.take i).map fun x => (bX x).1) fun y hy => by
    obtain ⟨x, hx, rfl⟩ := List.mem_map.1 hy
    exact (hA x (List.mem_of_mem_take hx)).1
   rw [List.length_map, List.length_take] at h1
   have : min i L.length * (63 + 1) ≤ 32 * 64 := Nat.mul_le_mul_right _ (by omega)
   omega
  have hJU : ∀ i, (Lib.join ((L.take i).map fun x => (dF x).1) [46]).length ≤ 32 * 4001 := fun i => by
   have h1 := vK (m := 4000) (l := (L.take i).map fun x => (dF x).1) fun y hy => by
    obtain ⟨x, hx, rfl⟩ := List.mem_map.1 hy
    exact (hA x (List.mem_of_mem_take hx)).2
   rw [List.length_map, List.length_take] at h1
   have : min i L.length * (4000 + 1) ≤ 32 * 4001 := Nat.mul_le_mul_right _ (by omega)
   omega
  clear hlab ds
  refine i7 ?_ tru tru <;> intros
  refine bL (fun i : Nat => ⟨[(5, .ref 0 0 L.length), (7, Sv (Lib.join ((L.take i).map fun x => (bX x).1) [46])), (8, Sv (Lib.join ((L.take i).map fun x => (dF x).1) [46])), (9, aA i)], [.arr 9 1 (L.map Sv)]⟩) (fun i => i ≤ L.length ∧ ∀ y ∈ L.take i, (bX y).2 = 0) (fun i => L.length - i) 0 (by simp) (by (simp (disch := omega) [wk, aL, aI, aD, aC, get, aK, belowM, below, belows, aA, aB, Bv, U8, Sv, Lib.join_nil] <;> try omega)) ?_
  rintro i ⟨hi, ha⟩
  by_cases hlt : i < L.length
  ·have hx : L.getD i [] ∈ L := by simp [List.getD, hlt]
   have hb := cB _ hx
   obtain ⟨l1, l2⟩ := hA _ hx
   have hj1 := hJA i
   have hj2 := hJU i
   have ht := gB L i [] hlt
   have hsp : L = L.take i ++ L.getD i [] :: L.drop (i + 1) := by
    have h1 := List.take_append_drop i L
    rw [List.drop_eq_getElem_cons hlt] at h1
    rw [← h1]; simp [List.getD, hlt, List.take_append_drop, List.take_append, List.drop_append]
   by_cases hx0 : (bX (L.getD i [])).2 = 0
   ·have hnext : ∀ y ∈ L.take (i + 1), (bX y).2 = 0 := fun y hy => by
     rw [ht] at hy
     rcases List.mem_append.1 hy with hy | hy
     ·exact ha y hy
     ·simp only [List.mem_singleton] at hy; rw [hy]; exact hx0
    rw [hx0] at hb
    by_cases h0 : i = 0
    ·subst h0
     have e1 : Lib.join ((L.take (0 + 1)).map fun x => (bX x).1) [46] = (bX (L.getD 0 [])).1 := by rw [ht]; simp [Lib.join_one]
     have e2 : Lib.join ((L.take (0 + 1)).map fun x => (dF x).1) [46] = (dF (L.getD 0 [])).1 := by rw [ht]; simp [Lib.join_one]
     simp only [List.take_zero, List.map_nil, Lib.join_nil]
     generalize bX (L.getD 0 []) = x at *
     generalize dF (L.getD 0 []) = y at *
     repeat' first | refine aM (hb) ?_ ?_ | simp (maxSteps := 4000000) (disch := omega) only [aZ, aY, bun, ↓aW, ↓aV, aO, findLabel, ↓reduceIte, imp, shift, aR, aJ, unown, names, aQ, below, aD, aC, aT, aU, aS, ren, aN, aP, aX, renO, belowM, seval, -Int.reduceToNat, bT, b9, Int.reduceToNat, eA, List.map_nil, List.nil_append, sD, m5, gJ] | exact bH _ | refine bG _ _ ?_ | exact bC.cl | refine bE _ ?_ | refine bF _ _ ?_ ?_ | refine bA _ ?_ | refine fkx ?_ tru <;> intro hg | refine fkx ?_ ?_ <;> intro hg | exact fkx tru tru | refine And.intro (by omega) ?_ | omega
     all_goals
      refine ⟨1, ⟨by omega, hnext⟩, by omega, ?_⟩
      rw [show (1 : Nat) = 0 + 1 from rfl, e1, e2]
      (simp (disch := omega) [wk, aL, aI, aD, aC, get, aK, belowM, below, belows, aA, aB, Bv, U8, Sv, ] <;> try omega)
    ·have hne : L.take i ≠ [] := fun e => by
      have := congrArg List.length e
      rw [List.length_take, List.length_nil] at this; omega
     have e1 : Lib.join ((L.take (i + 1)).map fun x => (bX x).1) [46] = Lib.join ((L.take i).map fun x => (bX x).1) [46] ++ [46] ++ (bX (L.getD i [])).1 := by
      rw [ht, List.map_append, List.map_cons, List.map_nil, T8 _ (by simpa using hne)]
     have e2 : Lib.join ((L.take (i + 1)).map fun x => (dF x).1) [46] = Lib.join ((L.take i).map fun x => (dF x).1) [46] ++ [46] ++ (dF (L.getD i [])).1 := by
      rw [ht, List.map_append, List.map_cons, List.map_nil, T8 _ (by simpa using hne)]
     generalize Lib.join ((L.take i).map fun x => (bX x).1) [46] = J at *
     generalize Lib.join ((L.take i).map fun x => (dF x).1) [46] = K at *
     generalize bX (L.getD i []) = x at *
     generalize dF (L.getD i []) = y at *
     repeat' first | refine aM (hb) ?_ ?_ | simp (maxSteps := 4000000) (disch := omega) only [aZ, aY, bun, ↓aW, ↓aV, aO, findLabel, ↓reduceIte, imp, shift, aR, aJ, unown, names, aQ, below, aD, aC, aT, aU, aS, ren, aN, aP, aX, renO, belowM, seval, -Int.reduceToNat, bT, b9, Int.reduceToNat, eA, List.map_nil, List.nil_append, sD, m5, gJ] | exact bH _ | refine bG _ _ ?_ | exact bC.cl | refine bE _ ?_ | refine bF _ _ ?_ ?_ | refine bA _ ?_ | refine fkx ?_ tru <;> intro hg | refine fkx ?_ ?_ <;> intro hg | exact fkx tru tru | refine And.intro (by omega) ?_ | omega
     all_goals
      refine ⟨i + 1, ⟨by omega, hnext⟩, by omega, ?_⟩
      rw [e1, e2]
      (simp (disch := omega) [wk, aL, aI, aD, aC, get, aK, belowM, below, belows, aA, aB, Bv, U8, Sv, ] <;> try omega)
   ·have es : jY L = ([], [], (bX (L.getD i [])).2) := by
     have := z0v (q := L.take i) (l := L.drop (i + 1)) ha hx0
     rw [← hsp] at this
     unfold jY
     rw [if_pos (by rw [this]; exact hx0), this]
    rw [es]
    generalize bX (L.getD i []) = x at *
    repeat' first | refine aM (hb) ?_ ?_ | simp (maxSteps := 4000000) (disch := omega) only [aZ, aY, bun, ↓aW, ↓aV, aO, findLabel, ↓reduceIte, imp, shift, aR, aJ, unown, names, aQ, below, aD, aC, aT, aU, aS, ren, aN, aP, aX, renO, belowM, seval, -Int.reduceToNat, hx0, bT, b9, Int.reduceToNat, eA, List.map_nil, List.nil_append, sD, m5, gJ] | exact bH _ | refine bG _ _ ?_ | exact bC.cl | refine bE _ ?_ | refine bF _ _ ?_ ?_ | refine bA _ ?_ | refine fkx ?_ tru <;> intro hg | refine fkx ?_ ?_ <;> intro hg | exact fkx tru tru | refine And.intro (by omega) ?_ | omega
  ·have e : i = L.length := by omega
   subst e
   rw [List.take_length] at ha ⊢
   have hs0 : kZ L = 0 := z0w.2 ha
   have hj1 := hJA L.length
   have hj2 := hJU L.length
   rw [List.take_length] at hj1 hj2
   unfold jY
   rw [if_neg (by simp [hs0])]
   show _
   have e1 : (Lib.join (L.map fun x => (bX x).1) [46]) = jA L := rfl
   have e2 : (Lib.join (L.map fun x => (dF x).1) [46]) = jU L := rfl
   rw [e1, e2] at *
   generalize jA L = J at *
   generalize jU L = K at *
   by_cases h253 : 253 < J.length
   ·rw [if_pos h253]
    exact i7 tru tru tru
   ·rw [if_neg h253]
    exact i7 tru tru tru
 ·rw [if_pos he]
  rw [if_neg he] at c1
  generalize dM s = e at *
  exact i7 tru tru tru
theorem zis (s : List UInt8) (ds : n8 s) (hl : (runes s).1.length ≤ 2500) : aG Tryz.prog 16 [Sv s] (.tup [Sv (pC s).1, aA (pC s).2]) := by
 have c1 := DY s ds hl
 have c2 := DZ s (by have := ds.len; omega)
 unfold pC
 generalize eR s = x at *
 obtain ⟨x1, x2, x3⟩ := x
 dsimp only at *
 refine sp [.tmp 2, .tmp 3] Tryz.func16 Tryz.ntmps16 ?_
 by_cases h1 : x3 = 0
 ·subst h1
  by_cases h2 : eight s < 0
  ·rw [if_pos ⟨rfl, h2⟩]
   exact i7 tru tru tru
  ·rw [if_neg (fun h => h2 h.2)]
   exact i7 tru tru tru
 ·rw [if_neg (fun h => h1 h.1)]
  have h1' : (x3 == 0) = false := by simpa using h1
  exact i7 tru tru tru
theorem zfj (s : List UInt8) (ds : n8 s) : (aG Tryz.prog 10 [tab, Sv s] (.tup [.sl (dD s).length ((dD s).map Sv), aA 0]) ∧ dM s = 0 ∧ nR s = dD s) ∨ (aG Tryz.prog 10 [tab, Sv s] (.tup [.own 9 1 0 [], aA (dM s)]) ∧ dM s ≠ 0 ∧ nR s = []) := by
 have hlen := ds.len
 by_cases he : dM s = 0
 ·exact .inl ⟨D1 s (by omega) ds.run ds.fl he, he, by unfold nR; rw [if_pos he]⟩
 ·exact .inr ⟨UO s (by omega) ds.run ds.fl he, he, by unfold nR; rw [if_neg he]⟩
theorem zbp (s b : List UInt8) : aG Tryz.prog 3 [Sv s, Sv b] (Bv true) := by
 refine sp [.tmp 4] Tryz.func3 Tryz.ntmps3 ?_
 by_cases hs : s.length ≤ 200
 ·by_cases hb : b.length ≤ 200
  ·have hrs := EK s
   have hrb := EK b
   have ds := kM (s := s) (by omega)
   have db := kM (s := b) (by omega)
   have c1 := qP s ds
   have c2 := PC s ds
   have c3 := DY s ds (by omega)
   have c4 := DY b db (by omega)
   have c5 := PU s ds
   have c6 := zis s ds (by omega)
   have c7 := A5 s b ds db
   have c8 := z07 s (by omega) (by omega)
   unfold tS at c7
   have hdv := zfj s ds
   have h32 : (dD s).length ≤ 32 ∨ nR s = [] := by
    unfold nR
    by_cases he : dM s = 0
    ·exact .inl (D0 he).2.2
    ·exact .inr (if_neg he)
   rw [← cT] at c1 c2 c5 c7
   generalize pC s = d at *
   obtain ⟨d1, d2⟩ := d
   have bd : (d1 == d1) = true := by simp
   have bd2 : (d2 == d2) = true := by simp
   generalize eR s = x at *
   generalize eR b = y at *
   obtain ⟨x1, x2, x3⟩ := x
   obtain ⟨y1, y2, y3⟩ := y
   have bx1 : (x1 == x1) = true := by simp
   have bx2 : (x2 == x2) = true := by simp
   have bx3 : (x3 == x3) = true := by simp
   dsimp only at *
   rcases hdv with ⟨q1, q2, q3⟩ | ⟨q1, q2, q3⟩
   ·rw [q3, q2] at c8
    rw [q3] at h32
    have hl32 : (dD s).length ≤ 32 := by
     rcases h32 with h | h
     ·exact h
     ·rw [h]; decide
    have cr := z0b (dD s) (dD s) (by omega)
    rw [decide_eq_true rfl] at cr
    rw [← cT] at q1
    generalize dD s = L at *
    clear q2 q3 h32
    by_cases g1 : x3 = 0 <;> by_cases g2 : y3 = 0
    ·subst g1 g2
     cases g3 : x1 == y1 <;> rw [g3] at c7
     ·(have := lW; have := mN; exact i7 tru tru tru)
     ·(have := lW; have := mN; exact i7 tru tru tru)
    ·subst g1
     have g2' : (y3 == 0) = false := by simpa using g2
     (have := lW; have := mN; exact i7 tru tru tru)
    ·subst g2
     have g1' : (x3 == 0) = false := by simpa using g1
     (have := lW; have := mN; exact i7 tru tru tru)
    ·have g1' : (x3 == 0) = false := by simpa using g1
     (have := lW; have := mN; exact i7 tru tru tru)
   ·rw [q3] at c8
    have cr : aG Tryz.prog 17 [.sl 0 [], .sl 0 []] (Bv true) := z0b [] [] (by decide)
    rw [← cT] at q1
    have be : (dM s == dM s) = true := by simp
    generalize dM s = e at *
    clear q3 h32
    by_cases g1 : x3 = 0 <;> by_cases g2 : y3 = 0
    ·subst g1 g2
     cases g3 : x1 == y1 <;> rw [g3] at c7
     ·(have := lW; have := mN; exact i7 tru tru tru)
     ·(have := lW; have := mN; exact i7 tru tru tru)
    ·subst g1
     have g2' : (y3 == 0) = false := by simpa using g2
     (have := lW; have := mN; exact i7 tru tru tru)
    ·subst g2
     have g1' : (x3 == 0) = false := by simpa using g1
     (have := lW; have := mN; exact i7 tru tru tru)
    ·have g1' : (x3 == 0) = false := by simpa using g1
     (have := lW; have := mN; exact i7 tru tru tru)
  ·(have := lW; exact i7 tru tru tru)
 ·(have := lW; exact i7 tru tru tru)
end Go.AE
-- types: B0 B3 B4 B9 B29 B31 B32 B33 B36 B38
end
