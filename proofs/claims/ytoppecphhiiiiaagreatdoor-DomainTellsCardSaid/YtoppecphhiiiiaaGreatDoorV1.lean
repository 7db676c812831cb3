/- Contracts of functions that the laws of this seat reach, and plain laws of what they compute. No condition beyond each statement's own. -/
import Derived.Test.YtoppecphhiiiiaaGreatDoorK1
import Derived.Test.YtoppecphhiiiiaaGreatDoorAENum
import Derived.Test.YtoppecphhiiiiaaGreatDoorAEBun
import Derived.Test.YtoppecphhiiiiaaGreatDoorU1
import Derived.Test.YtoppecphhiiiiaaGreatDoorAERule
import Derived.Laws.RangeString
set_option linter.unusedVariables false
set_option linter.unusedSimpArgs false
section
namespace Go.AE
open Go.Proofs
set_option maxHeartbeats 8000000
set_option maxRecDepth 10000
set_option linter.unusedSimpArgs false
def right (r : Int) : Bool := decide (0 ≤ r) && decide (r ≤ 1114111) && !(decide (55296 ≤ r) && decide (r ≤ 57343))
def rlen (r : Int) : Int := if right r then (if r ≤ 127 then 1 else if r ≤ 2047 then 2 else if r ≤ 65535 then 3 else 4) else 0
theorem rJ (r : Int) : aG Tryz.prog 93 [aB r] (Bv (right r)) := by
 refine sp [.tmp 2] Tryz.func93 Tryz.ntmps93 ?_
 repeat' first | simp (maxSteps := 4000000) (disch := omega) only [aZ, aY, bun, ↓aW, ↓aV, aO, findLabel, ↓reduceIte, imp, shift, aR, aJ, unown, names, aQ, below, aD, aC, aT, aU, aS, ren, aN, aP, aX, renO, belowM, seval, -Int.reduceToNat, bT, b9] | refine bA _ ?_ | refine fkx ?_ tru <;> intro hg | refine fkx ?_ ?_ <;> intro hg | exact fkx tru tru | refine And.intro (by omega) ?_ | omega
 all_goals (congr 2; first | rfl | (first | rw [Bool.eq_iff_iff] | skip); simp_all [right, rlen] <;> omega)
theorem qA (r : Int) : aG Tryz.prog 49 [aB r] (Bv (right r)) := by
 refine sp [.tmp 2] Tryz.func49 Tryz.ntmps49 ?_
 repeat' first | simp (maxSteps := 4000000) (disch := omega) only [aZ, aY, bun, ↓aW, ↓aV, aO, findLabel, ↓reduceIte, imp, shift, aR, aJ, unown, names, aQ, below, aD, aC, aT, aU, aS, ren, aN, aP, aX, renO, belowM, seval, -Int.reduceToNat, bT, b9] | refine bA _ ?_ | refine fkx ?_ tru <;> intro hg | refine fkx ?_ ?_ <;> intro hg | exact fkx tru tru | refine And.intro (by omega) ?_ | omega
 all_goals (congr 2; first | rfl | (first | rw [Bool.eq_iff_iff] | skip); simp_all [right, rlen] <;> omega)
theorem UW (r : Int) : aG Tryz.prog 64 [aB r] (aA (rlen r)) := by
 refine sp [.tmp 2] Tryz.func64 Tryz.ntmps64 ?_
 repeat' first | refine aM (rJ _) ?_ ?_ | simp (maxSteps := 4000000) (disch := omega) only [aZ, aY, bun, ↓aW, ↓aV, aO, findLabel, ↓reduceIte, imp, shift, aR, aJ, unown, names, aQ, below, aD, aC, aT, aU, aS, ren, aN, aP, aX, renO, belowM, seval, -Int.reduceToNat, bT, b9] | exact bH _ | refine bG _ _ ?_ | exact bC.cl | refine bE _ ?_ | refine bF _ _ ?_ ?_ | refine bA _ ?_ | refine fkx ?_ tru <;> intro hg | refine fkx ?_ ?_ <;> intro hg | exact fkx tru tru | refine And.intro (by omega) ?_ | omega
 all_goals (congr 2; first | rfl | (first | rw [Bool.eq_iff_iff] | skip); simp_all [right, rlen] <;> omega)
theorem z08 (r : Int) : aG Tryz.prog 81 [aB r] (aA (rlen r)) := by
 refine sp [.tmp 2] Tryz.func81 Tryz.ntmps81 ?_
 repeat' first | refine aM (qA _) ?_ ?_ | simp (maxSteps := 4000000) (disch := omega) only [aZ, aY, bun, ↓aW, ↓aV, aO, findLabel, ↓reduceIte, imp, shift, aR, aJ, unown, names, aQ, below, aD, aC, aT, aU, aS, ren, aN, aP, aX, renO, belowM, seval, -Int.reduceToNat, bT, b9] | exact bH _ | refine bG _ _ ?_ | exact bC.cl | refine bE _ ?_ | refine bF _ _ ?_ ?_ | refine bA _ ?_ | refine fkx ?_ tru <;> intro hg | refine fkx ?_ ?_ <;> intro hg | exact fkx tru tru | refine And.intro (by omega) ?_ | omega
 all_goals (congr 2; first | rfl | (first | rw [Bool.eq_iff_iff] | skip); simp_all [right, rlen] <;> omega)
end Go.AE
-- types: B3 B4 B21
end
section
namespace Go.AE
open Go.Proofs
set_option maxHeartbeats 8000000
set_option maxRecDepth 10000
set_option linter.unusedSimpArgs false
def cR (n : Int) : UInt8 := UInt8.ofNat n.toNat
theorem eM {n : Int} (h : 0 ≤ n) (k : n < 256) : ((cR n).toNat : Int) = n := by
 unfold cR; simp; omega
def lead (c : Int) : Int × Int :=
 if c < 128 then (0, c) else if 194 ≤ c ∧ c < 224 then (1, c % 32) else if 224 ≤ c ∧ c < 240 then (2, c % 16) else if 240 ≤ c ∧ c < 245 then (3, c % 8) else (-1, 0)
def enc (r : Int) : List UInt8 :=
 if right r then (if r ≤ 127 then [cR r] else if r ≤ 2047 then [cR (192 + r / 64), cR (128 + r % 64)] else if r ≤ 65535 then [cR (224 + r / 4096), cR (128 + r / 64 % 64), cR (128 + r % 64)]
  else [cR (240 + r / 262144), cR (128 + r / 4096 % 64), cR (128 + r / 64 % 64), cR (128 + r % 64)]) else []
theorem zfu (b : UInt8) : aG Tryz.prog 63 [U8 b] (.tup [aA (lead b.toNat).1, aB (lead b.toNat).2]) := by
 refine sp [.tmp 2, .tmp 3] Tryz.func63 Tryz.ntmps63 ?_
 have hb := iO b
 repeat' first | simp (maxSteps := 4000000) (disch := omega) only [aZ, aY, bun, ↓aW, ↓aV, aO, findLabel, ↓reduceIte, imp, shift, aR, aJ, unown, names, aQ, below, aD, aC, aT, aU, aS, ren, aN, aP, aX, renO, belowM, seval, -Int.reduceToNat, bT, b9, jG, jH, jF, jE, jI, jQ, jO, jP, hH, gY, gZ, Int.tdiv_eq_ediv_of_nonneg, Int.tmod_eq_emod_of_nonneg, Int.fdiv_eq_ediv_of_nonneg] | refine bA _ ?_ | refine fkx ?_ tru <;> intro hg | refine fkx ?_ ?_ <;> intro hg | exact fkx tru tru | refine And.intro (by omega) ?_ | omega
 all_goals
  congr 3 <;> first
  | rfl
  | (simp (disch := omega) only [lead, if_pos, if_neg]; first | done | (congr 2 <;> first | rfl | omega))
theorem lU (r : Int) : right r = true ↔ 0 ≤ r ∧ r ≤ 1114111 ∧ ¬ (55296 ≤ r ∧ r ≤ 57343) := by
 simp [right]; omega
theorem EB {r : Int} (h : right r = true) : rlen r = if r ≤ 127 then 1 else if r ≤ 2047 then 2 else if r ≤ 65535 then 3 else 4 := by simp [rlen, h]
theorem EA {r : Int} (h : right r = false) : rlen r = 0 := by simp [rlen, h]
theorem zX (r : Int) : (rlen r = 1 ↔ 0 ≤ r ∧ r ≤ 127) ∧ (rlen r = 2 ↔ 128 ≤ r ∧ r ≤ 2047) ∧ (rlen r = 3 ↔ 2048 ≤ r ∧ r ≤ 65535 ∧ ¬ (55296 ≤ r ∧ r ≤ 57343)) ∧ (rlen r = 4 ↔ 65536 ≤ r ∧ r ≤ 1114111) := by
 have h := lU r
 cases hr : right r with
 | true =>
  rw [EB hr]; rw [hr] at h; simp only [true_iff] at h; repeat' split
  all_goals omega
 | false => rw [EA hr]; rw [hr] at h; simp only [Bool.false_eq_true, false_iff] at h; omega
theorem tQ (r : Int) : rlen r = 1 ↔ 0 ≤ r ∧ r ≤ 127 := (zX r).1
theorem rK (r : Int) : rlen r = 2 ↔ 128 ≤ r ∧ r ≤ 2047 := (zX r).2.1
theorem rL (r : Int) : rlen r = 3 ↔ 2048 ≤ r ∧ r ≤ 65535 ∧ ¬ (55296 ≤ r ∧ r ≤ 57343) := (zX r).2.2.1
theorem rM (r : Int) : rlen r = 4 ↔ 65536 ≤ r ∧ r ≤ 1114111 := (zX r).2.2.2
theorem iL (r : Int) : rlen r = 0 ↔ right r = false := by
 cases hr : right r with
 | true =>
  rw [EB hr]; simp; repeat' split
  all_goals omega
 | false => rw [EA hr]; simp
theorem pZ (r : Int) : rlen r = 0 ∨ rlen r = 1 ∨ rlen r = 2 ∨ rlen r = 3 ∨ rlen r = 4 := by
 cases hr : right r with
 | true =>
  rw [EB hr]; repeat' split
  all_goals simp
 | false => rw [EA hr]; simp
theorem sT {r : Int} (h : 0 ≤ r ∧ r ≤ 127) : enc r = [cR r] := by
 have hr : right r = true := by simp [right]; omega
 simp (disch := omega) only [enc, hr, if_true, if_pos, if_neg]
theorem sU {r : Int} (h : 128 ≤ r ∧ r ≤ 2047) : enc r = [cR (192 + r / 64), cR (128 + r % 64)] := by
 have hr : right r = true := by simp [right]; omega
 simp (disch := omega) only [enc, hr, if_true, if_pos, if_neg]
theorem sV {r : Int} (h : 2048 ≤ r ∧ r ≤ 65535 ∧ ¬ (55296 ≤ r ∧ r ≤ 57343)) : enc r = [cR (224 + r / 4096), cR (128 + r / 64 % 64), cR (128 + r % 64)] := by
 have hr : right r = true := by simp [right]; omega
 simp (disch := omega) only [enc, hr, if_true, if_pos, if_neg]
theorem sW {r : Int} (h : 65536 ≤ r ∧ r ≤ 1114111) : enc r = [cR (240 + r / 262144), cR (128 + r / 4096 % 64), cR (128 + r / 64 % 64), cR (128 + r % 64)] := by
 have hr : right r = true := by simp [right]; omega
 simp (disch := omega) only [enc, hr, if_true, if_pos, if_neg]
theorem Q9 {r : Int} (h : right r = false) : enc r = [] := by simp [enc, h]
theorem y6 (r : Int) : ((enc r).length : Int) = rlen r := by
 rcases pZ r with h | h | h | h | h
 ·rw [Q9 ((iL r).1 h), h]; rfl
 ·rw [sT ((tQ r).1 h), h]; rfl
 ·rw [sU ((rK r).1 h), h]; rfl
 ·rw [sV ((rL r).1 h), h]; rfl
 ·rw [sW ((rM r).1 h), h]; rfl
theorem OF (r : Int) : aG Tryz.prog 50 [aB r] (.own 5 1 (enc r).length ((enc r).map U8)) := by
 refine sp [.tmp 2] Tryz.func50 Tryz.ntmps50 ?_
 repeat' first | refine aM (z08 _) ?_ ?_ | simp (maxSteps := 4000000) (disch := omega) only [aZ, aY, bun, ↓aW, ↓aV, aO, findLabel, ↓reduceIte, imp, shift, aR, aJ, unown, names, aQ, below, aD, aC, aT, aU, aS, ren, aN, aP, aX, renO, belowM, seval, -Int.reduceToNat, bT, b9, jG, jH, jF, jE, jI, jQ, jO, jP, hH, gY, gZ, Int.tdiv_eq_ediv_of_nonneg, Int.tmod_eq_emod_of_nonneg, Int.fdiv_eq_ediv_of_nonneg] | exact bH _ | refine bG _ _ ?_ | exact bC.cl | refine bE _ ?_ | refine bF _ _ ?_ ?_ | refine bA _ ?_ | refine fkx ?_ tru <;> intro hg | refine fkx ?_ ?_ <;> intro hg | exact fkx tru tru | refine And.intro (by omega) ?_ | omega
 ·have h := (tQ r).1 (by assumption)
  rw [sT h]
  simp (maxSteps := 4000000) (disch := omega) only [aZ, aY, bun, ↓aW, ↓aV, aO, findLabel, ↓reduceIte, imp, shift, aR, aJ, unown, names, aQ, below, aD, aC, aT, aU, aS, ren, aN, aP, aX, renO, belowM, seval, -Int.reduceToNat, eM, bT, b9, jG, jH, jF, jE, jI, jQ, jO, jP, hH, gY, gZ, Int.tdiv_eq_ediv_of_nonneg, Int.tmod_eq_emod_of_nonneg, Int.fdiv_eq_ediv_of_nonneg]
 ·have h := (rK r).1 (by assumption)
  rw [sU h]
  simp (maxSteps := 4000000) (disch := omega) only [aZ, aY, bun, ↓aW, ↓aV, aO, findLabel, ↓reduceIte, imp, shift, aR, aJ, unown, names, aQ, below, aD, aC, aT, aU, aS, ren, aN, aP, aX, renO, belowM, seval, -Int.reduceToNat, eM, bT, b9, jG, jH, jF, jE, jI, jQ, jO, jP, hH, gY, gZ, Int.tdiv_eq_ediv_of_nonneg, Int.tmod_eq_emod_of_nonneg, Int.fdiv_eq_ediv_of_nonneg]
 ·have h := (rL r).1 (by assumption)
  rw [sV h]
  simp (maxSteps := 4000000) (disch := omega) only [aZ, aY, bun, ↓aW, ↓aV, aO, findLabel, ↓reduceIte, imp, shift, aR, aJ, unown, names, aQ, below, aD, aC, aT, aU, aS, ren, aN, aP, aX, renO, belowM, seval, -Int.reduceToNat, eM, bT, b9, jG, jH, jF, jE, jI, jQ, jO, jP, hH, gY, gZ, Int.tdiv_eq_ediv_of_nonneg, Int.tmod_eq_emod_of_nonneg, Int.fdiv_eq_ediv_of_nonneg]
 ·have h := (rM r).1 (by assumption)
  rw [sW h]
  simp (maxSteps := 4000000) (disch := omega) only [aZ, aY, bun, ↓aW, ↓aV, aO, findLabel, ↓reduceIte, imp, shift, aR, aJ, unown, names, aQ, below, aD, aC, aT, aU, aS, ren, aN, aP, aX, renO, belowM, seval, -Int.reduceToNat, eM, bT, b9, jG, jH, jF, jE, jI, jQ, jO, jP, hH, gY, gZ, Int.tdiv_eq_ediv_of_nonneg, Int.tmod_eq_emod_of_nonneg, Int.fdiv_eq_ediv_of_nonneg]
 ·have h : rlen r = 0 := by have := pZ r; omega
  rw [Q9 ((iL r).1 h)]
  rfl
theorem gB {α : Type} (l : List α) (i : Nat) (d : α) (h : i < l.length) : l.take (i + 1) = l.take i ++ [l.getD i d] := by
 rw [List.take_add_one]
 simp [List.getD, h]
end Go.AE
-- types: B3 B4 B5 B21 B84
end
section
namespace Go.AE
open Go.Proofs
set_option maxHeartbeats 8000000
set_option maxRecDepth 10000
set_option linter.unusedSimpArgs false
theorem BY (r : Int) : (enc r).length ≤ 4 := by have := y6 r; have := pZ r; omega
def bW (l : List Int) : Bool := l.all right
def d5 (l : List Int) : List UInt8 := if bW l then l.flatMap enc else []
theorem AA {l : List Int} {i : Nat} (h : i < l.length) (hr : right (l.getD i 0) = false) : bW l = false := by
 rw [bW, List.all_eq_false]
 exact ⟨l.getD i 0, by simp [List.getD, h], by rw [hr]; simp⟩
theorem wT {l : List Int} {i : Nat} {acc : List UInt8} (hi : i < l.length) (ha : acc = (l.take i).flatMap enc) (hn : acc.length ≤ 4 * i) (hr : (l.take i).all right = true) (hg : right (l.getD i 0) = true) :
  i + 1 ≤ l.length ∧ acc ++ enc (l.getD i 0) = (l.take (i + 1)).flatMap enc ∧ (acc ++ enc (l.getD i 0)).length ≤ 4 * (i + 1) ∧ (l.take (i + 1)).all right = true := by
 have hE := BY (l.getD i 0)
 refine ⟨by omega, ?_, by simp only [List.length_append]; omega, ?_⟩
 ·rw [gB _ _ 0 hi, List.flatMap_append, ha]; simp
 ·rw [gB _ _ 0 hi, List.all_append, hr]; simp only [List.all_cons, List.all_nil, hg]; rfl
theorem BS {P Q R S : Prop} {H : Prop} (o : H) (a : Q) (b : R) (c : S) (h : H → Mk P → bD Q → bD R → bD S → P := by
 intro w m q r s
 repeat' first | refine aM (by first | assumption | (apply_assumption <;> omega)) ?_ ?_ | refine cM.fit (by assumption) ?_ | simp (maxSteps := 4000000) (disch := omega) only [aZ, aY, bun, ↓aW, ↓aV, aO, findLabel, ↓reduceIte, imp, shift, aR, aJ, unown, names, aQ, below, aD, aC, aT, aU, aS, ren, aN, aP, aX, renO, belowM, seval, -Int.reduceToNat, bT, b9, jG, jH, jF, jE, jI, jQ, jO, jP, hH, gY, gZ, Int.tdiv_eq_ediv_of_nonneg, Int.tmod_eq_emod_of_nonneg, Int.fdiv_eq_ediv_of_nonneg, oI, oJ, oK, oH, w] | exact bH _ | refine bG _ _ ?_ | exact bC.cl | refine bE _ ?_ | refine bF _ _ ?_ ?_ | refine bA _ ?_ | (refine Fk.fk ?_ ?_ <;> intro hg <;> (try simp only [hg]) <;> (try simp only [eC, tQ, rK, rL, rM, iL] at hg) <;> try (exfalso; first | omega | exact Bool.noConfusion hg | exact hg trivial)) | refine And.intro (by omega) ?_ | omega
 first
 | done
 | all_goals (repeat revert hg)
   exact q.out
   first
   | done
   | exact r.out
     first
     | done
     | exact s.out
       first | done | fail) : P := h o ⟨tru⟩ ⟨a⟩ ⟨b⟩ ⟨c⟩
theorem AK (l : List Int) (hl : l.length ≤ 100000) : aG Tryz.prog 37 [.sl l.length (l.map aB)] (.tup [Sv (d5 l), Bv (bW l)]) := by
 refine sp [.tmp 2, .tmp 3] Tryz.func37 Tryz.ntmps37 ?_
 refine BS tru ?_ tru tru <;> intros
 refine bL (fun x : Nat × List UInt8 => ⟨[(7, .sl l.length (l.map aB)), (8, aA l.length), (9, aA x.1), (4, .ref 0 0 x.2.length)], [.arr 5 1 (x.2.map U8)]⟩)
  (fun x => x.1 ≤ l.length ∧ x.2 = (l.take x.1).flatMap enc ∧ x.2.length ≤ 4 * x.1 ∧ (l.take x.1).all right = true) (fun x => l.length - x.1) (0, []) (by simp) bN ?_
 rintro ⟨i, acc⟩ ⟨hi, ha, hn, hr⟩
 dsimp only at hi ha hn hr
 repeat' first | refine aM (UW _) ?_ ?_ | simp (maxSteps := 4000000) (disch := omega) only [aZ, aY, bun, ↓aW, ↓aV, aO, findLabel, ↓reduceIte, imp, shift, aR, aJ, unown, names, aQ, below, aD, aC, aT, aU, aS, ren, aN, aP, aX, renO, belowM, seval, -Int.reduceToNat, bT, b9, jG, jH, jF, jE, jI, jQ, jO, jP, hH, gY, gZ, Int.tdiv_eq_ediv_of_nonneg, Int.tmod_eq_emod_of_nonneg, Int.fdiv_eq_ediv_of_nonneg, oI, oJ, oK, oH] | exact bH _ | refine bG _ _ ?_ | exact bC.cl | refine bE _ ?_ | refine bF _ _ ?_ ?_ | refine bA _ ?_ | (refine Fk.fk ?_ ?_ <;> intro hg <;> (try simp only [hg]) <;> (try simp only [eC, tQ, rK, rL, rM, iL] at hg) <;> try (exfalso; first | omega | exact Bool.noConfusion hg | exact hg trivial)) | refine And.intro (by omega) ?_ | omega
 ·rename_i hg
  have h := AA (by omega) hg
  simp [d5, h]
 ·have hg' : right (l.getD i 0) = true := by assumption
  refine ⟨(i + 1, acc ++ enc (l.getD i 0)), wT (by omega) ha hn hr hg', by dsimp only; omega, ?_⟩
  generalize l.getD i 0 = r at *
  rw [sT hg]
  (simp (disch := omega) [wk, aL, aI, aD, aC, get, aK, belowM, below, belows, aA, aB, Bv, U8, Sv, eM] <;> try omega)
 ·have hg' : right (l.getD i 0) = true := by assumption
  refine ⟨(i + 1, acc ++ enc (l.getD i 0)), wT (by omega) ha hn hr hg', by dsimp only; omega, ?_⟩
  generalize l.getD i 0 = r at *
  rw [sU hg]
  (simp (disch := omega) [wk, aL, aI, aD, aC, get, aK, belowM, below, belows, aA, aB, Bv, U8, Sv, eM] <;> try omega)
 ·have hg' : right (l.getD i 0) = true := by assumption
  refine ⟨(i + 1, acc ++ enc (l.getD i 0)), wT (by omega) ha hn hr hg', by dsimp only; omega, ?_⟩
  generalize l.getD i 0 = r at *
  rw [sV (by omega)]
  (simp (disch := omega) [wk, aL, aI, aD, aC, get, aK, belowM, below, belows, aA, aB, Bv, U8, Sv, eM] <;> try omega)
 ·have hg' : right (l.getD i 0) = true := by assumption
  refine ⟨(i + 1, acc ++ enc (l.getD i 0)), wT (by omega) ha hn hr hg', by dsimp only; omega, ?_⟩
  generalize l.getD i 0 = r at *
  rw [sW hg]
  (simp (disch := omega) [wk, aL, aI, aD, aC, get, aK, belowM, below, belows, aA, aB, Bv, U8, Sv, eM] <;> try omega)
 ·exfalso
  have h := (lU _).1 (by assumption)
  omega
 ·have e : i = l.length := by omega
  subst e
  rw [List.take_length] at ha hr
  have h : bW l = true := hr
  simp [d5, h, ha]
theorem wH (l : List Int) (hl : l.length ≤ 100000) : aG Tryz.prog 31 [.sl l.length (l.map aB)] (.tup [Sv (d5 l), Bv (bW l)]) := by
 refine sp [.tmp 2, .tmp 3] Tryz.func31 Tryz.ntmps31 ?_
 refine BS tru ?_ tru tru <;> intros
 refine bL (fun x : Nat × List UInt8 => ⟨[(0, .sl l.length (l.map aB)), (5, aA x.1), (4, .ref 0 0 x.2.length)], [.arr 5 1 (x.2.map U8)]⟩)
  (fun x => x.1 ≤ l.length ∧ x.2 = (l.take x.1).flatMap enc ∧ x.2.length ≤ 4 * x.1 ∧ (l.take x.1).all right = true) (fun x => l.length - x.1) (0, []) (by simp) bN ?_
 rintro ⟨i, acc⟩ ⟨hi, ha, hn, hr⟩
 dsimp only at hi ha hn hr
 have hE := BY (l.getD i 0)
 (have := @qA; have := @OF; refine BS tru ?_ ?_ ?_ <;> intros)
 ·rename_i hg
  have h := AA (by omega) hg
  simp [d5, h]
 ·have hg' : right (l.getD i 0) = true := by assumption
  refine ⟨(i + 1, acc ++ enc (l.getD i 0)), wT (by omega) ha hn hr hg', by dsimp only; omega, ?_⟩
  generalize l.getD i 0 = r at *
  (simp (disch := omega) [wk, aL, aI, aD, aC, get, aK, belowM, below, belows, aA, aB, Bv, U8, Sv, eM] <;> try omega)
 ·have e : i = l.length := by omega
  subst e
  rw [List.take_length] at ha hr
  have h : bW l = true := hr
  simp [d5, h, ha]
end Go.AE
-- types: B0 B3 B4 B5 B9 B21 B63 B84
end
section
namespace Go.AE
open Go.Proofs
set_option maxRecDepth 10000
def lP (b : UInt8) : Bool := decide (128 ≤ b.toNat) && decide (b.toNat < 192)
def eS (r : Int) (bs : List UInt8) : Int := bs.foldl (fun r b => r * 64 + (b.toNat : Int) % 64) r
def one (s : List UInt8) : Option (Int × Nat) :=
 match s with
 | [] => none
 | c :: t =>
  if (lead c.toNat).1 < 0 ∨ (t.length : Int) < (lead c.toNat).1 then none
  else if (t.take (lead c.toNat).1.toNat).all lP = true ∧ rlen (eS (lead c.toNat).2 (t.take (lead c.toNat).1.toNat)) = (lead c.toNat).1 + 1 then
   some (eS (lead c.toNat).2 (t.take (lead c.toNat).1.toNat), (lead c.toNat).1.toNat + 1)
  else none
def kX (o : Option (Int × Nat)) (a : Int) (s : List UInt8) (R : Int → List UInt8 → List Int × Int) : List Int × Int :=
 match o with
 | none => ([], a)
 | some (r, k) => (r :: (R (a + k) (s.drop k)).1, (R (a + k) (s.drop k)).2)
def cZ : Nat → Int → List UInt8 → List Int × Int
 | 0, _, _ => ([], -1)
 | f + 1, a, s => if s.isEmpty then ([], -1) else kX (one s) a s (cZ f)
def runes (s : List UInt8) : List Int × Int := cZ (s.length + 1) 0 s
theorem zfs (c : Int) : (lead c).1 = -1 ∨ (lead c).1 = 0 ∨ (lead c).1 = 1 ∨ (lead c).1 = 2 ∨ (lead c).1 = 3 := by
 unfold lead; repeat' split
 all_goals simp
theorem zft {c : Int} (h : 0 ≤ c) : 0 ≤ (lead c).2 ∧ (lead c).2 < 128 := by
 unfold lead; repeat' split
 all_goals (dsimp only; omega)
theorem zci (r : Int) (bs : List UInt8) (b : UInt8) : eS r (bs ++ [b]) = eS r bs * 64 + (b.toNat : Int) % 64 := by
 simp [eS]
theorem zcg (bs : List UInt8) : ∀ {r : Int}, 0 ≤ r → 0 ≤ eS r bs ∧ eS r bs < (r + 1) * 64 ^ bs.length := by
 induction bs with
 | nil => intro r h; simp [eS]; omega
 | cons b bs ih =>
  intro r h
  have := ih (r := r * 64 + (b.toNat : Int) % 64) (by omega)
  have e : eS r (b :: bs) = eS (r * 64 + (b.toNat : Int) % 64) bs := rfl
  rw [e]
  refine ⟨this.1, Int.lt_of_lt_of_le this.2 ?_⟩
  rw [List.length_cons, Int.pow_succ, Int.mul_comm (64 ^ bs.length) 64, ← Int.mul_assoc]
  exact Int.mul_le_mul_of_nonneg_right (by omega) (Int.le_of_lt (Int.pow_pos (by decide)))
theorem zch {r : Int} (h : 0 ≤ r) (k : r < 128) {bs : List UInt8} (hl : bs.length ≤ 2) : 0 ≤ eS r bs ∧ eS r bs < 16777216 := by
 have h1 := zcg bs h
 refine ⟨h1.1, Int.lt_of_lt_of_le h1.2 ?_⟩
 have : bs.length = 0 ∨ bs.length = 1 ∨ bs.length = 2 := by omega
 rcases this with e | e | e <;> rw [e] <;> simp <;> omega
theorem XD {s : List UInt8} (h : 0 < s.length) (hc : (lead (s.getD 0 0).toNat).1 < 0 ∨ (s.length : Int) ≤ (lead (s.getD 0 0).toNat).1) : one s = none := by
 cases s with
 | nil => simp at h
 | cons c t =>
  simp only [List.getD_cons_zero, List.length_cons] at hc
  simp only [one]
  rw [if_pos (by omega)]
theorem zhq {s : List UInt8} {j : Nat} (h : 0 < s.length) (hj : (j : Int) < (lead (s.getD 0 0).toNat).1) (hb : lP (s.getD (j + 1) 0) = false) : one s = none := by
 cases s with
 | nil => simp at h
 | cons c t =>
  simp only [List.getD_cons_zero, List.getD_cons_succ] at hj hb
  simp only [one]
  split
  ·rfl
  ·rename_i hn
   rw [if_neg]
   intro h2
   have h3 := List.all_eq_true.1 h2.1 (t.getD j 0) (by
    have : j < t.length := by omega
    rw [List.mem_take_iff_getElem]
    exact ⟨j, by omega, by simp [List.getD, this]⟩)
   rw [h3] at hb
   simp at hb
theorem DF {s : List UInt8} {n : Nat} (h : 0 < s.length) (hn : (lead (s.getD 0 0).toNat).1 = n) (hl : n < s.length) (ha : ((s.drop 1).take n).all lP = true) :
  one s = if rlen (eS (lead (s.getD 0 0).toNat).2 ((s.drop 1).take n)) = n + 1 then some (eS (lead (s.getD 0 0).toNat).2 ((s.drop 1).take n), n + 1) else none := by
 cases s with
 | nil => simp at h
 | cons c t =>
  simp only [List.getD_cons_zero, List.drop_succ_cons, List.drop_zero, List.length_cons] at *
  simp only [one, hn, Int.toNat_natCast, ha, true_and]
  rw [if_neg (by omega)]
theorem nT (f : Nat) (a : Int) (s : List UInt8) : cZ (f + 1) a s = if s.isEmpty then ([], -1) else kX (one s) a s (cZ f) := rfl
theorem wO {f : Nat} {a : Int} {s : List UInt8} (hs : 0 < s.length) (h : one s = none) : cZ (f + 1) a s = ([], a) := by
 rw [nT, h, if_neg]
 ·rfl
 ·cases s <;> simp_all
theorem EI {f : Nat} {a : Int} {s : List UInt8} {r : Int} {k : Nat} (hs : 0 < s.length) (h : one s = some (r, k)) : cZ (f + 1) a s = (r :: (cZ f (a + k) (s.drop k)).1, (cZ f (a + k) (s.drop k)).2) := by
 rw [nT, h, if_neg]
 ·rfl
 ·cases s <;> simp_all
theorem z0n (f : Nat) (a : Int) : cZ f a [] = ([], -1) := by cases f <;> rfl
theorem T7 (b : UInt8) : lP b = true ↔ (b.toNat : Int) - b.toNat % 64 = 128 := by
 simp [lP]; omega
end Go.AE
end
section
namespace Go.AE
open Go.Proofs
set_option maxHeartbeats 8000000
set_option maxRecDepth 10000
set_option linter.unusedSimpArgs false
theorem vA (s : List UInt8) (a j : Nat) : (s.drop a).getD j 0 = s.getD (a + j) 0 := by simp [List.getD]
theorem rP {s : List UInt8} {acc : List Int} {f : Nat} {a : Nat} {e : Int} (hr : runes s = (acc ++ (cZ f (↑a) (List.drop a s)).fst, (cZ f (↑a) (List.drop a s)).snd)) (h : cZ f a (s.drop a) = ([], e)) :
  AV.tup [AV.own 21 1 acc.length (List.map aB acc), AV.v (Value.int IntKind.i64 e)] = AV.tup [AV.own 21 1 (runes s).fst.length (List.map aB (runes s).fst), AV.v (Value.int IntKind.i64 (runes s).snd)] := by
 rw [hr, h]; simp
theorem rT (s : List UInt8) (hs : s.length ≤ 100000000) : aG Tryz.prog 36 [Sv s] (.tup [.own 21 1 (runes s).1.length ((runes s).1.map aB), aA (runes s).2]) := by
 refine sp [.tmp 2, .tmp 3] Tryz.func36 Tryz.ntmps36 ?_
 repeat' first | simp (maxSteps := 4000000) (disch := omega) only [aZ, aY, bun, ↓aW, ↓aV, aO, findLabel, ↓reduceIte, imp, shift, aR, aJ, unown, names, aQ, below, aD, aC, aT, aU, aS, ren, aN, aP, aX, renO, belowM, seval, -Int.reduceToNat, bT, b9, jG, jH, jF, jE, jI, jQ, jO, jP, hH, gY, gZ, Int.tdiv_eq_ediv_of_nonneg, Int.tmod_eq_emod_of_nonneg, Int.fdiv_eq_ediv_of_nonneg, oI, oJ, oK, oH, rD, qN] | refine bA _ ?_ | (refine Fk.fk ?_ ?_ <;> intro hg <;> (try simp only [hg]) <;> (try simp only [eC, iL] at hg) <;> try (exfalso; first | omega | exact Bool.noConfusion hg | exact hg trivial)) | refine And.intro (by omega) ?_ | omega
 refine bL (fun x : Nat × Nat × List Int => ⟨[(0, Sv s), (7, aA x.1), (4, .ref 1 0 x.2.2.length)], [.dead, .arr 21 1 (x.2.2.map aB)]⟩)
  (fun x => x.1 ≤ s.length ∧ s.length + 1 ≤ x.1 + x.2.1 ∧ x.2.2.length ≤ x.1 ∧ runes s = (x.2.2 ++ (cZ x.2.1 x.1 (s.drop x.1)).1, (cZ x.2.1 x.1 (s.drop x.1)).2)) (fun x => s.length - x.1) (0, s.length + 1, []) (by simp [runes]) bN ?_
 rintro ⟨a, f, acc⟩ ⟨ha, hf, hn, hr⟩
 dsimp only at ha hf hn hr
 have hb := iO (s.getD a 0)
 repeat' first | refine aM (zfu _) ?_ ?_ | simp (maxSteps := 4000000) (disch := omega) only [aZ, aY, bun, ↓aW, ↓aV, aO, findLabel, ↓reduceIte, imp, shift, aR, aJ, unown, names, aQ, below, aD, aC, aT, aU, aS, ren, aN, aP, aX, renO, belowM, seval, -Int.reduceToNat, bT, b9, jG, jH, jF, jE, jI, jQ, jO, jP, hH, gY, gZ, Int.tdiv_eq_ediv_of_nonneg, Int.tmod_eq_emod_of_nonneg, Int.fdiv_eq_ediv_of_nonneg, oI, oJ, oK, oH, rD, qN] | exact bH _ | refine bG _ _ ?_ | exact bC.cl | refine bE _ ?_ | refine bF _ _ ?_ ?_ | refine bA _ ?_ | (refine Fk.fk ?_ ?_ <;> intro hg <;> (try simp only [hg]) <;> (try simp only [eC, iL] at hg) <;> try (exfalso; first | omega | exact Bool.noConfusion hg | exact hg trivial)) | refine And.intro (by omega) ?_ | omega
 ·obtain ⟨f, rfl⟩ : ∃ g, f = g + 1 := ⟨f - 1, by omega⟩
  exact rP hr (wO (by simp; omega) (XD (by simp; omega) (by rw [vA]; simp only [List.length_drop, Nat.add_zero]; omega)))
 ·obtain ⟨f, rfl⟩ : ∃ g, f = g + 1 := ⟨f - 1, by omega⟩
  exact rP hr (wO (by simp; omega) (XD (by simp; omega) (by rw [vA]; simp only [List.length_drop, Nat.add_zero]; omega)))
 ·obtain ⟨f, rfl⟩ : ∃ g, f = g + 1 := ⟨f - 1, by omega⟩
  have hlo := zfs (s.getD a 0).toNat
  have hls := zft (c := (s.getD a 0).toNat) (by omega)
  obtain ⟨n, hn0⟩ : ∃ n : Nat, (lead (s.getD a 0).toNat).1 = n := ⟨(lead (s.getD a 0).toNat).1.toNat, by omega⟩
  have g1 : (a : Int) < s.length := by omega
  have g2 : (n : Int) < s.length - a := by omega
  have g3 : (n : Int) ≤ 3 := by omega
  have hg0 : (s.drop a).getD 0 0 = s.getD a 0 := by rw [vA]; rfl
  have hdd : (s.drop a).drop 1 = s.drop (a + 1) := by rw [List.drop_drop]
  simp only [hn0]
  refine bL (fun j : Nat => ⟨[(0, Sv s), (7, aA a), (4, .ref 1 0 acc.length), (5, aA n), (6, aB (eS (lead (s.getD a 0).toNat).2 ((s.drop (a + 1)).take j))), (8, aA (a + 1 + j))], [.dead, .arr 21 1 (acc.map aB)]⟩)
   (fun j => j ≤ n ∧ ((s.drop (a + 1)).take j).all lP = true) (fun j => n - j) 0 (by simp) (by simp [wk, aL, aI, aD, aC, get, aK, belowM, below, belows, aA, aB, Bv, U8, Sv, eS]) ?_
  rintro j ⟨hj, hc⟩
  have hT : ((a : Int) + 1 + j).toNat = a + 1 + j := by omega
  have hb1 := iO (s.getD (a + 1 + j) 0)
  have hF : j < n → 0 ≤ eS (lead (s.getD a 0).toNat).2 ((s.drop (a + 1)).take j) ∧ eS (lead (s.getD a 0).toNat).2 ((s.drop (a + 1)).take j) < 16777216 := fun h => zch hls.1 hls.2 (by simp; omega)
  repeat' first | refine aM (UW _) ?_ ?_ | simp (maxSteps := 4000000) (disch := omega) only [aZ, aY, bun, ↓aW, ↓aV, aO, findLabel, ↓reduceIte, imp, shift, aR, aJ, unown, names, aQ, below, aD, aC, aT, aU, aS, ren, aN, aP, aX, renO, belowM, seval, -Int.reduceToNat, hT, bT, b9, jG, jH, jF, jE, jI, jQ, jO, jP, hH, gY, gZ, Int.tdiv_eq_ediv_of_nonneg, Int.tmod_eq_emod_of_nonneg, Int.fdiv_eq_ediv_of_nonneg, oI, oJ, oK, oH, rD, qN] | exact bH _ | refine bG _ _ ?_ | exact bC.cl | refine bE _ ?_ | refine bF _ _ ?_ ?_ | refine bA _ ?_ | (refine Fk.fk ?_ ?_ <;> intro hg <;> (try simp only [hg]) <;> (try simp only [eC, iL] at hg) <;> try (exfalso; first | omega | exact Bool.noConfusion hg | exact hg trivial)) | refine And.intro (by omega) ?_ | omega
  ·rename_i hg
   refine rP hr (wO (by simp; omega) (zhq (j := j) (by simp; omega) (by rw [hg0, hn0]; omega) ?_))
   rw [vA, show a + (j + 1) = a + 1 + j by omega]
   exact Bool.eq_false_iff.2 fun h => hg ((T7 _).1 h)
  ·rename_i hg
   have e : (s.drop (a + 1)).take (j + 1) = (s.drop (a + 1)).take j ++ [s.getD (a + 1 + j) 0] := by rw [gB _ _ 0 (by simp; omega), vA]
   refine ⟨j + 1, ⟨by omega, ?_⟩, by omega, ?_⟩
   ·rw [e, List.all_append, hc]; simp only [List.all_cons, List.all_nil, (T7 _).2 hg]; rfl
   ·rw [e, zci]
    generalize s.getD (a + 1 + j) 0 = c at *
    generalize eS (lead (s.getD a 0).toNat).2 ((s.drop (a + 1)).take j) = r at *
    (simp (disch := omega) [wk, aL, aI, aD, aC, get, aK, belowM, below, belows, aA, aB, Bv, U8, Sv, hn] <;> try omega)
  ·rename_i hg
   have e : j = n := by omega
   subst e
   refine rP hr (wO (by simp; omega) ?_)
   rw [DF (n := j) (by simp; omega) (by rw [hg0, hn0]) (by simp; omega) (by rw [hdd]; exact hc), hg0, hdd, if_neg hg]
  ·rename_i hg
   have e : j = n := by omega
   subst e
   have h1 := DF (s := s.drop a) (n := j) (by simp; omega) (by rw [hg0, hn0]) (by simp; omega) (by rw [hdd]; exact hc)
   rw [hg0, hdd, if_pos hg] at h1
   have h2 := EI (f := f) (a := (a : Int)) (by simp; omega) h1
   rw [List.drop_drop] at h2
   refine ⟨(a + (j + 1), f, acc ++ [eS (lead (s.getD a 0).toNat).2 ((s.drop (a + 1)).take j)]), ⟨by dsimp only; omega, by dsimp only; omega, by simp; omega, ?_⟩, by dsimp only; omega, ?_⟩
   ·rw [hr, h2]
    simp [Int.add_assoc]
   ·generalize eS (lead (s.getD a 0).toNat).2 ((s.drop (a + 1)).take j) = r at *
    (simp (disch := omega) [wk, aL, aI, aD, aC, get, aK, belowM, below, belows, aA, aB, Bv, U8, Sv, hn] <;> try omega)
 ·have : s.drop a = [] := List.drop_of_length_le (by omega)
  exact rP hr (by rw [this, z0n])
end Go.AE
-- types: B3 B4 B5 B9 B21 B63 B94
end
section
namespace Go.AE
open Go.Proofs
set_option maxRecDepth 10000
theorem WP (c : UInt8) : cR (c.toNat : Int) = c := by simp [cR]
theorem oG {n : Int} {c : UInt8} (h : n = c.toNat) : cR n = c := by rw [h, WP]
def dec (m : Nat) (s : List UInt8) : Int :=
 if m = 2 then ((s.getD 0 0).toNat : Int) % 32 * 64 + ((s.getD 1 0).toNat : Int) % 64
 else if m = 3 then ((s.getD 0 0).toNat : Int) % 16 * 4096 + ((s.getD 1 0).toNat : Int) % 64 * 64 + ((s.getD 2 0).toNat : Int) % 64
 else if m = 4 then ((s.getD 0 0).toNat : Int) % 8 * 262144 + ((s.getD 1 0).toNat : Int) % 64 * 4096 + ((s.getD 2 0).toNat : Int) % 64 * 64 + ((s.getD 3 0).toNat : Int) % 64
 else ((s.getD 0 0).toNat : Int)
theorem zfr {c : Int} {n : Nat} (h : (lead c).1 = n) : (n = 0 ∧ c < 128 ∧ (lead c).2 = c) ∨ (n = 1 ∧ 194 ≤ c ∧ c < 224 ∧ (lead c).2 = c % 32) ∨ (n = 2 ∧ 224 ≤ c ∧ c < 240 ∧ (lead c).2 = c % 16) ∨ (n = 3 ∧ 240 ≤ c ∧ c < 245 ∧ (lead c).2 = c % 8) := by
 unfold lead at h ⊢
 repeat' (split at h)
 all_goals (simp at h; try omega)
 all_goals (simp (disch := omega) only [if_pos, if_neg]; simp; omega)
theorem rC {s : List UInt8} {r : Int} {k : Nat} (h : one s = some (r, k)) : rlen r = k ∧ enc r = s.take k ∧ k ≤ s.length ∧ 0 < k := by
 cases s with
 | nil => simp [one] at h
 | cons c t =>
  simp only [one] at h
  split at h
  ·simp at h
  ·rename_i h0
   split at h
   ·rename_i h1
    obtain ⟨n, hn⟩ : ∃ n : Nat, (lead c.toNat).1 = n := ⟨(lead c.toNat).1.toNat, by omega⟩
    rw [hn] at h0 h1 h
    simp only [Int.toNat_natCast, Option.some.injEq, Prod.mk.injEq] at h h1
    obtain ⟨h2, h3⟩ := h
    obtain ⟨hc, hl⟩ := h1
    have hlt := iO c
    rw [h2] at hl
    subst h3
    refine ⟨by omega, ?_, by simp; omega, by omega⟩
    rcases zfr hn with ⟨e, h4, h5⟩ | ⟨e, h4, h6, h5⟩ | ⟨e, h4, h6, h5⟩ | ⟨e, h4, h6, h5⟩
    ·subst e
     rw [h5] at h2
     simp [eS] at h2
     rw [sT (by omega), ← h2, WP]; rfl
    ·subst e
     match t, hc, h2, h0 with
     | b1 :: t, hc, h2, h0 =>
      have hb := iO b1
      simp [lP] at hc
      rw [h5] at h2
      simp [eS] at h2
      rw [sU ((rK r).1 (by omega)), oG (c := c) (by omega), oG (c := b1) (by omega)]; rfl
     | [], _, _, h0 => simp at h0; try omega
    ·subst e
     match t, hc, h2, h0 with
     | b1 :: b2 :: t, hc, h2, h0 =>
      have hb := iO b1
      have hb := iO b2
      simp [lP] at hc
      rw [h5] at h2
      simp [eS] at h2
      rw [sV ((rL r).1 (by omega)), oG (c := c) (by omega), oG (c := b1) (by omega), oG (c := b2) (by omega)]; rfl
     | [], _, _, h0 => simp at h0; try omega
     | [_], _, _, h0 => simp at h0; try omega
    ·subst e
     match t, hc, h2, h0 with
     | b1 :: b2 :: b3 :: t, hc, h2, h0 =>
      have hb := iO b1
      have hb := iO b2
      have hb := iO b3
      simp [lP] at hc
      rw [h5] at h2
      simp [eS] at h2
      rw [sW ((rM r).1 (by omega)), oG (c := c) (by omega), oG (c := b1) (by omega), oG (c := b2) (by omega), oG (c := b3) (by omega)]; rfl
     | [], _, _, h0 => simp at h0; try omega
     | [_], _, _, h0 => simp at h0; try omega
     | [_, _], _, _, h0 => simp at h0; try omega
   ·simp at h
theorem zK {c : UInt8} {t : List UInt8} {r : Int} {n : Nat} (h1 : (lead c.toNat).1 = n) (h2 : n ≤ t.length) (h3 : (t.take n).all lP = true) (h4 : eS (lead c.toNat).2 (t.take n) = r) (h5 : rlen r = n + 1) : one (c :: t) = some (r, n + 1) := by
 have := DF (s := c :: t) (n := n) (by simp) h1 (by simp; omega) h3
 rw [this, if_pos]
 ·simp only [List.getD_cons_zero, List.drop_succ_cons, List.drop_zero, h4]
 ·simp only [List.getD_cons_zero, List.drop_succ_cons, List.drop_zero, h4, h5]
theorem tD {n : Int} (h : 128 ≤ n) (k : n < 192) : lP (cR n) = true := by
 have := eM (n := n) (by omega) (by omega)
 simp [lP]; omega
theorem XB {r : Int} (h : right r = true) (t : List UInt8) : one (enc r ++ t) = some (r, (enc r).length) := by
 rcases pZ r with hr | hr | hr | hr | hr
 ·rw [(iL r).1 hr] at h; simp at h
 ·have hb := (tQ r).1 hr
  rw [sT hb]; simp only [List.cons_append, List.nil_append]
  refine zK (n := 0) ?_ (by simp) (by simp) ?_ (by omega) <;> rw [eM (by omega) (by omega)]
  ·simp (disch := omega) only [lead, if_pos]; rfl
  ·simp (disch := omega) only [lead, if_pos]; rfl
 ·have hb := (rK r).1 hr
  rw [sU hb]; simp only [List.cons_append, List.nil_append]
  refine zK (n := 1) ?_ (by simp) ?_ ?_ (by omega)
  ·rw [eM (by omega) (by omega)]; simp (disch := omega) only [lead, if_pos, if_neg]; rfl
  ·simp only [List.nil_append, List.cons_append, List.take_succ_cons, List.take_zero, List.all_cons, List.all_nil]
   rw [tD (by omega) (by omega)]; rfl
  ·rw [eM (by omega) (by omega)]
   simp (disch := omega) only [lead, if_pos, if_neg, List.nil_append, List.cons_append, List.take_succ_cons, List.take_zero, eS, List.foldl_cons, List.foldl_nil, eM]
   omega
 ·have hb := (rL r).1 hr
  rw [sV hb]; simp only [List.cons_append, List.nil_append]
  refine zK (n := 2) ?_ (by simp) ?_ ?_ (by omega)
  ·rw [eM (by omega) (by omega)]; simp (disch := omega) only [lead, if_pos, if_neg]; rfl
  ·simp only [List.nil_append, List.cons_append, List.take_succ_cons, List.take_zero, List.all_cons, List.all_nil]
   rw [tD (by omega) (by omega), tD (by omega) (by omega)]; rfl
  ·rw [eM (by omega) (by omega)]
   simp (disch := omega) only [lead, if_pos, if_neg, List.nil_append, List.cons_append, List.take_succ_cons, List.take_zero, eS, List.foldl_cons, List.foldl_nil, eM]
   omega
 ·have hb := (rM r).1 hr
  rw [sW hb]; simp only [List.cons_append, List.nil_append]
  refine zK (n := 3) ?_ (by simp) ?_ ?_ (by omega)
  ·rw [eM (by omega) (by omega)]; simp (disch := omega) only [lead, if_pos, if_neg]; rfl
  ·simp only [List.nil_append, List.cons_append, List.take_succ_cons, List.take_zero, List.all_cons, List.all_nil]
   rw [tD (by omega) (by omega), tD (by omega) (by omega), tD (by omega) (by omega)]; rfl
  ·rw [eM (by omega) (by omega)]
   simp (disch := omega) only [lead, if_pos, if_neg, List.nil_append, List.cons_append, List.take_succ_cons, List.take_zero, eS, List.foldl_cons, List.foldl_nil, eM]
   omega
theorem dec2 (s : List UInt8) : dec 2 s = ((s.getD 0 0).toNat : Int) % 32 * 64 + ((s.getD 1 0).toNat : Int) % 64 := rfl
theorem dec3 (s : List UInt8) : dec 3 s = ((s.getD 0 0).toNat : Int) % 16 * 4096 + ((s.getD 1 0).toNat : Int) % 64 * 64 + ((s.getD 2 0).toNat : Int) % 64 := rfl
theorem dec4 (s : List UInt8) : dec 4 s = ((s.getD 0 0).toNat : Int) % 8 * 262144 + ((s.getD 1 0).toNat : Int) % 64 * 4096 + ((s.getD 2 0).toNat : Int) % 64 * 64 + ((s.getD 3 0).toNat : Int) % 64 := rfl
theorem dec1 (s : List UInt8) : dec 1 s = ((s.getD 0 0).toNat : Int) := rfl
theorem zbg {r : Int} (h : right r = true) (t : List UInt8) : dec (rlen r).toNat (enc r ++ t) = r := by
 rcases pZ r with hr | hr | hr | hr | hr
 ·rw [(iL r).1 hr] at h; simp at h
 ·have hb := (tQ r).1 hr
  rw [sT hb, hr, show (1 : Int).toNat = 1 from rfl, dec1]
  simp (disch := omega) only [eM, List.cons_append, List.nil_append, List.getD_cons_zero, List.getD_cons_succ]
 ·have hb := (rK r).1 hr
  rw [sU hb, hr, show (2 : Int).toNat = 2 from rfl, dec2]
  simp (disch := omega) only [eM, List.cons_append, List.nil_append, List.getD_cons_zero, List.getD_cons_succ]
  omega
 ·have hb := (rL r).1 hr
  rw [sV hb, hr, show (3 : Int).toNat = 3 from rfl, dec3]
  simp (disch := omega) only [eM, List.cons_append, List.nil_append, List.getD_cons_zero, List.getD_cons_succ]
  omega
 ·have hb := (rM r).1 hr
  rw [sW hb, hr, show (4 : Int).toNat = 4 from rfl, dec4]
  simp (disch := omega) only [eM, List.cons_append, List.nil_append, List.getD_cons_zero, List.getD_cons_succ]
  omega
theorem zhv {s : List UInt8} {n : Nat} (hn : rlen (dec n s) = n) (h0 : 0 < n) (he : enc (dec n s) = s.take n) : one s = some (dec n s, n) := by
 have hr : right (dec n s) = true := by
  cases h : right (dec n s) with
  | true => rfl
  | false => have := (iL _).2 h; omega
 have hl := y6 (dec n s)
 have := XB hr (s.drop n)
 rw [he, List.take_append_drop] at this
 rw [this, ← he]
 congr 2
 omega
theorem zhu {s : List UInt8} (h : ∀ n, 0 < n → n ≤ 4 → n ≤ s.length → ¬ (rlen (dec n s) = n ∧ enc (dec n s) = s.take n)) : one s = none := by
 cases ho : one s with
 | none => rfl
 | some p =>
  obtain ⟨r, k⟩ := p
  obtain ⟨h1, h2, h3, h4⟩ := rC ho
  exfalso
  have hr : right r = true := by
   cases h : right r with
   | true => rfl
   | false => have := (iL _).2 h; omega
  have h5 := zbg hr (s.drop k)
  rw [h2, List.take_append_drop, h1, Int.toNat_natCast] at h5
  refine h k h4 ?_ h3 ?_
  ·have := pZ r; omega
  ·rw [h5]; exact ⟨h1, h2⟩
end Go.AE
end
section
namespace Go.AE
open Go.Proofs
set_option maxHeartbeats 8000000
set_option maxRecDepth 10000
set_option linter.unusedSimpArgs false
theorem zhr {s : List UInt8} {n : Nat} {x : Int} (hd : dec n s = x) (h1 : rlen x = n) (h2 : enc x = s.take n) (h0 : 1 ≤ n) :
  AV.tup [.v (.int .i32 x), .v (.int .i64 n)] = AV.tup [.v (.int .i32 ((one s).getD (0, 0)).1), .v (.int .i64 ((one s).getD (0, 0)).2)] := by
 subst hd
 rw [zhv h1 (by omega) h2]; rfl
theorem XC {s : List UInt8} {n : Nat} (hall : ∀ m : Nat, 0 < m → m < n → ¬ (rlen (dec m s) = m ∧ enc (dec m s) = s.take m)) (h : ¬ (rlen (dec n s) = n ∧ enc (dec n s) = s.take n)) :
  ∀ m : Nat, 0 < m → m < n + 1 → ¬ (rlen (dec m s) = m ∧ enc (dec m s) = s.take m) := by
 intro m h0 h1
 by_cases e : m = n
 ·subst e; exact h
 ·exact hall m h0 (by omega)
theorem zht {s : List UInt8} {n : Nat} {x : Int} (hb : ¬ rlen x = n) (hall : ∀ m : Nat, 0 < m → m < n → ¬ (rlen (dec m s) = m ∧ enc (dec m s) = s.take m)) (hd : dec n s = x) :
  ∀ m : Nat, 0 < m → m < n + 1 → ¬ (rlen (dec m s) = m ∧ enc (dec m s) = s.take m) := XC hall (by rw [hd]; exact fun h => hb h.1)
theorem zhs {s : List UInt8} {n : Nat} {x : Int} (hb : ¬ enc x = s.take n) (hall : ∀ m : Nat, 0 < m → m < n → ¬ (rlen (dec m s) = m ∧ enc (dec m s) = s.take m)) (hd : dec n s = x) :
  ∀ m : Nat, 0 < m → m < n + 1 → ¬ (rlen (dec m s) = m ∧ enc (dec m s) = s.take m) := XC hall (by rw [hd]; exact fun h => hb h.2)
theorem sR {P Q R S : Prop} (a : Q) (b : R) (c : S) (h : Mk P → bD Q → bD R → bD S → P := by
 intro m q r s
 repeat' first | refine aM (by first | assumption | (apply_assumption <;> omega)) ?_ ?_ | refine cM.fit (by assumption) ?_ | simp (maxSteps := 4000000) (disch := omega) only [aZ, aY, bun, ↓aW, ↓aV, aO, findLabel, ↓reduceIte, imp, shift, aR, aJ, unown, names, aQ, below, aD, aC, aT, aU, aS, ren, aN, aP, aX, renO, belowM, seval, -Int.reduceToNat, bT, b9, jG, jH, jF, jE, jI, jQ, jO, jP, hH, gY, gZ, Int.tdiv_eq_ediv_of_nonneg, Int.tmod_eq_emod_of_nonneg, Int.fdiv_eq_ediv_of_nonneg, oI, oJ, oK, oH, rD, qN, Int.reduceToNat, Option.getD_none, *] | exact bH _ | refine bG _ _ ?_ | exact bC.cl | refine bE _ ?_ | refine bF _ _ ?_ ?_ | refine bA _ ?_ | (refine Fk.fk ?_ ?_ <;> intro hg <;> (try simp only [hg]) <;> (try simp only [eC, iL] at hg) <;> try (exfalso; first | omega | exact Bool.noConfusion hg | exact hg trivial)) | refine And.intro (by omega) ?_ | omega
 first
 | done
 | all_goals (repeat revert hg)
   exact q.out
   first
   | done
   | exact r.out
     first
     | done
     | exact s.out
       first | done | fail) : P := h ⟨tru⟩ ⟨a⟩ ⟨b⟩ ⟨c⟩
theorem ZM (s : List UInt8) (hs : s.length ≤ 100000000) : aG Tryz.prog 48 [Sv s] (.tup [aB ((one s).getD (0, 0)).1, aA ((one s).getD (0, 0)).2]) := by
 refine sp [.tmp 2, .tmp 3] Tryz.func48 Tryz.ntmps48 ?_
 refine sR ?_ tru tru <;> intros
 refine bL (fun n : Nat => ⟨[(0, Sv s), (4, aA n)], []⟩) (fun n => 1 ≤ n ∧ n ≤ 5 ∧ ∀ m, 0 < m → m < n → ¬ (rlen (dec m s) = m ∧ enc (dec m s) = s.take m)) (fun n => 5 - n) 1 (by simp; intro m h1 h2; omega) bN ?_
 rintro n ⟨hn1, hn, hall⟩
 have hb0 := iO (s.getD 0 0)
 have hb1 := iO (s.getD 1 0)
 have hb2 := iO (s.getD 2 0)
 have hb3 := iO (s.getD 3 0)
 repeat' first | refine aM (z08 _) ?_ ?_ | refine aM (OF _) ?_ ?_ | simp (maxSteps := 4000000) (disch := omega) only [aZ, aY, bun, ↓aW, ↓aV, aO, findLabel, ↓reduceIte, imp, shift, aR, aJ, unown, names, aQ, below, aD, aC, aT, aU, aS, ren, aN, aP, aX, renO, belowM, seval, -Int.reduceToNat, Int.reduceToNat, bT, b9, jG, jH, jF, jE, jI, jQ, jO, jP, hH, gY, gZ, Int.tdiv_eq_ediv_of_nonneg, Int.tmod_eq_emod_of_nonneg, Int.fdiv_eq_ediv_of_nonneg, oI, oJ, oK, oH, rD, qN] | exact bH _ | refine bG _ _ ?_ | exact bC.cl | refine bE _ ?_ | refine bF _ _ ?_ ?_ | refine bA _ ?_ | (refine Fk.fk ?_ ?_ <;> intro hg <;> (try simp only [hg]) <;> (try simp only [eC, iL] at hg) <;> try (exfalso; first | omega | exact Bool.noConfusion hg | exact hg trivial)) | refine And.intro (by omega) ?_ | omega
 all_goals first
  | exact zhr (by first | ((have e : n = 2 := by omega); subst e; rfl) | ((have e : n = 3 := by omega); subst e; rfl) | ((have e : n = 4 := by omega); subst e; rfl) | ((have e : n = 1 := by omega); subst e; rfl)) (by assumption) (by assumption) (by omega)
  | exact ⟨n + 1, ⟨by omega, by omega, zht hg hall (by first | ((have e : n = 2 := by omega); subst e; rfl) | ((have e : n = 3 := by omega); subst e; rfl) | ((have e : n = 4 := by omega); subst e; rfl) | ((have e : n = 1 := by omega); subst e; rfl))⟩, by omega, bN⟩
  | exact ⟨n + 1, ⟨by omega, by omega, zhs hg hall (by first | ((have e : n = 2 := by omega); subst e; rfl) | ((have e : n = 3 := by omega); subst e; rfl) | ((have e : n = 4 := by omega); subst e; rfl) | ((have e : n = 1 := by omega); subst e; rfl))⟩, by omega, bN⟩
  | (rw [zhu (s := s) (fun m h0 h1 h2 => hall m h0 (by omega))]; rfl)
theorem pX (s : List UInt8) (hs : s.length ≤ 100000000) : aG Tryz.prog 30 [Sv s] (.tup [.own 21 1 (runes s).1.length ((runes s).1.map aB), aA (runes s).2]) := by
 refine sp [.tmp 2, .tmp 3] Tryz.func30 Tryz.ntmps30 ?_
 refine sR ?_ tru tru <;> intros
 refine bL (fun x : Nat × Nat × List Int => ⟨[(0, Sv s), (5, aA x.1), (4, .ref 1 0 x.2.2.length)], [.dead, .arr 21 1 (x.2.2.map aB)]⟩)
  (fun x => x.1 ≤ s.length ∧ s.length + 1 ≤ x.1 + x.2.1 ∧ x.2.2.length ≤ x.1 ∧ runes s = (x.2.2 ++ (cZ x.2.1 x.1 (s.drop x.1)).1, (cZ x.2.1 x.1 (s.drop x.1)).2)) (fun x => s.length - x.1) (0, s.length + 1, []) (by simp [runes]) bN ?_
 rintro ⟨a, f, acc⟩ ⟨ha, hf, hn, hr⟩
 dsimp only at ha hf hn hr
 have hone : one (s.drop a) = none ∨ ∃ r k, one (s.drop a) = some (r, k) ∧ rlen r = (k : Int) ∧ k ≤ s.length - a ∧ 0 < k := by
  cases ho : one (s.drop a) with
  | none => exact .inl rfl
  | some p => obtain ⟨h1, h2, h3, h4⟩ := rC (r := p.1) (k := p.2) ho; exact .inr ⟨p.1, p.2, rfl, h1, by simpa using h3, h4⟩
 have hle : (s.drop a).length ≤ 100000000 := by simp; omega
 obtain ⟨f, rfl⟩ : ∃ g, f = g + 1 := ⟨f - 1, by omega⟩
 rcases hone with ho | ⟨r, k, ho, hk, hk1, hk0⟩
 ·repeat' first | refine aM (ZM _ hle) ?_ ?_ | simp (maxSteps := 4000000) (disch := omega) only [aZ, aY, bun, ↓aW, ↓aV, aO, findLabel, ↓reduceIte, imp, shift, aR, aJ, unown, names, aQ, below, aD, aC, aT, aU, aS, ren, aN, aP, aX, renO, belowM, seval, -Int.reduceToNat, ho, Option.getD_none, bT, b9, jG, jH, jF, jE, jI, jQ, jO, jP, hH, gY, gZ, Int.tdiv_eq_ediv_of_nonneg, Int.tmod_eq_emod_of_nonneg, Int.fdiv_eq_ediv_of_nonneg, oI, oJ, oK, oH, rD, qN] | exact bH _ | refine bG _ _ ?_ | exact bC.cl | refine bE _ ?_ | refine bF _ _ ?_ ?_ | refine bA _ ?_ | (refine Fk.fk ?_ ?_ <;> intro hg <;> (try simp only [hg]) <;> (try simp only [eC, iL] at hg) <;> try (exfalso; first | omega | exact Bool.noConfusion hg | exact hg trivial)) | refine And.intro (by omega) ?_ | omega
  ·exact rP hr (wO (by simp; omega) ho)
  ·have : s.drop a = [] := List.drop_of_length_le (by omega)
   exact rP hr (by rw [this, z0n])
 ·repeat' first | refine aM (ZM _ hle) ?_ ?_ | simp (maxSteps := 4000000) (disch := omega) only [aZ, aY, bun, ↓aW, ↓aV, aO, findLabel, ↓reduceIte, imp, shift, aR, aJ, unown, names, aQ, below, aD, aC, aT, aU, aS, ren, aN, aP, aX, renO, belowM, seval, -Int.reduceToNat, ho, bT, b9, jG, jH, jF, jE, jI, jQ, jO, jP, hH, gY, gZ, Int.tdiv_eq_ediv_of_nonneg, Int.tmod_eq_emod_of_nonneg, Int.fdiv_eq_ediv_of_nonneg, oI, oJ, oK, oH, rD, qN] | exact bH _ | refine bG _ _ ?_ | exact bC.cl | refine bE _ ?_ | refine bF _ _ ?_ ?_ | refine bA _ ?_ | (refine Fk.fk ?_ ?_ <;> intro hg <;> (try simp only [hg]) <;> (try simp only [eC, iL] at hg) <;> try (exfalso; first | omega | exact Bool.noConfusion hg | exact hg trivial)) | refine And.intro (by omega) ?_ | omega
  ·have h2 := EI (f := f) (a := (a : Int)) (by simp; omega) ho
   rw [List.drop_drop] at h2
   refine ⟨(a + k, f, acc ++ [r]), ⟨by dsimp only; omega, by dsimp only; omega, by simp; omega, ?_⟩, by dsimp only; omega, ?_⟩
   ·rw [hr, h2]
    simp
   ·(simp (disch := omega) [wk, aL, aI, aD, aC, get, aK, belowM, below, belows, aA, aB, Bv, U8, Sv, hn] <;> try omega)
def nG : Nat → List UInt8 → Int
 | _, [] => -1
 | i, b :: l => if 128 ≤ b.toNat then i else nG (i + 1) l
def eight (s : List UInt8) : Int := nG 0 s
theorem BV {s : List UInt8} {i : Nat} (h : i < s.length) (hb : 128 ≤ (s.getD i 0).toNat) (ha : ∀ j, j < i → ¬ 128 ≤ (s.getD j 0).toNat) : eight s = i := by
 have key : ∀ (s : List UInt8) (i k : Nat), i < s.length → 128 ≤ (s.getD i 0).toNat → (∀ j, j < i → ¬ 128 ≤ (s.getD j 0).toNat) → nG k s = (k + i : Nat) := by
  intro s
  induction s with
  | nil => intro i k h; simp at h
  | cons b l ih =>
   intro i k h hb ha
   cases i with
   | zero => simp only [nG]; rw [if_pos (by simpa using hb)]; rfl
   | succ i =>
    simp only [nG]
    rw [if_neg (by simpa using ha 0 (by omega)), ih i (k + 1) (by simpa using h) (by simpa using hb) (fun j hj => by simpa using ha (j + 1) (by omega))]
    congr 1; omega
 have := key s i 0 h hb ha
 simpa [eight] using this
theorem BW {s : List UInt8} (ha : ∀ j, j < s.length → ¬ 128 ≤ (s.getD j 0).toNat) : eight s = -1 := by
 have key : ∀ (s : List UInt8) (k : Nat), (∀ j, j < s.length → ¬ 128 ≤ (s.getD j 0).toNat) → nG k s = -1 := by
  intro s
  induction s with
  | nil => intro k h; rfl
  | cons b l ih =>
   intro k ha
   simp only [nG]
   rw [if_neg (by simpa using ha 0 (by simp)), ih (k + 1) (fun j hj => by simpa using ha (j + 1) (by simpa using hj))]
 exact key s 0 ha
theorem Q5 {s : List UInt8} {i : Nat} (ha : ∀ j, j < i → ¬ 128 ≤ (s.getD j 0).toNat) (h : ¬ 128 ≤ (s.getD i 0).toNat) : ∀ j, j < i + 1 → ¬ 128 ≤ (s.getD j 0).toNat := by
 intro j hj
 by_cases e : j = i
 ·subst e; exact h
 ·exact ha j (by omega)
theorem u7 (s : List UInt8) (hs : s.length ≤ 100000000) : aG Tryz.prog 19 [Sv s] (aA (eight s)) := by
 refine sp [.tmp 2] Tryz.func19 Tryz.ntmps19 ?_
 refine sR ?_ tru tru <;> intros
 refine bL (fun i : Nat => ⟨[(0, Sv s), (4, Sv s), (5, aA s.length), (6, aA i)], []⟩) (fun i => i ≤ s.length ∧ ∀ j, j < i → ¬ 128 ≤ (s.getD j 0).toNat) (fun i => s.length - i) 0 (by simp) bN ?_
 rintro i ⟨hi, ha⟩
 refine sR ?_ ?_ ?_ <;> intros
 ·rw [BV (by omega) (by omega) ha]
 ·exact ⟨i + 1, ⟨by omega, Q5 ha (by omega)⟩, by omega, bN⟩
 ·rw [BW (fun j hj => ha j (by omega))]
theorem DZ (s : List UInt8) (hs : s.length ≤ 100000000) : aG Tryz.prog 34 [Sv s] (aA (eight s)) := by
 refine sp [.tmp 2] Tryz.func34 Tryz.ntmps34 ?_
 refine sR ?_ tru tru <;> intros
 refine bL (fun i : Nat => ⟨[(0, Sv s), (3, aA i)], []⟩) (fun i => i ≤ s.length ∧ ∀ j, j < i → ¬ 128 ≤ (s.getD j 0).toNat) (fun i => s.length - i) 0 (by simp) bN ?_
 rintro i ⟨hi, ha⟩
 refine sR ?_ ?_ ?_ <;> intros
 ·rw [BV (by omega) (by omega) ha]
 ·exact ⟨i + 1, ⟨by omega, Q5 ha (by omega)⟩, by omega, bN⟩
 ·rw [BW (fun j hj => ha j (by omega))]
end Go.AE
-- types: B3 B4 B5 B9 B21 B63 B82 B84
end
section
namespace Go.AE
open Go.Proofs
set_option maxRecDepth 10000
theorem zk4 (f : Nat) : ∀ (a : Int) (s : List UInt8), (cZ f a s).1.length ≤ s.length := by
 induction f with
 | zero => intro a s; simp [cZ]
 | succ f ih =>
  intro a s
  rw [nT]
  split
  ·simp
  ·cases ho : one s with
   | none => simp [kX]
   | some p =>
    obtain ⟨r, k⟩ := p
    obtain ⟨h1, h2, h3, h4⟩ := rC ho
    have := ih (a + k) (s.drop k)
    simp only [List.length_drop] at this
    simp only [kX, List.length_cons]
    omega
theorem EK (s : List UInt8) : (runes s).1.length ≤ s.length := zk4 _ _ _
def Up (f : Int → Int) : List Int → Prop
 | [] => True
 | x :: l => (∀ y ∈ l, f x ≤ f y) ∧ Up f l
theorem Up.append {f : Int → Int} : ∀ {A B : List Int}, Up f (A ++ B) ↔ Up f A ∧ Up f B ∧ ∀ x ∈ A, ∀ y ∈ B, f x ≤ f y
 | [], B => by simp [Up]
 | a :: A, B => by
  simp only [List.cons_append, Up, Up.append (A := A), List.mem_append, List.mem_cons]
  constructor
  ·rintro ⟨h1, h2, h3, h4⟩
   refine ⟨⟨fun y hy => h1 y (.inl hy), h2⟩, h3, ?_⟩
   rintro x (rfl | hx) y hy
   ·exact h1 y (.inr hy)
   ·exact h4 x hx y hy
  ·rintro ⟨⟨h1, h2⟩, h3, h4⟩
   refine ⟨?_, h2, h3, fun x hx => h4 x (.inr hx)⟩
   rintro y (hy | hy)
   ·exact h1 y hy
   ·exact h4 a (.inl rfl) y hy
def bQ (f : Int → Int) (A B : List Int) : Prop := ∀ c, A.filter (fun x => f x == c) = B.filter (fun x => f x == c)
theorem bQ.refl (f : Int → Int) (A : List Int) : bQ f A A := fun _ => rfl
theorem bQ.symm {f : Int → Int} {A B : List Int} (h : bQ f A B) : bQ f B A := fun c => (h c).symm
theorem bQ.trans {f : Int → Int} {A B C : List Int} (h : bQ f A B) (k : bQ f B C) : bQ f A C := fun c => (h c).trans (k c)
theorem bQ.app {f : Int → Int} {A B C D : List Int} (h : bQ f A B) (k : bQ f C D) : bQ f (A ++ C) (B ++ D) := fun c => by rw [List.filter_append, List.filter_append, h c, k c]
theorem bQ.mem {f : Int → Int} {A B : List Int} (h : bQ f A B) {x : Int} : x ∈ A ↔ x ∈ B := by
 have h1 := h (f x)
 constructor
 ·intro hx
  have : x ∈ A.filter (fun y => f y == f x) := List.mem_filter.2 ⟨hx, by simp⟩
  rw [h1] at this
  exact (List.mem_filter.1 this).1
 ·intro hx
  have : x ∈ B.filter (fun y => f y == f x) := List.mem_filter.2 ⟨hx, by simp⟩
  rw [← h1] at this
  exact (List.mem_filter.1 this).1
theorem bQ.turn {f : Int → Int} {A B : List Int} (h : ∀ x ∈ A, ∀ y ∈ B, f x ≠ f y) : bQ f (A ++ B) (B ++ A) := fun c => by
 rw [List.filter_append, List.filter_append]
 by_cases hA : A.filter (fun x => f x == c) = []
 ·rw [hA]; simp
 ·obtain ⟨x, hx⟩ := List.exists_mem_of_ne_nil _ hA
  have hx := List.mem_filter.1 hx
  have : B.filter (fun x => f x == c) = [] := List.filter_eq_nil_iff.2 fun y hy hc => by
   have h1 : f x = c := by simpa using hx.2
   have h2 : f y = c := by simpa using hc
   exact h x hx.1 y hy (by omega)
  rw [this]; simp
theorem z36 {f : Int → Int} : ∀ {A B : List Int}, Up f A → Up f B → bQ f A B → A = B
 | [], [], _, _, _ => rfl
 | [], b :: B, _, _, h => by have := (h.mem (x := b)).2 (by simp); simp at this
 | a :: A, [], _, _, h => by have := (h.mem (x := a)).1 (by simp); simp at this
 | a :: A, b :: B, h1, h2, h => by
  have hab : f b ≤ f a := by
   rcases List.mem_cons.1 ((h.mem (x := a)).1 (by simp)) with e | hm
   ·rw [e]; exact Int.le_refl _
   ·exact h2.1 a hm
  have hba : f a ≤ f b := by
   rcases List.mem_cons.1 ((h.mem (x := b)).2 (by simp)) with e | hm
   ·rw [e]; exact Int.le_refl _
   ·exact h1.1 b hm
  have e : f a = f b := by omega
  have hh := h (f a)
  rw [List.filter_cons, if_pos (by simp), List.filter_cons, if_pos (by simp [e])] at hh
  have hh := (List.cons.inj hh).1
  subst hh
  have : bQ f A B := fun c => by
   have := h c
   rw [List.filter_cons, List.filter_cons] at this
   split at this
   ·exact (List.cons.inj this).2
   ·exact this
  rw [z36 h1.2 h2.2 this]
def vH (f : Int → Int) (W : List Int) (x : Int) : List Int := W.takeWhile (fun w => decide (f w ≤ f x)) ++ x :: W.dropWhile (fun w => decide (f w ≤ f x))
def ssort (f : Int → Int) (S : List Int) : List Int := S.foldl (vH f) []
theorem z35 {f : Int → Int} {x : Int} : ∀ {W : List Int}, Up f W → ∀ w ∈ W.dropWhile (fun w => decide (f w ≤ f x)), f x < f w
 | [], _, w, hw => by simp at hw
 | a :: W, h, w, hw => by
  rw [List.dropWhile_cons] at hw
  split at hw
  ·exact z35 h.2 w hw
  ·rename_i ha
   have ha : f x < f a := by simpa using ha
   rcases List.mem_cons.1 hw with rfl | hw
   ·exact ha
   ·have := h.1 w hw; omega
theorem YN {f : Int → Int} {A B : List Int} {x : Int} (h : Up f (A ++ B)) (h1 : ∀ w ∈ A, f w ≤ f x) (h2 : ∀ w ∈ B, f x < f w) : Up f (A ++ x :: B) ∧ bQ f (A ++ x :: B) ((A ++ B) ++ [x]) := by
 obtain ⟨q1, q2, q3⟩ := Up.append.1 h
 refine ⟨Up.append.2 ⟨q1, ⟨fun y hy => Int.le_of_lt (h2 y hy), q2⟩, fun a ha y hy => ?_⟩, ?_⟩
 ·rcases List.mem_cons.1 hy with rfl | hy
  ·exact h1 a ha
  ·exact q3 a ha y hy
 ·rw [List.append_assoc]
  refine bQ.app (bQ.refl f A) ?_
  exact bQ.turn (A := [x]) (B := B) fun a ha y hy => by
   simp at ha
   subst ha
   have := h2 y hy
   omega
theorem zev {f : Int → Int} {W : List Int} {x : Int} (h : Up f W) : Up f (vH f W x) ∧ bQ f (vH f W x) (W ++ [x]) := by
 have e := List.takeWhile_append_dropWhile (p := fun w => decide (f w ≤ f x)) (l := W)
 have := YN (f := f) (x := x) (A := W.takeWhile (fun w => decide (f w ≤ f x))) (B := W.dropWhile (fun w => decide (f w ≤ f x))) (by rw [e]; exact h) (fun w hw => by
  have := List.all_eq_true.1 (List.all_takeWhile (p := fun w => decide (f w ≤ f x)) (l := W)) w hw
  simpa using this) (z35 h)
 rw [e] at this
 exact this
theorem z1v (f : Int → Int) (S : List Int) (x : Int) : ssort f (S ++ [x]) = vH f (ssort f S) x := by simp [ssort]
theorem jW (f : Int → Int) (S : List Int) : Up f (ssort f S) ∧ bQ f (ssort f S) S := by
 have key : ∀ (n : Nat) (S : List Int), S.length = n → Up f (ssort f S) ∧ bQ f (ssort f S) S := by
  intro n
  induction n with
  | zero => intro S hS; rw [List.length_eq_zero_iff.1 hS]; exact ⟨trivial, bQ.refl f []⟩
  | succ n ih =>
   intro S hS
   obtain ⟨T, x, rfl⟩ : ∃ T x, S = T ++ [x] := ⟨S.dropLast, S.getLast (by intro hh; subst hh; simp at hS), (List.dropLast_concat_getLast _).symm⟩
   simp at hS
   obtain ⟨h1, h2⟩ := ih T hS
   rw [z1v]
   obtain ⟨q1, q2⟩ := zev (x := x) h1
   exact ⟨q1, q2.trans (h2.app (bQ.refl f [x]))⟩
 exact key S.length S rfl
theorem rR {f : Int → Int} {R S : List Int} (h : Up f R) (k : bQ f R S) : R = ssort f S := by
 obtain ⟨h1, h2⟩ := jW f S
 exact z36 h h1 (k.trans h2.symm)
theorem wS {f : Int → Int} {S : List Int} (h : Up f S) : ssort f S = S := (rR h (bQ.refl f S)).symm
theorem EU {f : Int → Int} {R S : List Int} (h : bQ f R S) : ssort f R = ssort f S := rR (jW f R).1 ((jW f R).2.trans h)
theorem nV (f : Int → Int) (S : List Int) : (ssort f S).length = S.length := by
 have key : ∀ (n : Nat) (S : List Int), S.length = n → (ssort f S).length = n := by
  intro n
  induction n with
  | zero => intro S hS; rw [List.length_eq_zero_iff.1 hS]; rfl
  | succ n ih =>
   intro S hS
   obtain ⟨T, x, rfl⟩ : ∃ T x, S = T ++ [x] := ⟨S.dropLast, S.getLast (by intro hh; subst hh; simp at hS), (List.dropLast_concat_getLast _).symm⟩
   simp at hS
   rw [z1v]
   have e := congrArg List.length (List.takeWhile_append_dropWhile (p := fun w => decide (f w ≤ f x)) (l := ssort f T))
   rw [List.length_append] at e
   simp only [vH, List.length_append, List.length_cons]
   have := ih T hS
   omega
 exact key S.length S rfl
theorem zkl {f : Int → Int} {X1 X2 Y1 Y2 : List Int} (hX : Up f (X1 ++ X2)) (hY : Up f (Y1 ++ Y2)) (h1 : ∀ x ∈ X1, ∀ y ∈ Y2, f x ≤ f y) (h2 : ∀ y ∈ Y1, ∀ x ∈ X2, f y < f x) :
  ssort f (X1 ++ Y1) ++ ssort f (X2 ++ Y2) = ssort f ((X1 ++ X2) ++ (Y1 ++ Y2)) := by
 obtain ⟨a1, a2, a3⟩ := Up.append.1 hX
 obtain ⟨b1, b2, b3⟩ := Up.append.1 hY
 obtain ⟨p1, p2⟩ := jW f (X1 ++ Y1)
 obtain ⟨q1, q2⟩ := jW f (X2 ++ Y2)
 refine rR (Up.append.2 ⟨p1, q1, fun x hx y hy => ?_⟩) ((p2.app q2).trans ?_)
 ·have hx := List.mem_append.1 (p2.mem.1 hx)
  have hy := List.mem_append.1 (q2.mem.1 hy)
  rcases hx with hx | hx <;> rcases hy with hy | hy
  ·exact a3 x hx y hy
  ·exact h1 x hx y hy
  ·exact Int.le_of_lt (h2 x hx y hy)
  ·exact b3 x hx y hy
 ·rw [List.append_assoc, List.append_assoc]
  refine (bQ.refl f X1).app ?_
  rw [← List.append_assoc, ← List.append_assoc]
  refine bQ.app (bQ.turn fun y hy x hx => ?_) (bQ.refl f Y2)
  have := h2 y hy x hx
  omega
theorem z1u {f : Int → Int} {A B : List Int} {x : Int} (h : Up f (A ++ B)) (h1 : ∀ w ∈ A, f w ≤ f x) (h2 : ∀ w ∈ B, f x < f w) : A ++ x :: B = ssort f ((A ++ B) ++ [x]) := by
 obtain ⟨q1, q2⟩ := YN h h1 h2
 exact rR q1 q2
theorem zkk {f : Int → Int} {A B : List Int} {x : Int} (h : Up f (A ++ B)) (h1 : ∀ w ∈ A, f w < f x) (h2 : ∀ w ∈ B, f x ≤ f w) : A ++ x :: B = ssort f (x :: (A ++ B)) := by
 obtain ⟨a1, a2, a3⟩ := Up.append.1 h
 refine rR (Up.append.2 ⟨a1, ⟨h2, a2⟩, fun a ha y hy => ?_⟩) ?_
 ·rcases List.mem_cons.1 hy with rfl | hy
  ·exact Int.le_of_lt (h1 a ha)
  ·exact a3 a ha y hy
 ·rw [show A ++ x :: B = (A ++ [x]) ++ B by simp, show x :: (A ++ B) = ([x] ++ A) ++ B by simp]
  exact bQ.app (bQ.turn fun a ha y hy => by simp at hy; subst hy; have := h1 a ha; omega) (bQ.refl f B)
theorem z38 {f : Int → Int} {A : List Int} {x : Int} (h : Up f (A ++ [x])) : ∀ w ∈ A, f w ≤ f x := fun w hw => (Up.append.1 h).2.2 w hw x (by simp)
def kI (L : List Int) (p q : Nat) : Nat → List Int
 | 0 => L
 | n + 1 => ((kI L p q n).set (p + n) ((kI L p q n).getD (q + n) 0)).set (q + n) ((kI L p q n).getD (p + n) 0)
theorem zku (L : List Int) (p q n : Nat) : (kI L p q n).length = L.length := by
 induction n with
 | zero => rfl
 | succ n ih => simp [kI, ih]
theorem wQ {A B : List Int} {x y : Int} {k : Nat} (h : k = A.length) : (A ++ x :: B).set k y = A ++ y :: B := by
 subst h; simp
theorem kP {A B : List Int} {x d : Int} {k : Nat} (h : k = A.length) : (A ++ x :: B).getD k d = x := by
 subst h; simp [List.getD]
theorem AC : ∀ (n : Nat) (A X Y Z B : List Int), X.length = n → Z.length = n → kI (A ++ X ++ Y ++ Z ++ B) A.length (A.length + n + Y.length) n = A ++ Z ++ Y ++ X ++ B
 | 0, A, X, Y, Z, B, hX, hZ => by rw [List.length_eq_zero_iff.1 hX, List.length_eq_zero_iff.1 hZ]; rfl
 | n + 1, A, X, Y, Z, B, hX, hZ => by
  obtain ⟨X, x, rfl⟩ : ∃ T x, X = T ++ [x] := ⟨X.dropLast, X.getLast (by intro hh; subst hh; simp at hX), (List.dropLast_concat_getLast _).symm⟩
  obtain ⟨Z, z, rfl⟩ : ∃ T x, Z = T ++ [x] := ⟨Z.dropLast, Z.getLast (by intro hh; subst hh; simp at hZ), (List.dropLast_concat_getLast _).symm⟩
  simp at hX hZ
  have ih := AC n A X (x :: Y) Z (z :: B) hX hZ
  have e1 : A ++ (X ++ [x]) ++ Y ++ (Z ++ [z]) ++ B = A ++ X ++ (x :: Y) ++ Z ++ (z :: B) := by simp
  have e2 : A.length + (n + 1) + Y.length = A.length + n + (x :: Y).length := by simp; omega
  rw [e1, e2, kI, ih]
  have f1 : A ++ Z ++ x :: Y ++ X ++ z :: B = (A ++ Z) ++ x :: (Y ++ X ++ z :: B) := by simp
  have f2 : A ++ Z ++ x :: Y ++ X ++ z :: B = (A ++ Z ++ x :: Y ++ X) ++ z :: B := by simp
  have g1 : (A ++ Z ++ x :: Y ++ X ++ z :: B).getD (A.length + n) 0 = x := by rw [f1]; exact kP (by simp; omega)
  have g2 : (A ++ Z ++ x :: Y ++ X ++ z :: B).getD (A.length + n + (x :: Y).length + n) 0 = z := by rw [f2]; exact kP (by simp; omega)
  rw [g1, g2, f1, wQ (by simp; omega)]
  have f3 : (A ++ Z) ++ z :: (Y ++ X ++ z :: B) = (A ++ Z ++ z :: Y ++ X) ++ z :: B := by simp
  rw [f3, wQ (by simp; omega)]
  simp
def han (r : Int) : Bool := decide (44032 ≤ r) && decide (r ≤ 55203)
def syl (r : Int) : List Int := [4352 + (r - 44032) / 588, 4449 + (r - 44032) % 588 / 28] ++ (if (r - 44032) % 28 = 0 then [] else [4519 + (r - 44032) % 28])
def stop (soft : Bool) (r : Int) : Bool := !(spl r).2 || ((spl r).1.2.2.2.1 && !soft)
def dR : Nat → Bool → Int → List Int
 | 0, _, r => [r]
 | f + 1, soft, r => if han r then syl r else if stop soft r then [r] else if (spl r).1.2.2.1 = 0 then dR f soft (spl r).1.2.1 else dR f soft (spl r).1.2.1 ++ dR f soft (spl r).1.2.2.1
def lA : Nat → Int → Prop
 | 0, r => (spl r).2 = false
 | n + 1, r => (spl r).2 = true → lA n (spl r).1.2.1 ∧ ((spl r).1.2.2.1 ≠ 0 → lA n (spl r).1.2.2.1)
def qR : Nat → Int → Bool
 | 0, r => !(spl r).2
 | n + 1, r => !(spl r).2 || (qR n (spl r).1.2.1 && ((spl r).1.2.2.1 == 0 || qR n (spl r).1.2.2.1))
theorem xV : ∀ (n : Nat) (r : Int), qR n r = true → lA n r
 | 0, r, h => by simpa [qR, lA] using h
 | n + 1, r, h => by
  intro hs
  simp only [qR, hs, Bool.not_true, Bool.false_or, Bool.and_eq_true, Bool.or_eq_true, beq_iff_eq] at h
  exact ⟨xV n _ h.1, fun h0 => xV n _ (h.2.resolve_left h0)⟩
theorem xU (r : Int) : lA 4 r := by
 intro h
 have := l5 (q := fun _ s => qR 3 s.2.1 && (s.2.2.1 == 0 || qR 3 s.2.2.1)) (by decide +kernel) (by decide +kernel) h
 simp only [Bool.and_eq_true, Bool.or_eq_true, beq_iff_eq] at this
 exact ⟨xV 3 _ this.1, fun h0 => xV 3 _ (this.2.resolve_left h0)⟩
theorem lA.up : ∀ {n : Nat} {r : Int}, lA n r → lA (n + 1) r
 | 0, r, h => fun hs => by rw [show (spl r).2 = false from h] at hs; cases hs
 | n + 1, r, h => fun hs => ⟨(h hs).1.up, fun h0 => ((h hs).2 h0).up⟩
def cE (soft : Bool) (r : Int) : List Int := dR 5 soft r
def bM (soft : Bool) (l : List Int) : List Int := l.flatMap (cE soft)
theorem pT : ∀ (f : Nat) (soft : Bool) (r : Int), (dR f soft r).length ≤ 3 * 2 ^ f
 | 0, _, _ => by simp [dR]
 | f + 1, soft, r => by
  have h1 := pT f soft (spl r).1.2.1
  have h2 := pT f soft (spl r).1.2.2.1
  have hp : 2 ^ (f + 1) = 2 ^ f * 2 := Nat.pow_succ _ _
  have hp0 : 0 < 2 ^ f := Nat.pow_pos (by decide)
  rw [dR]
  split
  ·unfold syl; split <;> simp <;> omega
  ·split
   ·simp; omega
   ·split
    ·omega
    ·rw [List.length_append]; omega
theorem pU (f : Nat) (soft : Bool) (r : Int) : dR (f + 1) soft r = if han r then syl r else if stop soft r then [r] else if (spl r).1.2.2.1 = 0 then dR f soft (spl r).1.2.1 else dR f soft (spl r).1.2.1 ++ dR f soft (spl r).1.2.2.1 := rfl
theorem DE : ∀ (n : Nat) {r : Int} {soft : Bool}, lA n r → dR (n + 2) soft r = dR (n + 1) soft r
 | 0, r, soft, h => by
  have : stop soft r = true := by simp [stop, show (spl r).2 = false from h]
  rw [pU 1 soft r, pU 0 soft r, this]
  simp
 | n + 1, r, soft, h => by
  rw [pU (n + 2) soft r, pU (n + 1) soft r]
  by_cases hst : stop soft r = true
  ·rw [hst]; simp
  ·have hs : (spl r).2 = true := by
    unfold stop at hst
    cases hq : (spl r).2
    ·rw [hq] at hst; simp at hst
    ·rfl
   rw [DE n (h hs).1]
   by_cases h0 : (spl r).1.2.2.1 = 0
   ·simp only [h0, if_true]
   ·rw [DE n ((h hs).2 h0)]
theorem iB (soft : Bool) (r : Int) : cE soft r = if han r then syl r else if stop soft r then [r] else if (spl r).1.2.2.1 = 0 then cE soft (spl r).1.2.1 else cE soft (spl r).1.2.1 ++ cE soft (spl r).1.2.2.1 := by
 have e : cE soft r = dR 6 soft r := (DE 4 (xU r)).symm
 rw [e, pU]
 rfl
def bP (a b : Int) : Int × Bool := if 4352 ≤ a ∧ a ≤ 4370 ∧ 4449 ≤ b ∧ b ≤ 4469 then (44032 + (a - 4352) * 588 + (b - 4449) * 28, true)
 else if han a = true ∧ (a - 44032) % 28 = 0 ∧ 4520 ≤ b ∧ b ≤ 4546 then (a + b - 4519, true) else pr a b
def cS : List Int → List Int → List Int
 | R, [] => ssort cls R
 | R, x :: l => if 0 < cls x then cS (R ++ [x]) l else ssort cls R ++ x :: cS [] l
def cX (l : List Int) : List Int := cS [] l
def u5 : Int → List Int → List Int
 | x, [] => [x]
 | x, y :: t => if 0 < cls y ∧ cls y < cls x then y :: u5 x t else x :: u5 y t
def f6 : List Int → List Int
 | [] => []
 | x :: t => u5 x t
theorem o5 (x y : Int) (t : List Int) : f6 (x :: y :: t) = if 0 < cls y ∧ cls y < cls x then y :: f6 (x :: t) else x :: f6 (y :: t) := rfl
def iF : Nat → List Int → List Int
 | 0, l => l
 | k + 1, l => iF k (f6 l)
theorem FK : ∀ (k : Nat) (l : List Int), iF (k + 1) l = f6 (iF k l)
 | 0, _ => rfl
 | k + 1, l => by rw [iF, FK k (f6 l)]; rfl
theorem z33 {s : Int} (hs : cls s ≤ 0) : ∀ t : List Int, f6 (s :: t) = s :: f6 t
 | [] => rfl
 | y :: t => by rw [o5, if_neg (by omega)]
theorem FL {s : Int} (hs : cls s ≤ 0) (t : List Int) : ∀ R : List Int, f6 (R ++ s :: t) = f6 R ++ s :: f6 t
 | [] => z33 hs t
 | [x] => by
  show f6 (x :: s :: t) = [x] ++ s :: f6 t
  rw [o5, if_neg (by omega), z33 hs]; rfl
 | x :: y :: R => by
  have h1 := FL hs t (x :: R)
  have h2 := FL hs t (y :: R)
  show f6 (x :: y :: (R ++ s :: t)) = f6 (x :: y :: R) ++ s :: f6 t
  rw [o5, o5]
  split
  ·rw [show x :: (R ++ s :: t) = x :: R ++ s :: t from rfl, h1]; rfl
  ·rw [show y :: (R ++ s :: t) = y :: R ++ s :: t from rfl, h2]; rfl
theorem z2z {s : Int} (hs : cls s ≤ 0) : ∀ (k : Nat) (R t : List Int), iF k (R ++ s :: t) = iF k R ++ s :: iF k t
 | 0, _, _ => rfl
 | k + 1, R, t => by rw [iF, FL hs, z2z hs k]; rfl
theorem wW : ∀ l : List Int, bQ cls (f6 l) l ∧ (f6 l).length = l.length
 | [] => ⟨bQ.refl _ _, rfl⟩
 | [x] => ⟨bQ.refl _ _, rfl⟩
 | x :: y :: t => by
  have h1 := wW (x :: t)
  have h2 := wW (y :: t)
  rw [o5]
  split
  ·rename_i h
   refine ⟨(bQ.app (bQ.refl cls [y]) h1.1).trans ?_, by simp only [List.length_cons] at h1 ⊢; omega⟩
   exact bQ.app (A := [y] ++ [x]) (B := [x] ++ [y]) (C := t) (D := t) (bQ.turn fun a ha b hb => by simp at ha hb; subst ha; subst hb; omega) (bQ.refl cls t)
  ·exact ⟨bQ.app (bQ.refl cls [x]) h2.1, by simp only [List.length_cons] at h2 ⊢; omega⟩
theorem AG : ∀ (k : Nat) (l : List Int), bQ cls (iF k l) l ∧ (iF k l).length = l.length
 | 0, _ => ⟨bQ.refl _ _, rfl⟩
 | k + 1, l => by
  have h1 := AG k (f6 l)
  have h2 := wW l
  exact ⟨h1.1.trans h2.1, h1.2.trans h2.2⟩
theorem AH {V : List Int} (hV : Up cls V) : ∀ U : List Int, (∀ u ∈ U, ∀ v ∈ V, cls u ≤ cls v) → f6 (U ++ V) = f6 U ++ V
 | [], _ => by
  have : ∀ V : List Int, Up cls V → f6 V = V := fun V => by
   induction V with
   | nil => intro _; rfl
   | cons x V ih =>
    intro h
    cases V with
    | nil => rfl
    | cons y V =>
     have := h.1 y (by simp)
     rw [o5, if_neg (by omega), ih h.2]
  exact this V hV
 | [x], h => by
  cases V with
  | nil => rfl
  | cons v V =>
   have h1 := h x (by simp) v (by simp)
   have h2 := AH hV [] (by simp)
   show f6 (x :: v :: V) = _
   rw [o5, if_neg (by omega)]
   rw [show f6 (v :: V) = v :: V from h2]; rfl
 | x :: y :: U, h => by
  have h1 := AH hV (x :: U) (fun u hu => h u (by rcases List.mem_cons.1 hu with rfl | hu <;> simp [*]))
  have h2 := AH hV (y :: U) (fun u hu => h u (List.mem_cons_of_mem _ hu))
  show f6 (x :: y :: (U ++ V)) = _
  rw [o5, o5]
  split
  ·rw [show x :: (U ++ V) = x :: U ++ V from rfl, h1]; rfl
  ·rw [show y :: (U ++ V) = y :: U ++ V from rfl, h2]; rfl
theorem FM : ∀ (l : List Int), l ≠ [] → (∀ r ∈ l, 0 < cls r) → ∃ U m, f6 l = U ++ [m] ∧ ∀ u ∈ U, cls u ≤ cls m
 | [], h, _ => absurd rfl h
 | [x], _, _ => ⟨[], x, rfl, by simp⟩
 | x :: y :: t, _, hp => by
  rw [o5]
  have hx := hp x (by simp)
  have hy := hp y (by simp)
  have top : ∀ {l U : List Int} {m : Int}, f6 l = U ++ [m] → (∀ u ∈ U, cls u ≤ cls m) → ∀ u ∈ l, cls u ≤ cls m := by
   intro l U m h1 h2 u hu
   have := ((wW l).1.mem (x := u)).2 hu
   rw [h1] at this
   rcases List.mem_append.1 this with h | h
   ·exact h2 u h
   ·simp at h; subst h; exact Int.le_refl _
  split
  ·rename_i h
   obtain ⟨U, m, e1, e2⟩ := FM (x :: t) (by simp) (fun r hr => hp r (by rcases List.mem_cons.1 hr with rfl | hr <;> simp [*]))
   refine ⟨y :: U, m, by rw [e1]; rfl, fun u hu => ?_⟩
   rcases List.mem_cons.1 hu with rfl | hu
   ·have := top e1 e2 x (by simp); omega
   ·exact e2 u hu
  ·rename_i h
   obtain ⟨U, m, e1, e2⟩ := FM (y :: t) (by simp) (fun r hr => hp r (List.mem_cons_of_mem _ hr))
   refine ⟨x :: U, m, by rw [e1]; rfl, fun u hu => ?_⟩
   rcases List.mem_cons.1 hu with rfl | hu
   ·have := top e1 e2 y (by simp); omega
   ·exact e2 u hu
theorem z30 {R : List Int} (hp : ∀ r ∈ R, 0 < cls r) : ∀ k, ∃ U V, iF k R = U ++ V ∧ U.length = R.length - k ∧ Up cls V ∧ ∀ u ∈ U, ∀ v ∈ V, cls u ≤ cls v
 | 0 => ⟨R, [], by simp [iF], by simp, trivial, by simp⟩
 | k + 1 => by
  obtain ⟨U, V, h1, h2, h3, h4⟩ := z30 hp k
  rw [FK, h1, AH h3 U h4]
  by_cases hU : U = []
  ·subst hU
   refine ⟨[], V, rfl, ?_, h3, by simp⟩
   simp at h2 ⊢; omega
  ·have hpU : ∀ r ∈ U, 0 < cls r := fun r hr => hp r ((AG k R).1.mem.1 (by rw [h1]; simp [hr]))
   obtain ⟨U', m, e1, e2⟩ := FM U hU hpU
   have hk := wW U
   rw [e1] at hk
   refine ⟨U', m :: V, by rw [e1]; simp, ?_, ⟨fun v hv => h4 m (hk.1.mem.1 (by simp)) v hv, h3⟩, fun u hu v hv => ?_⟩
   ·have := hk.2
    simp at this
    omega
   ·rcases List.mem_cons.1 hv with rfl | hv
    ·exact e2 u hu
    ·exact h4 u (hk.1.mem.1 (by simp [hu])) v hv
theorem z32 {R : List Int} (hp : ∀ r ∈ R, 0 < cls r) {k : Nat} (hk : R.length ≤ k) : iF k R = ssort cls R := by
 obtain ⟨U, V, h1, h2, h3, h4⟩ := z30 hp k
 have : U = [] := List.length_eq_zero_iff.1 (by omega)
 subst this
 refine rR ?_ (AG k R).1
 rw [h1]; exact h3
theorem FN : ∀ (T R : List Int) (k : Nat), (∀ r ∈ R, 0 < cls r) → R.length + T.length ≤ k → iF k (R ++ T) = cS R T
 | [], R, k, hp, hk => by rw [List.append_nil, cS]; exact z32 hp (by simpa using hk)
 | x :: T, R, k, hp, hk => by
  simp only [List.length_cons] at hk
  rw [cS]
  by_cases hx : 0 < cls x
  ·rw [if_pos hx, ← FN T (R ++ [x]) k (fun r hr => by
    rcases List.mem_append.1 hr with h | h
    ·exact hp r h
    ·simp at h; subst h; exact hx) (by simp; omega)]
   simp
  ·rw [if_neg hx, z2z (by omega), z32 hp (by omega)]
   have := FN T [] k (by simp) (by simp; omega)
   rw [List.nil_append] at this
   rw [this]
theorem zl7 (l : List Int) : iF l.length l = cX l := FN l [] l.length (by simp) (by simp)
structure JS where
 pre : List Int
 st : Option Int
 ms : List Int
def JS.out (s : JS) : List Int := s.pre ++ s.st.toList ++ s.ms
def JS.put (s : JS) (x : Int) : JS := if cls x = 0 then ⟨s.out, some x, []⟩ else ⟨s.pre, s.st, s.ms ++ [x]⟩
def cQ (s : JS) (x : Int) : JS := match s.st with
 | none => s.put x
 | some b => if s.ms.all (fun m => decide (cls m < cls x)) then (if (bP b x).2 then ⟨s.pre, some (bP b x).1, s.ms⟩ else s.put x) else s.put x
def gX (l : List Int) : JS := l.foldl cQ ⟨[], none, []⟩
def fT (l : List Int) : List Int := (gX l).out
theorem CM {r : Int} (h : 44032 ≤ r ∧ r ≤ 55203) : cls r = 0 := by
 by_cases h0 : cls r = 0
 ·exact h0
 ·have := List.all_eq_true.1 (show (xQ.all fun r => decide (¬ (44032 ≤ r ∧ r ≤ 55203))) = true by decide +kernel) r (BO h0)
  simp at this
  omega
theorem W5 {a b : Int} (h : (bP a b).2 = true) : cls (bP a b).1 = 0 ∧ 0 ≤ (bP a b).1 ∧ (bP a b).1 ≤ 1114111 := by
 unfold bP at h ⊢
 split
 ·rename_i h1
  exact ⟨CM (by dsimp only; omega), by dsimp only; omega, by dsimp only; omega⟩
 ·rename_i h1
  rw [if_neg h1] at h
  split
  ·rename_i h2
   have : 44032 ≤ a ∧ a ≤ 55203 := by simpa [han] using h2.1
   exact ⟨CM (by dsimp only; omega), by dsimp only; omega, by dsimp only; omega⟩
  ·rename_i h2
   rw [if_neg h2] at h
   obtain ⟨q1, q2, q3, q4⟩ := vY h
   have hm := z1p q1
   refine ⟨hm.2.1, ?_⟩
   have := l5 (q := fun r _ => decide (0 ≤ r ∧ r ≤ 1114111)) (by decide +kernel) (by decide +kernel) q1
   simpa using this
structure JI (s : JS) : Prop where
 st : ∀ b, s.st = some b → cls b = 0
 ms : ∀ m ∈ s.ms, 0 < cls m
 none : s.st = none → s.pre = []
theorem JI.put {s : JS} (h : JI s) (x : Int) : JI (s.put x) := by
 unfold JS.put
 split
 ·rename_i hc
  exact ⟨fun b hb => by simp at hb; subst hb; exact hc, by simp, by simp⟩
 ·rename_i hc
  have := uP x
  exact ⟨h.st, fun m hm => by
   rcases List.mem_append.1 hm with hm | hm
   ·exact h.ms m hm
   ·simp at hm; subst hm; omega, h.none⟩
theorem JI.step {s : JS} (h : JI s) (x : Int) : JI (cQ s x) := by
 unfold cQ
 split
 ·exact h.put x
 ·rename_i b hb
  split
  ·split
   ·rename_i h2
    exact ⟨fun c hc => by simp at hc; subst hc; exact (W5 h2).1, h.ms, by simp⟩
   ·exact h.put x
  ·exact h.put x
theorem JI.run (l : List Int) : JI (gX l) := by
 have key : ∀ (l : List Int) (s : JS), JI s → JI (l.foldl cQ s) := fun l => by
  induction l with
  | nil => intro s h; exact h
  | cons x l ih => intro s h; exact ih _ (h.step x)
 exact key l _ ⟨by simp, by simp, fun _ => rfl⟩
theorem oN (s : JS) (x : Int) : (s.put x).out = s.out ++ [x] := by
 unfold JS.put
 split
 ·simp [JS.out]
 ·simp [JS.out]
theorem TB (l : List Int) (i : Nat) (h : i < l.length) : gX (l.take (i + 1)) = cQ (gX (l.take i)) (l.getD i 0) := by
 unfold gX
 rw [gB l i 0 h, List.foldl_append]; rfl
theorem zf4 (s : JS) (x : Int) : (cQ s x).out.length ≤ s.out.length + 1 := by
 unfold cQ
 split
 ·rw [oN]; simp
 ·rename_i b hb
  split
  ·split
   ·simp [JS.out, hb]
   ·rw [oN]; simp
  ·rw [oN]; simp
theorem vJ (l : List Int) : (gX l).out.length ≤ l.length := by
 have key : ∀ (l : List Int) (s : JS), (l.foldl cQ s).out.length ≤ s.out.length + l.length := fun l => by
  induction l with
  | nil => intro s; simp
  | cons x l ih =>
   intro s
   have h1 := ih (cQ s x)
   have h2 := zf4 s x
   simp only [List.foldl_cons, List.length_cons]; omega
 have := key l ⟨[], none, []⟩
 have e : (JS.out ⟨[], none, []⟩).length = 0 := rfl
 rw [e, Nat.zero_add] at this
 exact this
def dg (n : Int) : Int := if 0 ≤ n ∧ n < 26 then 97 + n else if 26 ≤ n ∧ n < 36 then 22 + n else 0
def sJ (n : Int) : Bool := decide (0 ≤ n) && decide (n < 36)
def vl (c : Int) : Int := if 48 ≤ c ∧ c ≤ 57 then c - 22 else if 65 ≤ c ∧ c ≤ 90 then c - 65 else if 97 ≤ c ∧ c ≤ 122 then c - 97 else 0
def o6 (c : Int) : Bool := (decide (48 ≤ c) && decide (c ≤ 57)) || (decide (65 ≤ c) && decide (c ≤ 90)) || (decide (97 ≤ c) && decide (c ≤ 122))
def fR : Nat → Int → Int → Int
 | 0, _, k => k
 | f + 1, d, k => if 455 < d then fR f (d / 35) (k + 36) else k + 36 * d / (d + 38)
def qL (d c : Int) (first : Bool) : Int := (if first then d / 700 else d / 2) + (if first then d / 700 else d / 2) / c
def adapt (d c : Int) (first : Bool) : Int := fR 20 (qL d c first) 0
def thr (k b : Int) : Int := max 1 (min 26 (k - b))
def dgb (n : Int) : UInt8 := UInt8.ofNat (dg n).toNat
def lZ : Nat → Int → Int → Int → List UInt8
 | 0, _, _, _ => []
 | f + 1, n, k, b => if n < thr k b then [dgb n] else dgb (thr k b + (n - thr k b) % (36 - thr k b)) :: lZ f ((n - thr k b) / (36 - thr k b)) (k + 36) b
def wr (n b : Int) : List UInt8 := lZ 64 n 36 b
def nxt (l : List Int) (n : Int) : Int := l.foldl (fun o r => if n ≤ r ∧ (o < 0 ∨ r < o) then r else o) (-1)
theorem lH {x c : Int} (hx : 0 ≤ x) (hc : 1 ≤ c) : 0 ≤ x / c ∧ x / c ≤ x := ⟨Int.ediv_nonneg hx (by omega), Int.ediv_le_self _ hx⟩
theorem NL (d c : Int) : adapt d c true = fR 20 (d / 700 + d / 700 / c) 0 := rfl
theorem NJ (d c : Int) : adapt d c false = fR 20 (d / 2 + d / 2 / c) 0 := rfl
theorem z92 {f : Nat} {d k : Int} (h : 0 ≤ d) (hk : 0 ≤ k) : 0 ≤ fR f d k ∧ fR f d k ≤ k + 36 * f + 36 := by
 induction f generalizing d k with
 | zero => simp [fR]; omega
 | succ f ih =>
  unfold fR
  split
  ·have := ih (d := d / 35) (k := k + 36) (by omega) (by omega)
   omega
  ·have h1 : 0 ≤ 36 * d / (d + 38) := Int.ediv_nonneg (by omega) (by omega)
   have h2 : 36 * d / (d + 38) ≤ 36 := Int.ediv_le_of_le_mul (by omega) (by omega)
   omega
theorem sA {d c : Int} {first : Bool} (h : 0 ≤ d) (hc : 1 ≤ c) : 0 ≤ adapt d c first ∧ adapt d c first ≤ 756 := by
 have hd : 0 ≤ qL d c first := by
  unfold qL
  split
  ·have := lH (x := d / 700) (c := c) (by omega) hc; omega
  ·have := lH (x := d / 2) (c := c) (by omega) hc; omega
 have := z92 (f := 20) hd (Int.le_refl 0)
 unfold adapt
 omega
theorem zlp (f : Nat) : ∀ (n k b : Int), (lZ f n k b).length ≤ f := by
 induction f with
 | zero => intro n k b; simp [lZ]
 | succ f ih =>
  intro n k b
  unfold lZ
  split
  ·simp
  ·have := ih ((n - thr k b) / (36 - thr k b)) (k + 36) b
   simp only [List.length_cons]; omega
theorem FX (n b : Int) : (wr n b).length ≤ 64 := zlp _ _ _ _
theorem v6 {α β : Type} (f : β → α → β) (a : β) (l : List α) (i : Nat) (d : α) (h : i < l.length) : (l.take (i + 1)).foldl f a = f ((l.take i).foldl f a) (l.getD i d) := by
 rw [gB l i d h, List.foldl_append]; rfl
def rx (l : List Int) (n : Int) : Int := l.foldl (fun m r => if n ≤ r ∧ r < m then r else m) 1114112
def lB (l : List Int) (n m : Int) : Prop := m ∈ l ∧ n ≤ m ∧ ∀ r ∈ l, n ≤ r → m ≤ r
theorem zhg {n : Int} (hn : 0 ≤ n) : ∀ (l : List Int), (nxt l n = -1 ∧ ∀ r ∈ l, r < n) ∨ lB l n (nxt l n) := by
 intro l
 have key : ∀ (l p : List Int) (o : Int), ((o = -1 ∧ ∀ r ∈ p, r < n) ∨ lB p n o) → ((l.foldl (fun o r => if n ≤ r ∧ (o < 0 ∨ r < o) then r else o) o = -1 ∧ ∀ r ∈ p ++ l, r < n) ∨ lB (p ++ l) n (l.foldl (fun o r => if n ≤ r ∧ (o < 0 ∨ r < o) then r else o) o)) := by
  intro l
  induction l with
  | nil => intro p o h; simpa using h
  | cons a l ih =>
   intro p o h
   have e : p ++ a :: l = (p ++ [a]) ++ l := by simp
   rw [e, List.foldl_cons]
   refine ih _ _ ?_
   rcases h with ⟨rfl, h⟩ | ⟨h1, h2, h3⟩
   ·by_cases ha : n ≤ a
    ·rw [if_pos ⟨ha, .inl (by omega)⟩]
     right
     refine ⟨by simp, ha, fun r hr hnr => ?_⟩
     rcases List.mem_append.1 hr with hr | hr
     ·have := h r hr; omega
     ·simp at hr; omega
    ·rw [if_neg (by omega)]
     left
     refine ⟨rfl, fun r hr => ?_⟩
     rcases List.mem_append.1 hr with hr | hr
     ·exact h r hr
     ·simp at hr; omega
   ·right
    by_cases ha : n ≤ a ∧ a < o
    ·rw [if_pos ⟨ha.1, .inr ha.2⟩]
     refine ⟨by simp, ha.1, fun r hr hnr => ?_⟩
     rcases List.mem_append.1 hr with hr | hr
     ·have := h3 r hr hnr; omega
     ·simp at hr; omega
    ·rw [if_neg (by omega)]
     refine ⟨by simp [h1], h2, fun r hr hnr => ?_⟩
     rcases List.mem_append.1 hr with hr | hr
     ·exact h3 r hr hnr
     ·simp at hr; omega
 exact key l [] (-1) (.inl ⟨rfl, by simp⟩)
theorem zka {n : Int} : ∀ (l : List Int), (rx l n = 1114112 ∧ ∀ r ∈ l, n ≤ r → 1114112 ≤ r) ∨ lB l n (rx l n) := by
 intro l
 have key : ∀ (l p : List Int) (o : Int), ((o = 1114112 ∧ ∀ r ∈ p, n ≤ r → 1114112 ≤ r) ∨ lB p n o) → ((l.foldl (fun m r => if n ≤ r ∧ r < m then r else m) o = 1114112 ∧ ∀ r ∈ p ++ l, n ≤ r → 1114112 ≤ r) ∨ lB (p ++ l) n (l.foldl (fun m r => if n ≤ r ∧ r < m then r else m) o)) := by
  intro l
  induction l with
  | nil => intro p o h; simpa using h
  | cons a l ih =>
   intro p o h
   have e : p ++ a :: l = (p ++ [a]) ++ l := by simp
   rw [e, List.foldl_cons]
   refine ih _ _ ?_
   by_cases ha : n ≤ a ∧ a < o
   ·rw [if_pos ha]
    right
    refine ⟨by simp, ha.1, fun r hr hnr => ?_⟩
    rcases List.mem_append.1 hr with hr | hr
    ·rcases h with ⟨rfl, h⟩ | ⟨_, _, h⟩
     ·have := h r hr hnr; omega
     ·have := h r hr hnr; omega
    ·simp at hr; omega
   ·rw [if_neg ha]
    rcases h with ⟨rfl, h⟩ | ⟨h1, h2, h3⟩
    ·left
     refine ⟨rfl, fun r hr hnr => ?_⟩
     rcases List.mem_append.1 hr with hr | hr
     ·exact h r hr hnr
     ·simp at hr; omega
    ·right
     refine ⟨by simp [h1], h2, fun r hr hnr => ?_⟩
     rcases List.mem_append.1 hr with hr | hr
     ·exact h3 r hr hnr
     ·simp at hr; omega
 exact key l [] 1114112 (.inl ⟨rfl, by simp⟩)
theorem zfv {l : List Int} {n a b : Int} (h : lB l n a) (k : lB l n b) : a = b := by
 have h1 := h.2.2 b k.1 k.2.1
 have h2 := k.2.2 a h.1 h.2.1
 omega
theorem WA {l : List Int} {n : Int} (hn : 0 ≤ n) (hl : ∀ r ∈ l, r ≤ 1114111) (hc : l.countP (· < n) < l.length) : lB l n (nxt l n) ∧ rx l n = nxt l n := by
 have hex : ∃ r ∈ l, n ≤ r := by
  by_cases h : ∃ r ∈ l, n ≤ r
  ·exact h
  ·exfalso
   have : l.countP (· < n) = l.length := List.countP_eq_length.2 fun r hr => by
    simp; exact Int.lt_of_not_ge fun hge => h ⟨r, hr, hge⟩
   omega
 obtain ⟨r, hr, hnr⟩ := hex
 have h1 : lB l n (nxt l n) := by
  rcases zhg hn l with ⟨_, h⟩ | h
  ·have := h r hr; omega
  ·exact h
 refine ⟨h1, ?_⟩
 rcases zka (n := n) l with ⟨_, h⟩ | h
 ·have := h r hr hnr; have := hl r hr; omega
 ·exact zfv h h1
theorem sI {n m : Int} : ∀ {l : List Int}, (∀ r ∈ l, n ≤ r → m ≤ r) → n ≤ m → l.countP (· < m + 1) = l.countP (· < n) + l.countP (· == m)
 | [], _, _ => rfl
 | a :: l, h, hnm => by
  have ih := sI (l := l) (fun r hr => h r (List.mem_cons_of_mem _ hr)) hnm
  have ha := h a (by simp)
  simp only [List.countP_cons, ih]
  by_cases h1 : a < n
  ·have h2 : ¬ a = m := by omega
   have h3 : a < m + 1 := by omega
   simp [h1, h2, h3]; omega
  ·by_cases h2 : a = m
   ·subst h2
    have h3 : a < a + 1 := by omega
    simp [h1, h3]; omega
   ·have h3 : ¬ a < m + 1 := by omega
    simp [h1, h2, h3]
structure gC where
 out : List UInt8
 delta : Int
 bias : Int
 h : Int
def iA (m plain : Int) (s : gC) (r : Int) : gC :=
 if r < m then ⟨s.out, s.delta + 1, s.bias, s.h⟩ else if r = m then ⟨s.out ++ wr s.delta s.bias, 0, adapt s.delta (s.h + 1) (s.h == plain), s.h + 1⟩ else s
def pE (l : List Int) (m plain : Int) (s : gC) : gC := l.foldl (iA m plain) s
def enF (l : List Int) (plain : Int) : Nat → Int → gC → List UInt8
 | 0, _, s => s.out
 | f + 1, n, s => if s.h < l.length then enF l plain f (nxt l n + 1) ⟨(pE l (nxt l n) plain ⟨s.out, s.delta + (nxt l n - n) * (s.h + 1), s.bias, s.h⟩).out, (pE l (nxt l n) plain ⟨s.out, s.delta + (nxt l n - n) * (s.h + 1), s.bias, s.h⟩).delta + 1, (pE l (nxt l n) plain ⟨s.out, s.delta + (nxt l n - n) * (s.h + 1), s.bias, s.h⟩).bias, (pE l (nxt l n) plain ⟨s.out, s.delta + (nxt l n - n) * (s.h + 1), s.bias, s.h⟩).h⟩ else s.out
def cH (l : List Int) : List UInt8 := (l.filter (· < 128)).map cR
def iS (l : List Int) : List UInt8 := if 0 < (cH l).length then cH l ++ [45] else cH l
def oM (l : List Int) : List UInt8 := enF l (cH l).length (l.length + 1) 128 ⟨iS l, 0, 72, (cH l).length⟩
def fJ (l : List Int) : List UInt8 := if bW l then oM l else []
theorem XT (l : List Int) (i : Nat) (h : i < l.length) : cH (l.take (i + 1)) = cH (l.take i) ++ (if l.getD i 0 < 128 then [cR (l.getD i 0)] else []) := by
 unfold cH
 rw [gB l i 0 h, List.filter_append, List.map_append]
 congr 1
 generalize l.getD i 0 = a
 by_cases h : a < 128 <;> simp [h]
theorem zP (l : List Int) : (cH l).length = l.countP (· < 128) := by
 simp [cH, List.countP_eq_length_filter]
theorem zO (l : List Int) : (cH l).length ≤ l.length := by rw [zP]; exact List.countP_le_length
structure rX (l : List Int) (n : Int) (s : gC) : Prop where
 n0 : 128 ≤ n
 n1 : n ≤ 1114112
 d0 : 0 ≤ s.delta
 d1 : s.delta ≤ (n - 128) * (l.length + 1)
 b0 : 0 ≤ s.bias
 b1 : s.bias ≤ 756
 hh : s.h = l.countP (· < n)
 len : s.out.length ≤ 1 + l.length + 64 * s.h
structure nA (l : List Int) (m : Int) (s0 : gC) (j : Nat) (s : gC) : Prop where
 eq : s = (l.take j).foldl (iA m (cH l).length) s0
 d0 : 0 ≤ s.delta
 d1 : s.delta ≤ s0.delta + j
 b0 : 0 ≤ s.bias
 b1 : s.bias ≤ 756
 hh : s.h = s0.h + (l.take j).countP (· == m)
 h0 : 0 ≤ s0.h
 hl : s.h ≤ l.length
 len : s.out.length ≤ 1 + l.length + 64 * s.h
theorem rX.first {l : List Int} {n : Int} {s : gC} (h : rX l n s) (hl : ∀ r ∈ l, r ≤ 1114111) (hlen : l.length ≤ 1000) (hs : s.h < l.length) :
  lB l n (nxt l n) ∧ rx l n = nxt l n ∧ nA l (nxt l n) ⟨s.out, s.delta + (nxt l n - n) * (s.h + 1), s.bias, s.h⟩ 0 ⟨s.out, s.delta + (nxt l n - n) * (s.h + 1), s.bias, s.h⟩ ∧
   s.delta + (nxt l n - n) * (s.h + 1) ≤ (nxt l n - 128) * (l.length + 1) ∧ (nxt l n - 128) * (l.length + 1) ≤ 1200000000 ∧ nxt l n ≤ 1114111 ∧ 0 ≤ (nxt l n - n) * (s.h + 1) := by
 have hhh := h.hh
 obtain ⟨h1, h2⟩ := WA (n := n) (by have := h.n0; omega) hl (by omega)
 have hm := hl _ h1.1
 have hnm := h1.2.1
 have hn0 := h.n0
 generalize nxt l n = m at *
 have e1 : (m - n) * (s.h + 1) ≤ (m - n) * (l.length + 1) := Int.mul_le_mul_of_nonneg_left (by omega) (by omega)
 have e2 : (m - 128) * ((l.length : Int) + 1) ≤ 1113983 * (l.length + 1) := Int.mul_le_mul_of_nonneg_right (by omega) (by omega)
 have e3 : 0 ≤ (m - n) * (s.h + 1) := Int.mul_nonneg (by omega) (by omega)
 have e4 : (m - 128) * ((l.length : Int) + 1) = (m - n) * (l.length + 1) + (n - 128) * (l.length + 1) := by rw [← Int.add_mul]; congr 1; omega
 have hd := h.d1
 have hd0 := h.d0
 have := h.len
 refine ⟨h1, h2, ⟨rfl, ?_, ?_, h.b0, h.b1, by simp, ?_, ?_, this⟩, by omega, by omega, hm, e3⟩ <;> dsimp only <;> omega
theorem nA.next {l : List Int} {m : Int} {s0 s : gC} {j : Nat} (h : nA l m s0 j s) (hj : j < l.length) (hd0 : 0 ≤ s0.delta) (hroom : s0.h + l.countP (· == m) ≤ l.length) : nA l m s0 (j + 1) (iA m (cH l).length s (l.getD j 0)) := by
 have hc : (l.take (j + 1)).countP (· == m) = (l.take j).countP (· == m) + (if l.getD j 0 = m then 1 else 0) := by
  rw [gB l j 0 hj, List.countP_append]
  simp [List.countP_cons]
 have hcl : (l.take (j + 1)).countP (· == m) ≤ l.countP (· == m) := (List.take_sublist _ _).countP_le
 have e1 := h.d0
 have e2 := h.d1
 have e3 := h.hh
 have e4 := h.h0
 have e5 := h.hl
 have e6 := h.len
 have e7 := h.b0
 have e8 := h.b1
 refine ⟨by rw [v6 _ _ l j 0 hj, ← h.eq], ?_, ?_, ?_, ?_, ?_, h.h0, ?_, ?_⟩
 all_goals
  unfold iA
  split
  ·rename_i hlt
   rw [if_neg (by omega)] at hc
   dsimp only
   omega
  ·split
   ·rename_i hne heq
    rw [if_pos heq] at hc
    have ha := sA (d := s.delta) (c := s.h + 1) (first := s.h == ((cH l).length : Int)) e1 (by omega)
    have hw := FX s.delta s.bias
    dsimp only
    first | (simp only [List.length_append]; omega) | omega
   ·rename_i hne heq
    rw [if_neg heq] at hc
    omega
theorem nA.last {l : List Int} {n : Int} {s0 s : gC} {m : Int} (h : nA l m s0 l.length s) (hm : lB l n m) (hn : 128 ≤ n) (hm1 : m ≤ 1114111) (hs : s0.h = l.countP (· < n)) (hd : s0.delta ≤ (m - 128) * (l.length + 1)) :
  rX l (m + 1) ⟨s.out, s.delta + 1, s.bias, s.h⟩ ∧ s0.h < s.h := by
 have e3 := h.hh
 rw [List.take_length] at e3
 have hc := sI (l := l) (n := n) (m := m) hm.2.2 hm.2.1
 have hpos : 0 < l.countP (· == m) := List.countP_pos_iff.2 ⟨m, hm.1, by simp⟩
 have e4 : (m + 1 - 128) * ((l.length : Int) + 1) = (m - 128) * (l.length + 1) + (l.length + 1) := by
  rw [show m + 1 - 128 = (m - 128) + 1 by omega, Int.add_mul, Int.one_mul]
 have e1 := h.d0
 have e2 := h.d1
 have hnm := hm.2.1
 refine ⟨⟨by omega, by omega, by dsimp only; omega, by dsimp only; omega, h.b0, h.b1, by dsimp only; omega, h.len⟩, by omega⟩
def kW (b : Int) : List UInt8 → Int → Int → Int → Option (Int × List UInt8)
 | [], _, _, _ => none
 | c :: t, k, n, w =>
  if o6 c.toNat = true ∧ w ≤ 2147483647 ∧ n + vl c.toNat * w ≤ 2147483647 then
   (if vl c.toNat < thr k b then some (n + vl c.toNat * w, t) else kW b t (k + 36) (n + vl c.toNat * w) (w * (36 - thr k b)))
  else none
def rd (s : List UInt8) (b : Int) : Option (Int × List UInt8) := kW b s 36 0 1
theorem ZG {b k n w : Int} {s : List UInt8} (hs : 0 < s.length) (h : ¬ (o6 (s.getD 0 0).toNat = true ∧ w ≤ 2147483647 ∧ n + vl (s.getD 0 0).toNat * w ≤ 2147483647)) : kW b s k n w = none := by
 cases s with
 | nil => simp at hs
 | cons c t => simp only [List.getD_cons_zero] at h; rw [kW, if_neg h]
theorem ZH {b k n w : Int} {s : List UInt8} (hs : 0 < s.length) (h : o6 (s.getD 0 0).toNat = true ∧ w ≤ 2147483647 ∧ n + vl (s.getD 0 0).toNat * w ≤ 2147483647) (hd : vl (s.getD 0 0).toNat < thr k b) : kW b s k n w = some (n + vl (s.getD 0 0).toNat * w, s.drop 1) := by
 cases s with
 | nil => simp at hs
 | cons c t => simp only [List.getD_cons_zero] at h hd ⊢; rw [kW, if_pos h, if_pos hd]; rfl
theorem ZI {b k n w : Int} {s : List UInt8} (hs : 0 < s.length) (h : o6 (s.getD 0 0).toNat = true ∧ w ≤ 2147483647 ∧ n + vl (s.getD 0 0).toNat * w ≤ 2147483647) (hd : ¬ vl (s.getD 0 0).toNat < thr k b) : kW b s k n w = kW b (s.drop 1) (k + 36) (n + vl (s.getD 0 0).toNat * w) (w * (36 - thr k b)) := by
 cases s with
 | nil => simp at hs
 | cons c t => simp only [List.getD_cons_zero] at h hd ⊢; rw [kW, if_pos h, if_neg hd]; rfl
theorem FV (c : Int) : 0 ≤ vl c ∧ vl c ≤ 35 := by
 unfold vl
 repeat' split
 all_goals omega
theorem ZJ {b : Int} : ∀ {s : List UInt8} {k n w d : Int} {r : List UInt8}, 0 ≤ n → 1 ≤ w → kW b s k n w = some (d, r) → 0 ≤ d ∧ d ≤ 2147483647 ∧ ∃ p, s = p ++ r ∧ 0 < p.length
 | [], k, n, w, d, r, _, _, h => by cases h
 | c :: t, k, n, w, d, r, hn, hw, h => by
  rw [kW] at h
  have hv := FV c.toNat
  have hvw : 0 ≤ vl c.toNat * w := Int.mul_nonneg hv.1 (by omega)
  split at h
  ·rename_i h1
   split at h
   ·simp at h
    obtain ⟨rfl, rfl⟩ := h
    exact ⟨by omega, h1.2.2, [c], rfl, by simp⟩
   ·obtain ⟨h2, h3, p, h4, _⟩ := ZJ (k := k + 36) (w := w * (36 - thr k b)) (by omega) (by
     have : 1 ≤ thr k b ∧ thr k b ≤ 26 := by unfold thr; omega
     have := Int.mul_le_mul (a := 1) (b := 1) (c := w) (d := 36 - thr k b) hw (by omega) (by omega) (by omega)
     omega) h
    exact ⟨h2, h3, c :: p, by rw [h4]; rfl, by simp⟩
  ·cases h
theorem wF {s : List UInt8} {b d : Int} {r : List UInt8} (h : rd s b = some (d, r)) : 0 ≤ d ∧ d ≤ 2147483647 ∧ ∃ p, s = p ++ r ∧ 0 < p.length := ZJ (Int.le_refl 0) (Int.le_refl 1) h
theorem wE {s : List UInt8} {b d : Int} {r : List UInt8} (h : rd s b = some (d, r)) : r.length < s.length := by
 obtain ⟨_, _, p, h1, h2⟩ := wF h
 rw [h1, List.length_append]; omega
def fM (L : List Int) (i : Nat) (x : Int) : List Int := L.take i ++ x :: L.drop i
structure fP where
 s : List UInt8
 n : Int
 i : Int
 bias : Int
 first : Bool
 out : List Int
def gG : Nat → fP → Option (List Int)
 | 0, _ => none
 | f + 1, x => if x.s = [] then some x.out else
  match rd x.s x.bias with
  | none => none
  | some (d, r) =>
   if 2147483647 < x.i + d then none else
   if 1114111 < x.n + (x.i + d) / (x.out.length + 1) ∨ right (x.n + (x.i + d) / (x.out.length + 1)) = false then none else
   gG f ⟨r, x.n + (x.i + d) / (x.out.length + 1), (x.i + d) % (x.out.length + 1) + 1, adapt d (x.out.length + 1) x.first, false,
    fM x.out ((x.i + d) % (x.out.length + 1)).toNat (x.n + (x.i + d) / (x.out.length + 1))⟩
def kG (s : List UInt8) : Nat → Int
 | 0 => -1
 | k + 1 => if s.getD k 0 = 45 then (k : Int) else kG s k
def iK (s : List UInt8) : Int := kG s s.length
theorem yR (s : List UInt8) : ∀ k, -1 ≤ kG s k ∧ kG s k < k
 | 0 => by simp [kG]
 | k + 1 => by
  unfold kG
  have := yR s k
  split <;> omega
def fX (s : List UInt8) : fP := if 0 < iK s then ⟨s.drop ((iK s).toNat + 1), 128, 0, 72, true, (s.take (iK s).toNat).map fun c => (c.toNat : Int)⟩ else ⟨s, 128, 0, 72, true, []⟩
def j5 (s : List UInt8) : Option (List Int) := if 0 ≤ eight s then none else gG (s.length + 1) (fX s)
theorem xT {f : Nat} {s : List UInt8} {n i bias : Int} {first : Bool} {out : List Int} (h : s ≠ []) : gG (f + 1) ⟨s, n, i, bias, first, out⟩ =
  match rd s bias with
  | none => none
  | some (d, r) =>
   if 2147483647 < i + d then none else
   if 1114111 < n + (i + d) / (out.length + 1) ∨ right (n + (i + d) / (out.length + 1)) = false then none else
   gG f ⟨r, n + (i + d) / (out.length + 1), (i + d) % (out.length + 1) + 1, adapt d (out.length + 1) first, false,
    fM out ((i + d) % (out.length + 1)).toNat (n + (i + d) / (out.length + 1))⟩ := by
 rw [gG, if_neg h]
theorem Q3 : ∀ (s : List UInt8) (k : Nat), ¬ 0 ≤ nG k s → ∀ c ∈ s, c.toNat < 128
 | [], k, _, c, hc => by cases hc
 | b :: l, k, h, c, hc => by
  rw [nG] at h
  split at h
  ·omega
  ·rcases List.mem_cons.1 hc with rfl | hc
   ·omega
   ·exact Q3 l (k + 1) h c hc
theorem Q6 {s : List UInt8} (h : ¬ 0 ≤ eight s) : ∀ c ∈ s, c.toNat < 128 := Q3 s 0 h
structure uC (s : List UInt8) (f : Nat) (x : fP) : Prop where
 fuel : x.s.length < f
 n0 : 128 ≤ x.n
 n1 : x.n ≤ 1114111
 i0 : 0 ≤ x.i
 i1 : x.i ≤ x.out.length
 b0 : 0 ≤ x.bias
 b1 : x.bias ≤ 756
 len : x.out.length + x.s.length ≤ s.length
theorem xS (s : List UInt8) : uC s (s.length + 1) (fX s) := by
 have hl := yR s s.length
 have hl' : iK s = kG s s.length := rfl
 unfold fX
 split
 ·constructor <;> simp <;> omega
 ·constructor <;> simp
theorem zk7 : ∀ (l : List UInt8), (∀ c ∈ l, c.toNat < 128) → kY l = l.map fun c => Value.int .i32 (c.toNat : Int) := by
 intro l hl
 have key : ∀ (n i : Nat) (acc : Array Value), l.length ≤ n + i → i ≤ l.length → (Conv.runesFrom ⟨l.toArray⟩ n i acc).toList = acc.toList ++ (l.drop i).map fun c => Value.int .i32 (c.toNat : Int) := by
  intro n
  induction n with
  | zero =>
   intro i acc h1 h2
   have : i = l.length := by omega
   subst this
   simp [Conv.runesFrom]
  | succ n ih =>
   intro i acc h1 h2
   unfold Conv.runesFrom
   have hsz : (⟨l.toArray⟩ : ByteArray).size = l.length := by simp [ByteArray.size]
   by_cases hi : i < l.length
   ·rw [if_pos (by rw [hsz]; exact hi)]
    have hget : (⟨l.toArray⟩ : ByteArray)[i]'(by rw [hsz]; exact hi) = l[i] := by simp [ByteArray.getElem_eq_getElem_data]
    have hd := decode_ascii ⟨l.toArray⟩ i (by rw [hsz]; exact hi) (by rw [hget]; exact hl _ (List.getElem_mem _))
    rw [hget] at hd
    rw [hd]
    dsimp only
    rw [ih (i + 1) _ (by omega) (by omega)]
    rw [List.drop_eq_getElem_cons hi]
    simp only [Array.toList_push, List.map_cons, List.append_assoc, List.cons_append, List.nil_append]
    rfl
   ·rw [if_neg (by rw [hsz]; exact hi)]
    rw [List.drop_of_length_le (by omega)]
    simp
 have := key l.length 0 #[] (by omega) (by omega)
 unfold kY
 simpa using this
theorem z93 : ∀ (m f : Nat) (d k : Int), m < f → d < 35 ^ m * 456 → 0 ≤ d → fR f d k ≤ k + 36 * m + 35 := by
 intro m
 induction m with
 | zero =>
  intro f d k hf hd h0
  obtain ⟨f, rfl⟩ : ∃ g, f = g + 1 := ⟨f - 1, by omega⟩
  rw [fR, if_neg (by simp at hd; omega)]
  have : 36 * d / (d + 38) < 36 := Int.ediv_lt_of_lt_mul (by omega) (by omega)
  omega
 | succ m ih =>
  intro f d k hf hd h0
  obtain ⟨f, rfl⟩ : ∃ g, f = g + 1 := ⟨f - 1, by omega⟩
  rw [fR]
  split
  ·have hp : (35 : Int) ^ (m + 1) = 35 ^ m * 35 := Int.pow_succ 35 m
   rw [hp] at hd
   have := ih f (d / 35) (k + 36) (by omega) (by generalize (35 : Int) ^ m = x at *; omega) (by omega)
   omega
  ·have : 36 * d / (d + 38) < 36 := Int.ediv_lt_of_lt_mul (by omega) (by omega)
   omega
theorem z94 {d c : Int} {first : Bool} (h0 : 0 ≤ d) (h1 : d ≤ 2147483647) (hc : 1 ≤ c) : 0 ≤ adapt d c first ∧ adapt d c first ≤ 226 := by
 have hd : 0 ≤ qL d c first ∧ qL d c first ≤ d := by
  unfold qL
  split
  ·have := lH (x := d / 700) (c := c) (by omega) hc; omega
  ·have := lH (x := d / 2) (c := c) (by omega) hc; omega
 have h2 := z93 5 20 (qL d c first) 0 (by decide) (by omega) hd.1
 have h3 := sA (d := d) (c := c) (first := first) h0 hc
 unfold adapt at h3 ⊢
 omega
def lN (x : fP) (e : Int × Nat) : Int := (e.1 - x.n) * (x.out.length + 1) + e.2 - x.i
def dH (x : fP) (e : Int × Nat) : fP := ⟨x.s ++ wr (lN x e) x.bias, e.1, e.2 + 1, adapt (lN x e) (x.out.length + 1) x.first, false, fM x.out e.2 e.1⟩
structure rY (x : fP) (e : Int × Nat) : Prop where
 up : x.n < e.1 ∨ (x.n = e.1 ∧ x.i ≤ e.2)
 pl : e.2 ≤ x.out.length
 le : e.1 ≤ 1114111
 rt : right e.1 = true
def jX : fP → List (Int × Nat) → Prop
 | _, [] => True
 | x, e :: E => rY x e ∧ jX (dH x e) E
structure SI (x : fP) : Prop where
 n0 : 128 ≤ x.n
 i0 : 0 ≤ x.i
 i1 : x.i ≤ x.out.length
 b1 : x.bias ≤ 226
theorem CT {L : List Int} {i : Nat} {x : Int} (h : i ≤ L.length) : (fM L i x).length = L.length + 1 := by simp [fM]; omega
theorem zc2 {x : fP} {e : Int × Nat} (h : SI x) (k : rY x e) (hl : x.out.length ≤ 1000) : 0 ≤ lN x e ∧ x.i + lN x e = (e.1 - x.n) * (x.out.length + 1) + e.2 ∧ x.i + lN x e ≤ 2147483647 := by
 have h1 := h.n0
 have h2 := h.i0
 have h3 := h.i1
 have k1 := k.up
 have k2 := k.pl
 have k3 := k.le
 have hm : (e.1 - x.n) * ((x.out.length : Int) + 1) ≤ 1113983 * ((x.out.length : Int) + 1) := Int.mul_le_mul_of_nonneg_right (by omega) (by omega)
 have hlow : x.n < e.1 → (x.out.length : Int) + 1 ≤ (e.1 - x.n) * ((x.out.length : Int) + 1) := fun h => by
  have := Int.mul_le_mul_of_nonneg_right (show (1 : Int) ≤ e.1 - x.n by omega) (show (0 : Int) ≤ (x.out.length : Int) + 1 by omega)
  omega
 have hzero : x.n = e.1 → (e.1 - x.n) * ((x.out.length : Int) + 1) = 0 := fun h => by rw [h]; simp
 unfold lN
 rcases k1 with k1 | ⟨k1, k4⟩
 ·have := hlow k1; omega
 ·have := hzero k1; omega
theorem SI.step {x : fP} {e : Int × Nat} (h : SI x) (k : rY x e) (hl : x.out.length ≤ 1000) : SI (dH x e) := by
 obtain ⟨h1, h2, h3⟩ := zc2 h k hl
 have h4 := h.n0
 have h5 := h.i0
 have h6 := k.up
 have h7 := k.pl
 have ha := z94 (d := lN x e) (c := x.out.length + 1) (first := x.first) h1 (by omega) (by omega)
 have hi := CT (L := x.out) (x := e.1) h7
 refine ⟨?_, ?_, ?_, ha.2⟩ <;> dsimp only [dH] <;> omega
def evB : fP → List (Int × Nat) → List UInt8
 | _, [] => []
 | x, e :: E => wr (lN x e) x.bias ++ evB (dH x e) E
theorem QU : ∀ (E : List (Int × Nat)) (x : fP), jX x E → (E.foldl dH x).out.length = x.out.length + E.length
 | [], x, _ => by simp
 | e :: E, x, h => by
  rw [List.foldl_cons, QU E _ h.2]
  have : (dH x e).out.length = x.out.length + 1 := CT h.1.pl
  rw [this, List.length_cons]; omega
structure qJ (x : fP) : Prop where
 all : ∀ r ∈ x.out, r ≤ x.n
 beh : ∀ r ∈ x.out.drop x.i.toNat, r < x.n
theorem qJ.step {x : fP} {e : Int × Nat} (h : qJ x) (k : rY x e) : qJ (dH x e) ∧ (dH x e).out = x.out.take e.2 ++ e.1 :: x.out.drop e.2 ∧ (∀ r ∈ x.out.take e.2, r ≤ e.1) ∧ ∀ r ∈ x.out.drop e.2, r < e.1 := by
 have hb : ∀ r ∈ x.out.drop e.2, r < e.1 := fun r hr => by
  rcases k.up with h1 | ⟨h1, h2⟩
  ·have := h.all r (List.mem_of_mem_drop hr); omega
  ·have : r ∈ x.out.drop x.i.toNat := by
    have e1 : x.out.drop e.2 = (x.out.drop x.i.toNat).drop (e.2 - x.i.toNat) := by rw [List.drop_drop]; congr 1; omega
    rw [e1] at hr
    exact List.mem_of_mem_drop hr
   have := h.beh r this; omega
 have ha : ∀ r ∈ x.out.take e.2, r ≤ e.1 := fun r hr => by
  have := h.all r (List.mem_of_mem_take hr)
  rcases k.up with h1 | ⟨h1, _⟩ <;> omega
 refine ⟨⟨fun r hr => ?_, fun r hr => ?_⟩, rfl, ha, hb⟩
 ·have hr : r ∈ x.out.take e.2 ++ e.1 :: x.out.drop e.2 := hr
  rcases List.mem_append.1 hr with hr | hr
  ·exact ha r hr
  ·rcases List.mem_cons.1 hr with rfl | hr
   ·exact Int.le_refl _
   ·exact Int.le_of_lt (hb r hr)
 ·have hpl := k.pl
  have hr : r ∈ (x.out.take e.2 ++ e.1 :: x.out.drop e.2).drop ((e.2 : Int) + 1).toNat := hr
  have e1 : (x.out.take e.2 ++ e.1 :: x.out.drop e.2).drop ((e.2 : Int) + 1).toNat = x.out.drop e.2 := by
   rw [show ((e.2 : Int) + 1).toNat = (x.out.take e.2).length + 1 by simp; omega, List.drop_append]
   simp
  rw [e1] at hr
  exact hb r hr
theorem jX.snoc : ∀ {E : List (Int × Nat)} {x : fP} {e : Int × Nat}, jX x (E ++ [e]) ↔ jX x E ∧ rY (E.foldl dH x) e
 | [], x, e => by simp [jX]
 | f :: E, x, e => by simp only [List.cons_append, jX, List.foldl_cons, jX.snoc, and_assoc]
theorem qJ.run : ∀ {E : List (Int × Nat)} {x : fP}, qJ x → jX x E → qJ (E.foldl dH x)
 | [], x, h, _ => h
 | e :: E, x, h, k => qJ.run (E := E) (x := dH x e) (h.step k.1).1 k.2
def DO (l : List Int) : List Int := l.filter (· < 128)
def x0 (l : List Int) : fP := ⟨iS l, 128, 0, 72, true, DO l⟩
def stage (l : List Int) (m : Int) (j : Nat) : List Int := (l.take j).filter (· ≤ m) ++ (l.drop j).filter (· < m)
def fS (l : List Int) (m : Int) (j : Nat) : Nat := ((l.take j).filter (· ≤ m)).length
theorem zc3 (x : fP) (e : Int × Nat) : dH x e = ⟨x.s ++ wr (lN x e) x.bias, e.1, e.2 + 1, adapt (lN x e) (x.out.length + 1) x.first, false, fM x.out e.2 e.1⟩ := rfl
structure oZ (l : List Int) (m : Int) (j : Nat) (s : gC) (E : List (Int × Nat)) : Prop where
 ev : jX (x0 l) E
 out : (E.foldl dH (x0 l)).s = s.out
 st : (E.foldl dH (x0 l)).out = stage l m j
 bias : (E.foldl dH (x0 l)).bias = s.bias
 h : s.h = (stage l m j).length
 first : (E.foldl dH (x0 l)).first = (s.h == ((cH l).length : Int))
 rel : (E.foldl dH (x0 l)).i + s.delta = (m - (E.foldl dH (x0 l)).n) * (s.h + 1) + fS l m j
 nle : (E.foldl dH (x0 l)).n ≤ m
 d0 : 0 ≤ s.delta
theorem oZ.next {l : List Int} {m : Int} {j : Nat} {s : gC} {E : List (Int × Nat)} (h : oZ l m j s E) (hj : j < l.length) (hm : m ≤ 1114111) (hr : l.getD j 0 = m → right m = true) :
  ∃ E', oZ l m (j + 1) (iA m (cH l).length s (l.getD j 0)) E' := by
 have ht := gB l j 0 hj
 have hd : l.drop j = l.getD j 0 :: l.drop (j + 1) := by rw [List.drop_eq_getElem_cons hj]; simp [List.getD, hj]
 generalize l.getD j 0 = r at *
 have e1 := h.h
 have e2 := h.rel
 have e3 := h.nle
 have e4 := h.d0
 unfold iA
 by_cases h1 : r < m
 ·rw [if_pos h1]
  have hs : stage l m (j + 1) = stage l m j := by
   unfold stage
   rw [ht, hd, List.filter_append]
   have a1 : r ≤ m := by omega
   simp [h1, a1]
  have hc : fS l m (j + 1) = fS l m j + 1 := by
   unfold fS
   rw [ht, List.filter_append]
   have a1 : r ≤ m := by omega
   simp [a1]
  exact ⟨E, h.ev, h.out, by rw [hs]; exact h.st, h.bias, by rw [hs]; exact e1, h.first, by rw [hc]; dsimp only; omega, e3, by dsimp only; omega⟩
 ·rw [if_neg h1]
  by_cases h2 : r = m
  ·rw [if_pos h2]
   subst h2
   have hA : (stage l r j).length = ((l.take j).filter (· ≤ r)).length + ((l.drop j).filter (· < r)).length := by simp [stage]
   have hdd : (l.drop j).filter (· < r) = (l.drop (j + 1)).filter (· < r) := by rw [hd]; simp
   have hs : fM (stage l r j) (fS l r j) r = stage l r (j + 1) := by
    unfold fM stage fS
    rw [List.take_left, List.drop_left, ht, List.filter_append, hdd]
    simp
   have hc : fS l r (j + 1) = fS l r j + 1 := by
    unfold fS
    rw [ht, List.filter_append]
    simp
   have hcl : fS l r j ≤ (stage l r j).length := by unfold fS stage; simp
   have hst := h.st
   have hok : rY (E.foldl dH (x0 l)) (r, fS l r j) := ⟨by
    rcases Int.lt_or_eq_of_le e3 with hlt | heq
    ·exact .inl hlt
    ·right
     rw [heq, Int.sub_self, Int.zero_mul] at e2
     exact ⟨heq, by dsimp only; omega⟩, by rw [hst]; exact hcl, hm, hr rfl⟩
   have hlen := QU E (x0 l) h.ev
   rw [hst] at hlen
   have hpl : (x0 l).out.length = (cH l).length := by simp [x0, DO, cH]
   have hD : lN (E.foldl dH (x0 l)) (r, fS l r j) = s.delta := by
    unfold lN
    dsimp only
    rw [hst, ← e1]
    omega
   have hstep : (E ++ [(r, fS l r j)]).foldl dH (x0 l) = ⟨s.out ++ wr s.delta s.bias, r, fS l r j + 1, adapt s.delta (s.h + 1) (s.h == ((cH l).length : Int)), false, stage l r (j + 1)⟩ := by
    rw [List.foldl_append]
    show dH (E.foldl dH (x0 l)) (r, fS l r j) = _
    rw [zc3, hD, h.out, h.bias, hst, h.first, ← e1]
    dsimp only
    rw [hs]
   refine ⟨E ++ [(r, fS l r j)], jX.snoc.2 ⟨h.ev, hok⟩, by rw [hstep], by rw [hstep], by rw [hstep], ?_, ?_, ?_, by rw [hstep]; exact Int.le_refl _, Int.le_refl 0⟩
   ·rw [← hs, CT hcl]
    dsimp only; omega
   ·rw [hstep]
    dsimp only
    symm
    simp
    omega
   ·rw [hstep, hc]
    dsimp only
    simp
  ·rw [if_neg h2]
   have hs : stage l m (j + 1) = stage l m j := by
    unfold stage
    rw [ht, hd, List.filter_append]
    have a1 : ¬ r ≤ m := by omega
    simp [h1, a1]
   have hc : fS l m (j + 1) = fS l m j := by
    unfold fS
    rw [ht, List.filter_append]
    have a1 : ¬ r ≤ m := by omega
    simp [a1]
   exact ⟨E, h.ev, h.out, by rw [hs]; exact h.st, h.bias, by rw [hs]; exact e1, h.first, by rw [hc]; exact e2, e3, e4⟩
theorem oZ.pass {l : List Int} {m : Int} {s : gC} {E : List (Int × Nat)} (h : oZ l m 0 s E) (hm : m ≤ 1114111) (hr : ∀ r ∈ l, right r = true) : ∃ E', oZ l m l.length (pE l m (cH l).length s) E' := by
 have key : ∀ j, j ≤ l.length → ∃ E', oZ l m j ((l.take j).foldl (iA m (cH l).length) s) E' := by
  intro j
  induction j with
  | zero => intro _; exact ⟨E, h⟩
  | succ j ih =>
   intro hj
   obtain ⟨E', h'⟩ := ih (by omega)
   have hmem : l.getD j 0 ∈ l := by simp [List.getD, show j < l.length by omega]
   rw [v6 _ _ l j 0 (by omega)]
   exact h'.next (by omega) hm (fun e => by rw [← e]; exact hr _ hmem)
 have := key l.length (Nat.le_refl _)
 rw [List.take_length] at this
 exact this
structure BA (l : List Int) (n : Int) (s : gC) (E : List (Int × Nat)) : Prop where
 ev : jX (x0 l) E
 out : (E.foldl dH (x0 l)).s = s.out
 st : (E.foldl dH (x0 l)).out = l.filter (· < n)
 bias : (E.foldl dH (x0 l)).bias = s.bias
 h : s.h = (l.filter (· < n)).length
 first : (E.foldl dH (x0 l)).first = (s.h == ((cH l).length : Int))
 rel : (E.foldl dH (x0 l)).i + s.delta = (n - (E.foldl dH (x0 l)).n) * (s.h + 1)
 nle : (E.foldl dH (x0 l)).n ≤ n
 d0 : 0 ≤ s.delta
 n0 : 128 ≤ n
theorem BA.enF {l : List Int} (hl : ∀ r ∈ l, right r = true) : ∀ (f : Nat) (n : Int) (s : gC) (E : List (Int × Nat)), BA l n s E → (l.length : Int) < f + s.h →
  ∃ E', jX (x0 l) E' ∧ (E'.foldl dH (x0 l)).s = AE.enF l (cH l).length f n s ∧ (E'.foldl dH (x0 l)).out = l
 | 0, n, s, E, h, hf => by
  have := h.h
  have := List.length_filter_le (fun x : Int => decide (x < n)) l
  omega
 | f + 1, n, s, E, h, hf => by
  rw [AE.enF]
  have e1 := h.h
  have hc : (l.filter (· < n)).length = l.countP (· < n) := (List.countP_eq_length_filter).symm
  by_cases hlt : s.h < l.length
  ·rw [if_pos hlt]
   have hb : ∀ r ∈ l, r ≤ 1114111 := fun r hr => ((lU r).1 (hl r hr)).2.1
   obtain ⟨h1, _⟩ := WA (l := l) (n := n) (by have := h.n0; omega) hb (by omega)
   have hm := hb _ h1.1
   have hnm := h1.2.1
   have hfil : l.filter (· < nxt l n) = l.filter (· < n) := List.filter_congr fun r hr => by
    by_cases hrn : r < n
    ·have : r < nxt l n := by omega
     simp [hrn, this]
    ·have := h1.2.2 r hr (by omega)
     have : ¬ r < nxt l n := by omega
     simp [hrn, this]
   have hcount := sI (l := l) (n := n) (m := nxt l n) h1.2.2 hnm
   have hpos : 0 < l.countP (· == nxt l n) := List.countP_pos_iff.2 ⟨nxt l n, h1.1, by simp⟩
   generalize nxt l n = m at *
   have hn0 := h.n0
   have hh0 : 0 ≤ s.h := by omega
   have hprod : 0 ≤ (m - n) * (s.h + 1) := Int.mul_nonneg (by omega) (by omega)
   have hst0 : stage l m 0 = l.filter (· < n) := by unfold stage; simp [hfil]
   have hadd : (m - (E.foldl dH (x0 l)).n) * (s.h + 1) = (n - (E.foldl dH (x0 l)).n) * (s.h + 1) + (m - n) * (s.h + 1) := by rw [← Int.add_mul]; congr 1; omega
   have hrel := h.rel
   have hnle := h.nle
   have hd0 := h.d0
   have hsim : oZ l m 0 ⟨s.out, s.delta + (m - n) * (s.h + 1), s.bias, s.h⟩ E :=
    ⟨h.ev, h.out, by rw [hst0]; exact h.st, h.bias, by rw [hst0]; exact e1, h.first, by
     have : fS l m 0 = 0 := by simp [fS]
     rw [this]
     dsimp only
     omega, by omega, by dsimp only; omega⟩
   obtain ⟨E', h'⟩ := hsim.pass hm hl
   have hstl : stage l m l.length = l.filter (· < m + 1) := by
    unfold stage
    simp only [List.take_length, List.drop_length, List.filter_nil, List.append_nil]
    exact List.filter_congr fun r _ => by simp; omega
   have hcl : fS l m l.length = (l.filter (· < m + 1)).length := by rw [← hstl]; simp [fS, stage]
   generalize pE l m (cH l).length ⟨s.out, s.delta + (m - n) * (s.h + 1), s.bias, s.h⟩ = s' at *
   have hrel' := h'.rel
   rw [hcl] at hrel'
   have hh' := h'.h
   rw [hstl] at hh'
   have hc' : (l.filter (· < m + 1)).length = l.countP (· < m + 1) := (List.countP_eq_length_filter).symm
   have hmul : (m + 1 - (E'.foldl dH (x0 l)).n) * (s'.h + 1) = (m - (E'.foldl dH (x0 l)).n) * (s'.h + 1) + (s'.h + 1) := by
    rw [show m + 1 - (E'.foldl dH (x0 l)).n = (m - (E'.foldl dH (x0 l)).n) + 1 by omega, Int.add_mul, Int.one_mul]
   have hnle' := h'.nle
   have hd0' := h'.d0
   refine BA.enF hl f (m + 1) ⟨s'.out, s'.delta + 1, s'.bias, s'.h⟩ E' ⟨h'.ev, h'.out, by rw [← hstl]; exact h'.st, h'.bias, hh', h'.first, ?_, by omega, by dsimp only; omega, by omega⟩ ?_
   ·dsimp only; omega
   ·dsimp only; omega
  ·rw [if_neg hlt]
   refine ⟨E, h.ev, h.out, ?_⟩
   rw [h.st]
   have hle := List.length_filter_le (fun x : Int => decide (x < n)) l
   exact List.filter_eq_self.2 fun r hr => by
    have : l.countP (· < n) = l.length := by omega
    exact List.countP_eq_length.1 this r hr
structure Enc (l : List Int) (E : List (Int × Nat)) : Prop where
 ev : jX (x0 l) E
 out : (E.foldl dH (x0 l)).out = l
 enc : oM l = iS l ++ evB (x0 l) E
 dig : ∀ c ∈ evB (x0 l) E, ∃ v : Int, 0 ≤ v ∧ v < 36 ∧ c = dgb v
 len : (DO l).length + E.length = l.length
theorem DD {l : List Int} : bW l = true ↔ ∀ r ∈ l, right r = true := by unfold bW; rw [List.all_eq_true]
theorem zeu {L : List Int} {i : Nat} {x : Int} (hL : bW L = true) (hx : right x = true) : bW (fM L i x) = true := by
 rw [DD] at hL ⊢
 intro r hr
 unfold fM at hr
 rcases List.mem_append.1 hr with hr | hr
 ·exact hL r (List.mem_of_mem_take hr)
 ·rcases List.mem_cons.1 hr with rfl | hr
  ·exact hx
  ·exact hL r (List.mem_of_mem_drop hr)
theorem PE : ∀ (f : Nat) (x : fP) (m : List Int), bW x.out = true → gG f x = some m → bW m = true ∧ m.length ≤ x.out.length + x.s.length
 | 0, x, m, _, h => by simp [gG] at h
 | f + 1, x, m, ho, h => by
  rw [gG] at h
  split at h
  ·simp only [Option.some.injEq] at h; subst h; exact ⟨ho, by omega⟩
  ·split at h
   ·cases h
   ·rename_i d r hrd
    split at h
    ·cases h
    ·split at h
     ·cases h
     ·rename_i hn
      have hr := wE hrd
      have hx : right (x.n + (x.i + d) / (x.out.length + 1)) = true := by
       cases hq : right (x.n + (x.i + d) / (x.out.length + 1)) with
       | true => rfl
       | false => exact absurd (Or.inr hq) hn
      obtain ⟨q1, q2⟩ := PE f _ m (zeu ho hx) h
      refine ⟨q1, ?_⟩
      dsimp only at q2
      have hl : (fM x.out ((x.i + d) % (x.out.length + 1)).toNat (x.n + (x.i + d) / (x.out.length + 1))).length = x.out.length + 1 := by
       unfold fM
       rw [List.length_append, List.length_cons, List.length_take, List.length_drop]
       omega
      omega
theorem BP {s : List UInt8} {m : List Int} (h : j5 s = some m) : bW m = true ∧ m.length ≤ s.length := by
 unfold j5 at h
 split at h
 ·cases h
 ·rename_i h8
  have ha := Q6 h8
  have key : bW (fX s).out = true ∧ (fX s).out.length + (fX s).s.length ≤ s.length := by
   have hi := (xS s).len
   refine ⟨?_, hi⟩
   unfold fX
   split
   ·rw [DD]
    intro r hr
    obtain ⟨c, hc, rfl⟩ := List.mem_map.1 hr
    have := ha c (List.mem_of_mem_take hc)
    rw [lU]; omega
   ·rfl
  obtain ⟨q1, q2⟩ := PE _ _ m key.1 h
  exact ⟨q1, by omega⟩
theorem Q8 {l : List Int} {m : Int} {s0 : gC} (h0 : nA l m s0 0 s0) (hd0 : 0 ≤ s0.delta) (hroom : s0.h + l.countP (· == m) ≤ l.length) : ∀ j, j ≤ l.length → ∃ s, nA l m s0 j s
 | 0, _ => ⟨s0, h0⟩
 | j + 1, hj => by
  obtain ⟨s, h⟩ := Q8 h0 hd0 hroom j (by omega)
  exact ⟨_, h.next (by omega) hd0 hroom⟩
theorem Q7 {l : List Int} (hl : l.length ≤ 1000) (hr : ∀ r ∈ l, r ≤ 1114111) : ∀ (f : Nat) (n : Int) (s : gC), rX l n s → (enF l (cH l).length f n s).length ≤ 1 + 65 * l.length
 | 0, n, s, h => by
  have h1 := h.len
  have h2 := h.hh
  have h3 : l.countP (· < n) ≤ l.length := List.countP_le_length
  show s.out.length ≤ _
  omega
 | f + 1, n, s, h => by
  rw [enF]
  have h2 := h.hh
  have h3 : l.countP (· < n) ≤ l.length := List.countP_le_length
  split
  ·rename_i hlt
   obtain ⟨q1, q2, q3, q4, q5, q6, q7⟩ := h.first hr hl hlt
   have hroom : s.h + l.countP (· == nxt l n) ≤ l.length := by
    have := sI (l := l) (n := n) (m := nxt l n) q1.2.2 q1.2.1
    have := List.countP_le_length (p := fun x : Int => decide (x < nxt l n + 1)) (l := l)
    omega
   obtain ⟨s', hs'⟩ := Q8 q3 (by have := q3.d0; exact this) hroom l.length (Nat.le_refl _)
   obtain ⟨hL, _⟩ := hs'.last q1 h.n0 q6 h.hh q4
   have he := hs'.eq
   rw [List.take_length] at he
   rw [he] at hL
   exact Q7 hl hr f _ _ hL
  ·have h1 := h.len
   omega
theorem zR (l : List Int) (hl : l.length ≤ 1000) : (fJ l).length ≤ 65 * l.length + 1 := by
 unfold fJ
 split
 ·rename_i hok
  have hr : ∀ r ∈ l, r ≤ 1114111 := fun r hr => ((lU r).1 (DD.1 hok r hr)).2.1
  have hpl := zO l
  have hpc := zP l
  have := Q7 hl hr (l.length + 1) 128 ⟨iS l, 0, 72, (cH l).length⟩ ⟨by omega, by omega, Int.le_refl 0, by simp, by dsimp only; omega, by dsimp only; omega, by dsimp only; omega, by
   dsimp only [iS]; split <;> (try simp only [List.length_append, List.length_cons, List.length_nil]) <;> omega⟩
  unfold oM
  omega
 ·simp
end Go.AE
end
