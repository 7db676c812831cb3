/- Contracts of functions that the laws of this seat reach, and plain laws of what they compute. No condition beyond each statement's own. -/
import Derived.Test.YtoppecphhiiiiaaGreatDoorSE
import Derived.Test.YtoppecphhiiiiaaGreatDoorXE
import Derived.Test.YtoppecphhiiiiaaGreatDoorV1
import Derived.Shelf.Strings.Builder1
import Derived.Shelf.Strings.Builder2
import Derived.Shelf.Strings.OnBuilder
import Derived.Shelf.Strings.Search1
import Derived.Shelf.Strings.Search2
import Derived.Shelf.Strings.Search3
import Derived.Shelf.Strings.Cut
import Derived.Shelf.Strings.Count
import Derived.Shelf.LaysM
import Derived.Shelf.Strings.Shaped
import Derived.Shelf.Strings.Prefix
import Derived.Shelf.Strings.Split
import Derived.Shelf.Strings.Replace
import Derived.Shelf.Strings.SplitShaped
import Derived.Shelf.Unicode.DecodeSlow
import Derived.Test.YtoppecphhiiiiaaGreatDoorProg
import Derived.Test.YtoppecphhiiiiaaGreatDoorK1
import Derived.Test.YtoppecphhiiiiaaGreatDoorAENum
import Derived.Test.YtoppecphhiiiiaaGreatDoorAEBun
import Derived.Test.YtoppecphhiiiiaaGreatDoorAERange
import Derived.Shelf.SlIter.Collect
import Derived.Test.YtoppecphhiiiiaaGreatDoorAELoop2
set_option linter.unusedVariables false
set_option linter.unusedSimpArgs false
section
namespace Go.AE
open Go.Proofs
set_option maxRecDepth 20000
set_option maxHeartbeats 8000000
set_option linter.unusedSimpArgs false
theorem fL {P Q R S : Prop} (a : Q) (b : R) (c : S) (h : Mk P → bD Q → bD R → bD S → P := by
 intro m q r s
 repeat' first | refine aM (by first | assumption | (apply_assumption <;> omega)) ?_ ?_ | refine cM.fit (by assumption) ?_ | simp (maxSteps := 4000000) (disch := omega) only [aZ, aY, bun, ↓aW, ↓aV, aO, findLabel, ↓reduceIte, imp, shift, aR, aJ, unown, names, aQ, below, aD, aC, aT, aU, aS, ren, aN, aP, aX, renO, belowM, seval, -Int.reduceToNat, bT, b9, Int.reduceToNat, eA, List.map_nil, List.nil_append, bR, *] | exact bH _ | refine bG _ _ ?_ | exact bC.cl | refine bE _ ?_ | refine bF _ _ ?_ ?_ | refine bA _ ?_ | refine fkx ?_ tru <;> intro hg | refine fkx ?_ ?_ <;> intro hg | exact fkx tru tru | refine And.intro (by omega) ?_ | omega
 first
 | done
 | all_goals (repeat revert hg)
   fail_if_success with_reducible refine m.use ?_
   exact q.out
   first
   | done
   | exact r.out
     first
     | done
     | exact s.out
       first | done | fail) : P := h ⟨tru⟩ ⟨a⟩ ⟨b⟩ ⟨c⟩
theorem UZ (s p : List UInt8) (hs : s.length ≤ 100000000) (hp : p.length ≤ 100000000) : aG Tryz.prog 146 [Sv s, Sv p] (Bv (decide (p.length ≤ s.length) && (s.take p.length == p))) := by
 refine sp [.tmp 4] Tryz.func146 Tryz.ntmps146 ?_
 by_cases h : p.length ≤ s.length
 ·exact fL tru tru tru
 ·exact fL tru tru tru
theorem zem (s p : List UInt8) (hs : s.length ≤ 100000000) (hp : p.length ≤ 100000000) : aG Tryz.prog 149 [Sv s, Sv p] (Bv (decide (p.length ≤ s.length) && (s.take p.length == p))) := by
 have h := UZ s p hs hp
 refine sp [.tmp 4] Tryz.func149 Tryz.ntmps149 ?_
 exact fL tru tru tru
theorem zfy (s p : List UInt8) (hs : s.length ≤ 100000000) (hp : p.length ≤ 100000000) : aG Tryz.prog 181 [Sv s, Sv p] (Bv (decide (p.length ≤ s.length) && (s.drop (s.length - p.length) == p))) := by
 refine sp [.tmp 4] Tryz.func181 Tryz.ntmps181 ?_
 by_cases h : p.length ≤ s.length
 ·have e : ((s.length : Int) - (p.length : Int)).toNat = s.length - p.length := by omega
  exact fL tru tru tru
 ·exact fL tru tru tru
theorem zen (s p : List UInt8) (hs : s.length ≤ 100000000) (hp : p.length ≤ 100000000) : aG Tryz.prog 150 [Sv s, Sv p] (Bv (decide (p.length ≤ s.length) && (s.drop (s.length - p.length) == p))) := by
 have h := zfy s p hs hp
 refine sp [.tmp 4] Tryz.func150 Tryz.ntmps150 ?_
 exact fL tru tru tru
theorem PD (s : List UInt8) (hs : s.length ≤ 10000000) : aG Tryz.prog 102 [Sv s] (Bv (i6 s)) := by
 have h1 := zem s [45] (by omega) (by decide)
 have h2 := zen s [45] (by omega) (by decide)
 simp only [List.length_cons, List.length_nil, Nat.zero_add] at h1 h2
 refine sp [.tmp 2] Tryz.func102 Tryz.ntmps102 ?_
 unfold i6
 cases g1 : (decide (1 ≤ s.length) && (s.take 1 == [45])) <;> cases g2 : (decide (1 ≤ s.length) && (s.drop (s.length - 1) == [45]))
 all_goals
  rw [g1] at h1
  rw [g2] at h2
  by_cases g3 : 3 < s.length
  ·exact fL tru tru tru
  ·exact fL tru tru tru
theorem wq1 (a : Int) : aG Tryz.prog 98 [.cp [aA a]] (Bv (decide (0 ≤ a))) := by
 refine sp [.tmp 1] Tryz.func98 Tryz.ntmps98 ?_
 exact fL tru tru tru
theorem wq3 (s : List UInt8) (hs : s.length ≤ 10000000) : aG Tryz.prog 101 [.cp [Sv s]] (Bv (i6 s)) := by
 have h := PD s hs
 refine sp [.tmp 1] Tryz.func101 Tryz.ntmps101 ?_
 exact fL tru tru tru
theorem wq8 (s : List UInt8) (hs : s.length ≤ 10000000) : aG Tryz.prog 111 [.cp [Sv s]] (Bv (decide (63 < 4 + s.length))) := by
 refine sp [.tmp 1] Tryz.func111 Tryz.ntmps111 ?_
 have e : decide (63 < 4 + s.length) = decide (4 + (s.length : Int) > 63) := by rw [Bool.eq_iff_iff]; simp only [decide_eq_true_eq]; omega
 rw [e]
 exact fL tru tru tru
theorem wq4 (L : List Int) (h : 0 < L.length) : aG Tryz.prog 103 [.cp bK, .cp [.sl L.length (L.map aB)]] (Bv (cat (L.getD 0 0) == 4)) := by
 have hc := OG (L.getD 0 0)
 rw [← cT] at hc
 refine sp [.tmp 2] Tryz.func103 Tryz.ntmps103 ?_
 repeat' first | refine rW (.two 0 (.one 1 (.one 2 (.one 3 (.one 4 (.take 5 (.take 6 (.done))))))) 1 (.two 0 (.one 2 (.one 3 (.one 4 (.take 5 (.take 6 (.done)))))) 2 (.two 0 (.one 3 (.one 4 (.take 5 (.take 6 (.done))))) 3 (.one 0 (.one 4 (.take 5 (.take 6 (.done)))))))) _ (by decide +kernel) ?_ | refine fL ?_ tru tru <;> intros | refine fL ?_ ?_ tru <;> intros | refine fL ?_ ?_ ?_ <;> intros | exact fL tru tru tru | fail
 all_goals (repeat' refine And.intro ?_ ?_)
 all_goals (repeat' first | refine aM (hc) ?_ ?_ | simp (maxSteps := 4000000) (disch := omega) only [aZ, aY, bun, ↓aW, ↓aV, aO, findLabel, ↓reduceIte, imp, shift, aR, aJ, unown, names, aQ, below, aD, aC, aT, aU, aS, ren, aN, aP, aX, renO, belowM, seval, -Int.reduceToNat, bT, b9, Int.reduceToNat, eA, List.map_nil, List.nil_append, bR] | exact bH _ | refine bG _ _ ?_ | exact bC.cl | refine bE _ ?_ | refine bF _ _ ?_ ?_ | refine bA _ ?_ | refine fkx ?_ tru <;> intro hg | refine fkx ?_ ?_ <;> intro hg | exact fkx tru tru | refine And.intro (by omega) ?_ | omega)
 all_goals (repeat' refine And.intro ?_ ?_)
 all_goals (repeat' first | refine aM (hc) ?_ ?_ | simp (maxSteps := 4000000) (disch := omega) only [aZ, aY, bun, ↓aW, ↓aV, aO, findLabel, ↓reduceIte, imp, shift, aR, aJ, unown, names, aQ, below, aD, aC, aT, aU, aS, ren, aN, aP, aX, renO, belowM, seval, -Int.reduceToNat, bT, b9, Int.reduceToNat, eA, List.map_nil, List.nil_append, bR] | exact bH _ | refine bG _ _ ?_ | exact bC.cl | refine bE _ ?_ | refine bF _ _ ?_ ?_ | refine bA _ ?_ | refine fkx ?_ tru <;> intro hg | refine fkx ?_ ?_ <;> intro hg | exact fkx tru tru | refine And.intro (by omega) ?_ | omega)
end Go.AE
-- types: B0 B3 B4 B9 B21 B29 B63
end
section
namespace Go.AE
open Go.Proofs
set_option maxRecDepth 20000
set_option maxHeartbeats 8000000
set_option linter.unusedSimpArgs false
theorem mE {P Q R S : Prop} {H : Prop} (o : H) (a : Q) (b : R) (c : S) (h : H → Mk P → bD Q → bD R → bD S → P := by
 intro w m q r s
 repeat' first | refine aM (by first | assumption | (apply_assumption <;> omega)) ?_ ?_ | refine cM.fit (by assumption) ?_ | simp (maxSteps := 4000000) (disch := omega) only [aZ, aY, bun, ↓aW, ↓aV, aO, findLabel, ↓reduceIte, imp, shift, aR, aJ, unown, names, aQ, below, aD, aC, aT, aU, aS, ren, aN, aP, aX, renO, belowM, seval, -Int.reduceToNat, bT, b9, Int.reduceToNat, eA, List.map_nil, List.nil_append, bR, OY, NN, A7, w] | exact bH _ | refine bG _ _ ?_ | exact bC.cl | refine bE _ ?_ | refine bF _ _ ?_ ?_ | refine bA _ ?_ | refine fkx ?_ tru <;> intro hg | refine fkx ?_ ?_ <;> intro hg | exact fkx tru tru | refine And.intro (by omega) ?_ | omega
 first
 | done
 | all_goals (repeat revert hg)
   exact q.out
   first
   | done
   | exact r.out
     first
     | done
     | exact s.out
       first | done | fail) : P := h o ⟨tru⟩ ⟨a⟩ ⟨b⟩ ⟨c⟩
theorem zkt (L : List Int) (hL : L.length ≤ 1000) (hi : ∀ c ∈ L, iT c) : aG Tryz.prog 106 [tab, .sl L.length (L.map aB)] (Bv (n6 L)) := by
 rw [← cT]
 refine sp [.tmp 4] Tryz.func106 Tryz.ntmps106 ?_
 refine mE tru ?_ tru tru <;> intros
 refine bL (fun i : Nat => ⟨[(1, .sl L.length (L.map aB)), (2, .ptr 0 0), (7, .sl L.length (L.map aB)), (8, aA L.length), (9, aA i)], [.row true 1 bK]⟩) (fun i => i ≤ L.length ∧ ∀ j, j < i → n5 L j = false) (fun i => L.length - i) 0 (by simp) (by (simp (disch := omega) [wk, aL, aI, aD, aC, get, aK, belowM, below, belows, aA, aB, Bv, U8, Sv, bJ] <;> try omega)) ?_
 rintro i ⟨hi1, hi2⟩
 by_cases hlt : i < L.length
 ·have hn := zh2 L hL hi i (by omega) (by omega)
  rw [zh0 L i hlt] at hn
  have hp := zfo (L.getD i 0)
  rw [← cT] at hn hp
  have hbk : n5 L i = (fI L i == 2 || (fI L i == 0 && !lch (L.getD i 0))) := rfl
  cases hq : n5 L i with
  | true =>
   have e : n6 L = true := z9a hi2 hlt hq
   rw [hq] at hbk
   by_cases g2 : fI L i = 2
   ·exact mE (And.intro e g2) tru tru tru
   ·have g3 : fI L i = 0 ∧ lch (L.getD i 0) = false := by
     have g2' : (fI L i == 2) = false := by simpa using g2
     rw [g2', Bool.false_or] at hbk
     simpa using hbk.symm
    exact mE (And.intro e (And.intro g3.1 g3.2)) tru tru tru
  | false =>
   rw [hq] at hbk
   have g2 : ¬ fI L i = 2 := fun h => by rw [h] at hbk; simp at hbk
   have g2' : (fI L i == 2) = false := by simpa using g2
   rw [g2', Bool.false_or] at hbk
   have nxt : ∀ j, j < i + 1 → n5 L j = false := fun j hj => by
    by_cases hji : j = i
    ·subst hji; exact hq
    ·exact hi2 j (by omega)
   by_cases g3 : fI L i = 0
   ·have g4 : lch (L.getD i 0) = true := by rw [g3] at hbk; simpa using hbk.symm
    refine mE (And.intro g2 (And.intro g3 g4)) ?_ tru tru <;> intros
    all_goals exact ⟨i + 1, ⟨by omega, nxt⟩, by omega, by (simp (disch := omega) [wk, aL, aI, aD, aC, get, aK, belowM, below, belows, aA, aB, Bv, U8, Sv, bJ] <;> try omega)⟩
   ·refine mE (And.intro g2 g3) ?_ tru tru <;> intros
    all_goals exact ⟨i + 1, ⟨by omega, nxt⟩, by omega, by (simp (disch := omega) [wk, aL, aI, aD, aC, get, aK, belowM, below, belows, aA, aB, Bv, U8, Sv, bJ] <;> try omega)⟩
 ·have e : n6 L = false := z99 fun j hj => hi2 j (by omega)
  exact mE e tru tru tru
theorem wq2 (s : List UInt8) (hs : s.length ≤ 10000000) (hl : (runes s).1.length ≤ 10000) : aG Tryz.prog 99 [.cp [Sv s], .cp bK] (Bv (oA s)) := by
 have h1 := u7 s (by omega)
 have h2 := zh7 s hs hl
 rw [← cT] at h2
 refine sp [.tmp 2] Tryz.func99 Tryz.ntmps99 ?_
 unfold oA
 by_cases h8 : eight s < 0
 ·exact mE h8 tru tru tru
 ·exact mE h8 tru tru tru
theorem wq5 (L : List Int) (hL : L.length ≤ 1000) (hi : ∀ c ∈ L, iT c) : aG Tryz.prog 105 [.cp bK, .cp [.sl L.length (L.map aB)]] (Bv (n6 L)) := by
 have h := zkt L hL hi
 rw [← cT] at h
 refine sp [.tmp 2] Tryz.func105 Tryz.ntmps105 ?_
 exact mE tru tru tru tru
theorem wq6 (L : List Int) (hL : L.length ≤ 1000) : aG Tryz.prog 107 [.cp bK, .cp [.sl L.length (L.map aB)]] (Bv (gW L && !iE L)) := by
 have h1 := SW L hL
 have h2 := zjw L hL
 rw [← cT] at h1 h2
 refine sp [.tmp 2] Tryz.func107 Tryz.ntmps107 ?_
 cases g1 : gW L
 all_goals
  rw [g1] at h1
  exact mE tru tru tru tru
theorem wq7 (L : List Int) (hL : L.length ≤ 1000) : eV Tryz.prog 110 [.row true 1 [.ref 3 0 L.length], .row true 1 [Sv []], .row true 1 [Bv false], .arr 21 1 (L.map aB)] [.ptr 0 0, .ptr 1 0, .ptr 2 0] [.dead, .row true 1 [Sv (fJ L)], .row true 1 [Bv (bW L)], .dead, .fence] (Bv (!bW L)) := by
 have h := BZ L (by omega)
 refine jV (ts := [.tmp 3]) bZ Tryz.func110 rfl rfl (by decide +kernel) (by simp [Tryz.ntmps110]) rfl ?_
 exact mE tru tru tru tru
end Go.AE
-- types: B0 B3 B4 B9 B21 B29 B56 B63
end
section
namespace Go.AE
open Go.Proofs
set_option maxRecDepth 20000
set_option maxHeartbeats 8000000
set_option linter.unusedSimpArgs false
theorem P0 (k : IntKind) (n : Int) : (Value.int k n).cells.toList = [Value.int k n] := rfl
theorem P1 (b : ByteArray) : (Value.string b).cells.toList = [Value.string b] := rfl
theorem OZ (b : Bool) : (Value.bool b).cells.toList = [Value.bool b] := rfl
theorem ca_i (k : IntKind) (n : Int) : ((Value.int k n).cells.all fun x => x.oneCell') = true := by
 rw [← Array.all_toList, P0]; rfl
theorem ca_s (b : ByteArray) : ((Value.string b).cells.all fun x => x.oneCell') = true := by
 rw [← Array.all_toList, P1]; rfl
theorem ca_b (b : Bool) : ((Value.bool b).cells.all fun x => x.oneCell') = true := by
 rw [← Array.all_toList, OZ]; rfl
theorem i8 {P Q R S : Prop} (a : Q) (b : R) (c : S) (h : Mk P → bD Q → bD R → bD S → P := by
 intro m q r s
 repeat' first | refine aM (by first | assumption | (apply_assumption <;> omega)) ?_ ?_ | refine cM.fit (by assumption) ?_ | simp (maxSteps := 4000000) (disch := omega) only [aZ, aY, bun, ↓aW, ↓aV, aO, findLabel, ↓reduceIte, imp, shift, aR, aJ, unown, names, aQ, below, aD, aC, aT, aU, aS, ren, aN, aP, aX, renO, belowM, seval, -Int.reduceToNat, bT, b9, Int.reduceToNat, eA, List.map_nil, List.nil_append, bR, OY, NN, A7, P0, P1, OZ, ca_i, ca_s, ca_b, gN, Bool.not_false, Bool.not_true, fC, *] | exact bH _ | refine bG _ _ ?_ | exact bC.cl | refine bE _ ?_ | refine bF _ _ ?_ ?_ | refine bA _ ?_ | refine fkx ?_ tru <;> intro hg | refine fkx ?_ ?_ <;> intro hg | exact fkx tru tru | refine And.intro (by omega) ?_ | omega
 first
 | done
 | all_goals (repeat revert hg)
   exact q.out
   first
   | done
   | exact r.out
     first
     | done
     | exact s.out
       first | done | fail) : P := h ⟨tru⟩ ⟨a⟩ ⟨b⟩ ⟨c⟩
theorem zcd (s P : List UInt8) (L : List Int) (a : Int) (ok b1 b2 b3 b4 b5 b6 b8 : Bool)
  (h1 : aG Tryz.prog 98 [.cp [aA a]] (Bv b1))
  (h2 : aG Tryz.prog 99 [.cp [Sv s], .cp bK] (Bv b2))
  (h3 : aG Tryz.prog 101 [.cp [Sv s]] (Bv b3))
  (h4 : b1 = false → b2 = false → aG Tryz.prog 103 [.cp bK, .cp [.sl L.length (L.map aB)]] (Bv b4))
  (h5 : aG Tryz.prog 105 [.cp bK, .cp [.sl L.length (L.map aB)]] (Bv b5))
  (h6 : aG Tryz.prog 107 [.cp bK, .cp [.sl L.length (L.map aB)]] (Bv b6))
  (h7 : eV Tryz.prog 110 [.row true 1 [.ref 3 0 L.length], .row true 1 [Sv []], .row true 1 [Bv false], .arr 21 1 (L.map aB)] [.ptr 0 0, .ptr 1 0, .ptr 2 0] [.dead, .row true 1 [Sv P], .row true 1 [Bv ok], .dead, .fence] (Bv (!ok)))
  (h8 : aG Tryz.prog 111 [.cp [Sv P]] (Bv b8)) :
  eV Tryz.prog 97 [.row true 2 [aA 7, .fn 98 [] [.ptr 4 0], aA 4, .fn 99 [] [.ptr 2 0, .ptr 1 0], aA 11, .fn 101 [] [.ptr 2 0], aA 10, .fn 103 [] [.ptr 1 0, .ptr 3 0],
   aA 8, .fn 105 [] [.ptr 1 0, .ptr 3 0], aA 9, .fn 107 [] [.ptr 1 0, .ptr 3 0], aA 12, .fn 110 [] [.ptr 3 0, .ptr 5 0, .ptr 6 0], aA 5, .fn 111 [] [.ptr 5 0]],
   .row true 1 bK, .row true 1 [Sv s], .row true 1 [.ref 7 0 L.length], .row true 1 [aA a], .row true 1 [Sv []], .row true 1 [Bv false], .arr 21 1 (L.map aB)] [.ref 0 0 8]
   [.dead, .dead, .dead, .dead, .dead, .dead, .dead, .dead, .fence] (aA (gN [(b1, 7), (b2, 4), (b3, 11), (b4, 10), (b5, 8), (b6, 9), (!ok, 12), (b8, 5)])) := by
 refine jV (ts := [.tmp 2]) bZ Tryz.func97 rfl rfl (by decide +kernel) (by simp [Tryz.ntmps97]) rfl ?_
 refine i8 ?_ tru tru <;> intros
 refine bL (fun i : Nat => ⟨[(5, .ref 0 0 8), (6, aA 8), (7, aA i)], [.row true 2 [aA 7, .fn 98 [] [.ptr 4 0], aA 4, .fn 99 [] [.ptr 2 0, .ptr 1 0], aA 11, .fn 101 [] [.ptr 2 0], aA 10, .fn 103 [] [.ptr 1 0, .ptr 3 0],
   aA 8, .fn 105 [] [.ptr 1 0, .ptr 3 0], aA 9, .fn 107 [] [.ptr 1 0, .ptr 3 0], aA 12, .fn 110 [] [.ptr 3 0, .ptr 5 0, .ptr 6 0], aA 5, .fn 111 [] [.ptr 5 0]],
   .row true 1 bK, .row true 1 [Sv s], (if i ≤ 6 then .row true 1 [.ref 7 0 L.length] else .dead), .row true 1 [aA a], .row true 1 [Sv (if i ≤ 6 then [] else P)], .row true 1 [Bv (if i ≤ 6 then false else ok)], (if i ≤ 6 then .arr 21 1 (L.map aB) else .dead), .fence]⟩)
  (fun i => i ≤ 8 ∧ (0 < i → b1 = false) ∧ (1 < i → b2 = false) ∧ (2 < i → b3 = false) ∧ (3 < i → b4 = false) ∧ (4 < i → b5 = false) ∧ (5 < i → b6 = false) ∧ (6 < i → ok = true) ∧ (7 < i → b8 = false)) (fun i => 8 - i) 0 (by simp) (by (simp (disch := omega) [wk, aL, aI, aD, aC, get, aK, belowM, below, belows, aA, aB, Bv, U8, Sv, bJ] <;> try omega)) ?_
 rintro i ⟨hi, g1, g2, g3, g4, g5, g6, g7, g8⟩
 have hc : i = 0 ∨ i = 1 ∨ i = 2 ∨ i = 3 ∨ i = 4 ∨ i = 5 ∨ i = 6 ∨ i = 7 ∨ i = 8 := by omega
 rcases hc with rfl | rfl | rfl | rfl | rfl | rfl | rfl | rfl | rfl
 ·cases b1
  ·refine i8 ?_ tru tru <;> intros
   all_goals exact ⟨1, ⟨by omega, by simp, by simp, by simp, by simp, by simp, by simp, by simp, by simp⟩, by omega, by (simp (disch := omega) [wk, aL, aI, aD, aC, get, aK, belowM, below, belows, aA, aB, Bv, U8, Sv, bJ] <;> try omega)⟩
  ·exact i8 tru tru tru
 ·have q1 := g1 (by omega)
  subst q1
  cases b2
  ·refine i8 ?_ tru tru <;> intros
   all_goals exact ⟨2, ⟨by omega, by simp, by simp, by simp, by simp, by simp, by simp, by simp, by simp⟩, by omega, by (simp (disch := omega) [wk, aL, aI, aD, aC, get, aK, belowM, below, belows, aA, aB, Bv, U8, Sv, bJ] <;> try omega)⟩
  ·exact i8 tru tru tru
 ·have q1 := g1 (by omega)
  subst q1
  have q2 := g2 (by omega)
  subst q2
  cases b3
  ·refine i8 ?_ tru tru <;> intros
   all_goals exact ⟨3, ⟨by omega, by simp, by simp, by simp, by simp, by simp, by simp, by simp, by simp⟩, by omega, by (simp (disch := omega) [wk, aL, aI, aD, aC, get, aK, belowM, below, belows, aA, aB, Bv, U8, Sv, bJ] <;> try omega)⟩
  ·exact i8 tru tru tru
 ·have q1 := g1 (by omega)
  subst q1
  have q2 := g2 (by omega)
  subst q2
  have q3 := g3 (by omega)
  subst q3
  have h4 := h4 rfl rfl
  cases b4
  ·refine i8 ?_ tru tru <;> intros
   all_goals exact ⟨4, ⟨by omega, by simp, by simp, by simp, by simp, by simp, by simp, by simp, by simp⟩, by omega, by (simp (disch := omega) [wk, aL, aI, aD, aC, get, aK, belowM, below, belows, aA, aB, Bv, U8, Sv, bJ] <;> try omega)⟩
  ·exact i8 tru tru tru
 ·have q1 := g1 (by omega)
  subst q1
  have q2 := g2 (by omega)
  subst q2
  have q3 := g3 (by omega)
  subst q3
  have q4 := g4 (by omega)
  subst q4
  cases b5
  ·refine i8 ?_ tru tru <;> intros
   all_goals exact ⟨5, ⟨by omega, by simp, by simp, by simp, by simp, by simp, by simp, by simp, by simp⟩, by omega, by (simp (disch := omega) [wk, aL, aI, aD, aC, get, aK, belowM, below, belows, aA, aB, Bv, U8, Sv, bJ] <;> try omega)⟩
  ·exact i8 tru tru tru
 ·have q1 := g1 (by omega)
  subst q1
  have q2 := g2 (by omega)
  subst q2
  have q3 := g3 (by omega)
  subst q3
  have q4 := g4 (by omega)
  subst q4
  have q5 := g5 (by omega)
  subst q5
  cases b6
  ·refine i8 ?_ tru tru <;> intros
   all_goals exact ⟨6, ⟨by omega, by simp, by simp, by simp, by simp, by simp, by simp, by simp, by simp⟩, by omega, by (simp (disch := omega) [wk, aL, aI, aD, aC, get, aK, belowM, below, belows, aA, aB, Bv, U8, Sv, bJ] <;> try omega)⟩
  ·exact i8 tru tru tru
 ·have q1 := g1 (by omega)
  subst q1
  have q2 := g2 (by omega)
  subst q2
  have q3 := g3 (by omega)
  subst q3
  have q4 := g4 (by omega)
  subst q4
  have q5 := g5 (by omega)
  subst q5
  have q6 := g6 (by omega)
  subst q6
  cases ok
  ·(have := cM.mk (σ := [3, 5, 6, 7]) h7; exact i8 tru tru tru)
  ·(have := cM.mk (σ := [3, 5, 6, 7]) h7; refine i8 ?_ tru tru <;> intros)
   all_goals exact ⟨7, ⟨by omega, by simp, by simp, by simp, by simp, by simp, by simp, by simp, by simp⟩, by omega, by (simp (disch := omega) [wk, aL, aI, aD, aC, get, aK, belowM, below, belows, aA, aB, Bv, U8, Sv, bJ] <;> try omega)⟩
 ·have q1 := g1 (by omega)
  subst q1
  have q2 := g2 (by omega)
  subst q2
  have q3 := g3 (by omega)
  subst q3
  have q4 := g4 (by omega)
  subst q4
  have q5 := g5 (by omega)
  subst q5
  have q6 := g6 (by omega)
  subst q6
  have q7 := g7 (by omega)
  subst q7
  cases b8
  ·refine i8 ?_ tru tru <;> intros
   all_goals exact ⟨8, ⟨by omega, by simp, by simp, by simp, by simp, by simp, by simp, by simp, by simp⟩, by omega, by (simp (disch := omega) [wk, aL, aI, aD, aC, get, aK, belowM, below, belows, aA, aB, Bv, U8, Sv, bJ] <;> try omega)⟩
  ·exact i8 tru tru tru
 ·have q1 := g1 (by omega)
  have q2 := g2 (by omega)
  have q3 := g3 (by omega)
  have q4 := g4 (by omega)
  have q5 := g5 (by omega)
  have q6 := g6 (by omega)
  have q7 := g7 (by omega)
  have q8 := g8 (by omega)
  subst q1 q2 q3 q4 q5 q6 q7 q8
  exact i8 tru tru tru
theorem zk0 {s : List UInt8} (h1 : ¬ 0 ≤ (runes s).2) (h2 : 0 ≤ eight s) : 0 < (runes s).1.length := by
 refine Nat.pos_of_ne_zero fun e => ?_
 have hb := z0s s
 have ha : (runes s).2 = -1 := (z0r s).resolve_right h1
 rw [ha, xR, List.take_length] at hb
 have : (runes s).1 = [] := List.eq_nil_of_length_eq_zero e
 rw [this] at hb
 exact Q4 h2 (by rw [← hb.2.1]; rfl)
theorem z3b (s : List UInt8) (hs : s.length ≤ 10000000) (hl : (runes s).1.length ≤ 1000) : aG Tryz.prog 60 [tab, Sv s] (aA (jC s)) := by
 have hr := A3 s
 have hi : ∀ c ∈ (runes s).1, iT c := fun c hc => by have := hr c hc; unfold bO at this; unfold iT; omega
 have hpl := zR (runes s).1 hl
 have hu := rT s (by omega)
 have hf := zcd s (fJ (runes s).1) (runes s).1 (runes s).2 (bW (runes s).1) _ _ _ _ _ _ _ (wq1 (runes s).2) (wq2 s hs (by omega)) (wq3 s hs)
  (fun h1 h2 => wq4 (runes s).1 (zk0 (by simpa using h1) (by
   unfold oA at h2
   rw [Bool.or_eq_false_iff] at h2
   have := h2.1
   simp only [decide_eq_false_iff_not] at this
   omega))) (wq5 (runes s).1 hl hi) (wq6 (runes s).1 hl) (wq7 (runes s).1 hl) (wq8 (fJ (runes s).1) (by omega))
 have e : jC s = gN [(decide (0 ≤ (runes s).2), 7), (oA s, 4), (i6 s, 11), (cat ((runes s).1.getD 0 0) == 4, 10), (n6 (runes s).1, 8), (gW (runes s).1 && !iE (runes s).1, 9),
  (!bW (runes s).1, 12), (decide (63 < 4 + (fJ (runes s).1).length), 5)] := rfl
 rw [← e] at hf
 rw [← cT]
 refine sp [.tmp 4] Tryz.func60 Tryz.ntmps60 ?_
 generalize jC s = wv at *
 generalize fJ (runes s).1 = P at *
 generalize bW (runes s).1 = ok at *
 clear e hpl hr hi
 generalize (runes s).1 = L at *
 generalize (runes s).2 = a at *
 (have := cM.mk (σ := [7, 0, 1, 3, 4, 5, 6, 2]) hf; exact i8 tru tru tru)
end Go.AE
-- types: B0 B3 B4 B9 B22 B29 B32 B63 B64 B124 B150
end
section
namespace Go.AE
open Go.Proofs
set_option maxRecDepth 20000
set_option maxHeartbeats 8000000
set_option linter.unusedSimpArgs false
theorem zbi (s : ByteArray) (i : Nat) (h : 128 ≤ (s.get! i).toNat) : 128 ≤ (Utf8.decode s i).1 := by
 unfold Utf8.decode Utf8.runeError
 simp only [Nat.add_zero]
 rw [if_neg (by omega)]
 repeat' split
 all_goals first | omega | (dsimp only; omega) | (simp only [Bool.and_eq_true, decide_eq_true_eq] at *; omega)
def nM (r : Int) : Bool := !((decide (97 ≤ r) && decide (r ≤ 122)) || (decide (65 ≤ r) && decide (r ≤ 90)) || (decide (48 ≤ r) && decide (r ≤ 57)) || r == 45)
theorem XF (c : UInt8) : nM (c.toNat : Int) = !ldh c := by
 unfold nM ldh
 congr 1
 rw [Bool.eq_iff_iff]
 simp only [Bool.or_eq_true, Bool.and_eq_true, decide_eq_true_eq, beq_iff_eq]
 have e : c = 45 ↔ c.toNat = 45 := ⟨fun h => by rw [h]; rfl, fun h => UInt8.toNat.inj (by rw [h]; rfl)⟩
 rw [e]
 omega
theorem zhz {r : Int} (h : 128 ≤ r) : nM r = true := by
 unfold nM
 simp only [Bool.not_eq_true', Bool.or_eq_false_iff, Bool.and_eq_false_iff, decide_eq_false_iff_not, beq_eq_false_iff_ne]
 omega
theorem eD {P Q R S : Prop} (a : Q) (b : R) (c : S) (h : Mk P → bD Q → bD R → bD S → P := by
 intro m q r s
 repeat' first | refine aM (by first | assumption | (apply_assumption <;> omega)) ?_ ?_ | refine cM.fit (by assumption) ?_ | simp (maxSteps := 4000000) (disch := omega) only [aZ, aY, bun, ↓aW, ↓aV, aO, findLabel, ↓reduceIte, imp, shift, aR, aJ, unown, names, aQ, below, aD, aC, aT, aU, aS, ren, aN, aP, aX, renO, belowM, seval, -Int.reduceToNat, bT, b9, Int.reduceToNat, eA, List.map_nil, List.nil_append, bR, *] | exact bH _ | refine bG _ _ ?_ | exact bC.cl | refine bE _ ?_ | refine bF _ _ ?_ ?_ | refine bA _ ?_ | refine fkx ?_ tru <;> intro hg | refine fkx ?_ ?_ <;> intro hg | exact fkx tru tru | refine And.intro (by omega) ?_ | omega
 first
 | done
 | all_goals (repeat revert hg)
   exact q.out
   first
   | done
   | exact r.out
     first
     | done
     | exact s.out
       first | done | fail) : P := h ⟨tru⟩ ⟨a⟩ ⟨b⟩ ⟨c⟩
theorem zi0 (r : Int) : aG Tryz.prog 116 [aB r] (Bv (nM r)) := by
 refine sp [.tmp 2] Tryz.func116 Tryz.ntmps116 ?_
 cases h : nM r
 all_goals
  unfold nM at h
  simp only [Bool.not_eq_true', Bool.not_eq_false', Bool.or_eq_false_iff, Bool.and_eq_false_iff, Bool.or_eq_true, Bool.and_eq_true, decide_eq_true_eq, decide_eq_false_iff_not, beq_iff_eq, beq_eq_false_iff_ne] at h
  exact eD tru tru tru
  all_goals first | omega | trace_state
def mC (s : List UInt8) (k : Nat) : Int × Nat := (((Utf8.decode ⟨s.toArray⟩ k).1 : Int), (Utf8.decode ⟨s.toArray⟩ k).2)
theorem CJ (s : List UInt8) (k : Nat) : (ByteArray.mk s.toArray).get! k = s.getD k 0 := by
 show s.toArray[k]! = s.getD k 0
 rw [List.getElem!_toArray, List.getElem!_eq_getElem?_getD]
 simp only [List.getD]; rfl
theorem zbh {s : List UInt8} {k : Nat} (hk : k < s.length) (h : nM (mC s k).1 = false) : ldh (s.getD k 0) = true ∧ (mC s k).2 = 1 := by
 by_cases hb : 128 ≤ (s.getD k 0).toNat
 ·have := zbi ⟨s.toArray⟩ k (by rw [CJ]; exact hb)
  rw [zhz (show (128 : Int) ≤ (mC s k).1 by unfold mC; dsimp only; omega)] at h
  cases h
 ·have hd : Utf8.decode ⟨s.toArray⟩ k = ((s.getD k 0).toNat, 1) := by
   unfold Utf8.decode
   simp only [Nat.add_zero, CJ]
   rw [if_pos (by omega)]
  unfold mC at h ⊢
  rw [hd] at h ⊢
  dsimp only at h ⊢
  rw [XF] at h
  exact ⟨by simpa using h, rfl⟩
theorem zbf {s : List UInt8} {k : Nat} (hk : k < s.length) (h : nM (mC s k).1 = true) : ldh (s.getD k 0) = false := by
 cases hl : ldh (s.getD k 0) with
 | false => rfl
 | true =>
  have hs := zfq hl
  have hd : Utf8.decode ⟨s.toArray⟩ k = ((s.getD k 0).toNat, 1) := by
   unfold Utf8.decode
   simp only [Nat.add_zero, CJ]
   rw [if_pos (by omega)]
  unfold mC at h
  rw [hd] at h
  dsimp only at h
  rw [XF, hl] at h
  cases h
def p5 (s : List UInt8) : Int := if s.all ldh then -1 else (s.findIdx fun c => !ldh c : Nat)
theorem z9s {s : List UInt8} {k : Nat} (hk : k < s.length) (h : ldh (s.getD k 0) = false) (ha : ∀ j, j < k → ldh (s.getD j 0) = true) : p5 s = k := by
 have h1 := (pF (l := s) (d := 0) (p := fun c => !ldh c) (i := k) (fun j hj => by rw [ha j hj]; rfl) hk (by rw [h]; rfl)).1
 have h2 : s.all ldh = false := by
  rw [List.all_eq_false]
  exact ⟨s.getD k 0, by simp [List.getD, hk], by rw [h]; simp⟩
 unfold p5
 rw [h2, h1]; rfl
theorem z9t {s : List UInt8} (ha : ∀ j, j < s.length → ldh (s.getD j 0) = true) : p5 s = -1 ∧ s.all ldh = true := by
 have h2 : s.all ldh = true := List.all_eq_true.2 fun c hc => by
  obtain ⟨j, hj, e⟩ := List.getElem_of_mem hc
  have := ha j hj
  rwa [show s.getD j 0 = c by simp [List.getD, hj, e]] at this
 unfold p5
 rw [h2]; exact ⟨rfl, rfl⟩
theorem z9u (s : List UInt8) : decide (p5 s ≥ 0) = !s.all ldh := by
 unfold p5
 cases s.all ldh
 ·simp
 ·rfl
theorem zet (s : List UInt8) (hs : s.length ≤ 10000000) : aG Tryz.prog 187 [Sv s, .fn 116 [] [], Bv true] (aA (p5 s)) := by
 refine sp [.tmp 6] Tryz.func187 Tryz.ntmps187 ?_
 refine eD ?_ tru tru <;> intros
 refine bL (fun k : Nat => ⟨[(1, .fn 116 [] []), (2, Bv true), (10, .ptr 0 0)], [.it s k]⟩) (fun k => k ≤ s.length ∧ ∀ j, j < k → ldh (s.getD j 0) = true) (fun k => s.length - k) 0 (by simp) bN ?_
 rintro k ⟨hk, ha⟩
 by_cases hlt : k < s.length
 ·have ho := zi0 (mC s k).1
  cases hq : nM (mC s k).1 with
  | true =>
   rw [hq] at ho
   have e := z9s hlt (zbf hlt hq) ha
   unfold mC at ho
   exact eD tru tru tru
  | false =>
   obtain ⟨q1, q2⟩ := zbh hlt hq
   rw [hq] at ho
   unfold mC at ho q2
   dsimp only at ho q2
   refine eD ?_ tru tru <;> intros
   refine ⟨k + 1, ⟨by omega, fun j hj => ?_⟩, by omega, bN⟩
   by_cases hj2 : j = k
   ·subst hj2; exact q1
   ·exact ha j (by omega)
 ·have e := (z9t fun j hj => ha j (by omega)).1
  exact eD tru tru tru
end Go.AE
-- types: B0 B3 B4 B9 B21 B85
end
section
namespace Go.AE
open Go.Proofs
set_option maxRecDepth 20000
set_option maxHeartbeats 8000000
set_option linter.unusedSimpArgs false
theorem iQ {P Q R S : Prop} (a : Q) (b : R) (c : S) (h : Mk P → bD Q → bD R → bD S → P := by
 intro m q r s
 repeat' first | refine aM (by first | assumption | (apply_assumption <;> omega)) ?_ ?_ | refine cM.fit (by assumption) ?_ | simp (maxSteps := 4000000) (disch := omega) only [aZ, aY, bun, ↓aW, ↓aV, aO, findLabel, ↓reduceIte, imp, shift, aR, aJ, unown, names, aQ, below, aD, aC, aT, aU, aS, ren, aN, aP, aX, renO, belowM, seval, -Int.reduceToNat, bT, b9, Int.reduceToNat, eA, List.map_nil, List.nil_append, bR, gN, *] | exact bH _ | refine bG _ _ ?_ | exact bC.cl | refine bE _ ?_ | refine bF _ _ ?_ ?_ | refine bA _ ?_ | refine fkx ?_ tru <;> intro hg | refine fkx ?_ ?_ <;> intro hg | exact fkx tru tru | refine And.intro (by omega) ?_ | omega
 first
 | done
 | all_goals (repeat revert hg)
   exact q.out
   first
   | done
   | exact r.out
     first
     | done
     | exact s.out
       first | done | fail) : P := h ⟨tru⟩ ⟨a⟩ ⟨b⟩ ⟨c⟩
theorem zep (s : List UInt8) (hs : s.length ≤ 10000000) : aG Tryz.prog 157 [Sv s, .fn 116 [] []] (aA (p5 s)) := by
 have h := zet s hs
 refine sp [.tmp 4] Tryz.func157 Tryz.ntmps157 ?_
 exact iQ tru tru tru
theorem zb5 (s : List UInt8) (hs : s.length ≤ 10000000) : aG Tryz.prog 115 [Sv s, .fn 116 [] []] (Bv (!s.all ldh)) := by
 have h := zep s hs
 refine sp [.tmp 4] Tryz.func115 Tryz.ntmps115 ?_
 rw [← z9u]
 exact iQ tru tru tru
theorem pq1 (s : List UInt8) : aG Tryz.prog 112 [.cp [Sv s]] (Bv (decide (s = []))) := by
 refine sp [.tmp 1] Tryz.func112 Tryz.ntmps112 ?_
 have e : decide (s = []) = (s == []) := by cases s <;> rfl
 rw [e]
 exact iQ tru tru tru
theorem pq2 (s : List UInt8) (hs : s.length ≤ 10000000) : aG Tryz.prog 113 [.cp [Sv s]] (Bv (decide (63 < s.length))) := by
 refine sp [.tmp 1] Tryz.func113 Tryz.ntmps113 ?_
 have e : decide (63 < s.length) = decide ((s.length : Int) > 63) := by rw [Bool.eq_iff_iff]; simp only [decide_eq_true_eq]; omega
 rw [e]
 exact iQ tru tru tru
theorem pq3 (s : List UInt8) (hs : s.length ≤ 10000000) : aG Tryz.prog 114 [.cp [Sv s]] (Bv (!s.all ldh)) := by
 have h := zb5 s hs
 refine sp [.tmp 1] Tryz.func114 Tryz.ntmps114 ?_
 exact iQ tru tru tru
theorem pq4 (s : List UInt8) (hs : s.length ≤ 10000000) : aG Tryz.prog 117 [.cp [Sv s]] (Bv (i6 s)) := by
 have h := PD s hs
 refine sp [.tmp 1] Tryz.func117 Tryz.ntmps117 ?_
 exact iQ tru tru tru
theorem zcc (s : List UInt8) (b1 b2 b3 b4 : Bool)
  (h1 : aG Tryz.prog 112 [.cp [Sv s]] (Bv b1)) (h2 : aG Tryz.prog 113 [.cp [Sv s]] (Bv b2)) (h3 : aG Tryz.prog 114 [.cp [Sv s]] (Bv b3)) (h4 : aG Tryz.prog 117 [.cp [Sv s]] (Bv b4)) :
  eV Tryz.prog 97 [.row true 2 [aA 13, .fn 112 [] [.ptr 1 0], aA 5, .fn 113 [] [.ptr 1 0], aA 8, .fn 114 [] [.ptr 1 0], aA 11, .fn 117 [] [.ptr 1 0]], .row true 1 [Sv s]] [.ref 0 0 4]
   [.dead, .dead, .fence] (aA (gN [(b1, 13), (b2, 5), (b3, 8), (b4, 11)])) := by
 refine jV (ts := [.tmp 2]) bZ Tryz.func97 rfl rfl (by decide +kernel) (by simp [Tryz.ntmps97]) rfl ?_
 refine iQ ?_ tru tru <;> intros
 refine bL (fun i : Nat => ⟨[(5, .ref 0 0 4), (6, aA 4), (7, aA i)], [.row true 2 [aA 13, .fn 112 [] [.ptr 1 0], aA 5, .fn 113 [] [.ptr 1 0], aA 8, .fn 114 [] [.ptr 1 0], aA 11, .fn 117 [] [.ptr 1 0]], .row true 1 [Sv s], .fence]⟩)
  (fun i => i ≤ 4 ∧ (0 < i → b1 = false) ∧ (1 < i → b2 = false) ∧ (2 < i → b3 = false) ∧ (3 < i → b4 = false)) (fun i => 4 - i) 0 (by simp) bN ?_
 rintro i ⟨hi, g1, g2, g3, g4⟩
 have hc : i = 0 ∨ i = 1 ∨ i = 2 ∨ i = 3 ∨ i = 4 := by omega
 rcases hc with rfl | rfl | rfl | rfl | rfl
 ·cases b1
  ·refine iQ ?_ tru tru <;> intros
   all_goals exact ⟨1, ⟨by omega, by simp, by simp, by simp, by simp⟩, by omega, bN⟩
  ·exact iQ tru tru tru
 ·have q1 := g1 (by omega)
  subst q1
  cases b2
  ·refine iQ ?_ tru tru <;> intros
   all_goals exact ⟨2, ⟨by omega, by simp, by simp, by simp, by simp⟩, by omega, bN⟩
  ·exact iQ tru tru tru
 ·have q1 := g1 (by omega)
  subst q1
  have q2 := g2 (by omega)
  subst q2
  cases b3
  ·refine iQ ?_ tru tru <;> intros
   all_goals exact ⟨3, ⟨by omega, by simp, by simp, by simp, by simp⟩, by omega, bN⟩
  ·exact iQ tru tru tru
 ·have q1 := g1 (by omega)
  subst q1
  have q2 := g2 (by omega)
  subst q2
  have q3 := g3 (by omega)
  subst q3
  cases b4
  ·refine iQ ?_ tru tru <;> intros
   all_goals exact ⟨4, ⟨by omega, by simp, by simp, by simp, by simp⟩, by omega, bN⟩
  ·exact iQ tru tru tru
 ·have q1 := g1 (by omega)
  have q2 := g2 (by omega)
  have q3 := g3 (by omega)
  have q4 := g4 (by omega)
  subst q1 q2 q3 q4
  exact iQ tru tru tru
theorem zib (s : List UInt8) (hs : s.length ≤ 10000000) : aG Tryz.prog 61 [Sv s] (aA (iD s)) := by
 have hf := zcc s _ _ _ _ (pq1 s) (pq2 s hs) (pq3 s hs) (pq4 s hs)
 have e : iD s = gN [(decide (s = []), 13), (decide (63 < s.length), 5), (!s.all ldh, 8), (i6 s, 11)] := rfl
 rw [← e] at hf
 refine sp [.tmp 2] Tryz.func61 Tryz.ntmps61 ?_
 generalize iD s = pv at *
 clear e
 (have := cM.mk (σ := [1, 0]) hf; exact iQ tru tru tru)
end Go.AE
-- types: B0 B3 B4 B9 B22 B32 B85 B124 B150
end
section
namespace Go.AE
open Go.Proofs
set_option maxRecDepth 20000
set_option maxHeartbeats 8000000
set_option linter.unusedSimpArgs false
theorem zfp (s p : List UInt8) (hs : s.length ≤ 100000000) (hp : p.length ≤ 100000000) : aG Tryz.prog 92 [Sv s, Sv p] (.tup [Sv (if (decide (p.length ≤ s.length) && (s.take p.length == p)) then s.drop p.length else s), Bv (decide (p.length ≤ s.length) && (s.take p.length == p))]) := by
 have h := UZ s p hs hp
 refine sp [.tmp 4, .tmp 5] Tryz.func92 Tryz.ntmps92 ?_
 cases hq : (decide (p.length ≤ s.length) && (s.take p.length == p))
 ·rw [hq] at h
  exact eD tru tru tru
 ·rw [hq] at h
  have hle : p.length ≤ s.length := by
   rw [Bool.and_eq_true, decide_eq_true_eq] at hq; exact hq.1
  exact eD tru tru tru
theorem zba (s p : List UInt8) (hs : s.length ≤ 100000000) (hp : p.length ≤ 100000000) : aG Tryz.prog 58 [Sv s, Sv p] (.tup [Sv (if (decide (p.length ≤ s.length) && (s.take p.length == p)) then s.drop p.length else s), Bv (decide (p.length ≤ s.length) && (s.take p.length == p))]) := by
 have h := zfp s p hs hp
 refine sp [.tmp 4, .tmp 5] Tryz.func58 Tryz.ntmps58 ?_
 exact eD tru tru tru
theorem za8 (s X : List UInt8) (o : Bool) (hs : s.length ≤ 10000000) (hl : (runes s).1.length ≤ 10000) (e1 : cF s = (X, o)) (e2 : X.length ≤ 10000) (e3 : (runes X).1.length ≤ 1000) :
  aG Tryz.prog 35 [tab, Sv s] (.tup [Sv (dK s).1, Sv (dK s).2.1, aA (dK s).2.2]) := by
 have c1 := CE s hs hl
 have c2 := zba X ace (by omega) (by decide)
 have c3 := u7 X (by omega)
 have c4 := rT X (by omega)
 have c5 := BZ (runes X).1 (by omega)
 have c6 := z3b X (by omega) e3
 have c7 := zib X (by omega)
 have hpl := zR (runes X).1 e3
 rw [e1] at c1
 have hace : (decide (ace.length ≤ X.length) && (X.take ace.length == ace)) = qK X := rfl
 rw [hace] at c2
 unfold dK
 rw [e1]
 rw [← cT] at c1 c6 ⊢
 refine sp [.tmp 4, .tmp 5, .tmp 6] Tryz.func35 Tryz.ntmps35 ?_
 dsimp only at c1 ⊢
 unfold uL
 cases o with
 | false =>
  rw [if_pos rfl]
  unfold ace at c2
  exact eD tru tru tru
 | true =>
  rw [if_neg (by simp)]
  by_cases h8 : 0 ≤ eight X
  ·rw [if_pos h8]
   unfold ace at c2 ⊢
   exact eD tru tru tru
  ·rw [if_neg h8]
   cases ha : qK X with
   | false =>
    rw [if_pos rfl]
    rw [ha] at c2
    unfold ace at c2
    exact eD tru tru tru
   | true =>
    rw [if_neg (by simp)]
    rw [ha] at c2
    have c8 := zbj (X.drop 4) (by simp; omega)
    have hd : X.drop ace.length = X.drop 4 := rfl
    rw [if_pos rfl, hd] at c2
    unfold ace at c2
    cases hp : j5 (X.drop 4) with
    | none =>
     rw [hp] at c8
     unfold qQ at c8
     exact eD tru tru tru
    | some l =>
     rw [hp] at c8
     unfold qQ at c8
     dsimp only at c8 ⊢
     by_cases h63 : 63 < X.length
     ·rw [if_pos h63]
      exact eD tru tru tru
     ·rw [if_neg h63]
      obtain ⟨d1, d2⟩ := BP hp
      have hll : l.length ≤ 63 := by simp at d2; omega
      have hsl := nY l
      have hr := rQ d1
      have q1 := AK l (by omega)
      have q2 := z3b (d5 l) (by omega) (by rw [hr]; dsimp only; omega)
      have q3 := BZ l (by omega)
      rw [← cT] at q2
      generalize jC (d5 l) = wv at *
      generalize d5 l = u at *
      by_cases hw : wv = 0
      ·subst hw
       rw [if_neg (by simp)]
       by_cases hpe : fJ l = X.drop 4
       ·rw [if_neg (by simp [hpe])]
        rw [hpe] at q3
        exact eD tru tru tru
       ·rw [if_pos hpe]
        have hb : (fJ l == X.drop 4) = false := by simpa using hpe
        exact eD tru tru tru
      ·rw [if_pos hw]
       exact eD tru tru tru
theorem zl3 (s : List UInt8) (h : aG Tryz.prog 35 [tab, Sv s] (.tup [Sv (dK s).1, Sv (dK s).2.1, aA (dK s).2.2])) : aG Tryz.prog 20 [tab, Sv s] (.tup [Sv (bX s).1, aA (bX s).2]) := by
 rw [← cT] at h ⊢
 refine sp [.tmp 4, .tmp 5] Tryz.func20 Tryz.ntmps20 ?_
 unfold bX
 generalize dK s = x at *
 obtain ⟨x1, x2, x3⟩ := x
 dsimp only at h ⊢
 by_cases hx : x3 = 0
 ·subst hx
  rw [if_neg (by simp)]
  exact eD tru tru tru
 ·rw [if_pos hx]
  exact eD tru tru tru
theorem zl6 (s : List UInt8) (h : aG Tryz.prog 35 [tab, Sv s] (.tup [Sv (dK s).1, Sv (dK s).2.1, aA (dK s).2.2])) : aG Tryz.prog 52 [tab, Sv s] (.tup [Sv (dF s).1, aA (dF s).2]) := by
 rw [← cT] at h ⊢
 refine sp [.tmp 4, .tmp 5] Tryz.func52 Tryz.ntmps52 ?_
 unfold dF
 generalize dK s = x at *
 obtain ⟨x1, x2, x3⟩ := x
 dsimp only at h ⊢
 by_cases hx : x3 = 0
 ·subst hx
  rw [if_neg (by simp)]
  exact eD tru tru tru
 ·rw [if_pos hx]
  exact eD tru tru tru
end Go.AE
-- types: B0 B3 B4 B9 B29 B32 B38 B56 B63 B64 B90
end
namespace Go.Proofs
open Go.Shelf
def Tryz.lays156_ren : Go.Shelf.Ren := ⟨fun | 156 => 53 | 165 => 70 | 166 => 72 | 169 => 74 | 240 => 129 | 241 => 130 | 276 => 168 | 277 => 169 | n => n, fun | 31 => 31 | 9 => 9 | 3 => 3 | 4 => 4 | 0 => 0 | 20 => 20 | 72 => 106 | 76 => 110 | 70 => 104 | 37 => 84 | 75 => 109 | 127 => 137 | 164 => 165 | 5 => 5 | 80 => 112 | n => n, fun | n => n⟩
theorem Tryz.lays156 : Go.Proofs.Lays.n156 Tryz.prog Tryz.lays156_ren := {
 mixed := by kernel_rfl
 f156 := Tryz.func53.trans (congrArg some (by kernel_rfl))
 f165 := Tryz.func70.trans (congrArg some (by kernel_rfl))
 f166 := Tryz.func72.trans (congrArg some (by kernel_rfl))
 f169 := Tryz.func74.trans (congrArg some (by kernel_rfl))
 f240 := Tryz.func129.trans (congrArg some (by kernel_rfl))
 f241 := Tryz.func130.trans (congrArg some (by kernel_rfl))
 f276 := Tryz.func168.trans (congrArg some (by kernel_rfl))
 f277 := Tryz.func169.trans (congrArg some (by kernel_rfl))
 t0 := Tryz.underlying0
 a0 := Tryz.isAgg0
 z0 := Tryz.sizeOf0
 v0 := Tryz.zeroValue0
 t3 := Tryz.underlying3
 a3 := Tryz.isAgg3
 z3 := Tryz.sizeOf3
 v3 := Tryz.zeroValue3
 t4 := Tryz.underlying4
 a4 := Tryz.isAgg4
 z4 := Tryz.sizeOf4
 v4 := Tryz.zeroValue4
 t9 := Tryz.underlying9
 a9 := Tryz.isAgg9
 z9 := Tryz.sizeOf9
 v9 := Tryz.zeroValue9
 t20 := Tryz.underlying20
 a20 := Tryz.isAgg20
 z20 := Tryz.sizeOf20
 v20 := Tryz.zeroValue20
 t31 := Tryz.underlying31
 a31 := Tryz.isAgg31
 z31 := Tryz.sizeOf31
 v31 := Tryz.zeroValue31
 t37 := Tryz.underlying84
 a37 := Tryz.isAgg84
 z37 := Tryz.sizeOf84
 v37 := Tryz.zeroValue84
 t70 := Tryz.underlying104
 a70 := Tryz.isAgg104
 z70 := Tryz.sizeOf104
 v70 := Tryz.zeroValue104
 t72 := Tryz.underlying106
 a72 := Tryz.isAgg106
 z72 := Tryz.sizeOf106
 v72 := Tryz.zeroValue106
 t75 := Tryz.underlying109
 a75 := Tryz.isAgg109
 z75 := Tryz.sizeOf109
 v75 := Tryz.zeroValue109
 t76 := Tryz.underlying110
 a76 := Tryz.isAgg110
 z76 := Tryz.sizeOf110
 v76 := Tryz.zeroValue110
 t127 := Tryz.underlying137
 a127 := Tryz.isAgg137
 z127 := Tryz.sizeOf137
 v127 := Tryz.zeroValue137
 t164 := Tryz.underlying165
 a164 := Tryz.isAgg165
 z164 := Tryz.sizeOf165
 v164 := Tryz.zeroValue165 }
theorem Tryz.Builder_Extra_156 : Builder.Extra Tryz.prog Tryz.lays156_ren := {
 sizeBuilder := by kernel_rfl
 liesBuilder := by kernel_rfl
 t5 := Tryz.underlying5
 a5 := Tryz.isAgg5
 z5 := Tryz.sizeOf5
 v5 := Tryz.zeroValue5
 infoByte := by kernel_rfl
 cellsByte := by kernel_rfl
 sizeByte := by kernel_rfl
 neB5 := by decide }
open Go.RowKit in
theorem Tryz.strings_Join (bk o c : Nat) (xs : List ByteArray) (sep : ByteArray) (w : World) (hcells : ∀ (j : Nat) x, xs[j]? = some x → w.cell? ⟨bk, o + j, none⟩ = some (.string x)) (hbk : bk < w.heap.size) (hN : xs.length ≤ 140737488355328) (hcap : xs.length ≤ c) (hlen : (Lib.join (xs.map (·.data.toList)) sep.data.toList).length ≤ 140737488355328) :
  Calls Tryz.prog 53 #[.slice (some ⟨bk, o, none⟩) xs.length c, .string sep] w fun e w' => e = .returned (.string ⟨(Lib.join (xs.map (·.data.toList)) sep.data.toList).toArray⟩) ∧ Below w.heap.size w w' := Any.strings_Join Tryz.lays156 Tryz.Builder_Extra_156 bk o c xs sep w hcells hbk hN hcap hlen
def Tryz.lays145_ren : Go.Shelf.Ren := ⟨fun | 145 => 44 | 220 => 75 | 219 => 131 | 217 => 170 | 225 => 171 | 224 => 172 | 267 => 173 | 266 => 196 | 314 => 197 | n => n, fun | 9 => 9 | 4 => 4 | 59 => 78 | 3 => 3 | 5 => 5 | 46 => 96 | 146 => 192 | 51 => 191 | n => n, fun | 1 => 0 | n => n⟩
theorem Tryz.lays145 : Go.Proofs.Lays.n145 Tryz.prog Tryz.lays145_ren := {
 mixed := by kernel_rfl
 f145 := Tryz.func44.trans (congrArg some (by kernel_rfl))
 f217 := Tryz.func170.trans (congrArg some (by kernel_rfl))
 f219 := Tryz.func131.trans (congrArg some (by kernel_rfl))
 f220 := Tryz.func75.trans (congrArg some (by kernel_rfl))
 f224 := Tryz.func172.trans (congrArg some (by kernel_rfl))
 f225 := Tryz.func171.trans (congrArg some (by kernel_rfl))
 f266 := Tryz.func196.trans (congrArg some (by kernel_rfl))
 f267 := Tryz.func173.trans (congrArg some (by kernel_rfl))
 f314 := Tryz.func197.trans (congrArg some (by kernel_rfl))
 t3 := Tryz.underlying3
 a3 := Tryz.isAgg3
 z3 := Tryz.sizeOf3
 v3 := Tryz.zeroValue3
 t4 := Tryz.underlying4
 a4 := Tryz.isAgg4
 z4 := Tryz.sizeOf4
 v4 := Tryz.zeroValue4
 t5 := Tryz.underlying5
 a5 := Tryz.isAgg5
 z5 := Tryz.sizeOf5
 v5 := Tryz.zeroValue5
 t9 := Tryz.underlying9
 a9 := Tryz.isAgg9
 z9 := Tryz.sizeOf9
 v9 := Tryz.zeroValue9
 t46 := Tryz.underlying96
 a46 := Tryz.isAgg96
 z46 := Tryz.sizeOf96
 v46 := Tryz.zeroValue96
 t51 := Tryz.underlying191
 a51 := Tryz.isAgg191
 z51 := Tryz.sizeOf191
 v51 := Tryz.zeroValue191
 t59 := Tryz.underlying78
 a59 := Tryz.isAgg78
 z59 := Tryz.sizeOf78
 v59 := Tryz.zeroValue78
 t146 := Tryz.underlying192
 a146 := Tryz.isAgg192
 z146 := Tryz.sizeOf192
 v146 := Tryz.zeroValue192
 g1 := by kernel_rfl }
open Go.RowKit Go.Lib in
theorem Tryz.strings_Cut (s sep : ByteArray) (m : Int) (w : World) (hs : s.size < 4294967281) (hm : w.cell? ⟨0, 0, none⟩ = some (.int .i64 m)) :
  Calls Tryz.prog 44 #[.string s, .string sep] w fun e w' => e = .returned (.tuple #[.string ⟨(Lib.cut s.data.toList sep.data.toList).1.toArray⟩, .string ⟨(Lib.cut s.data.toList sep.data.toList).2.1.toArray⟩, .bool (Lib.cut s.data.toList sep.data.toList).2.2]) ∧ ∃ n, w' = w.drewN n := Any.strings_Cut Tryz.lays145 s sep m w hs hm
def Tryz.laysM145_ren : Go.Shelf.Ren := ⟨fun | 145 => 44 | 220 => 75 | 219 => 131 | 217 => 170 | 225 => 171 | 224 => 172 | 267 => 173 | 266 => 196 | 314 => 197 | n => n, fun | 9 => 9 | 4 => 4 | 59 => 78 | 3 => 3 | 5 => 5 | 46 => 96 | 146 => 192 | 51 => 191 | n => n, fun | 1 => 0 | n => n⟩
theorem Tryz.laysM145 : Go.Proofs.LaysM.n145 Tryz.prog Tryz.laysM145_ren := {
 mixed := by kernel_rfl
 f145 := Tryz.func44.trans (congrArg some (by kernel_rfl))
 f217 := Tryz.func170.trans (congrArg some (by kernel_rfl))
 f219 := Tryz.func131.trans (congrArg some (by kernel_rfl))
 f220 := Tryz.func75.trans (congrArg some (by kernel_rfl))
 f224 := Tryz.func172.trans (congrArg some (by kernel_rfl))
 f225 := Tryz.func171.trans (congrArg some (by kernel_rfl))
 f266 := Tryz.func196.trans (congrArg some (by kernel_rfl))
 f267 := Tryz.func173.trans (congrArg some (by kernel_rfl))
 f314 := Tryz.func197.trans (congrArg some (by kernel_rfl))
 t3 := Tryz.underlying3
 a3 := Tryz.isAgg3
 z3 := Tryz.sizeOf3
 v3 := Tryz.zeroValue3
 t4 := Tryz.underlying4
 a4 := Tryz.isAgg4
 z4 := Tryz.sizeOf4
 v4 := Tryz.zeroValue4
 t5 := Tryz.underlying5
 a5 := Tryz.isAgg5
 z5 := Tryz.sizeOf5
 v5 := Tryz.zeroValue5
 t9 := Tryz.underlying9
 a9 := Tryz.isAgg9
 z9 := Tryz.sizeOf9
 v9 := Tryz.zeroValue9
 t46 := Tryz.underlying96
 a46 := Tryz.isAgg96
 z46 := Tryz.sizeOf96
 v46 := Tryz.zeroValue96
 t51 := Tryz.underlying191
 a51 := Tryz.isAgg191
 z51 := Tryz.sizeOf191
 v51 := Tryz.zeroValue191
 t59 := Tryz.underlying78
 a59 := Tryz.isAgg78
 z59 := Tryz.sizeOf78
 v59 := Tryz.zeroValue78
 t146 := Tryz.underlying192
 a146 := Tryz.isAgg192
 z146 := Tryz.sizeOf192
 v146 := Tryz.zeroValue192
 g1 := by kernel_rfl
 i3 := by kernel_rfl
 i4 := by kernel_rfl
 i5 := by kernel_rfl
 i9 := by kernel_rfl
 i46 := by kernel_rfl
 i51 := by kernel_rfl
 i59 := by kernel_rfl
 i146 := by kernel_rfl
 m1 := by kernel_rfl
 s1_3 := fun w h => Go.Proofs.cell_of_shapedOpen_int (zero := #[.int .i64 0]) (t := 3) h (of_decide_eq_true (by kernel_rfl)) (by kernel_rfl) rfl (by kernel_rfl) (by kernel_rfl) Tryz.underlying3 }
open Go.RowKit Go.Lib in
def Tryz.lays155_ren : Go.Shelf.Ren := ⟨fun | 155 => 26 | 154 => 41 | 138 => 69 | 165 => 70 | 143 => 71 | 166 => 72 | 197 => 73 | 169 => 74 | 195 => 127 | 218 => 128 | 240 => 129 | 241 => 130 | 219 => 131 | 260 => 132 | 276 => 168 | 277 => 169 | 217 => 170 | 225 => 171 | 224 => 172 | 267 => 173 | 266 => 196 | 314 => 197 | n => n, fun | 9 => 9 | 3 => 3 | 4 => 4 | 72 => 106 | 0 => 0 | 76 => 110 | 105 => 82 | 21 => 21 | 5 => 5 | 70 => 104 | 20 => 20 | 37 => 84 | 75 => 109 | 127 => 137 | 164 => 165 | 46 => 96 | 119 => 169 | 139 => 172 | 138 => 171 | 146 => 192 | 51 => 191 | 80 => 112 | n => n, fun | 1 => 0 | 3 => 1 | 4 => 2 | n => n⟩
theorem Tryz.lays155 : Go.Proofs.Lays.n155 Tryz.prog Tryz.lays155_ren := {
 mixed := by kernel_rfl
 f138 := Tryz.func69.trans (congrArg some (by kernel_rfl))
 f143 := Tryz.func71.trans (congrArg some (by kernel_rfl))
 f154 := Tryz.func41.trans (congrArg some (by kernel_rfl))
 f155 := Tryz.func26.trans (congrArg some (by kernel_rfl))
 f165 := Tryz.func70.trans (congrArg some (by kernel_rfl))
 f166 := Tryz.func72.trans (congrArg some (by kernel_rfl))
 f169 := Tryz.func74.trans (congrArg some (by kernel_rfl))
 f195 := Tryz.func127.trans (congrArg some (by kernel_rfl))
 f197 := Tryz.func73.trans (congrArg some (by kernel_rfl))
 f217 := Tryz.func170.trans (congrArg some (by kernel_rfl))
 f218 := Tryz.func128.trans (congrArg some (by kernel_rfl))
 f219 := Tryz.func131.trans (congrArg some (by kernel_rfl))
 f224 := Tryz.func172.trans (congrArg some (by kernel_rfl))
 f225 := Tryz.func171.trans (congrArg some (by kernel_rfl))
 f240 := Tryz.func129.trans (congrArg some (by kernel_rfl))
 f241 := Tryz.func130.trans (congrArg some (by kernel_rfl))
 f260 := Tryz.func132.trans (congrArg some (by kernel_rfl))
 f266 := Tryz.func196.trans (congrArg some (by kernel_rfl))
 f267 := Tryz.func173.trans (congrArg some (by kernel_rfl))
 f276 := Tryz.func168.trans (congrArg some (by kernel_rfl))
 f277 := Tryz.func169.trans (congrArg some (by kernel_rfl))
 f314 := Tryz.func197.trans (congrArg some (by kernel_rfl))
 t0 := Tryz.underlying0
 a0 := Tryz.isAgg0
 z0 := Tryz.sizeOf0
 v0 := Tryz.zeroValue0
 t3 := Tryz.underlying3
 a3 := Tryz.isAgg3
 z3 := Tryz.sizeOf3
 v3 := Tryz.zeroValue3
 t4 := Tryz.underlying4
 a4 := Tryz.isAgg4
 z4 := Tryz.sizeOf4
 v4 := Tryz.zeroValue4
 t5 := Tryz.underlying5
 a5 := Tryz.isAgg5
 z5 := Tryz.sizeOf5
 v5 := Tryz.zeroValue5
 t9 := Tryz.underlying9
 a9 := Tryz.isAgg9
 z9 := Tryz.sizeOf9
 v9 := Tryz.zeroValue9
 t20 := Tryz.underlying20
 a20 := Tryz.isAgg20
 z20 := Tryz.sizeOf20
 v20 := Tryz.zeroValue20
 t21 := Tryz.underlying21
 a21 := Tryz.isAgg21
 z21 := Tryz.sizeOf21
 v21 := Tryz.zeroValue21
 t37 := Tryz.underlying84
 a37 := Tryz.isAgg84
 z37 := Tryz.sizeOf84
 v37 := Tryz.zeroValue84
 t46 := Tryz.underlying96
 a46 := Tryz.isAgg96
 z46 := Tryz.sizeOf96
 v46 := Tryz.zeroValue96
 t51 := Tryz.underlying191
 a51 := Tryz.isAgg191
 z51 := Tryz.sizeOf191
 v51 := Tryz.zeroValue191
 t70 := Tryz.underlying104
 a70 := Tryz.isAgg104
 z70 := Tryz.sizeOf104
 v70 := Tryz.zeroValue104
 t72 := Tryz.underlying106
 a72 := Tryz.isAgg106
 z72 := Tryz.sizeOf106
 v72 := Tryz.zeroValue106
 t75 := Tryz.underlying109
 a75 := Tryz.isAgg109
 z75 := Tryz.sizeOf109
 v75 := Tryz.zeroValue109
 t76 := Tryz.underlying110
 a76 := Tryz.isAgg110
 z76 := Tryz.sizeOf110
 v76 := Tryz.zeroValue110
 t105 := Tryz.underlying82
 a105 := Tryz.isAgg82
 z105 := Tryz.sizeOf82
 v105 := Tryz.zeroValue82
 t119 := Tryz.underlying169
 a119 := Tryz.isAgg169
 z119 := Tryz.sizeOf169
 t127 := Tryz.underlying137
 a127 := Tryz.isAgg137
 z127 := Tryz.sizeOf137
 v127 := Tryz.zeroValue137
 t138 := Tryz.underlying171
 a138 := Tryz.isAgg171
 z138 := Tryz.sizeOf171
 v138 := Tryz.zeroValue171
 t139 := Tryz.underlying172
 a139 := Tryz.isAgg172
 z139 := Tryz.sizeOf172
 v139 := Tryz.zeroValue172
 t146 := Tryz.underlying192
 a146 := Tryz.isAgg192
 z146 := Tryz.sizeOf192
 v146 := Tryz.zeroValue192
 t164 := Tryz.underlying165
 a164 := Tryz.isAgg165
 z164 := Tryz.sizeOf165
 v164 := Tryz.zeroValue165
 g1 := by kernel_rfl
 g3 := by kernel_rfl
 g4 := by kernel_rfl }
theorem Tryz.Builder_Extra_155 : Builder.Extra Tryz.prog Tryz.lays155_ren := {
 sizeBuilder := by kernel_rfl
 liesBuilder := by kernel_rfl
 t5 := Tryz.underlying5
 a5 := Tryz.isAgg5
 z5 := Tryz.sizeOf5
 v5 := Tryz.zeroValue5
 infoByte := by kernel_rfl
 cellsByte := by kernel_rfl
 sizeByte := by kernel_rfl
 neB5 := by decide }
open Go.RowKit Go.Lib in
theorem Tryz.strings_ReplaceAll (s old new : ByteArray) (m : Int) (w : World) (hs : s.size < 4294967281) (hm : w.cell? ⟨0, 0, none⟩ = some (.int .i64 m)) (h1 : 1 ≤ old.size) (hlen : s.size + Lib.countB s old * new.size ≤ 140737488355328) :
  Calls Tryz.prog 26 #[.string s, .string old, .string new] w fun e w' =>
   e = .returned (.string ⟨(Lib.replaceAll s.data.toList old.data.toList new.data.toList).toArray⟩) ∧ Below w.heap.size w w' := Any.strings_ReplaceAll Tryz.lays155 Tryz.Builder_Extra_155 s old new m w hs hm h1 hlen
end Go.Proofs
section
namespace Go.AE
open Go.Proofs
set_option maxRecDepth 20000
theorem ZV : ∀ {w : World} {F : Nat → Prop} {xs : List Value} {vs : List Value}, aF w F [] (xs.map AV.v) vs → vs = xs
 | _, _, [], _, h => by cases h; rfl
 | _, _, x :: xs, _, h => by
  cases h with
  | cons h1 h2 => rw [h1.v_inv, ZV h2]
theorem z1o {P : Program} {f : FuncId} {xs : List Value} {r : AV} {v : Value} (hf : ∃ fn, P.funcs[f]? = some fn ∧ fn.body.isSome = true ∧ (fn.name == "runtime.NumGoroutine") = false)
  (hr : ∀ w F, aH w F [] r v) (hi : imp 0 r = (r, []))
  (h : ∀ (w : World) (F : Nat → Prop), fK P w F → Calls P f xs.toArray w fun e w' => e = .returned v ∧ d7 w w') : aG P f (xs.map AV.v) r := by
 refine ⟨hf, fun w F vs hF hT hvs => ?_⟩
 rw [ZV hvs]
 refine (h w F hT).mono ?_
 rintro e w' ⟨rfl, hg⟩
 refine ⟨v, F, [], rfl, hg, fun _ h => h, fun b hb => ⟨.inl hb, Nat.lt_of_lt_of_le (hF b hb) hg.size⟩, by rw [hi]; exact hr _ _, by rw [hi]; exact ⟨rfl, by simp, by simp, by simp⟩, by simp⟩
theorem zef (w : World) (n : Nat) : d7 w (w.drewN n) := ⟨rfl, rfl, rfl, Nat.le_refl _, fun _ _ => rfl⟩
theorem z29 {P : Program} {w : World} {F : Nat → Prop} (h : fK P w F) {g : Nat} (hlt : g < P.globals.size) (hs : ∀ u : World, u.ShapedOpen P → ∃ m, u.cell? ⟨g, 0, none⟩ = some (.int .i64 m)) : ∃ m, w.cell? ⟨g, 0, none⟩ = some (.int .i64 m) := by
 obtain ⟨u, h1, h2⟩ := h
 obtain ⟨m, hm⟩ := hs u (h1 (by omega)).1
 exact ⟨m, (World.cell?_of_block (a := ⟨g, 0, none⟩) (h2 g hlt).2.2).trans hm⟩
theorem zke (s t : List UInt8) (hs : s.length < 4294967281) : aG Tryz.prog 44 [Sv s, Sv t] (.tup [Sv (Lib.cut s t).1, Sv (Lib.cut s t).2.1, Bv (Lib.cut s t).2.2]) := by
 refine z1o (xs := [.string ⟨s.toArray⟩, .string ⟨t.toArray⟩]) ⟨_, Tryz.func44, rfl, by decide +kernel⟩ (fun w F => .tup (.cons (.v _) (.cons (.v _) (.cons (.v _) .nil)))) rfl fun w F hT => ?_
 obtain ⟨m, hm⟩ := z29 hT (g := 0) (by decide +kernel) fun u hu => Tryz.laysM145.s1_3 u hu
 refine (Tryz.strings_Cut ⟨s.toArray⟩ ⟨t.toArray⟩ m w (by show s.toArray.size < _; simpa using hs) hm).mono ?_
 rintro e w' ⟨rfl, k, rfl⟩
 exact ⟨rfl, zef w k⟩
end Go.AE
end
section
set_option linter.unusedVariables false
namespace Go.AE
open Go.Proofs Go.RowKit Go.Maps Go.Sort Go.Shelf
variable {P : Program} {ρ : Ren}
def MQ {β : Type} (B0 : Nat) (J : β → World → Prop) : Prop := ∀ s A B row, J s A → A.grownBy B row → (∀ r, row = some r → r = B0) → J s B
structure oW (B0 : Nat) (w w' : World) : Prop where
 size : w'.heap.size = w.heap.size
 heap : ∀ k, k ≠ B0 → w'.heap[k]? = w.heap[k]?
 os : w'.os = w.os
 tape : w'.tape = w.tape
 output : w'.output = w.output
theorem oW.refl (B0 : Nat) (w : World) : oW B0 w w := ⟨rfl, fun _ _ => rfl, rfl, rfl, rfl⟩
theorem oW.set {B0 : Nat} {w w' : World} (h : oW B0 w w') (o : Obj) : oW B0 w { w' with heap := w'.heap.setIfInBounds B0 o } :=
 ⟨by simpa using h.size, fun k hk => by
  rw [← h.heap k hk]
  exact Array.getElem?_setIfInBounds_ne (fun e => hk e.symm), h.os, h.tape, h.output⟩
def ApG (ρ : Ren) (w : World) (B0 : Nat) (fn : FuncId) (sv : Value) (Bs l D : Nat) (s : List (List UInt8)) (W : World) : Prop :=
 ∃ w', oW B0 w w' ∧ AnyZ.ApAt ρ w' fn sv Bs l D s W
theorem z9b {w : World} {B0 : Nat} {fn : FuncId} {sv : Value} {Bs l D : Nat} (hB0 : B0 < w.heap.size) (hBs : w.heap.size ≤ Bs) (hl : w.heap.size ≤ l) (hD : w.heap.size ≤ D) : MQ B0 (ApG ρ w B0 fn sv Bs l D) := by
 rintro s A B row ⟨w', hg, h⟩ hgr hrow
 obtain ⟨v, hv, hr, hn⟩ := h.box
 have hsz := h.below.size
 have hgs := hgr.size
 have hw := hg.size
 have keep : ∀ k, k ≠ B0 → k < A.heap.size → B.heap[k]? = A.heap[k]? := fun k h1 h2 => hgr.block k h2 fun e => h1 (hrow k e.symm)
 have hB : B0 < B.heap.size := by omega
 have lt : ∀ {k : Nat} {o : Obj}, A.heap[k]? = some o → k < A.heap.size := fun h => (Array.getElem?_eq_some_iff.1 h).1
 refine ⟨{ w' with heap := w'.heap.setIfInBounds B0 B.heap[B0] }, hg.set _, ⟨⟨v, (keep Bs (by omega) (lt hv)).trans hv, ?_, hn⟩, (keep l (by omega) (lt h.L)).trans h.L, (keep D (by omega) (lt h.K)).trans h.K, ?_⟩⟩
 ·have hk := hr.kept hgr (by
   rcases hr.2 with ⟨rfl, _⟩ | ⟨g, cap, cur, rfl, hbg, hgb, _⟩
   ·exact .inl rfl
   ·refine .inr fun e => ?_
    have := hrow g (by simpa [Value.ownBlock] using e.symm)
    omega)
  simpa using hk
 ·refine ⟨hgr.os.trans h.below.os, hgr.tape.trans h.below.tape, hgr.output.trans h.below.output, by simpa using Nat.le_trans hsz hgs, fun k hk => ?_⟩
  have hk' : k < w'.heap.size := by simpa using hk
  by_cases e : k = B0
  ·subst e
   show B.heap[k]? = (w'.heap.setIfInBounds k B.heap[k])[k]?
   rw [Array.getElem?_setIfInBounds_self_of_lt hk', Array.getElem?_eq_getElem hB]
  ·show B.heap[k]? = (w'.heap.setIfInBounds B0 B.heap[B0])[k]?
   rw [Array.getElem?_setIfInBounds_ne (fun e2 => e e2.symm), keep k e (by omega)]
   exact h.below.block k hk'
def KpB (n : Nat) (W W' : World) : Prop := W'.os = W.os ∧ W'.tape = W.tape ∧ W'.output = W.output ∧ W.heap.size ≤ W'.heap.size ∧ ∀ k, k < n → W'.heap[k]? = W.heap[k]?
theorem fD.keepAt {w0 w w' : World} {r : lD} (h : fD w0 w r) (hb : w'.heap[r.b]? = w.heap[r.b]?) : fD w0 w' r := by
 obtain ⟨c0, c, e, fz, h1, h2, h3⟩ := h
 exact ⟨c0, c, e, fz, h1, hb.trans h2, h3⟩
theorem fD.self {w : World} {b o : Nat} {vs : List Value} {r : lD} (h : eI w b o vs) (hr : r.b = b) : fD w w r := by
 obtain ⟨c, e, fz, h1, _⟩ := h
 subst hr
 exact ⟨c, c, e, fz, h1, h1, rfl, fun _ _ => rfl⟩
theorem zg0 {N : Nat} {C : bI} (r : Option Nat) (m : Nat) (hC : C.Ok P) {ops : Array Oper} {Q : Exit → Act → World → Prop} {rest : List Oper} {a : Act} {w : World} {t : Nat} {i : TI} (hi : C.ti t = some i) (hsz : i.size = 1) {o : Oper} {p x : Operand} (hg : o.guard = none) (ho : o.op = .store t p x) (hd : o.dst = none)
  {b off : Nat} {v u : Value} (hp : a.eval p = .pointer (some ⟨b, off, none⟩)) (hx : a.eval x = v) (hv : v.oneCell' = true) (hvc : v.cells = #[v]) (hrow : eI w b off [u])
  (next : ∀ w', xD b off v w w' → (∀ w0, fD w0 w ⟨b, off, off + 1⟩ → fD w0 w' ⟨b, off, off + 1⟩) → wpListIn (fr r) m P ops Q rest a w') :
  wpListIn (fr r) m P ops Q (o :: rest) a w := by
 have key : ∃ w', (execOp a.eval o).run P w = .ok .skip w' ∧ xD b off v w w' ∧ ∀ w0, fD w0 w ⟨b, off, off + 1⟩ → fD w0 w' ⟨b, off, off + 1⟩ := by
  obtain ⟨c, e, fz, h2, h3, h4, h5, h6⟩ := hrow
  have q1 := zZ (P := P) (w0 := w) (off := 0) (us := [v]) (b := b) (o := off) (vs := [u]) (w := w) ⟨c, e, fz, h2, h3, h4, h5, h6⟩ (by simp) (by simpa using hv)
  have q2 : ∀ w0, ∃ w2, (storeCells ⟨b, off + 0, none⟩ [v] 0).run P w = .ok () w2 ∧ (∀ r : lD, r.b = b → r.lo = off → r.hi = off + 1 → fD w0 w r → fD w0 w2 r) := fun w0 => by
   obtain ⟨w2, r0, r1, r2, r3, r4, r5, r6, r7⟩ := zZ (P := P) (w0 := w0) (off := 0) (us := [v]) (b := b) (o := off) (vs := [u]) (w := w) ⟨c, e, fz, h2, h3, h4, h5, h6⟩ (by simp) (by simpa using hv)
   exact ⟨w2, r0, r7⟩
  obtain ⟨w2, r0, r1, r2, r3, r4, r5, r6, r7⟩ := q1
  have hs := EW hC hi (b := ⟨b, off, none⟩) (v := v) (by rw [hvc, hsz]; rfl) w2 (by rw [hvc]; simpa using r0)
  refine ⟨w2, ?_, ⟨r1, r2, r3, r4, r5, by simpa using r6⟩, fun w0 hk => ?_⟩
  ·simp [execOp, ho, hp, hx, hs]
  ·obtain ⟨w3, s0, s1⟩ := q2 w0
   rw [r0] at s0
   cases s0
   exact s1 _ rfl rfl rfl hk
 obtain ⟨w', h1, h2, h3⟩ := key
 refine wpListIn_plain hg fun K hK => ⟨fun _ _ => trivial, ?_⟩
 rw [l0 r a.eval o (fun c e => by rw [ho] at e; cases e), h1, Oper.uponIn_skip, hd]
 exact hK _ _ (next w' h2 h3)
def MP (F : Fence) (n : Nat) (P : Program) (g : Nat) (lb : Array Value) (B0 o0 : Nat) (xs : List (List UInt8)) (N : Nat) (w : World) : Prop :=
 ∀ (l : Nat) (J : List (List UInt8) → World → Prop) (W : World), Below w.heap.size w W → MQ B0 J →
  (∀ pre x W1, J pre W1 → pre.length < N → YieldAt F (n - 1) P l #[encStr x] W1 fun e W' => e = .returned (.bool true) ∧ J (pre ++ [x]) W' ∧ KpB w.heap.size W1 W') →
  J [] W → CallsIn F n P g (#[.func (.yield l) #[] #[]] ++ lb) W fun e W' => (∃ v, e = .returned v) ∧ J xs W' ∧ (∃ v, eI W' B0 o0 [v]) ∧ fD w W' ⟨B0, o0, o0 + 1⟩
end Go.AE
end
section
set_option linter.unusedVariables false
namespace Go.Proofs
open Go.RowKit Go.Maps Go.Sort Go.Shelf Go.AE
variable {P : Program} {ρ : Ren}
set_option maxRecDepth 100000 in
set_option maxHeartbeats 2000000 in
theorem z9e (L : SlLaysZ.n11 P ρ) (F : Fence) (n : Nat) (h11 : F.fn (ρ.f 11)) (hro : F.round = none) (hn : 2 ≤ n) (g : Nat) (lb : Array Value) (hFg : F.fn g) (eg : ∀ args w, (callFunc g args).run P w = .ok (.enter g args) w)
  (B0 o0 : Nat) (xs : List (List UInt8)) (N : Nat) (hN : N ≤ maxLen) (hNb : N * 16 ≤ 140737488355328) (w : World) (hB0 : B0 < w.heap.size) (hseq : MP F (n - 1) P g lb B0 o0 xs N w) :
  CallsIn F n P (ρ.f 11) #[.slice none 0 0, .func (.func g) #[] lb] w fun e w' => ∃ v : Value, e = .returned v ∧ w'.ownsRow w.heap.size (ρ.t 26) 1 v xs.length (xs.map encStr) ∧ (∃ w2, oW B0 w w2 ∧ Below w.heap.size w2 w') ∧ (∃ v, eI w' B0 o0 [v]) ∧ fD w w' ⟨B0, o0, o0 + 1⟩ := by
 have h1 : 1 ≤ n := by omega
 have mixed := L.mixed; have t0 := L.t0; have a0 := L.a0; have z0 := L.z0; have v0 := L.v0; have t24 := L.t24; have a24 := L.a24; have z24 := L.z24; have v24 := L.v24; have t26 := L.t26; have a26 := L.a26; have z26 := L.z26; have v26 := L.v26; have t28 := L.t28; have a28 := L.a28; have z28 := L.z28; have v28 := L.v28
 have hne : ρ.t 24 ≠ ρ.t 26 := fun e => by have h := L.t24; rw [e, L.t26] at h; cases h
 have u0 := run_underlying L.t0; have u24 := run_underlying L.t24; have u26 := run_underlying L.t26; have u28 := run_underlying L.t28
 obtain ⟨_, _, FG⟩ := L.f11
 refine callsIn_of_wp_marks FG rfl h11 ?_ hro
 simp only [SlBodyZ.n11_ntmps ρ, List.size_toArray, List.length_cons, List.length_nil, Nat.reduceAdd, Nat.reduceSub, Array.replicate_succ, Array.replicate_zero, List.push_toArray, List.append_toArray, List.nil_append, List.cons_append]
 gi_wp2
 refine wpIn_rangeFunc ?_
 intro fn hfn
 rw [hro]
 obtain ⟨W0, hW0⟩ : ∃ W0, w.alloc (.cells #[.slice none 0 0] (ρ.t 24)) = W0 := ⟨_, rfl⟩
 have hs0 : W0.heap.size = w.heap.size + 1 := by rw [← hW0]; simp
 have hv0 : W0.heap[w.heap.size]? = some (.cells #[.slice none 0 0] (ρ.t 24) (0, 0)) := by rw [← hW0]; exact World.alloc_heap_new w _
 have hb0 : Below w.heap.size w W0 := by rw [← hW0]; exact (Below.refl _ w).alloc (Nat.le_refl _) _
 rw [hW0]
 obtain ⟨W1, hW1⟩ : ∃ W1, (W0.alloc (.deferred (some []))).alloc (.loop (AnyZ.apRec ρ fn (.func (.func g) #[] lb) w.heap.size W0.heap.size .ready none)) = W1 := ⟨_, rfl⟩
 have hold : ∀ k, k < W0.heap.size → W1.heap[k]? = W0.heap[k]? := fun k hk => by
  rw [← hW1]; exact (Below.heap_alloc _ _ k (by simp; omega)).trans (Below.heap_alloc _ _ k hk)
 have hb1 : Below w.heap.size w W1 := by rw [← hW1]; exact (hb0.alloc hb0.size _).alloc (by have := hb0.size; simp; omega) _
 have hM : AnyZ.ApAt ρ w fn (.func (.func g) #[] lb) w.heap.size (W0.heap.size + 1) W0.heap.size [] W1 :=
  ⟨⟨_, (hold w.heap.size (by omega)).trans hv0, ⟨rfl, .inl ⟨rfl, rfl⟩⟩, by simp⟩,
   by rw [← hW1]; have := World.alloc_heap_new (W0.alloc (.deferred (some []))) (.loop (AnyZ.apRec ρ fn (.func (.func g) #[] lb) w.heap.size W0.heap.size .ready none)); rwa [World.size_alloc] at this,
   by rw [← hW1]; exact (Below.heap_alloc _ _ _ (by simp)).trans (World.alloc_heap_new W0 _), hb1⟩
 refine ⟨W0.heap.size + 1, [{ target := .collected W0.heap.size, args := #[] }], W1, { target := .fn (.func g) lb, args := #[.func (.yield (W0.heap.size + 1)) #[] #[]] }, W1, g,
  #[.func (.yield (W0.heap.size + 1)) #[] #[]] ++ lb, W1, ?_, ?_, ?_, ?_, fun _ => h1, ?_⟩
 ·rw [← hW1]; exact run_enterLoop_outer _ _ _ _ _
 ·simp [resolve, go_sem]
 ·intro f' hf'; simp [Target.leads] at hf'; subst hf'; exact hFg
 ·simp [invoke, go_sem, eg]
 ·refine (hseq (W0.heap.size + 1) (ApG ρ w B0 fn (.func (.func g) #[] lb) w.heap.size (W0.heap.size + 1) W0.heap.size) W1 hb1 (z9b hB0 (by omega) (by omega) (by omega))
   (fun pre x W hJ hl => ?_) ⟨w, oW.refl _ _, hM⟩).mono ?_
  ·obtain ⟨w', hg, hA⟩ := hJ
   have hgs := hg.size
   obtain ⟨fn2, tmps, assign, body, hy, hR⟩ := AnyZ.apYield { L with } F (n - 1 - 1) w' fn hfn (.func (.func g) #[] lb) w.heap.size (W0.heap.size + 1) W0.heap.size (by omega) (by omega) (by omega) (by omega) (by omega) N hN hNb pre x W hA hl
   refine ⟨fn2, tmps, assign, body, hy, hR.mono ?_⟩
   rintro e W' ⟨rfl, hA', hk⟩
   exact ⟨rfl, ⟨w', hg, hA'⟩, hA'.below.os.trans hA.below.os.symm, hA'.below.tape.trans hA.below.tape.symm, hA'.below.output.trans hA.below.output.symm, hk.size, fun k hk => (hA'.below.block k (by omega)).trans (hA.below.block k (by omega)).symm⟩
  ·rintro e W2 ⟨⟨v0, rfl⟩, ⟨w2, hg, h2⟩, ⟨vB, hrB⟩, hkB⟩
   have hgs := hg.size
   obtain ⟨v, hv, hrow, hnil⟩ := h2.box
   have hend := run_endLoop (P := P) h2.L (by simp [AnyZ.apRec])
   obtain ⟨W3, hW3⟩ : ∃ W3, W2.putObj (W0.heap.size + 1) (.loop { AnyZ.apRec ρ fn (.func (.func g) #[] lb) w.heap.size W0.heap.size .ready none with state := .exhausted }) = W3 := ⟨_, rfl⟩
   rw [hW3] at hend
   have hg3 : W2.grownBy W3 (some (W0.heap.size + 1)) := by rw [← hW3]; exact grownBy_putObj_a _ _ _
   have hv3 : W3.heap[w.heap.size]? = some (.cells #[v] (ρ.t 24) (0, 0)) := by rw [← hW3]; exact (World.putObj_heap_other (by omega)).trans hv
   have hK3 : W3.heap[W0.heap.size]? = some (.deferred (some [])) := by rw [← hW3]; exact (World.putObj_heap_other (by omega)).trans h2.K
   have hrow3 := hrow.kept hg3 (ownsRow_ne_a hrow h2.L (fun cur e => by first | cases e | exact hne (Obj.cells.inj e).2.1))
   have hb3 : Below w2.heap.size w2 W3 := h2.below.grown hg3 h2.below.size (fun k e => by cases e; omega)
   have hB3 : W3.heap[B0]? = W2.heap[B0]? := by rw [← hW3]; exact World.putObj_heap_other (by omega)
   have hrB3 : eI W3 B0 o0 [vB] := hrB.keepAt hB3
   have hkB3 : fD w W3 ⟨B0, o0, o0 + 1⟩ := hkB.keepAt hB3
   obtain ⟨hc3, hf3⟩ := cell_of_box_a hv3
   clear hW3
   refine ⟨none, W3, hend, ?_⟩
   gi_wp2
   rw [← hs0]
   refine ⟨by simp, .inl ⟨_, _, rfl, run_takeDeferred hK3, ?_⟩⟩
   refine ⟨_, results_tmp rfl _ _ _, v, rfl, ?_, ⟨w2, hg, ?_⟩, ⟨vB, hrB3.keepAt (World.putObj_heap_other (by omega))⟩, hkB3.keepAt (World.putObj_heap_other (by dsimp only; omega))⟩
   ·have := hrow3.kept (grownBy_putObj_a W3 W0.heap.size (.deferred none)) (ownsRow_ne_a hrow3 hK3 (fun cur e => by first | cases e | exact hne (Obj.cells.inj e).2.1))
    rw [hgs] at this; exact this
   ·have := hb3.grown (grownBy_putObj_a W3 W0.heap.size (.deferred none)) hb3.size (fun k e => by cases e; omega)
    rw [hgs] at this; exact this
end Go.Proofs
end
section
namespace Go.AE
open Go.Proofs
set_option maxRecDepth 20000
set_option maxHeartbeats 8000000
set_option linter.unusedSimpArgs false
theorem zjj {w : World} {b o : Nat} {v : Value} (h : eI w b o [v]) : w.cell? ⟨b, o, none⟩ = some v := by
 have := (wM h).2.1 0 (by simp)
 simpa using this
def FE (B0 o0 : Nat) (w : World) : Nat := match w.cell? ⟨B0, o0, none⟩ with | some (.string b) => b.size | _ => 0
theorem z27 {B0 o0 : Nat} {w : World} {s : List UInt8} (h : eI w B0 o0 [.string ⟨s.toArray⟩]) : FE B0 o0 w = s.length := by
 unfold FE
 rw [zjj h]
 rfl
theorem zb9 {s : List UInt8} (h : Lib.index s [46] = -1) : Lib.cut s [46] = (s, [], false) := by
 unfold Lib.cut; rw [if_neg (by omega)]
theorem zbb {s : List UInt8} {i : Nat} (h : Lib.index s [46] = i) : Lib.cut s [46] = (s.take i, s.drop (i + 1), true) := by
 unfold Lib.cut
 rw [if_pos (by omega), h, Int.toNat_natCast]; rfl
theorem xW {P Q R S : Prop} (a : Q) (b : R) (c : S) (h : Mk P → bD Q → bD R → bD S → P := by
 intro m q r s
 repeat' first | refine aM (by first | assumption | (apply_assumption <;> omega)) ?_ ?_ | refine cM.fit (by assumption) ?_ | simp (maxSteps := 4000000) (disch := omega) only [aZ, aY, bun, ↓aW, ↓aV, aO, findLabel, ↓reduceIte, imp, shift, aR, aJ, unown, names, aQ, below, aD, aC, aT, aU, aS, ren, aN, aP, aX, renO, belowM, seval, -Int.reduceToNat, bT, b9, Int.reduceToNat, List.map_nil, List.nil_append, lM, *] | exact bH _ | refine bG _ _ ?_ | exact bC.cl | refine bE _ ?_ | refine bF _ _ ?_ ?_ | refine bA _ ?_ | refine fkx ?_ tru <;> intro hg | refine fkx ?_ ?_ <;> intro hg | exact fkx tru tru | refine And.intro (by omega) ?_ | omega
 first
 | done
 | all_goals (repeat revert hg)
   exact q.out
   first
   | done
   | exact r.out
     first
     | done
     | exact s.out
       first | done | fail) : P := h ⟨tru⟩ ⟨a⟩ ⟨b⟩ ⟨c⟩
theorem zi8 (f : List UInt8) (hf : f.length ≤ 1000000) (n : Nat) (w : World) (F : Nat → Prop) (hT : fK Tryz.prog w F) (hF : ∀ b, F b → b < w.heap.size) (B0 o0 : Nat) (hB : B0 < w.heap.size) (hFB : ¬ F B0) (hbox : eI w B0 o0 [.string ⟨f.toArray⟩]) :
  MP (fr none) n Tryz.prog 43 #[.pointer (some ⟨B0, o0, none⟩)] B0 o0 (pcs f) (f.length + 1) w := by
 skip
 intro l J W hW hJ hY h0
 obtain ⟨yv, hyv⟩ : ∃ yv : Value, yv = .func (.yield l) #[] #[] := ⟨_, rfl⟩
 obtain ⟨pv, hpv⟩ : ∃ pv : Value, pv = .pointer (some ⟨B0, o0, none⟩) := ⟨_, rfl⟩
 have grow : ∀ {w1 w2 : World} {s : List (List UInt8)}, d7 w1 w2 → J s w1 → J s w2 := fun h hj => hJ _ _ _ none hj ⟨h.os, h.tape, h.output, h.size, fun k hk _ => h.block k hk⟩ (fun r e => by cases e)
 refine callsIn_of_wp Tryz.func43 rfl trivial ?_
 rw [show Tryz.f43.ntmps = 21 from Tryz.ntmps43]
 rw [show (#[Value.func (.yield l) #[] #[]] ++ #[.pointer (some ⟨B0, o0, none⟩)] : Array Value) = [yv, pv].toArray by rw [hyv, hpv]; rfl]
 have hFF : ∀ (w1 : World), (∀ k, k < w.heap.size → k ≠ B0 → w1.heap[k]? = w.heap[k]?) → w.heap.size ≤ w1.heap.size → fK Tryz.prog w1 (fun b => b = B0 ∨ F b) ∧ ∀ b, b = B0 ∨ F b → b < w1.heap.size := by
  intro w1 h1 h2
  have hl : ∀ b, b = B0 ∨ F b → b < w1.heap.size := by
   rintro b (rfl | hb)
   ·omega
   ·have := hF b hb; omega
  refine ⟨?_, hl⟩
  obtain ⟨u, k1, k2⟩ := hT
  refine ⟨u, k1, fun b hb => ⟨.inr (k2 b hb).1, hl b (.inr (k2 b hb).1), (h1 b (k2 b hb).2.1 fun e => hFB (e ▸ (k2 b hb).1)).trans (k2 b hb).2.2⟩⟩
 refine wpIn_block (wpIn_loop (fun a w1 => ∃ (dn : List (List UInt8)) (s : List UInt8), pcs f = dn ++ pcs s ∧ dn.length + s.length ≤ f.length ∧ a.defers = [] ∧ a.tmps.size = 21 ∧ a.tmps.getD 0 undef = yv ∧ a.tmps.getD 1 undef = pv ∧ J dn w1 ∧ eI w1 B0 o0 [.string ⟨s.toArray⟩] ∧ (∀ k, k < w.heap.size → k ≠ B0 → w1.heap[k]? = w.heap[k]?) ∧ w.heap.size ≤ w1.heap.size ∧ fD w w1 ⟨B0, o0, o0 + 1⟩)
  (fun _ w1 => FE B0 o0 w1) ⟨[], f, by simp, by simp, rfl, by simp, by simp [Array.getD_eq_getD_getElem?], by simp [Array.getD_eq_getD_getElem?], h0, hbox.keepAt (hW.block B0 hB), fun k hk _ => hW.block k hk, hW.size, (fD.self hbox rfl).keepAt (hW.block B0 hB)⟩ ?_)
 rintro a1 w1 ⟨dn, s, hp, hsl, d1, n1, g10, g11, hj1, hrow1, hfr1, hsz1, hkp1⟩
 obtain ⟨hT1, hF1⟩ := hFF w1 hfr1 hsz1
 have h1 := E0 (N := 21) (a := a1) [(0, yv), (1, pv)] hT1 hF1 n1 (by
  intro kv hkv
  simp only [List.mem_cons, List.not_mem_nil, or_false] at hkv
  rcases hkv with rfl | rfl
  ·exact g10
  ·exact g11)
 have hrep : aH w1 (fun b => b = B0 ∨ F b) [] (.cp [Sv s]) pv := by rw [hpv]; exact .cp (.inl rfl) (wM hrow1) (.cons (.v _) .nil)
 have hc := zke s [46] (by omega)
 obtain ⟨part, rest, more, hcut⟩ : ∃ part rest more, Lib.cut s [46] = (part, rest, more) := ⟨_, _, _, rfl⟩
 rw [hcut] at hc
 refine wpIn_block (wpIn_seq (wpIn_region_lit ?_))
 refine yX none n bZ (t := 9) AZ rfl rfl rfl rfl h1 (by rw [h1.atv (k := 1) (v := pv) rfl]; exact hrep) ?_
 intro a2 h2
 refine yW none n bZ (dQ (fun s' => wk s' ⟨[(0, .v yv), (1, .v pv), (3, Sv part), (4, Sv rest), (5, Bv more)], []⟩) (fun _ _ => False) (fun _ => False)) (by decide) h2 ?_ ?_
 ·refine xW ?_ tru tru <;> intros
  exact bN
 rintro a3 w3 ⟨s3, G3, F3, hk3, h3⟩
 have h3' := h3.weak hk3
 have hg3 := h3.grown
 refine wpIn_seq (wpIn_seq (wpIn_region_lit ?_))
 refine vM none n 2 bZ (dQ (fun s' => wk s' ⟨[(0, .v yv), (1, .v pv), (4, Sv rest), (5, Bv more), (12, .v yv), (13, Sv part)], []⟩) (fun _ _ => False) (fun _ => False)) (by decide) h3' ?_ ?_
 ·refine xW ?_ tru tru <;> intros
  exact bN
 rintro a4 w4 ⟨s4, G4, F4, hk4, h4⟩
 have h4' := h4.weak hk4
 have hg4 := h4.grown
 have hj4 := grow hg4 hj1
 have hargs : #[Operand.tmp 13].map a4.eval = #[encStr part] := by
  have e1 := h4'.atv (k := 13) rfl
  simp only [encStr, Act.eval, List.map_toArray, List.map_cons, List.map_nil, e1]
 have hlen : dn.length < f.length + 1 := by omega
 refine D3 none n rfl rfl (l := l) ((h4'.atv (k := 12) rfl).trans hyv) hargs (hY dn part w4 hj4 hlen) ?_
 rintro e5 w5 ⟨rfl, hj5, hk5⟩
 refine ⟨_, rfl, ?_⟩
 obtain ⟨k1, k2, k3, k4, k5⟩ := hk5
 have hfr5 : ∀ k, k < w.heap.size → k ≠ B0 → w5.heap[k]? = w.heap[k]? := fun k h1 h2 => (k5 k h1).trans ((hg4.block k (by omega)).trans (hfr1 k h1 h2))
 have hsz5 : w.heap.size ≤ w5.heap.size := by have := hg4.size; omega
 have hrow5 : eI w5 B0 o0 [.string ⟨s.toArray⟩] := hrow1.keepAt ((k5 B0 hB).trans (hg4.block B0 (by omega)))
 have hkp5 : fD w w5 ⟨B0, o0, o0 + 1⟩ := hkp1.keepAt ((k5 B0 hB).trans (hg4.block B0 (by omega)))
 obtain ⟨hT5, hF5⟩ := hFF w5 hfr5 hsz5
 have h9 := h4'.putD (d := some 14) (x := Bv true) (v := .bool true) rfl (.v _)
 have h5 := E0 (N := 21) (a := a4.put (some 14) (.bool true)) [(0, yv), (1, pv), (4, .string ⟨rest.toArray⟩), (5, .bool more), (14, .bool true)] hT5 hF5 h9.tsize (by
  intro kv hkv
  simp only [List.mem_cons, List.not_mem_nil, or_false] at hkv
  rcases hkv with rfl | rfl | rfl | rfl | rfl <;> exact h9.atv rfl)
 refine yW none n bZ (dQ (fun s' => wk s' ⟨[(0, .v yv), (1, .v pv), (4, Sv rest), (19, Bv (!more))], []⟩) (fun _ _ => False) (fun _ => False)) (by decide) h5 ?_ ?_
 ·cases more
  ·refine xW ?_ tru tru <;> intros
   exact bN
  ·refine xW ?_ tru tru <;> intros
   exact bN
 rintro a6 w6 ⟨s6, G6, F6, hk6, h6⟩
 have h6' := h6.weak hk6
 have hg6 := h6.grown
 have hj6 := grow hg6 hj5
 have hd6 : a6.defers = [] := h6.defers.trans (h9.defers.trans d1)
 by_cases hi : Lib.index s [46] = -1
 ·have e := zb9 hi
  rw [hcut] at e
  obtain ⟨rfl, rfl, rfl⟩ : part = s ∧ rest = [] ∧ more = false := by simpa using e
  refine wpIn_cond_true (h6'.atv (k := 19) rfl) (wpIn_ret ?_)
  refine ⟨hd6, _, results_none rfl _ _ _, ⟨_, rfl⟩, ?_, ⟨_, hrow5.keepAt (hg6.block B0 (by omega))⟩, hkp5.keepAt (hg6.block B0 (by omega))⟩
  rw [hp, XQ part hi]
  exact hj6
 ·have hg := Lib.index_ge s [46]
  obtain ⟨i, hi2⟩ : ∃ i : Nat, Lib.index s [46] = i := ⟨(Lib.index s [46]).toNat, by omega⟩
  have hr := Lib.index_room s [46] (by omega)
  have e := zbb hi2
  rw [hcut] at e
  obtain ⟨rfl, rfl, rfl⟩ : part = s.take i ∧ rest = s.drop (i + 1) ∧ more = true := by simpa using e
  refine wpIn_cond_false (h6'.atv (k := 19) rfl) (wpIn_skip ?_)
  have h6p := h6'.atv (k := 1) (v := pv) rfl
  refine wpIn_region_lit ?_
  refine vM none n 1 bZ (dQ (fun s' => wk s' ⟨[(0, .v yv), (1, .v pv), (20, Sv (s.drop (i + 1)))], []⟩) (fun _ _ => False) (fun _ => False)) (by decide) h6' ?_ ?_
  ·repeat' first | simp (maxSteps := 4000000) (disch := omega) only [aZ, aY, bun, ↓aW, ↓aV, aO, findLabel, ↓reduceIte, imp, shift, aR, aJ, unown, names, aQ, below, aD, aC, aT, aU, aS, ren, aN, aP, aX, renO, belowM, seval, -Int.reduceToNat, lM, bT, b9, Int.reduceToNat, List.map_nil, List.nil_append] | refine bA _ ?_ | refine fkx ?_ tru <;> intro hg | refine fkx ?_ ?_ <;> intro hg | exact fkx tru tru | refine And.intro (by omega) ?_ | omega
   exact bN
  rintro a7 w7 ⟨s7, G7, F7, hk7, h7⟩
  have h7' := h7.weak hk7
  have hg7 := h7.grown
  have hj7 := grow hg7 hj5
  have hrow7 : eI w7 B0 o0 [.string ⟨s.toArray⟩] := hrow5.keepAt (hg7.block B0 (by omega))
  refine zg0 (N := 21) none n bZ (t := 9) AZ rfl rfl rfl rfl (b := B0) (off := o0) ((h7'.atv (k := 1) (v := pv) rfl).trans hpv) (h7'.atv (k := 20) rfl) rfl rfl hrow7 ?_
  intro w8 hw8 hw9
  have hkp8 := hw9 w (hkp5.keepAt (hg7.block B0 (by omega)))
  refine wpListIn_nil ?_
  have hj8 : J (dn ++ [s.take i]) w8 := hJ _ _ _ (some B0) hj7 ⟨hw8.os, hw8.tape, hw8.output, Nat.le_of_eq hw8.size.symm, fun k hk hne => hw8.block k fun e => hne (by rw [e])⟩ (fun r e => by cases e; rfl)
  refine ⟨⟨dn ++ [s.take i], s.drop (i + 1), ?_, ?_, h7.defers.trans (h9.defers.trans d1), h7'.tsize, h7'.atv (k := 0) rfl, h7'.atv (k := 1) rfl, hj8, hw8.row, fun k hk hne => ?_, ?_, hkp8⟩, ?_⟩
  ·rw [hp, XP s i hi2, List.append_assoc]; rfl
  ·rw [List.length_append, List.length_drop]; simp only [List.length_cons, List.length_nil] at hr ⊢; omega
  ·exact (hw8.block k hne).trans ((hg7.block k (by omega)).trans (hfr5 k hk hne))
  ·have := hw8.size; have := hg7.size; omega
  ·rw [z27 hw8.row, z27 hrow1, List.length_drop]
   simp only [List.length_cons, List.length_nil] at hr
   omega
end Go.AE
-- types: B0 B4 B9 B45 B78
end
section
namespace Go.AE
open Go.Proofs Go.Maps Go.Sort
set_option maxRecDepth 20000
set_option maxHeartbeats 8000000
set_option linter.unusedSimpArgs false
def z9d : Go.Shelf.Ren := ⟨fun | 11 => 42 | n => n, fun | 0 => 0 | 24 => 31 | 26 => 9 | 28 => 76 | 33 => 45 | n => n, fun | n => n⟩
theorem z9c : SlLaysZ.n11 Tryz.prog z9d := {
 mixed := by kernel_rfl
 f11 := ⟨"slices.AppendSeq[[]string,string]", by decide +kernel, Tryz.func42.trans (congrArg some (by kernel_rfl))⟩
 t0 := Tryz.underlying0
 a0 := Tryz.isAgg0
 z0 := Tryz.sizeOf0
 v0 := Tryz.zeroValue0
 t24 := Tryz.underlying31
 a24 := Tryz.isAgg31
 z24 := Tryz.sizeOf31
 v24 := Tryz.zeroValue31
 t26 := Tryz.underlying9
 a26 := Tryz.isAgg9
 z26 := Tryz.sizeOf9
 v26 := Tryz.zeroValue9
 t28 := Tryz.underlying76
 a28 := Tryz.isAgg76
 z28 := Tryz.sizeOf76
 v28 := Tryz.zeroValue76
 i26 := by kernel_rfl }
theorem DN (s : List UInt8) : pcs s ≠ [] := by
 cases s with
 | nil => simp [pcs]
 | cons c s =>
  unfold pcs
  split
  ·simp
  ·split <;> simp
theorem ZT (w : World) (F : Nat → Prop) : ∀ L : List (List UInt8), aF w F [] (L.map Sv) (L.map encStr)
 | [] => .nil
 | _ :: L => .cons (.v _) (ZT w F L)
theorem z9f (f : List UInt8) (hf : f.length ≤ 1000000) :
  eV Tryz.prog 42 [.row true 1 [Sv f]] [.v (.slice none 0 0), .fn 43 [] [.ptr 0 0]] [.row true 1 [.junk], .fence] (.sl (pcs f).length ((pcs f).map Sv)) := by
 refine ⟨⟨_, Tryz.func42, rfl, by decide +kernel⟩, fun w F g vs hrel hr => ?_⟩
 obtain ⟨x, rfl⟩ : ∃ x, g = [x] := by
  have h := hrel.len
  simp only [List.length_append, List.length_cons, List.length_nil] at h
  exact List.length_eq_one_iff.1 (by omega)
 obtain ⟨L, v1, hx, hrow, hrs⟩ := (show d6 w F ([x] ++ [none]) x (.row true 1 [Sv f]) from hrel.ob 0 _ rfl)
 subst hx
 have hv1 : v1 = [.string ⟨f.toArray⟩] := by
  cases hrs with
  | cons h h' => cases h'; cases h; rfl
 subst hv1
 obtain ⟨hLF, hLw, hLp⟩ := hrel.live 0 L rfl
 have hFw : ∀ b, F b → b < w.heap.size := fun b hb => (hrel.fb b hb).1
 obtain ⟨rfl⟩ : vs = [.slice none 0 0, .func (.func 43) #[] #[.pointer (some ⟨L.b, L.o, none⟩)]] := by
  cases hr with
  | cons h1 h2 =>
   cases h2 with
   | cons h2 h3 =>
    cases h3
    cases h1
    cases h2 with
    | fn h4 h5 =>
     cases h4
     cases h5 with
     | cons h5 h6 =>
      cases h6
      obtain ⟨M, hM, e⟩ := h5.ptr_inv
      obtain rfl : M = L := by simpa using hM.symm
      rw [e]; rfl
 refine (callsIn_wide (n := 10)).1 ?_
 show CallsIn (fr none) 10 _ _ _ _ _
 have hsq := zi8 f hf 9 w F hrel.tb hFw L.b L.o hLw hLF hrow
 refine (z9e z9c (fr none) 10 trivial rfl (by omega) 43 #[.pointer (some ⟨L.b, L.o, none⟩)] trivial (enters_of Tryz.func43 (by kernel_rfl) rfl) L.b L.o (pcs f) (f.length + 1) (by unfold maxLen; omega) (by omega) w hLw hsq).mono ?_
 rintro e w' ⟨v, rfl, hown, ⟨w2, hg, hb⟩, ⟨vB, hrB⟩, hkB⟩
 have hlp : 0 < (pcs f).length := List.length_pos_iff.2 (DN f)
 obtain ⟨gb, cap, cur, rfl, hgb, hcells, hc1, hc2, hc3, hc4⟩ : ∃ g' cap cur, v = .slice (some ⟨g', 0, none⟩) (pcs f).length cap ∧ w.heap.size ≤ g' ∧ w'.heap[g']? = some (.cells cur 9 (0, 0)) ∧ (pcs f).length ≤ cap ∧ cap ≤ maxLen ∧ cur.size = cap * 1 ∧ cur.toList.take ((pcs f).length * 1) = (pcs f).map encStr := by
  rcases hown.2 with ⟨_, h0⟩ | h'
  ·exact absurd h0 (by omega)
  ·exact h'
 have hgs := hg.size
 have hbs := hb.size
 have hgl : gb < w'.heap.size := (Array.getElem?_eq_some_iff.1 hcells).1
 have hblk : ∀ k, k < w.heap.size → k ≠ L.b → w'.heap[k]? = w.heap[k]? := fun k h1 h2 => (hb.block k h1).trans (hg.heap k h2)
 have hX : ∀ k, (VL F [.row true 1 [Sv f]] [some L]).X k ↔ k = L.b := fun k => by
  constructor
  ·rintro (h | ⟨r, hr, rfl⟩)
   ·simp [VL, nN] at h
   ·simp [VL, lR] at hr; rw [hr]
  ·rintro rfl
   exact .inr ⟨⟨L.b, L.o, L.o + 1⟩, by simp [VL, lR], rfl⟩
 refine ⟨_, [some L, none], fun b => F b ∨ b = gb, rfl, ?_, ?_⟩
 ·refine { defers := rfl, tsize := rfl, tm := fun k => .junk _, len := rfl, ob := ?_, live := ?_, inj := ?_, fb := ?_, keep := ⟨hb.os.trans hg.os, hb.tape.trans hg.tape, hb.output.trans hg.output, by omega, fun k h1 h2 => hblk k h1 fun e => h2 ((hX k).2 e)⟩, f0 := ⟨fun b hb => .inl (hrel.f0.1 b hb), ?_⟩, nd := hrel.nd, rows := ?_, fence := ?_, pin := ?_, tabs := hrel.tabs }
  ·intro id g hid
   match id, hid with
   | 0, hid => cases hid; exact ⟨L, [vB], rfl, hrB, .cons (.junk _) .nil⟩
   | 1, hid => cases hid; rfl
  ·intro id M hid
   match id, hid with
   | 0, hid =>
    cases hid
    refine ⟨?_, by omega, hLp⟩
    rintro (h | h)
    ·exact hLF h
    ·omega
   | 1, hid => cases hid
  ·intro i j M K hi hj he
   match i, j, hi, hj with
   | 0, 0, _, _ => rfl
   | 0, 1, _, hj => cases hj
   | 1, _, hi, _ => cases hi
  ·rintro b (hb' | rfl)
   ·have := hrel.fb b hb'
    exact ⟨by omega, this.2⟩
   ·exact ⟨hgl, .inl hgb⟩
  ·rintro b (hb' | rfl)
   ·exact hrel.f0.2 b hb'
   ·exact .inr hgb
  ·intro r hr
   have : r = ⟨L.b, L.o, L.o + 1⟩ := by simpa [VL, lR] using hr
   rw [this]; exact hkB
  ·intro k hk
   obtain rfl : k = 1 := by simpa [VL] using hk.symm
   rfl
  ·intro id g hp
   match id, hp with
   | 0, hp => exact ⟨⟨1, rfl, by omega⟩, hp, rfl⟩
   | n + 1, hp => cases n <;> cases hp
 ·refine .sl (.inr rfl) hc1 (vs := (pcs f).map encStr) ⟨rfl, ?_, ?_⟩ (ZT _ _ _)
  ·intro i hi
   have h0 : ((pcs f).map encStr)[i]? = cur.toList[i]? := by
    rw [← hc4, List.getElem?_take]
    rw [if_pos (by simpa using hi)]
   simp only [World.cell?, hcells]
   rw [h0]
   simp
  ·intro u hu
   obtain ⟨y, _, rfl⟩ := List.mem_map.1 hu
   rfl
theorem P7 (f : List UInt8) (hf : f.length ≤ 1000000) :
  eV Tryz.prog 27 [.row true 1 [Sv f]] [.fn 43 [] [.ptr 0 0]] [.row true 1 [.junk], .fence] (.sl (pcs f).length ((pcs f).map Sv)) := by
 have h := z9f f hf
 refine jV (ts := [.tmp 2]) bZ Tryz.func27 rfl rfl (by decide +kernel) (by simp [Tryz.ntmps27]) rfl ?_
 repeat' first | (refine dG [0] (h) ?_; clear h) | simp (maxSteps := 4000000) (disch := omega) only [aZ, aY, bun, ↓aW, ↓aV, aO, findLabel, ↓reduceIte, imp, shift, aR, aJ, unown, names, aQ, below, aD, aC, aT, aU, aS, ren, aN, aP, aX, renO, belowM, seval, -Int.reduceToNat, bT, b9, Int.reduceToNat, List.map_nil, List.nil_append] | exact bH _ | refine bG _ _ ?_ | exact bC.cl | refine bE _ ?_ | refine bF _ _ ?_ ?_ | refine bA _ ?_ | refine fkx ?_ tru <;> intro hg | refine fkx ?_ ?_ <;> intro hg | exact fkx tru tru | refine And.intro (by omega) ?_ | omega
theorem XM (f : List UInt8) : eV Tryz.prog 28 [] [Sv f] [.fence, .row true 1 [Sv f]] (.fn 43 [] [.ptr 1 0]) := by
 refine jV (ts := [.tmp 2]) bZ Tryz.func28 rfl rfl (by decide +kernel) (by simp [Tryz.ntmps28]) rfl ?_
 repeat' first | simp (maxSteps := 4000000) (disch := omega) only [aZ, aY, bun, ↓aW, ↓aV, aO, findLabel, ↓reduceIte, imp, shift, aR, aJ, unown, names, aQ, below, aD, aC, aT, aU, aS, ren, aN, aP, aX, renO, belowM, seval, -Int.reduceToNat, bT, b9, Int.reduceToNat, List.map_nil, List.nil_append] | refine bA _ ?_ | refine fkx ?_ tru <;> intro hg | refine fkx ?_ ?_ <;> intro hg | exact fkx tru tru | refine And.intro (by omega) ?_ | omega
end Go.AE
-- types: B0 B9 B31 B60 B76
end
section
namespace Go.AE
open Go.Proofs
set_option maxRecDepth 20000
set_option maxHeartbeats 8000000
set_option linter.unusedSimpArgs false
def fdot : List UInt8 := [227, 128, 130]
def dX (s : List UInt8) : List UInt8 := Lib.replaceAll s fdot [46]
theorem zj1 (old new : List UInt8) (h : new.length ≤ old.length) : ∀ (k : Nat) (s : List UInt8), (Lib.replaceK old new k s).length ≤ s.length := by
 intro k
 induction k with
 | zero => intro s; exact Nat.le_refl _
 | succ k ih =>
  intro s
  rw [Lib.replaceK]
  split
  ·exact Nat.le_refl _
  ·rename_i hi
   have hg := Lib.index_ge s old
   have hr := Lib.index_room s old (by simp at hi; omega)
   have h1 := ih (s.drop ((Lib.index s old).toNat + old.length))
   rw [List.length_drop] at h1
   simp only [List.length_append, List.length_take]
   have : (Lib.index s old).toNat + old.length ≤ s.length := by
    have : 0 ≤ Lib.index s old := by simp at hi; omega
    omega
   omega
theorem ZP (s : List UInt8) : (dX s).length ≤ s.length := by
 unfold dX Lib.replaceAll Lib.replace
 split
 ·exact Nat.le_refl _
 ·exact zj1 _ _ (by decide) _ _
theorem ZS (s : List UInt8) (hs : s.length ≤ 1000000) : aG Tryz.prog 26 [Sv s, Sv [227, 128, 130], Sv [46]] (Sv (dX s)) := by
 refine z1o (xs := [.string ⟨s.toArray⟩, .string ⟨[227, 128, 130].toArray⟩, .string ⟨[46].toArray⟩]) ⟨_, Tryz.func26, rfl, by decide +kernel⟩ (fun w F => .v _) rfl fun w F hT => ?_
 obtain ⟨m, hm⟩ := z29 hT (g := 0) (by decide +kernel) fun u hu => Tryz.laysM145.s1_3 u hu
 have hsz : (⟨s.toArray⟩ : ByteArray).size = s.length := by show s.toArray.size = _; simp
 have hcb := Lib.countB_le ⟨[227, 128, 130].toArray⟩ (by decide) _ ⟨s.toArray⟩ (Nat.le_refl _)
 rw [hsz] at hcb
 refine (Tryz.strings_ReplaceAll ⟨s.toArray⟩ ⟨[227, 128, 130].toArray⟩ ⟨[46].toArray⟩ m w (by rw [hsz]; omega) hm (by decide) (by
  rw [hsz]
  have : (⟨[46].toArray⟩ : ByteArray).size = 1 := rfl
  rw [this]; omega)).mono ?_
 rintro e w' ⟨rfl, hb⟩
 exact ⟨rfl, hb.os, hb.tape, hb.output, hb.size, hb.block⟩
def dM (s : List UInt8) : Int := if !(cF s).2 then 7 else if (cF s).1 = [] then 13 else if 32 < (pcs (dX (cF s).1)).length then 2 else 0
def dD (s : List UInt8) : List (List UInt8) := pcs (dX (cF s).1)
theorem UO (s : List UInt8) (hs : s.length ≤ 10000000) (hl : (runes s).1.length ≤ 10000) (hX : (cF s).1.length ≤ 100000) (h : dM s ≠ 0) : aG Tryz.prog 10 [tab, Sv s] (.tup [.own 9 1 0 [], aA (dM s)]) := by
 have c1 := CE s hs hl
 have c2 := ZS (cF s).1 (by omega)
 have hr := ZP (cF s).1
 have c3 := XM (dX (cF s).1)
 have c4 := P7 (dX (cF s).1) (by omega)
 have hpl := DM (dX (cF s).1)
 rw [← cT] at c1 ⊢
 refine sp [.tmp 4, .tmp 5] Tryz.func10 Tryz.ntmps10 ?_
 unfold dM at h ⊢
 generalize hf : cF s = fz at *
 obtain ⟨X, o⟩ := fz
 dsimp only at *
 cases o with
 | false =>
  rw [if_pos (by rfl)]
  exact fL tru tru tru
 | true =>
  rw [if_neg (by simp)] at h ⊢
  by_cases h0 : X = []
  ·subst h0
   rw [if_pos rfl]
   exact fL tru tru tru
  ·rw [if_neg h0] at h ⊢
   have hx : (X == []) = false := by simpa using h0
   by_cases h32 : 32 < (pcs (dX X)).length
   ·rw [if_pos h32]
    generalize pcs (dX X) = P at *
    generalize dX X = Y at *
    repeat' first | (refine dG [] c3 ?_; clear c3) | (refine dG [3] c4 ?_; clear c4) | refine fL ?_ tru tru <;> intros | refine fL ?_ ?_ tru <;> intros | refine fL ?_ ?_ ?_ <;> intros | exact fL tru tru tru | fail
   ·rw [if_neg h32] at h; exact absurd rfl h
theorem D1 (s : List UInt8) (hs : s.length ≤ 10000000) (hl : (runes s).1.length ≤ 10000) (hX : (cF s).1.length ≤ 100000) (h : dM s = 0) : aG Tryz.prog 10 [tab, Sv s] (.tup [.sl (dD s).length ((dD s).map Sv), aA 0]) := by
 have c1 := CE s hs hl
 have c2 := ZS (cF s).1 (by omega)
 have hr := ZP (cF s).1
 have c3 := XM (dX (cF s).1)
 have c4 := P7 (dX (cF s).1) (by omega)
 have hpl := DM (dX (cF s).1)
 rw [← cT] at c1 ⊢
 refine sp [.tmp 4, .tmp 5] Tryz.func10 Tryz.ntmps10 ?_
 unfold dM at h
 unfold dD
 generalize hf : cF s = fz at *
 obtain ⟨X, o⟩ := fz
 dsimp only at *
 cases o with
 | false =>
  rw [if_pos (by rfl)] at h; cases h
 | true =>
  rw [if_neg (by simp)] at h
  by_cases h0 : X = []
  ·subst h0
   rw [if_pos rfl] at h; cases h
  ·rw [if_neg h0] at h
   have hx : (X == []) = false := by simpa using h0
   by_cases h32 : 32 < (pcs (dX X)).length
   ·rw [if_pos h32] at h; cases h
   ·generalize pcs (dX X) = P at *
    generalize dX X = Y at *
    repeat' first | (refine dG [] c3 ?_; clear c3) | (refine dG [3] c4 ?_; clear c4) | refine fL ?_ tru tru <;> intros | refine fL ?_ ?_ tru <;> intros | refine fL ?_ ?_ ?_ <;> intros | exact fL tru tru tru | fail
end Go.AE
-- types: B0 B3 B4 B9 B29 B31 B32 B56 B60 B76
end
section
namespace Go.AE
open Go.Proofs
set_option maxRecDepth 20000
set_option maxHeartbeats 8000000
set_option linter.unusedSimpArgs false
def uU (x : List UInt8) : Array Value := #[encStr x]
def gS (L : List (List UInt8)) (yv : Value) (j : Nat) : St := ⟨[(0, .v yv), (5, .sl L.length (L.map Sv)), (6, aA L.length), (7, aA j)], []⟩
theorem zhf (L : List (List UInt8)) (i j : Nat) (h : i + j < L.length) : nth ((L.map Sv).drop i) j = Sv (L.getD (i + j) []) := by
 rw [← List.map_drop, zA _ _ (by simp; omega)]
 simp only [List.getD, List.getElem?_drop]
 rfl
theorem sL {P Q R S : Prop} (a : Q) (b : R) (c : S) (h : Mk P → bD Q → bD R → bD S → P := by
 intro m q r s
 repeat' first | refine aM (by first | assumption | (apply_assumption <;> omega)) ?_ ?_ | refine cM.fit (by assumption) ?_ | simp (maxSteps := 4000000) (disch := omega) only [aZ, aY, bun, ↓aW, ↓aV, aO, findLabel, ↓reduceIte, imp, shift, aR, aJ, unown, names, aQ, below, aD, aC, aT, aU, aS, ren, aN, aP, aX, renO, belowM, seval, -Int.reduceToNat, bT, b9, Int.reduceToNat, zA, lM, *] | exact bH _ | refine bG _ _ ?_ | exact bC.cl | refine bE _ ?_ | refine bF _ _ ?_ ?_ | refine bA _ ?_ | refine fkx ?_ tru <;> intro hg | refine fkx ?_ ?_ <;> intro hg | exact fkx tru tru | refine And.intro (by omega) ?_ | omega
 first
 | done
 | all_goals (repeat revert hg)
   exact q.out
   first
   | done
   | exact r.out
     first
     | done
     | exact s.out
       first | done | fail) : P := h ⟨tru⟩ ⟨a⟩ ⟨b⟩ ⟨c⟩
theorem zld (L : List (List UInt8)) (hL : L.length ≤ 1000) (n : Nat) (w : World) (F : Nat → Prop) (hF : ∀ b, F b → b < w.heap.size) (hT : fK Tryz.prog w F) (p : Value) (hp : aH w F [] (.cp [.sl L.length (L.map Sv)]) p) :
  SeqStopsK (fr none) n Tryz.prog 82 #[p] (fun x : {x // x ∈ L} => uU x.1) (KpF F) (fun xs => xs = L.attach) (fun pre => pre <+: L.attach) L.length w := by
 skip
 intro l J Jx W hW hJ hJx hY h0
 have hFW : ∀ b, F b → b < W.heap.size := fun b hb => Nat.lt_of_lt_of_le (hF b hb) hW.size
 obtain ⟨yv, hyv⟩ : ∃ yv : Value, yv = .func (.yield l) #[] #[] := ⟨_, rfl⟩
 refine callsIn_of_wp Tryz.func82 rfl trivial ?_
 rw [show Tryz.f82.ntmps = 16 from Tryz.ntmps82]
 have hTW : fK Tryz.prog W F := tY hT hFW (fun b hb => hW.block b (hF b hb))
 have hrel := zT (N := 16) (ds := []) (args := [.v yv, .v p]) (vs := [yv, p]) hTW hFW (.cons (.v _) (.cons (.v _) .nil)) (by simp)
 rw [show (#[Value.func (.yield l) #[] #[]] ++ #[p] : Array Value) = [yv, p].toArray by rw [hyv]; rfl]
 have grow : ∀ {w1 w2 : World} {s : List {x // x ∈ L}}, d7 w1 w2 → J s w1 → J s w2 := fun h hj => hJ _ _ _ none hj ⟨h.os, h.tape, h.output, h.size, fun k hk _ => h.block k hk⟩ (fun r e => by cases e)
 have hlt : ∀ {b : Nat} {w1 : World}, (∀ b, F b → w1.heap[b]? = W.heap[b]?) → F b → b < w1.heap.size := fun {b w1} h hb => by
  have h1 := h b hb
  rw [Array.getElem?_eq_getElem (hFW b hb)] at h1
  exact (Array.getElem?_eq_some_iff.1 h1).1

 have parts : ∀ {w0 w1 : World} {G : Gh} {ds : List Deferred} {a1 : Act} {s1 : St} {j : Nat}, aE Tryz.prog 16 ⟨F, [], [], ds, none, fun _ => none⟩ w0 s1 G F a1 w1 → wk s1 (gS L yv j) → aE Tryz.prog 16 ⟨F, [], [], ds, none, fun _ => none⟩ w0 (gS L yv j) [] F a1 w1 := fun h hk => by
  have := h.weak hk
  simpa [gS] using this
 have mk : ∀ {a1 : Act} {w1 w2 : World} {w0 : World} {ds : List Deferred} {j : Nat}, aE Tryz.prog 16 ⟨F, [], [], ds, none, fun _ => none⟩ w0 (gS L yv j) [] F a1 w1 → (∀ b, F b → w1.heap[b]? = W.heap[b]?) → (∀ b, F b → w2.heap[b]? = W.heap[b]?) → ∀ a2 : Act, a2.tmps.size = 16 → (∀ k, k < 8 → a2.tmps.getD k undef = a1.tmps.getD k undef) → aE Tryz.prog 16 ⟨F, [], [], a2.defers, none, fun _ => none⟩ w2 (gS L yv j) [] F a2 w2 := by
  intro a1 w1 w2 w0 ds j h hs1 hs2 a2 hn ht
  refine wI (tY hTW (fun b hb => hlt hs2 hb) hs2) (fun b hb => hlt hs2 hb) hn fun k => ?_
  by_cases hk : k < 8
  ·rw [ht k hk]
   exact aH.mono ⟨fun _ h => h, fun b hb => (hs2 b hb).trans (hs1 b hb).symm⟩ (bS.refl _) (h.tm k)
  ·have e : get [(0, AV.v yv), (5, AV.sl L.length (L.map Sv)), (6, aA L.length), (7, aA j)] k = .junk := by
    simp only [get]
    rw [if_neg (by omega), if_neg (by omega), if_neg (by omega), if_neg (by omega)]
   rw [e]; exact .junk _
 refine wpIn_seq (wpIn_region_lit ?_)
 refine yX none n bZ (t := 31) IH rfl rfl rfl rfl hrel (by rw [hrel.atv (k := 1) (v := p) rfl]; exact aH.mono ⟨fun _ h => h, fun b hb => hW.block b (hF b hb)⟩ (bS.refl _) hp) ?_
 intro a1 h1
 refine vL none n bZ (dQ (fun s => wk s (gS L yv 0)) (fun _ _ => False) (fun _ => False)) (by decide) h1 ?_ ?_
 ·refine sL ?_ tru tru <;> intros
  unfold gS
  exact bN
 rintro a2 w2 ⟨s2, G2, hk2, h2⟩
 have hgr := h2.grown
 have p2 := parts h2 hk2
 refine wpIn_block (wpIn_loop (fun a w1 => ∃ j, j ≤ L.length ∧ a.defers = [] ∧ a.tmps.getD 7 undef = .int .i64 j ∧ aE Tryz.prog 16 ⟨F, [], [], a.defers, none, fun _ => none⟩ w1 (gS L yv j) [] F a w1 ∧ J (L.attach.take j) w1 ∧ (∀ b, F b → w1.heap[b]? = W.heap[b]?))
  (fun a _ => match a.tmps.getD 7 undef with | .int _ x => L.length - x.toNat | _ => 0) ⟨0, by omega, p2.defers, p2.atv rfl, mk p2 (fun b hb => hgr.block b (hFW b hb)) (fun b hb => hgr.block b (hFW b hb)) a2 p2.tsize (fun _ _ => rfl), grow hgr (by simpa using h0), fun b hb => hgr.block b (hFW b hb)⟩ ?_)
 rintro a3 w3 ⟨j, hj, d3, g37, h3, hj3, hs3⟩
 refine wpIn_seq (wpIn_region_lit (vL none n bZ (dQ (fun s => wk s ⟨(8, Bv (decide ((j : Int) < L.length))) :: (gS L yv j).t, []⟩) (fun _ _ => False) (fun _ => False)) (by decide) h3 ?_ ?_))
 ·unfold gS
  refine sL ?_ tru tru <;> intros
  exact bN
 rintro a4 w4 ⟨s4, G4, hk4, h4⟩
 have h4' := h4.weak hk4
 have hg4 := h4.grown
 have hs4 : ∀ b, F b → w4.heap[b]? = W.heap[b]? := fun b hb => (hg4.block b (hlt hs3 hb)).trans (hs3 b hb)
 have hj4 := grow hg4 hj3
 have e8 : a4.tmps.getD 8 undef = .bool (decide ((j : Int) < L.length)) := h4'.atv (k := 8) rfl
 by_cases hlt' : j < L.length
 rotate_left
 ·rw [decide_eq_false (by omega)] at e8
  refine wpIn_seq (wpIn_cond_false e8 (wpIn_exit ?_))
  obtain rfl : j = L.length := by omega
  rw [show L.attach.take L.length = L.attach from List.take_of_length_le (by simp)] at hj4
  exact ⟨h4.defers.trans d3, _, results_none rfl _ _ _, ⟨_, rfl⟩, .inl ⟨_, rfl, hj4⟩⟩
 rw [decide_eq_true (by omega)] at e8
 refine wpIn_seq (wpIn_cond_true e8 (wpIn_skip ?_))
 have h4v := parts (j := j) h4' (by unfold gS; exact bN)
 obtain ⟨x, hx⟩ : ∃ x, L.getD j [] = x := ⟨_, rfl⟩
 refine wpIn_seq (wpIn_block (wpIn_seq (wpIn_region_lit (vL none n bZ (dQ (fun s => wk s ⟨(4, Sv x) :: (gS L yv j).t, []⟩) (fun _ _ => False) (fun _ => False)) (by decide) h4v ?_ ?_))))
 ·unfold gS
  have hn := zhf L j 0 (by omega)
  rw [Nat.add_zero, hx] at hn
  refine sL ?_ tru tru <;> intros
  exact bN
 rintro a5 w5 ⟨s5, G5, hk5, h5⟩
 have h5' := h5.weak hk5
 have hg5 := h5.grown
 refine wpIn_seq (wpIn_region_lit ?_)
 refine zfz none n 2 bZ (dQ (fun s => wk s ⟨(11, .v yv) :: (12, Sv x) :: (gS L yv j).t, []⟩) (fun _ _ => False) (fun _ => False)) (by decide) h5' ?_ ?_
 ·unfold gS
  refine sL ?_ tru tru <;> intros
  exact bN
 rintro a8 w8 ⟨s8, G8, hk8, h8⟩
 have h8' := h8.weak hk8
 have h8v := parts (j := j) h8' (by unfold gS; exact bN)
 have hg8 := h8.grown
 have hs8 : ∀ b, F b → w8.heap[b]? = W.heap[b]? := fun b hb => (hg8.block b (hlt hs3 hb)).trans (hs3 b hb)
 have hj8 := grow hg8 hj3
 have hargs : #[Operand.tmp 12].map a8.eval = uU x := by
  have e2 := h8'.atv (k := 12) rfl
  simp only [uU, Act.eval, List.map_toArray, List.map_cons, List.map_nil, e2]
  try rfl
 have hxm : x ∈ L := by
  rw [← hx, List.getD_eq_getElem?_getD, List.getElem?_eq_getElem hlt']
  exact List.getElem_mem _
 have hbt : L.attach.take (j + 1) = L.attach.take j ++ [⟨x, hxm⟩] := by
  rw [List.take_add_one]
  congr 1
  rw [List.getElem?_eq_getElem (by simpa using hlt')]
  simp only [Option.toList_some, List.cons.injEq, and_true]
  refine Subtype.ext ?_
  simp [← hx, List.getD, hlt']
 refine D3 none n rfl rfl (l := l) ((h8'.atv (k := 11) rfl).trans hyv) hargs (hY _ ⟨x, hxm⟩ w8 hj8 (by simp; omega)) ?_
 have hput : ∀ v, (a8.put (some 13) v).defers = [] ∧ (a8.put (some 13) v).tmps.size = 16 ∧ (∀ k, k < 8 → (a8.put (some 13) v).tmps.getD k undef = a8.tmps.getD k undef) ∧ (a8.put (some 13) v).tmps.getD 13 undef = v := by
  intro v
  have hsz := h8v.tsize
  refine ⟨h8v.defers.trans d3, by simp [Act.put, hsz], fun k hk => ?_, ?_⟩
  ·simp only [Act.put, Array.getD_eq_getD_getElem?, Array.getElem?_setIfInBounds]
   rw [if_neg (by omega)]
  ·simp [Act.put, Array.getD_eq_getD_getElem?, hsz]
 rintro e9 w9 (⟨rfl, hJ9, hk9⟩ | ⟨rfl, hJx9⟩)
 ·refine ⟨_, rfl, ?_⟩
  obtain ⟨d9, n9, g9, g13⟩ := hput (.bool true)
  have hs9 : ∀ b, F b → w9.heap[b]? = W.heap[b]? := fun b hb => (hk9 b hb).trans (hs8 b hb)
  have h9 := mk h8v hs8 hs9 _ n9 g9
  have h9' := h9.putSame (d := 13) (x := Bv true) (by rw [g13]; exact .v _)
  refine vL none n bZ (dQ (fun s => wk s ⟨(14, Bv false) :: (gS L yv j).t, []⟩) (fun _ _ => False) (fun _ => False)) (by decide) h9' ?_ ?_
  ·unfold gS
   refine sL ?_ tru tru <;> intros
   exact bN
  rintro a10 w10 ⟨s10, G10, hk10, h10⟩
  have h10' := h10.weak hk10
  have hg10 := h10.grown
  have h10v := parts (j := j) h10' (by unfold gS; exact bN)
  refine wpIn_cond_false (h10'.atv (k := 14) rfl) (wpIn_skip ?_)
  have hs10 : ∀ b, F b → w10.heap[b]? = W.heap[b]? := fun b hb => (hg10.block b (hlt hs9 hb)).trans (hs9 b hb)
  refine wpIn_region_lit (vL none n bZ (dQ (fun s => wk s (gS L yv (j + 1))) (fun _ _ => False) (fun _ => False)) (by decide) h10v ?_ ?_)
  ·unfold gS
   refine sL ?_ tru tru <;> intros
   exact bN
  rintro a11 w11 ⟨s11, G11, hk11, h11⟩
  have h11v := parts h11 hk11
  have hg11 := h11.grown
  have hs11 : ∀ b, F b → w11.heap[b]? = W.heap[b]? := fun b hb => (hg11.block b (hlt hs9 hb)).trans (hs9 b hb)
  refine ⟨⟨j + 1, by omega, h11v.defers.trans d9, h11v.atv rfl, mk h11v hs11 hs11 a11 h11v.tsize (fun _ _ => rfl), ?_, hs11⟩, ?_⟩
  ·rw [hbt]; exact grow hg11 hJ9
  ·show (match a11.tmps.getD 7 undef with | .int _ x => L.length - x.toNat | _ => 0) < (match a3.tmps.getD 7 undef with | .int _ x => L.length - x.toNat | _ => 0)
   rw [h11v.atv (k := 7) rfl, g37]
   show L.length - ((j + 1 : Nat) : Int).toNat < L.length - (j : Int).toNat
   omega
 ·refine ⟨_, rfl, ?_⟩
  obtain ⟨d9, n9, g9, e17⟩ := hput (.bool false)
  obtain ⟨a9, ha9⟩ : ∃ a9, a8.put (some 13) (Value.bool false) = a9 := ⟨_, rfl⟩
  rw [ha9] at e17 d9 n9 ⊢
  refine wpListIn_plain rfl fun K hK => ⟨fun _ _ => trivial, ?_⟩
  rw [l0 none a9.eval _ (fun c e => by cases e)]
  simp only [execOp, Act.eval, e17, Op.unary, Sem.run_bind, Sem.run_pure, Result.andThen_ok, Oper.uponIn_value]
  refine hK _ _ (wpListIn_nil ?_)
  refine wpIn_cond_true ?_ (wpIn_ret ?_)
  ·simp [Act.put, Act.eval, Array.getD_eq_getD_getElem?, n9]
  refine ⟨d9, _, results_none rfl _ _ _, ⟨_, rfl⟩, .inr ⟨_, ?_, hJx9⟩⟩
  ·rw [← hbt]; exact List.take_prefix _ _
end Go.AE
-- types: B0 B3 B4 B9 B31 B45
end
section
namespace Go.AE
open Go.Proofs
set_option maxRecDepth 20000
set_option maxHeartbeats 8000000
set_option linter.unusedSimpArgs false
theorem zle (L : List (List UInt8)) : aG Tryz.prog 51 [.sl L.length (L.map Sv)] (.fn 82 [] [.cp [.sl L.length (L.map Sv)]]) := by
 refine qC (z := true) (ts := [.tmp 2]) bZ Tryz.func51 rfl rfl (by decide +kernel) (by simp [Tryz.ntmps51]) rfl ?_
 repeat' first | simp (maxSteps := 4000000) (disch := omega) only [aZ, aY, bun, ↓aW, ↓aV, aO, findLabel, ↓reduceIte, imp, shift, aR, aJ, unown, names, aQ, below, aD, aC, aT, aU, aS, ren, aN, aP, aX, renO, belowM, seval, -Int.reduceToNat, bT, b9, Int.reduceToNat, eA, List.map_nil, List.nil_append, bR] | refine bA _ ?_ | refine fkx ?_ tru <;> intro hg | refine fkx ?_ ?_ <;> intro hg | exact fkx tru tru | refine And.intro (by omega) ?_ | omega
def eF (A U : List (List UInt8)) : List Ob := [.row true 1 [Sv []], .row true 1 [Sv []], .row true 1 [aA 0], .row true 1 [.ref 5 0 A.length], .row true 1 [.ref 6 0 U.length], .arr 9 1 (A.map Sv), .arr 9 1 (U.map Sv)]
def dV : List (Nat × AV) := [(4, .ptr 0 0), (5, .ptr 1 0), (6, .ptr 2 0), (9, .ptr 3 0), (10, .ptr 4 0)]
def jZ : List (Nat × AV) := [(4, .ptr 0 0), (5, .ptr 1 0), (6, .ptr 2 0)]
def sK (a u : List UInt8) (e : Int) : List Ob := [.row true 1 [Sv a], .row true 1 [Sv u], .row true 1 [aA e]]
def dmE (A U : List (List UInt8)) (x y : List UInt8) : List Ob := [.row true 1 [Sv []], .row true 1 [Sv []], .row true 1 [aA 0], .row true 1 [.ref 5 0 (A.length + 1)], .row true 1 [.ref 6 0 (U.length + 1)], .arr 9 1 (A.map Sv ++ [Sv x]), .arr 9 1 (U.map Sv ++ [Sv y]), .fence]
theorem zbm (A U : List (List UInt8)) (x y : List UInt8) : dmE A U x y = eF (A ++ [x]) (U ++ [y]) ++ [.fence] := by simp [dmE, eF]
theorem z9h (r : Option Nat) (m : Nat) (F : Nat → Prop) {V : dJ} {w0 w : World} {G : Gh} {a : Act} (A U : List (List UInt8)) (hA : A.length ≤ 1000) (hU : U.length ≤ 1000) (x y : List UInt8)
  (h : aE Tryz.prog 60 V w0 ⟨(12, Sv x) :: (14, Sv y) :: dV, eF A U ++ [.fence]⟩ G F a w) (ops : Array Oper) (hop : ops = (match Tryz.f32.body with | some c => (match c with | .seq _ (.seq _ (.seq _ (.seq _ (.seq (.seq _ (.block _ (.rangeFunc _ _ _ (.block _ (.seq _ (.seq _ (.seq _ (.region _ o _)))))))) _)))) => o | _ => #[]) | none => #[])) :
  (Code.region 11 ops true).wpIn (fr r) m Tryz.prog (fun e => eB Tryz.prog 60 V w0 (dQ (fun s => wk s ⟨dV, dmE A U x y⟩) (fun _ _ => False) (fun _ => False) e)) a w := by
 subst hop
 skip
 refine zid (pl := (.take 1 (.take 5 (.four 0 (.three 2 (.three 3 (.two 4 (.one 6 (.one 7 (.one 8 (.one 9 (.done))))) 6 (.one 4 (.one 7 (.one 8 (.one 9 (.done)))))) 4 (.two 3 (.one 6 (.one 7 (.one 8 (.one 9 (.done))))) 6 (.one 3 (.one 7 (.one 8 (.one 9 (.done)))))) 6 (.two 3 (.one 4 (.one 7 (.one 8 (.one 9 (.done))))) 4 (.one 3 (.one 7 (.one 8 (.one 9 (.done))))))) 4 (.two 2 (.two 3 (.one 6 (.one 7 (.one 8 (.one 9 (.done))))) 6 (.one 3 (.one 7 (.one 8 (.one 9 (.done)))))) 6 (.one 2 (.one 3 (.one 7 (.one 8 (.one 9 (.done))))))) 6 (.two 2 (.two 3 (.one 4 (.one 7 (.one 8 (.one 9 (.done))))) 4 (.one 3 (.one 7 (.one 8 (.one 9 (.done)))))) 4 (.one 2 (.one 3 (.one 7 (.one 8 (.one 9 (.done)))))))) 2 (.three 0 (.three 3 (.two 4 (.one 6 (.one 7 (.one 8 (.one 9 (.done))))) 6 (.one 4 (.one 7 (.one 8 (.one 9 (.done)))))) 4 (.two 3 (.one 6 (.one 7 (.one 8 (.one 9 (.done))))) 6 (.one 3 (.one 7 (.one 8 (.one 9 (.done)))))) 6 (.two 3 (.one 4 (.one 7 (.one 8 (.one 9 (.done))))) 4 (.one 3 (.one 7 (.one 8 (.one 9 (.done))))))) 4 (.two 0 (.two 3 (.one 6 (.one 7 (.one 8 (.one 9 (.done))))) 6 (.one 3 (.one 7 (.one 8 (.one 9 (.done)))))) 6 (.one 0 (.one 3 (.one 7 (.one 8 (.one 9 (.done))))))) 6 (.two 0 (.two 3 (.one 4 (.one 7 (.one 8 (.one 9 (.done))))) 4 (.one 3 (.one 7 (.one 8 (.one 9 (.done)))))) 4 (.one 0 (.one 3 (.one 7 (.one 8 (.one 9 (.done)))))))) 4 (.three 0 (.two 2 (.two 3 (.one 6 (.one 7 (.one 8 (.one 9 (.done))))) 6 (.one 3 (.one 7 (.one 8 (.one 9 (.done)))))) 6 (.one 2 (.one 3 (.one 7 (.one 8 (.one 9 (.done))))))) 2 (.two 0 (.two 3 (.one 6 (.one 7 (.one 8 (.one 9 (.done))))) 6 (.one 3 (.one 7 (.one 8 (.one 9 (.done)))))) 6 (.one 0 (.one 3 (.one 7 (.one 8 (.one 9 (.done))))))) 6 (.two 0 (.one 2 (.one 3 (.one 7 (.one 8 (.one 9 (.done)))))) 2 (.one 0 (.one 3 (.one 7 (.one 8 (.one 9 (.done)))))))) 6 (.three 0 (.two 2 (.two 3 (.one 4 (.one 7 (.one 8 (.one 9 (.done))))) 4 (.one 3 (.one 7 (.one 8 (.one 9 (.done)))))) 4 (.one 2 (.one 3 (.one 7 (.one 8 (.one 9 (.done))))))) 2 (.two 0 (.two 3 (.one 4 (.one 7 (.one 8 (.one 9 (.done))))) 4 (.one 3 (.one 7 (.one 8 (.one 9 (.done)))))) 4 (.one 0 (.one 3 (.one 7 (.one 8 (.one 9 (.done))))))) 4 (.two 0 (.one 2 (.one 3 (.one 7 (.one 8 (.one 9 (.done)))))) 2 (.one 0 (.one 3 (.one 7 (.one 8 (.one 9 (.done)))))))))))) r m bZ h (by decide +kernel) (by decide +kernel) (by decide +kernel) ?_
 dsimp only [Tryz.f32]
 unfold dV eF
 repeat' first | simp (maxSteps := 4000000) (disch := omega) only [aZ, aY, bun, ↓aW, ↓aV, aO, findLabel, ↓reduceIte, imp, shift, aR, aJ, unown, names, aQ, below, aD, aC, aT, aU, aS, ren, aN, aP, aX, renO, belowM, seval, -Int.reduceToNat, lM, z8o, z8r, z8q, z8t, z8s, z8p, bT, b9, Int.reduceToNat, eA, List.map_nil, List.nil_append, bR] | refine bA _ ?_ | refine fkx ?_ tru <;> intro hg | refine fkx ?_ ?_ <;> intro hg | exact fkx tru tru | refine And.intro (by omega) ?_ | omega
 unfold dmE
 repeat' refine And.intro ?_ ?_
 all_goals first
  | omega
  | ((simp (disch := omega) [wk, aL, aI, aD, aC, get, aK, belowM, below, belows, aA, aB, Bv, U8, Sv, ] <;> try omega); done)
end Go.AE
-- types: B0 B3 B4 B9 B29 B31 B32 B33 B36 B60 B76
end
section
namespace Go.AE
open Go.Proofs
set_option maxHeartbeats 8000000
set_option maxRecDepth 20000
theorem ZU : ∀ {w : World} {F : Nat → Prop} (L : List (List UInt8)) {vs : List Value}, aF w F [] (L.map Sv) vs → vs = L.map encStr
 | _, _, [], _, h => by cases h; rfl
 | _, _, x :: L, _, h => by
  cases h with
  | cons h1 h2 => rw [h1.v_inv, ZU L h2]; rfl
theorem z0u (L : List (List UInt8)) (sep : List UInt8) (h0 : L ≠ []) (hN : L.length ≤ 1000000) (hJ : (Lib.join L sep).length ≤ 140737488355328) : aG Tryz.prog 53 [.sl L.length (L.map Sv), Sv sep] (Sv (Lib.join L sep)) := by
 refine ⟨⟨_, Tryz.func53, rfl, by decide +kernel⟩, fun w F vs hF hT hr => ?_⟩
 cases hr with
 | cons h1 h2 =>
  cases h2 with
  | cons h2 h3 =>
   cases h3
   cases h2
   rcases h1.sl_inv with ⟨rfl, hn, _⟩ | ⟨b, cap, us, rfl, hFb, hc, ⟨hsp, hrd, _⟩, hus⟩
   ·exact absurd (List.length_eq_zero_iff.1 hn) h0
   have e := ZU L hus
   rw [BC hsp]
   have hm : (L.map fun x => (⟨x.toArray⟩ : ByteArray)).map (·.data.toList) = L := by
    rw [List.map_map]
    exact (List.map_congr_left fun x _ => rfl).trans (List.map_id L)
   have hj := Tryz.strings_Join b.block b.off cap (L.map fun x => ⟨x.toArray⟩) ⟨sep.toArray⟩ w (by
    intro j x hx
    have hlt := (List.getElem?_eq_some_iff.1 hx).1
    rw [List.length_map] at hlt
    rw [hrd j (by rw [e]; simpa using hlt), e]
    rw [List.getElem?_map] at hx ⊢
    rw [List.getElem?_eq_getElem hlt] at hx ⊢
    simp only [Option.map_some, Option.some.injEq] at hx ⊢
    rw [← hx]; try rfl) (hF _ hFb) (by simp; omega) (by simpa using hc) (by rw [hm]; exact hJ)
   rw [List.length_map, hm] at hj
   refine hj.mono ?_
   rintro e' w' ⟨rfl, hb⟩
   refine ⟨_, F, [], rfl, ⟨hb.os, hb.tape, hb.output, hb.size, hb.block⟩, fun _ h => h, fun b hb' => ⟨.inl hb', Nat.lt_of_lt_of_le (hF b hb') hb.size⟩, .v _, ⟨rfl, by simp [imp], by simp, by simp⟩, by simp⟩
end Go.AE
end
section
namespace Go.AE
open Go.Proofs
set_option maxRecDepth 20000
set_option maxHeartbeats 8000000
set_option linter.unusedSimpArgs false
theorem uM (v : Value) (hc : v.cells = #[v]) (h : v.oneCell' = true) : ∀ (i : Nat) (x : i < v.cells.size), v.cells[i].oneCell' = true := by
 rw [hc]
 intro i x
 have : i = 0 := by simpa using x
 subst this
 exact h
theorem zd5 {G : Gh} {σ : List Nat} {i : Nat} {L : bU} (h : (cI G σ)[i]? = some (some L)) : ∃ j, σ[i]? = some j ∧ G[j]? = some (some L) := by
 unfold cI at h
 rw [List.getElem?_map] at h
 cases hq : σ[i]? with
 | none => rw [hq] at h; cases h
 | some j =>
  rw [hq] at h
  refine ⟨j, rfl, ?_⟩
  cases hg : G[j]? with
  | none => simp [hg] at h
  | some x => simp [hg] at h; rw [h]
theorem zl0 (A : List (List UInt8)) : (A.map Sv).take A.length = A.map Sv := List.take_of_length_le (by simp)
theorem zcw (A U : List (List UInt8)) : pH (eF A U) = true := by simp [pH, eF, y9, oC, Sv, aA]
def dsg : List Nat := [0, 1, 2, 3, 4, 5, 6]
theorem uT (A U : List (List UInt8)) : aT dsg.length (cY dsg (eF A U).length) (eF A U) dsg (eF A U) := ⟨⟨rfl, rfl, rfl⟩, ⟨rfl, rfl, rfl⟩, ⟨rfl, rfl, rfl⟩, ⟨rfl, rfl, rfl⟩, ⟨rfl, rfl, rfl⟩, ⟨rfl, rfl, rfl⟩, ⟨rfl, rfl, rfl⟩, trivial⟩
theorem PM {F : Nat → Prop} {V : dJ} {w0 w : World} {G : Gh} {a : Act} {A U : List (List UInt8)} (h : aE Tryz.prog 60 V w0 ⟨dV, eF A U⟩ G F a w) (t : List (Nat × AV)) (tmps : Array Value) (hn : tmps.size = 60)
  (ht : ∀ k, get dV k ≠ .junk → tmps.getD k undef = a.tmps.getD k undef) (ht' : ∀ k, get (t ++ dV) k = get dV k ∧ get dV k ≠ .junk ∨ aH w F [] (get (t ++ dV) k) (tmps.getD k undef)) (ds : List Deferred) :
  aE Tryz.prog 60 { VL F (eF A U) (cI G dsg) with ds := ds } w ⟨t ++ dV, eF A U ++ [.fence]⟩ (cI G dsg ++ [none]) F { tmps := tmps, defers := ds } w := by
 have hst := yT h (σ := dsg) (m0 := eF A U) (n := 7) rfl (uT A U)
 refine (aE.retemp (V := VL F (eF A U) (cI G dsg)) hst hn fun k => ?_).redefer ds
 rcases ht' k with ⟨e, hj⟩ | e
 ·rw [e, ht k hj]
  have h1 := h.tm k
  refine aH.unren (G := G) (ρ := cY dsg 7) (k := 7) (fun i hi g hg => ?_) (get dV k) ?_ ?_
  ·rw [tO dsg _ i hi] at hg
   rw [List.getElem?_append_left (by simpa [cI, dsg] using hi), yD h (uT A U) i hi]
   exact hg
  ·simp only [dV, get]; repeat' split
   all_goals rfl
  ·have : ren (cY dsg 7) (get dV k) = get dV k := by
    simp only [dV, get]; repeat' split
    all_goals rfl
   rw [this]; exact h1
 ·exact aH.mono ⟨fun _ h => h, fun _ _ => rfl⟩ (bS.nil _) e
theorem BQ {F F1 : Nat → Prop} {V : dJ} {w0 w w1 : World} {G G1 : Gh} {a a1 : Act} {A U : List (List UInt8)} {m1 : List Ob} {t1 : List (Nat × AV)} {ds : List Deferred} (h : aE Tryz.prog 60 V w0 ⟨dV, eF A U⟩ G F a w) (hk : j2 (eF A U) m1 = true)
  (h1 : aE Tryz.prog 60 { VL F (eF A U) (cI G dsg) with ds := ds } w ⟨t1, m1⟩ G1 F1 a1 w1) :
  ∃ G', (∀ {x : AV} {v : Value}, aH w1 F1 G1 x v → aH w1 F1 G' (ren (cY dsg 7) x) v) ∧
   aE Tryz.prog 60 V w0 ⟨kR [5, 6] dV, aP (cY dsg 7) (eZ [5, 6] (eF A U)) dsg m1 ++ (m1.drop 7).map (renO (cY dsg 7))⟩ G' F1 a w1 :=
 UX h (σ := dsg) rfl (uT A U) hk (h1.untemp.redefer [])
theorem sN {P Q R S : Prop} (a : Q) (b : R) (c : S) (h : Mk P → bD Q → bD R → bD S → P := by
 intro m q r s
 repeat' first | refine aM (by first | assumption | (apply_assumption <;> omega)) ?_ ?_ | refine cM.fit (by assumption) ?_ | simp (maxSteps := 4000000) (disch := omega) only [aZ, aY, bun, ↓aW, ↓aV, aO, findLabel, ↓reduceIte, imp, shift, aR, aJ, unown, names, aQ, below, aD, aC, aT, aU, aS, ren, aN, aP, aX, renO, belowM, seval, -Int.reduceToNat, bT, b9, Int.reduceToNat, eA, List.map_nil, List.nil_append, bR, lM, gJ, zc0, zl0, *] | exact bH _ | refine bG _ _ ?_ | exact bC.cl | refine bE _ ?_ | refine bF _ _ ?_ ?_ | refine bA _ ?_ | refine fkx ?_ tru <;> intro hg | refine fkx ?_ ?_ <;> intro hg | exact fkx tru tru | refine And.intro (by omega) ?_ | omega
 first
 | done
 | all_goals (repeat revert hg)
   exact q.out
   first
   | done
   | exact r.out
     first
     | done
     | exact s.out
       first | done | fail) : P := h ⟨tru⟩ ⟨a⟩ ⟨b⟩ ⟨c⟩
theorem zbo (s : List UInt8) (L : List (List UInt8)) (h0 : L ≠ []) (hL : L.length ≤ 1000)
  (cL : aG Tryz.prog 10 [tab, Sv s] (.tup [.sl L.length (L.map Sv), aA 0]))
  (cB : ∀ x ∈ L, aG Tryz.prog 35 [tab, Sv x] (.tup [Sv (dK x).1, Sv (dK x).2.1, aA (dK x).2.2]))
  (hA : (jA L).length ≤ 100000000) (hU : (jU L).length ≤ 100000000) :
  aG Tryz.prog 32 [tab, Sv s] (.tup [Sv (jY L).1, Sv (jY L).2.1, aA (jY L).2.2]) := by
 skip
 refine ⟨⟨_, Tryz.func32, rfl, by decide +kernel⟩, fun w F vs hF hT hr => ?_⟩
 refine (callsIn_wide (n := 10)).1 ?_
 show CallsIn (fr none) 10 _ _ _ _ _
 refine callsIn_of_wp_marks Tryz.func32 rfl trivial ?_
 rw [show Tryz.f32.ntmps = 60 from Tryz.ntmps32]
 have hrel := zT (N := 60) (ds := []) hT hF hr (by simp)
 rw [← cT] at hrel cL
 refine wpIn_seq (wpIn_mono (gF none 10 bZ _ (Q := dQ (fun s' => wk s' ⟨[(1, Sv s), (2, .ptr 0 0), (4, .ptr 1 0), (5, .ptr 2 0), (6, .ptr 3 0)], [.row true 1 bK, .row true 1 [Sv []], .row true 1 [Sv []], .row true 1 [aA 0]]⟩) (fun _ _ => False) (fun _ => False)) rfl (by decide) hrel (AW.out ?_)) ?_)
 ·repeat' first | simp (maxSteps := 4000000) (disch := omega) only [aZ, aY, bun, ↓aW, ↓aV, aO, findLabel, ↓reduceIte, imp, shift, aR, aJ, unown, names, aQ, below, aD, aC, aT, aU, aS, ren, aN, aP, aX, renO, belowM, seval, -Int.reduceToNat, lM, gJ, bT, b9, Int.reduceToNat, eA, List.map_nil, List.nil_append, bR] | refine bA _ ?_ | refine fkx ?_ tru <;> intro hg | refine fkx ?_ ?_ <;> intro hg | exact fkx tru tru | refine And.intro (by omega) ?_ | omega
  (simp (disch := omega) [wk, aL, aI, aD, aC, get, aK, belowM, below, belows, aA, aB, Bv, U8, Sv, bJ] <;> try omega)
  all_goals (repeat' refine And.intro ?_ ?_)
  all_goals first | rfl | exact uM _ rfl rfl
 rintro e1 a1 w1 ⟨s1, G1, F1, hq1, h1⟩
 cases e1 with
 | normal =>
  have h1' := h1.weak hq1
  refine wpIn_seq (wpIn_mono (gF none 10 bZ _ (Q := dQ (fun s' => wk s' ⟨[(2, .ptr 0 0), (4, .ptr 1 0), (5, .ptr 2 0), (6, .ptr 3 0), (7, .sl L.length (L.map Sv)), (8, aA 0)], [.row true 1 bK, .row true 1 [Sv []], .row true 1 [Sv []], .row true 1 [aA 0]]⟩) (fun _ _ => False) (fun _ => False)) rfl (by decide) h1' (AW.out ?_)) ?_)
  ·repeat' first | refine aM (cL) ?_ ?_ | simp (maxSteps := 4000000) (disch := omega) only [aZ, aY, bun, ↓aW, ↓aV, aO, findLabel, ↓reduceIte, imp, shift, aR, aJ, unown, names, aQ, below, aD, aC, aT, aU, aS, ren, aN, aP, aX, renO, belowM, seval, -Int.reduceToNat, lM, gJ, bT, b9, Int.reduceToNat, eA, List.map_nil, List.nil_append, bR] | exact bH _ | refine bG _ _ ?_ | exact bC.cl | refine bE _ ?_ | refine bF _ _ ?_ ?_ | refine bA _ ?_ | refine fkx ?_ tru <;> intro hg | refine fkx ?_ ?_ <;> intro hg | exact fkx tru tru | refine And.intro (by omega) ?_ | omega
   (simp (disch := omega) [wk, aL, aI, aD, aC, get, aK, belowM, below, belows, aA, aB, Bv, U8, Sv, bJ] <;> try omega)
   all_goals (repeat' refine And.intro ?_ ?_)
   all_goals first | rfl | exact uM _ rfl rfl
  rintro e2 a2 w2 ⟨s2, G2, F2, hq2, h2⟩
  cases e2 with
  | normal =>
   have h2' := h2.weak hq2
   refine wpIn_seq (wpIn_mono (gF none 10 bZ _ (Q := dQ (fun s' => wk s' ⟨[(2, .ptr 0 0), (4, .ptr 1 0), (5, .ptr 2 0), (6, .ptr 3 0), (7, .sl L.length (L.map Sv))], [.row true 1 bK, .row true 1 [Sv []], .row true 1 [Sv []], .row true 1 [aA 0]]⟩) (fun _ _ => False) (fun _ => False)) rfl (by decide) h2' (AW.out ?_)) ?_)
   ·repeat' first | simp (maxSteps := 4000000) (disch := omega) only [aZ, aY, bun, ↓aW, ↓aV, aO, findLabel, ↓reduceIte, imp, shift, aR, aJ, unown, names, aQ, below, aD, aC, aT, aU, aS, ren, aN, aP, aX, renO, belowM, seval, -Int.reduceToNat, lM, gJ, bT, b9, Int.reduceToNat, eA, List.map_nil, List.nil_append, bR] | refine bA _ ?_ | refine fkx ?_ tru <;> intro hg | refine fkx ?_ ?_ <;> intro hg | exact fkx tru tru | refine And.intro (by omega) ?_ | omega
    (simp (disch := omega) [wk, aL, aI, aD, aC, get, aK, belowM, below, belows, aA, aB, Bv, U8, Sv, bJ] <;> try omega)
    all_goals (repeat' refine And.intro ?_ ?_)
    all_goals first | rfl | exact uM _ rfl rfl
   rintro e3 a3 w3 ⟨s3, G3, F3, hq3, h3⟩
   cases e3 with
   | normal =>
    have h3' := h3.weak hq3
    refine wpIn_seq (wpIn_mono (gF none 10 bZ _ (Q := dQ (fun s' => wk s' ⟨[(2, .ptr 0 0), (4, .ptr 1 0), (5, .ptr 2 0), (6, .ptr 3 0), (7, .sl L.length (L.map Sv)), (9, .ptr 4 0), (10, .ptr 5 0)], [.row true 1 bK, .row true 1 [Sv []], .row true 1 [Sv []], .row true 1 [aA 0], .row true 1 [.v (.slice none 0 0)], .row true 1 [.v (.slice none 0 0)]]⟩) (fun _ _ => False) (fun _ => False)) rfl (by decide) h3' (AW.out ?_)) ?_)
    ·repeat' first | simp (maxSteps := 4000000) (disch := omega) only [aZ, aY, bun, ↓aW, ↓aV, aO, findLabel, ↓reduceIte, imp, shift, aR, aJ, unown, names, aQ, below, aD, aC, aT, aU, aS, ren, aN, aP, aX, renO, belowM, seval, -Int.reduceToNat, lM, gJ, bT, b9, Int.reduceToNat, eA, List.map_nil, List.nil_append, bR] | refine bA _ ?_ | refine fkx ?_ tru <;> intro hg | refine fkx ?_ ?_ <;> intro hg | exact fkx tru tru | refine And.intro (by omega) ?_ | omega
     (simp (disch := omega) [wk, aL, aI, aD, aC, get, aK, belowM, below, belows, aA, aB, Bv, U8, Sv, bJ] <;> try omega)
     all_goals (repeat' refine And.intro ?_ ?_)
     all_goals first | rfl | exact uM _ rfl rfl
    rintro e4 a4 w4 ⟨s4, G4, F4, hq4, h4⟩
    cases e4 with
    | normal =>
     have h4' := h4.weak hq4
     refine wpIn_seq (wpIn_seq (wpIn_mono (gF none 10 bZ _ (Q := dQ (fun s' => wk s' ⟨[(2, .ptr 0 0), (4, .ptr 1 0), (5, .ptr 2 0), (6, .ptr 3 0), (27, .fn 82 [] [.cp [.sl L.length (L.map Sv)]]), (9, .ptr 4 0), (10, .ptr 5 0)], [.row true 1 bK, .row true 1 [Sv []], .row true 1 [Sv []], .row true 1 [aA 0], .row true 1 [.v (.slice none 0 0)], .row true 1 [.v (.slice none 0 0)]]⟩) (fun _ _ => False) (fun _ => False)) rfl (by decide) h4' (AW.out ?_)) ?_))
     ·repeat' first | refine aM (zle L) ?_ ?_ | simp (maxSteps := 4000000) (disch := omega) only [aZ, aY, bun, ↓aW, ↓aV, aO, findLabel, ↓reduceIte, imp, shift, aR, aJ, unown, names, aQ, below, aD, aC, aT, aU, aS, ren, aN, aP, aX, renO, belowM, seval, -Int.reduceToNat, lM, gJ, bT, b9, Int.reduceToNat, eA, List.map_nil, List.nil_append, bR] | exact bH _ | refine bG _ _ ?_ | exact bC.cl | refine bE _ ?_ | refine bF _ _ ?_ ?_ | refine bA _ ?_ | refine fkx ?_ tru <;> intro hg | refine fkx ?_ ?_ <;> intro hg | exact fkx tru tru | refine And.intro (by omega) ?_ | omega
      (simp (disch := omega) [wk, aL, aI, aD, aC, get, aK, belowM, below, belows, aA, aB, Bv, U8, Sv, bJ] <;> try omega)
      all_goals (repeat' refine And.intro ?_ ?_)
      all_goals first | rfl | exact uM _ rfl rfl
     rintro e5 a5 w5 ⟨s5, G5, F5, hq5, h5⟩
     cases e5 with
     | normal =>
      have h6 := h5.weak hq5
      obtain ⟨G0, hG0⟩ : ∃ G0, G5.take 6 = G0 := ⟨_, rfl⟩
      simp only [List.length_cons, List.length_nil, Nat.zero_add, Nat.reduceAdd] at h6
      rw [hG0] at h6
      obtain ⟨p, h9, hp⟩ : ∃ p, a5.tmps.getD 27 undef = .func (.func 82) #[] #[p] ∧ aH w5 F5 [] (.cp [.sl L.length (L.map Sv)]) p := by
       have h := CH h6 rfl (show aH w5 F5 G0 (.fn 82 [] [.cp [.sl L.length (L.map Sv)]]) (a5.tmps.getD 27 undef) from h6.tm 27)
       simp only [fz, fzs] at h
       cases hv : a5.tmps.getD 27 undef <;> rw [hv] at h <;> cases h
       rename_i h1 h2
       cases h1
       cases h2 with
       | cons h2 h4 => cases h4; exact ⟨_, rfl, h2⟩
      have h7 := h6.weak (s' := ⟨[(2, .ptr 0 0)], [.row true 1 bK]⟩) (by (simp (disch := omega) [wk, aL, aI, aD, aC, get, aK, belowM, below, belows, aA, aB, Bv, U8, Sv, bJ] <;> try omega))
      simp only [List.length_cons, List.length_nil, Nat.zero_add, Nat.reduceAdd] at h7
      have htb : aH w5 (hP F5 (G0.take 1)) [] (.cp bK) (a5.tmps.getD 2 undef) := v8 h7 (show aH w5 F5 (G0.take 1) (.ptr 0 0) (a5.tmps.getD 2 undef) from h7.tm 2)
      obtain ⟨FR, hFR⟩ : ∃ FR, hP F5 (G0.take 1) = FR := ⟨_, rfl⟩
      have hFRw : ∀ b, FR b → b < w5.heap.size := by
       intro b hb
       rw [← hFR] at hb
       rcases hb with hb | ⟨id, M, hM, rfl⟩
       ·exact (h6.fb b hb).1
       ·exact (h7.live id M hM).2.1
      have hF5w : ∀ b, F5 b → b < w5.heap.size := fun b hb => (h6.fb b hb).1
      have hgr5 := h6.grown
      have hFF : ∀ b, F b → FR b := fun b hb => by rw [← hFR]; exact .inl (h6.f0.1 b hb)
      have hFn : ∀ b, FR b → F b ∨ w.heap.size ≤ b := by
       intro b hb
       rw [← hFR] at hb
       rcases hb with hb | ⟨id, M, hM, rfl⟩
       ·exact h6.f0.2 b hb
       ·right
        have hob : obj [Ob.row true 1 bK] id = .row true 1 bK ∨ obj [Ob.row true 1 bK] id = .dead := by
         cases id with
         | zero => exact .inl rfl
         | succ n => exact .inr rfl
        have hpm := (h7.live id M hM).2.2
        rcases hob with e | e <;> rw [show (St.mk [(2, AV.ptr 0 0)] [Ob.row true 1 bK]).m = [Ob.row true 1 bK] from rfl, e] at hpm
        ·rcases hpm with h | h
         ·exact h
         ·cases h
        ·rcases hpm with h | (h | ⟨_, h, _⟩)
         ·exact h
         ·cases h
         ·cases h
      have hd5 : a5.defers = [] := h6.defers
      have hB0 := h6.weakR (σ := [1, 2, 3, 4, 5]) (s' := ⟨dV, [.row true 1 [Sv []], .row true 1 [Sv []], .row true 1 [aA 0], .row true 1 [.v (.slice none 0 0)], .row true 1 [.v (.slice none 0 0)]]⟩) (by
       simp [wkr, fZ, aD, aC, aL, rU, pY, cY, ren, renO, rens, obj, get, dV, aK, belowM, below, belows, Sv, aA])
      obtain ⟨G1', hG1⟩ : ∃ G1', cI G0 [1, 2, 3, 4, 5] = G1' := ⟨_, rfl⟩
      rw [hG1] at hB0
      have hB1 := hB0.refr (FR := FR) rfl rfl hFF hFRw (by
       intro id M hM hF'
       have hlv := (hB0.live id M hM).1
       rw [← hG1] at hM
       obtain ⟨j, hj1, hj2⟩ := zd5 hM
       rw [← hFR] at hF'
       rcases hF' with hb | ⟨id', M', hM', e⟩
       ·exact hlv hb
       ·have hi' : id' = 0 := by
         have h1 := (List.getElem?_eq_some_iff.1 hM').1
         simp at h1; omega
        subst hi'
        have h2 : G0[0]? = some (some M') := by
         rw [List.getElem?_take] at hM'
         simpa using hM'
        have h3 := h6.inj 0 j M' M h2 hj2 e
        subst h3
        have h4 : (0 : Nat) ∈ [1, 2, 3, 4, 5] := List.mem_of_getElem? hj1
        simp at h4)
      have hlen1 : G1'.length = 5 := by rw [← hG1]; rfl
      have hB2 := (hB1.nilArr 9 1 (by decide)).nilArr 9 1 (by decide)
      have hrowAt : ∀ i, i < 5 → ∃ M, ((G1' ++ [none]) ++ [none])[i]? = some (some M) := by
       intro i hi
       rw [List.getElem?_append_left (by simp; omega), List.getElem?_append_left (by omega)]
       obtain ⟨g, hg⟩ : ∃ g, G1'[i]? = some g := ⟨_, List.getElem?_eq_getElem (by omega)⟩
       have ho := hB1.ob i g hg
       have hk : ∃ k sz cs, obj [Ob.row true 1 [Sv []], .row true 1 [Sv []], .row true 1 [aA 0], .row true 1 [.v (.slice none 0 0)], .row true 1 [.v (.slice none 0 0)]] i = .row k sz cs := by
        match i, hi with
        | 0, _ => exact ⟨_, _, _, rfl⟩
        | 1, _ => exact ⟨_, _, _, rfl⟩
        | 2, _ => exact ⟨_, _, _, rfl⟩
        | 3, _ => exact ⟨_, _, _, rfl⟩
        | 4, _ => exact ⟨_, _, _, rfl⟩
       obtain ⟨k, sz, cs, hk⟩ := hk
       dsimp only at ho
       rw [hk] at ho
       obtain ⟨M, _, e, _⟩ := ho
       exact ⟨M, by rw [hg, e]⟩
      obtain ⟨M3, hM3⟩ := hrowAt 3 (by decide)
      obtain ⟨M4, hM4⟩ := hrowAt 4 (by decide)
      have hn5 : ((G1' ++ [none]) ++ [none])[5]? = some none := by
       rw [List.getElem?_append_left (by simp; omega), List.getElem?_append_right (by omega)]; simp [hlen1]
      have hn6 : ((G1' ++ [none]) ++ [none])[6]? = some none := by
       rw [List.getElem?_append_right (by simp; omega)]; simp [hlen1]
      have hB3 := (hB2.nilBox hM3 hn5 rfl).nilBox hM4 hn6 rfl
      obtain ⟨GI, hI0⟩ : ∃ GI, aE Tryz.prog 60 ⟨FR, [], [], [], none, fun _ => none⟩ w ⟨dV, eF [] []⟩ GI FR a5 w5 := ⟨_, hB3⟩
      clear hB3 hB2 hB1 hB0 hrowAt hM3 hM4 hn5 hn6
      have fin : ∀ (D : Nat) (W : World) (G : Gh) (a u : List UInt8) (e : Int) (tm : Array Value), aE Tryz.prog 60 ⟨FR, [], [], [], none, fun _ => none⟩ w ⟨jZ, sK a u e⟩ G FR { tmps := tm, defers := [] } W → w5.heap.size ≤ D → W.heap[D]? = some (.deferred (some [])) → jY L = (a, u, e) →
        LeavesInM (fr none) 10 Tryz.prog Tryz.f32 tm (lC w F (.tup [Sv (jY L).1, Sv (jY L).2.1, aA (jY L).2.2])) ({ target := .collected D, args := #[] } :: a5.defers) .returning W := by
       intro D W G a u e tm hR hD hK hdf
       refine ⟨by simp, .inl ⟨D, _, rfl, run_takeDeferred hK, ?_⟩⟩
       rw [hd5, hdf]
       have h' := hR.grownBy rfl (grownBy_putObj' W D (.deferred none)) (fun r e => by
        cases e
        exact ⟨by have := hgr5.size; omega, fun hb => by have := hFRw D hb; omega, _, hK, rfl⟩)
       obtain ⟨v, hv, hpost⟩ := zj4 (fn := Tryz.f32) (z := false) (r := .tup [Sv a, Sv u, aA e]) bZ h' (by
        show tP C1 false [.cell 4 9, .cell 5 9, .cell 6 32] (.tup [Sv a, Sv u, aA e]) .ret ⟨jZ, sK a u e⟩
        unfold jZ sK
        repeat' first | simp (maxSteps := 4000000) (disch := omega) only [aZ, aY, bun, ↓aW, ↓aV, aO, findLabel, ↓reduceIte, imp, shift, aR, aJ, unown, names, aQ, below, aD, aC, aT, aU, aS, ren, aN, aP, aX, renO, belowM, seval, -Int.reduceToNat, bT, b9, Int.reduceToNat, eA, List.map_nil, List.nil_append, bR] | refine bA _ ?_ | refine fkx ?_ tru <;> intro hg | refine fkx ?_ ?_ <;> intro hg | exact fkx tru tru | refine And.intro (by omega) ?_ | omega)
       exact ⟨_, hv, hpost.sub hFF hFn⟩
      have hTm : ∀ x : List UInt8, ((#[28].zip (uU x)).foldl (fun t (p, v) => t.setIfInBounds p v) a5.tmps) = a5.tmps.setIfInBounds 28 (encStr x) := by intro x; simp [uU]
      have hsz := h6.tsize
      refine wpIn_block (wpIn_rangeFunc_ownF (F := fr none) (n := 10) (w0 := w5) rfl (by decide) (gf := 82) (lb := #[p]) h9 trivial (enters_of Tryz.func82 (by kernel_rfl) rfl)
       (zld L hL 9 w5 F5 hF5w h6.tb p hp) (fun h k b hb => (k b hb).trans (h b hb)) (fun W l o o' hl _ _ _ b hb => World.putObj_heap_other (by have := hF5w b hb; omega)) (RowKit.Below.refl _ _) (fun _ => rfl)
       (fun (pre : List {x // x ∈ L}) W => (∀ y ∈ pre, (bX y.1).2 = 0) ∧ (∀ b, FR b → W.heap[b]? = w5.heap[b]?) ∧ ∃ G, aE Tryz.prog 60 ⟨FR, [], [], [], none, fun _ => none⟩ w ⟨dV, eF (pre.map fun x => (bX x.1).1) (pre.map fun x => (dF x.1).1)⟩ G FR a5 W)
       (fun c pre W => c = .ret ∧ ∃ q x, pre = q ++ [x] ∧ (∀ y ∈ q, (bX y.1).2 = 0) ∧ (bX x.1).2 ≠ 0 ∧ ∃ G, aE Tryz.prog 60 ⟨FR, [], [], [], none, fun _ => none⟩ w ⟨jZ, sK [] [] (bX x.1).2⟩ G FR a5 W)
       ?own ?ownx ⟨by simp, fun _ _ => rfl, GI, hI0⟩ (fun x => ({ tmps := a5.tmps.setIfInBounds 28 (encStr x.1), defers := [] } : Act).put (some 11) (encStr x.1)) ?assign ?body ?done ?stop)
      case own =>
       rintro pre W W' row ⟨k1, k2, G, k3⟩ hg hr
       exact ⟨k1, fun b hb => (hg.block b (k3.fb b hb).1 (fun e => by have := (hr b e.symm).1; have := hFRw b hb; omega)).trans (k2 b hb), G,
        k3.grownBy rfl hg (fun r e => ⟨by have := (hr r e).1; have := hgr5.size; omega, fun hb => by have := hFRw r hb; have := (hr r e).1; omega, (hr r e).2⟩)⟩
      case ownx =>
       rintro c pre W W' row ⟨k1, q, x, k2, k3, k4, G, k5⟩ hg hr
       exact ⟨k1, q, x, k2, k3, k4, G,
        k5.grownBy rfl hg (fun r e => ⟨by have := (hr r e).1; have := hgr5.size; omega, fun hb => by have := hFRw r hb; have := (hr r e).1; omega, (hr r e).2⟩)⟩
      case assign =>
       rintro l ⟨x, hxm⟩ W K hK
       dsimp only at hK ⊢
       rw [hTm]
       refine wpIn_region_lit (wpListIn_plain rfl fun K' hK' => ⟨fun _ _ => trivial, ?_⟩)
       rw [show ((fr none).inRound l) = fr (some l) from rfl, l0 (some l) _ _ (fun c e => by cases e)]
       have hv : (Act.eval ({ tmps := a5.tmps.setIfInBounds 28 (encStr x), defers := [] } : Act) (.tmp 28)) = encStr x := by
        simp [Act.eval, Array.getD_eq_getD_getElem?, hsz]
       simp only [execOp, hv]
       exact hK' _ _ hK
      case body =>
       rintro l pre ⟨x, hx⟩ W ⟨hok, hFk, G, hR⟩ hlen
       dsimp only
       obtain ⟨A, hAe⟩ : ∃ A, pre.map (fun x => (bX x.1).1) = A := ⟨_, rfl⟩
       obtain ⟨U, hUe⟩ : ∃ U, pre.map (fun x => (dF x.1).1) = U := ⟨_, rfl⟩
       rw [hAe, hUe] at hR
       have hAl : A.length ≤ 1000 := by rw [← hAe, List.length_map]; omega
       have hUl : U.length ≤ 1000 := by rw [← hUe, List.length_map]; omega
       have cA := zl3 x (cB x hx)
       have cU := zl6 x (cB x hx)
       rw [← cT] at cA cU
       have hin := PM hR [(2, .cp bK), (11, Sv x)] ((a5.tmps.setIfInBounds 28 (encStr x)).setIfInBounds 11 (encStr x)) (by simp [hsz]) (fun k hk => by
        have hk' : k ≠ 11 ∧ k ≠ 28 := by
         constructor <;> rintro rfl <;> exact hk rfl
        simp only [Array.getD_eq_getD_getElem?, Array.getElem?_setIfInBounds]
        rw [if_neg (by omega), if_neg (by omega)]) (fun k => by
        by_cases h2 : k = 2
        ·subst h2
         right
         have e : ((a5.tmps.setIfInBounds 28 (encStr x)).setIfInBounds 11 (encStr x)).getD 2 undef = a5.tmps.getD 2 undef := by simp [Array.getD_eq_getD_getElem?]
         rw [e, ← hFR]
         exact aH.mono ⟨fun _ h => h, fun b hb => hFk b (by rw [← hFR]; exact hb)⟩ (bS.refl _) htb
        ·by_cases h11 : k = 11
         ·subst h11
          right
          have e : ((a5.tmps.setIfInBounds 28 (encStr x)).setIfInBounds 11 (encStr x)).getD 11 undef = encStr x := by simp [Array.getD_eq_getD_getElem?, hsz]
          rw [e]; exact .v _
         ·have e : get ([(2, AV.cp bK), (11, Sv x)] ++ dV) k = get dV k := by
           simp only [List.cons_append, List.nil_append, get]
           rw [if_neg (by omega), if_neg (by omega)]
          by_cases hj : get dV k = .junk
          ·right; rw [e, hj]; exact .junk _
          ·left; exact ⟨e, hj⟩) []
       have hst := yT hR (σ := dsg) (m0 := eF A U) (n := 7) rfl (uT A U)
       show Code.wpIn (fr (some l)) 8 _ _ _ _ _
       obtain ⟨T, hT⟩ : ∃ T, (a5.tmps.setIfInBounds 28 (encStr x)).setIfInBounds 11 (encStr x) = T := ⟨_, rfl⟩
       rw [hT] at hin
       rw [show (({ tmps := a5.tmps.setIfInBounds 28 (encStr x), defers := [] } : Act).put (some 11) (encStr x)) = { tmps := T, defers := [] } by rw [← hT]; rfl]
       refine wpIn_block (wpIn_seq (wpIn_mono (gF (some l) 8 bZ _ (Q := dQ (fun s' => wk s' ⟨[(2, .cp bK), (11, Sv x), (12, Sv (bX x).1), (13, aA (bX x).2)] ++ dV, eF A U ++ [.fence]⟩) (fun _ _ => False) (fun _ => False)) rfl (by decide) hin (AW.out ?_)) ?_))
       ·unfold dV eF
        refine sN ?_ tru tru <;> intros
        (simp (disch := omega) [wk, aL, aI, aD, aC, get, aK, belowM, below, belows, aA, aB, Bv, U8, Sv, bJ] <;> try omega)
       rintro e6 a6 w6 ⟨s6, G6, F6, hq6, j6⟩
       cases e6 with
       | normal =>
        have j6' := j6.weak hq6
        by_cases hx0 : (bX x).2 = 0
        rotate_left
        ·
         refine wpIn_seq (wpIn_mono (gF (some l) 8 bZ _ (Q := dQ (fun _ => False) (fun _ _ => False) (fun s' => wk s' ⟨jZ, [.row true 1 [Sv []], .row true 1 [Sv []], .row true 1 [aA (bX x).2], .dead, .dead, .dead, .dead, .fence]⟩)) rfl (by decide) j6' (AW.out ?_)) ?_)
         ·unfold dV eF jZ
          refine sN ?_ tru tru <;> intros
          (simp (disch := omega) [wk, aL, aI, aD, aC, get, aK, belowM, below, belows, aA, aB, Bv, U8, Sv, bJ] <;> try omega)
         rintro e7 a7 w7 ⟨s7, G7, F7, hq7, j7⟩
         cases e7 with
         | ret =>
          have j7' := j7.weak hq7
          obtain ⟨G8, _, j8⟩ := BQ hR rfl j7'
          obtain ⟨kk, _⟩ := hst.lentKeeps (s := ⟨[], []⟩) rfl rfl j7'
          refine ⟨kk, rfl, pre, ⟨x, hx⟩, rfl, hok, hx0, _, (j8.weak (s' := ⟨jZ, sK [] [] (bX x).2⟩) ⟨⟨rfl, rfl, rfl, trivial⟩, ⟨.inr rfl, .inr rfl, .inr rfl, rfl⟩, rfl⟩).shrink rfl rfl⟩
         | _ => exact hq7.elim
        ·
         refine wpIn_seq (wpIn_mono (gF (some l) 8 bZ _ (Q := dQ (fun s' => wk s' ⟨[(2, .cp bK), (11, Sv x), (12, Sv (bX x).1)] ++ dV, eF A U ++ [.fence]⟩) (fun _ _ => False) (fun _ => False)) rfl (by decide) j6' (AW.out ?_)) ?_)
         ·unfold dV eF
          refine sN ?_ tru tru <;> intros
          (simp (disch := omega) [wk, aL, aI, aD, aC, get, aK, belowM, below, belows, aA, aB, Bv, U8, Sv, bJ] <;> try omega)
         rintro e7 a7 w7 ⟨s7, G7, F7, hq7, j7⟩
         cases e7 with
         | normal =>
          have j7' := j7.weak hq7
          refine wpIn_seq (wpIn_mono (gF (some l) 8 bZ _ (Q := dQ (fun s' => wk s' ⟨(12, Sv (bX x).1) :: (14, Sv (dF x).1) :: dV, eF A U ++ [.fence]⟩) (fun _ _ => False) (fun _ => False)) rfl (by decide) j7' (AW.out ?_)) ?_)
          ·unfold dV eF
           refine sN ?_ tru tru <;> intros
           (simp (disch := omega) [wk, aL, aI, aD, aC, get, aK, belowM, below, belows, aA, aB, Bv, U8, Sv, bJ] <;> try omega)
          rintro e8 a8 w8 ⟨s8, G8, F8, hq8, j8⟩
          cases e8 with
          | normal =>
           have j8' := j8.weak hq8
           refine wpIn_mono (z9h (some l) 8 F8 A U hAl hUl (bX x).1 (dF x).1 j8' _ rfl) ?_
           rintro e9 a9 w9 ⟨s9, G9, F9, hq9, j9⟩
           cases e9 with
           | normal =>
            have j9' := j9.weak hq9
            obtain ⟨G10, _, j10⟩ := BQ hR rfl j9'
            obtain ⟨kk, kf⟩ := hst.lentKeeps (s := ⟨[], []⟩) rfl rfl j9'
            have e := zbm A U (bX x).1 (dF x).1
            have j11 := j10.weak (s' := ⟨dV, eF (A ++ [(bX x).1]) (U ++ [(dF x).1])⟩) (by
             rw [e]
             exact ⟨⟨rfl, rfl, rfl, rfl, rfl, trivial⟩, ⟨.inr rfl, .inr rfl, .inr rfl, .inr rfl, .inr rfl, .inr rfl, .inr rfl, rfl⟩, rfl⟩)
            refine ⟨kk, fun b hb => kf b (by rw [← hFR]; exact .inl hb), fun y hy => ?_, fun b hb => (kf b hb).trans (hFk b hb), by rw [List.map_append, List.map_append, hAe, hUe]; exact ⟨_, j11.shrink rfl (zcw _ _)⟩⟩
            rcases List.mem_append.1 hy with h | h
            ·exact hok y h
            ·rw [List.mem_singleton.1 h]; exact hx0
           | _ => exact hq9.elim
          | _ => exact hq8.elim
         | _ => exact hq7.elim
       | _ => exact hq6.elim
      case done =>
       rintro D xs W hD rfl ⟨hok, hFk, G, hR⟩ hK
       have hm1 : L.attach.map (fun x => (bX x.1).1) = L.map (fun x => (bX x).1) := List.attach_map_val (f := fun x => (bX x).1)
       have hm2 : L.attach.map (fun x => (dF x.1).1) = L.map (fun x => (dF x).1) := List.attach_map_val (f := fun x => (dF x).1)
       rw [hm1, hm2] at hR
       have hs0 : kZ L = 0 := z0w.2 fun x hx => hok ⟨x, hx⟩ (List.mem_attach _ _)
       have hin := PM hR [] a5.tmps hsz (fun k _ => rfl) (fun k => by
        by_cases hj : get dV k = .junk
        ·right; rw [List.nil_append, hj]; exact .junk _
        ·left; exact ⟨rfl, hj⟩) ({ target := .collected D, args := #[] } :: a5.defers)
       have hst := yT hR (σ := dsg) (m0 := eF (L.map fun x => (bX x).1) (L.map fun x => (dF x).1)) (n := 7) rfl (uT _ _)
       have cJ := z0u (L.map fun x => (bX x).1) [46] (by simpa using h0) (by rw [List.length_map]; omega) (by have := hA; unfold jA at this; omega)
       have cK := z0u (L.map fun x => (dF x).1) [46] (by simpa using h0) (by rw [List.length_map]; omega) (by have := hU; unfold jU at this; omega)
       obtain ⟨a, u, e, hdf⟩ : ∃ a u e, jY L = (a, u, e) := ⟨_, _, _, rfl⟩
       refine wpIn_mono (gF none 10 bZ _ (Q := dQ (fun _ => False) (fun _ _ => False) (fun s' => wk s' ⟨jZ, [.row true 1 [Sv a], .row true 1 [Sv u], .row true 1 [aA e], .dead, .dead, .dead, .dead, .fence]⟩)) rfl (by decide) hin (AW.out ?_)) ?_
       ·unfold jY at hdf
        rw [hs0, if_neg (by simp)] at hdf
        change aG _ _ _ (Sv (jA L)) at cJ
        change aG _ _ _ (Sv (jU L)) at cK
        generalize jA L = ja at *
        generalize jU L = ju at *
        generalize L.map (fun x => (bX x).1) = A0 at *
        generalize L.map (fun x => (dF x).1) = U0 at *
        unfold dV eF jZ
        by_cases h253 : 253 < ja.length
        ·rw [if_pos h253] at hdf
         cases hdf
         refine sN ?_ tru tru <;> intros
         (simp (disch := omega) [wk, aL, aI, aD, aC, get, aK, belowM, below, belows, aA, aB, Bv, U8, Sv, bJ] <;> try omega)
        ·rw [if_neg h253] at hdf
         cases hdf
         refine sN ?_ tru tru <;> intros
         (simp (disch := omega) [wk, aL, aI, aD, aC, get, aK, belowM, below, belows, aA, aB, Bv, U8, Sv, bJ] <;> try omega)
       rintro e7 a7 w7 ⟨s7, G7, F7, hq7, j7⟩
       cases e7 with
       | ret =>
        have j7' := j7.weak hq7
        obtain ⟨G8, hren, j8⟩ := BQ hR rfl j7'
        obtain ⟨kk, _⟩ := hst.lentKeeps (s := ⟨[], []⟩) rfl rfl j7'
        have j9 := (aE.retemp (t := jZ) (tmps := a7.tmps) j8.untemp j7.tsize fun k => by
         have h1 := hren (j7'.tm k)
         have e : ren (cY dsg 7) (get jZ k) = get jZ k := by
          simp only [jZ, get]; repeat' split
          all_goals rfl
         rw [e] at h1
         exact h1).weak (s' := ⟨jZ, sK a u e⟩) ⟨⟨rfl, rfl, rfl, trivial⟩, ⟨.inr rfl, .inr rfl, .inr rfl, rfl⟩, rfl⟩
        have hd7 : a7.defers = { target := .collected D, args := #[] } :: a5.defers := j7.defers
        have := fin D w7 _ a u e a7.tmps (j9.shrink rfl rfl) hD (kk.same _ _ hK rfl) hdf
        rw [← hd7] at this
        exact this
       | _ => exact hq7.elim
      case stop =>
       rintro D c pre W hD hpre ⟨rfl, q, x, rfl, hq, hx, G, hR⟩ hK
       refine wpIn_ret (fin D W G [] [] (bX x.1).2 a5.tmps (hR.redefer []) hD hK ?_)
       obtain ⟨r, hr⟩ := hpre
       have hs : kZ L = (bX x.1).2 := by
        have hr' := congrArg (List.map Subtype.val) hr
        rw [List.attach_map_subtype_val, List.map_append, List.map_append, List.append_assoc] at hr'
        refine (congrArg kZ hr').symm.trans ?_
        exact z0v (fun y hy => by
         obtain ⟨z, hz, rfl⟩ := List.mem_map.1 hy
         exact hq z hz) hx
       unfold jY
       rw [hs, if_pos hx]
     | _ => exact hq5.elim
    | _ => exact hq4.elim
   | _ => exact hq3.elim
  | _ => exact hq2.elim
 | _ => exact hq1.elim
end Go.AE
-- types: B0 B3 B4 B9 B29 B31 B32 B33 B36 B76
end
