/- Contracts of functions that the laws of this seat reach, and plain laws of what they compute. No condition beyond each statement's own. -/
import Derived.Test.YtoppecphhiiiiaaGreatDoorK1
import Derived.Test.YtoppecphhiiiiaaGreatDoorU1
import Derived.Test.YtoppecphhiiiiaaGreatDoorAERange
import Derived.Shelf.Abstract
import Derived.Test.YtoppecphhiiiiaaGreatDoorV1
import Derived.Test.YtoppecphhiiiiaaGreatDoorAEBun
import Derived.WalkKit
import Derived.Lib.Walk
import Derived.Lib.SliceRun
import Derived.Lib.JoinLaws
import Derived.Lib.AppendZerosOnto
import Derived.Lib.Overlaps
import Derived.Laws.Externs
import Derived.Laws.IdiomCopy
import Derived.Laws.NewBlocks
import Derived.Shelf.RegionOpenPlain
set_option linter.unusedVariables false
set_option linter.unusedSimpArgs false
section
namespace Go.AE
open Go.Proofs
set_option maxHeartbeats 8000000
set_option maxRecDepth 20000
set_option linter.unusedSimpArgs false
def dT (L : List Int) (k : Int) : List AV := [.sl 74 (ranges.flatMap eO), .sl 10 (classes.flatMap eP), .sl 11 (lowers.flatMap fA), .mp (sM 42), .mp (pM 42), .sl L.length (L.map aB), aA k]
def iT (r : Int) : Prop := -2147483648 ≤ r ∧ r ≤ 2147483647
theorem OB {L : List Int} (hb : ∀ c ∈ L, iT c) (k d : Int) (hd : iT d) : -2147483648 ≤ bn L k d ∧ bn L k d ≤ 2147483647 := by
 unfold bn
 split
 ·rename_i h
  refine hb _ ?_
  rw [List.getD, List.getElem?_eq_getElem (by omega)]; exact List.getElem_mem _
 ·exact hd
theorem zgn : iT (-1) := by unfold iT; omega
theorem z_in : iT 0 := by unfold iT; omega
theorem fE {P Q R S : Prop} {H : Prop} (o : H) (a : Q) (b : R) (c : S) (h : H → Mk P → bD Q → bD R → bD S → P := by
 intro w m q r s
 repeat' first | refine aM (by first | assumption | (apply_assumption <;> omega)) ?_ ?_ | refine cM.fit (by assumption) ?_ | simp (maxSteps := 4000000) (disch := omega) only [aZ, aY, bun, ↓aW, ↓aV, aO, findLabel, ↓reduceIte, imp, shift, aR, aJ, unown, names, aQ, below, aD, aC, aT, aU, aS, ren, aN, aP, aX, renO, belowM, seval, -Int.reduceToNat, bT, b9, tab, cN, dT, eL, eT, w] | exact bH _ | refine bG _ _ ?_ | exact bC.cl | refine bE _ ?_ | refine bF _ _ ?_ ?_ | refine bA _ ?_ | (refine Fk.fk ?_ ?_ <;> intro hg <;> (try simp only [hg]) <;> (try simp only [eC, d8, dB] at hg) <;> try (exfalso; first | omega | exact Bool.noConfusion hg | exact hg trivial)) | refine And.intro (by omega) ?_ | omega
 first
 | done
 | all_goals (repeat revert hg)
   exact q.out
   first
   | done
   | exact r.out
     first
     | done
     | exact s.out
       first | done | fail) : P := h o ⟨tru⟩ ⟨a⟩ ⟨b⟩ ⟨c⟩
theorem p8 (L : List Int) (hL : L.length ≤ 1000) (k n : Int) (h : 0 ≤ k ∧ k ≤ 1000 ∧ -1100 ≤ n ∧ n ≤ 1100) : aG Tryz.prog 218 [.ag (dT L k), aA n] (aB (bn L (k + n) (-1))) := by
 refine sp [.tmp 4] Tryz.func218 Tryz.ntmps218 ?_
 refine fE tru ?_ ?_ ?_ <;> intros
 ·rw [xO _ (by omega)]
 ·rw [BH _ (by omega)]
 ·unfold bn; rw [if_pos (by omega)]
theorem mO (r : Int) : aG Tryz.prog 199 [aB r] (Bv (d8 r)) := by
 refine sp [.tmp 2] Tryz.func199 Tryz.ntmps199 ?_
 refine fE tru ?_ ?_ tru <;> intros
 all_goals (congr 2; first | rfl | (first | rw [Bool.eq_iff_iff] | skip); simp_all [d8, dB] <;> omega)
theorem n7 (r : Int) : aG Tryz.prog 202 [aB r] (Bv (dB r)) := by
 refine sp [.tmp 2] Tryz.func202 Tryz.ntmps202 ?_
 refine fE tru ?_ ?_ tru <;> intros
 all_goals (congr 2; first | rfl | (first | rw [Bool.eq_iff_iff] | skip); simp_all [d8, dB] <;> omega)
theorem zf9 (L : List Int) (hL : L.length ≤ 1000) (k : Nat) (hk : k < L.length) : aG Tryz.prog 219 [.ag (dT L k), aA 1] (aA (jl (L.drop (k + 1)))) := by
 refine sp [.tmp 4] Tryz.func219 Tryz.ntmps219 ?_
 refine fE tru ?_ tru tru <;> intros
 refine bL (fun i : Nat => ⟨[(0, .ag (dT L k)), (1, aA 1), (2, .ptr 0 0), (4, aA 0), (5, aA (1 + i))], [.row true 1 (dT L k)]⟩) (fun i => k + 1 + i ≤ L.length ∧ jl (L.drop (k + 1)) = jl (L.drop (k + 1 + i))) (fun i => L.length - i) 0 ⟨by omega, rfl⟩ (by (simp (disch := omega) [wk, aL, aI, aD, aC, get, aK, belowM, below, belows, aA, aB, Bv, U8, Sv, dT] <;> try omega)) ?_
 intro i ⟨hi, he⟩
 by_cases hlt : k + 1 + i < L.length
 ·have hb : bn L (k + (1 + i)) (-1) = L.getD (k + 1 + i) 0 := by rw [show (k : Int) + (1 + i) = ((k + 1 + i : Nat) : Int) by omega, xN _ hlt]
  (have := @p8; have := @yM; refine fE hb ?_ ?_ ?_ <;> intros)
  ·rw [he, CY hlt (by assumption)]
  ·refine ⟨i + 1, ⟨by omega, ?_⟩, by omega, by (simp (disch := omega) [wk, aL, aI, aD, aC, get, aK, belowM, below, belows, aA, aB, Bv, U8, Sv, dT] <;> try omega)⟩
   rw [he, CX hlt (by assumption)]; rfl
  ·have := TH (c := L.getD (k + 1 + i) 0) (by omega)
   rw [he, CY hlt (by omega), this]
 ·have hb : bn L (k + (1 + i)) (-1) = -1 := BH _ (by omega)
  (have := @p8; have := @yM; refine fE hb ?_ tru tru <;> intros)
  rw [he, TE (by omega)]
theorem zf8 (L : List Int) (hL : L.length ≤ 1000) (k : Nat) (hk : k < L.length) : aG Tryz.prog 219 [.ag (dT L k), aA (-1)] (aA (jb L k)) := by
 refine sp [.tmp 4] Tryz.func219 Tryz.ntmps219 ?_
 refine fE tru ?_ tru tru <;> intros
 refine bL (fun i : Nat => ⟨[(0, .ag (dT L k)), (1, aA (-1)), (2, .ptr 0 0), (4, aA 0), (5, aA (-1 - i))], [.row true 1 (dT L k)]⟩) (fun i => i ≤ k ∧ jb L k = jb L (k - i)) (fun i => L.length - i) 0 ⟨by omega, rfl⟩ (by (simp (disch := omega) [wk, aL, aI, aD, aC, get, aK, belowM, below, belows, aA, aB, Bv, U8, Sv, dT] <;> try omega)) ?_
 intro i ⟨hi, he⟩
 by_cases hlt : i < k
 ·have hb : bn L (k + (-1 - i)) (-1) = L.getD (k - i - 1) 0 := by rw [show (k : Int) + (-1 - i) = ((k - i - 1 : Nat) : Int) by omega, xN _ (by omega)]
  (have := @p8; have := @yM; refine fE hb ?_ ?_ ?_ <;> intros)
  ·rw [he, CU (by omega) (by assumption)]
  ·refine ⟨i + 1, ⟨by omega, ?_⟩, by omega, by (simp (disch := omega) [wk, aL, aI, aD, aC, get, aK, belowM, below, belows, aA, aB, Bv, U8, Sv, dT] <;> try omega)⟩
   rw [he, TD (by omega) (by assumption)]; rfl
  ·have := TH (c := L.getD (k - i - 1) 0) (by omega)
   rw [he, CU (by omega) (by omega), this]
 ·have hb : bn L (k + (-1 - i)) (-1) = -1 := xO _ (by omega)
  (have := @p8; have := @yM; refine fE hb ?_ tru tru <;> intros)
  rw [he, show k - i = 0 by omega]; rfl
theorem zhp (L : List Int) (hL : L.length ≤ 1000) : aG Tryz.prog 210 [.sl L.length (L.map aB), .fn 199 [] []] (aA (idx L.length (L.findIdx d8))) := by
 refine sp [.tmp 4] Tryz.func210 Tryz.ntmps210 ?_
 refine fE tru ?_ tru tru <;> intros
 refine bL (fun i : Nat => ⟨[(0, .sl L.length (L.map aB)), (1, .fn 199 [] []), (7, aA L.length), (8, aA i)], []⟩) (fun i => i ≤ L.length ∧ ∀ j, j < i → d8 (L.getD j 0) = false) (fun i => L.length - i) 0 (by simp) (by (simp (disch := omega) [wk, aL, aI, aD, aC, get, aK, belowM, below, belows, aA, aB, Bv, U8, Sv, dT] <;> try omega)) ?_
 intro i ⟨hi, hno⟩
 (have := @mO; refine fE tru ?_ ?_ ?_ <;> intros)
 ·rw [vD rfl hno (by omega) (by (first | assumption | (simp only [d8, dB, Bool.and_eq_true, Bool.and_eq_false_iff, decide_eq_true_eq, decide_eq_false_iff_not]; assumption)))]
 ·exact ⟨i + 1, ⟨by omega, iX hno (by (first | assumption | (simp only [d8, dB, Bool.and_eq_true, Bool.and_eq_false_iff, decide_eq_true_eq, decide_eq_false_iff_not]; assumption)))⟩, by omega, (by (simp (disch := omega) [wk, aL, aI, aD, aC, get, aK, belowM, below, belows, aA, aB, Bv, U8, Sv, dT] <;> try omega))⟩
 ·rw [vE rfl hno (by omega)]
theorem zho (L : List Int) (hL : L.length ≤ 1000) : aG Tryz.prog 201 [.sl L.length (L.map aB), .fn 199 [] []] (Bv (L.any d8)) := by
 refine sp [.tmp 4] Tryz.func201 Tryz.ntmps201 ?_
 (have := zhp L hL; refine fE tru ?_ tru tru <;> intros)
 rw [← CN rfl]
theorem zl9 (L : List Int) (hL : L.length ≤ 1000) : aG Tryz.prog 210 [.sl L.length (L.map aB), .fn 202 [] []] (aA (idx L.length (L.findIdx dB))) := by
 refine sp [.tmp 4] Tryz.func210 Tryz.ntmps210 ?_
 refine fE tru ?_ tru tru <;> intros
 refine bL (fun i : Nat => ⟨[(0, .sl L.length (L.map aB)), (1, .fn 202 [] []), (7, aA L.length), (8, aA i)], []⟩) (fun i => i ≤ L.length ∧ ∀ j, j < i → dB (L.getD j 0) = false) (fun i => L.length - i) 0 (by simp) (by (simp (disch := omega) [wk, aL, aI, aD, aC, get, aK, belowM, below, belows, aA, aB, Bv, U8, Sv, dT] <;> try omega)) ?_
 intro i ⟨hi, hno⟩
 (have := @n7; refine fE tru ?_ ?_ ?_ <;> intros)
 ·rw [vD rfl hno (by omega) (by (first | assumption | (simp only [d8, dB, Bool.and_eq_true, Bool.and_eq_false_iff, decide_eq_true_eq, decide_eq_false_iff_not]; assumption)))]
 ·exact ⟨i + 1, ⟨by omega, iX hno (by (first | assumption | (simp only [d8, dB, Bool.and_eq_true, Bool.and_eq_false_iff, decide_eq_true_eq, decide_eq_false_iff_not]; assumption)))⟩, by omega, (by (simp (disch := omega) [wk, aL, aI, aD, aC, get, aK, belowM, below, belows, aA, aB, Bv, U8, Sv, dT] <;> try omega))⟩
 ·rw [vE rfl hno (by omega)]
theorem zl8 (L : List Int) (hL : L.length ≤ 1000) : aG Tryz.prog 201 [.sl L.length (L.map aB), .fn 202 [] []] (Bv (L.any dB)) := by
 refine sp [.tmp 4] Tryz.func201 Tryz.ntmps201 ?_
 (have := zl9 L hL; refine fE tru ?_ tru tru <;> intros)
 rw [← CN rfl]
theorem z9n (L : List Int) (k c : Int) : aG Tryz.prog 221 [aB c, .cp (dT L k)] (Bv (asn c)) := by
 refine sp [.tmp 3] Tryz.func221 Tryz.ntmps221 ?_
 (have := @EM; refine fE tru ?_ ?_ tru <;> intros)
 all_goals (congr 2; unfold asn; simp_all)
theorem z9o (L : List Int) (hL : L.length ≤ 1000) (M : List Int) (k : Int) : aG Tryz.prog 210 [.sl L.length (L.map aB), .fn 221 [] [.cp (dT M k)]] (aA (idx L.length (L.findIdx asn))) := by
 refine sp [.tmp 4] Tryz.func210 Tryz.ntmps210 ?_
 refine fE tru ?_ tru tru <;> intros
 refine bL (fun i : Nat => ⟨[(0, .sl L.length (L.map aB)), (1, .fn 221 [] [.cp (dT M k)]), (7, aA L.length), (8, aA i)], []⟩) (fun i => i ≤ L.length ∧ ∀ j, j < i → asn (L.getD j 0) = false) (fun i => L.length - i) 0 (by simp) (by (simp (disch := omega) [wk, aL, aI, aD, aC, get, aK, belowM, below, belows, aA, aB, Bv, U8, Sv, dT] <;> try omega)) ?_
 intro i ⟨hi, hno⟩
 (have := @z9n; refine fE tru ?_ ?_ ?_ <;> intros)
 ·rw [vD rfl hno (by omega) (by (first | assumption | (simp only [d8, dB, Bool.and_eq_true, Bool.and_eq_false_iff, decide_eq_true_eq, decide_eq_false_iff_not]; assumption)))]
 ·exact ⟨i + 1, ⟨by omega, iX hno (by (first | assumption | (simp only [d8, dB, Bool.and_eq_true, Bool.and_eq_false_iff, decide_eq_true_eq, decide_eq_false_iff_not]; assumption)))⟩, by omega, (by (simp (disch := omega) [wk, aL, aI, aD, aC, get, aK, belowM, below, belows, aA, aB, Bv, U8, Sv, dT] <;> try omega))⟩
 ·rw [vE rfl hno (by omega)]
theorem z9m (L : List Int) (hL : L.length ≤ 1000) (M : List Int) (k : Int) : aG Tryz.prog 201 [.sl L.length (L.map aB), .fn 221 [] [.cp (dT M k)]] (Bv (L.any asn)) := by
 refine sp [.tmp 4] Tryz.func201 Tryz.ntmps201 ?_
 (have := z9o L hL M k; refine fE tru ?_ tru tru <;> intros)
 rw [← CN rfl]
theorem PH (L : List Int) (hL : L.length ≤ 1000) (hb : ∀ c ∈ L, iT c) (k : Nat) (hk : k < L.length) : aG Tryz.prog 211 [.ag (dT L k)] (Bv (uS L k)) := by
 refine sp [.tmp 2] Tryz.func211 Tryz.ntmps211 ?_
 have hbd := OB hb (k + -1) (-1) zgn
 (have := @p8; have := @sE; refine fE tru ?_ tru tru <;> intros)
 rfl
theorem za9 (L : List Int) (hL : L.length ≤ 1000) (hb : ∀ c ∈ L, iT c) (k : Nat) (hk : k < L.length) : aG Tryz.prog 212 [.ag (dT L k)] (Bv (xP L k)) := by
 refine sp [.tmp 2] Tryz.func212 Tryz.ntmps212 ?_
 repeat' first | refine aM (zf9 _ hL _ hk) ?_ ?_ | refine aM (zf8 _ hL _ hk) ?_ ?_ | refine aM (PH _ hL hb _ hk) ?_ ?_ | simp (maxSteps := 4000000) (disch := omega) only [aZ, aY, bun, ↓aW, ↓aV, aO, findLabel, ↓reduceIte, imp, shift, aR, aJ, unown, names, aQ, below, aD, aC, aT, aU, aS, ren, aN, aP, aX, renO, belowM, seval, -Int.reduceToNat, bT, b9, tab, cN, dT, eL, eT] | exact bH _ | refine bG _ _ ?_ | exact bC.cl | refine bE _ ?_ | refine bF _ _ ?_ ?_ | refine bA _ ?_ | (refine Fk.fk ?_ ?_ <;> intro hg <;> (try simp only [hg]) <;> (try simp only [eC, d8, dB] at hg) <;> try (exfalso; first | omega | exact Bool.noConfusion hg | exact hg trivial)) | refine And.intro (by omega) ?_ | omega
 all_goals (congr 2; simp_all [xP])
theorem z9w (L : List Int) (hL : L.length ≤ 1000) (k : Nat) (hk : k < L.length) : aG Tryz.prog 213 [.ag (dT L k)] (Bv (uJ L k)) := by
 refine sp [.tmp 2] Tryz.func213 Tryz.ntmps213 ?_
 have e : uJ L k = ((bn L (k + -1) (-1) == 108) && (bn L (k + 1) (-1) == 108)) := rfl
 (have := @p8; refine fE tru ?_ ?_ tru <;> intros)
 all_goals (congr 2; simp_all)
theorem zee (L : List Int) (hL : L.length ≤ 1000) (k : Nat) (hk : k < L.length) : aG Tryz.prog 214 [.ag (dT L k)] (Bv (yE L k)) := by
 refine sp [.tmp 2] Tryz.func214 Tryz.ntmps214 ?_
 (have := @p8; have := @EM; refine fE tru ?_ tru tru <;> intros)
 rfl
theorem zeo (L : List Int) (hL : L.length ≤ 1000) (k : Nat) (hk : k < L.length) : aG Tryz.prog 215 [.ag (dT L k)] (Bv (yF L k)) := by
 refine sp [.tmp 2] Tryz.func215 Tryz.ntmps215 ?_
 (have := @p8; have := @EM; refine fE tru ?_ tru tru <;> intros)
 rfl
theorem z9l (L : List Int) (hL : L.length ≤ 1000) (k : Nat) (hk : k < L.length) : aG Tryz.prog 216 [.ag (dT L k)] (Bv (L.any asn)) := by
 refine sp [.tmp 2] Tryz.func216 Tryz.ntmps216 ?_
 (have := z9m L hL L k; exact fE tru tru tru tru)
theorem zjp (L : List Int) (hL : L.length ≤ 1000) (k : Int) : aG Tryz.prog 200 [.ag (dT L k)] (Bv (!L.any dB)) := by
 refine sp [.tmp 2] Tryz.func200 Tryz.ntmps200 ?_
 (have := zl8 L hL; exact fE tru tru tru tru)
theorem zjq (L : List Int) (hL : L.length ≤ 1000) (k : Int) : aG Tryz.prog 203 [.ag (dT L k)] (Bv (!L.any d8)) := by
 refine sp [.tmp 2] Tryz.func203 Tryz.ntmps203 ?_
 (have := zho L hL; exact fE tru tru tru tru)
end Go.AE
-- types: B0 B3 B4 B21 B29 B63 B85 B180
end
section
namespace Go.AE
open Go.Proofs
set_option maxHeartbeats 8000000
set_option maxRecDepth 20000
set_option linter.unusedSimpArgs false
def lV : List (Value × AV) := [(.int .i32 8205, .fn 211 [] []), (.int .i32 8204, .fn 212 [] []), (.int .i32 183, .fn 213 [] []), (.int .i32 885, .fn 214 [] []), (.int .i32 1523, .fn 215 [] []), (.int .i32 1524, .fn 215 [] []), (.int .i32 12539, .fn 216 [] [])]
theorem A2 : (∀ e ∈ lV, cC C1 21 e.1 = true) = True := by
 simp only [eq_iff_iff, iff_true]
 intro e he
 simp only [lV, List.mem_cons, List.not_mem_nil, or_false] at he
 rcases he with rfl | rfl | rfl | rfl | rfl | rfl | rfl <;> rfl
theorem nS : aG Tryz.prog 204 [] (.mp lV) := by
 refine qC (z := true) (ts := [.tmp 0]) bZ Tryz.func204 rfl rfl (by decide +kernel) (by simp [Tryz.ntmps204]) rfl ?_
 repeat' first | simp (maxSteps := 4000000) (disch := omega) only [aZ, aY, bun, ↓aW, ↓aV, aO, findLabel, ↓reduceIte, imp, shift, aR, aJ, unown, names, aQ, below, aD, aC, aT, aU, aS, ren, aN, aP, aX, renO, belowM, seval, -Int.reduceToNat, mput, gM, gL, List.forall_mem_cons, List.not_mem_nil, false_implies, implies_true, bT, b9, tab, cN, dT, eL, eT, A2] | refine bA _ ?_ | (refine Fk.fk ?_ ?_ <;> intro hg <;> (try simp only [hg]) <;> (try simp only [eC, d8, dB] at hg) <;> try (exfalso; first | omega | exact Bool.noConfusion hg | exact hg trivial)) | refine And.intro (by omega) ?_ | omega
 rfl
def EG : Rl → AV
 | .no => .v .nilFunc
 | .a => .fn 200 [] []
 | .b => .fn 203 [] []
 | .de => .fn 211 [] []
 | .bo => .fn 212 [] []
 | .be => .fn 213 [] []
 | .gr => .fn 214 [] []
 | .he => .fn 215 [] []
 | .as => .fn 216 [] []
def gI (r : Int) : AV := EG (rl r)
theorem zj6 {r : Int} (h1 : r ≠ 8205) (h2 : r ≠ 8204) (h3 : r ≠ 183) (h4 : r ≠ 885) (h5 : r ≠ 1523) (h6 : r ≠ 1524) (h7 : r ≠ 12539) : mget (.int .i32 r) lV = none := by
 have e1 := beq_eq_false_iff_ne.2 h1
 have e2 := beq_eq_false_iff_ne.2 h2
 have e3 := beq_eq_false_iff_ne.2 h3
 have e4 := beq_eq_false_iff_ne.2 h4
 have e5 := beq_eq_false_iff_ne.2 h5
 have e6 := beq_eq_false_iff_ne.2 h6
 have e7 := beq_eq_false_iff_ne.2 h7
 simp only [lV, mget, gM, gL, e1, e2, e3, e4, e5, e6, e7]
theorem nF {P Q R S : Prop} (a : Q) (b : R) (c : S) (h : Mk P → bD Q → bD R → bD S → P := by
 intro m q r s
 repeat' first | refine aM (by first | assumption | (apply_assumption <;> omega)) ?_ ?_ | refine cM.fit (by assumption) ?_ | simp (maxSteps := 4000000) (disch := omega) only [aZ, aY, bun, ↓aW, ↓aV, aO, findLabel, ↓reduceIte, imp, shift, aR, aJ, unown, names, aQ, below, aD, aC, aT, aU, aS, ren, aN, aP, aX, renO, belowM, seval, -Int.reduceToNat, bT, b9, tab, cN, dT, eL, eT, A2, mput, gM, gL, List.forall_mem_cons, List.not_mem_nil, *] | exact bH _ | refine bG _ _ ?_ | exact bC.cl | refine bE _ ?_ | refine bF _ _ ?_ ?_ | refine bA _ ?_ | (refine Fk.fk ?_ ?_ <;> intro hg <;> (try simp only [hg]) <;> (try simp only [eC, d8, dB] at hg) <;> try (exfalso; first | omega | exact Bool.noConfusion hg | exact hg trivial)) | refine And.intro (by omega) ?_ | omega
 first
 | done
 | all_goals (repeat revert hg)
   exact q.out
   first
   | done
   | exact r.out
     first
     | done
     | exact s.out
       first | done | fail) : P := h ⟨tru⟩ ⟨a⟩ ⟨b⟩ ⟨c⟩
theorem zjv (r : Int) : aG Tryz.prog 184 [aB r] (gI r) := by
 refine sp [.tmp 2] Tryz.func184 Tryz.ntmps184 ?_
 rcases E9 r with ⟨h, hr⟩ | ⟨h, h', hr⟩ | ⟨rfl, hr⟩ | ⟨rfl, hr⟩ | ⟨rfl, hr⟩ | ⟨rfl, hr⟩ | ⟨rfl, hr⟩ | ⟨rfl, hr⟩ | ⟨rfl, hr⟩ | ⟨⟨h, h', h1, h2, h3, h4, h5, h6, h7⟩, hr⟩
 ·have hv : gI r = .fn 200 [] [] := by unfold gI; rw [hr]; rfl
  rw [hv]
  (have := @mO; have := @n7; have := nS; exact nF tru tru tru)
 ·have hv : gI r = .fn 203 [] [] := by unfold gI; rw [hr]; rfl
  rw [hv]
  (have := @mO; have := @n7; have := nS; exact nF tru tru tru)
 ·have h : d8 8205 = false := by decide
  have h' : dB 8205 = false := by decide
  have hm : mget (.int .i32 8205) lV = some (.fn 211 [] []) := rfl
  have hv : gI 8205 = .fn 211 [] [] := by unfold gI; rw [hr]; rfl
  rw [hv]
  (have := @mO; have := @n7; have := nS; exact nF tru tru tru)
 ·have h : d8 8204 = false := by decide
  have h' : dB 8204 = false := by decide
  have hm : mget (.int .i32 8204) lV = some (.fn 212 [] []) := rfl
  have hv : gI 8204 = .fn 212 [] [] := by unfold gI; rw [hr]; rfl
  rw [hv]
  (have := @mO; have := @n7; have := nS; exact nF tru tru tru)
 ·have h : d8 183 = false := by decide
  have h' : dB 183 = false := by decide
  have hm : mget (.int .i32 183) lV = some (.fn 213 [] []) := rfl
  have hv : gI 183 = .fn 213 [] [] := by unfold gI; rw [hr]; rfl
  rw [hv]
  (have := @mO; have := @n7; have := nS; exact nF tru tru tru)
 ·have h : d8 885 = false := by decide
  have h' : dB 885 = false := by decide
  have hm : mget (.int .i32 885) lV = some (.fn 214 [] []) := rfl
  have hv : gI 885 = .fn 214 [] [] := by unfold gI; rw [hr]; rfl
  rw [hv]
  (have := @mO; have := @n7; have := nS; exact nF tru tru tru)
 ·have h : d8 1523 = false := by decide
  have h' : dB 1523 = false := by decide
  have hm : mget (.int .i32 1523) lV = some (.fn 215 [] []) := rfl
  have hv : gI 1523 = .fn 215 [] [] := by unfold gI; rw [hr]; rfl
  rw [hv]
  (have := @mO; have := @n7; have := nS; exact nF tru tru tru)
 ·have h : d8 1524 = false := by decide
  have h' : dB 1524 = false := by decide
  have hm : mget (.int .i32 1524) lV = some (.fn 215 [] []) := rfl
  have hv : gI 1524 = .fn 215 [] [] := by unfold gI; rw [hr]; rfl
  rw [hv]
  (have := @mO; have := @n7; have := nS; exact nF tru tru tru)
 ·have h : d8 12539 = false := by decide
  have h' : dB 12539 = false := by decide
  have hm : mget (.int .i32 12539) lV = some (.fn 216 [] []) := rfl
  have hv : gI 12539 = .fn 216 [] [] := by unfold gI; rw [hr]; rfl
  rw [hv]
  (have := @mO; have := @n7; have := nS; exact nF tru tru tru)
 ·have hm := zj6 h1 h2 h3 h4 h5 h6 h7
  have hv : gI r = .v .nilFunc := by unfold gI; rw [hr]; rfl
  rw [hv]
  (have := @mO; have := @n7; have := nS; exact nF tru tru tru)
theorem zh2 (L : List Int) (hL : L.length ≤ 1000) (hb : ∀ c ∈ L, iT c) (k : Int) (h0 : -9223372036854775808 ≤ k) (h1 : k ≤ 9223372036854775807) : aG Tryz.prog 152 [tab, .sl L.length (L.map aB), aA k] (aA (need L k)) := by
 refine sp [.tmp 6] Tryz.func152 Tryz.ntmps152 ?_
 by_cases hk : 0 ≤ k ∧ k < L.length
 ·obtain ⟨q, rfl⟩ : ∃ q : Nat, k = q := ⟨k.toNat, by omega⟩
  have hq : q < L.length := by omega
  cases hr : rl (L.getD q 0)
  all_goals
   have hv : gI (L.getD q 0) = EG (rl (L.getD q 0)) := rfl
   rw [hr] at hv
   simp only [EG] at hv
   have hn : need L q = fI L q := W8 hq
   unfold fI at hn
   rw [hr] at hn
   repeat' first | refine aM (zjv _) ?_ ?_ | refine aM (zjp L hL _) ?_ ?_ | refine aM (zjq L hL _) ?_ ?_ | refine aM (PH L hL hb q hq) ?_ ?_ | refine aM (za9 L hL hb q hq) ?_ ?_ | refine aM (z9w L hL q hq) ?_ ?_ | refine aM (zee L hL q hq) ?_ ?_ | refine aM (zeo L hL q hq) ?_ ?_ | refine aM (z9l L hL q hq) ?_ ?_ | simp (maxSteps := 4000000) (disch := omega) only [aZ, aY, bun, ↓aW, ↓aV, aO, findLabel, ↓reduceIte, imp, shift, aR, aJ, unown, names, aQ, below, aD, aC, aT, aU, aS, ren, aN, aP, aX, renO, belowM, seval, -Int.reduceToNat, hv, bT, b9, tab, cN, dT, eL, eT, A2] | exact bH _ | refine bG _ _ ?_ | exact bC.cl | refine bE _ ?_ | refine bF _ _ ?_ ?_ | refine bA _ ?_ | (refine Fk.fk ?_ ?_ <;> intro hg <;> (try simp only [hg]) <;> (try simp only [eC, d8, dB] at hg) <;> try (exfalso; first | omega | exact Bool.noConfusion hg | exact hg trivial)) | refine And.intro (by omega) ?_ | omega
   all_goals (rw [hn]; simp_all [mets])
 ·repeat' first | simp (maxSteps := 4000000) (disch := omega) only [aZ, aY, bun, ↓aW, ↓aV, aO, findLabel, ↓reduceIte, imp, shift, aR, aJ, unown, names, aQ, below, aD, aC, aT, aU, aS, ren, aN, aP, aX, renO, belowM, seval, -Int.reduceToNat, bT, b9, tab, cN, dT, eL, eT, A2] | refine bA _ ?_ | (refine Fk.fk ?_ ?_ <;> intro hg <;> (try simp only [hg]) <;> (try simp only [eC, d8, dB] at hg) <;> try (exfalso; first | omega | exact Bool.noConfusion hg | exact hg trivial)) | refine And.intro (by omega) ?_ | omega
  all_goals (rw [W9 (by omega)])
end Go.AE
-- types: B0 B3 B4 B21 B29 B63 B177 B180 B195
end
section
namespace Go.AE
open Go.Proofs
set_option maxRecDepth 20000
set_option linter.unusedSimpArgs false
theorem pD {P Q R S : Prop} {H : Prop} (o : H) (a : Q) (b : R) (c : S) (h : H → Mk P → bD Q → bD R → bD S → P := by
 intro w m q r s
 repeat' first | refine aM (by first | assumption | (apply_assumption <;> omega)) ?_ ?_ | refine cM.fit (by assumption) ?_ | simp (maxSteps := 4000000) (disch := omega) only [aZ, aY, bun, ↓aW, ↓aV, aO, findLabel, ↓reduceIte, imp, shift, aR, aJ, unown, names, aQ, below, aD, aC, aT, aU, aS, ren, aN, aP, aX, renO, belowM, seval, -Int.reduceToNat, bT, b9, tab, cN, eL, eT, w] | exact bH _ | refine bG _ _ ?_ | exact bC.cl | refine bE _ ?_ | refine bF _ _ ?_ ?_ | refine bA _ ?_ | (refine Fk.fk ?_ ?_ <;> intro hg <;> (try simp only [hg]) <;> (try simp only [eC, d8, dB] at hg) <;> try (exfalso; first | omega | exact Bool.noConfusion hg | exact hg trivial)) | refine And.intro (by omega) ?_ | omega
 first
 | done
 | all_goals (repeat revert hg)
   exact q.out
   first
   | done
   | exact r.out
     first
     | done
     | exact s.out
       first | done | fail) : P := h o ⟨tru⟩ ⟨a⟩ ⟨b⟩ ⟨c⟩
theorem BG (L : List Int) (hL : L.length ≤ 1000) (k : Int) : aG Tryz.prog 176 [.sl L.length (L.map aB), aA k] (aB (bn L k 0)) := by
 refine sp [.tmp 4] Tryz.func176 Tryz.ntmps176 ?_
 refine pD tru ?_ ?_ ?_ <;> intros
 ·rw [xO _ (by omega)]
 ·rw [BH _ (by omega)]
 ·unfold bn; rw [if_pos (by omega)]
theorem z09 (r : Int) : aG Tryz.prog 137 [aB r] (Bv (tH r)) := by
 refine sp [.tmp 2] Tryz.func137 Tryz.ntmps137 ?_
 rcases E9 r with ⟨h, hr⟩ | ⟨h, h', hr⟩ | ⟨rfl, hr⟩ | ⟨rfl, hr⟩ | ⟨rfl, hr⟩ | ⟨rfl, hr⟩ | ⟨rfl, hr⟩ | ⟨rfl, hr⟩ | ⟨rfl, hr⟩ | ⟨⟨h, h', h1, h2, h3, h4, h5, h6, h7⟩, hr⟩
 all_goals
  try simp only [d8, Bool.and_eq_true, Bool.and_eq_false_iff, decide_eq_true_eq, decide_eq_false_iff_not] at h
  try simp only [dB, Bool.and_eq_true, Bool.and_eq_false_iff, decide_eq_true_eq, decide_eq_false_iff_not] at h'
  repeat' first | simp (maxSteps := 4000000) (disch := omega) only [aZ, aY, bun, ↓aW, ↓aV, aO, findLabel, ↓reduceIte, imp, shift, aR, aJ, unown, names, aQ, below, aD, aC, aT, aU, aS, ren, aN, aP, aX, renO, belowM, seval, -Int.reduceToNat, bT, b9, tab, cN, eL, eT] | refine bA _ ?_ | (refine Fk.fk ?_ ?_ <;> intro hg <;> (try simp only [hg]) <;> (try simp only [eC, d8, dB] at hg) <;> try (exfalso; first | omega | exact Bool.noConfusion hg | exact hg trivial)) | refine And.intro (by omega) ?_ | omega
  all_goals (unfold tH; rw [hr]; first | rfl | (congr 2; first | rfl | (rw [Bool.eq_iff_iff]; simp; omega) | (simp; omega)))
def pV (lo hi r : Int) : Bool := decide (lo ≤ r) && decide (r ≤ hi)
theorem EQ (L : List Int) (hL : L.length ≤ 1000) (lo hi : Int) : aG Tryz.prog 180 [.sl L.length (L.map aB), aB lo, aB hi] (Bv (L.any (pV lo hi))) := by
 refine sp [.tmp 6] Tryz.func180 Tryz.ntmps180 ?_
 refine pD tru ?_ tru tru <;> intros
 refine bL (fun i : Nat => ⟨[(0, .sl L.length (L.map aB)), (1, aB lo), (2, aB hi), (7, aA i)], []⟩) (fun i => i ≤ L.length ∧ ∀ j, j < i → pV lo hi (L.getD j 0) = false) (fun i => L.length - i) 0 (by simp) (by (simp (disch := omega) [wk, aL, aI, aD, aC, get, aK, belowM, below, belows, aA, aB, Bv, U8, Sv, pV] <;> try omega)) ?_
 intro i ⟨hi', hno⟩
 repeat' first | simp (maxSteps := 4000000) (disch := omega) only [aZ, aY, bun, ↓aW, ↓aV, aO, findLabel, ↓reduceIte, imp, shift, aR, aJ, unown, names, aQ, below, aD, aC, aT, aU, aS, ren, aN, aP, aX, renO, belowM, seval, -Int.reduceToNat, bT, b9, tab, cN, eL, eT] | refine bA _ ?_ | (refine Fk.fk ?_ ?_ <;> intro hg <;> (try simp only [hg]) <;> (try simp only [eC, d8, dB] at hg) <;> try (exfalso; first | omega | exact Bool.noConfusion hg | exact hg trivial)) | refine And.intro (by omega) ?_ | omega
 ·rw [o9 (i := i) (by omega) (by simp only [pV, Bool.and_eq_true, decide_eq_true_eq]; omega)]
 ·refine ⟨i + 1, ⟨by omega, iX hno ?_⟩, by omega, by (simp (disch := omega) [wk, aL, aI, aD, aC, get, aK, belowM, below, belows, aA, aB, Bv, U8, Sv, pV] <;> try omega)⟩
  simp only [pV, Bool.and_eq_false_iff, decide_eq_false_iff_not]; omega
 ·refine ⟨i + 1, ⟨by omega, iX hno ?_⟩, by omega, by (simp (disch := omega) [wk, aL, aI, aD, aC, get, aK, belowM, below, belows, aA, aB, Bv, U8, Sv, pV] <;> try omega)⟩
  simp only [pV, Bool.and_eq_false_iff, decide_eq_false_iff_not]; omega
 ·rw [sB hno (by omega)]
theorem zio (L : List Int) (hL : L.length ≤ 1000) : aG Tryz.prog 179 [.sl L.length (L.map aB)] (Bv (L.any asn)) := by
 refine sp [.tmp 2] Tryz.func179 Tryz.ntmps179 ?_
 refine pD tru ?_ tru tru <;> intros
 refine bL (fun i : Nat => ⟨[(0, .sl L.length (L.map aB)), (3, aA i)], []⟩) (fun i => i ≤ L.length ∧ ∀ j, j < i → asn (L.getD j 0) = false) (fun i => L.length - i) 0 (by simp) (by (simp (disch := omega) [wk, aL, aI, aD, aC, get, aK, belowM, below, belows, aA, aB, Bv, U8, Sv, asn] <;> try omega)) ?_
 intro i ⟨hi, hno⟩
 repeat' first | refine aM (z0i _) ?_ ?_ | simp (maxSteps := 4000000) (disch := omega) only [aZ, aY, bun, ↓aW, ↓aV, aO, findLabel, ↓reduceIte, imp, shift, aR, aJ, unown, names, aQ, below, aD, aC, aT, aU, aS, ren, aN, aP, aX, renO, belowM, seval, -Int.reduceToNat, bT, b9, tab, cN, eL, eT] | exact bH _ | refine bG _ _ ?_ | exact bC.cl | refine bE _ ?_ | refine bF _ _ ?_ ?_ | refine bA _ ?_ | (refine Fk.fk ?_ ?_ <;> intro hg <;> (try simp only [hg]) <;> (try simp only [eC, d8, dB] at hg) <;> try (exfalso; first | omega | exact Bool.noConfusion hg | exact hg trivial)) | refine And.intro (by omega) ?_ | omega
 ·rw [o9 (i := i) (by omega) (by unfold asn; simp_all)]
 ·rw [o9 (i := i) (by omega) (by unfold asn; simp_all)]
 ·exact ⟨i + 1, ⟨by omega, iX hno (by unfold asn; simp_all)⟩, by omega, by (simp (disch := omega) [wk, aL, aI, aD, aC, get, aK, belowM, below, belows, aA, aB, Bv, U8, Sv, asn] <;> try omega)⟩
 ·rw [sB hno (by omega)]
theorem zfe (L : List Int) (hL : L.length ≤ 1000) (k : Nat) (hk : k < L.length) : aG Tryz.prog 177 [.sl L.length (L.map aB), aA k] (Bv ((jb L k == 1) && ((jl (L.drop (k + 1)) == 1) || (jl (L.drop (k + 1)) == 2)))) := by
 refine sp [.tmp 4] Tryz.func177 Tryz.ntmps177 ?_
 refine pD tru ?_ tru tru <;> intros
 refine bL (fun i : Nat => ⟨[(0, .sl L.length (L.map aB)), (1, aA k), (5, aA (k - 1 - i))], []⟩) (fun i => i ≤ k ∧ jb L k = jb L (k - i)) (fun i => L.length - i) 0 ⟨by omega, rfl⟩ (by (simp (disch := omega) [wk, aL, aI, aD, aC, get, aK, belowM, below, belows, aA, aB, Bv, U8, Sv, asn] <;> try omega)) ?_
 intro i ⟨hi, he⟩
 have g2 : ∀ j : Nat, ((k : Int) + 1 + j).toNat = k + 1 + j := fun j => by omega
 (have := @E8; refine pD tru ?_ ?_ ?_ <;> intros)
 ·refine ⟨i + 1, ⟨by omega, ?_⟩, by omega, by (simp (disch := omega) [wk, aL, aI, aD, aC, get, aK, belowM, below, belows, aA, aB, Bv, U8, Sv, asn] <;> try omega)⟩
  rw [he, TD (by omega) (by rw [show k - i - 1 = ((k : Int) - 1 - i).toNat by omega]; assumption)]; rfl
 ·have hj : jb L k = join (L.getD ((k : Int) - 1 - i).toNat 0) := by
   rw [he, CU (by omega) (by rw [show k - i - 1 = ((k : Int) - 1 - i).toNat by omega]; assumption), show k - i - 1 = ((k : Int) - 1 - i).toNat by omega]
  refine bL (fun j : Nat => ⟨[(0, .sl L.length (L.map aB)), (5, aA (k - 1 - i)), (6, aA (k + 1 + j))], []⟩) (fun j => k + 1 + j ≤ L.length ∧ jl (L.drop (k + 1)) = jl (L.drop (k + 1 + j))) (fun j => L.length - j) 0 ⟨by omega, rfl⟩ (by (simp (disch := omega) [wk, aL, aI, aD, aC, get, aK, belowM, below, belows, aA, aB, Bv, U8, Sv, asn] <;> try omega)) ?_
  intro j ⟨hjl, hje⟩
  repeat' first | refine aM (E8 _) ?_ ?_ | simp (maxSteps := 4000000) (disch := omega) only [aZ, aY, bun, ↓aW, ↓aV, aO, findLabel, ↓reduceIte, imp, shift, aR, aJ, unown, names, aQ, below, aD, aC, aT, aU, aS, ren, aN, aP, aX, renO, belowM, seval, -Int.reduceToNat, g2, bT, b9, tab, cN, eL, eT] | exact bH _ | refine bG _ _ ?_ | exact bC.cl | refine bE _ ?_ | refine bF _ _ ?_ ?_ | refine bA _ ?_ | (refine Fk.fk ?_ ?_ <;> intro hg <;> (try simp only [hg]) <;> (try simp only [eC, d8, dB] at hg) <;> try (exfalso; first | omega | exact Bool.noConfusion hg | exact hg trivial)) | refine And.intro (by omega) ?_ | omega
  ·refine ⟨j + 1, ⟨by omega, ?_⟩, by omega, by (simp (disch := omega) [wk, aL, aI, aD, aC, get, aK, belowM, below, belows, aA, aB, Bv, U8, Sv, asn] <;> try omega)⟩
   rw [hje, CX (by omega) (by assumption)]; rfl
  all_goals (first
   | (have he2 := CY (L := L) (k := k + 1 + j) (by omega) (by assumption); rw [hje, hj, he2]; simp_all; done)
   | (have he2 := TE (L := L) (k := k + 1 + j) (by omega); rw [hje, hj, he2]; simp_all; done))
 ·have hj : jb L k = 0 := by rw [he, show k - i = 0 by omega]; rfl
  refine bL (fun j : Nat => ⟨[(0, .sl L.length (L.map aB)), (5, aA (k - 1 - i)), (6, aA (k + 1 + j))], []⟩) (fun j => k + 1 + j ≤ L.length ∧ jl (L.drop (k + 1)) = jl (L.drop (k + 1 + j))) (fun j => L.length - j) 0 ⟨by omega, rfl⟩ (by (simp (disch := omega) [wk, aL, aI, aD, aC, get, aK, belowM, below, belows, aA, aB, Bv, U8, Sv, asn] <;> try omega)) ?_
  intro j ⟨hjl, hje⟩
  repeat' first | refine aM (E8 _) ?_ ?_ | simp (maxSteps := 4000000) (disch := omega) only [aZ, aY, bun, ↓aW, ↓aV, aO, findLabel, ↓reduceIte, imp, shift, aR, aJ, unown, names, aQ, below, aD, aC, aT, aU, aS, ren, aN, aP, aX, renO, belowM, seval, -Int.reduceToNat, g2, bT, b9, tab, cN, eL, eT] | exact bH _ | refine bG _ _ ?_ | exact bC.cl | refine bE _ ?_ | refine bF _ _ ?_ ?_ | refine bA _ ?_ | (refine Fk.fk ?_ ?_ <;> intro hg <;> (try simp only [hg]) <;> (try simp only [eC, d8, dB] at hg) <;> try (exfalso; first | omega | exact Bool.noConfusion hg | exact hg trivial)) | refine And.intro (by omega) ?_ | omega
  ·refine ⟨j + 1, ⟨by omega, ?_⟩, by omega, by (simp (disch := omega) [wk, aL, aI, aD, aC, get, aK, belowM, below, belows, aA, aB, Bv, U8, Sv, asn] <;> try omega)⟩
   rw [hje, CX (by omega) (by assumption)]; rfl
  all_goals (rw [hj]; simp; done)
theorem zbe {L : List Int} {k : Nat} (hk : k < L.length) : uS L k = (decide ((k : Int) > 0) && (cls (bn L (k - 1) 0) == 9)) := by
 unfold uS
 by_cases h : k = 0
 ·subst h; rw [xO _ (by omega), zay]; simp
 ·rw [show (k : Int) - 1 = ((k - 1 : Nat) : Int) by omega, xN _ (by omega), xN _ (by omega)]
  simp; intro; omega
theorem xM {L : List Int} {k : Int} (f : Int → Bool) (h1 : f (-1) = false) (h2 : f 0 = false) : f (bn L k (-1)) = f (bn L k 0) := by
 unfold bn; split
 ·rfl
 ·rw [h1, h2]
set_option maxHeartbeats 1000000 in
theorem zgs (L : List Int) (hL : L.length ≤ 1000) (hb : ∀ c ∈ L, iT c) (k : Nat) (hk : k < L.length) (hn : rl (L.getD k 0) ≠ .no) : aG Tryz.prog 138 [.sl L.length (L.map aB), aA k] (Bv (mets L k (rl (L.getD k 0)))) := by
 refine sp [.tmp 4] Tryz.func138 Tryz.ntmps138 ?_
 have hbd := OB hb (k - 1) 0 z_in
 have hd := zbe hk
 have hbe : uJ L k = ((bn L (k - 1) 0 == 108) && (bn L (k + 1) 0 == 108)) := by unfold uJ; rw [xM (f := fun c => c == 108) rfl rfl, xM (k := (k : Int) + 1) (f := fun c => c == 108) rfl rfl]
 have hgr : yE L k = (script (bn L (k + 1) 0) == 2) := by unfold yE; rw [xM (f := fun c => script c == 2) (by rw [z12]; rfl) (by rw [z11]; rfl)]
 have hhe : yF L k = (script (bn L (k - 1) 0) == 4) := by unfold yF; rw [xM (f := fun c => script c == 4) (by rw [z12]; rfl) (by rw [z11]; rfl)]
 rcases E9 (L.getD k 0) with ⟨h, hr⟩ | ⟨h, h', hr⟩ | ⟨h, hr⟩ | ⟨h, hr⟩ | ⟨h, hr⟩ | ⟨h, hr⟩ | ⟨h, hr⟩ | ⟨h, hr⟩ | ⟨h, hr⟩ | ⟨_, hr⟩
 ·rw [hr]
  simp only [d8, Bool.and_eq_true, decide_eq_true_eq] at h
  (have := @BG; have := @kV; have := @EQ; refine pD tru ?_ ?_ tru <;> intros)
  all_goals rfl
 ·rw [hr]
  simp only [dB, Bool.and_eq_true, decide_eq_true_eq] at h'
  (have := @BG; have := @kV; have := @EQ; refine pD tru ?_ ?_ tru <;> intros)
  all_goals rfl
 iterate 7
  ·rw [hr]
   repeat' first | refine aM (BG L hL _) ?_ ?_ | refine aM (kV _ (by omega) (by omega)) ?_ ?_ | refine aM (z0i _) ?_ ?_ | refine aM (EQ L hL _ _) ?_ ?_ | refine aM (zfe L hL k hk) ?_ ?_ | refine aM (zio L hL) ?_ ?_ | simp (maxSteps := 4000000) (disch := omega) only [aZ, aY, bun, ↓aW, ↓aV, aO, findLabel, ↓reduceIte, imp, shift, aR, aJ, unown, names, aQ, below, aD, aC, aT, aU, aS, ren, aN, aP, aX, renO, belowM, seval, -Int.reduceToNat, h, bT, b9, tab, cN, eL, eT] | exact bH _ | refine bG _ _ ?_ | exact bC.cl | refine bE _ ?_ | refine bF _ _ ?_ ?_ | refine bA _ ?_ | (refine Fk.fk ?_ ?_ <;> intro hg <;> (try simp only [hg]) <;> (try simp only [eC, d8, dB] at hg) <;> try (exfalso; first | omega | exact Bool.noConfusion hg | exact hg trivial)) | refine And.intro (by omega) ?_ | omega
   all_goals try simp only [mets, xP, hd, hbe, hgr, hhe]
   all_goals (first | rfl | (congr 2; simp_all; done))
 ·exact absurd hr hn
theorem zjf (L : List Int) (hL : L.length ≤ 1000) (hb : ∀ c ∈ L, iT c) (k : Int) (h0 : -9223372036854775808 ≤ k) (h1 : k ≤ 9223372036854775807) : aG Tryz.prog 85 [.sl L.length (L.map aB), aA k] (aA (need L k)) := by
 refine sp [.tmp 4] Tryz.func85 Tryz.ntmps85 ?_
 by_cases hk : 0 ≤ k ∧ k < L.length
 ·obtain ⟨q, rfl⟩ : ∃ q : Nat, k = q := ⟨k.toNat, by omega⟩
  have hq : q < L.length := by omega
  have hn : need L q = fI L q := W8 hq
  unfold fI at hn
  by_cases hr : rl (L.getD q 0) = .no
  ·have e : tH (L.getD q 0) = false := by unfold tH; rw [hr]; rfl
   rw [if_pos hr] at hn
   repeat' first | refine aM (z09 _) ?_ ?_ | simp (maxSteps := 4000000) (disch := omega) only [aZ, aY, bun, ↓aW, ↓aV, aO, findLabel, ↓reduceIte, imp, shift, aR, aJ, unown, names, aQ, below, aD, aC, aT, aU, aS, ren, aN, aP, aX, renO, belowM, seval, -Int.reduceToNat, e, bT, b9, tab, cN, eL, eT] | exact bH _ | refine bG _ _ ?_ | exact bC.cl | refine bE _ ?_ | refine bF _ _ ?_ ?_ | refine bA _ ?_ | (refine Fk.fk ?_ ?_ <;> intro hg <;> (try simp only [hg]) <;> (try simp only [eC, d8, dB] at hg) <;> try (exfalso; first | omega | exact Bool.noConfusion hg | exact hg trivial)) | refine And.intro (by omega) ?_ | omega
   all_goals (rw [hn])
  ·have e : tH (L.getD q 0) = true := by unfold tH; simpa using hr
   rw [if_neg hr] at hn
   repeat' first | refine aM (z09 _) ?_ ?_ | refine aM (zgs L hL hb q hq hr) ?_ ?_ | simp (maxSteps := 4000000) (disch := omega) only [aZ, aY, bun, ↓aW, ↓aV, aO, findLabel, ↓reduceIte, imp, shift, aR, aJ, unown, names, aQ, below, aD, aC, aT, aU, aS, ren, aN, aP, aX, renO, belowM, seval, -Int.reduceToNat, e, bT, b9, tab, cN, eL, eT] | exact bH _ | refine bG _ _ ?_ | exact bC.cl | refine bE _ ?_ | refine bF _ _ ?_ ?_ | refine bA _ ?_ | (refine Fk.fk ?_ ?_ <;> intro hg <;> (try simp only [hg]) <;> (try simp only [eC, d8, dB] at hg) <;> try (exfalso; first | omega | exact Bool.noConfusion hg | exact hg trivial)) | refine And.intro (by omega) ?_ | omega
   all_goals (rw [hn]; try simp_all)
 ·refine pD tru ?_ ?_ tru <;> intros
  all_goals (rw [W9 (by omega)])
end Go.AE
-- types: B0 B3 B4 B21 B63
end
section
namespace Go.AE
def qV : List Int → Int
 | [] => 0
 | c :: l => if bidi c = 6 then qV l else bidi c
def fG (L : List Int) : Int := qV L.reverse
theorem QD {q : List Int} (h : ∀ c ∈ q, bidi c = 6) (l : List Int) : qV (q ++ l) = qV l := by
 induction q with
 | nil => rfl
 | cons c q ih => simp only [List.cons_append, qV]; rw [if_pos (h c (by simp)), ih fun c hc => h c (List.mem_cons_of_mem _ hc)]
def cn (L : List Int) (k : Int) : Int := (L.countP fun c => bidi c == k : Nat)
def pB (L : List Int) : List AV := [aA (cn L 0), aA (cn L 1), aA (cn L 2), aA (cn L 3), aA (cn L 4), aA (cn L 5), aA (cn L 6), aA (cn L 7)]
theorem zil : (ranges.all fun x => decide (0 ≤ x.2.2.2.1) && decide (x.2.2.2.1 ≤ 7)) = true := by decide +kernel
theorem z9x (c : Int) : 0 ≤ bidi c ∧ bidi c ≤ 7 := by
 unfold bidi iW
 cases h : ranges.find? (fB c) with
 | none => simp [eN]
 | some x =>
  have := List.all_eq_true.1 zil x (List.mem_of_find?_eq_some h)
  simpa using this
theorem O3 (c : Int) : bidi c = 0 ∨ bidi c = 1 ∨ bidi c = 2 ∨ bidi c = 3 ∨ bidi c = 4 ∨ bidi c = 5 ∨ bidi c = 6 ∨ bidi c = 7 := by have := z9x c; omega
theorem zb2 (k : Int) : cn [] k = 0 := rfl
theorem zb3 (L : List Int) (c k : Int) : cn (L ++ [c]) k = cn L k + if bidi c = k then 1 else 0 := by
 unfold cn; rw [List.countP_append, List.countP_singleton]
 by_cases h : bidi c = k <;> simp [h]
theorem pA (L : List Int) (k : Int) : 0 ≤ cn L k ∧ cn L k ≤ L.length := by
 unfold cn; exact ⟨by omega, by have := List.countP_le_length (p := fun c => bidi c == k) (l := L); omega⟩
theorem sH (L : List Int) (k : Int) : (decide (cn L k > 0)) = L.any fun c => bidi c == k := by
 unfold cn
 rw [Bool.eq_iff_iff, decide_eq_true_eq, List.any_eq_true]
 constructor
 ·intro h
  have : 0 < L.countP fun c => bidi c == k := by omega
  rw [List.countP_pos_iff] at this
  exact this
 ·intro h
  have := List.countP_pos_iff.2 h
  omega
theorem zb4 (L : List Int) (k : Int) : (cn L k == 0) = !L.any fun c => bidi c == k := by
 rw [← sH]
 have := pA L k
 rw [Bool.eq_iff_iff]; simp; omega
def rtl (c : Int) : Bool := bidi c == 2 || bidi c == 3 || bidi c == 5
def gW (L : List Int) : Bool := L.any rtl
theorem zej (L : List Int) : (decide (cn L 2 + cn L 3 + cn L 5 > 0)) = gW L := by
 have h2 := pA L 2
 have h3 := pA L 3
 have h5 := pA L 5
 have e2 := sH L 2
 have e3 := sH L 3
 have e5 := sH L 5
 have e : gW L = ((L.any fun c => bidi c == 2) || (L.any fun c => bidi c == 3) || (L.any fun c => bidi c == 5)) := by
  unfold gW
  rw [Bool.eq_iff_iff]
  simp only [List.any_eq_true, Bool.or_eq_true, rtl]
  constructor
  ·rintro ⟨c, hc, (h | h) | h⟩
   ·exact .inl (.inl ⟨c, hc, h⟩)
   ·exact .inl (.inr ⟨c, hc, h⟩)
   ·exact .inr ⟨c, hc, h⟩
  ·rintro ((⟨c, hc, h⟩ | ⟨c, hc, h⟩) | ⟨c, hc, h⟩)
   ·exact ⟨c, hc, .inl (.inl h)⟩
   ·exact ⟨c, hc, .inl (.inr h)⟩
   ·exact ⟨c, hc, .inr h⟩
 rw [e, ← e2, ← e3, ← e5, Bool.eq_iff_iff]
 simp; omega
def gR (L : List Int) : Int := match L with
 | [] => 0
 | c :: _ => if bidi c = 2 ∨ bidi c = 3 then 2 else if bidi c = 1 then 1 else 0
def iE (L : List Int) : Bool :=
 if gR L = 2 then (!L.any fun c => bidi c == 1) && ((fG L == 2) || (fG L == 3) || (fG L == 4) || (fG L == 5)) && !((L.any fun c => bidi c == 4) && (L.any fun c => bidi c == 5))
 else if gR L = 1 then !gW L && ((fG L == 1) || (fG L == 4))
 else L.isEmpty
theorem z1e (L : List Int) : gR L = 0 ∨ gR L = 1 ∨ gR L = 2 := by
 unfold gR; split
 ·simp
 ·split
  ·simp
  ·split <;> simp
theorem z1f {L : List Int} (h : 0 < L.length) : gR L = if bidi (L.getD 0 0) = 2 ∨ bidi (L.getD 0 0) = 3 then 2 else if bidi (L.getD 0 0) = 1 then 1 else 0 := by
 cases L with
 | nil => simp at h
 | cons c l => rfl
theorem zfk (L : List Int) (c : Int) : fG (L ++ [c]) = if bidi c = 6 then fG L else bidi c := by
 unfold fG; rw [List.reverse_append]; rfl
end Go.AE
end
section
namespace Go.AE
open Go.Proofs
set_option maxHeartbeats 8000000
set_option maxRecDepth 20000
set_option linter.unusedSimpArgs false
def kK (L : List Int) : List (Int × Int) := (List.range L.length).map fun j : Nat => ((L.length : Int) - 1 - (j : Int), L.getD (L.length - 1 - j) 0)
def lL (x : Int × Int) : Array Value := #[.int .i64 x.1, .int .i32 x.2]
def KpF (F : Nat → Prop) (W W' : World) : Prop := ∀ b, F b → W'.heap[b]? = W.heap[b]?
theorem za4 {L : List Int} {j : Nat} (h : j < L.length) : (kK L).take (j + 1) = (kK L).take j ++ [((L.length : Int) - 1 - j, L.getD (L.length - 1 - j) 0)] := by
 unfold kK; rw [List.take_add_one]; simp [h]
theorem za3 {L : List Int} : (kK L).take L.length = kK L := List.take_of_length_le (by simp [kK])
def lF (L : List Int) (yv p : Value) (j : Nat) : St := ⟨[(0, .v yv), (1, .v p), (3, aA ((L.length : Int) - 1 - j))], []⟩
theorem za5 {L : List Int} {yv p : Value} {j : Nat} {s : St} (h : wk s (lF L yv p j)) : get s.t 0 = .v yv ∧ get s.t 1 = .v p ∧ get s.t 3 = aA ((L.length : Int) - 1 - j) := by
 obtain ⟨h, _⟩ := h
 simp only [lF, aL, and_true] at h
 exact h
theorem qT {P Q R S : Prop} (a : Q) (b : R) (c : S) (h : Mk P → bD Q → bD R → bD S → P := by
 intro m q r s
 repeat' first | refine aM (by first | assumption | (apply_assumption <;> omega)) ?_ ?_ | refine cM.fit (by assumption) ?_ | simp (maxSteps := 4000000) (disch := omega) only [aZ, aY, bun, ↓aW, ↓aV, aO, findLabel, ↓reduceIte, imp, shift, aR, aJ, unown, names, aQ, below, aD, aC, aT, aU, aS, ren, aN, aP, aX, renO, belowM, seval, -Int.reduceToNat, bT, b9, eL, eT, lM, zbz, *] | exact bH _ | refine bG _ _ ?_ | exact bC.cl | refine bE _ ?_ | refine bF _ _ ?_ ?_ | refine bA _ ?_ | refine fkx ?_ tru <;> intro hg | refine fkx ?_ ?_ <;> intro hg | exact fkx tru tru | refine And.intro (by omega) ?_ | omega
 first
 | done
 | all_goals (repeat revert hg)
   exact q.out
   first
   | done
   | exact r.out
     first
     | done
     | exact s.out
       first | done | fail) : P := h ⟨tru⟩ ⟨a⟩ ⟨b⟩ ⟨c⟩
theorem z9q (L : List Int) (hL : L.length ≤ 1000) (n : Nat) (w : World) (F : Nat → Prop) (hF : ∀ b, F b → b < w.heap.size) (hT : fK Tryz.prog w F) (p : Value) (hp : aH w F [] (.cp [.sl L.length (L.map aB)]) p) :
  SeqStopsK (fr none) n Tryz.prog 205 #[p] lL (KpF F) (fun xs => xs = kK L) (fun pre => pre <+: kK L) L.length w := by
 skip
 intro l J Jx W hW hJ hJx hY h0
 have hFW : ∀ b, F b → b < W.heap.size := fun b hb => Nat.lt_of_lt_of_le (hF b hb) hW.size
 have same : ∀ W', (∀ b, F b → W'.heap[b]? = W.heap[b]?) → aH W' F [] (.cp [.sl L.length (L.map aB)]) p := fun W' h => aH.mono ⟨fun _ h => h, fun b hb => (h b hb).trans (hW.block b (hF b hb))⟩ (bS.refl _) hp
 obtain ⟨yv, hyv⟩ : ∃ yv : Value, yv = .func (.yield l) #[] #[] := ⟨_, rfl⟩
 refine callsIn_of_wp Tryz.func205 rfl trivial ?_
 rw [show Tryz.f205.ntmps = 19 from Tryz.ntmps205]
 have hTW : fK Tryz.prog W F := tY hT hFW (fun b hb => hW.block b (hF b hb))
 have hrel := zT (N := 19) (ds := []) (args := [.v yv, .v p]) (vs := [yv, p]) hTW hFW (.cons (.v _) (.cons (.v _) .nil)) (by simp)
 rw [show (#[Value.func (.yield l) #[] #[]] ++ #[p] : Array Value) = [yv, p].toArray by rw [hyv]; rfl]
 have grow : ∀ {w1 w2 : World} {s : List (Int × Int)}, d7 w1 w2 → J s w1 → J s w2 := fun h hj => hJ _ _ _ none hj ⟨h.os, h.tape, h.output, h.size, fun k hk _ => h.block k hk⟩ (fun r e => by cases e)
 have hinv : ∀ {V : dJ} {w0 w1 : World} {G1 : Gh} {F1 : Nat → Prop} {a1 : Act} {s1 : St} {j : Nat}, aE Tryz.prog 19 V w0 s1 G1 F1 a1 w1 → wk s1 (lF L yv p j) → a1.defers = V.ds ∧ a1.tmps.size = 19 ∧ a1.tmps.getD 0 undef = yv ∧ a1.tmps.getD 1 undef = p ∧ a1.tmps.getD 3 undef = .int .i64 ((L.length : Int) - 1 - j) := by
  intro V w0 w1 G1 F1 a1 s1 j h hk
  obtain ⟨k0, k1, k3⟩ := za5 hk
  exact ⟨h.defers, h.tsize, h.atv k0, h.atv k1, h.atv k3⟩
 have hrelj : ∀ {a1 : Act} {w1 : World} {j : Nat}, (∀ b, F b → w1.heap[b]? = W.heap[b]?) → a1.tmps.size = 19 → a1.tmps.getD 0 undef = yv → a1.tmps.getD 1 undef = p → a1.tmps.getD 3 undef = .int .i64 ((L.length : Int) - 1 - j) → aE Tryz.prog 19 ⟨F, [], [], a1.defers, none, fun _ => none⟩ w1 (lF L yv p j) [] F a1 w1 := by
  intro a1 w1 j hs hn g0 g1 g3
  have hl1 : ∀ b, F b → b < w1.heap.size := fun b hb => by
   have := hFW b hb
   have h1 := hs b hb
   rw [Array.getElem?_eq_getElem this] at h1
   exact (Array.getElem?_eq_some_iff.1 h1).1
  refine wI (tY hTW hl1 hs) hl1 hn fun k => ?_
  ·simp only [lF, get]
   split
   ·rename_i e; subst e; rw [g0]; exact .v _
   split
   ·rename_i e; subst e; rw [g1]; exact .v _
   split
   ·rename_i e; subst e; rw [g3]; exact .v _
   exact .junk _
 refine wpIn_seq (wpIn_region_lit ?_)
 refine yX none n bZ (t := 63) AY rfl rfl rfl rfl hrel (by rw [hrel.atv (k := 1) (v := p) rfl]; exact same W (fun _ _ => rfl)) ?_
 intro a1 h1
 refine yW none n bZ (dQ (fun s => wk s (lF L yv p 0)) (fun _ _ => False) (fun _ => False)) (by decide) h1 ?_ ?_
 ·refine qT ?_ tru tru <;> intros
  unfold lF
  exact bN
 rintro a2 w2 ⟨s2, G2, F2, hk2, h2⟩
 obtain ⟨d2, n2, g20, g21, g23⟩ := hinv h2 hk2
 have hgr := h2.grown
 refine wpIn_block (wpIn_loop (fun a w1 => ∃ j, j ≤ L.length ∧ a.defers = [] ∧ a.tmps.size = 19 ∧ a.tmps.getD 0 undef = yv ∧ a.tmps.getD 1 undef = p ∧ a.tmps.getD 3 undef = .int .i64 ((L.length : Int) - 1 - j) ∧ J ((kK L).take j) w1 ∧ (∀ b, F b → w1.heap[b]? = W.heap[b]?))
  (fun a _ => match a.tmps.getD 3 undef with | .int _ x => (x + 1).toNat | _ => 0) ⟨0, by omega, d2, n2, g20, g21, by simpa using g23, grow hgr h0, fun b hb => hgr.block b (hFW b hb)⟩ ?_)
 rintro a3 w3 ⟨j, hj, d3, n3, g30, g31, g33, hj3, hs3⟩
 have h3 := hrelj hs3 n3 g30 g31 g33
 refine wpIn_seq (wpIn_mono (gF none n bZ _ (Q := dQ (fun s => j < L.length ∧ wk s (lF L yv p j)) (fun i _ => i = 0 ∧ ¬ j < L.length) (fun _ => False)) rfl (by decide) h3 (AW.out ?_)) ?_)
 ·unfold lF
  by_cases hlt : j < L.length
  ·refine qT ?_ tru tru <;> intros
   exact bN
  ·exact qT tru tru tru
 rintro e a4 w4 ⟨s4, G4, F4, hq4, h4⟩
 have hg4 := h4.grown
 have hs4 : ∀ b, F b → w4.heap[b]? = W.heap[b]? := fun b hb => (hg4.block b (by
  have h1 := hs3 b hb
  rw [Array.getElem?_eq_getElem (hFW b hb)] at h1
  exact (Array.getElem?_eq_some_iff.1 h1).1)).trans (hs3 b hb)
 have hj4 := grow hg4 hj3
 cases e with
 | exit i =>
  obtain ⟨rfl, hge⟩ := hq4
  obtain rfl : j = L.length := by omega
  rw [za3] at hj4
  exact ⟨h4.defers.trans d3, _, results_none rfl _ _ _, ⟨_, rfl⟩, .inl ⟨_, rfl, hj4⟩⟩
 | normal =>
  obtain ⟨hlt, hk4⟩ := hq4
  obtain ⟨d4, n4, g40, g41, g43⟩ := hinv h4 hk4
  have h5 := hrelj hs4 n4 g40 g41 g43
  refine wpIn_seq (wpIn_block (wpIn_seq (wpIn_region_lit ?_)))
  refine vM none n 2 bZ (dQ (fun s => wk s ⟨[(0, .v yv), (1, .v p), (3, aA ((L.length : Int) - 1 - j)), (11, .v yv), (12, aA ((L.length : Int) - 1 - j))], []⟩) (fun _ _ => False) (fun _ => False)) (by decide) h5 ?_ ?_
  ·unfold lF
   refine qT ?_ tru tru <;> intros
   exact bN
  rintro a6 w6 ⟨s6, G6, F6, hk6, h6⟩
  have hg6 := h6.grown
  have hlt6 : ∀ {b : Nat} {w1 : World}, (∀ b, F b → w1.heap[b]? = W.heap[b]?) → F b → b < w1.heap.size := fun {b w1} h hb => by
   have h1 := h b hb
   rw [Array.getElem?_eq_getElem (hFW b hb)] at h1
   exact (Array.getElem?_eq_some_iff.1 h1).1
  have hs6 : ∀ b, F b → w6.heap[b]? = W.heap[b]? := fun b hb => (hg6.block b (hlt6 hs4 hb)).trans (hs4 b hb)
  have hj6 := grow hg6 hj4
  have h6' := h6.weak hk6
  refine yX none n bZ (t := 63) AY rfl rfl rfl rfl h6' (by rw [h6'.atv (k := 1) (v := p) rfl]; exact aH.mono ⟨h6.f0.1, fun _ _ => rfl⟩ (bS.nil _) (same w6 hs6)) ?_
  intro a7 h7
  have hix : ((L.length : Int) - 1 - j).toNat = L.length - 1 - j := by omega
  refine vM none n 3 bZ (dQ (fun s => wk s ⟨[(0, .v yv), (1, .v p), (3, aA ((L.length : Int) - 1 - j)), (11, .v yv), (12, aA ((L.length : Int) - 1 - j)), (16, aB (L.getD (L.length - 1 - j) 0))], []⟩) (fun _ _ => False) (fun _ => False)) (by decide) h7 ?_ ?_
  ·refine qT ?_ tru tru <;> intros
   exact bN
  rintro a8 w8 ⟨s8, G8, F8, hk8, h8⟩
  have h8' := h8.weak hk8
  have hg8 := h8.grown
  have hs8 : ∀ b, F b → w8.heap[b]? = W.heap[b]? := fun b hb => (hg8.block b (hlt6 hs4 hb)).trans (hs4 b hb)
  have hj8 := grow hg8 hj4
  have hargs : #[Operand.tmp 12, Operand.tmp 16].map a8.eval = lL ((L.length : Int) - 1 - j, L.getD (L.length - 1 - j) 0) := by
   have e1 := h8'.atv (k := 12) rfl
   have e2 := h8'.atv (k := 16) rfl
   simp only [lL, Act.eval, List.map_toArray, List.map_cons, List.map_nil, e1, e2]
  refine D3 none n rfl rfl (l := l) ((h8'.atv (k := 11) rfl).trans hyv) hargs (hY _ _ w8 hj8 (by simp [kK]; omega)) ?_
  have hbt := za4 hlt
  have hput : ∀ v, (a8.put (some 17) v).defers = [] ∧ (a8.put (some 17) v).tmps.size = 19 ∧ ∀ kv ∈ [(0, yv), (1, p), (3, Value.int .i64 ((L.length : Int) - 1 - j)), (17, v)], (a8.put (some 17) v).tmps.getD kv.1 undef = kv.2 := by
   intro v
   have h9 := h8'.putD (d := some 17) (x := .v v) (v := v) rfl (.v _)
   refine ⟨h9.defers.trans (d4.trans d3), h9.tsize, ?_⟩
   intro kv hkv
   simp only [List.mem_cons, List.not_mem_nil, or_false] at hkv
   rcases hkv with rfl | rfl | rfl | rfl <;> exact h9.atv rfl
  rintro e9 w9 (⟨rfl, hJ9, hk9⟩ | ⟨rfl, hJx9⟩)
  ·refine ⟨_, rfl, ?_⟩
   obtain ⟨d9, n9, g9⟩ := hput (.bool true)
   have hs9 : ∀ b, F b → w9.heap[b]? = W.heap[b]? := fun b hb => (hk9 b hb).trans (hs8 b hb)
   have h9 := E0 (N := 19) _ (tY hTW (fun b hb => hlt6 hs9 hb) hs9) (fun b hb => hlt6 hs9 hb) n9 g9
   refine yW none n bZ (dQ (fun s => wk s ⟨[(0, .v yv), (1, .v p), (3, aA ((L.length : Int) - 1 - j)), (18, Bv false)], []⟩) (fun _ _ => False) (fun _ => False)) (by decide) h9 ?_ ?_
   ·refine qT ?_ tru tru <;> intros
    exact bN
   rintro a10 w10 ⟨s10, G10, F10, hk10, h10⟩
   have h10' := h10.weak hk10
   have hg10 := h10.grown
   refine wpIn_cond_false (h10'.atv (k := 18) rfl) (wpIn_skip ?_)
   have hs10 : ∀ b, F b → w10.heap[b]? = W.heap[b]? := fun b hb => (hg10.block b (hlt6 hs9 hb)).trans (hs9 b hb)
   refine wpIn_mono (gF none n bZ _ (Q := dQ (fun s => wk s (lF L yv p (j + 1))) (fun _ _ => False) (fun _ => False)) rfl (by decide) h10' (AW.out ?_)) ?_
   ·refine qT ?_ tru tru <;> intros
    unfold lF
    exact bN
   rintro e11 a11 w11 ⟨s11, G11, F11, hq11, h11⟩
   cases e11 with
   | normal =>
    obtain ⟨d11, n11, g110, g111, g113⟩ := hinv h11 hq11
    have hg11 := h11.grown
    refine ⟨⟨j + 1, by omega, d11.trans d9, n11, g110, g111, g113, ?_, fun b hb => (hg11.block b (hlt6 hs9 hb)).trans (hs9 b hb)⟩, ?_⟩
    ·rw [hbt]; exact grow hg11 hJ9
    ·show (match a11.tmps.getD 3 undef with | .int _ x => (x + 1).toNat | _ => 0) < (match a3.tmps.getD 3 undef with | .int _ x => (x + 1).toNat | _ => 0)
     rw [g113, g33]
     show ((L.length : Int) - 1 - ((j + 1 : Nat) : Int) + 1).toNat < ((L.length : Int) - 1 - j + 1).toNat
     omega
   | _ => exact hq11.elim
  ·refine ⟨_, rfl, ?_⟩
   obtain ⟨d9, n9, g9⟩ := hput (.bool false)
   have e17 : (a8.put (some 17) (Value.bool false)).tmps.getD 17 undef = .bool false := g9 (17, .bool false) (by simp)
   obtain ⟨a9, ha9⟩ : ∃ a9, a8.put (some 17) (Value.bool false) = a9 := ⟨_, rfl⟩
   rw [ha9] at e17 d9 n9 ⊢
   refine wpListIn_plain rfl fun K hK => ⟨fun _ _ => trivial, ?_⟩
   rw [l0 none a9.eval _ (fun c e => by cases e)]
   simp only [execOp, Act.eval, e17, Op.unary, Sem.run_bind, Sem.run_pure, Result.andThen_ok, Oper.uponIn_value]
   refine hK _ _ (wpListIn_nil ?_)
   refine wpIn_cond_true ?_ (wpIn_ret ?_)
   ·simp [Act.put, Act.eval, Array.getD_eq_getD_getElem?, n9]
   refine ⟨d9, _, results_none rfl _ _ _, ⟨_, rfl⟩, .inr ⟨_, ?_, hJx9⟩⟩
   ·rw [← hbt]; exact List.take_prefix _ _
 | _ => exact hq4.elim
end Go.AE
-- types: B0 B3 B4 B21 B63 B197
end
section
namespace Go.AE
open Go.Proofs
set_option maxHeartbeats 8000000
set_option maxRecDepth 20000
set_option linter.unusedSimpArgs false
theorem O6 (L : List Int) : (kK L).map Prod.snd = L.reverse := by
 refine List.ext_getElem (by simp [kK]) fun i h1 h2 => ?_
 simp only [kK, List.map_map, List.getElem_map, List.getElem_range, Function.comp, List.getElem_reverse, List.getD]
 simp at h2
 rw [List.getElem?_eq_getElem (by omega)]
 rfl
theorem m5 (k : IntKind) (n : Int) : (Value.int k n).cells = [Value.int k n].toArray := rfl
theorem sS {P Q R S : Prop} (a : Q) (b : R) (c : S) (h : Mk P → bD Q → bD R → bD S → P := by
 intro m q r s
 repeat' first | refine aM (by first | assumption | (apply_assumption <;> omega)) ?_ ?_ | refine cM.fit (by assumption) ?_ | simp (maxSteps := 4000000) (disch := omega) only [aZ, aY, bun, ↓aW, ↓aV, aO, findLabel, ↓reduceIte, imp, shift, aR, aJ, unown, names, aQ, below, aD, aC, aT, aU, aS, ren, aN, aP, aX, renO, belowM, seval, -Int.reduceToNat, bT, b9, eL, eT, tab, cN, lM, m5, *] | exact bH _ | refine bG _ _ ?_ | exact bC.cl | refine bE _ ?_ | refine bF _ _ ?_ ?_ | refine bA _ ?_ | refine fkx ?_ tru <;> intro hg | refine fkx ?_ ?_ <;> intro hg | exact fkx tru tru | refine And.intro (by omega) ?_ | omega
 first
 | done
 | all_goals (repeat revert hg)
   exact q.out
   first
   | done
   | exact r.out
     first
     | done
     | exact s.out
       first | done | fail) : P := h ⟨tru⟩ ⟨a⟩ ⟨b⟩ ⟨c⟩
theorem z9r (L : List Int) : aG Tryz.prog 186 [.sl L.length (L.map aB)] (.fn 205 [] [.cp [.sl L.length (L.map aB)]]) := by
 refine qC (z := true) (ts := [.tmp 2]) bZ Tryz.func186 rfl rfl (by decide +kernel) (by simp [Tryz.ntmps186]) rfl ?_
 exact sS tru tru tru
def AX (w2 : World) (b o : Nat) (v : Value) (W : World) : Prop :=
 W.os = w2.os ∧ W.tape = w2.tape ∧ W.output = w2.output ∧ w2.heap.size ≤ W.heap.size ∧ (∀ k, k < w2.heap.size → k ≠ b → W.heap[k]? = w2.heap[k]?) ∧ eI W b o [v]
theorem za6 {β : Type} {w2 : World} {b o : Nat} {v : β → Value} (hb : b < w2.heap.size) : OwnFrom w2.heap.size (fun (s : β) W => AX w2 b o (v s) W) := by
 rintro s A B row ⟨h1, h2, h3, h4, h5, h6⟩ hg hr
 have hk : ∀ k, k < w2.heap.size → B.heap[k]? = A.heap[k]? := fun k hk => hg.block k (by omega) (fun e => by have := (hr k e.symm).1; omega)
 exact ⟨hg.os.trans h1, hg.tape.trans h2, hg.output.trans h3, Nat.le_trans h4 hg.size, fun k hk' hne => (hk k hk').trans (h5 k hk' hne), h6.keepAt (hk b hb)⟩
theorem zc1 (L : List Int) (hL : L.length ≤ 1000) : aG Tryz.prog 155 [tab, .sl L.length (L.map aB)] (aA (fG L)) := by
 skip
 refine ⟨⟨_, Tryz.func155, rfl, by decide +kernel⟩, fun w F vs hF hT hr => ?_⟩
 refine (callsIn_wide (n := 10)).1 ?_
 show CallsIn (fr none) 10 _ _ _ _ _
 refine callsIn_of_wp_marks Tryz.func155 rfl trivial ?_
 rw [show Tryz.f155.ntmps = 18 from Tryz.ntmps155]
 have hrel := zT (N := 18) (ds := []) hT hF hr (by simp)
 refine wpIn_seq (wpIn_mono (gF none 10 bZ _ (Q := dQ (fun s => wk s ⟨[(1, .sl L.length (L.map aB)), (2, .ptr 0 0), (4, .ptr 1 0)], [.row true 1 (cN (sM 42) (pM 42)), .row true 1 [aA 0]]⟩) (fun _ _ => False) (fun _ => False)) rfl (by decide) hrel (AW.out ?_)) ?_)
 ·refine sS ?_ tru tru <;> intros
  (simp (disch := omega) [wk, aL, aI, aD, aC, get, aK, belowM, below, belows, aA, aB, Bv, U8, Sv, tab, cN, Value.cells, Value.oneCell'] <;> try omega)
 rintro e1 a1 w1 ⟨s1, G1, F1, hq1, h1⟩
 cases e1 with
 | normal =>
  have h1' := h1.weak hq1
  refine wpIn_seq (wpIn_seq (wpIn_mono (gF none 10 bZ _ (Q := dQ (fun s => wk s ⟨[(2, .ptr 0 0), (4, .ptr 1 0), (9, .fn 205 [] [.cp [.sl L.length (L.map aB)]])], [.row true 1 (cN (sM 42) (pM 42)), .row true 1 [aA 0]]⟩) (fun _ _ => False) (fun _ => False)) rfl (by decide) h1' (AW.out ?_)) ?_))
  ·(have := z9r L; refine sS ?_ tru tru <;> intros)
   all_goals first
    | ((simp (disch := omega) [wk, aL, aI, aD, aC, get, aK, belowM, below, belows, aA, aB, Bv, U8, Sv, tab, cN, Value.cells, Value.oneCell'] <;> try omega); done)
    | rfl
  rintro e2 a2 w2 ⟨s2, G2, F2, hq2, h2⟩
  cases e2 with
  | normal =>
   have h3 := h2.weak hq2
   obtain ⟨G, hG⟩ : ∃ G, G2.take 2 = G := ⟨_, rfl⟩
   simp only [List.length_cons, List.length_nil, Nat.zero_add, Nat.reduceAdd] at h3
   rw [hG] at h3

   obtain ⟨L1, hL1, hp4⟩ := (show aH w2 F2 G (.ptr 1 0) (a2.tmps.getD 4 undef) from h3.tm 4).ptr_inv
   rw [Nat.add_zero] at hp4
   obtain ⟨L1', vs1, e1, hrow, hrs⟩ := (show d6 w2 F2 G (some L1) (.row true 1 [aA 0]) from h3.ob 1 _ hL1)
   cases e1
   obtain ⟨hL1F, hL1w, hL1p⟩ := h3.live 1 L1 hL1
   have hL1n : w.heap.size ≤ L1.b := by
    rcases (show _ ∨ _ from hL1p) with h | h
    ·exact h
    ·simp at h
   have hvs : vs1 = [.int .i64 0] := by
    cases hrs with
    | cons h h' => cases h'; cases h; rfl
   subst hvs

   obtain ⟨p, h9, hp⟩ : ∃ p, a2.tmps.getD 9 undef = .func (.func 205) #[] #[p] ∧ aH w2 F2 [] (.cp [.sl L.length (L.map aB)]) p := by
    have h := CH h3 rfl (show aH w2 F2 G (.fn 205 [] [.cp [.sl L.length (L.map aB)]]) (a2.tmps.getD 9 undef) from h3.tm 9)
    simp only [fz, fzs] at h
    cases hv : a2.tmps.getD 9 undef <;> rw [hv] at h <;> cases h
    rename_i h1 h2
    cases h1
    cases h2 with
    | cons h2 h4 => cases h4; exact ⟨_, rfl, h2⟩

   have h5 := h3.weak (s' := ⟨[(2, .ptr 0 0)], [.row true 1 (cN (sM 42) (pM 42))]⟩) (by (simp (disch := omega) [wk, aL, aI, aD, aC, get, aK, belowM, below, belows, aA, aB, Bv, U8, Sv, tab, cN] <;> try omega))
   simp only [List.length_cons, List.length_nil, Nat.zero_add, Nat.reduceAdd] at h5
   have htb := v8 h5 (show aH w2 F2 (G.take 1) (.ptr 0 0) (a2.tmps.getD 2 undef) from h5.tm 2)
   simp only [fz, obj, cN, List.map_cons, List.map_nil, dW, List.drop_zero] at htb
   obtain ⟨FR, hFR⟩ : ∃ FR, hP F2 (G.take 1) = FR := ⟨_, rfl⟩
   rw [hFR] at htb
   have hFRw : ∀ b, FR b → b < w2.heap.size := by
    intro b hb
    rw [← hFR] at hb
    rcases hb with hb | ⟨id, M, hM, rfl⟩
    ·exact (h3.fb b hb).1
    ·exact (h5.live id M hM).2.1
   have hF2w : ∀ b, F2 b → b < w2.heap.size := fun b hb => (h3.fb b hb).1
   have hTR : fK Tryz.prog w2 FR := h3.tb.sub fun b hb => by rw [← hFR]; exact .inl hb
   have hgr2 := h3.grown
   have hd2 : a2.defers = [] := h3.defers

   have fin : ∀ (v : Int) (D : Nat) (W : World), v = fG L → w2.heap.size ≤ D → AX w2 L1.b L1.o (.int .i64 v) W → W.heap[D]? = some (.deferred (some [])) →
     LeavesInM (fr none) 10 Tryz.prog Tryz.f155 a2.tmps (lC w F (aA (fG L))) ({ target := .collected D, args := #[] } :: a2.defers) .returning W := by
    rintro v D W rfl hD ⟨b1, b2, b3, b4, b5, b6⟩ hK
    refine ⟨by simp, .inl ⟨D, _, rfl, run_takeDeferred hK, ?_⟩⟩
    rw [hd2]
    have hDl : D < W.heap.size := (Array.getElem?_eq_some_iff.1 hK).1
    have hne : L1.b ≠ D := by omega
    have h6 : eI (W.putObj D (.deferred none)) L1.b L1.o [.int .i64 (fG L)] := b6.keepAt (World.putObj_heap_other hne)
    refine ⟨_, zj3 bZ x7 rfl rfl hp4 h6, ?_⟩
    have hg := grownBy_putObj' W D (.deferred none)
    refine ⟨_, F, [], rfl, ⟨hg.os.trans (b1.trans hgr2.os), hg.tape.trans (b2.trans hgr2.tape), hg.output.trans (b3.trans hgr2.output), Nat.le_trans hgr2.size (Nat.le_trans b4 hg.size), fun k hk => ?_⟩, fun _ h => h, fun b hb => ⟨.inl hb, ?_⟩, .v _, ⟨rfl, by simp, by simp, by simp⟩, by simp⟩
    ·have h0 := hgr2.size
     exact (World.putObj_heap_other (by omega)).trans ((b5 k (by omega) (by omega)).trans (hgr2.block k hk))
    ·have h0 := hF b hb
     have h1 := hgr2.size
     have h2 := hg.size
     omega
   have hbelow : ∀ {W : World}, RowKit.Below w2.heap.size w2 W → eI W L1.b L1.o [.int .i64 0] := fun hB => hrow.keepAt (hB.block _ hL1w)
   have hTm : ∀ x : Int × Int, ((#[10, 11].zip (lL x)).foldl (fun t (p, v) => t.setIfInBounds p v) a2.tmps).size = 18 ∧ ((#[10, 11].zip (lL x)).foldl (fun t (p, v) => t.setIfInBounds p v) a2.tmps).getD 2 undef = a2.tmps.getD 2 undef ∧
     ((#[10, 11].zip (lL x)).foldl (fun t (p, v) => t.setIfInBounds p v) a2.tmps).getD 4 undef = a2.tmps.getD 4 undef ∧ ((#[10, 11].zip (lL x)).foldl (fun t (p, v) => t.setIfInBounds p v) a2.tmps).getD 11 undef = .int .i32 x.2 := by
    intro x
    have hsz := h3.tsize
    have e : (#[10, 11].zip (lL x)).foldl (fun t (p, v) => t.setIfInBounds p v) a2.tmps = (a2.tmps.setIfInBounds 10 (.int .i64 x.1)).setIfInBounds 11 (.int .i32 x.2) := by
     simp [lL]
    rw [e]
    refine ⟨by simp [hsz], ?_, ?_, ?_⟩
    ·simp [Array.getD_eq_getD_getElem?]
    ·simp [Array.getD_eq_getD_getElem?]
    ·simp [Array.getD_eq_getD_getElem?, hsz]
   refine wpIn_block (wpIn_rangeFunc_ownF (F := fr none) (n := 10) (w0 := w2) rfl (by decide) (gf := 205) (lb := #[p]) h9 trivial (enters_of Tryz.func205 (by kernel_rfl) rfl)
    (z9q L hL 9 w2 F2 hF2w h3.tb p hp) (fun h k b hb => (k b hb).trans (h b hb)) (fun W l o o' hl _ _ _ b hb => World.putObj_heap_other (by have := hF2w b hb; omega)) (RowKit.Below.refl _ _) (fun _ => rfl)
    (fun pre W => RowKit.Below w2.heap.size w2 W ∧ ∀ c ∈ pre, bidi c.2 = 6)
    (fun c pre W => c = .ret ∧ (∃ (q : List (Int × Int)) (x : Int × Int), pre = q ++ [x] ∧ (∀ c ∈ q, bidi c.2 = 6) ∧ bidi x.2 ≠ 6) ∧ AX w2 L1.b L1.o (.int .i64 (bidi ((pre.getLast?).getD (0, 0)).2)) W)
    (OwnFrom.and (ownFrom_below (Nat.le_refl _) (Nat.le_refl _)) (fun s W W' row hs _ _ => hs))
    (fun c => OwnFrom.and (fun s W W' row hs _ _ => hs) (OwnFrom.and (fun s W W' row hs _ _ => hs) (za6 hL1w)))
    ⟨RowKit.Below.refl _ _, by simp⟩ (fun x => ({ tmps := (#[10, 11].zip (lL x)).foldl (fun t (p, v) => t.setIfInBounds p v) a2.tmps, defers := [] } : Act).put (some 6) (.int .i32 x.2)) ?assign ?body ?done ?stop)
   case assign =>
    intro l x W K hK
    have hT := hTm x
    refine wpIn_region_lit (wpListIn_plain rfl fun K' hK' => ⟨fun _ _ => trivial, ?_⟩)
    rw [show ((fr none).inRound l) = fr (some l) from rfl, l0 (some l) _ _ (fun c e => by cases e)]
    have hv : (Act.eval ({ tmps := (#[10, 11].zip (lL x)).foldl (fun t (p, v) => t.setIfInBounds p v) a2.tmps, defers := [] } : Act) (.tmp 11)) = .int .i32 x.2 := hT.2.2.2
    simp only [execOp, hv]
    exact hK' _ _ hK
   case body =>
    rintro l pre x W ⟨hB, hpre⟩ hlen
    obtain ⟨q1, q2, q3, q4⟩ := hTm x
    obtain ⟨T, hT⟩ : ∃ T, (#[10, 11].zip (lL x)).foldl (fun t (p, v) => t.setIfInBounds p v) a2.tmps = T := ⟨_, rfl⟩
    rw [hT] at q1 q2 q3 q4 ⊢
    have hFRW : ∀ b, FR b → b < W.heap.size := fun b hb => Nat.lt_of_lt_of_le (hFRw b hb) hB.size
    have hsame : fQ FR FR w2 W := ⟨fun _ h => h, fun b hb => hB.block b (hFRw b hb)⟩
    have hb0 : aE Tryz.prog 18 ⟨FR, [], [], [], none, fun _ => none⟩ W ⟨[(2, .cp (cN (sM 42) (pM 42))), (4, .v (.pointer (some ⟨L1.b, L1.o, none⟩)))], []⟩ [] FR { tmps := T, defers := [] } W := by
     refine wI (a := { tmps := T, defers := [] }) (tY hTR hFRW (fun b hb => hB.block b (hFRw b hb))) hFRW q1 fun k => ?_
     simp only [get]
     split
     ·rename_i e; subst e; show aH W FR [] _ (T.getD 2 undef); rw [q2]; exact aH.mono hsame (bS.nil _) htb
     split
     ·rename_i e; subst e; show aH W FR [] _ (T.getD 4 undef); rw [q3, hp4]; exact .v _
     exact .junk _
    have h6 := hb0.putD (d := some 6) (x := aB x.2) (v := .int .i32 x.2) rfl (.v _)
    show Code.wpIn (fr (some l)) 8 _ _ _ _ _
    refine wpIn_block (wpIn_seq (wpIn_mono (gF (some l) 8 bZ _ (Q := dQ (fun s => wk s ⟨[(4, .v (.pointer (some ⟨L1.b, L1.o, none⟩))), (7, aA (bidi x.2))], []⟩) (fun _ _ => False) (fun _ => False)) rfl (by decide) h6 (AW.out ?_)) ?_))
    ·(have := @uK; refine sS ?_ tru tru <;> intros)
     exact bN
    rintro e3 a3 w3 ⟨s3, G3, F3, hq3, h7⟩
    cases e3 with
    | normal =>
     have h7' := h7.weak hq3
     refine wpIn_seq (wpIn_mono (gF (some l) 8 bZ _ (Q := dQ (fun s => wk s ⟨[(4, .v (.pointer (some ⟨L1.b, L1.o, none⟩))), (7, aA (bidi x.2)), (16, Bv (bidi x.2 != 6))], []⟩) (fun _ _ => False) (fun _ => False)) rfl (by decide) h7' (AW.out ?_)) ?_)
     ·refine sS ?_ tru tru <;> intros
      exact bN
     rintro e4 a4 w4 ⟨s4, G4, F4, hq4, h8⟩
     cases e4 with
     | normal =>
      have h8' := h8.weak hq4
      have hg8 := h8.grown
      have lt : ∀ {k : Nat} {o : Obj}, W.heap[k]? = some o → k < W.heap.size := fun h => (Array.getElem?_eq_some_iff.1 h).1
      by_cases hx : bidi x.2 = 6
      ·refine wpIn_cond_false ((h8'.atv (k := 16) rfl).trans (by rw [hx]; rfl)) (wpIn_skip ?_)
       refine ⟨⟨hg8.size, fun k o hk _ => (hg8.block k (lt hk)).trans hk⟩, fun b hb => hg8.block b (Nat.lt_of_lt_of_le (hF2w b hb) hB.size), ⟨hg8.os.trans hB.os, hg8.tape.trans hB.tape, hg8.output.trans hB.output, Nat.le_trans hB.size hg8.size, fun k hk => (hg8.block k (Nat.lt_of_lt_of_le hk hB.size)).trans (hB.block k hk)⟩, fun c hc => ?_⟩
       rcases List.mem_append.1 hc with h | h
       ·exact hpre c h
       ·rw [List.mem_singleton.1 h]; exact hx
      ·have hxb : (bidi x.2 != 6) = true := by simpa using hx
       refine wpIn_cond_true ((h8'.atv (k := 16) rfl).trans (by rw [hxb])) ?_
       refine wpIn_seq (wpIn_region_lit (vM (some l) 8 1 bZ (dQ (fun s => wk s ⟨[(4, .v (.pointer (some ⟨L1.b, L1.o, none⟩))), (17, aA (bidi x.2))], []⟩) (fun _ _ => False) (fun _ => False)) (by decide) h8' ?_ ?_))
       ·refine sS ?_ tru tru <;> intros
        exact bN
       rintro a5 w5 ⟨s5, G5, F5, hq5, h9'⟩
       have h10 := h9'.weak hq5
       have hg9 := h9'.grown
       have hr5 : eI w5 L1.b L1.o [.int .i64 0] := (hbelow hB).keepAt (hg9.block _ (Nat.lt_of_lt_of_le hL1w hB.size))
       refine V0 (some l) 8 bZ (t := 3) x7 rfl rfl rfl rfl (h10.atv (k := 4) rfl) (x := .tmp 17) (h10.atv (k := 17) rfl) rfl rfl hr5 ?_
       intro w6 hW
       refine wpIn_ret ?_
       have hne : ∀ {k : Nat} {o : Obj}, W.heap[k]? = some o → o.isCells = false → k ≠ L1.b := by
        rintro k o hk ho rfl
        obtain ⟨c, e, fz, hc, _⟩ := hbelow hB
        rw [hc] at hk; cases hk; simp [Obj.isCells] at ho
       refine ⟨⟨by rw [hW.size]; exact hg9.size, fun k o hk ho => (hW.block k (hne hk ho)).trans ((hg9.block k (lt hk)).trans hk)⟩, rfl, ⟨pre, x, rfl, hpre, hx⟩, ?_⟩
       refine ⟨hW.os.trans (hg9.os.trans hB.os), hW.tape.trans (hg9.tape.trans hB.tape), hW.output.trans (hg9.output.trans hB.output), by rw [hW.size]; exact Nat.le_trans hB.size hg9.size, fun k hk hk' => (hW.block k hk').trans ((hg9.block k (Nat.lt_of_lt_of_le hk hB.size)).trans (hB.block k hk)), ?_⟩
       have := hW.row
       simpa using this
     | _ => exact hq4.elim
    | _ => exact hq3.elim
   case done =>
    rintro D xs W hD rfl ⟨hB, hall⟩ hK
    have hl0 : fG L = 0 := by
     have := QD (q := L.reverse) (fun c hc => by
      rw [← O6] at hc
      obtain ⟨y, hy, rfl⟩ := List.mem_map.1 hc
      exact hall y hy) []
     rw [List.append_nil] at this
     exact this
    refine wpIn_seq (wpIn_region_lit (V0 none 10 bZ (t := 3) x7 rfl rfl rfl rfl (by exact hp4) (x := .const (.int .i64 0)) rfl rfl rfl (hbelow hB) ?_))
    intro W' hW
    refine wpIn_ret (fin 0 D W' hl0.symm hD ⟨hW.os.trans hB.os, hW.tape.trans hB.tape, hW.output.trans hB.output, by rw [hW.size]; exact hB.size, fun k hk hne => (hW.block k hne).trans (hB.block k hk), hW.row⟩ ((hW.block D (by omega)).trans hK))
   case stop =>
    rintro D c pre W hD hpre ⟨rfl, ⟨q, x, rfl, hq, hx⟩, hX⟩ hK
    refine wpIn_ret ?_
    simp only [List.getLast?_append, List.getLast?_singleton, Option.some_or, Option.getD_some] at hX
    refine fin (bidi x.2) D W ?_ hD hX hK
    obtain ⟨r, hr⟩ := hpre
    unfold fG
    rw [← O6, ← hr, List.map_append, List.map_append, List.append_assoc, QD (fun c hc => by
     obtain ⟨y, hy, rfl⟩ := List.mem_map.1 hc
     exact hq y hy)]
    simp only [List.map_cons, List.map_nil, List.cons_append, List.nil_append, qV]
    rw [if_neg hx]
  | _ => exact hq2.elim
 | _ => exact hq1.elim
end Go.AE
-- types: B0 B3 B4 B21 B29 B63 B181 B182
end
section
namespace Go.AE
open Go.Proofs
set_option maxRecDepth 20000
set_option linter.unusedSimpArgs false
theorem FF {L : List Int} {i : Nat} (h : i < L.length) : L.take (i + 1) = L.take i ++ [L.getD i 0] := by
 rw [List.take_add_one]; simp [List.getD, h]
set_option maxHeartbeats 2000000 in
theorem mD {P Q R S : Prop} (a : Q) (b : R) (c : S) (h : Mk P → bD Q → bD R → bD S → P := by
 intro m q r s
 repeat' first | refine aM (by first | assumption | (apply_assumption <;> omega)) ?_ ?_ | refine cM.fit (by assumption) ?_ | simp (maxSteps := 4000000) (disch := omega) only [aZ, aY, bun, ↓aW, ↓aV, aO, findLabel, ↓reduceIte, imp, shift, aR, aJ, unown, names, aQ, below, aD, aC, aT, aU, aS, ren, aN, aP, aX, renO, belowM, seval, -Int.reduceToNat, bT, b9, tab, cN, pB, eL, eT, m5, Int.reduceToNat, List.take_length, *] | exact bH _ | refine bG _ _ ?_ | exact bC.cl | refine bE _ ?_ | refine bF _ _ ?_ ?_ | refine bA _ ?_ | refine fkx ?_ tru <;> intro hg | refine fkx ?_ ?_ <;> intro hg | exact fkx tru tru | refine And.intro (by omega) ?_ | omega
 first
 | done
 | all_goals (repeat revert hg)
   exact q.out
   first
   | done
   | exact r.out
     first
     | done
     | exact s.out
       first | done | fail) : P := h ⟨tru⟩ ⟨a⟩ ⟨b⟩ ⟨c⟩
theorem P8 (L : List Int) (hL : L.length ≤ 1000) : aG Tryz.prog 154 [tab, .sl L.length (L.map aB)] (.ag (pB L)) := by
 refine sp [.cell 4 155] Tryz.func154 Tryz.ntmps154 ?_
 refine mD ?_ tru tru <;> intros
 refine bL (fun i : Nat => ⟨[(2, .ptr 0 0), (4, .ptr 1 0), (5, .ptr 2 0), (8, .sl L.length (L.map aB)), (9, aA L.length), (10, aA i)], [.row true 1 (cN (sM 42) (pM 42)), .row true 1 [aA 0, aA 0, aA 0, aA 0, aA 0, aA 0, aA 0, aA 0], .row true 1 (pB (L.take i))]⟩) (fun i => i ≤ L.length) (fun i => L.length - i) 0 (by omega) (by (simp (disch := omega) [wk, aL, aI, aD, aC, get, aK, belowM, below, belows, aA, aB, Bv, U8, Sv, tab, cN, pB, zb2] <;> try omega)) ?_
 intro i hi
 by_cases hlt : i < L.length
 ·have hs := FF hlt
  obtain ⟨c, hc⟩ : ∃ c, L.getD i 0 = c := ⟨_, rfl⟩
  rw [hc] at hs
  have hb : ∀ k, 0 ≤ cn (L.take i) k ∧ cn (L.take i) k ≤ 1000 := fun k => by
   have := pA (L.take i) k
   have h2 : (L.take i).length ≤ 1000 := by rw [List.length_take]; omega
   omega
  have b0 := hb 0
  have b1 := hb 1
  have b2 := hb 2
  have b3 := hb 3
  have b4 := hb 4
  have b5 := hb 5
  have b6 := hb 6
  have b7 := hb 7
  rcases O3 c with h | h | h | h | h | h | h | h
  all_goals
   (have := @uK; refine mD ?_ tru tru <;> intros)
   refine ⟨i + 1, by omega, by omega, ?_⟩
   (simp (disch := omega) [wk, aL, aI, aD, aC, get, aK, belowM, below, belows, aA, aB, Bv, U8, Sv, tab, cN, pB, hs, zb3, h] <;> try omega)
 ·obtain rfl : i = L.length := by omega
  (have := @uK; exact mD tru tru tru)
theorem SW (L : List Int) (hL : L.length ≤ 1000) : aG Tryz.prog 108 [tab, .sl L.length (L.map aB)] (Bv (gW L)) := by
 refine sp [.tmp 4] Tryz.func108 Tryz.ntmps108 ?_
 have h2 := pA L 2
 have h3 := pA L 3
 have h5 := pA L 5
 (have := P8 L hL; refine mD ?_ tru tru <;> intros)
 rw [← zej]
theorem zkf (L : List Int) (hL : L.length ≤ 1000) : aG Tryz.prog 156 [tab, .sl L.length (L.map aB)] (aA (gR L)) := by
 refine sp [.tmp 4] Tryz.func156 Tryz.ntmps156 ?_
 by_cases h0 : 0 < L.length
 ·rw [z1f h0]
  (have := @uK; exact mD tru tru tru)
  all_goals simp_all
 ·have : L = [] := by cases L; rfl; simp at h0
  subst this
  (have := @uK; refine mD ?_ tru tru <;> intros)
  rfl
theorem z0j (L : List Int) (hL : L.length ≤ 1000) : aG Tryz.prog 141 [.sl L.length (L.map aB)] (aA (gR L)) := by
 refine sp [.tmp 2] Tryz.func141 Tryz.ntmps141 ?_
 by_cases h0 : 0 < L.length
 ·rw [z1f h0]
  (have := @oP; exact mD tru tru tru)
  all_goals simp_all
 ·have : L = [] := by cases L; rfl; simp at h0
  subst this
  (have := @oP; refine mD ?_ tru tru <;> intros)
  rfl
theorem zj7 (L : List Int) (hL : L.length ≤ 1000) : aG Tryz.prog 87 [.sl L.length (L.map aB)] (Bv (gW L)) := by
 refine sp [.tmp 2] Tryz.func87 Tryz.ntmps87 ?_
 refine mD ?_ tru tru <;> intros
 refine bL (fun i : Nat => ⟨[(0, .sl L.length (L.map aB)), (3, aA i)], []⟩) (fun i => i ≤ L.length ∧ ∀ j, j < i → rtl (L.getD j 0) = false) (fun i => L.length - i) 0 (by simp) bN ?_
 intro i ⟨hi, hno⟩
 repeat' first | refine aM (oP _) ?_ ?_ | simp (maxSteps := 4000000) (disch := omega) only [aZ, aY, bun, ↓aW, ↓aV, aO, findLabel, ↓reduceIte, imp, shift, aR, aJ, unown, names, aQ, below, aD, aC, aT, aU, aS, ren, aN, aP, aX, renO, belowM, seval, -Int.reduceToNat, bT, b9, tab, cN, pB, eL, eT, m5, Int.reduceToNat] | exact bH _ | refine bG _ _ ?_ | exact bC.cl | refine bE _ ?_ | refine bF _ _ ?_ ?_ | refine bA _ ?_ | refine fkx ?_ tru <;> intro hg | refine fkx ?_ ?_ <;> intro hg | exact fkx tru tru | refine And.intro (by omega) ?_ | omega
 ·rw [gW, o9 (i := i) (by omega) (by simp_all [rtl])]
 ·rw [gW, o9 (i := i) (by omega) (by simp_all [rtl])]
 ·rw [gW, o9 (i := i) (by omega) (by simp_all [rtl])]
 ·exact ⟨i + 1, ⟨by omega, iX hno (by simp_all [rtl])⟩, by omega, bN⟩
 ·rw [gW, sB hno (by omega)]
theorem zix (L : List Int) (hL : L.length ≤ 1000) : aG Tryz.prog 142 [.sl L.length (L.map aB)] (aA (fG L)) := by
 refine sp [.tmp 2] Tryz.func142 Tryz.ntmps142 ?_
 refine mD ?_ tru tru <;> intros
 refine bL (fun i : Nat => ⟨[(0, .sl L.length (L.map aB)), (3, aA ((L.length : Int) - 1 - i))], []⟩) (fun i => i ≤ L.length ∧ fG L = fG (L.take (L.length - i))) (fun i => L.length - i) 0 (by simp) bN ?_
 intro i ⟨hi, he⟩
 by_cases hlt : i < L.length
 ·have hix : ((L.length : Int) - 1 - i).toNat = L.length - i - 1 := by omega
  have hst := zfk (L.take (L.length - i - 1)) (L.getD (L.length - i - 1) 0)
  rw [← FF (by omega), show L.length - i - 1 + 1 = L.length - i by omega, ← he] at hst
  repeat' first | refine aM (oP _) ?_ ?_ | simp (maxSteps := 4000000) (disch := omega) only [aZ, aY, bun, ↓aW, ↓aV, aO, findLabel, ↓reduceIte, imp, shift, aR, aJ, unown, names, aQ, below, aD, aC, aT, aU, aS, ren, aN, aP, aX, renO, belowM, seval, -Int.reduceToNat, hix, bT, b9, tab, cN, pB, eL, eT, m5, Int.reduceToNat] | exact bH _ | refine bG _ _ ?_ | exact bC.cl | refine bE _ ?_ | refine bF _ _ ?_ ?_ | refine bA _ ?_ | refine fkx ?_ tru <;> intro hg | refine fkx ?_ ?_ <;> intro hg | exact fkx tru tru | refine And.intro (by omega) ?_ | omega
  ·rw [hst, if_neg (by assumption)]
  ·refine ⟨i + 1, ⟨by omega, ?_⟩, by omega, bN⟩
   rw [hst, if_pos (by simpa using ‹_›)]; rfl
 ·obtain rfl : i = L.length := by omega
  repeat' first | refine aM (oP _) ?_ ?_ | simp (maxSteps := 4000000) (disch := omega) only [aZ, aY, bun, ↓aW, ↓aV, aO, findLabel, ↓reduceIte, imp, shift, aR, aJ, unown, names, aQ, below, aD, aC, aT, aU, aS, ren, aN, aP, aX, renO, belowM, seval, -Int.reduceToNat, bT, b9, tab, cN, pB, eL, eT, m5, Int.reduceToNat] | exact bH _ | refine bG _ _ ?_ | exact bC.cl | refine bE _ ?_ | refine bF _ _ ?_ ?_ | refine bA _ ?_ | refine fkx ?_ tru <;> intro hg | refine fkx ?_ ?_ <;> intro hg | exact fkx tru tru | refine And.intro (by omega) ?_ | omega
  rw [he]; simp [fG, qV]
set_option maxHeartbeats 2000000 in
theorem zjw (L : List Int) (hL : L.length ≤ 1000) : aG Tryz.prog 109 [tab, .sl L.length (L.map aB)] (Bv (iE L)) := by
 refine sp [.tmp 4] Tryz.func109 Tryz.ntmps109 ?_
 have e1 := zb4 L 1
 have e4 := sH L 4
 have e5 := sH L 5
 have hne : L.isEmpty = ((L.length : Int) == 0) := by cases L <;> simp <;> omega
 unfold iE
 rcases z1e L with h | h | h
 all_goals
  rw [h]
  (have := P8 L hL; have := zc1 L hL; have := zkf L hL; have := SW L hL; exact mD tru tru tru)
  all_goals first
   | (simp_all; done)
   | skip
end Go.AE
-- types: B0 B3 B4 B21 B29 B63 B155
end
section
namespace Go.AE
open Go.Proofs
set_option maxRecDepth 20000
set_option linter.unusedSimpArgs false
def lE (s c : Int) : Bool := (s == 2 && bidi c == 1) || (s == 1 && rtl c)
theorem zjr {L : List Int} {i : Nat} (h : i < L.length) (hb : lE (gR L) (L.getD i 0) = true) : iE L = false := by
 unfold lE at hb
 simp only [Bool.or_eq_true, Bool.and_eq_true] at hb
 rcases hb with ⟨h1, h2⟩ | ⟨h1, h2⟩
 ·have h1 : gR L = 2 := by simpa using h1
  unfold iE; rw [if_pos h1, o9 (p := fun c => bidi c == 1) h h2]; simp
 ·have h1 : gR L = 1 := by simpa using h1
  unfold iE gW; rw [if_neg (by omega), if_pos h1, o9 (p := rtl) h h2]; simp
theorem zju {L : List Int} (hs : gR L = 2) (hno : ∀ j, j < L.length → lE (gR L) (L.getD j 0) = false) : iE L = (((fG L == 2) || (fG L == 3) || (fG L == 4) || (fG L == 5)) && !((L.any fun c => bidi c == 4) && (L.any fun c => bidi c == 5))) := by
 unfold iE; rw [if_pos hs, sB (p := fun c => bidi c == 1) (i := L.length) (fun j hj => by have := hno j hj; rw [hs] at this; simpa [lE] using this) (by omega)]; simp
theorem zjt {L : List Int} (hs : gR L = 1) (hno : ∀ j, j < L.length → lE (gR L) (L.getD j 0) = false) : iE L = ((fG L == 1) || (fG L == 4)) := by
 unfold iE gW; rw [if_neg (by omega), if_pos hs, sB (p := rtl) (i := L.length) (fun j hj => by have := hno j hj; rw [hs] at this; simpa [lE] using this) (by omega)]; simp
theorem zjs {L : List Int} (hs : gR L = 0) (h : 0 < L.length) : iE L = false := by
 unfold iE; rw [if_neg (by omega), if_neg (by omega)]; cases L <;> simp_all
set_option maxHeartbeats 8000000 in
theorem zjn (L : List Int) (hL : L.length ≤ 1000) : aG Tryz.prog 88 [.sl L.length (L.map aB)] (Bv (iE L)) := by
 refine sp [.tmp 2] Tryz.func88 Tryz.ntmps88 ?_
 by_cases h0 : 0 < L.length
 ·rcases z1e L with hs | hs | hs
  all_goals
   repeat' first | refine aM (z0j L hL) ?_ ?_ | refine aM (zix L hL) ?_ ?_ | simp (maxSteps := 4000000) (disch := omega) only [aZ, aY, bun, ↓aW, ↓aV, aO, findLabel, ↓reduceIte, imp, shift, aR, aJ, unown, names, aQ, below, aD, aC, aT, aU, aS, ren, aN, aP, aX, renO, belowM, seval, -Int.reduceToNat, hs, bT, b9, tab, cN, eL, eT, Int.reduceToNat] | exact bH _ | refine bG _ _ ?_ | exact bC.cl | refine bE _ ?_ | refine bF _ _ ?_ ?_ | refine bA _ ?_ | refine fkx ?_ tru <;> intro hg | refine fkx ?_ ?_ <;> intro hg | exact fkx tru tru | refine And.intro (by omega) ?_ | omega
   refine bL (fun i : Nat => ⟨[(0, .sl L.length (L.map aB)), (3, aA (gR L)), (4, aA (fG L)), (5, Bv ((L.take i).any fun c => bidi c == 4)), (6, Bv ((L.take i).any fun c => bidi c == 5)), (7, aA i)], []⟩) (fun i => i ≤ L.length ∧ ∀ j, j < i → lE (gR L) (L.getD j 0) = false) (fun i => L.length - i) 0 (by simp) (by (simp (disch := omega) [wk, aL, aI, aD, aC, get, aK, belowM, below, belows, aA, aB, Bv, U8, Sv, hs] <;> try omega)) ?_
   intro i ⟨hi, hno⟩
   by_cases hlt : i < L.length
   ·have ht := FF hlt
    have hbad := zjr hlt
    rw [hs] at hbad
    obtain ⟨c, hc⟩ : ∃ c, L.getD i 0 = c := ⟨_, rfl⟩
    rw [hc] at hbad
    have h4 : ((L.take (i + 1)).any fun c => bidi c == 4) = (((L.take i).any fun c => bidi c == 4) || (bidi c == 4)) := by rw [ht, hc]; simp
    have h5 : ((L.take (i + 1)).any fun c => bidi c == 5) = (((L.take i).any fun c => bidi c == 5) || (bidi c == 5)) := by rw [ht, hc]; simp
    have hnx : lE (gR L) c = false → ∀ j, j < i + 1 → lE (gR L) (L.getD j 0) = false := fun h => iX hno (by rw [hc]; exact h)
    rw [hs] at hnx
    generalize ((L.take i).any fun c => bidi c == 4) = f4 at h4 ⊢
    generalize ((L.take i).any fun c => bidi c == 5) = f5 at h5 ⊢
    rcases O3 c with h | h | h | h | h | h | h | h
    all_goals
     rw [h] at h4 h5
     cases f4 <;> cases f5
     all_goals
      repeat' first | refine aM (oP _) ?_ ?_ | simp (maxSteps := 4000000) (disch := omega) only [aZ, aY, bun, ↓aW, ↓aV, aO, findLabel, ↓reduceIte, imp, shift, aR, aJ, unown, names, aQ, below, aD, aC, aT, aU, aS, ren, aN, aP, aX, renO, belowM, seval, -Int.reduceToNat, hs, hc, h, bT, b9, tab, cN, eL, eT, Int.reduceToNat] | exact bH _ | refine bG _ _ ?_ | exact bC.cl | refine bE _ ?_ | refine bF _ _ ?_ ?_ | refine bA _ ?_ | refine fkx ?_ tru <;> intro hg | refine fkx ?_ ?_ <;> intro hg | exact fkx tru tru | refine And.intro (by omega) ?_ | omega
      first
       | (rw [hbad (by simp [lE, rtl, h])]; done)
       | (refine ⟨i + 1, ⟨by omega, ?_⟩, by omega, ?_⟩
          ·first
           | exact hnx (by simp [lE, rtl, h])
           | (rw [hs]; exact hnx (by simp [lE, rtl, h]))
          ·(simp (disch := omega) [wk, aL, aI, aD, aC, get, aK, belowM, below, belows, aA, aB, Bv, U8, Sv, hs, h4, h5] <;> try omega))
   ·obtain rfl : i = L.length := by omega
    first
     | (have hf := zju hs hno
        rw [List.take_length, hf]
        generalize (L.any fun c => bidi c == 4) = f4
        generalize (L.any fun c => bidi c == 5) = f5
        cases f4 <;> cases f5
        all_goals
         repeat' first | refine aM (oP _) ?_ ?_ | simp (maxSteps := 4000000) (disch := omega) only [aZ, aY, bun, ↓aW, ↓aV, aO, findLabel, ↓reduceIte, imp, shift, aR, aJ, unown, names, aQ, below, aD, aC, aT, aU, aS, ren, aN, aP, aX, renO, belowM, seval, -Int.reduceToNat, hs, bT, b9, tab, cN, eL, eT, Int.reduceToNat] | exact bH _ | refine bG _ _ ?_ | exact bC.cl | refine bE _ ?_ | refine bF _ _ ?_ ?_ | refine bA _ ?_ | refine fkx ?_ tru <;> intro hg | refine fkx ?_ ?_ <;> intro hg | exact fkx tru tru | refine And.intro (by omega) ?_ | omega
         all_goals (simp_all; done))
     | (have hf := zjt hs hno
        rw [List.take_length, hf]
        repeat' first | refine aM (oP _) ?_ ?_ | simp (maxSteps := 4000000) (disch := omega) only [aZ, aY, bun, ↓aW, ↓aV, aO, findLabel, ↓reduceIte, imp, shift, aR, aJ, unown, names, aQ, below, aD, aC, aT, aU, aS, ren, aN, aP, aX, renO, belowM, seval, -Int.reduceToNat, hs, bT, b9, tab, cN, eL, eT, Int.reduceToNat] | exact bH _ | refine bG _ _ ?_ | exact bC.cl | refine bE _ ?_ | refine bF _ _ ?_ ?_ | refine bA _ ?_ | refine fkx ?_ tru <;> intro hg | refine fkx ?_ ?_ <;> intro hg | exact fkx tru tru | refine And.intro (by omega) ?_ | omega
        all_goals (simp_all; done))
     | (have hf := zjs hs h0
        rw [List.take_length, hf]
        repeat' first | refine aM (oP _) ?_ ?_ | simp (maxSteps := 4000000) (disch := omega) only [aZ, aY, bun, ↓aW, ↓aV, aO, findLabel, ↓reduceIte, imp, shift, aR, aJ, unown, names, aQ, below, aD, aC, aT, aU, aS, ren, aN, aP, aX, renO, belowM, seval, -Int.reduceToNat, hs, bT, b9, tab, cN, eL, eT, Int.reduceToNat] | exact bH _ | refine bG _ _ ?_ | exact bC.cl | refine bE _ ?_ | refine bF _ _ ?_ ?_ | refine bA _ ?_ | refine fkx ?_ tru <;> intro hg | refine fkx ?_ ?_ <;> intro hg | exact fkx tru tru | refine And.intro (by omega) ?_ | omega
        all_goals (simp_all; done))
     | skip
 ·have : L = [] := by cases L; rfl; simp at h0
  subst this
  repeat' first | refine aM (z0j _ hL) ?_ ?_ | simp (maxSteps := 4000000) (disch := omega) only [aZ, aY, bun, ↓aW, ↓aV, aO, findLabel, ↓reduceIte, imp, shift, aR, aJ, unown, names, aQ, below, aD, aC, aT, aU, aS, ren, aN, aP, aX, renO, belowM, seval, -Int.reduceToNat, bT, b9, tab, cN, eL, eT, Int.reduceToNat] | exact bH _ | refine bG _ _ ?_ | exact bC.cl | refine bE _ ?_ | refine bF _ _ ?_ ?_ | refine bA _ ?_ | refine fkx ?_ tru <;> intro hg | refine fkx ?_ ?_ <;> intro hg | exact fkx tru tru | refine And.intro (by omega) ?_ | omega
  all_goals (rfl)
end Go.AE
-- types: B0 B3 B4 B21 B63
end
section
namespace Go.AE
open Go.Proofs
set_option maxHeartbeats 8000000
set_option maxRecDepth 20000
set_option linter.unusedSimpArgs false
theorem zbk : ∀ k : Nat, k < 36 → (([97, 98, 99, 100, 101, 102, 103, 104, 105, 106, 107, 108, 109, 110, 111, 112, 113, 114, 115, 116, 117, 118, 119, 120, 121, 122, 48, 49, 50, 51, 52, 53, 54, 55, 56, 57] : List UInt8).getD k 0).toNat = (dg k).toNat := by decide
theorem PJ (n : Int) : 0 ≤ dg n ∧ dg n < 256 := by
 unfold dg
 repeat' split
 all_goals omega
theorem PL (n : Int) : aG Tryz.prog 148 [aA n] (.tup [.v (.int .u8 (dg n)), Bv (sJ n)]) := by
 refine sp [.tmp 2, .tmp 3] Tryz.func148 Tryz.ntmps148 ?_
 repeat' first | simp (maxSteps := 4000000) (disch := omega) only [aZ, aY, bun, ↓aW, ↓aV, aO, findLabel, ↓reduceIte, imp, shift, aR, aJ, unown, names, aQ, below, aD, aC, aT, aU, aS, ren, aN, aP, aX, renO, belowM, seval, -Int.reduceToNat, bT, b9] | refine bA _ ?_ | refine fkx ?_ tru <;> intro hg | refine fkx ?_ ?_ <;> intro hg | exact fkx tru tru | refine And.intro (by omega) ?_ | omega
 all_goals
  simp only [dg, sJ, AV.tup.injEq, List.cons.injEq, AV.v.injEq, Value.int.injEq, Value.bool.injEq, and_true, true_and]
  refine ⟨?_, ?_⟩
  ·repeat' split
   all_goals omega
  ·rw [Bool.eq_iff_iff]; simp; omega
theorem iH {P Q R S : Prop} (a : Q) (b : R) (c : S) (h : Mk P → bD Q → bD R → bD S → P := by
 intro m q r s
 repeat' first | refine aM (by first | assumption | (apply_assumption <;> omega)) ?_ ?_ | refine cM.fit (by assumption) ?_ | simp (maxSteps := 4000000) (disch := omega) only [aZ, aY, bun, ↓aW, ↓aV, aO, findLabel, ↓reduceIte, imp, shift, aR, aJ, unown, names, aQ, below, aD, aC, aT, aU, aS, ren, aN, aP, aX, renO, belowM, seval, -Int.reduceToNat, bT, b9, *] | exact bH _ | refine bG _ _ ?_ | exact bC.cl | refine bE _ ?_ | refine bF _ _ ?_ ?_ | refine bA _ ?_ | refine fkx ?_ tru <;> intro hg | refine fkx ?_ ?_ <;> intro hg | exact fkx tru tru | refine And.intro (by omega) ?_ | omega
 first
 | done
 | all_goals (repeat revert hg)
   exact q.out
   first
   | done
   | exact r.out
     first
     | done
     | exact s.out
       first | done | fail) : P := h ⟨tru⟩ ⟨a⟩ ⟨b⟩ ⟨c⟩
theorem ZL (n : Int) : aG Tryz.prog 144 [aA n] (.tup [.v (.int .u8 (dg n)), Bv (sJ n)]) := by
 refine sp [.tmp 2, .tmp 3] Tryz.func144 Tryz.ntmps144 ?_
 refine iH ?_ ?_ ?_ <;> intros
 ·simp only [dg, sJ, AV.tup.injEq, List.cons.injEq, AV.v.injEq, Value.int.injEq, Value.bool.injEq, and_true, true_and]
  refine ⟨?_, ?_⟩
  ·repeat' split
   all_goals omega
  ·rw [Bool.eq_iff_iff]; simp; omega
 ·simp only [dg, sJ, AV.tup.injEq, List.cons.injEq, AV.v.injEq, Value.int.injEq, Value.bool.injEq, and_true, true_and]
  refine ⟨?_, ?_⟩
  ·repeat' split
   all_goals omega
  ·rw [Bool.eq_iff_iff]; simp; omega
 ·obtain ⟨k, rfl⟩ : ∃ k : Nat, n = k := ⟨n.toNat, by omega⟩
  have h1 := zbk k (by omega)
  have h2 := PJ k
  rw [Int.toNat_natCast, h1, Int.toNat_of_nonneg h2.1]
  simp only [sJ, AV.tup.injEq, List.cons.injEq, AV.v.injEq, Value.bool.injEq, and_true, true_and]
  rw [Bool.eq_iff_iff]; simp; omega
theorem wX (c : Int) (h0 : 0 ≤ c) (h1 : c ≤ 255) : aG Tryz.prog 159 [.v (.int .u8 c)] (.tup [aA (vl c), Bv (o6 c)]) := by
 refine sp [.tmp 2, .tmp 3] Tryz.func159 Tryz.ntmps159 ?_
 repeat' first | simp (maxSteps := 4000000) (disch := omega) only [aZ, aY, bun, ↓aW, ↓aV, aO, findLabel, ↓reduceIte, imp, shift, aR, aJ, unown, names, aQ, below, aD, aC, aT, aU, aS, ren, aN, aP, aX, renO, belowM, seval, -Int.reduceToNat, bT, b9] | refine bA _ ?_ | refine fkx ?_ tru <;> intro hg | refine fkx ?_ ?_ <;> intro hg | exact fkx tru tru | refine And.intro (by omega) ?_ | omega
 all_goals
  simp only [vl, o6, AV.tup.injEq, List.cons.injEq, AV.v.injEq, Value.int.injEq, Value.bool.injEq, and_true, true_and]
  refine ⟨?_, ?_⟩
  ·repeat' split
   all_goals omega
  ·rw [Bool.eq_iff_iff]; simp; omega
theorem wP (c : Int) (h0 : 0 ≤ c) (h1 : c ≤ 255) : aG Tryz.prog 145 [.v (.int .u8 c)] (.tup [aA (vl c), Bv (o6 c)]) := by
 refine sp [.tmp 2, .tmp 3] Tryz.func145 Tryz.ntmps145 ?_
 repeat' first | simp (maxSteps := 4000000) (disch := omega) only [aZ, aY, bun, ↓aW, ↓aV, aO, findLabel, ↓reduceIte, imp, shift, aR, aJ, unown, names, aQ, below, aD, aC, aT, aU, aS, ren, aN, aP, aX, renO, belowM, seval, -Int.reduceToNat, bT, b9] | refine bA _ ?_ | refine fkx ?_ tru <;> intro hg | refine fkx ?_ ?_ <;> intro hg | exact fkx tru tru | refine And.intro (by omega) ?_ | omega
 all_goals
  simp only [vl, o6, AV.tup.injEq, List.cons.injEq, AV.v.injEq, Value.int.injEq, Value.bool.injEq, and_true, true_and]
  refine ⟨?_, ?_⟩
  ·repeat' split
   all_goals omega
  ·rw [Bool.eq_iff_iff]; simp; omega
theorem rS (k b : Int) (h0 : -1000000000 ≤ k) (h1 : k ≤ 1000000000) (h2 : -1000000000 ≤ b) (h3 : b ≤ 1000000000) : aG Tryz.prog 147 [aA k, aA b] (aA (thr k b)) := by
 refine sp [.tmp 4] Tryz.func147 Tryz.ntmps147 ?_
 refine iH ?_ tru tru <;> intros
 all_goals (congr 2; unfold thr; omega)
theorem rO (k b : Int) (h0 : -1000000000 ≤ k) (h1 : k ≤ 1000000000) (h2 : -1000000000 ≤ b) (h3 : b ≤ 1000000000) : aG Tryz.prog 143 [aA k, aA b] (aA (thr k b)) := by
 refine sp [.tmp 4] Tryz.func143 Tryz.ntmps143 ?_
 refine iH ?_ tru tru <;> intros
 all_goals (congr 2; unfold thr; omega)
theorem xF {f : Nat} {d k r : Int} (h : fR f d k = r) (hf : 0 < f) (hd : 455 < d) : fR (f - 1) (d / 35) (k + 36) = r := by
 cases f with
 | zero => omega
 | succ f => rw [← h, fR, if_pos hd]; rfl
theorem xG {f : Nat} {d k r : Int} (h : fR f d k = r) (hf : 0 < f) (hd : ¬ 455 < d) : k + 36 * d / (d + 38) = r := by
 cases f with
 | zero => omega
 | succ f => rw [← h, fR, if_neg hd]
theorem xE {f : Nat} {d : Int} (h : d < 35 ^ f * 456) (hd : 455 < d) : 0 < f ∧ d / 35 < 35 ^ (f - 1) * 456 := by
 cases f with
 | zero => simp at h; omega
 | succ f =>
  refine ⟨by omega, ?_⟩
  rw [Nat.add_sub_cancel]
  have : (35 : Int) ^ (f + 1) = 35 ^ f * 35 := Int.pow_succ 35 f
  rw [this] at h
  generalize (35 : Int) ^ f = p at *
  omega
theorem qM (d c : Int) (first : Bool) (h0 : 0 ≤ d) (h1 : d ≤ 1000000000000) (h2 : 1 ≤ c) (h3 : c ≤ 9223372036854775807) : aG Tryz.prog 96 [aA d, aA c, Bv first] (aA (adapt d c first)) := by
 refine sp [.tmp 6] Tryz.func96 Tryz.ntmps96 ?_
 have hm : (if c > 1 then c else 1) = c := by split <;> omega
 cases first with
 | true =>
  have hq := lH (x := d / 700) (c := c) (by omega) h2
  obtain ⟨r, hr⟩ : ∃ r, fR 20 (d / 700 + d / 700 / c) 0 = r := ⟨_, rfl⟩
  rw [NL, hr]
  generalize hx : d / 700 / c = q at *
  refine iH ?_ tru tru <;> intros
  refine bL (fun x : Nat × Int × Int => ⟨[(0, aA x.2.1), (7, aA x.2.2)], []⟩) (fun x => 1 ≤ x.1 ∧ x.1 ≤ 20 ∧ 0 ≤ x.2.1 ∧ x.2.1 ≤ 2000000000000 ∧ 0 ≤ x.2.2 ∧ x.2.2 ≤ 36 * (20 - x.1) ∧ x.2.1 < 35 ^ (x.1 - 1) * 456 ∧ fR x.1 x.2.1 x.2.2 = r) (fun x => x.1) (20, d / 700 + q, 0)
   (by refine ⟨?_, ?_, ?_, ?_, ?_, ?_, ?_, hr⟩ <;> dsimp only <;> omega) bN ?_
  rintro ⟨f, e, k⟩ ⟨hf1, hf, he0, he1, hk0, hk1, hb, hv⟩
  dsimp only at hf1 hf he0 he1 hk0 hk1 hb hv
  have h36 : 0 ≤ 36 * e / (e + 38) := Int.ediv_nonneg (by omega) (by omega)
  have h37 : 36 * e / (e + 38) ≤ 36 := Int.ediv_le_of_le_mul (by omega) (by omega)
  generalize hy : 36 * e / (e + 38) = y at *
  refine iH ?_ ?_ tru <;> intros
  ·obtain ⟨h5, h6⟩ := xE hb (by omega)
   refine ⟨(f - 1, e / 35, k + 36), ?_, by dsimp only; omega, bN⟩
   refine ⟨?_, ?_, ?_, ?_, ?_, ?_, h6, xF hv hf1 (by omega)⟩ <;> dsimp only <;> omega
  ·have := xG hv hf1 (by omega)
   rw [← this, hy]
 | false =>
  have hq := lH (x := d / 2) (c := c) (by omega) h2
  obtain ⟨r, hr⟩ : ∃ r, fR 20 (d / 2 + d / 2 / c) 0 = r := ⟨_, rfl⟩
  rw [NJ, hr]
  generalize hx : d / 2 / c = q at *
  refine iH ?_ tru tru <;> intros
  refine bL (fun x : Nat × Int × Int => ⟨[(0, aA x.2.1), (7, aA x.2.2)], []⟩) (fun x => 1 ≤ x.1 ∧ x.1 ≤ 20 ∧ 0 ≤ x.2.1 ∧ x.2.1 ≤ 2000000000000 ∧ 0 ≤ x.2.2 ∧ x.2.2 ≤ 36 * (20 - x.1) ∧ x.2.1 < 35 ^ (x.1 - 1) * 456 ∧ fR x.1 x.2.1 x.2.2 = r) (fun x => x.1) (20, d / 2 + q, 0)
   (by refine ⟨?_, ?_, ?_, ?_, ?_, ?_, ?_, hr⟩ <;> dsimp only <;> omega) bN ?_
  rintro ⟨f, e, k⟩ ⟨hf1, hf, he0, he1, hk0, hk1, hb, hv⟩
  dsimp only at hf1 hf he0 he1 hk0 hk1 hb hv
  have h36 : 0 ≤ 36 * e / (e + 38) := Int.ediv_nonneg (by omega) (by omega)
  have h37 : 36 * e / (e + 38) ≤ 36 := Int.ediv_le_of_le_mul (by omega) (by omega)
  generalize hy : 36 * e / (e + 38) = y at *
  refine iH ?_ ?_ tru <;> intros
  ·obtain ⟨h5, h6⟩ := xE hb (by omega)
   refine ⟨(f - 1, e / 35, k + 36), ?_, by dsimp only; omega, bN⟩
   refine ⟨?_, ?_, ?_, ?_, ?_, ?_, h6, xF hv hf1 (by omega)⟩ <;> dsimp only <;> omega
  ·have := xG hv hf1 (by omega)
   rw [← this, hy]
theorem rH (d c : Int) (first : Bool) (h0 : 0 ≤ d) (h1 : d ≤ 1000000000000) (h2 : 1 ≤ c) (h3 : c ≤ 9223372036854775807) : aG Tryz.prog 90 [aA d, aA c, Bv first] (aA (adapt d c first)) := by
 refine sp [.tmp 6] Tryz.func90 Tryz.ntmps90 ?_
 cases first with
 | true =>
  have hq := lH (x := d / 700) (c := c) (by omega) h2
  obtain ⟨r, hr⟩ : ∃ r, fR 20 (d / 700 + d / 700 / c) 0 = r := ⟨_, rfl⟩
  rw [NL, hr]
  generalize hx : d / 700 / c = q at *
  refine iH ?_ tru tru <;> intros
  refine bL (fun x : Nat × Int × Int => ⟨[(7, aA x.2.1), (8, aA x.2.2)], []⟩) (fun x => 1 ≤ x.1 ∧ x.1 ≤ 20 ∧ 0 ≤ x.2.1 ∧ x.2.1 ≤ 2000000000000 ∧ 0 ≤ x.2.2 ∧ x.2.2 ≤ 36 * (20 - x.1) ∧ x.2.1 < 35 ^ (x.1 - 1) * 456 ∧ fR x.1 x.2.1 x.2.2 = r) (fun x => x.1) (20, d / 700 + q, 0)
   (by refine ⟨?_, ?_, ?_, ?_, ?_, ?_, ?_, hr⟩ <;> dsimp only <;> omega) bN ?_
  rintro ⟨f, e, k⟩ ⟨hf1, hf, he0, he1, hk0, hk1, hb, hv⟩
  dsimp only at hf1 hf he0 he1 hk0 hk1 hb hv
  have h36 : 0 ≤ 36 * e / (e + 38) := Int.ediv_nonneg (by omega) (by omega)
  have h37 : 36 * e / (e + 38) ≤ 36 := Int.ediv_le_of_le_mul (by omega) (by omega)
  generalize hy : 36 * e / (e + 38) = y at *
  refine iH ?_ ?_ tru <;> intros
  ·obtain ⟨h5, h6⟩ := xE hb (by omega)
   refine ⟨(f - 1, e / 35, k + 36), ?_, by dsimp only; omega, bN⟩
   refine ⟨?_, ?_, ?_, ?_, ?_, ?_, h6, xF hv hf1 (by omega)⟩ <;> dsimp only <;> omega
  ·have := xG hv hf1 (by omega)
   rw [← this, hy]
 | false =>
  have hq := lH (x := d / 2) (c := c) (by omega) h2
  obtain ⟨r, hr⟩ : ∃ r, fR 20 (d / 2 + d / 2 / c) 0 = r := ⟨_, rfl⟩
  rw [NJ, hr]
  generalize hx : d / 2 / c = q at *
  refine iH ?_ tru tru <;> intros
  refine bL (fun x : Nat × Int × Int => ⟨[(7, aA x.2.1), (8, aA x.2.2)], []⟩) (fun x => 1 ≤ x.1 ∧ x.1 ≤ 20 ∧ 0 ≤ x.2.1 ∧ x.2.1 ≤ 2000000000000 ∧ 0 ≤ x.2.2 ∧ x.2.2 ≤ 36 * (20 - x.1) ∧ x.2.1 < 35 ^ (x.1 - 1) * 456 ∧ fR x.1 x.2.1 x.2.2 = r) (fun x => x.1) (20, d / 2 + q, 0)
   (by refine ⟨?_, ?_, ?_, ?_, ?_, ?_, ?_, hr⟩ <;> dsimp only <;> omega) bN ?_
  rintro ⟨f, e, k⟩ ⟨hf1, hf, he0, he1, hk0, hk1, hb, hv⟩
  dsimp only at hf1 hf he0 he1 hk0 hk1 hb hv
  have h36 : 0 ≤ 36 * e / (e + 38) := Int.ediv_nonneg (by omega) (by omega)
  have h37 : 36 * e / (e + 38) ≤ 36 := Int.ediv_le_of_le_mul (by omega) (by omega)
  generalize hy : 36 * e / (e + 38) = y at *
  refine iH ?_ ?_ tru <;> intros
  ·obtain ⟨h5, h6⟩ := xE hb (by omega)
   refine ⟨(f - 1, e / 35, k + 36), ?_, by dsimp only; omega, bN⟩
   refine ⟨?_, ?_, ?_, ?_, ?_, ?_, h6, xF hv hf1 (by omega)⟩ <;> dsimp only <;> omega
  ·have := xG hv hf1 (by omega)
   rw [← this, hy]
end Go.AE
-- types: B3 B4 B5 B9
end
section
namespace Go.AE
open Go.Proofs
set_option maxHeartbeats 8000000
set_option maxRecDepth 20000
set_option linter.unusedSimpArgs false
theorem f8 (n : Int) : jJ [.v (.int .u8 n)] = some [UInt8.ofNat n.toNat] := rfl
theorem f7 (n : Int) (k : Nat) (K : AV → Prop) : uB k (jJ [.v (.int .u8 n)]) K = (k = 1 ∧ K (.v (.string ⟨[UInt8.ofNat n.toNat].toArray⟩))) := rfl
theorem eQ (n : Int) : ((dgb n).toNat : Int) = dg n := by
 have := PJ n
 unfold dgb; simp; omega
theorem AD (k b : Int) : 1 ≤ thr k b ∧ thr k b ≤ 26 := by unfold thr; omega
theorem z4q {n t : Int} (hn : t ≤ n) (h1 : 1 ≤ t) (h2 : t ≤ 26) : 0 ≤ (n - t) / (36 - t) ∧ 10 * ((n - t) / (36 - t)) ≤ n ∧ 0 ≤ (n - t) % (36 - t) ∧ (n - t) % (36 - t) < 36 - t := by
 have h3 : 0 ≤ (n - t) / (36 - t) := Int.ediv_nonneg (by omega) (by omega)
 have h4 := Int.ediv_mul_le (n - t) (b := 36 - t) (by omega)
 have h5 : (n - t) / (36 - t) * 10 ≤ (n - t) / (36 - t) * (36 - t) := Int.mul_le_mul_of_nonneg_left (by omega) h3
 exact ⟨h3, by omega, Int.emod_nonneg _ (by omega), Int.emod_lt_of_pos _ (by omega)⟩
theorem z4p {f : Nat} {n q : Int} (h : n < 2 ^ (f - 1)) (hf : 1 ≤ f) (hq : 10 * q ≤ n) (hn : 1 ≤ n) : 1 ≤ f - 1 ∧ q < 2 ^ (f - 1 - 1) := by
 obtain ⟨f, rfl⟩ : ∃ g, f = g + 1 := ⟨f - 1, by omega⟩
 rw [Nat.add_sub_cancel] at *
 cases f with
 | zero => simp at h; omega
 | succ f =>
  refine ⟨by omega, ?_⟩
  rw [Nat.add_sub_cancel]
  have : (2 : Int) ^ (f + 1) = 2 ^ f * 2 := Int.pow_succ 2 f
  rw [this] at h
  generalize (2 : Int) ^ f = p at *
  omega
theorem z4o {f : Nat} {n k b : Int} (hf : 1 ≤ f) (h : n < thr k b) : lZ f n k b = [dgb n] := by
 obtain ⟨f, rfl⟩ : ∃ g, f = g + 1 := ⟨f - 1, by omega⟩
 rw [lZ, if_pos h]
theorem z4n {f : Nat} {n k b : Int} (hf : 1 ≤ f) (h : ¬ n < thr k b) : lZ f n k b = dgb (thr k b + (n - thr k b) % (36 - thr k b)) :: lZ (f - 1) ((n - thr k b) / (36 - thr k b)) (k + 36) b := by
 obtain ⟨f, rfl⟩ : ∃ g, f = g + 1 := ⟨f - 1, by omega⟩
 rw [lZ, if_neg h]; rfl
theorem dY {P Q R S : Prop} {H : Prop} (o : H) (a : Q) (b : R) (c : S) (h : H → Mk P → bD Q → bD R → bD S → P := by
 intro w m q r s
 repeat' first | refine aM (by first | assumption | (apply_assumption <;> omega)) ?_ ?_ | refine cM.fit (by assumption) ?_ | simp (maxSteps := 4000000) (disch := omega) only [aZ, aY, bun, ↓aW, ↓aV, aO, findLabel, ↓reduceIte, imp, shift, aR, aJ, unown, names, aQ, below, aD, aC, aT, aU, aS, ren, aN, aP, aX, renO, belowM, seval, -Int.reduceToNat, bT, b9, eQ, f8, f7, w] | exact bH _ | refine bG _ _ ?_ | exact bC.cl | refine bE _ ?_ | refine bF _ _ ?_ ?_ | refine bA _ ?_ | refine fkx ?_ tru <;> intro hg | refine fkx ?_ ?_ <;> intro hg | exact fkx tru tru | refine And.intro (by omega) ?_ | omega
 first
 | done
 | all_goals (repeat revert hg)
   exact q.out
   first
   | done
   | exact r.out
     first
     | done
     | exact s.out
       first | done | fail) : P := h o ⟨tru⟩ ⟨a⟩ ⟨b⟩ ⟨c⟩
theorem zlq (o : List UInt8) (n b : Int) (ho : o.length ≤ 1000000000) (hn : 0 ≤ n) (hn1 : n ≤ 1000000000000) (h2 : -1000000 ≤ b) (h3 : b ≤ 1000000) :
  eV Tryz.prog 95 [.arr 5 1 (o.map U8)] [.ref 0 0 o.length, aA n, aA b] [.arr 5 1 ((o ++ wr n b).map U8), .fence] (.ref 0 0 (o ++ wr n b).length) := by
 refine jV (ts := [.tmp 6]) bZ Tryz.func95 rfl rfl (by decide +kernel) (by simp [Tryz.ntmps95]) rfl ?_
 refine dY tru ?_ tru tru <;> intros
 refine bL (fun x : Nat × Int × Int × List UInt8 => ⟨[(0, .ref 0 0 (o ++ x.2.2.2).length), (1, aA x.2.1), (2, aA b), (7, aA x.2.2.1)], [.arr 5 1 ((o ++ x.2.2.2).map U8), .fence]⟩)
  (fun x => 1 ≤ x.1 ∧ x.1 ≤ 64 ∧ 0 ≤ x.2.1 ∧ x.2.1 ≤ 1000000000000 ∧ x.2.2.1 = 36 * (65 - x.1) ∧ x.2.1 < 2 ^ (x.1 - 1) ∧ x.2.2.2.length + x.1 = 64 ∧ x.2.2.2 ++ lZ x.1 x.2.1 x.2.2.1 b = wr n b) (fun x => x.1) (64, n, 36, [])
  (by refine ⟨?_, ?_, ?_, ?_, ?_, ?_, ?_, ?_⟩ <;> dsimp only <;> first | omega | rfl) (by (simp (disch := omega) [wk, aL, aI, aD, aC, get, aK, belowM, below, belows, aA, aB, Bv, U8, Sv, List.append_nil] <;> try omega)) ?_
 rintro ⟨f, n, k, acc⟩ ⟨hf1, hf, hn0, hn1, hk, hb, hl, hv⟩
 dsimp only at hf1 hf hn0 hn1 hk hb hl hv
 have ht := AD k b
 by_cases hlt : n < thr k b
 ·have he := z4o hf1 hlt
  rw [he] at hv
  (have := @PL; have := @rS; refine dY tru ?_ tru tru <;> intros)
  rw [← hv]
  simp [U8, eQ, Nat.add_assoc]
 ·have he := z4n hf1 hlt
  rw [he] at hv
  obtain ⟨q0, q1, q2, q3⟩ := z4q (n := n) (t := thr k b) (by omega) (by omega) (by omega)
  obtain ⟨h5, h6⟩ := z4p hb hf1 q1 (by omega)
  generalize hqq : (n - thr k b) / (36 - thr k b) = q at *
  generalize hrr : (n - thr k b) % (36 - thr k b) = r at *
  (have := @PL; have := @rS; refine dY (And.intro hqq hrr) ?_ tru tru <;> intros)
  refine ⟨(f - 1, q, k + 36, acc ++ [dgb (thr k b + r)]), ⟨h5, by dsimp only; omega, q0, by dsimp only; omega, by dsimp only; omega, h6, by simp; omega, ?_⟩, by dsimp only; omega, ?_⟩
  ·rw [← hv]; simp
  ·(simp (disch := omega) [wk, aL, aI, aD, aC, get, aK, belowM, below, belows, aA, aB, Bv, U8, Sv, eQ, List.map_append, List.append_assoc] <;> try omega)
theorem zbl (n b : Int) (hn : 0 ≤ n) (hn1 : n ≤ 1000000000000) (h2 : -1000000 ≤ b) (h3 : b ≤ 1000000) :
  aG Tryz.prog 89 [aA n, aA b] (Sv (wr n b)) := by
 refine sp [.tmp 4] Tryz.func89 Tryz.ntmps89 ?_
 refine dY tru ?_ tru tru <;> intros
 refine bL (fun x : Nat × Int × Int × List UInt8 => ⟨[(0, aA x.2.1), (1, aA b), (5, Sv x.2.2.2), (6, aA x.2.2.1)], []⟩)
  (fun x => 1 ≤ x.1 ∧ x.1 ≤ 64 ∧ 0 ≤ x.2.1 ∧ x.2.1 ≤ 1000000000000 ∧ x.2.2.1 = 36 * (65 - x.1) ∧ x.2.1 < 2 ^ (x.1 - 1) ∧ x.2.2.2.length + x.1 = 64 ∧ x.2.2.2 ++ lZ x.1 x.2.1 x.2.2.1 b = wr n b) (fun x => x.1) (64, n, 36, [])
  (by refine ⟨?_, ?_, ?_, ?_, ?_, ?_, ?_, ?_⟩ <;> dsimp only <;> first | omega | rfl) bN ?_
 rintro ⟨f, n, k, acc⟩ ⟨hf1, hf, hn0, hn1, hk, hb, hl, hv⟩
 dsimp only at hf1 hf hn0 hn1 hk hb hl hv
 have ht := AD k b
 by_cases hlt : n < thr k b
 ·have he := z4o hf1 hlt
  rw [he] at hv
  (have := @ZL; have := @rO; refine dY tru ?_ tru tru <;> intros)
  rw [← hv]; rfl
 ·have he := z4n hf1 hlt
  rw [he] at hv
  obtain ⟨q0, q1, q2, q3⟩ := z4q (n := n) (t := thr k b) (by omega) (by omega) (by omega)
  obtain ⟨h5, h6⟩ := z4p hb hf1 q1 (by omega)
  generalize hqq : (n - thr k b) / (36 - thr k b) = q at *
  generalize hrr : (n - thr k b) % (36 - thr k b) = r at *
  (have := @ZL; have := @rO; refine dY (And.intro hqq hrr) ?_ tru tru <;> intros)
  refine ⟨(f - 1, q, k + 36, acc ++ [dgb (thr k b + r)]), ⟨h5, by dsimp only; omega, q0, by dsimp only; omega, by dsimp only; omega, h6, by simp; omega, ?_⟩, by dsimp only; omega, ?_⟩
  ·rw [← hv]; simp
  ·(simp (disch := omega) [wk, aL, aI, aD, aC, get, aK, belowM, below, belows, aA, aB, Bv, U8, Sv, dgb, List.append_assoc] <;> try omega)
end Go.AE
-- types: B3 B4 B5 B9 B84 B146
end
section
namespace Go.AE
open Go.Proofs
set_option maxHeartbeats 8000000
set_option maxRecDepth 20000
set_option linter.unusedSimpArgs false
theorem zh5 (l : List Int) (n : Int) (hl : l.length ≤ 100000) : aG Tryz.prog 94 [.sl l.length (l.map aB), aB n] (aB (nxt l n)) := by
 refine sp [.tmp 4] Tryz.func94 Tryz.ntmps94 ?_
 refine dY tru ?_ tru tru <;> intros
 refine bL (fun i : Nat => ⟨[(1, aB n), (5, aB ((l.take i).foldl (fun o r => if n ≤ r ∧ (o < 0 ∨ r < o) then r else o) (-1))), (8, .sl l.length (l.map aB)), (9, aA l.length), (10, aA i)], []⟩) (fun i => i ≤ l.length) (fun i => l.length - i) 0 (by simp) bN ?_
 intro i hi
 by_cases hlt : i < l.length
 ·have hs := v6 (fun o r => if n ≤ r ∧ (o < 0 ∨ r < o) then r else o) (-1) l i 0 hlt
  generalize (l.take i).foldl (fun o r => if n ≤ r ∧ (o < 0 ∨ r < o) then r else o) (-1) = o at *
  repeat' first | simp (maxSteps := 4000000) (disch := omega) only [aZ, aY, bun, ↓aW, ↓aV, aO, findLabel, ↓reduceIte, imp, shift, aR, aJ, unown, names, aQ, below, aD, aC, aT, aU, aS, ren, aN, aP, aX, renO, belowM, seval, -Int.reduceToNat, bT, b9, eQ, f8, f7] | refine bA _ ?_ | refine fkx ?_ tru <;> intro hg | refine fkx ?_ ?_ <;> intro hg | exact fkx tru tru | refine And.intro (by omega) ?_ | omega
  all_goals
   refine ⟨i + 1, by omega, by omega, ?_⟩
   rw [hs]
   first
   | rw [if_pos (by omega)]
   | rw [if_neg (by omega)]
   (simp (disch := omega) [wk, aL, aI, aD, aC, get, aK, belowM, below, belows, aA, aB, Bv, U8, Sv, v6] <;> try omega)
 ·have e : i = l.length := by omega
  subst e
  rw [List.take_length]
  refine dY tru ?_ tru tru <;> intros
  rfl
theorem z1w {l : List Int} (h : bW l = true) : ∀ r ∈ l, 0 ≤ r ∧ r ≤ 1114111 := fun r hr => by
 have := (lU r).1 (List.all_eq_true.1 h r hr)
 omega
theorem XU (l : List Int) (i : Nat) : (cH (l.take i)).length ≤ i := by
 have := zO (l.take i)
 simp at this; omega
theorem BZ (l : List Int) (hl : l.length ≤ 1000) : aG Tryz.prog 59 [.sl l.length (l.map aB)] (.tup [Sv (fJ l), Bv (bW l)]) := by
 refine sp [.tmp 2, .tmp 3] Tryz.func59 Tryz.ntmps59 ?_
 refine dY tru ?_ tru tru <;> intros
 refine bL (fun i : Nat => ⟨[(0, .sl l.length (l.map aB)), (4, .ref 0 0 (cH (l.take i)).length), (15, .sl l.length (l.map aB)), (16, aA l.length), (17, aA i)], [.arr 5 1 ((cH (l.take i)).map U8)]⟩) (fun i => i ≤ l.length ∧ (l.take i).all right = true) (fun i => l.length - i) 0 (by simp) (by (simp (disch := omega) [wk, aL, aI, aD, aC, get, aK, belowM, below, belows, aA, aB, Bv, U8, Sv, cH] <;> try omega)) ?_
 rintro i ⟨hi, hr⟩
 have hpi := XU l i
 by_cases hlt : i < l.length
 ·have hp := XT l i hlt
  have ht := gB l i 0 hlt
  cases hgr : right (l.getD i 0) with
  | false =>
   have hb := AA hlt hgr
   (have := @rJ; refine dY hgr ?_ tru tru <;> intros)
   simp [fJ, hb]
  | true =>
   have hgr' := (lU _).1 hgr
   have hr' : (l.take (i + 1)).all right = true := by rw [ht, List.all_append, hr]; simp only [List.all_cons, List.all_nil, hgr]; rfl
   obtain ⟨r, hrr⟩ : ∃ r, l.getD i 0 = r := ⟨_, rfl⟩
   rw [hrr] at hgr hgr' hp ht
   (have := @rJ; refine dY (And.intro hrr hgr) ?_ ?_ tru <;> intros)
   ·refine ⟨i + 1, ⟨by omega, hr'⟩, by omega, ?_⟩
    rw [hp, if_pos (by omega)]
    (simp (disch := omega) [wk, aL, aI, aD, aC, get, aK, belowM, below, belows, aA, aB, Bv, U8, Sv, eM] <;> try omega)
   ·refine ⟨i + 1, ⟨by omega, hr'⟩, by omega, ?_⟩
    rw [hp, if_neg (by omega)]
    (simp (disch := omega) [wk, aL, aI, aD, aC, get, aK, belowM, below, belows, aA, aB, Bv, U8, Sv, List.append_nil] <;> try omega)
 ·have e : i = l.length := by omega
  subst e
  rw [List.take_length] at *
  have hok : bW l = true := hr
  have hR := z1w hok
  have hS : fJ l = oM l := by simp [fJ, hok]
  rw [hok, hS]
  have hpl := zO l
  have hpc := zP l
  refine dY tru ?_ ?_ tru <;> intros
  all_goals
   refine bL (fun x : Nat × Int × gC => ⟨[(0, .sl l.length (l.map aB)), (4, .ref 0 0 x.2.2.out.length), (7, aA (cH l).length), (8, aB x.2.1), (9, aA x.2.2.delta), (10, aA x.2.2.bias), (11, aA x.2.2.h)], [.arr 5 1 (x.2.2.out.map U8)]⟩)
    (fun x => rX l x.2.1 x.2.2 ∧ (l.length : Int) < x.1 + x.2.2.h ∧ enF l (cH l).length x.1 x.2.1 x.2.2 = oM l) (fun x => x.1) (l.length + 1, 128, ⟨iS l, 0, 72, (cH l).length⟩)
    (by
     refine ⟨⟨by dsimp only; omega, by dsimp only; omega, Int.le_refl 0, by simp, by dsimp only; omega, by dsimp only; omega, by dsimp only; omega, ?_⟩, by dsimp only; omega, rfl⟩
     dsimp only [iS]; split <;> (try simp only [List.length_append, List.length_cons, List.length_nil]) <;> omega) ?_ ?_
   ·first
    | (have hh : iS l = cH l ++ [45] := by unfold iS; rw [if_pos (by omega)])
    | (have hh : iS l = cH l := by unfold iS; rw [if_neg (by omega)])
    (simp (disch := omega) [wk, aL, aI, aD, aC, get, aK, belowM, below, belows, aA, aB, Bv, U8, Sv, hh] <;> try omega)
   ·rintro ⟨f, n, ⟨out, delta, bias, h⟩⟩ ⟨hI, hf, hv⟩
    dsimp only at hI hf hv
    have hn0 := hI.n0
    have hn1 := hI.n1
    have hd0 := hI.d0
    have hb0 := hI.b0
    have hb1 := hI.b1
    have hhh := hI.hh
    have hlen := hI.len
    dsimp only at hd0 hb0 hb1 hhh hlen
    by_cases hlt : h < l.length
    ·obtain ⟨h1, h2, hJ, hc1, hc2, hm, hpos⟩ := hI.first (fun r hr => (hR r hr).2) hl hlt
     dsimp only at hJ hc1 hc2 hpos
     obtain ⟨f, rfl⟩ : ∃ g, f = g + 1 := ⟨f - 1, by omega⟩
     rw [enF, if_pos hlt] at hv
     dsimp only at hv
     have hnm := h1.2.1
     generalize hmm : nxt l n = m at *
     generalize hpp : (m - n) * (h + 1) = p at *
     (have := zh5 l n (by omega); refine dY (And.intro hmm hpp) ?_ tru tru <;> intros)
     refine bL (fun x : Nat × gC => ⟨[(0, .sl l.length (l.map aB)), (4, .ref 0 0 x.2.out.length), (7, aA (cH l).length), (8, aB m), (9, aA x.2.delta), (10, aA x.2.bias), (11, aA x.2.h), (59, .sl l.length (l.map aB)), (60, aA l.length), (61, aA x.1)], [.arr 5 1 (x.2.out.map U8)]⟩)
      (fun x => nA l m ⟨out, delta + p, bias, h⟩ x.1 x.2 ∧ x.1 ≤ l.length) (fun x => l.length - x.1) (0, ⟨out, delta + p, bias, h⟩) ⟨hJ, by dsimp only; omega⟩ bN ?_
     rintro ⟨j, ⟨out1, delta1, bias1, h1'⟩⟩ ⟨hJ1, hj⟩
     dsimp only at hJ1 hj
     have hroom : h + l.countP (· == m) ≤ l.length := by
      have := sI (l := l) (n := n) (m := m) h1.2.2 h1.2.1
      have := List.countP_le_length (p := fun x : Int => decide (x < m + 1)) (l := l)
      omega
     have hd0' := hJ1.d0
     have hd1' := hJ1.d1
     have hb0' := hJ1.b0
     have hb1' := hJ1.b1
     have hhl := hJ1.hl
     have hlen' := hJ1.len
     have hh' := hJ1.hh
     have hh0 := hJ1.h0
     dsimp only at hd0' hd1' hb0' hb1' hhl hlen' hh' hh0
     by_cases hjl : j < l.length
     ·have hN := hJ1.next hjl (by dsimp only; omega) hroom
      have hwl := FX delta1 bias1
      obtain ⟨r, hrr⟩ : ∃ r, l.getD j 0 = r := ⟨_, rfl⟩
      rw [hrr] at hN
      repeat' first | refine dG [0] (zlq out1 delta1 bias1 (by omega) (by omega) (by omega) (by omega) (by omega)) ?_ | refine aM (qM _ _ _ (by omega) (by omega) (by omega) (by omega)) ?_ ?_ | simp (maxSteps := 4000000) (disch := omega) only [aZ, aY, bun, ↓aW, ↓aV, aO, findLabel, ↓reduceIte, imp, shift, aR, aJ, unown, names, aQ, below, aD, aC, aT, aU, aS, ren, aN, aP, aX, renO, belowM, seval, -Int.reduceToNat, hrr, bT, b9, eQ, f8, f7] | exact bH _ | refine bG _ _ ?_ | exact bC.cl | refine bE _ ?_ | refine bF _ _ ?_ ?_ | refine bA _ ?_ | refine fkx ?_ tru <;> intro hg | refine fkx ?_ ?_ <;> intro hg | exact fkx tru tru | refine And.intro (by omega) ?_ | omega
      ·have e : iA m (cH l).length ⟨out1, delta1, bias1, h1'⟩ r = ⟨out1, delta1 + 1, bias1, h1'⟩ := by unfold iA; rw [if_pos (by omega)]
       rw [e] at hN
       exact ⟨(j + 1, _), ⟨hN, by dsimp only; omega⟩, by dsimp only; omega, bN⟩
      ·have e : iA m (cH l).length ⟨out1, delta1, bias1, h1'⟩ r = ⟨out1 ++ wr delta1 bias1, 0, adapt delta1 (h1' + 1) (h1' == ((cH l).length : Int)), h1' + 1⟩ := by unfold iA; rw [if_neg (by omega), if_pos (by omega)]
       rw [e] at hN
       exact ⟨(j + 1, _), ⟨hN, by dsimp only; omega⟩, by dsimp only; omega, bN⟩
      ·have e : iA m (cH l).length ⟨out1, delta1, bias1, h1'⟩ r = ⟨out1, delta1, bias1, h1'⟩ := by unfold iA; rw [if_neg (by omega), if_neg (by omega)]
       rw [e] at hN
       exact ⟨(j + 1, _), ⟨hN, by dsimp only; omega⟩, by dsimp only; omega, bN⟩
     ·have ej : j = l.length := by omega
      subst ej
      obtain ⟨hL, hgt⟩ := hJ1.last h1 hn0 hm hhh hc1
      dsimp only at hL hgt
      have heq := hJ1.eq
      rw [List.take_length] at heq
      repeat' first | simp (maxSteps := 4000000) (disch := omega) only [aZ, aY, bun, ↓aW, ↓aV, aO, findLabel, ↓reduceIte, imp, shift, aR, aJ, unown, names, aQ, below, aD, aC, aT, aU, aS, ren, aN, aP, aX, renO, belowM, seval, -Int.reduceToNat, bT, b9, eQ, f8, f7] | refine bA _ ?_ | refine fkx ?_ tru <;> intro hg | refine fkx ?_ ?_ <;> intro hg | exact fkx tru tru | refine And.intro (by omega) ?_ | omega
      refine ⟨(f, m + 1, ⟨out1, delta1 + 1, bias1, h1'⟩), ⟨hL, by dsimp only; omega, ?_⟩, by dsimp only; omega, bN⟩
      rw [← hv]
      unfold pE
      rw [← heq]
    ·have hv' : out = oM l := by
      rw [← hv]
      cases f with
      | zero => rfl
      | succ f => rw [enF, if_neg hlt]
     repeat' first | simp (maxSteps := 4000000) (disch := omega) only [aZ, aY, bun, ↓aW, ↓aV, aO, findLabel, ↓reduceIte, imp, shift, aR, aJ, unown, names, aQ, below, aD, aC, aT, aU, aS, ren, aN, aP, aX, renO, belowM, seval, -Int.reduceToNat, bT, b9, eQ, f8, f7] | refine bA _ ?_ | refine fkx ?_ tru <;> intro hg | refine fkx ?_ ?_ <;> intro hg | exact fkx tru tru | refine And.intro (by omega) ?_ | omega
     rw [hv']
end Go.AE
-- types: B0 B3 B4 B5 B9 B21 B63 B84
end
section
set_option linter.unusedSimpArgs false
set_option linter.unusedVariables false
namespace Go.AE
open Go.Proofs Go.Lib
def yK : Nat := 120
theorem z4m {P : Program} {ops : Array Oper} {rest : List Oper} {o : Oper} {a : Act} {w w' : World} {Q : Exit → Act → World → Prop} (hg : o.guard = none) (d x : Operand) (t u : TypeId)
  (ho : o.op = .call { callee := .builtin .copy, args := #[d, x], argTypes := #[t, u] }) {p q v : Value} (hd : a.eval d = p) (hx : a.eval x = q)
  (hr : (Builtin.copy_ #[t, u] o.type #[p, q]).run P w = .ok v w') (h : wpList P ops Q rest (a.put o.dst v) w') : wpList P ops Q (o :: rest) a w := by
 refine wpList_plain hg fun K hK => ?_
 unfold Oper.wp execOp
 simp only [ho, resolve, invoke, builtin, Sem.run_bind, Sem.run_pure, Result.andThen_ok, List.map_toArray, List.map_cons, List.map_nil, hd, hx, hr]
 exact hK _ _ h
theorem PV {P : Program} {ops : Array Oper} {o : Oper} {a : Act} {w w' : World} {K : Act → World → Prop} {Q : Exit → Act → World → Prop} {E : Prop} (hg : o.guard = none) (d x : Operand) (t u : TypeId)
  (ho : o.op = .call { callee := .builtin .copy, args := #[d, x], argTypes := #[t, u] }) {p q v : Value} (hd : a.eval d = p) (hx : a.eval x = q)
  (hr : (Builtin.copy_ #[t, u] o.type #[p, q]).run P w = .ok v w') (h : K (a.put o.dst v) w') : if Region.wanted o (yielded ops a.tmps) = true then Oper.wp P o a w K Q else E := by
 rw [if_pos (by simp [Region.wanted, hg])]
 unfold Oper.wp execOp
 simp only [ho, resolve, invoke, builtin, Sem.run_bind, Sem.run_pure, Result.andThen_ok, List.map_toArray, List.map_cons, List.map_nil, hd, hx, hr]
 exact h
set_option maxHeartbeats 4000000 in
set_option maxRecDepth 100000 in
theorem zez (b n c i vb voff vc : Nat) (cs : List Value) (x : Value) (w : World) (hi : i < n) (hroom : n + 1 ≤ c) (hc63 : c ≤ 9223372036854775807) (hvb : vb ≠ b) (hcl : cs.length = n)
  (hcs : ∀ j v, cs[j]? = some v → w.cell? ⟨b, j, none⟩ = some v) (hsp : ∀ j, j < n + 1 → (w.cell? ⟨b, j, none⟩).isSome = true) (hfz : ∀ j, j < n + 1 → w.frozen? ⟨b, j, none⟩ = false)
  (hvs : w.cell? ⟨vb, voff, none⟩ = some x) (h1c : ∀ v ∈ cs, v.oneCell' = true) (h1v : x.oneCell' = true)
  (tA tB : TypeId) (kA kB : Nat) (hsa : w.shape? vb = some (tA, kA)) (hsb : w.shape? b = some (tB, kB)) (hkB : kB ≠ 0) (hfa : w.frozen? ⟨vb, voff, none⟩ = false) (hfe : w.frozen? ⟨vb, kA, none⟩ = false) :
  Calls Tryz.prog yK #[.slice (some ⟨b, 0, none⟩) n c, .int .i64 i, .slice (some ⟨vb, voff, none⟩) 1 vc] w fun e w' =>
   e = .returned (.slice (some ⟨b, 0, none⟩) (n + 1) c) ∧ w' = (w.drew.setCells b (i + 1) (cs.drop i)).setCells b i [x] := by
 have hne : ¬ ((i : Int) = (n : Int)) := by omega
 have hsz : (Tryz.prog.info? 21).map (·.size) = some 1 := by kernel_rfl
 have hov : ∀ lb cb, (callFunc 160 #[.slice (some ⟨vb, voff, none⟩) 1 vc, .slice (some ⟨b, i + 1, none⟩) lb cb]).run Tryz.prog w = .ok (.value (.bool false)) w := fun lb cb => by
  rw [run_callFunc_extern Tryz.func160 (by kernel_rfl) (by kernel_rfl) (by kernel_rfl) (e := Extern.SlicesOverlaps.overlaps #[63, 63] #[4]) (by kernel_rfl),
   Lib.run_overlaps_apart w 63 4 21 Tryz.underlying63 1 Tryz.sizeOf21 ⟨vb, voff, none⟩ ⟨b, i + 1, none⟩ 1 vc lb cb hvb tA tB kA kB hsa hsb hkB hfa hfe]
  rfl
 have hdl : (cs.drop i).length = n - i := by rw [List.length_drop, hcl]
 have mixed : Tryz.prog.follows .mixedOrders = true := by decide +kernel
 have hw1 : IntKind.i64.wrap ((i : Int) + 1) = (i : Int) + 1 := by rw [IntKind.wrap_i64]; omega
 have hb1 : (0 : Int) ≤ (i : Int) + 1 := by omega
 have hin : i ≤ n := by omega
 have htn : ((i : Int) + 1).toNat = i + 1 := by omega
 have hb2 : ¬ (c = i + 1) := by omega
 have hb3 : (i : Int) ≤ (n : Int) + 1 := by omega
 have hb4 : ¬ (c = i) := by omega
 have hb5 : (i : Int) ≤ (n : Int) := by omega
 have hc1 : ∀ ty dc sc, (Builtin.copy_ #[63, 63] ty #[.slice (some ⟨b, i + 1, none⟩) (n + 1 - (i + 1)) dc, .slice (some ⟨b, i, none⟩) (n + 1 - i) sc]).run Tryz.prog w.drew = .ok (goInt (cs.drop i).length) (w.drew.setCells b (i + 1) (cs.drop i)) := fun ty dc sc =>
  run_copy_cells w.drew _ _ ty 21 b (i + 1) (n + 1 - (i + 1)) dc ⟨b, i, none⟩ (n + 1 - i) sc (cs.drop i) Tryz.underlying63 hsz (by rw [hdl]; simp only [Nat.min_def]; split <;> omega)
   (fun j v hj => by rw [Addr.add_lit]; exact hcs (i + j) v (by rwa [List.getElem?_drop] at hj))
   (fun j hj => hsp _ (by omega)) (fun j hj => hfz _ (by omega)) (fun v hv => h1c v (List.mem_of_mem_drop hv))
 obtain ⟨W1, hW1⟩ : ∃ W1, W1 = w.drew.setCells b (i + 1) (cs.drop i) := ⟨_, rfl⟩
 have hsp1 : ∀ k, k < n + 1 → (W1.cell? ⟨b, k, none⟩).isSome = true := fun k hk => by
  rw [hW1]
  by_cases hin : i + 1 ≤ k
  ·have := World.cell?_setCells_in b (cs.drop i) (i + 1) w.drew (fun j hj => hsp _ (by omega)) (k - (i + 1)) (by omega)
   rw [show i + 1 + (k - (i + 1)) = k by omega] at this
   rw [this]; rfl
  ·rw [World.cell?_setCells_out b _ _ _ ⟨b, k, none⟩ (fun _ _ => by show k < i + 1 ∨ _; omega)]
   exact hsp k hk
 have hc2 : ∀ (W : World), (∀ x, W.cell? x = W1.cell? x) → (∀ x, W.frozen? x = W1.frozen? x) → ∀ ty dc, (Builtin.copy_ #[63, 63] ty #[.slice (some ⟨b, i, none⟩) (n + 1 - i) dc, .slice (some ⟨vb, voff, none⟩) 1 vc]).run Tryz.prog W = .ok (goInt 1) (W.setCells b i [x]) := fun W hWc hWf ty dc =>
  run_copy_cells W _ _ ty 21 b i (n + 1 - i) dc ⟨vb, voff, none⟩ 1 vc [x] Tryz.underlying63 hsz (by simp only [Nat.min_def, List.length_cons, List.length_nil]; split <;> omega)
   (fun j v hj => by
    have hj0 : j = 0 := by have := (List.getElem?_eq_some_iff.1 hj).1; simpa using this
    subst hj0
    simp at hj; subst hj
    rw [Addr.add_lit, hWc, hW1, World.cell?_setCells_out b _ _ _ _ (fun h _ => absurd h hvb)]
    exact hvs)
   (fun j hj => by rw [hWc]; exact hsp1 _ (by simp at hj; omega)) (fun j hj => by rw [hWf, hW1, World.frozen?_setCells]; exact hfz _ (by simp at hj; omega)) (fun v hv => by simp at hv; subst hv; exact h1v)
 rw [← hW1] at hc1
 unfold yK
 go_enter Tryz.func120, Tryz.ntmps120
 go_wp2_with (simp only [hov])
 go_region_law_o (refine PV rfl _ _ 63 63 rfl (by simp [Act.eval, Act.put]; rfl) (by simp [Act.eval, Act.put]; rfl) (hc1 _ _ _) ?_)
 go_wp2_with (at_builtin; refine z4m rfl _ _ 63 63 rfl rfl rfl (hc2 _ (fun _ => rfl) (fun _ => rfl) _ _) ?_)
 go_ret
 exact ⟨rfl, rfl⟩
set_option maxHeartbeats 4000000 in
set_option maxRecDepth 100000 in
theorem zex (b n c i vb voff vc : Nat) (cs : List Value) (x : Value) (w : World) (hi : i < n) (hnc : n ≤ c) (hroom : c < n + 1) (hbig : (n + 1) * 4 ≤ 140737488355328) (hcl : cs.length = n)
  (hcs : ∀ j v, cs[j]? = some v → w.cell? ⟨b, j, none⟩ = some v)
  (hvs : w.cell? ⟨vb, voff, none⟩ = some x) (h1c : ∀ v ∈ cs, v.oneCell' = true) (h1v : x.oneCell' = true) :
  Calls Tryz.prog yK #[.slice (some ⟨b, 0, none⟩) n c, .int .i64 i, .slice (some ⟨vb, voff, none⟩) 1 vc] w fun e w' =>
   e = .returned (.slice (some ⟨w.heap.size, 0, none⟩) (n + 1) (grownCap w (n + 1) c 21)) ∧
   w' = (((w.alloc (.cells ((cs.take i).toArray ++ Builtin.zeroCells (Value.int .i32 0).cells (n + 1 - i) ++ Builtin.zeroCells (Value.int .i32 0).cells (grownCap w (n + 1) c 21 - (n + 1))) 21)).drew.setCells w.heap.size i [x]).drew).setCells w.heap.size (i + 1) (cs.drop i) := by
 have hne : ¬ ((i : Int) = (n : Int)) := by omega
 have hne2 : (c : Int) < (n : Int) + 1 := by omega
 obtain ⟨i0, hi0, hz0, hzs, hzb⟩ := info_parts (P := Tryz.prog) (e := 21) (z := .int .i32 0) (size := 1) (bytes := 4) (by kernel_rfl)
 have hsz : (Tryz.prog.info? 21).map (·.size) = some 1 := by rw [hi0]; simp [hzs]
 have hbw : b < w.heap.size := block_lt_of_cell (hcs 0 _ (List.getElem?_eq_getElem (by omega)))
 have hvw : vb < w.heap.size := block_lt_of_cell hvs
 have hkk : (n : Int) + 1 - (i : Int) = ((n + 1 - i : Nat) : Int) := by omega
 have hik : i + (n + 1 - i) = n + 1 := by omega
 have hold : (Builtin.firstCells i0.size i (.slice (some ⟨b, 0, none⟩) i c)).run Tryz.prog w.drew = .ok (cs.take i).toArray w.drew := by
  rw [hzs]
  refine run_firstCells_some w.drew 1 i ⟨b, 0, none⟩ i c (cs.take i) (by rw [List.length_take]; omega) fun j v hj => ?_
  rw [Addr.add_lit, Nat.zero_add]
  rw [List.getElem?_take] at hj
  split at hj
  ·exact hcs j v hj
  ·cases hj
 obtain ⟨G, hG⟩ : ∃ G, G = grownCap w (n + 1) c 21 := ⟨_, rfl⟩
 obtain ⟨ROW, hROW⟩ : ∃ ROW : Array Value, ROW = (cs.take i).toArray ++ Builtin.zeroCells (Value.int .i32 0).cells (n + 1 - i) ++ Builtin.zeroCells (Value.int .i32 0).cells (G - (n + 1)) := ⟨_, rfl⟩
 have happ : ∀ ty, (Builtin.append_ #[63, 3] ty #[.slice (some ⟨b, 0, none⟩) i c, .int .i64 ((n : Int) + 1 - (i : Int))]).run Tryz.prog w = .ok (.slice (some ⟨w.heap.size, 0, none⟩) (n + 1) G) (w.drew.alloc (.cells ROW 21)) := fun ty => by
  have h := Lib.run_append_grow_zeros (P := Tryz.prog) w 63 3 ty 21 i0 _ .i64 .i64 Tryz.underlying63 Tryz.underlying3 hi0 hz0 (some ⟨b, 0, none⟩) i c (cs.take i) hold (n + 1 - i) (by omega) (by omega) (by omega) (by omega) (by rw [hzb]; omega) (by rw [hzb, hik]; exact growslice_fits hroom hbig)
  rw [hik] at h
  rw [hkk, hROW, hG]
  exact h
 rw [← hG, ← hROW]
 have hRl : n + 1 ≤ ROW.size := by rw [hROW]; simp [Builtin.zeroCells, Value.cells]; omega
 obtain ⟨W1, hW1⟩ : ∃ W1, W1 = w.drew.alloc (.cells ROW 21) := ⟨_, rfl⟩
 have hN : ∀ j, j < n + 1 → (W1.cell? ⟨w.heap.size, j, none⟩).isSome = true := fun j hj => by
  rw [hW1, World.cell?_alloc_at (w := w.drew) ROW _ w.heap.size j rfl, Array.getElem?_eq_getElem (by omega)]; rfl
 have hNf : ∀ j, W1.frozen? ⟨w.heap.size, j, none⟩ = false := fun j => by rw [hW1]; exact World.frozen?_alloc_at (w := w.drew) ROW _ w.heap.size j rfl
 have hOb : ∀ j v, w.cell? ⟨b, j, none⟩ = some v → W1.cell? ⟨b, j, none⟩ = some v := fun j v h => by rw [hW1, World.cell?_alloc_past (w := w.drew) _ b j hbw]; exact h
 have hOv : ∀ j v, w.cell? ⟨vb, j, none⟩ = some v → W1.cell? ⟨vb, j, none⟩ = some v := fun j v h => by rw [hW1, World.cell?_alloc_past (w := w.drew) _ vb j hvw]; exact h
 have hGn : n + 1 ≤ G := by rw [hG]; exact grownCap_ge w _ _ _
 have hG63 : G ≤ 9223372036854775807 := by
  have := grownCap_le_maxLen w (n + 1) c 21 (by unfold maxLen; omega)
  rw [← hG] at this
  unfold maxLen at this
  omega
 have hcA : ∀ (W : World), (∀ x, W.cell? x = W1.cell? x) → (∀ x, W.frozen? x = W1.frozen? x) → ∀ ty dc, (Builtin.copy_ #[63, 63] ty #[.slice (some ⟨w.heap.size, i, none⟩) (n + 1 - i) dc, .slice (some ⟨vb, voff, none⟩) 1 vc]).run Tryz.prog W = .ok (goInt 1) (W.setCells w.heap.size i [x]) := fun W hWc hWf ty dc =>
  run_copy_cells W _ _ ty 21 w.heap.size i (n + 1 - i) dc ⟨vb, voff, none⟩ 1 vc [x] Tryz.underlying63 hsz (by simp only [Nat.min_def, List.length_cons, List.length_nil]; split <;> omega)
   (fun j v hj => by
    have hj0 : j = 0 := by have := (List.getElem?_eq_some_iff.1 hj).1; simpa using this
    subst hj0
    simp at hj; subst hj
    rw [Addr.add_lit, hWc]
    exact hOv _ _ hvs)
   (fun j hj => by rw [hWc]; exact hN _ (by simp at hj; omega)) (fun j hj => by rw [hWf]; exact hNf _) (fun v hv => by simp at hv; subst hv; exact h1v)
 have hdl : (cs.drop i).length = n - i := by rw [List.length_drop, hcl]
 have hbN : b ≠ w.heap.size := by omega
 obtain ⟨W2, hW2⟩ : ∃ W2, W2 = W1.setCells w.heap.size i [x] := ⟨_, rfl⟩
 have hN2 : ∀ k, k < n + 1 → (W2.cell? ⟨w.heap.size, k, none⟩).isSome = true := fun k hk => by
  rw [hW2]
  by_cases hin : k = i
  ·subst hin
   have := World.cell?_setCells_in w.heap.size [x] k W1 (fun j hj => hN _ (by simp at hj; omega)) 0 (by simp)
   rw [Nat.add_zero] at this
   rw [this]; rfl
  ·rw [World.cell?_setCells_out w.heap.size _ _ _ ⟨w.heap.size, k, none⟩ (fun _ _ => by show k < i ∨ i + 1 ≤ k; omega)]
   exact hN k hk
 have hcB : ∀ (W : World), (∀ x, W.cell? x = W2.cell? x) → (∀ x, W.frozen? x = W2.frozen? x) → ∀ ty dc sc, (Builtin.copy_ #[63, 63] ty #[.slice (some ⟨w.heap.size, i + 1, none⟩) (n + 1 - (i + 1)) dc, .slice (some ⟨b, i, none⟩) (n - i) sc]).run Tryz.prog W = .ok (goInt (cs.drop i).length) (W.setCells w.heap.size (i + 1) (cs.drop i)) := fun W hWc hWf ty dc sc =>
  run_copy_cells W _ _ ty 21 w.heap.size (i + 1) (n + 1 - (i + 1)) dc ⟨b, i, none⟩ (n - i) sc (cs.drop i) Tryz.underlying63 hsz (by rw [hdl]; simp only [Nat.min_def]; split <;> omega)
   (fun j v hj => by
    rw [Addr.add_lit, hWc, hW2, World.cell?_setCells_out _ _ _ _ _ (fun h _ => absurd h hbN)]
    exact hOb _ v (hcs (i + j) v (by rwa [List.getElem?_drop] at hj)))
   (fun j hj => by rw [hWc]; exact hN2 _ (by omega)) (fun j hj => by rw [hWf, hW2, World.frozen?_setCells]; exact hNf _) (fun v hv => h1c v (List.mem_of_mem_drop hv))
 have mixed : Tryz.prog.follows .mixedOrders = true := by decide +kernel
 have hw1 : IntKind.i64.wrap ((i : Int) + 1) = (i : Int) + 1 := by rw [IntKind.wrap_i64]; omega
 have hb1 : (0 : Int) ≤ (i : Int) + 1 := by omega
 have hin : i ≤ n := by omega
 have htn : ((i : Int) + 1).toNat = i + 1 := by omega
 have hb3 : (i : Int) ≤ (n : Int) + 1 := by omega
 have hb5 : (i : Int) ≤ (n : Int) := by omega
 have hGi : ¬ (G = i) := by omega
 have hGim : ¬ (G = i + 1) := by omega
 have hci : ¬ (c = i) := by omega
 subst hW2 hW1
 have hE1 : ∀ x, ((w.alloc (.cells ROW 21)).drew).cell? x = (w.drew.alloc (.cells ROW 21)).cell? x := fun x => rfl
 have hE2 : ∀ x, ((w.alloc (.cells ROW 21)).drew).frozen? x = (w.drew.alloc (.cells ROW 21)).frozen? x := fun x => rfl
 have hF1 : ∀ y, (((w.alloc (.cells ROW 21)).drew.setCells w.heap.size i [x]).drew).cell? y = ((w.drew.alloc (.cells ROW 21)).setCells w.heap.size i [x]).cell? y := fun y => rfl
 have hF2 : ∀ y, (((w.alloc (.cells ROW 21)).drew.setCells w.heap.size i [x]).drew).frozen? y = ((w.drew.alloc (.cells ROW 21)).setCells w.heap.size i [x]).frozen? y := fun y => rfl
 clear hkk hold hROW hRl
 unfold yK
 go_enter Tryz.func120, Tryz.ntmps120
 go_wp2_with (first
  | (at_builtin; refine Lib.wpList_append_run _ rfl _ _ _ _ rfl _ _ rfl rfl _ _ (happ _) ?_)
  | (at_builtin; refine z4m rfl _ _ 63 63 rfl rfl rfl (hcA _ hE1 hE2 _ _) ?_))
 go_region_law_o (refine PV rfl _ _ 63 63 rfl (p := .slice (some ⟨w.heap.size, i + 1, none⟩) (n + 1 - (i + 1)) (G - (i + 1))) (q := .slice (some ⟨b, i, none⟩) (n - i) (c - i)) (by simp [Act.eval, Act.put] <;> omega) (by simp [Act.eval, Act.put] <;> omega) (hcB _ hF1 hF2 _ _ _) ?_)
 go_wp2
 go_ret
 exact ⟨rfl, rfl⟩
theorem vC (b : Nat) : ∀ (vs : List Value) (o : Nat) (w : World) {c : Array Value} {e : TypeId} {fz : Nat × Nat}, w.heap[b]? = some (.cells c e fz) →
  (∃ c', (w.setCells b o vs).heap[b]? = some (.cells c' e fz) ∧ c'.size = c.size ∧ ∀ j, j < c.size → c'[j]? = if o ≤ j ∧ j < o + vs.length then vs[j - o]? else c[j]?) ∧
  (∀ k, k ≠ b → (w.setCells b o vs).heap[k]? = w.heap[k]?) ∧ (w.setCells b o vs).heap.size = w.heap.size ∧ (w.setCells b o vs).os = w.os ∧ (w.setCells b o vs).tape = w.tape ∧ (w.setCells b o vs).output = w.output
 | [], o, w, c, e, fz, h => ⟨⟨c, h, rfl, fun j hj => by rw [if_neg]; simp⟩, fun _ _ => rfl, rfl, rfl, rfl, rfl⟩
 | v :: r, o, w, c, e, fz, h => by
  have hb : b < w.heap.size := (Array.getElem?_eq_some_iff.1 h).1
  have h1 : (w.setCell ⟨b, o, none⟩ v).heap[b]? = some (.cells (c.setIfInBounds o v) e fz) := by
   simp only [World.setCell, Array.getElem?_modify, if_pos, h, Option.map_some, Option.isSome_none, Bool.false_eq_true, if_false]
  obtain ⟨⟨c', q1, q2, q3⟩, q4, q5, q6, q7, q8⟩ := vC b r (o + 1) (w.setCell ⟨b, o, none⟩ v) h1
  refine ⟨⟨c', q1, by rw [q2]; simp, fun j hj => ?_⟩, fun k hk => ?_, ?_, q6, q7, q8⟩
  ·rw [q3 j (by simpa using hj)]
   by_cases hjo : j = o
   ·subst hjo
    rw [if_neg (by omega), if_pos (by simp)]
    simp [hj]
   ·by_cases hin : o + 1 ≤ j ∧ j < o + 1 + r.length
    ·rw [if_pos hin, if_pos (by simp; omega), show j - o = (j - (o + 1)) + 1 by omega]; simp
    ·rw [if_neg hin, if_neg (by simp; omega)]
     simp [Array.getElem?_setIfInBounds, Ne.symm hjo]
  ·rw [World.setCells, q4 k hk]
   simp only [World.setCell, Array.getElem?_modify]
   rw [if_neg (Ne.symm hk)]
  ·rw [World.setCells, q5]; simp [World.setCell]
end Go.AE
end
section
set_option linter.unusedSimpArgs false
set_option linter.unusedVariables false
namespace Go.AE
open Go.Proofs Go.Lib
def j0 (L : List Int) (i : Nat) (x : Int) : List Int := L.take i ++ x :: L.drop i
theorem z1b {w : World} {b : Nat} {c : Array Value} {e : TypeId} {fz : Nat × Nat} (h : w.heap[b]? = some (.cells c e fz)) : w.shape? b = some (e, c.size) := by
 simp [World.shape?, h]
theorem D6 {w : World} {F : Nat → Prop} {G : Gh} : ∀ {L : List Int} {vs : List Value}, aF w F G (L.map aB) vs → vs = L.map (Value.int .i32)
 | [], vs, h => by cases h; rfl
 | a :: L, vs, h => by
  cases h with
  | cons h1 h2 => rw [D6 h2]; cases h1; rfl
theorem E4 {w : World} {F : Nat → Prop} {G : Gh} : ∀ (L : List Int), aF w F G (L.map aB) (L.map (Value.int .i32))
 | [] => .nil
 | a :: L => .cons (.v _) (E4 L)
theorem zew (L : List Int) (i : Nat) (x : Int) (hi : i ≤ L.length) : (j0 L i x).length = L.length + 1 := by simp [j0]; omega
theorem SZ (L : List Int) (i : Nat) (x : Int) (hi : i ≤ L.length) (j : Nat) (hj : j < L.length + 1) :
  ((j0 L i x).map (Value.int .i32))[j]? = if j < i then (L.map (Value.int .i32))[j]? else if j = i then some (.int .i32 x) else (L.map (Value.int .i32))[j - 1]? := by
 simp only [j0, List.map_append, List.map_cons, List.map_take, List.map_drop]
 by_cases h1 : j < i
 ·rw [if_pos h1, List.getElem?_append_left (by simp; omega), List.getElem?_take_of_lt h1]
 ·rw [if_neg h1, List.getElem?_append_right (by simp; omega)]
  have e : ((L.map (Value.int .i32)).take i).length = i := by simp; omega
  rw [e]
  by_cases h2 : j = i
  ·subst h2; simp
  ·rw [if_neg h2, show j - i = (j - i - 1) + 1 by omega, List.getElem?_cons_succ, List.getElem?_drop, show i + (j - i - 1) = j - 1 by omega]
theorem zf1 (L : List Int) (i : Nat) (x : Int) (hi : i < L.length) (hL : L.length ≤ 1000000000) :
  eV Tryz.prog 120 [.arr 21 1 (L.map aB), .arr 21 1 [aB x]] [.ref 0 0 L.length, aA i, .ref 1 0 1] [.arr 21 1 ((j0 L i x).map aB), .arr 21 1 [aB x], .fence] (.ref 0 0 (L.length + 1)) := by
 refine ⟨⟨_, Tryz.func120, by decide +kernel, by decide +kernel⟩, fun w F g vs hR hr => ?_⟩
 obtain ⟨v0, v1, v2, rfl, h0, h1, h2⟩ : ∃ v0 v1 v2, vs = [v0, v1, v2] ∧ aH w F (g ++ [none]) (.ref 0 0 L.length) v0 ∧ aH w F (g ++ [none]) (aA i) v1 ∧ aH w F (g ++ [none]) (.ref 1 0 1) v2 := by
  cases hr with
  | cons h0 hr => cases hr with
   | cons h1 hr => cases hr with
    | cons h2 hr => cases hr; exact ⟨_, _, _, rfl, h0, h1, h2⟩
 cases h1
 have ho0 : obj ([Ob.arr 21 1 (L.map aB), .arr 21 1 [aB x]] ++ [Ob.fence]) 0 = .arr 21 1 (L.map aB) := rfl
 have ho1 : obj ([Ob.arr 21 1 (L.map aB), .arr 21 1 [aB x]] ++ [Ob.fence]) 1 = .arr 21 1 [aB x] := rfl
 obtain ⟨gg, us, hg, hv0, hown, hrs, hone, hsz⟩ := zD hR (id := 0) ho0 h0 (by simp)
 obtain ⟨gk, ks, hk, hv2, hown2, hrs2, hone2, hsz2⟩ := zD hR (id := 1) ho1 h2 (by simp)
 have hus := D6 hrs
 subst hus
 have hks := D6 (L := [x]) hrs2
 subst hks
 obtain ⟨M, rfl⟩ : ∃ M, gg = some M := by
  cases gg with
  | none =>
   rcases hown.2 with ⟨_, hn⟩ | ⟨_, _, _, h5, _⟩
   ·omega
   ·rw [hv0] at h5; simp [slv] at h5
  | some M => exact ⟨M, rfl⟩
 obtain ⟨K, rfl⟩ : ∃ M, gk = some M := by
  cases gk with
  | none =>
   rcases hown2.2 with ⟨_, hn⟩ | ⟨_, _, _, h5, _⟩
   ·cases hn
   ·rw [hv2] at h5; simp [slv] at h5
  | some M => exact ⟨M, rfl⟩
 have hM0 : M.o = 0 := by
  have := hR.obG hg
  obtain ⟨_, _, _, _, _, _, h5⟩ := this
  exact h5 M rfl
 rcases hown.2 with ⟨h5, _⟩ | ⟨gb, cap, cur, h5, _, hh, hn, hm, hs, ht⟩
 ·rw [hv0] at h5; simp [slv] at h5
 rw [hv0] at h5
 simp [slv] at h5
 obtain ⟨rfl, rfl⟩ := h5
 rcases hown2.2 with ⟨h5, _⟩ | ⟨gb, cap, kc, h5, _, hkh, hkn, hkm, hks, hkt⟩
 ·rw [hv2] at h5; simp [slv] at h5
 rw [hv2] at h5
 simp [slv] at h5
 obtain ⟨rfl, rfl⟩ := h5
 rw [hv0, hv2]
 have hKM : K.b ≠ M.b := fun e => by have := hR.inj 1 0 K M hk hg e; omega
 have hkx : w.cell? ⟨K.b, 0, none⟩ = some (.int .i32 x) := by
  have : (kc.toList.take (1 * 1))[0]? = some (Value.int .i32 x) := by rw [hkt]; rfl
  rw [List.getElem?_take_of_lt (by omega)] at this
  simp [World.cell?, hkh]; simpa using this
 have hcl : (L.map (Value.int .i32)).length = L.length := by simp
 have hcur : ∀ (j : Nat) (v : Value), (L.map (Value.int .i32))[j]? = some v → cur[j]? = some v := by
  intro j v hj
  have hlt : j < L.length := by have := (List.getElem?_eq_some_iff.1 hj).1; simpa using this
  rw [← ht, List.getElem?_take_of_lt (by omega)] at hj
  simpa using hj
 have hcs : ∀ (j : Nat) (v : Value), (L.map (Value.int .i32))[j]? = some v → w.cell? ⟨M.b, j, none⟩ = some v := fun j v hj => by
  simp [World.cell?, hh, hcur j v hj]
 have hil : (j0 L i x).length = L.length + 1 := zew L i x (by omega)
 have hdl : ((L.map (Value.int .i32)).drop i).length = L.length - i := by simp
 have hone' : ∀ u ∈ (j0 L i x).map (Value.int .i32), u.oneCell' = true := fun u hu => by
  obtain ⟨y, _, rfl⟩ := List.mem_map.1 hu; rfl
 have hMb := hR.live 0 M hg
 by_cases hroom : L.length + 1 ≤ M.cap
 ·have hsp : ∀ j, j < L.length + 1 → (w.cell? ⟨M.b, j, none⟩).isSome = true := fun j hj => by
   simp only [World.cell?, hh]
   rw [Array.getElem?_eq_getElem (by omega)]; rfl
  have hfz : ∀ j, j < L.length + 1 → w.frozen? ⟨M.b, j, none⟩ = false := fun j hj => by simp [World.frozen?, hh]
  refine (zez M.b L.length M.cap i K.b 0 K.cap _ (.int .i32 x) w hi hroom (by unfold maxLen at hm; omega) hKM hcl hcs hsp hfz hkx hone rfl 21 21 kc.size cur.size (z1b hkh) (z1b hh) (by omega) ?_ ?_).mono ?_
  ·simp [World.frozen?, hkh]
  ·simp [World.frozen?, hkh]
  ·rintro e w' ⟨rfl, rfl⟩
   obtain ⟨⟨c1, a1, a2, a3⟩, a4, a5, a6, a7, a8⟩ := vC M.b ((L.map (Value.int .i32)).drop i) (i + 1) w.drew (c := cur) hh
   obtain ⟨⟨c2, b1, b2, b3⟩, b4, b5, b6, b7, b8⟩ := vC M.b [Value.int .i32 x] i _ a1
   have hR' := hR.grow (.drew w)
   have hown' : ((w.drew.setCells M.b (i + 1) ((L.map (Value.int .i32)).drop i)).setCells M.b i [Value.int .i32 x]).ownsRow 0 21 1 (slv (some M) (L.length + 1)) (L.length + 1) ((j0 L i x).map (Value.int .i32)) := by
    refine ⟨by simp [hil], .inr ⟨M.b, M.cap, c2, rfl, Nat.zero_le _, b1, hroom, hm, by omega, ?_⟩⟩
    apply List.ext_getElem?
    intro j
    by_cases hj : j < L.length + 1
    ·rw [List.getElem?_take_of_lt (by omega), Array.getElem?_toList, b3 j (by omega), SZ L i x (by omega) j hj]
     by_cases h1 : j < i
     ·rw [if_neg (by omega), if_pos h1, a3 j (by omega), if_neg (by omega)]
      have : j < (L.map (Value.int .i32)).length := by simp; omega
      rw [hcur j _ (List.getElem?_eq_getElem this), List.getElem?_eq_getElem this]
     ·rw [if_neg h1]
      by_cases h2 : j = i
      ·subst h2; rw [if_pos (by simp), if_pos rfl]; simp
      ·rw [if_neg h2, if_neg (by simp; omega), a3 j (by omega), if_pos (by omega), List.getElem?_drop, show i + (j - (i + 1)) = j - 1 by omega]
    ·rw [List.getElem?_eq_none (by simp; omega), List.getElem?_eq_none (by simp [hil]; omega)]
   have hfin := hR'.turn (w' := (w.drew.setCells M.b (i + 1) ((L.map (Value.int .i32)).drop i)).setCells M.b i [Value.int .i32 x]) hg (o := .arr 21 1 ((j0 L i x).map aB)) (b6.trans a6) (b7.trans a7) (b8.trans a8) (b5.trans a5)
    (fun k hk => (b4 k hk).trans (a4 k hk)) ⟨L.length + 1, _, hown', E4 _, hone', by omega, fun L' hL' => by simp at hL'; subst hL'; exact hM0⟩ hMb.2.2
    (fun r hr e => by
     rcases hMb.2.2 with h3 | ⟨_, h3⟩
     ·have := hMb.2.1; omega
     ·exact absurd e (h3 r hr)) (fun q => by cases q)
   refine ⟨_, _, _, rfl, hfin, ?_⟩
   have := aH.ref (w := (w.drew.setCells M.b (i + 1) ((L.map (Value.int .i32)).drop i)).setCells M.b i [Value.int .i32 x]) (F := F) (off := 0) (len := L.length + 1) (cap := M.cap) hg (fun _ => rfl) hroom
   rw [hM0] at this
   exact this
 ·refine (zex M.b L.length M.cap i K.b 0 K.cap _ (.int .i32 x) w hi hn (by omega) (by omega) hcl hcs hkx hone rfl).mono ?_
  rintro e w' ⟨rfl, rfl⟩
  have hG1 := grownCap_ge w (L.length + 1) M.cap 21
  have hG2 := grownCap_le_maxLen w (L.length + 1) M.cap 21 (by unfold maxLen; omega)
  generalize hGG : grownCap w (L.length + 1) M.cap 21 = GG at *
  have hROWsz : (((L.map (Value.int .i32)).take i).toArray ++ Builtin.zeroCells (Value.int .i32 0).cells (L.length + 1 - i) ++ Builtin.zeroCells (Value.int .i32 0).cells (GG - (L.length + 1))).size = GG := by
   simp [Builtin.zeroCells, Value.cells]; omega
  have hROWlt : ∀ (j : Nat), j < i → (((L.map (Value.int .i32)).take i).toArray ++ Builtin.zeroCells (Value.int .i32 0).cells (L.length + 1 - i) ++ Builtin.zeroCells (Value.int .i32 0).cells (GG - (L.length + 1)))[j]? = (L.map (Value.int .i32))[j]? := by
   intro j hj
   rw [Array.append_assoc, Array.getElem?_append_left (by simp; omega)]
   simp only [List.getElem?_toArray]
   rw [List.getElem?_take_of_lt hj]
  generalize (((L.map (Value.int .i32)).take i).toArray ++ Builtin.zeroCells (Value.int .i32 0).cells (L.length + 1 - i) ++ Builtin.zeroCells (Value.int .i32 0).cells (GG - (L.length + 1))) = ROW at *
  have hnew : ((w.alloc (.cells ROW 21)).drew).heap[w.heap.size]? = some (.cells ROW 21 (0, 0)) := by
   have := pL w (.cells ROW 21)
   exact this
  obtain ⟨⟨c1, a1, a2, a3⟩, a4, a5, a6, a7, a8⟩ := vC w.heap.size [Value.int .i32 x] i _ hnew
  obtain ⟨⟨c2, b1, b2, b3⟩, b4, b5, b6, b7, b8⟩ := vC w.heap.size ((L.map (Value.int .i32)).drop i) (i + 1) (((w.alloc (.cells ROW 21)).drew.setCells w.heap.size i [Value.int .i32 x]).drew) (c := c1) a1
  have hsize : (w.alloc (.cells ROW 21)).heap.size = w.heap.size + 1 := by simp
  have hgrow : d7 w ((((w.alloc (.cells ROW 21)).drew.setCells w.heap.size i [Value.int .i32 x]).drew).setCells w.heap.size (i + 1) ((L.map (Value.int .i32)).drop i)) := by
   refine ⟨b6.trans a6, b7.trans a7, b8.trans a8, ?_, fun k hk => ?_⟩
   ·rw [b5]
    show w.heap.size ≤ ((w.alloc (.cells ROW 21)).drew.setCells w.heap.size i [Value.int .i32 x]).heap.size
    rw [a5]
    show w.heap.size ≤ (w.alloc (.cells ROW 21)).heap.size
    omega
   ·rw [b4 k (by omega)]
    show ((w.alloc (.cells ROW 21)).drew.setCells w.heap.size i [Value.int .i32 x]).heap[k]? = _
    rw [a4 k (by omega)]
    exact (d7.alloc w (.cells ROW 21)).block k hk
  have hsz2' : w.heap.size < ((((w.alloc (.cells ROW 21)).drew.setCells w.heap.size i [Value.int .i32 x]).drew).setCells w.heap.size (i + 1) ((L.map (Value.int .i32)).drop i)).heap.size := by
   rw [b5]
   show w.heap.size < ((w.alloc (.cells ROW 21)).drew.setCells w.heap.size i [Value.int .i32 x]).heap.size
   rw [a5]
   show w.heap.size < (w.alloc (.cells ROW 21)).heap.size
   omega
  generalize ((((w.alloc (.cells ROW 21)).drew.setCells w.heap.size i [Value.int .i32 x]).drew).setCells w.heap.size (i + 1) ((L.map (Value.int .i32)).drop i)) = w' at *
  have hown' : w'.ownsRow 0 21 1 (slv (some ⟨w.heap.size, 0, GG⟩) (L.length + 1)) (L.length + 1) ((j0 L i x).map (Value.int .i32)) := by
   refine ⟨by simp [hil], .inr ⟨w.heap.size, GG, c2, rfl, Nat.zero_le _, b1, hG1, hG2, by omega, ?_⟩⟩
   apply List.ext_getElem?
   intro j
   by_cases hj : j < L.length + 1
   ·rw [List.getElem?_take_of_lt (by omega), Array.getElem?_toList, b3 j (by omega), SZ L i x (by omega) j hj]
    by_cases h1 : j < i
    ·rw [if_neg (by omega), if_pos h1, a3 j (by omega), if_neg (by omega)]
     exact hROWlt j h1
    ·rw [if_neg h1]
     by_cases h2 : j = i
     ·subst h2; rw [if_neg (by omega), if_pos rfl, a3 j (by omega), if_pos (by simp)]; simp
     ·rw [if_neg h2, if_pos (by omega), List.getElem?_drop, show i + (j - (i + 1)) = j - 1 by omega]
   ·rw [List.getElem?_eq_none (by simp; omega), List.getElem?_eq_none (by simp [hil]; omega)]
  have hgl : 0 < (g ++ [none]).length := by simp
  have hren := hR.renew hg (o := .arr 21 1 ((j0 L i x).map aB)) (g' := some ⟨w.heap.size, 0, GG⟩) hgrow ⟨L.length + 1, _, hown', E4 _, hone', by omega, fun L' hL' => by simp at hL'; subst hL'; rfl⟩
   (fun L' hL' => by simp at hL'; subst hL'; exact ⟨Nat.le_refl _, hsz2'⟩) rfl (by intro q; cases q)
  refine ⟨_, _, _, rfl, hren, ?_⟩
  have hnw : ((g ++ [none]).set 0 (some ⟨w.heap.size, 0, GG⟩))[0]? = some (some ⟨w.heap.size, 0, GG⟩) := by simp
  exact aH.ref (w := w') (F := F) (off := 0) (len := L.length + 1) (cap := GG) hnw (fun _ => rfl) hG1
set_option maxRecDepth 20000 in
theorem zf0 (L : List Int) (x : Int) (hL : L.length ≤ 1000000000) :
  eV Tryz.prog 120 [.arr 21 1 (L.map aB), .arr 21 1 [aB x]] [.ref 0 0 L.length, aA L.length, .ref 1 0 1] [.arr 21 1 ((j0 L L.length x).map aB), .arr 21 1 [aB x], .fence] (.ref 0 0 (L.length + 1)) := by
 have e : j0 L L.length x = L ++ [x] := by simp [j0]
 rw [e]
 refine jV (ts := [.tmp 6]) bZ Tryz.func120 rfl rfl (by decide +kernel) (by simp [Tryz.ntmps120]) rfl ?_
 repeat' first | simp (maxSteps := 4000000) (disch := omega) only [aZ, aY, bun, ↓aW, ↓aV, aO, findLabel, ↓reduceIte, imp, shift, aR, aJ, unown, names, aQ, below, aD, aC, aT, aU, aS, ren, aN, aP, aX, renO, belowM, seval, -Int.reduceToNat, List.map_append, bT, b9] | refine bA _ ?_ | refine fkx ?_ tru <;> intro hg | refine fkx ?_ ?_ <;> intro hg | exact fkx tru tru | refine And.intro (by omega) ?_ | omega
 all_goals simp
theorem T2 (L : List Int) (i : Nat) (x : Int) (hi : i ≤ L.length) (hL : L.length ≤ 1000000000) :
  eV Tryz.prog 120 [.arr 21 1 (L.map aB), .arr 21 1 [aB x]] [.ref 0 0 L.length, aA i, .ref 1 0 1] [.arr 21 1 ((j0 L i x).map aB), .arr 21 1 [aB x], .fence] (.ref 0 0 (L.length + 1)) := by
 rcases Nat.lt_or_ge i L.length with h | h
 ·exact zf1 L i x h hL
 ·have e : i = L.length := by omega
  subst e
  exact zf0 L x hL
end Go.AE
-- types: B0 B3 B4 B63
end
section
namespace Go.AE
open Go.Proofs
set_option maxRecDepth 20000
set_option maxHeartbeats 4000000
set_option linter.unusedSimpArgs false
theorem E1 (l : List Int) (hl : l.length ≤ 1000) : aG Tryz.prog 55 [.sl l.length (l.map aB)] (.tup [Sv (fJ l), Bv (bW l)]) := by
 refine sp [.tmp 2, .tmp 3] Tryz.func55 Tryz.ntmps55 ?_
 refine dY tru ?_ tru tru <;> intros
 refine bL (fun i : Nat => ⟨[(0, .sl l.length (l.map aB)), (4, Sv (cH (l.take i))), (5, aA (cH (l.take i)).length), (6, aA i)], []⟩) (fun i => i ≤ l.length ∧ (l.take i).all right = true) (fun i => l.length - i) 0 (by simp) (by (simp (disch := omega) [wk, aL, aI, aD, aC, get, aK, belowM, below, belows, aA, aB, Bv, U8, Sv, cH] <;> try omega)) ?_
 rintro i ⟨hi, hr⟩
 have hpi := XU l i
 by_cases hlt : i < l.length
 ·have hp := XT l i hlt
  have ht := gB l i 0 hlt
  cases hgr : right (l.getD i 0) with
  | false =>
   have hb := AA hlt hgr
   (have := @qA; refine dY hgr ?_ tru tru <;> intros)
   simp [fJ, hb]
  | true =>
   have hgr' := (lU _).1 hgr
   have hr' : (l.take (i + 1)).all right = true := by rw [ht, List.all_append, hr]; simp only [List.all_cons, List.all_nil, hgr]; rfl
   obtain ⟨r, hrr⟩ : ∃ r, l.getD i 0 = r := ⟨_, rfl⟩
   rw [hrr] at hgr hgr' hp ht
   (have := @qA; refine dY (And.intro hrr hgr) ?_ ?_ tru <;> intros)
   ·refine ⟨i + 1, ⟨by omega, hr'⟩, by omega, ?_⟩
    rw [hp, if_pos (by omega)]
    (simp (disch := omega) [wk, aL, aI, aD, aC, get, aK, belowM, below, belows, aA, aB, Bv, U8, Sv, cR] <;> try omega)
   ·refine ⟨i + 1, ⟨by omega, hr'⟩, by omega, ?_⟩
    rw [hp, if_neg (by omega)]
    (simp (disch := omega) [wk, aL, aI, aD, aC, get, aK, belowM, below, belows, aA, aB, Bv, U8, Sv, List.append_nil] <;> try omega)
 ·have e : i = l.length := by omega
  subst e
  rw [List.take_length] at *
  have hok : bW l = true := hr
  have hR := z1w hok
  have hS : fJ l = oM l := by simp [fJ, hok]
  rw [hok, hS]
  have hpl := zO l
  have hpc := zP l
  refine dY tru ?_ ?_ tru <;> intros
  all_goals
   refine bL (fun x : Nat × Int × gC => ⟨[(0, .sl l.length (l.map aB)), (4, Sv x.2.2.out), (5, aA (cH l).length), (7, aA x.2.1), (8, aA x.2.2.delta), (9, aA x.2.2.bias), (10, aA x.2.2.h)], []⟩)
    (fun x => rX l x.2.1 x.2.2 ∧ (l.length : Int) < x.1 + x.2.2.h ∧ enF l (cH l).length x.1 x.2.1 x.2.2 = oM l) (fun x => x.1) (l.length + 1, 128, ⟨iS l, 0, 72, (cH l).length⟩)
    (by
     refine ⟨⟨by dsimp only; omega, by dsimp only; omega, Int.le_refl 0, by simp, by dsimp only; omega, by dsimp only; omega, by dsimp only; omega, ?_⟩, by dsimp only; omega, rfl⟩
     dsimp only [iS]; split <;> (try simp only [List.length_append, List.length_cons, List.length_nil]) <;> omega) ?_ ?_
   ·first
    | (have hh : iS l = cH l ++ [45] := by unfold iS; rw [if_pos (by omega)])
    | (have hh : iS l = cH l := by unfold iS; rw [if_neg (by omega)])
    (simp (disch := omega) [wk, aL, aI, aD, aC, get, aK, belowM, below, belows, aA, aB, Bv, U8, Sv, hh] <;> try omega)
   ·rintro ⟨f, n, ⟨out, delta, bias, h⟩⟩ ⟨hI, hf, hv⟩
    dsimp only at hI hf hv
    have hn0 := hI.n0
    have hn1 := hI.n1
    have hd0 := hI.d0
    have hb0 := hI.b0
    have hb1 := hI.b1
    have hhh := hI.hh
    have hlen := hI.len
    dsimp only at hd0 hb0 hb1 hhh hlen
    by_cases hlt : h < l.length
    ·obtain ⟨h1, h2, hJ, hc1, hc2, hm, hpos⟩ := hI.first (fun r hr => (hR r hr).2) (by omega) hlt
     dsimp only at hJ hc1 hc2 hpos
     obtain ⟨f, rfl⟩ : ∃ g, f = g + 1 := ⟨f - 1, by omega⟩
     rw [enF, if_pos hlt] at hv
     dsimp only at hv
     have hnm := h1.2.1
     generalize hmm : nxt l n = m at *
     generalize hpp : (m - n) * (h + 1) = p at *
     refine dY tru ?_ tru tru <;> intros
     refine bL (fun i : Nat => ⟨[(0, .sl l.length (l.map aB)), (4, Sv out), (5, aA (cH l).length), (7, aA n), (8, aA delta), (9, aA bias), (10, aA h), (11, aA ((l.take i).foldl (fun m r => if n ≤ r ∧ r < m then r else m) 1114112)), (12, aA i)], []⟩) (fun i => i ≤ l.length) (fun i => l.length - i) 0 (by simp) bN ?_
     intro i hi
     by_cases hil : i < l.length
     ·have hs := v6 (fun m r => if n ≤ r ∧ r < m then r else m) 1114112 l i 0 hil
      generalize (l.take i).foldl (fun m r => if n ≤ r ∧ r < m then r else m) 1114112 = o at *
      have hrb := hR (l.getD i 0) (by simp [List.getD, hil])
      refine dY tru ?_ ?_ ?_ <;> intros
      all_goals
       refine ⟨i + 1, by omega, by omega, ?_⟩
       rw [hs]
       first
       | rw [if_pos (by omega)]
       | rw [if_neg (by omega)]
       (simp (disch := omega) [wk, aL, aI, aD, aC, get, aK, belowM, below, belows, aA, aB, Bv, U8, Sv, ] <;> try omega)
     have e : i = l.length := by omega
     subst e
     have hrx : (l.take l.length).foldl (fun m r => if n ≤ r ∧ r < m then r else m) 1114112 = m := by rw [List.take_length]; exact h2
     rw [hrx]
     refine dY hpp ?_ tru tru <;> intros
     refine bL (fun x : Nat × gC => ⟨[(0, .sl l.length (l.map aB)), (4, Sv x.2.out), (5, aA (cH l).length), (7, aA m), (8, aA x.2.delta), (9, aA x.2.bias), (10, aA x.2.h), (13, aA x.1)], []⟩)
      (fun x => nA l m ⟨out, delta + p, bias, h⟩ x.1 x.2 ∧ x.1 ≤ l.length) (fun x => l.length - x.1) (0, ⟨out, delta + p, bias, h⟩) ⟨hJ, by dsimp only; omega⟩ bN ?_
     rintro ⟨j, ⟨out1, delta1, bias1, h1'⟩⟩ ⟨hJ1, hj⟩
     dsimp only at hJ1 hj
     have hroom : h + l.countP (· == m) ≤ l.length := by
      have := sI (l := l) (n := n) (m := m) h1.2.2 h1.2.1
      have := List.countP_le_length (p := fun x : Int => decide (x < m + 1)) (l := l)
      omega
     have hd0' := hJ1.d0
     have hd1' := hJ1.d1
     have hb0' := hJ1.b0
     have hb1' := hJ1.b1
     have hhl := hJ1.hl
     have hlen' := hJ1.len
     have hh' := hJ1.hh
     have hh0 := hJ1.h0
     dsimp only at hd0' hd1' hb0' hb1' hhl hlen' hh' hh0
     by_cases hjl : j < l.length
     ·have hN := hJ1.next hjl (by dsimp only; omega) hroom
      have hwl := FX delta1 bias1
      obtain ⟨r, hrr⟩ : ∃ r, l.getD j 0 = r := ⟨_, rfl⟩
      rw [hrr] at hN
      have hrb := hR (l.getD j 0) (by simp [List.getD, hjl])
      rw [hrr] at hrb
      (have := zbl delta1 bias1 (by omega) (by omega) (by omega) (by omega); have := @rH; refine dY hrr ?_ ?_ ?_ <;> intros)
      ·have e : iA m (cH l).length ⟨out1, delta1, bias1, h1'⟩ r = ⟨out1, delta1 + 1, bias1, h1'⟩ := by unfold iA; rw [if_pos (by omega)]
       rw [e] at hN
       exact ⟨(j + 1, _), ⟨hN, by dsimp only; omega⟩, by dsimp only; omega, bN⟩
      ·have e : iA m (cH l).length ⟨out1, delta1, bias1, h1'⟩ r = ⟨out1 ++ wr delta1 bias1, 0, adapt delta1 (h1' + 1) (h1' == ((cH l).length : Int)), h1' + 1⟩ := by unfold iA; rw [if_neg (by omega), if_pos (by omega)]
       rw [e] at hN
       exact ⟨(j + 1, _), ⟨hN, by dsimp only; omega⟩, by dsimp only; omega, bN⟩
      ·have e : iA m (cH l).length ⟨out1, delta1, bias1, h1'⟩ r = ⟨out1, delta1, bias1, h1'⟩ := by unfold iA; rw [if_neg (by omega), if_neg (by omega)]
       rw [e] at hN
       exact ⟨(j + 1, _), ⟨hN, by dsimp only; omega⟩, by dsimp only; omega, bN⟩
     ·have ej : j = l.length := by omega
      subst ej
      obtain ⟨hL, hgt⟩ := hJ1.last h1 hn0 hm hhh hc1
      dsimp only at hL hgt
      have heq := hJ1.eq
      rw [List.take_length] at heq
      refine dY tru ?_ tru tru <;> intros
      refine ⟨(f, m + 1, ⟨out1, delta1 + 1, bias1, h1'⟩), ⟨hL, by dsimp only; omega, ?_⟩, by dsimp only; omega, bN⟩
      rw [← hv]
      unfold pE
      rw [← heq]
    ·have hv' : out = oM l := by
      rw [← hv]
      cases f with
      | zero => rfl
      | succ f => rw [enF, if_neg hlt]
     refine dY tru ?_ tru tru <;> intros
     rw [hv']
end Go.AE
-- types: B0 B3 B4 B5 B9 B21 B63 B84
end
section
namespace Go.AE
open Go.Proofs
set_option maxRecDepth 20000
set_option maxHeartbeats 4000000
set_option linter.unusedSimpArgs false
def nO : Option (Int × List UInt8) → AV
 | none => .tup [aA (-1), Sv []]
 | some (d, r) => .tup [aA d, Sv r]
def oQ (n : Nat) : Option (Int × List UInt8) → AV
 | none => .tup [aA 0, aA 0]
 | some (d, r) => .tup [aA d, aA (n - r.length)]
theorem nP (s : List UInt8) (b : Int) (hs : s.length ≤ 100000) (h2 : -1000000 ≤ b) (h3 : b ≤ 1000000) : aG Tryz.prog 119 [Sv s, aA b] (nO (rd s b)) := by
 refine sp [.tmp 4, .tmp 5] Tryz.func119 Tryz.ntmps119 ?_
 refine dY tru ?_ tru tru <;> intros
 refine bL (fun x : Nat × Int × Int => ⟨[(0, Sv s), (1, aA b), (6, aA x.2.1), (7, aA x.2.2), (13, aA s.length), (14, aA x.1)], []⟩)
  (fun x => x.1 ≤ s.length ∧ 0 ≤ x.2.1 ∧ x.2.1 ≤ 2147483647 ∧ 1 ≤ x.2.2 ∧ x.2.2 ≤ 75161927645 ∧ rd s b = kW b (s.drop x.1) (36 * (x.1 + 1)) x.2.1 x.2.2) (fun x => s.length - x.1) (0, 0, 1) ⟨by dsimp only; omega, by dsimp only; omega, by dsimp only; omega, by dsimp only; omega, by dsimp only; omega, rfl⟩ bN ?_
 rintro ⟨k, n, w⟩ ⟨hk, hn0, hn1, hw0, hw1, hv⟩
 dsimp only at hk hn0 hn1 hw0 hw1 hv
 have ht := AD (36 * (k + 1)) b
 by_cases hlt : k < s.length
 ·have hs0 : 0 < (s.drop k).length := by simp; omega
  have hg0 : (s.drop k).getD 0 0 = s.getD k 0 := by simp [List.getD]
  have hc := iO (s.getD k 0)
  have hvl := FV (s.getD k 0).toNat
  have hp0 : 0 ≤ vl (s.getD k 0).toNat * w := Int.mul_nonneg hvl.1 (by omega)
  have hp1 : w ≤ 2147483647 → vl (s.getD k 0).toNat * w ≤ 75161927645 := fun h => by
   have := Int.mul_le_mul hvl.2 h (by omega) (by omega)
   omega
  have hq1 : 1 ≤ w * (36 - thr (36 * (k + 1)) b) := by
   have := Int.mul_le_mul (a := 1) (b := 1) (c := w) (d := 36 - thr (36 * (k + 1)) b) hw0 (by omega) (by omega) (by omega)
   omega
  have hq2 : w ≤ 2147483647 → w * (36 - thr (36 * (k + 1)) b) ≤ 75161927645 := fun h => by
   have := Int.mul_le_mul h (show 36 - thr (36 * (k + 1)) b ≤ 35 by omega) (by omega) (by omega)
   omega
  have e1 := ZH (b := b) (k := 36 * (k + 1)) (n := n) (w := w) hs0
  have e2 := ZI (b := b) (k := 36 * (k + 1)) (n := n) (w := w) hs0
  have e3 := ZG (b := b) (k := 36 * (k + 1)) (n := n) (w := w) hs0
  rw [hg0] at e1 e2 e3
  rw [List.drop_drop] at e1 e2
  generalize htt : thr (36 * (k + 1)) b = t at *
  generalize hvv : vl (s.getD k 0).toNat = v at *
  generalize hpp : v * w = p at *
  generalize hqq : w * (36 - t) = q at *
  cases hok : o6 (s.getD k 0).toNat with
  | false =>
   have e := e3 (by rw [hok]; simp)
   (have := @wX; have := @rS; refine dY (And.intro hok (And.intro hvv hpp)) ?_ tru tru <;> intros)
   rw [hv, e]; rfl
  | true =>
   rw [hok] at e1 e2 e3
   by_cases hw : w ≤ 2147483647
   ·have hp1 := hp1 hw
    have hq2 := hq2 hw
    by_cases hn : n + p ≤ 2147483647
    ·by_cases hd : v < t
     ·have e := e1 ⟨rfl, hw, hn⟩ hd
      repeat' first | refine aM (wX _ (by omega) (by omega)) ?_ ?_ | refine aM (rS _ _ (by omega) (by omega) (by omega) (by omega)) ?_ ?_ | simp (maxSteps := 4000000) (disch := omega) only [aZ, aY, bun, ↓aW, ↓aV, aO, findLabel, ↓reduceIte, imp, shift, aR, aJ, unown, names, aQ, below, aD, aC, aT, aU, aS, ren, aN, aP, aX, renO, belowM, seval, -Int.reduceToNat, hok, hvv, hpp, htt, bT, b9, eQ, f8, f7] | exact bH _ | refine bG _ _ ?_ | exact bC.cl | refine bE _ ?_ | refine bF _ _ ?_ ?_ | refine bA _ ?_ | refine fkx ?_ tru <;> intro hg | refine fkx ?_ ?_ <;> intro hg | exact fkx tru tru | refine And.intro (by omega) ?_ | omega
      rw [hv, e]
      have e5 : ((k : Int) + 1).toNat = k + 1 := by omega
      rw [e5]; rfl
     ·have e := e2 ⟨rfl, hw, hn⟩ hd
      repeat' first | refine aM (wX _ (by omega) (by omega)) ?_ ?_ | refine aM (rS _ _ (by omega) (by omega) (by omega) (by omega)) ?_ ?_ | simp (maxSteps := 4000000) (disch := omega) only [aZ, aY, bun, ↓aW, ↓aV, aO, findLabel, ↓reduceIte, imp, shift, aR, aJ, unown, names, aQ, below, aD, aC, aT, aU, aS, ren, aN, aP, aX, renO, belowM, seval, -Int.reduceToNat, hok, hvv, hpp, htt, hqq, bT, b9, eQ, f8, f7] | exact bH _ | refine bG _ _ ?_ | exact bC.cl | refine bE _ ?_ | refine bF _ _ ?_ ?_ | refine bA _ ?_ | refine fkx ?_ tru <;> intro hg | refine fkx ?_ ?_ <;> intro hg | exact fkx tru tru | refine And.intro (by omega) ?_ | omega
      refine ⟨(k + 1, n + p, q), ⟨by dsimp only; omega, by dsimp only; omega, by dsimp only; omega, by dsimp only; omega, by dsimp only; omega, ?_⟩, by dsimp only; omega, bN⟩
      rw [hv, e]
      congr 1 <;> omega
    ·have e := e3 (by intro h; omega)
     (have := @wX; have := @rS; refine dY (And.intro hok (And.intro hvv hpp)) ?_ tru tru <;> intros)
     rw [hv, e]; rfl
   ·have e := e3 (by intro h; omega)
    (have := @wX; have := @rS; refine dY (And.intro hok (And.intro hvv hpp)) ?_ tru tru <;> intros)
    rw [hv, e]; rfl
 ·have e : k = s.length := by omega
  subst e
  rw [List.drop_length] at hv
  refine dY tru ?_ tru tru <;> intros
  rw [hv]; rfl
theorem nL (s : List UInt8) (b : Int) (hs : s.length ≤ 100000) (h2 : -1000000 ≤ b) (h3 : b ≤ 1000000) : aG Tryz.prog 91 [Sv s, aA b] ((oQ s.length) (rd s b)) := by
 refine sp [.tmp 4, .tmp 5] Tryz.func91 Tryz.ntmps91 ?_
 refine dY tru ?_ tru tru <;> intros
 refine bL (fun x : Nat × Int × Int => ⟨[(0, Sv s), (1, aA b), (6, aA x.2.1), (7, aA x.2.2), (8, aA x.1)], []⟩)
  (fun x => x.1 ≤ s.length ∧ 0 ≤ x.2.1 ∧ x.2.1 ≤ 2147483647 ∧ 1 ≤ x.2.2 ∧ x.2.2 ≤ 75161927645 ∧ rd s b = kW b (s.drop x.1) (36 * (x.1 + 1)) x.2.1 x.2.2) (fun x => s.length - x.1) (0, 0, 1) ⟨by dsimp only; omega, by dsimp only; omega, by dsimp only; omega, by dsimp only; omega, by dsimp only; omega, rfl⟩ bN ?_
 rintro ⟨k, n, w⟩ ⟨hk, hn0, hn1, hw0, hw1, hv⟩
 dsimp only at hk hn0 hn1 hw0 hw1 hv
 have ht := AD (36 * (k + 1)) b
 by_cases hlt : k < s.length
 ·have hs0 : 0 < (s.drop k).length := by simp; omega
  have hg0 : (s.drop k).getD 0 0 = s.getD k 0 := by simp [List.getD]
  have hc := iO (s.getD k 0)
  have hvl := FV (s.getD k 0).toNat
  have hp0 : 0 ≤ vl (s.getD k 0).toNat * w := Int.mul_nonneg hvl.1 (by omega)
  have hp1 : w ≤ 2147483647 → vl (s.getD k 0).toNat * w ≤ 75161927645 := fun h => by
   have := Int.mul_le_mul hvl.2 h (by omega) (by omega)
   omega
  have hq1 : 1 ≤ w * (36 - thr (36 * (k + 1)) b) := by
   have := Int.mul_le_mul (a := 1) (b := 1) (c := w) (d := 36 - thr (36 * (k + 1)) b) hw0 (by omega) (by omega) (by omega)
   omega
  have hq2 : w ≤ 2147483647 → w * (36 - thr (36 * (k + 1)) b) ≤ 75161927645 := fun h => by
   have := Int.mul_le_mul h (show 36 - thr (36 * (k + 1)) b ≤ 35 by omega) (by omega) (by omega)
   omega
  have e1 := ZH (b := b) (k := 36 * (k + 1)) (n := n) (w := w) hs0
  have e2 := ZI (b := b) (k := 36 * (k + 1)) (n := n) (w := w) hs0
  have e3 := ZG (b := b) (k := 36 * (k + 1)) (n := n) (w := w) hs0
  rw [hg0] at e1 e2 e3
  rw [List.drop_drop] at e1 e2
  generalize htt : thr (36 * (k + 1)) b = t at *
  generalize hvv : vl (s.getD k 0).toNat = v at *
  generalize hpp : v * w = p at *
  generalize hqq : w * (36 - t) = q at *
  cases hok : o6 (s.getD k 0).toNat with
  | false =>
   have e := e3 (by rw [hok]; simp)
   (have := @wP; have := @rO; refine dY (And.intro hok (And.intro hvv hpp)) ?_ tru tru <;> intros)
   rw [hv, e]; rfl
  | true =>
   rw [hok] at e1 e2 e3
   by_cases hw : w ≤ 2147483647
   ·have hp1 := hp1 hw
    have hq2 := hq2 hw
    by_cases hn : n + p ≤ 2147483647
    ·by_cases hd : v < t
     ·have e := e1 ⟨rfl, hw, hn⟩ hd
      repeat' first | refine aM (wP _ (by omega) (by omega)) ?_ ?_ | refine aM (rO _ _ (by omega) (by omega) (by omega) (by omega)) ?_ ?_ | simp (maxSteps := 4000000) (disch := omega) only [aZ, aY, bun, ↓aW, ↓aV, aO, findLabel, ↓reduceIte, imp, shift, aR, aJ, unown, names, aQ, below, aD, aC, aT, aU, aS, ren, aN, aP, aX, renO, belowM, seval, -Int.reduceToNat, hok, hvv, hpp, htt, bT, b9, eQ, f8, f7] | exact bH _ | refine bG _ _ ?_ | exact bC.cl | refine bE _ ?_ | refine bF _ _ ?_ ?_ | refine bA _ ?_ | refine fkx ?_ tru <;> intro hg | refine fkx ?_ ?_ <;> intro hg | exact fkx tru tru | refine And.intro (by omega) ?_ | omega
      rw [hv, e]
      simp only [oQ, List.length_drop]
      congr 3; unfold aA; congr 2; omega
     ·have e := e2 ⟨rfl, hw, hn⟩ hd
      repeat' first | refine aM (wP _ (by omega) (by omega)) ?_ ?_ | refine aM (rO _ _ (by omega) (by omega) (by omega) (by omega)) ?_ ?_ | simp (maxSteps := 4000000) (disch := omega) only [aZ, aY, bun, ↓aW, ↓aV, aO, findLabel, ↓reduceIte, imp, shift, aR, aJ, unown, names, aQ, below, aD, aC, aT, aU, aS, ren, aN, aP, aX, renO, belowM, seval, -Int.reduceToNat, hok, hvv, hpp, htt, hqq, bT, b9, eQ, f8, f7] | exact bH _ | refine bG _ _ ?_ | exact bC.cl | refine bE _ ?_ | refine bF _ _ ?_ ?_ | refine bA _ ?_ | refine fkx ?_ tru <;> intro hg | refine fkx ?_ ?_ <;> intro hg | exact fkx tru tru | refine And.intro (by omega) ?_ | omega
      refine ⟨(k + 1, n + p, q), ⟨by dsimp only; omega, by dsimp only; omega, by dsimp only; omega, by dsimp only; omega, by dsimp only; omega, ?_⟩, by dsimp only; omega, bN⟩
      rw [hv, e]
      congr 1 <;> omega
    ·have e := e3 (by intro h; omega)
     (have := @wP; have := @rO; refine dY (And.intro hok (And.intro hvv hpp)) ?_ tru tru <;> intros)
     rw [hv, e]; rfl
   ·have e := e3 (by intro h; omega)
    (have := @wP; have := @rO; refine dY (And.intro hok (And.intro hvv hpp)) ?_ tru tru <;> intros)
    rw [hv, e]; rfl
 ·have e : k = s.length := by omega
  subst e
  rw [List.drop_length] at hv
  refine dY tru ?_ tru tru <;> intros
  rw [hv]; rfl
end Go.AE
-- types: B3 B4 B5 B9 B148
end
section
namespace Go.AE
open Go.Proofs
set_option maxRecDepth 20000
set_option maxHeartbeats 4000000
set_option linter.unusedSimpArgs false
theorem kN {P Q R S : Prop} {H : Prop} (o : H) (a : Q) (b : R) (c : S) (h : H → Mk P → bD Q → bD R → bD S → P := by
 intro w m q r s
 repeat' first | refine aM (by first | assumption | (apply_assumption <;> omega)) ?_ ?_ | refine cM.fit (by assumption) ?_ | simp (maxSteps := 4000000) (disch := omega) only [aZ, aY, bun, ↓aW, ↓aV, aO, findLabel, ↓reduceIte, imp, shift, aR, aJ, unown, names, aQ, below, aD, aC, aT, aU, aS, ren, aN, aP, aX, renO, belowM, seval, -Int.reduceToNat, bT, b9, eQ, f8, f7, nO, w] | exact bH _ | refine bG _ _ ?_ | exact bC.cl | refine bE _ ?_ | refine bF _ _ ?_ ?_ | refine bA _ ?_ | refine fkx ?_ tru <;> intro hg | refine fkx ?_ ?_ <;> intro hg | exact fkx tru tru | refine And.intro (by omega) ?_ | omega
 first
 | done
 | all_goals (repeat revert hg)
   fail_if_success with_reducible refine m.use ?_
   exact q.out
   first
   | done
   | exact r.out
     first
     | done
     | exact s.out
       first | done | fail) : P := h o ⟨tru⟩ ⟨a⟩ ⟨b⟩ ⟨c⟩
theorem zfl (s : List UInt8) (hs : s.length ≤ 100000) : aG Tryz.prog 158 [Sv s, .v (.int .u8 45)] (aA (iK s)) := by
 refine sp [.tmp 4] Tryz.func158 Tryz.ntmps158 ?_
 refine kN tru ?_ tru tru <;> intros
 refine bL (fun k : Nat => ⟨[(0, Sv s), (1, .v (.int .u8 45)), (5, aA (k - 1))], []⟩) (fun k => k ≤ s.length ∧ iK s = kG s k) (fun k => k) s.length ⟨Nat.le_refl _, rfl⟩ bN ?_
 rintro k ⟨hk, hv⟩
 cases k with
 | zero =>
  refine kN tru ?_ tru tru <;> intros
  all_goals (rw [hv]; rfl)
 | succ k =>
  rw [kG] at hv
  have e1 : (((k + 1 : Nat) : Int) - 1) = k := by omega
  have h45 : (45 : UInt8).toNat = 45 := rfl
  by_cases hd : s.getD k 0 = 45
  ·rw [if_pos hd] at hv
   have e2 : ((s.getD k 0).toNat : Int) = 45 := by rw [hd]; rfl
   refine kN (And.intro e1 e2) ?_ tru tru <;> intros
   all_goals (rw [hv])
  ·rw [if_neg hd] at hv
   have e2 : ((s.getD k 0).toNat : Int) ≠ 45 := fun h => hd (UInt8.toNat.inj (by omega))
   refine kN e1 ?_ tru tru <;> intros
   exact ⟨k, ⟨by omega, hv⟩, by omega, bN⟩
theorem UP (s : List UInt8) (hs : s.length ≤ 100000) : aG Tryz.prog 118 [Sv s, .v (.int .u8 45)] (aA (iK s)) := by
 refine sp [.tmp 4] Tryz.func118 Tryz.ntmps118 ?_
 (have := zfl s hs; exact kN tru tru tru tru)
theorem SY (L : List Int) (i : Nat) (x : Int) : j0 L i x = fM L i x := rfl
theorem yJ (L : List Int) (i : Nat) (x : Int) (hi : i ≤ L.length) : (fM L i x).length = L.length + 1 := by simp [fM]; omega
def qQ : Option (List Int) → AV
 | none => .tup [.own 21 1 0 [], Bv false]
 | some L => .tup [.own 21 1 L.length (L.map aB), Bv true]
theorem zbj (s : List UInt8) (hs : s.length ≤ 100000) : aG Tryz.prog 62 [Sv s] (qQ (j5 s)) := by
 refine sp [.tmp 2, .tmp 3] Tryz.func62 Tryz.ntmps62 ?_
 have hl := yR s s.length
 have hl' : iK s = kG s s.length := rfl
 by_cases h8 : 0 ≤ eight s
 ·have e : j5 s = none := by unfold j5; rw [if_pos h8]
  rw [e]
  (have := u7 s (by omega); refine kN tru ?_ tru tru <;> intros)
  all_goals (rfl)
 ·have e : j5 s = gG (s.length + 1) (fX s) := by unfold j5; rw [if_neg h8]
  rw [e]
  by_cases h0 : 0 < iK s
  ·have hd0 : fX s = ⟨s.drop ((iK s).toNat + 1), 128, 0, 72, true, (s.take (iK s).toNat).map fun c => (c.toNat : Int)⟩ := by unfold fX; rw [if_pos h0]
   have hru := zk7 (s.take (iK s).toNat) (fun c hc => Q6 h8 c (List.mem_of_mem_take hc))
   have hn1 : ((iK s) + 1).toNat = (iK s).toNat + 1 := by omega
   repeat' first | refine aM (u7 s (by omega)) ?_ ?_ | refine aM (UP s (by omega)) ?_ ?_ | refine rW (.take 0 (.take 1 (.take 2 (.take 4 (.take 5 (.take 6 (.take 7 (.one 3 (.take 8 (.take 9 (.done))))))))))) _ (by decide +kernel) ?_ | simp (maxSteps := 4000000) (disch := omega) only [aZ, aY, bun, ↓aW, ↓aV, aO, findLabel, ↓reduceIte, imp, shift, aR, aJ, unown, names, aQ, below, aD, aC, aT, aU, aS, ren, aN, aP, aX, renO, belowM, seval, -Int.reduceToNat, hru, hn1, bT, b9, eQ, f8, f7] | exact bH _ | refine bG _ _ ?_ | exact bC.cl | refine bE _ ?_ | refine bF _ _ ?_ ?_ | refine bA _ ?_ | refine fkx ?_ tru <;> intro hg | refine fkx ?_ ?_ <;> intro hg | exact fkx tru tru | refine And.intro (by omega) ?_ | omega
   refine ⟨by simp; omega, ?_⟩
   refine bL (fun x : Nat × fP => ⟨[(0, Sv x.2.s), (4, .ref 2 0 x.2.out.length), (6, aA x.2.n), (7, aA x.2.i), (8, aA x.2.bias), (9, Bv x.2.first)], [.dead, .dead, .arr 21 1 (x.2.out.map aB)]⟩)
    (fun x => uC s x.1 x.2 ∧ gG x.1 x.2 = gG (s.length + 1) (fX s)) (fun x => x.2.s.length) (s.length + 1, fX s) ⟨xS s, rfl⟩ ?_ ?_
   ·rw [hd0]
    (simp [wk, aL, aI, aD, aC, get, aK, belowM, below, belows, aA, aB, Bv, U8, Sv]; rfl)
   ·rintro ⟨f, ⟨s1, n, i, bias, first, out⟩⟩ ⟨hI, hv⟩
    have hfuel := hI.fuel
    have hn0 := hI.n0
    have hn1 := hI.n1
    have hi0 := hI.i0
    have hi1 := hI.i1
    have hb0 := hI.b0
    have hb1 := hI.b1
    have hlen := hI.len
    dsimp only at hfuel hn0 hn1 hi0 hi1 hb0 hb1 hlen hv
    obtain ⟨f, rfl⟩ : ∃ g, f = g + 1 := ⟨f - 1, by omega⟩
    by_cases hs1 : s1 = []
    ·subst hs1
     have e : gG (f + 1) ⟨[], n, i, bias, first, out⟩ = some out := rfl
     rw [← hv, e]
     repeat' first | simp (maxSteps := 4000000) (disch := omega) only [aZ, aY, bun, ↓aW, ↓aV, aO, findLabel, ↓reduceIte, imp, shift, aR, aJ, unown, names, aQ, below, aD, aC, aT, aU, aS, ren, aN, aP, aX, renO, belowM, seval, -Int.reduceToNat, bT, b9, eQ, f8, f7] | refine bA _ ?_ | refine fkx ?_ tru <;> intro hg | refine fkx ?_ ?_ <;> intro hg | exact fkx tru tru | refine And.intro (by omega) ?_ | omega
     all_goals (rfl)
    ·have hs1b : (s1 == []) = false := by simpa using hs1
     rw [xT hs1] at hv
     cases hrd : rd s1 bias with
     | none =>
      rw [hrd] at hv
      rw [← hv]
      repeat' first | refine aM (nP s1 bias (by omega) (by omega) (by omega)) ?_ ?_ | simp (maxSteps := 4000000) (disch := omega) only [aZ, aY, bun, ↓aW, ↓aV, aO, findLabel, ↓reduceIte, imp, shift, aR, aJ, unown, names, aQ, below, aD, aC, aT, aU, aS, ren, aN, aP, aX, renO, belowM, seval, -Int.reduceToNat, hs1b, hrd, nO, bT, b9, eQ, f8, f7] | exact bH _ | refine bG _ _ ?_ | exact bC.cl | refine bE _ ?_ | refine bF _ _ ?_ ?_ | refine bA _ ?_ | refine fkx ?_ tru <;> intro hg | refine fkx ?_ ?_ <;> intro hg | exact fkx tru tru | refine And.intro (by omega) ?_ | omega
      all_goals first | rfl | (exact absurd (by assumption) hs1)
     | some p =>
      obtain ⟨d, r⟩ := p
      obtain ⟨hd1, hd2, _⟩ := wF hrd
      have hrl := wE hrd
      rw [hrd] at hv
      dsimp only at hv
      have hqm := lH (x := i + d) (c := out.length + 1) (by omega) (by omega)
      have hm0 := Int.emod_nonneg (i + d) (b := (out.length : Int) + 1) (by omega)
      have hm1 := Int.emod_lt_of_pos (i + d) (b := (out.length : Int) + 1) (by omega)
      obtain ⟨mi, hmi⟩ : ∃ mi : Nat, (i + d) % ((out.length : Int) + 1) = mi := ⟨((i + d) % ((out.length : Int) + 1)).toNat, by omega⟩
      rw [hmi] at hv hm0 hm1
      generalize hqq : (i + d) / ((out.length : Int) + 1) = q at *
      by_cases hl1 : 2147483647 < i + d
      ·rw [if_pos hl1] at hv
       rw [← hv]
       repeat' first | refine aM (nP s1 bias (by omega) (by omega) (by omega)) ?_ ?_ | simp (maxSteps := 4000000) (disch := omega) only [aZ, aY, bun, ↓aW, ↓aV, aO, findLabel, ↓reduceIte, imp, shift, aR, aJ, unown, names, aQ, below, aD, aC, aT, aU, aS, ren, aN, aP, aX, renO, belowM, seval, -Int.reduceToNat, hs1b, hrd, nO, bT, b9, eQ, f8, f7] | exact bH _ | refine bG _ _ ?_ | exact bC.cl | refine bE _ ?_ | refine bF _ _ ?_ ?_ | refine bA _ ?_ | refine fkx ?_ tru <;> intro hg | refine fkx ?_ ?_ <;> intro hg | exact fkx tru tru | refine And.intro (by omega) ?_ | omega
       all_goals first | rfl | (exact absurd (by assumption) hs1)
      ·rw [if_neg hl1] at hv
       by_cases hl2 : 1114111 < n + q
       ·rw [if_pos (.inl hl2)] at hv
        rw [← hv]
        repeat' first | refine aM (nP s1 bias (by omega) (by omega) (by omega)) ?_ ?_ | refine aM (qM _ _ _ (by omega) (by omega) (by omega) (by omega)) ?_ ?_ | simp (maxSteps := 4000000) (disch := omega) only [aZ, aY, bun, ↓aW, ↓aV, aO, findLabel, ↓reduceIte, imp, shift, aR, aJ, unown, names, aQ, below, aD, aC, aT, aU, aS, ren, aN, aP, aX, renO, belowM, seval, -Int.reduceToNat, hs1b, hrd, nO, hqq, bT, b9, eQ, f8, f7] | exact bH _ | refine bG _ _ ?_ | exact bC.cl | refine bE _ ?_ | refine bF _ _ ?_ ?_ | refine bA _ ?_ | refine fkx ?_ tru <;> intro hg | refine fkx ?_ ?_ <;> intro hg | exact fkx tru tru | refine And.intro (by omega) ?_ | omega
        all_goals first | rfl | (exact absurd (by assumption) hs1)
       ·cases hrt : right (n + q) with
        | false =>
         rw [if_pos (.inr hrt)] at hv
         rw [← hv]
         repeat' first | refine aM (nP s1 bias (by omega) (by omega) (by omega)) ?_ ?_ | refine aM (qM _ _ _ (by omega) (by omega) (by omega) (by omega)) ?_ ?_ | refine aM (rJ _) ?_ ?_ | simp (maxSteps := 4000000) (disch := omega) only [aZ, aY, bun, ↓aW, ↓aV, aO, findLabel, ↓reduceIte, imp, shift, aR, aJ, unown, names, aQ, below, aD, aC, aT, aU, aS, ren, aN, aP, aX, renO, belowM, seval, -Int.reduceToNat, hs1b, hrd, nO, hqq, hrt, bT, b9, eQ, f8, f7] | exact bH _ | refine bG _ _ ?_ | exact bC.cl | refine bE _ ?_ | refine bF _ _ ?_ ?_ | refine bA _ ?_ | refine fkx ?_ tru <;> intro hg | refine fkx ?_ ?_ <;> intro hg | exact fkx tru tru | refine And.intro (by omega) ?_ | omega
         all_goals first | rfl | (exact absurd (by assumption) hs1)
        | true =>
         rw [if_neg (fun h => h.elim (fun h => by omega) (fun h => by rw [hrt] at h; cases h))] at hv
         have ha := sA (d := d) (c := (out.length : Int) + 1) (first := first) hd1 (by omega)
         have hil := yJ out mi (n + q) (by omega)
         rw [Int.toNat_natCast] at hv
         repeat' first | refine aM (nP s1 bias (by omega) (by omega) (by omega)) ?_ ?_ | refine aM (qM _ _ _ (by omega) (by omega) (by omega) (by omega)) ?_ ?_ | refine aM (rJ _) ?_ ?_ | refine dG [2, 3] (T2 out mi (n + q) (by omega) (by omega)) ?_ | simp (maxSteps := 4000000) (disch := omega) only [aZ, aY, bun, ↓aW, ↓aV, aO, findLabel, ↓reduceIte, imp, shift, aR, aJ, unown, names, aQ, below, aD, aC, aT, aU, aS, ren, aN, aP, aX, renO, belowM, seval, -Int.reduceToNat, hs1b, hrd, nO, hqq, hrt, hmi, bT, b9, eQ, f8, f7] | exact bH _ | refine bG _ _ ?_ | exact bC.cl | refine bE _ ?_ | refine bF _ _ ?_ ?_ | refine bA _ ?_ | refine fkx ?_ tru <;> intro hg | refine fkx ?_ ?_ <;> intro hg | exact fkx tru tru | refine And.intro (by omega) ?_ | omega
         refine ⟨(f, ⟨r, n + q, mi + 1, adapt d (out.length + 1) first, false, fM out mi (n + q)⟩), ⟨⟨?_, ?_, ?_, ?_, ?_, ?_, ?_, ?_⟩, hv⟩, ?_, ?_⟩
         all_goals first | (dsimp only; omega) | skip
         (simp (disch := omega) [wk, aL, aI, aD, aC, get, aK, belowM, below, belows, aA, aB, Bv, U8, Sv, SY, hil] <;> try omega)
  ·have hd0 : fX s = ⟨s, 128, 0, 72, true, []⟩ := by unfold fX; rw [if_neg h0]
   (have := u7 s (by omega); have := UP s (by omega); repeat' first | refine rW (.take 0 (.take 1 (.take 2 (.take 4 (.take 5 (.take 6 (.take 7 (.one 3 (.take 8 (.take 9 (.done))))))))))) _ (by decide +kernel) ?_ | refine kN tru ?_ tru tru <;> intros | refine kN tru ?_ ?_ tru <;> intros | refine kN tru ?_ ?_ ?_ <;> intros | exact kN tru tru tru tru | fail)
   refine bL (fun x : Nat × fP => ⟨[(0, Sv x.2.s), (4, .ref 1 0 x.2.out.length), (6, aA x.2.n), (7, aA x.2.i), (8, aA x.2.bias), (9, Bv x.2.first)], [.dead, .arr 21 1 (x.2.out.map aB)]⟩)
    (fun x => uC s x.1 x.2 ∧ gG x.1 x.2 = gG (s.length + 1) (fX s)) (fun x => x.2.s.length) (s.length + 1, fX s) ⟨xS s, rfl⟩ ?_ ?_
   ·rw [hd0]
    (simp (disch := omega) [wk, aL, aI, aD, aC, get, aK, belowM, below, belows, aA, aB, Bv, U8, Sv, hd0] <;> try omega)
   ·rintro ⟨f, ⟨s1, n, i, bias, first, out⟩⟩ ⟨hI, hv⟩
    have hfuel := hI.fuel
    have hn0 := hI.n0
    have hn1 := hI.n1
    have hi0 := hI.i0
    have hi1 := hI.i1
    have hb0 := hI.b0
    have hb1 := hI.b1
    have hlen := hI.len
    dsimp only at hfuel hn0 hn1 hi0 hi1 hb0 hb1 hlen hv
    obtain ⟨f, rfl⟩ : ∃ g, f = g + 1 := ⟨f - 1, by omega⟩
    by_cases hs1 : s1 = []
    ·subst hs1
     have e : gG (f + 1) ⟨[], n, i, bias, first, out⟩ = some out := rfl
     rw [← hv, e]
     refine kN tru ?_ tru tru <;> intros
     all_goals (rfl)
    ·have hs1b : (s1 == []) = false := by simpa using hs1
     rw [xT hs1] at hv
     cases hrd : rd s1 bias with
     | none =>
      rw [hrd] at hv
      rw [← hv]
      (have := nP s1 bias (by omega) (by omega) (by omega); refine kN (And.intro hs1b hrd) ?_ tru tru <;> intros)
      all_goals first | rfl | (exact absurd (by assumption) hs1)
     | some p =>
      obtain ⟨d, r⟩ := p
      obtain ⟨hd1, hd2, _⟩ := wF hrd
      have hrl := wE hrd
      rw [hrd] at hv
      dsimp only at hv
      have hqm := lH (x := i + d) (c := out.length + 1) (by omega) (by omega)
      have hm0 := Int.emod_nonneg (i + d) (b := (out.length : Int) + 1) (by omega)
      have hm1 := Int.emod_lt_of_pos (i + d) (b := (out.length : Int) + 1) (by omega)
      obtain ⟨mi, hmi⟩ : ∃ mi : Nat, (i + d) % ((out.length : Int) + 1) = mi := ⟨((i + d) % ((out.length : Int) + 1)).toNat, by omega⟩
      rw [hmi] at hv hm0 hm1
      generalize hqq : (i + d) / ((out.length : Int) + 1) = q at *
      by_cases hl1 : 2147483647 < i + d
      ·rw [if_pos hl1] at hv
       rw [← hv]
       (have := nP s1 bias (by omega) (by omega) (by omega); refine kN (And.intro hs1b hrd) ?_ tru tru <;> intros)
       all_goals first | rfl | (exact absurd (by assumption) hs1)
      ·rw [if_neg hl1] at hv
       by_cases hl2 : 1114111 < n + q
       ·rw [if_pos (.inl hl2)] at hv
        rw [← hv]
        repeat' first | refine aM (nP s1 bias (by omega) (by omega) (by omega)) ?_ ?_ | refine aM (qM _ _ _ (by omega) (by omega) (by omega) (by omega)) ?_ ?_ | simp (maxSteps := 4000000) (disch := omega) only [aZ, aY, bun, ↓aW, ↓aV, aO, findLabel, ↓reduceIte, imp, shift, aR, aJ, unown, names, aQ, below, aD, aC, aT, aU, aS, ren, aN, aP, aX, renO, belowM, seval, -Int.reduceToNat, hs1b, hrd, nO, hqq, bT, b9, eQ, f8, f7] | exact bH _ | refine bG _ _ ?_ | exact bC.cl | refine bE _ ?_ | refine bF _ _ ?_ ?_ | refine bA _ ?_ | refine fkx ?_ tru <;> intro hg | refine fkx ?_ ?_ <;> intro hg | exact fkx tru tru | refine And.intro (by omega) ?_ | omega
        all_goals first | rfl | (exact absurd (by assumption) hs1)
       ·cases hrt : right (n + q) with
        | false =>
         rw [if_pos (.inr hrt)] at hv
         rw [← hv]
         repeat' first | refine aM (nP s1 bias (by omega) (by omega) (by omega)) ?_ ?_ | refine aM (qM _ _ _ (by omega) (by omega) (by omega) (by omega)) ?_ ?_ | refine aM (rJ _) ?_ ?_ | simp (maxSteps := 4000000) (disch := omega) only [aZ, aY, bun, ↓aW, ↓aV, aO, findLabel, ↓reduceIte, imp, shift, aR, aJ, unown, names, aQ, below, aD, aC, aT, aU, aS, ren, aN, aP, aX, renO, belowM, seval, -Int.reduceToNat, hs1b, hrd, nO, hqq, hrt, bT, b9, eQ, f8, f7] | exact bH _ | refine bG _ _ ?_ | exact bC.cl | refine bE _ ?_ | refine bF _ _ ?_ ?_ | refine bA _ ?_ | refine fkx ?_ tru <;> intro hg | refine fkx ?_ ?_ <;> intro hg | exact fkx tru tru | refine And.intro (by omega) ?_ | omega
         all_goals first | rfl | (exact absurd (by assumption) hs1)
        | true =>
         rw [if_neg (fun h => h.elim (fun h => by omega) (fun h => by rw [hrt] at h; cases h))] at hv
         have ha := sA (d := d) (c := (out.length : Int) + 1) (first := first) hd1 (by omega)
         have hil := yJ out mi (n + q) (by omega)
         rw [Int.toNat_natCast] at hv
         repeat' first | refine aM (nP s1 bias (by omega) (by omega) (by omega)) ?_ ?_ | refine aM (qM _ _ _ (by omega) (by omega) (by omega) (by omega)) ?_ ?_ | refine aM (rJ _) ?_ ?_ | refine dG [1, 2] (T2 out mi (n + q) (by omega) (by omega)) ?_ | simp (maxSteps := 4000000) (disch := omega) only [aZ, aY, bun, ↓aW, ↓aV, aO, findLabel, ↓reduceIte, imp, shift, aR, aJ, unown, names, aQ, below, aD, aC, aT, aU, aS, ren, aN, aP, aX, renO, belowM, seval, -Int.reduceToNat, hs1b, hrd, nO, hqq, hrt, hmi, bT, b9, eQ, f8, f7] | exact bH _ | refine bG _ _ ?_ | exact bC.cl | refine bE _ ?_ | refine bF _ _ ?_ ?_ | refine bA _ ?_ | refine fkx ?_ tru <;> intro hg | refine fkx ?_ ?_ <;> intro hg | exact fkx tru tru | refine And.intro (by omega) ?_ | omega
         refine ⟨(f, ⟨r, n + q, mi + 1, adapt d (out.length + 1) first, false, fM out mi (n + q)⟩), ⟨⟨?_, ?_, ?_, ?_, ?_, ?_, ?_, ?_⟩, hv⟩, ?_, ?_⟩
         all_goals first | (dsimp only; omega) | skip
         (simp (disch := omega) [wk, aL, aI, aD, aC, get, aK, belowM, below, belows, aA, aB, Bv, U8, Sv, SY, hil] <;> try omega)
end Go.AE
-- types: B3 B4 B5 B9 B21 B63 B129
end
section
namespace Go.AE
open Go.Proofs
set_option maxRecDepth 20000
set_option maxHeartbeats 4000000
set_option linter.unusedSimpArgs false
def p3 (s : List UInt8) (i : Nat) : Int := max 0 (kG s i)
theorem z9p (s : List UInt8) (i : Nat) : p3 s (i + 1) = if s.getD i 0 = 45 then (i : Int) else p3 s i := by
 unfold p3
 rw [kG]
 split <;> omega
def chr (s : List UInt8) : List Int := s.map fun c => (c.toNat : Int)
theorem zam (s : List UInt8) (j : Nat) (h : j < s.length) : chr (s.take (j + 1)) = chr (s.take j) ++ [((s.getD j 0).toNat : Int)] := by
 unfold chr; rw [gB s j 0 h, List.map_append]; rfl
theorem zal (s : List UInt8) : (chr s).length = s.length := by simp [chr]
theorem PY {s : List UInt8} {k : Nat} (h : ¬ k < s.length) : s.drop k = [] := List.drop_of_length_le (by omega)
theorem PZ {s r : List UInt8} {k : Nat} {p : List UInt8} (hk : k ≤ s.length) (h : s.drop k = p ++ r) : s.drop (s.length - r.length) = r ∧ r.length ≤ s.length - k := by
 have hl := congrArg List.length h
 simp at hl
 have h1 : s.length - r.length = k + p.length := by omega
 rw [h1, ← List.drop_drop, h, List.drop_left]
 exact ⟨rfl, by omega⟩
theorem kD {P Q R S : Prop} {H : Prop} (o : H) (a : Q) (b : R) (c : S) (h : H → Mk P → bD Q → bD R → bD S → P := by
 intro w m q r s
 repeat' first | refine aM (by first | assumption | (apply_assumption <;> omega)) ?_ ?_ | refine cM.fit (by assumption) ?_ | simp (maxSteps := 4000000) (disch := omega) only [aZ, aY, bun, ↓aW, ↓aV, aO, findLabel, ↓reduceIte, imp, shift, aR, aJ, unown, names, aQ, below, aD, aC, aT, aU, aS, ren, aN, aP, aX, renO, belowM, seval, -Int.reduceToNat, bT, b9, eQ, f8, f7, oQ, qQ, w] | exact bH _ | refine bG _ _ ?_ | exact bC.cl | refine bE _ ?_ | refine bF _ _ ?_ ?_ | refine bA _ ?_ | refine fkx ?_ tru <;> intro hg | refine fkx ?_ ?_ <;> intro hg | exact fkx tru tru | refine And.intro (by omega) ?_ | omega
 first
 | done
 | all_goals (repeat revert hg)
   exact q.out
   first
   | done
   | exact r.out
     first
     | done
     | exact s.out
       first | done | fail) : P := h o ⟨tru⟩ ⟨a⟩ ⟨b⟩ ⟨c⟩
theorem zir (s : List UInt8) (hs : s.length ≤ 100000) : aG Tryz.prog 57 [Sv s] (qQ (j5 s)) := by
 refine sp [.tmp 2, .tmp 3] Tryz.func57 Tryz.ntmps57 ?_
 refine kD tru ?_ tru tru <;> intros
 refine bL (fun i : Nat => ⟨[(0, Sv s), (4, .ref 1 0 0), (5, aA (p3 s i)), (6, aA i)], [.dead, .arr 21 1 []]⟩) (fun i => i ≤ s.length ∧ ∀ j, j < i → ¬ 128 ≤ (s.getD j 0).toNat) (fun i => s.length - i) 0 ⟨by omega, fun j hj => by omega⟩ (by (simp (disch := omega) [wk, aL, aI, aD, aC, get, aK, belowM, below, belows, aA, aB, Bv, U8, Sv, p3, kG] <;> try omega)) ?_
 rintro i ⟨hi, ha⟩
 by_cases hlt : i < s.length
 ·have hcb := iO (s.getD i 0)
  by_cases h127 : 127 < (s.getD i 0).toNat
  ·have e8 := BV hlt (by omega) ha
   have e : j5 s = none := by unfold j5; rw [if_pos (by omega)]
   rw [e]
   exact kD tru tru tru tru
   all_goals (rfl)
  ·have ha' : ∀ j, j < i + 1 → ¬ 128 ≤ (s.getD j 0).toNat := fun j hj => by
    by_cases hji : j = i
    ·subst hji; omega
    ·exact ha j (by omega)
   have hst := z9p s i
   by_cases hd : s.getD i 0 = 45
   ·rw [if_pos hd] at hst
    have e2 : ((s.getD i 0).toNat : Int) = 45 := by rw [hd]; rfl
    refine kD e2 ?_ tru tru <;> intros
    refine ⟨i + 1, ⟨by omega, ha'⟩, by omega, ?_⟩
    rw [hst]
    (simp (disch := omega) [wk, aL, aI, aD, aC, get, aK, belowM, below, belows, aA, aB, Bv, U8, Sv, ] <;> try omega)
   ·rw [if_neg hd] at hst
    have h45 : (45 : UInt8).toNat = 45 := rfl
    have e2 : ((s.getD i 0).toNat : Int) ≠ 45 := fun h => hd (UInt8.toNat.inj (by omega))
    refine kD tru ?_ tru tru <;> intros
    refine ⟨i + 1, ⟨by omega, ha'⟩, by omega, ?_⟩
    rw [hst]
    (simp (disch := omega) [wk, aL, aI, aD, aC, get, aK, belowM, below, belows, aA, aB, Bv, U8, Sv, ] <;> try omega)
 ·have e : i = s.length := by omega
  subst e
  have h8 : eight s = -1 := BW (fun j hj => ha j (by omega))
  have hv0 : j5 s = gG (s.length + 1) (fX s) := by unfold j5; rw [h8, if_neg (by decide)]
  rw [hv0]
  have hld := yR s s.length
  have hl' : iK s = kG s s.length := rfl
  obtain ⟨p, hp⟩ : ∃ p : Nat, p3 s s.length = p := ⟨(p3 s s.length).toNat, by unfold p3; omega⟩
  have hp' : (p : Int) = max 0 (iK s) := by rw [← hp]; rfl
  rw [hp]
  refine kD tru ?_ tru tru <;> intros
  refine bL (fun j : Nat => ⟨[(0, Sv s), (4, .ref 1 0 j), (5, aA p), (7, aA j)], [.dead, .arr 21 1 ((chr (s.take j)).map aB)]⟩) (fun j => j ≤ p) (fun j => p - j) 0 (by simp) (by (simp (disch := omega) [wk, aL, aI, aD, aC, get, aK, belowM, below, belows, aA, aB, Bv, U8, Sv, chr] <;> try omega)) ?_
  intro j hj
  have hcl := zal (s.take j)
  simp only [List.length_take] at hcl
  by_cases hjp : j < p
  ·have hct := zam s j (by omega)
   have hcb := iO (s.getD j 0)
   refine kD hcl ?_ tru tru <;> intros
   refine ⟨j + 1, by omega, by omega, ?_⟩
   rw [hct]
   (simp (disch := omega) [wk, aL, aI, aD, aC, get, aK, belowM, below, belows, aA, aB, Bv, U8, Sv, hcl] <;> try omega)
  ·have e : j = p := by omega
   subst e
   have hin := xS s
   have hk : ∃ k : Nat, fX s = ⟨s.drop k, 128, 0, 72, true, chr (s.take j)⟩ ∧ k ≤ s.length ∧ (k : Int) = if 0 < (j : Int) then (j : Int) + 1 else j := by
    unfold fX
    by_cases h0 : 0 < iK s
    ·have e1 : (iK s).toNat = j := by omega
     rw [if_pos h0, e1]
     exact ⟨j + 1, rfl, by omega, by rw [if_pos (by omega)]; rfl⟩
    ·have e1 : j = 0 := by omega
     subst e1
     rw [if_neg h0]
     exact ⟨0, rfl, by omega, rfl⟩
   obtain ⟨k0, hk0, hk1, hk2⟩ := hk
   have hchl : (chr (s.take j)).length = j := by rw [hcl]; omega
   by_cases h0 : 0 < (j : Int)
   ·rw [if_pos h0] at hk2
    refine kD hchl ?_ tru tru <;> intros
    refine KF (fun x : Nat × Nat × fP => ⟨[(0, Sv s), (4, .ref 1 0 x.2.2.out.length), (5, aA x.2.1), (8, aA x.2.2.n), (9, aA x.2.2.i), (10, aA x.2.2.bias), (11, Bv x.2.2.first)], [.dead, .arr 21 1 (x.2.2.out.map aB)]⟩)
     (fun x => uC s x.1 x.2.2 ∧ x.2.1 ≤ s.length ∧ x.2.2.s = s.drop x.2.1 ∧ gG x.1 x.2.2 = gG (s.length + 1) (fX s)) (fun x => x.2.2.s.length) (s.length + 1, k0, fX s) ⟨hin, hk1, by rw [hk0], rfl⟩ ?_ ?_
    ·rw [hk0]
     (simp (disch := omega) [wk, aL, aI, aD, aC, get, aK, belowM, below, belows, aA, aB, Bv, U8, Sv, hk2, hchl] <;> try omega)
    ·rintro ⟨f, at', ⟨s1, n, i, bias, first, out⟩⟩ ⟨hI, hat, hs1, hv⟩
     have hfuel := hI.fuel
     have hn0 := hI.n0
     have hn1 := hI.n1
     have hi0 := hI.i0
     have hi1 := hI.i1
     have hb0 := hI.b0
     have hb1 := hI.b1
     have hlen := hI.len
     dsimp only at hfuel hn0 hn1 hi0 hi1 hb0 hb1 hlen hv hs1 hat
     subst hs1
     obtain ⟨f, rfl⟩ : ∃ g, f = g + 1 := ⟨f - 1, by omega⟩
     by_cases hlt : at' < s.length
     ·have hne : s.drop at' ≠ [] := fun h => by have := congrArg List.length h; simp at this; omega
      have hdl : (s.drop at').length = s.length - at' := List.length_drop
      rw [xT hne] at hv
      cases hrd : rd (s.drop at') bias with
      | none =>
       rw [hrd] at hv
       rw [← hv]
       (have := nL (s.drop at') bias (by omega) (by omega) (by omega); exact kD hrd tru tru tru)
       all_goals (rfl)
      | some p =>
       obtain ⟨d, r⟩ := p
       obtain ⟨hd1, hd2, pp, hpp, hpl⟩ := wF hrd
       obtain ⟨hr1, hr2⟩ := PZ hat hpp
       have hrl := wE hrd
       rw [hrd] at hv
       dsimp only at hv
       have hqm := lH (x := i + d) (c := out.length + 1) (by omega) (by omega)
       have hm0 := Int.emod_nonneg (i + d) (b := (out.length : Int) + 1) (by omega)
       have hm1 := Int.emod_lt_of_pos (i + d) (b := (out.length : Int) + 1) (by omega)
       obtain ⟨mi, hmi⟩ : ∃ mi : Nat, (i + d) % ((out.length : Int) + 1) = mi := ⟨((i + d) % ((out.length : Int) + 1)).toNat, by omega⟩
       rw [hmi] at hv hm0 hm1
       generalize hqq : (i + d) / ((out.length : Int) + 1) = q at *
       by_cases hl1 : 2147483647 < i + d
       ·rw [if_pos hl1] at hv
        rw [← hv]
        (have := nL (s.drop at') bias (by omega) (by omega) (by omega); exact kD hrd tru tru tru)
        all_goals (rfl)
       ·rw [if_neg hl1] at hv
        by_cases hl2 : 1114111 < n + q
        ·rw [if_pos (.inl hl2)] at hv
         rw [← hv]
         repeat' first | refine aM (nL (s.drop at') bias (by omega) (by omega) (by omega)) ?_ ?_ | refine aM (rH _ _ _ (by omega) (by omega) (by omega) (by omega)) ?_ ?_ | simp (maxSteps := 4000000) (disch := omega) only [aZ, aY, bun, ↓aW, ↓aV, aO, findLabel, ↓reduceIte, imp, shift, aR, aJ, unown, names, aQ, below, aD, aC, aT, aU, aS, ren, aN, aP, aX, renO, belowM, seval, -Int.reduceToNat, hrd, oQ, hqq, bT, b9, eQ, f8, f7] | exact bH _ | refine bG _ _ ?_ | exact bC.cl | refine bE _ ?_ | refine bF _ _ ?_ ?_ | refine bA _ ?_ | refine fkx ?_ tru <;> intro hg | refine fkx ?_ ?_ <;> intro hg | exact fkx tru tru | refine And.intro (by omega) ?_ | omega
         all_goals (rfl)
        ·cases hrt : right (n + q) with
         | false =>
          rw [if_pos (.inr hrt)] at hv
          rw [← hv]
          repeat' first | refine aM (nL (s.drop at') bias (by omega) (by omega) (by omega)) ?_ ?_ | refine aM (rH _ _ _ (by omega) (by omega) (by omega) (by omega)) ?_ ?_ | refine aM (qA _) ?_ ?_ | simp (maxSteps := 4000000) (disch := omega) only [aZ, aY, bun, ↓aW, ↓aV, aO, findLabel, ↓reduceIte, imp, shift, aR, aJ, unown, names, aQ, below, aD, aC, aT, aU, aS, ren, aN, aP, aX, renO, belowM, seval, -Int.reduceToNat, hrd, oQ, hqq, hrt, bT, b9, eQ, f8, f7] | exact bH _ | refine bG _ _ ?_ | exact bC.cl | refine bE _ ?_ | refine bF _ _ ?_ ?_ | refine bA _ ?_ | refine fkx ?_ tru <;> intro hg | refine fkx ?_ ?_ <;> intro hg | exact fkx tru tru | refine And.intro (by omega) ?_ | omega
          all_goals (rfl)
         | true =>
          rw [if_neg (fun h => h.elim (fun h => by omega) (fun h => by rw [hrt] at h; cases h))] at hv
          have ha := sA (d := d) (c := (out.length : Int) + 1) (first := first) hd1 (by omega)
          have hil := yJ out mi (n + q) (by omega)
          rw [Int.toNat_natCast] at hv
          repeat' first | refine aM (nL (s.drop at') bias (by omega) (by omega) (by omega)) ?_ ?_ | refine aM (rH _ _ _ (by omega) (by omega) (by omega) (by omega)) ?_ ?_ | refine aM (qA _) ?_ ?_ | simp (maxSteps := 4000000) (disch := omega) only [aZ, aY, bun, ↓aW, ↓aV, aO, findLabel, ↓reduceIte, imp, shift, aR, aJ, unown, names, aQ, below, aD, aC, aT, aU, aS, ren, aN, aP, aX, renO, belowM, seval, -Int.reduceToNat, hrd, oQ, hqq, hrt, hmi, bT, b9, eQ, f8, f7] | exact bH _ | refine bG _ _ ?_ | exact bC.cl | refine bE _ ?_ | refine bF _ _ ?_ ?_ | refine bA _ ?_ | refine fkx ?_ tru <;> intro hg | refine fkx ?_ ?_ <;> intro hg | exact fkx tru tru | refine And.intro (by omega) ?_ | omega
          have htl : (List.take mi (out.map aB)).length = mi := by simp; omega
          have htl2 : (List.take (out.length - mi) (List.drop mi (out.map aB))).length = out.length - mi := by simp
          refine ⟨htl, by omega, by omega, htl, by omega, by omega, by omega, by omega, htl, htl2, by omega, by omega, ?_⟩
          have htd : List.take (out.length - mi) (List.drop mi (out.map aB)) = (out.drop mi).map aB := by rw [← List.map_drop, List.take_of_length_le (by simp)]
          have hins : List.take mi (out.map aB) ++ .v (.int .i32 (n + q)) :: List.drop mi (out.map aB) = (fM out mi (n + q)).map aB := by simp [fM, aB]
          have hatn : ((at' : Int) + (((s.length - at' : Nat) : Int) - r.length)) = ((s.length - r.length : Nat) : Int) := by omega
          have hln : mi + 1 + (out.length - mi) = (fM out mi (n + q)).length := by omega
          refine ⟨(f, s.length - r.length, ⟨r, n + q, mi + 1, adapt d (out.length + 1) first, false, fM out mi (n + q)⟩), ⟨⟨?_, ?_, ?_, ?_, ?_, ?_, ?_, ?_⟩, ?_, hr1.symm, hv⟩, ?_, [0, 2], ?_⟩
          all_goals first | (dsimp only; omega) | skip
          rw [htd, hln, hatn]
          simp only [wkr, pY, ren, cY, rU, renO, fZ]
          (simp (disch := omega) [wk, aL, aI, aD, aC, get, aK, belowM, below, belows, aA, aB, Bv, U8, Sv, aC, obj, hins, List.map_take] <;> try omega)
          all_goals exact hins
     ·have hnil := PY hlt
      have e : gG (f + 1) ⟨s.drop at', n, i, bias, first, out⟩ = some out := by rw [hnil]; rfl
      rw [← hv, e]
      exact kD tru tru tru tru
      all_goals (rfl)
   ·rw [if_neg h0] at hk2
    refine kD hchl ?_ tru tru <;> intros
    refine KF (fun x : Nat × Nat × fP => ⟨[(0, Sv s), (4, .ref 1 0 x.2.2.out.length), (5, aA x.2.1), (8, aA x.2.2.n), (9, aA x.2.2.i), (10, aA x.2.2.bias), (11, Bv x.2.2.first)], [.dead, .arr 21 1 (x.2.2.out.map aB)]⟩)
     (fun x => uC s x.1 x.2.2 ∧ x.2.1 ≤ s.length ∧ x.2.2.s = s.drop x.2.1 ∧ gG x.1 x.2.2 = gG (s.length + 1) (fX s)) (fun x => x.2.2.s.length) (s.length + 1, k0, fX s) ⟨hin, hk1, by rw [hk0], rfl⟩ ?_ ?_
    ·rw [hk0]
     (simp (disch := omega) [wk, aL, aI, aD, aC, get, aK, belowM, below, belows, aA, aB, Bv, U8, Sv, hk2, hchl] <;> try omega)
    ·rintro ⟨f, at', ⟨s1, n, i, bias, first, out⟩⟩ ⟨hI, hat, hs1, hv⟩
     have hfuel := hI.fuel
     have hn0 := hI.n0
     have hn1 := hI.n1
     have hi0 := hI.i0
     have hi1 := hI.i1
     have hb0 := hI.b0
     have hb1 := hI.b1
     have hlen := hI.len
     dsimp only at hfuel hn0 hn1 hi0 hi1 hb0 hb1 hlen hv hs1 hat
     subst hs1
     obtain ⟨f, rfl⟩ : ∃ g, f = g + 1 := ⟨f - 1, by omega⟩
     by_cases hlt : at' < s.length
     ·have hne : s.drop at' ≠ [] := fun h => by have := congrArg List.length h; simp at this; omega
      have hdl : (s.drop at').length = s.length - at' := List.length_drop
      rw [xT hne] at hv
      cases hrd : rd (s.drop at') bias with
      | none =>
       rw [hrd] at hv
       rw [← hv]
       (have := nL (s.drop at') bias (by omega) (by omega) (by omega); exact kD hrd tru tru tru)
       all_goals (rfl)
      | some p =>
       obtain ⟨d, r⟩ := p
       obtain ⟨hd1, hd2, pp, hpp, hpl⟩ := wF hrd
       obtain ⟨hr1, hr2⟩ := PZ hat hpp
       have hrl := wE hrd
       rw [hrd] at hv
       dsimp only at hv
       have hqm := lH (x := i + d) (c := out.length + 1) (by omega) (by omega)
       have hm0 := Int.emod_nonneg (i + d) (b := (out.length : Int) + 1) (by omega)
       have hm1 := Int.emod_lt_of_pos (i + d) (b := (out.length : Int) + 1) (by omega)
       obtain ⟨mi, hmi⟩ : ∃ mi : Nat, (i + d) % ((out.length : Int) + 1) = mi := ⟨((i + d) % ((out.length : Int) + 1)).toNat, by omega⟩
       rw [hmi] at hv hm0 hm1
       generalize hqq : (i + d) / ((out.length : Int) + 1) = q at *
       by_cases hl1 : 2147483647 < i + d
       ·rw [if_pos hl1] at hv
        rw [← hv]
        (have := nL (s.drop at') bias (by omega) (by omega) (by omega); exact kD hrd tru tru tru)
        all_goals (rfl)
       ·rw [if_neg hl1] at hv
        by_cases hl2 : 1114111 < n + q
        ·rw [if_pos (.inl hl2)] at hv
         rw [← hv]
         repeat' first | refine aM (nL (s.drop at') bias (by omega) (by omega) (by omega)) ?_ ?_ | refine aM (rH _ _ _ (by omega) (by omega) (by omega) (by omega)) ?_ ?_ | simp (maxSteps := 4000000) (disch := omega) only [aZ, aY, bun, ↓aW, ↓aV, aO, findLabel, ↓reduceIte, imp, shift, aR, aJ, unown, names, aQ, below, aD, aC, aT, aU, aS, ren, aN, aP, aX, renO, belowM, seval, -Int.reduceToNat, hrd, oQ, hqq, bT, b9, eQ, f8, f7] | exact bH _ | refine bG _ _ ?_ | exact bC.cl | refine bE _ ?_ | refine bF _ _ ?_ ?_ | refine bA _ ?_ | refine fkx ?_ tru <;> intro hg | refine fkx ?_ ?_ <;> intro hg | exact fkx tru tru | refine And.intro (by omega) ?_ | omega
         all_goals (rfl)
        ·cases hrt : right (n + q) with
         | false =>
          rw [if_pos (.inr hrt)] at hv
          rw [← hv]
          repeat' first | refine aM (nL (s.drop at') bias (by omega) (by omega) (by omega)) ?_ ?_ | refine aM (rH _ _ _ (by omega) (by omega) (by omega) (by omega)) ?_ ?_ | refine aM (qA _) ?_ ?_ | simp (maxSteps := 4000000) (disch := omega) only [aZ, aY, bun, ↓aW, ↓aV, aO, findLabel, ↓reduceIte, imp, shift, aR, aJ, unown, names, aQ, below, aD, aC, aT, aU, aS, ren, aN, aP, aX, renO, belowM, seval, -Int.reduceToNat, hrd, oQ, hqq, hrt, bT, b9, eQ, f8, f7] | exact bH _ | refine bG _ _ ?_ | exact bC.cl | refine bE _ ?_ | refine bF _ _ ?_ ?_ | refine bA _ ?_ | refine fkx ?_ tru <;> intro hg | refine fkx ?_ ?_ <;> intro hg | exact fkx tru tru | refine And.intro (by omega) ?_ | omega
          all_goals (rfl)
         | true =>
          rw [if_neg (fun h => h.elim (fun h => by omega) (fun h => by rw [hrt] at h; cases h))] at hv
          have ha := sA (d := d) (c := (out.length : Int) + 1) (first := first) hd1 (by omega)
          have hil := yJ out mi (n + q) (by omega)
          rw [Int.toNat_natCast] at hv
          repeat' first | refine aM (nL (s.drop at') bias (by omega) (by omega) (by omega)) ?_ ?_ | refine aM (rH _ _ _ (by omega) (by omega) (by omega) (by omega)) ?_ ?_ | refine aM (qA _) ?_ ?_ | simp (maxSteps := 4000000) (disch := omega) only [aZ, aY, bun, ↓aW, ↓aV, aO, findLabel, ↓reduceIte, imp, shift, aR, aJ, unown, names, aQ, below, aD, aC, aT, aU, aS, ren, aN, aP, aX, renO, belowM, seval, -Int.reduceToNat, hrd, oQ, hqq, hrt, hmi, bT, b9, eQ, f8, f7] | exact bH _ | refine bG _ _ ?_ | exact bC.cl | refine bE _ ?_ | refine bF _ _ ?_ ?_ | refine bA _ ?_ | refine fkx ?_ tru <;> intro hg | refine fkx ?_ ?_ <;> intro hg | exact fkx tru tru | refine And.intro (by omega) ?_ | omega
          have htl : (List.take mi (out.map aB)).length = mi := by simp; omega
          have htl2 : (List.take (out.length - mi) (List.drop mi (out.map aB))).length = out.length - mi := by simp
          refine ⟨htl, by omega, by omega, htl, by omega, by omega, by omega, by omega, htl, htl2, by omega, by omega, ?_⟩
          have htd : List.take (out.length - mi) (List.drop mi (out.map aB)) = (out.drop mi).map aB := by rw [← List.map_drop, List.take_of_length_le (by simp)]
          have hins : List.take mi (out.map aB) ++ .v (.int .i32 (n + q)) :: List.drop mi (out.map aB) = (fM out mi (n + q)).map aB := by simp [fM, aB]
          have hatn : ((at' : Int) + (((s.length - at' : Nat) : Int) - r.length)) = ((s.length - r.length : Nat) : Int) := by omega
          have hln : mi + 1 + (out.length - mi) = (fM out mi (n + q)).length := by omega
          refine ⟨(f, s.length - r.length, ⟨r, n + q, mi + 1, adapt d (out.length + 1) first, false, fM out mi (n + q)⟩), ⟨⟨?_, ?_, ?_, ?_, ?_, ?_, ?_, ?_⟩, ?_, hr1.symm, hv⟩, ?_, [0, 2], ?_⟩
          all_goals first | (dsimp only; omega) | skip
          rw [htd, hln, hatn]
          simp only [wkr, pY, ren, cY, rU, renO, fZ]
          (simp (disch := omega) [wk, aL, aI, aD, aC, get, aK, belowM, below, belows, aA, aB, Bv, U8, Sv, aC, obj, hins, List.map_take] <;> try omega)
          all_goals exact hins
     ·have hnil := PY hlt
      have e : gG (f + 1) ⟨s.drop at', n, i, bias, first, out⟩ = some out := by rw [hnil]; rfl
      rw [← hv, e]
      exact kD tru tru tru tru
      all_goals (rfl)
end Go.AE
-- types: B3 B4 B5 B9 B21 B63 B118
end
