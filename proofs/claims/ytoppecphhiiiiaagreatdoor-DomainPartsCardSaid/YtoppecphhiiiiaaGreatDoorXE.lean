/- Contracts of functions that the laws of this seat reach, and plain laws of what they compute. No condition beyond each statement's own. -/
import Derived.Test.YtoppecphhiiiiaaGreatDoorK1
import Derived.Test.YtoppecphhiiiiaaGreatDoorU1
import Derived.Test.YtoppecphhiiiiaaGreatDoorAERange
import Derived.Shelf.Abstract
import Derived.Test.YtoppecphhiiiiaaGreatDoorV1
import Derived.Test.YtoppecphhiiiiaaGreatDoorAEBun
import Derived.WalkKit
import Derived.Lib.Walk
import Derived.Lib.SliceRun
import Derived.Lib.JoinLaws
import Derived.Lib.AppendZerosOnto
import Derived.Lib.Overlaps
import Derived.Laws.Externs
import Derived.Laws.IdiomCopy
import Derived.Laws.NewBlocks
import Derived.Shelf.RegionOpenPlain
set_option linter.unusedVariables false
set_option linter.unusedSimpArgs false
section
namespace Go.AE
open Go.Proofs
set_option maxRecDepth 20000
def z35 (L : List Int) (k : Int) : List AV := [.sl 74 (ranges.flatMap z43), .sl 10 (classes.flatMap z3q), .sl 11 (lowers.flatMap z3z), .mp (sM 42), .mp (pM 42), .sl L.length (L.map I32), I64 k]
def inI (r : Int) : Prop := -2147483648 ≤ r ∧ r ≤ 2147483647
theorem bn_bd {L : List Int} (hb : ∀ c ∈ L, inI c) (k d : Int) (hd : inI d) : -2147483648 ≤ bn L k d ∧ bn L k d ≤ 2147483647 := by
 unfold bn
 split
 · rename_i h
   refine hb _ ?_
   rw [List.getD, List.getElem?_eq_getElem (by omega)]; exact List.getElem_mem _
 · exact hd
theorem m1_in : inI (-1) := by unfold inI; omega
theorem z4w {P Q R S : Prop} {H : Prop} (o : H) (a : Q) (b : R) (c : S) (h : H → Mk P → Hid Q → Hid R → Hid S → P := by
 intro w m q r s
 repeat' first | refine z07 (by first | assumption | (apply_assumption <;> first | assumption | omega)) ?_ ?_ | refine LSp.fit (by assumption) ?_ | simp (maxSteps := 4000000) (disch := omega) only [z13, z12, bun, ↓z05, ↓z01, z03, findLabel, ↓reduceIte, imp, shift, z0g, z0c, unown, names, z08, below, noF, isF, z04, z0a, z09, ren, z0t, z0u, z0h, renO, belowM, seval, -Int.reduceToNat, bT, z14, tab, zco, z35, z3k, z5j, w] | exact z0n _ | refine z0m _ _ ?_ | exact Cln.cl | refine z02 _ ?_ | refine z00 _ _ ?_ ?_ | refine z10 _ ?_ | (refine Fk.fk ?_ ?_ <;> intro hg <;> (try simp only [hg]) <;> (try simp only [z11, arA, arB] at hg) <;> try (exfalso; first | omega | exact Bool.noConfusion hg | exact hg trivial)) | refine And.intro (by omega) ?_ | omega
 first
 | done
 | all_goals (repeat revert hg)
   fail_if_success with_reducible refine m.use ?_
   exact q.out
   first
   | done
   | exact r.out
     first
     | done
     | exact s.out
       first | done | fail) : P := h o ⟨tru⟩ ⟨a⟩ ⟨b⟩ ⟨c⟩
theorem z89 (L : List Int) (hL : L.length ≤ 1000) (k n : Int) (h : 0 ≤ k ∧ k ≤ 1000 ∧ -1100 ≤ n ∧ n ≤ 1100) : z0q Tryz.prog 218 [.ag (z35 L k), I64 n] (I32 (bn L (k + n) (-1))) := by
 refine sp [.tmp 4] Tryz.func218 Tryz.ntmps218 ?_
 refine z4w tru ?_ ?_ ?_ <;> intros
 · rw [y0ky _ (by omega)]
 · rw [y0kw _ (by omega)]
 · unfold bn; rw [if_pos (by omega)]
theorem z42 (r : Int) : z0q Tryz.prog 199 [I32 r] (Bv (arA r)) := by
 refine sp [.tmp 2] Tryz.func199 Tryz.ntmps199 ?_
 refine z4w tru ?_ ?_ tru <;> intros
 all_goals (congr 2; first | rfl | (first | rw [Bool.eq_iff_iff] | skip); simp_all [arA, arB] <;> omega)
theorem z47 (r : Int) : z0q Tryz.prog 202 [I32 r] (Bv (arB r)) := by
 refine sp [.tmp 2] Tryz.func202 Tryz.ntmps202 ?_
 refine z4w tru ?_ ?_ tru <;> intros
 all_goals (congr 2; first | rfl | (first | rw [Bool.eq_iff_iff] | skip); simp_all [arA, arB] <;> omega)
theorem y008 (L : List Int) (hL : L.length ≤ 1000) (k : Nat) (hk : k < L.length) : z0q Tryz.prog 219 [.ag (z35 L k), I64 1] (I64 (jl (L.drop (k + 1)))) := by
 refine sp [.tmp 4] Tryz.func219 Tryz.ntmps219 ?_
 refine z4w tru ?_ tru tru <;> intros
 refine z0j (fun i : Nat => ⟨[(0, .ag (z35 L k)), (1, I64 1), (2, .ptr 0 0), (4, I64 0), (5, I64 (1 + i))], [.row true 1 (z35 L k)]⟩) (fun i => k + 1 + i ≤ L.length ∧ jl (L.drop (k + 1)) = jl (L.drop (k + 1 + i))) (fun i => L.length - i) 0 ⟨by omega, rfl⟩ (by (simp (disch := omega) [wk, wkT, wkM, noF, isF, get, z0b, belowM, below, belows, I64, I32, Bv, U8, Sv, z35] <;> try omega)) ?_
 intro i ⟨hi, he⟩
 by_cases hlt : k + 1 + i < L.length
 · have hb : bn L (k + (1 + i)) (-1) = L.getD (k + 1 + i) 0 := by rw [show (k : Int) + (1 + i) = ((k + 1 + i : Nat) : Int) by omega, y0kx _ hlt]
   (have := @z89; have := @zbs; refine z4w hb ?_ ?_ ?_ <;> intros)
   · rw [he, y076 hlt (by assumption)]
   · refine ⟨i + 1, ⟨by omega, ?_⟩, by omega, by (simp (disch := omega) [wk, wkT, wkM, noF, isF, get, z0b, belowM, below, belows, I64, I32, Bv, U8, Sv, z35] <;> try omega)⟩
     rw [he, y0ht hlt (by assumption)]; rfl
   · have := zxg (c := L.getD (k + 1 + i) 0) (by omega)
     rw [he, y076 hlt (by omega), this]
 · have hb : bn L (k + (1 + i)) (-1) = -1 := y0kw _ (by omega)
   (have := @z89; have := @zbs; refine z4w hb ?_ tru tru <;> intros)
   rw [he, y0mk (by omega)]
theorem y007 (L : List Int) (hL : L.length ≤ 1000) (k : Nat) (hk : k < L.length) : z0q Tryz.prog 219 [.ag (z35 L k), I64 (-1)] (I64 (jb L k)) := by
 refine sp [.tmp 4] Tryz.func219 Tryz.ntmps219 ?_
 refine z4w tru ?_ tru tru <;> intros
 refine z0j (fun i : Nat => ⟨[(0, .ag (z35 L k)), (1, I64 (-1)), (2, .ptr 0 0), (4, I64 0), (5, I64 (-1 - i))], [.row true 1 (z35 L k)]⟩) (fun i => i ≤ k ∧ jb L k = jb L (k - i)) (fun i => L.length - i) 0 ⟨by omega, rfl⟩ (by (simp (disch := omega) [wk, wkT, wkM, noF, isF, get, z0b, belowM, below, belows, I64, I32, Bv, U8, Sv, z35] <;> try omega)) ?_
 intro i ⟨hi, he⟩
 by_cases hlt : i < k
 · have hb : bn L (k + (-1 - i)) (-1) = L.getD (k - i - 1) 0 := by rw [show (k : Int) + (-1 - i) = ((k - i - 1 : Nat) : Int) by omega, y0kx _ (by omega)]
   (have := @z89; have := @zbs; refine z4w hb ?_ ?_ ?_ <;> intros)
   · rw [he, zxd (by omega) (by assumption)]
   · refine ⟨i + 1, ⟨by omega, ?_⟩, by omega, by (simp (disch := omega) [wk, wkT, wkM, noF, isF, get, z0b, belowM, below, belows, I64, I32, Bv, U8, Sv, z35] <;> try omega)⟩
     rw [he, y0b9 (by omega) (by assumption)]; rfl
   · have := zxg (c := L.getD (k - i - 1) 0) (by omega)
     rw [he, zxd (by omega) (by omega), this]
 · have hb : bn L (k + (-1 - i)) (-1) = -1 := y0ky _ (by omega)
   (have := @z89; have := @zbs; refine z4w hb ?_ tru tru <;> intros)
   rw [he, show k - i = 0 by omega]; rfl
theorem y08g (L : List Int) (hL : L.length ≤ 1000) : z0q Tryz.prog 210 [.sl L.length (L.map I32), .fn 199 [] []] (I64 (idx L.length (L.findIdx arA))) := by
 refine sp [.tmp 4] Tryz.func210 Tryz.ntmps210 ?_
 refine z4w tru ?_ tru tru <;> intros
 refine z0j (fun i : Nat => ⟨[(0, .sl L.length (L.map I32)), (1, .fn 199 [] []), (7, I64 L.length), (8, I64 i)], []⟩) (fun i => i ≤ L.length ∧ ∀ j, j < i → arA (L.getD j 0) = false) (fun i => L.length - i) 0 (by simp) (by (simp (disch := omega) [wk, wkT, wkM, noF, isF, get, z0b, belowM, below, belows, I64, I32, Bv, U8, Sv, z35] <;> try omega)) ?_
 intro i ⟨hi, hno⟩
 (have := @z42; refine z4w tru ?_ ?_ ?_ <;> intros)
 · rw [zgl rfl hno (by omega) (by (first | assumption | (simp only [arA, arB, Bool.and_eq_true, Bool.and_eq_false_iff, decide_eq_true_eq, decide_eq_false_iff_not]; assumption)))]
 · exact ⟨i + 1, ⟨by omega, z91 hno (by (first | assumption | (simp only [arA, arB, Bool.and_eq_true, Bool.and_eq_false_iff, decide_eq_true_eq, decide_eq_false_iff_not]; assumption)))⟩, by omega, (by (simp (disch := omega) [wk, wkT, wkM, noF, isF, get, z0b, belowM, below, belows, I64, I32, Bv, U8, Sv, z35] <;> try omega))⟩
 · rw [zbq rfl hno (by omega)]
theorem y08f (L : List Int) (hL : L.length ≤ 1000) : z0q Tryz.prog 201 [.sl L.length (L.map I32), .fn 199 [] []] (Bv (L.any arA)) := by
 refine sp [.tmp 4] Tryz.func201 Tryz.ntmps201 ?_
 (have := y08g L hL; refine z4w tru ?_ tru tru <;> intros)
 rw [← zsw rfl]
theorem y09p (L : List Int) (hL : L.length ≤ 1000) : z0q Tryz.prog 210 [.sl L.length (L.map I32), .fn 202 [] []] (I64 (idx L.length (L.findIdx arB))) := by
 refine sp [.tmp 4] Tryz.func210 Tryz.ntmps210 ?_
 refine z4w tru ?_ tru tru <;> intros
 refine z0j (fun i : Nat => ⟨[(0, .sl L.length (L.map I32)), (1, .fn 202 [] []), (7, I64 L.length), (8, I64 i)], []⟩) (fun i => i ≤ L.length ∧ ∀ j, j < i → arB (L.getD j 0) = false) (fun i => L.length - i) 0 (by simp) (by (simp (disch := omega) [wk, wkT, wkM, noF, isF, get, z0b, belowM, below, belows, I64, I32, Bv, U8, Sv, z35] <;> try omega)) ?_
 intro i ⟨hi, hno⟩
 (have := @z47; refine z4w tru ?_ ?_ ?_ <;> intros)
 · rw [zgl rfl hno (by omega) (by (first | assumption | (simp only [arA, arB, Bool.and_eq_true, Bool.and_eq_false_iff, decide_eq_true_eq, decide_eq_false_iff_not]; assumption)))]
 · exact ⟨i + 1, ⟨by omega, z91 hno (by (first | assumption | (simp only [arA, arB, Bool.and_eq_true, Bool.and_eq_false_iff, decide_eq_true_eq, decide_eq_false_iff_not]; assumption)))⟩, by omega, (by (simp (disch := omega) [wk, wkT, wkM, noF, isF, get, z0b, belowM, below, belows, I64, I32, Bv, U8, Sv, z35] <;> try omega))⟩
 · rw [zbq rfl hno (by omega)]
theorem y09o (L : List Int) (hL : L.length ≤ 1000) : z0q Tryz.prog 201 [.sl L.length (L.map I32), .fn 202 [] []] (Bv (L.any arB)) := by
 refine sp [.tmp 4] Tryz.func201 Tryz.ntmps201 ?_
 (have := y09p L hL; refine z4w tru ?_ tru tru <;> intros)
 rw [← zsw rfl]
theorem y052 (L : List Int) (k c : Int) : z0q Tryz.prog 221 [I32 c, .cp (z35 L k)] (Bv (asn c)) := by
 refine sp [.tmp 3] Tryz.func221 Tryz.ntmps221 ?_
 (have := @zb1; refine z4w tru ?_ ?_ tru <;> intros)
 all_goals (congr 2; unfold asn; simp_all)
theorem y053 (L : List Int) (hL : L.length ≤ 1000) (M : List Int) (k : Int) : z0q Tryz.prog 210 [.sl L.length (L.map I32), .fn 221 [] [.cp (z35 M k)]] (I64 (idx L.length (L.findIdx asn))) := by
 refine sp [.tmp 4] Tryz.func210 Tryz.ntmps210 ?_
 refine z4w tru ?_ tru tru <;> intros
 refine z0j (fun i : Nat => ⟨[(0, .sl L.length (L.map I32)), (1, .fn 221 [] [.cp (z35 M k)]), (7, I64 L.length), (8, I64 i)], []⟩) (fun i => i ≤ L.length ∧ ∀ j, j < i → asn (L.getD j 0) = false) (fun i => L.length - i) 0 (by simp) (by (simp (disch := omega) [wk, wkT, wkM, noF, isF, get, z0b, belowM, below, belows, I64, I32, Bv, U8, Sv, z35] <;> try omega)) ?_
 intro i ⟨hi, hno⟩
 (have := @y052; refine z4w tru ?_ ?_ ?_ <;> intros)
 · rw [zgl rfl hno (by omega) (by (first | assumption | (simp only [arA, arB, Bool.and_eq_true, Bool.and_eq_false_iff, decide_eq_true_eq, decide_eq_false_iff_not]; assumption)))]
 · exact ⟨i + 1, ⟨by omega, z91 hno (by (first | assumption | (simp only [arA, arB, Bool.and_eq_true, Bool.and_eq_false_iff, decide_eq_true_eq, decide_eq_false_iff_not]; assumption)))⟩, by omega, (by (simp (disch := omega) [wk, wkT, wkM, noF, isF, get, z0b, belowM, below, belows, I64, I32, Bv, U8, Sv, z35] <;> try omega))⟩
 · rw [zbq rfl hno (by omega)]
theorem y051 (L : List Int) (hL : L.length ≤ 1000) (M : List Int) (k : Int) : z0q Tryz.prog 201 [.sl L.length (L.map I32), .fn 221 [] [.cp (z35 M k)]] (Bv (L.any asn)) := by
 refine sp [.tmp 4] Tryz.func201 Tryz.ntmps201 ?_
 (have := y053 L hL M k; refine z4w tru ?_ tru tru <;> intros)
 rw [← zsw rfl]
theorem zot (L : List Int) (hL : L.length ≤ 1000) (hb : ∀ c ∈ L, inI c) (k : Nat) (hk : k < L.length) : z0q Tryz.prog 211 [.ag (z35 L k)] (Bv (y0gn L k)) := by
 refine sp [.tmp 2] Tryz.func211 Tryz.ntmps211 ?_
 have hbd := bn_bd hb (k + -1) (-1) m1_in
 (have := @z89; have := @z5c; refine z4w tru ?_ tru tru <;> intros)
 rfl
theorem zzj (L : List Int) (hL : L.length ≤ 1000) (hb : ∀ c ∈ L, inI c) (k : Nat) (hk : k < L.length) : z0q Tryz.prog 212 [.ag (z35 L k)] (Bv (y05b L k)) := by
 refine sp [.tmp 2] Tryz.func212 Tryz.ntmps212 ?_
 repeat' first | refine z07 (y008 _ hL _ hk) ?_ ?_ | refine z07 (y007 _ hL _ hk) ?_ ?_ | refine z07 (zot _ hL hb _ hk) ?_ ?_ | simp (maxSteps := 4000000) (disch := omega) only [z13, z12, bun, ↓z05, ↓z01, z03, findLabel, ↓reduceIte, imp, shift, z0g, z0c, unown, names, z08, below, noF, isF, z04, z0a, z09, ren, z0t, z0u, z0h, renO, belowM, seval, -Int.reduceToNat, zo4, z14, tab, zco, z35, z3k, z5j] | exact z0n _ | refine z0m _ _ ?_ | exact Cln.cl | refine z02 _ ?_ | refine z00 _ _ ?_ ?_ | refine z10 _ ?_ | (refine Fk.fk ?_ ?_ <;> intro hg <;> (try simp only [hg]) <;> (try simp only [z11, arA, arB] at hg) <;> try (exfalso; first | omega | exact Bool.noConfusion hg | exact hg trivial)) | refine And.intro (by omega) ?_ | omega
 all_goals (congr 2; simp_all [y05b])
theorem zok (L : List Int) (hL : L.length ≤ 1000) (k : Nat) (hk : k < L.length) : z0q Tryz.prog 213 [.ag (z35 L k)] (Bv (y0gb L k)) := by
 refine sp [.tmp 2] Tryz.func213 Tryz.ntmps213 ?_
 have e : y0gb L k = ((bn L (k + -1) (-1) == 108) && (bn L (k + 1) (-1) == 108)) := rfl
 (have := @z89; refine z4w tru ?_ ?_ tru <;> intros)
 all_goals (congr 2; simp_all)
theorem y003 (L : List Int) (hL : L.length ≤ 1000) (k : Nat) (hk : k < L.length) : z0q Tryz.prog 214 [.ag (z35 L k)] (Bv (y0f0 L k)) := by
 refine sp [.tmp 2] Tryz.func214 Tryz.ntmps214 ?_
 (have := @z89; have := @zb1; refine z4w tru ?_ tru tru <;> intros)
 rfl
theorem zsv (L : List Int) (hL : L.length ≤ 1000) (k : Nat) (hk : k < L.length) : z0q Tryz.prog 215 [.ag (z35 L k)] (Bv (hebB L k)) := by
 refine sp [.tmp 2] Tryz.func215 Tryz.ntmps215 ?_
 (have := @z89; have := @zb1; refine z4w tru ?_ tru tru <;> intros)
 rfl
theorem zzf (L : List Int) (hL : L.length ≤ 1000) (k : Nat) (hk : k < L.length) : z0q Tryz.prog 216 [.ag (z35 L k)] (Bv (L.any asn)) := by
 refine sp [.tmp 2] Tryz.func216 Tryz.ntmps216 ?_
 (have := y051 L hL L k; exact z4w tru tru tru tru)
theorem y00y (L : List Int) (hL : L.length ≤ 1000) (k : Int) : z0q Tryz.prog 200 [.ag (z35 L k)] (Bv (!L.any arB)) := by
 refine sp [.tmp 2] Tryz.func200 Tryz.ntmps200 ?_
 (have := y09o L hL; exact z4w tru tru tru tru)
theorem y00z (L : List Int) (hL : L.length ≤ 1000) (k : Int) : z0q Tryz.prog 203 [.ag (z35 L k)] (Bv (!L.any arA)) := by
 refine sp [.tmp 2] Tryz.func203 Tryz.ntmps203 ?_
 (have := y08f L hL; exact z4w tru tru tru tru)
def z7w : List (Value × AV) := [(.int .i32 8205, .fn 211 [] []), (.int .i32 8204, .fn 212 [] []), (.int .i32 183, .fn 213 [] []), (.int .i32 885, .fn 214 [] []), (.int .i32 1523, .fn 215 [] []), (.int .i32 1524, .fn 215 [] []), (.int .i32 12539, .fn 216 [] [])]
theorem z9q : (∀ e ∈ z7w, z1c C1 21 e.1 = true) = True := by
 simp only [eq_iff_iff, iff_true]
 intro e he
 simp only [z7w, List.mem_cons, List.not_mem_nil, or_false] at he
 rcases he with rfl | rfl | rfl | rfl | rfl | rfl | rfl <;> rfl
theorem z2o : z0q Tryz.prog 204 [] (.mp z7w) := by
 refine z8x (z := true) (ts := [.tmp 0]) ok1 Tryz.func204 rfl rfl (by decide +kernel) (by simp [Tryz.ntmps204]) rfl ?_
 repeat' first | simp (maxSteps := 4000000) (disch := omega) only [z13, z12, bun, ↓z05, ↓z01, z03, findLabel, ↓reduceIte, imp, shift, z0g, z0c, unown, names, z08, below, noF, isF, z04, z0a, z09, ren, z0t, z0u, z0h, renO, belowM, seval, -Int.reduceToNat, mput, eqK, eq1, List.forall_mem_cons, List.not_mem_nil, false_implies, implies_true, y03u, z14, tab, zco, z35, z3k, z5j, z9q] | refine z10 _ ?_ | (refine Fk.fk ?_ ?_ <;> intro hg <;> (try simp only [hg]) <;> (try simp only [z11, arA, arB] at hg) <;> try (exfalso; first | omega | exact Bool.noConfusion hg | exact hg trivial)) | refine And.intro (by omega) ?_ | omega
 rfl
def y0ik : Rl → AV
 | .no => .v .nilFunc
 | .a => .fn 200 [] []
 | .b => .fn 203 [] []
 | .de => .fn 211 [] []
 | .bo => .fn 212 [] []
 | .be => .fn 213 [] []
 | .gr => .fn 214 [] []
 | .he => .fn 215 [] []
 | .as => .fn 216 [] []
def z5r (r : Int) : AV := y0ik (rl r)
theorem y0ij {r : Int} (h1 : r ≠ 8205) (h2 : r ≠ 8204) (h3 : r ≠ 183) (h4 : r ≠ 885) (h5 : r ≠ 1523) (h6 : r ≠ 1524) (h7 : r ≠ 12539) : mget (.int .i32 r) z7w = none := by
 have e1 := beq_eq_false_iff_ne.2 h1
 have e2 := beq_eq_false_iff_ne.2 h2
 have e3 := beq_eq_false_iff_ne.2 h3
 have e4 := beq_eq_false_iff_ne.2 h4
 have e5 := beq_eq_false_iff_ne.2 h5
 have e6 := beq_eq_false_iff_ne.2 h6
 have e7 := beq_eq_false_iff_ne.2 h7
 simp only [z7w, mget, eqK, eq1, e1, e2, e3, e4, e5, e6, e7]
theorem zij {P Q R S : Prop} (a : Q) (b : R) (c : S) (h : Mk P → Hid Q → Hid R → Hid S → P := by
 intro m q r s
 repeat' first | refine z07 (by first | assumption | (apply_assumption <;> first | assumption | omega)) ?_ ?_ | refine LSp.fit (by assumption) ?_ | simp (maxSteps := 4000000) (disch := omega) only [z13, z12, bun, ↓z05, ↓z01, z03, findLabel, ↓reduceIte, imp, shift, z0g, z0c, unown, names, z08, below, noF, isF, z04, z0a, z09, ren, z0t, z0u, z0h, renO, belowM, seval, -Int.reduceToNat, bT, z14, tab, zco, z35, z3k, z5j, z9q, mput, eqK, eq1, List.forall_mem_cons, List.not_mem_nil, *] | exact z0n _ | refine z0m _ _ ?_ | exact Cln.cl | refine z02 _ ?_ | refine z00 _ _ ?_ ?_ | refine z10 _ ?_ | (refine Fk.fk ?_ ?_ <;> intro hg <;> (try simp only [hg]) <;> (try simp only [z11, arA, arB] at hg) <;> try (exfalso; first | omega | exact Bool.noConfusion hg | exact hg trivial)) | refine And.intro (by omega) ?_ | omega
 first
 | done
 | all_goals (repeat revert hg)
   fail_if_success with_reducible refine m.use ?_
   exact q.out
   first
   | done
   | exact r.out
     first
     | done
     | exact s.out
       first | done | fail) : P := h ⟨tru⟩ ⟨a⟩ ⟨b⟩ ⟨c⟩
theorem y093 (r : Int) : z0q Tryz.prog 184 [I32 r] (z5r r) := by
 refine sp [.tmp 2] Tryz.func184 Tryz.ntmps184 ?_
 rcases zyp r with ⟨h, hr⟩ | ⟨h, h', hr⟩ | ⟨rfl, hr⟩ | ⟨rfl, hr⟩ | ⟨rfl, hr⟩ | ⟨rfl, hr⟩ | ⟨rfl, hr⟩ | ⟨rfl, hr⟩ | ⟨rfl, hr⟩ | ⟨⟨h, h', h1, h2, h3, h4, h5, h6, h7⟩, hr⟩
 · have hv : z5r r = .fn 200 [] [] := by unfold z5r; rw [hr]; rfl
   rw [hv]
   (have := @z42; have := @z47; have := z2o; exact zij tru tru tru)
 · have hv : z5r r = .fn 203 [] [] := by unfold z5r; rw [hr]; rfl
   rw [hv]
   (have := @z42; have := @z47; have := z2o; exact zij tru tru tru)
 · have h : arA 8205 = false := by decide
   have h' : arB 8205 = false := by decide
   have hm : mget (.int .i32 8205) z7w = some (.fn 211 [] []) := rfl
   have hv : z5r 8205 = .fn 211 [] [] := by unfold z5r; rw [hr]; rfl
   rw [hv]
   (have := @z42; have := @z47; have := z2o; exact zij tru tru tru)
 · have h : arA 8204 = false := by decide
   have h' : arB 8204 = false := by decide
   have hm : mget (.int .i32 8204) z7w = some (.fn 212 [] []) := rfl
   have hv : z5r 8204 = .fn 212 [] [] := by unfold z5r; rw [hr]; rfl
   rw [hv]
   (have := @z42; have := @z47; have := z2o; exact zij tru tru tru)
 · have h : arA 183 = false := by decide
   have h' : arB 183 = false := by decide
   have hm : mget (.int .i32 183) z7w = some (.fn 213 [] []) := rfl
   have hv : z5r 183 = .fn 213 [] [] := by unfold z5r; rw [hr]; rfl
   rw [hv]
   (have := @z42; have := @z47; have := z2o; exact zij tru tru tru)
 · have h : arA 885 = false := by decide
   have h' : arB 885 = false := by decide
   have hm : mget (.int .i32 885) z7w = some (.fn 214 [] []) := rfl
   have hv : z5r 885 = .fn 214 [] [] := by unfold z5r; rw [hr]; rfl
   rw [hv]
   (have := @z42; have := @z47; have := z2o; exact zij tru tru tru)
 · have h : arA 1523 = false := by decide
   have h' : arB 1523 = false := by decide
   have hm : mget (.int .i32 1523) z7w = some (.fn 215 [] []) := rfl
   have hv : z5r 1523 = .fn 215 [] [] := by unfold z5r; rw [hr]; rfl
   rw [hv]
   (have := @z42; have := @z47; have := z2o; exact zij tru tru tru)
 · have h : arA 1524 = false := by decide
   have h' : arB 1524 = false := by decide
   have hm : mget (.int .i32 1524) z7w = some (.fn 215 [] []) := rfl
   have hv : z5r 1524 = .fn 215 [] [] := by unfold z5r; rw [hr]; rfl
   rw [hv]
   (have := @z42; have := @z47; have := z2o; exact zij tru tru tru)
 · have h : arA 12539 = false := by decide
   have h' : arB 12539 = false := by decide
   have hm : mget (.int .i32 12539) z7w = some (.fn 216 [] []) := rfl
   have hv : z5r 12539 = .fn 216 [] [] := by unfold z5r; rw [hr]; rfl
   rw [hv]
   (have := @z42; have := @z47; have := z2o; exact zij tru tru tru)
 · have hm := y0ij h1 h2 h3 h4 h5 h6 h7
   have hv : z5r r = .v .nilFunc := by unfold z5r; rw [hr]; rfl
   rw [hv]
   (have := @z42; have := @z47; have := z2o; exact zij tru tru tru)
theorem y081 (L : List Int) (hL : L.length ≤ 1000) (hb : ∀ c ∈ L, inI c) (k : Int) (h0 : -9223372036854775808 ≤ k) (h1 : k ≤ 9223372036854775807) : z0q Tryz.prog 152 [tab, .sl L.length (L.map I32), I64 k] (I64 (need L k)) := by
 refine sp [.tmp 6] Tryz.func152 Tryz.ntmps152 ?_
 by_cases hk : 0 ≤ k ∧ k < L.length
 · obtain ⟨q, rfl⟩ : ∃ q : Nat, k = q := ⟨k.toNat, by omega⟩
   have hq : q < L.length := by omega
   cases hr : rl (L.getD q 0)
   all_goals
     have hv : z5r (L.getD q 0) = y0ik (rl (L.getD q 0)) := rfl
     rw [hr] at hv
     simp only [y0ik] at hv
     have hn : need L q = z6s L q := y0i5 hq
     unfold z6s at hn
     rw [hr] at hn
     repeat' first | refine z07 (y093 _) ?_ ?_ | refine z07 (y00y L hL _) ?_ ?_ | refine z07 (y00z L hL _) ?_ ?_ | refine z07 (zot L hL hb q hq) ?_ ?_ | refine z07 (zzj L hL hb q hq) ?_ ?_ | refine z07 (zok L hL q hq) ?_ ?_ | refine z07 (y003 L hL q hq) ?_ ?_ | refine z07 (zsv L hL q hq) ?_ ?_ | refine z07 (zzf L hL q hq) ?_ ?_ | simp (maxSteps := 4000000) (disch := omega) only [z13, z12, bun, ↓z05, ↓z01, z03, findLabel, ↓reduceIte, imp, shift, z0g, z0c, unown, names, z08, below, noF, isF, z04, z0a, z09, ren, z0t, z0u, z0h, renO, belowM, seval, -Int.reduceToNat, hv, y0j1, zo4, z14, tab, zco, z35, z3k, z5j, z9q] | exact z0n _ | refine z0m _ _ ?_ | exact Cln.cl | refine z02 _ ?_ | refine z00 _ _ ?_ ?_ | refine z10 _ ?_ | (refine Fk.fk ?_ ?_ <;> intro hg <;> (try simp only [hg]) <;> (try simp only [z11, arA, arB] at hg) <;> try (exfalso; first | omega | exact Bool.noConfusion hg | exact hg trivial)) | refine And.intro (by omega) ?_ | omega
     all_goals (rw [hn]; simp_all [mets])
 · repeat' first | simp (maxSteps := 4000000) (disch := omega) only [z13, z12, bun, ↓z05, ↓z01, z03, findLabel, ↓reduceIte, imp, shift, z0g, z0c, unown, names, z08, below, noF, isF, z04, z0a, z09, ren, z0t, z0u, z0h, renO, belowM, seval, -Int.reduceToNat, y0j1, zo4, z14, tab, zco, z35, z3k, z5j, z9q] | refine z10 _ ?_ | (refine Fk.fk ?_ ?_ <;> intro hg <;> (try simp only [hg]) <;> (try simp only [z11, arA, arB] at hg) <;> try (exfalso; first | omega | exact Bool.noConfusion hg | exact hg trivial)) | refine And.intro (by omega) ?_ | omega
   all_goals (rw [y0bl (by omega)])
def y0j9 : List Int → Int
 | [] => 0
 | c :: l => if bidi c = 6 then y0j9 l else bidi c
def zeq (L : List Int) : Int := y0j9 L.reverse
theorem zoz {q : List Int} (h : ∀ c ∈ q, bidi c = 6) (l : List Int) : y0j9 (q ++ l) = y0j9 l := by
 induction q with
 | nil => rfl
 | cons c q ih => simp only [List.cons_append, y0j9]; rw [if_pos (h c (by simp)), ih fun c hc => h c (List.mem_cons_of_mem _ hc)]
def cn (L : List Int) (k : Int) : Int := (L.countP fun c => bidi c == k : Nat)
def y0l3 (L : List Int) : List AV := [I64 (cn L 0), I64 (cn L 1), I64 (cn L 2), I64 (cn L 3), I64 (cn L 4), I64 (cn L 5), I64 (cn L 6), I64 (cn L 7)]
theorem y0bw : (ranges.all fun x => decide (0 ≤ x.2.2.2.1) && decide (x.2.2.2.1 ≤ 7)) = true := by decide +kernel
theorem y0ah (c : Int) : 0 ≤ bidi c ∧ bidi c ≤ 7 := by
 unfold bidi ofR
 cases h : ranges.find? (z44 c) with
 | none => simp [z4e]
 | some x =>
   have := List.all_eq_true.1 y0bw x (List.mem_of_find?_eq_some h)
   simpa using this
theorem zzh (c : Int) : bidi c = 0 ∨ bidi c = 1 ∨ bidi c = 2 ∨ bidi c = 3 ∨ bidi c = 4 ∨ bidi c = 5 ∨ bidi c = 6 ∨ bidi c = 7 := by have := y0ah c; omega
theorem y0l2 (k : Int) : cn [] k = 0 := rfl
theorem y0gi (L : List Int) (c k : Int) : cn (L ++ [c]) k = cn L k + if bidi c = k then 1 else 0 := by
 unfold cn; rw [List.countP_append, List.countP_singleton]
 by_cases h : bidi c = k <;> simp [h]
theorem zos (L : List Int) (k : Int) : 0 ≤ cn L k ∧ cn L k ≤ L.length := by
 unfold cn; exact ⟨by omega, by have := List.countP_le_length (p := fun c => bidi c == k) (l := L); omega⟩
theorem zju (L : List Int) (k : Int) : (decide (cn L k > 0)) = L.any fun c => bidi c == k := by
 unfold cn
 rw [Bool.eq_iff_iff, decide_eq_true_eq, List.any_eq_true]
 constructor
 · intro h
   have : 0 < L.countP fun c => bidi c == k := by omega
   rw [List.countP_pos_iff] at this
   exact this
 · intro h
   have := List.countP_pos_iff.2 h
   omega
theorem y0gj (L : List Int) (k : Int) : (cn L k == 0) = !L.any fun c => bidi c == k := by
 rw [← zju]
 have := zos L k
 rw [Bool.eq_iff_iff]; simp; omega
def rtl (c : Int) : Bool := bidi c == 2 || bidi c == 3 || bidi c == 5
def y06v (L : List Int) : Bool := L.any rtl
theorem y0hk (L : List Int) : (decide (cn L 2 + cn L 3 + cn L 5 > 0)) = y06v L := by
 have h2 := zos L 2
 have h3 := zos L 3
 have h5 := zos L 5
 have e2 := zju L 2
 have e3 := zju L 3
 have e5 := zju L 5
 have e : y06v L = ((L.any fun c => bidi c == 2) || (L.any fun c => bidi c == 3) || (L.any fun c => bidi c == 5)) := by
   unfold y06v
   rw [Bool.eq_iff_iff]
   simp only [List.any_eq_true, Bool.or_eq_true, rtl]
   constructor
   · rintro ⟨c, hc, (h | h) | h⟩
     · exact .inl (.inl ⟨c, hc, h⟩)
     · exact .inl (.inr ⟨c, hc, h⟩)
     · exact .inr ⟨c, hc, h⟩
   · rintro ((⟨c, hc, h⟩ | ⟨c, hc, h⟩) | ⟨c, hc, h⟩)
     · exact ⟨c, hc, .inl (.inl h)⟩
     · exact ⟨c, hc, .inl (.inr h)⟩
     · exact ⟨c, hc, .inr h⟩
 rw [e, ← e2, ← e3, ← e5, Bool.eq_iff_iff]
 simp; omega
def zqw (L : List Int) : Int := match L with
 | [] => 0
 | c :: _ => if bidi c = 2 ∨ bidi c = 3 then 2 else if bidi c = 1 then 1 else 0
def zto (L : List Int) : Bool :=
 if zqw L = 2 then (!L.any fun c => bidi c == 1) && ((zeq L == 2) || (zeq L == 3) || (zeq L == 4) || (zeq L == 5)) && !((L.any fun c => bidi c == 4) && (L.any fun c => bidi c == 5))
 else if zqw L = 1 then !y06v L && ((zeq L == 1) || (zeq L == 4))
 else L.isEmpty
theorem ztu (L : List Int) : zqw L = 0 ∨ zqw L = 1 ∨ zqw L = 2 := by
 unfold zqw; split
 · simp
 · split
   · simp
   · split <;> simp
theorem y018 {L : List Int} (h : 0 < L.length) : zqw L = if bidi (L.getD 0 0) = 2 ∨ bidi (L.getD 0 0) = 3 then 2 else if bidi (L.getD 0 0) = 1 then 1 else 0 := by
 cases L with
 | nil => simp at h
 | cons c l => rfl
def bkL (L : List Int) : List (Int × Int) := (List.range L.length).map fun j : Nat => ((L.length : Int) - 1 - (j : Int), L.getD (L.length - 1 - j) 0)
def y01p (x : Int × Int) : Array Value := #[.int .i64 x.1, .int .i32 x.2]
def KpF (F : Nat → Prop) (W W' : World) : Prop := ∀ b, F b → W'.heap[b]? = W.heap[b]?
theorem y0aj {L : List Int} {j : Nat} (h : j < L.length) : (bkL L).take (j + 1) = (bkL L).take j ++ [((L.length : Int) - 1 - j, L.getD (L.length - 1 - j) 0)] := by
 unfold bkL; rw [List.take_add_one]; simp [h]
theorem y0gd {L : List Int} : (bkL L).take L.length = bkL L := List.take_of_length_le (by simp [bkL])
def bkS (L : List Int) (yv p : Value) (j : Nat) : St := ⟨[(0, .v yv), (1, .v p), (3, I64 ((L.length : Int) - 1 - j))], []⟩
theorem y0kv {L : List Int} {yv p : Value} {j : Nat} {s : St} (h : wk s (bkS L yv p j)) : get s.t 0 = .v yv ∧ get s.t 1 = .v p ∧ get s.t 3 = I64 ((L.length : Int) - 1 - j) := by
 obtain ⟨h, _⟩ := h
 simp only [bkS, wkT, and_true] at h
 exact h
theorem zsf {P Q R S : Prop} (a : Q) (b : R) (c : S) (h : Mk P → Hid Q → Hid R → Hid S → P := by
 intro m q r s
 repeat' first | refine z07 (by first | assumption | (apply_assumption <;> first | assumption | omega)) ?_ ?_ | refine LSp.fit (by assumption) ?_ | simp (maxSteps := 4000000) (disch := omega) only [z13, z12, bun, ↓z05, ↓z01, z03, findLabel, ↓reduceIte, imp, shift, z0g, z0c, unown, names, z08, below, noF, isF, z04, z0a, z09, ren, z0t, z0u, z0h, renO, belowM, seval, -Int.reduceToNat, bT, z14, z3k, z5j, z1k, y064, *] | exact z0n _ | refine z0m _ _ ?_ | exact Cln.cl | refine z02 _ ?_ | refine z00 _ _ ?_ ?_ | refine z10 _ ?_ | (refine Fk.fk ?_ ?_ <;> intro hg <;> (try simp only [hg]) <;> (try simp only [z11] at hg) <;> try (exfalso; first | omega | exact Bool.noConfusion hg | exact hg trivial)) | refine And.intro (by omega) ?_ | omega
 first
 | done
 | all_goals (repeat revert hg)
   fail_if_success with_reducible refine m.use ?_
   exact q.out
   first
   | done
   | exact r.out
     first
     | done
     | exact s.out
       first | done | fail) : P := h ⟨tru⟩ ⟨a⟩ ⟨b⟩ ⟨c⟩
theorem zzg (L : List Int) (hL : L.length ≤ 1000) (n : Nat) (w : World) (F : Nat → Prop) (hF : ∀ b, F b → b < w.heap.size) (hT : zcu Tryz.prog w F) (p : Value) (hp : Rep w F [] (.cp [.sl L.length (L.map I32)]) p) :
   SeqStopsK (fr none) n Tryz.prog 205 #[p] y01p (KpF F) (fun xs => xs = bkL L) (fun pre => pre <+: bkL L) L.length w := by
 skip
 intro l J Jx W hW hJ hJx hY h0
 have hFW : ∀ b, F b → b < W.heap.size := fun b hb => Nat.lt_of_lt_of_le (hF b hb) hW.size
 have same : ∀ W', (∀ b, F b → W'.heap[b]? = W.heap[b]?) → Rep W' F [] (.cp [.sl L.length (L.map I32)]) p := fun W' h => Rep.mono ⟨fun _ h => h, fun b hb => (h b hb).trans (hW.block b (hF b hb))⟩ (z2v.refl _) hp
 obtain ⟨yv, hyv⟩ : ∃ yv : Value, yv = .func (.yield l) #[] #[] := ⟨_, rfl⟩
 refine callsIn_of_wp Tryz.func205 rfl trivial ?_
 rw [show Tryz.f205.ntmps = 19 from Tryz.ntmps205]
 have hTW : zcu Tryz.prog W F := z73 hT hFW (fun b hb => hW.block b (hF b hb))
 have hrel := zf7 (N := 19) (ds := []) (args := [.v yv, .v p]) (vs := [yv, p]) hTW hFW (.cons (.v _) (.cons (.v _) .nil)) (by simp)
 rw [show (#[Value.func (.yield l) #[] #[]] ++ #[p] : Array Value) = [yv, p].toArray by rw [hyv]; rfl]
 have grow : ∀ {w1 w2 : World} {s : List (Int × Int)}, z65 w1 w2 → J s w1 → J s w2 := fun h hj => hJ _ _ _ none hj ⟨h.os, h.tape, h.output, h.size, fun k hk _ => h.block k hk⟩ (fun r e => by cases e)
 have hinv : ∀ {V : z2e} {w0 w1 : World} {G1 : Gh} {F1 : Nat → Prop} {a1 : Act} {s1 : St} {j : Nat}, Rel Tryz.prog 19 V w0 s1 G1 F1 a1 w1 → wk s1 (bkS L yv p j) → a1.defers = V.ds ∧ a1.tmps.size = 19 ∧ a1.tmps.getD 0 undef = yv ∧ a1.tmps.getD 1 undef = p ∧ a1.tmps.getD 3 undef = .int .i64 ((L.length : Int) - 1 - j) := by
   intro V w0 w1 G1 F1 a1 s1 j h hk
   obtain ⟨k0, k1, k3⟩ := y0kv hk
   exact ⟨h.defers, h.tsize, h.atv k0, h.atv k1, h.atv k3⟩
 have hrelj : ∀ {a1 : Act} {w1 : World} {j : Nat}, (∀ b, F b → w1.heap[b]? = W.heap[b]?) → a1.tmps.size = 19 → a1.tmps.getD 0 undef = yv → a1.tmps.getD 1 undef = p → a1.tmps.getD 3 undef = .int .i64 ((L.length : Int) - 1 - j) → Rel Tryz.prog 19 ⟨F, [], [], a1.defers, none, fun _ => none⟩ w1 (bkS L yv p j) [] F a1 w1 := by
   intro a1 w1 j hs hn g0 g1 g3
   have hl1 : ∀ b, F b → b < w1.heap.size := fun b hb => by
     have := hFW b hb
     have h1 := hs b hb
     rw [Array.getElem?_eq_getElem this] at h1
     exact (Array.getElem?_eq_some_iff.1 h1).1
   refine zqm (z73 hTW hl1 hs) hl1 hn fun k => ?_
   · simp only [bkS, get]
     split
     · rename_i e; subst e; rw [g0]; exact .v _
     split
     · rename_i e; subst e; rw [g1]; exact .v _
     split
     · rename_i e; subst e; rw [g3]; exact .v _
     exact .junk _
 refine wpIn_seq (wpIn_region_lit ?_)
 refine zbz none n ok1 (t := 63) zmn rfl rfl rfl rfl hrel (by rw [hrel.atv (k := 1) (v := p) rfl]; exact same W (fun _ _ => rfl)) ?_
 intro a1 h1
 refine zf3 none n ok1 (z8b (fun s => wk s (bkS L yv p 0)) (fun _ _ => False) (fun _ => False)) (by decide) h1 ?_ ?_
 · refine zsf ?_ tru tru <;> intros
   unfold bkS
   exact wk0
 rintro a2 w2 ⟨s2, G2, F2, hk2, h2⟩
 obtain ⟨d2, n2, g20, g21, g23⟩ := hinv h2 hk2
 have hgr := h2.grown
 refine wpIn_block (wpIn_loop (fun a w1 => ∃ j, j ≤ L.length ∧ a.defers = [] ∧ a.tmps.size = 19 ∧ a.tmps.getD 0 undef = yv ∧ a.tmps.getD 1 undef = p ∧ a.tmps.getD 3 undef = .int .i64 ((L.length : Int) - 1 - j) ∧ J ((bkL L).take j) w1 ∧ (∀ b, F b → w1.heap[b]? = W.heap[b]?))
   (fun a _ => match a.tmps.getD 3 undef with | .int _ x => (x + 1).toNat | _ => 0) ⟨0, by omega, d2, n2, g20, g21, by simpa using g23, grow hgr h0, fun b hb => hgr.block b (hFW b hb)⟩ ?_)
 rintro a3 w3 ⟨j, hj, d3, n3, g30, g31, g33, hj3, hs3⟩
 have h3 := hrelj hs3 n3 g30 g31 g33
 refine wpIn_seq (wpIn_mono (z0s none n ok1 _ (Q := z8b (fun s => j < L.length ∧ wk s (bkS L yv p j)) (fun i _ => i = 0 ∧ ¬ j < L.length) (fun _ => False)) rfl (by decide) h3 (AW.out ?_)) ?_)
 · unfold bkS
   by_cases hlt : j < L.length
   · refine zsf ?_ tru tru <;> intros
     exact wk0
   · exact zsf tru tru tru
 rintro e a4 w4 ⟨s4, G4, F4, hq4, h4⟩
 have hg4 := h4.grown
 have hs4 : ∀ b, F b → w4.heap[b]? = W.heap[b]? := fun b hb => (hg4.block b (by
   have h1 := hs3 b hb
   rw [Array.getElem?_eq_getElem (hFW b hb)] at h1
   exact (Array.getElem?_eq_some_iff.1 h1).1)).trans (hs3 b hb)
 have hj4 := grow hg4 hj3
 cases e with
 | exit i =>
   obtain ⟨rfl, hge⟩ := hq4
   obtain rfl : j = L.length := by omega
   rw [y0gd] at hj4
   exact ⟨h4.defers.trans d3, _, results_none rfl _ _ _, ⟨_, rfl⟩, .inl ⟨_, rfl, hj4⟩⟩
 | normal =>
   obtain ⟨hlt, hk4⟩ := hq4
   obtain ⟨d4, n4, g40, g41, g43⟩ := hinv h4 hk4
   have h5 := hrelj hs4 n4 g40 g41 g43
   refine wpIn_seq (wpIn_block (wpIn_seq (wpIn_region_lit ?_)))
   refine zc0 none n 2 ok1 (z8b (fun s => wk s ⟨[(0, .v yv), (1, .v p), (3, I64 ((L.length : Int) - 1 - j)), (11, .v yv), (12, I64 ((L.length : Int) - 1 - j))], []⟩) (fun _ _ => False) (fun _ => False)) (by decide) h5 ?_ ?_
   · unfold bkS
     refine zsf ?_ tru tru <;> intros
     exact wk0
   rintro a6 w6 ⟨s6, G6, F6, hk6, h6⟩
   have hg6 := h6.grown
   have hlt6 : ∀ {b : Nat} {w1 : World}, (∀ b, F b → w1.heap[b]? = W.heap[b]?) → F b → b < w1.heap.size := fun {b w1} h hb => by
     have h1 := h b hb
     rw [Array.getElem?_eq_getElem (hFW b hb)] at h1
     exact (Array.getElem?_eq_some_iff.1 h1).1
   have hs6 : ∀ b, F b → w6.heap[b]? = W.heap[b]? := fun b hb => (hg6.block b (hlt6 hs4 hb)).trans (hs4 b hb)
   have hj6 := grow hg6 hj4
   have h6' := h6.weak hk6
   refine zbz none n ok1 (t := 63) zmn rfl rfl rfl rfl h6' (by rw [h6'.atv (k := 1) (v := p) rfl]; exact Rep.mono ⟨h6.f0.1, fun _ _ => rfl⟩ (z2v.nil _) (same w6 hs6)) ?_
   intro a7 h7
   have hix : ((L.length : Int) - 1 - j).toNat = L.length - 1 - j := by omega
   refine zc0 none n 3 ok1 (z8b (fun s => wk s ⟨[(0, .v yv), (1, .v p), (3, I64 ((L.length : Int) - 1 - j)), (11, .v yv), (12, I64 ((L.length : Int) - 1 - j)), (16, I32 (L.getD (L.length - 1 - j) 0))], []⟩) (fun _ _ => False) (fun _ => False)) (by decide) h7 ?_ ?_
   · refine zsf ?_ tru tru <;> intros
     exact wk0
   rintro a8 w8 ⟨s8, G8, F8, hk8, h8⟩
   have h8' := h8.weak hk8
   have hg8 := h8.grown
   have hs8 : ∀ b, F b → w8.heap[b]? = W.heap[b]? := fun b hb => (hg8.block b (hlt6 hs4 hb)).trans (hs4 b hb)
   have hj8 := grow hg8 hj4
   have hargs : #[Operand.tmp 12, Operand.tmp 16].map a8.eval = y01p ((L.length : Int) - 1 - j, L.getD (L.length - 1 - j) 0) := by
     have e1 := h8'.atv (k := 12) rfl
     have e2 := h8'.atv (k := 16) rfl
     simp only [y01p, Act.eval, List.map_toArray, List.map_cons, List.map_nil, e1, e2]
   refine zd8 none n rfl rfl (l := l) ((h8'.atv (k := 11) rfl).trans hyv) hargs (hY _ _ w8 hj8 (by simp [bkL]; omega)) ?_
   have hbt := y0aj hlt
   have hput : ∀ v, (a8.put (some 17) v).defers = [] ∧ (a8.put (some 17) v).tmps.size = 19 ∧ ∀ kv ∈ [(0, yv), (1, p), (3, Value.int .i64 ((L.length : Int) - 1 - j)), (17, v)], (a8.put (some 17) v).tmps.getD kv.1 undef = kv.2 := by
     intro v
     have h9 := h8'.putD (d := some 17) (x := .v v) (v := v) rfl (.v _)
     refine ⟨h9.defers.trans (d4.trans d3), h9.tsize, ?_⟩
     intro kv hkv
     simp only [List.mem_cons, List.not_mem_nil, or_false] at hkv
     rcases hkv with rfl | rfl | rfl | rfl <;> exact h9.atv rfl
   rintro e9 w9 (⟨rfl, hJ9, hk9⟩ | ⟨rfl, hJx9⟩)
   · refine ⟨_, rfl, ?_⟩
     obtain ⟨d9, n9, g9⟩ := hput (.bool true)
     have hs9 : ∀ b, F b → w9.heap[b]? = W.heap[b]? := fun b hb => (hk9 b hb).trans (hs8 b hb)
     have h9 := y08x (N := 19) _ (z73 hTW (fun b hb => hlt6 hs9 hb) hs9) (fun b hb => hlt6 hs9 hb) n9 g9
     refine zf3 none n ok1 (z8b (fun s => wk s ⟨[(0, .v yv), (1, .v p), (3, I64 ((L.length : Int) - 1 - j)), (18, Bv false)], []⟩) (fun _ _ => False) (fun _ => False)) (by decide) h9 ?_ ?_
     · refine zsf ?_ tru tru <;> intros
       exact wk0
     rintro a10 w10 ⟨s10, G10, F10, hk10, h10⟩
     have h10' := h10.weak hk10
     have hg10 := h10.grown
     refine wpIn_cond_false (h10'.atv (k := 18) rfl) (wpIn_skip ?_)
     have hs10 : ∀ b, F b → w10.heap[b]? = W.heap[b]? := fun b hb => (hg10.block b (hlt6 hs9 hb)).trans (hs9 b hb)
     refine wpIn_mono (z0s none n ok1 _ (Q := z8b (fun s => wk s (bkS L yv p (j + 1))) (fun _ _ => False) (fun _ => False)) rfl (by decide) h10' (AW.out ?_)) ?_
     · refine zsf ?_ tru tru <;> intros
       unfold bkS
       exact wk0
     rintro e11 a11 w11 ⟨s11, G11, F11, hq11, h11⟩
     cases e11 with
     | normal =>
       obtain ⟨d11, n11, g110, g111, g113⟩ := hinv h11 hq11
       have hg11 := h11.grown
       refine ⟨⟨j + 1, by omega, d11.trans d9, n11, g110, g111, g113, ?_, fun b hb => (hg11.block b (hlt6 hs9 hb)).trans (hs9 b hb)⟩, ?_⟩
       · rw [hbt]; exact grow hg11 hJ9
       · show (match a11.tmps.getD 3 undef with | .int _ x => (x + 1).toNat | _ => 0) < (match a3.tmps.getD 3 undef with | .int _ x => (x + 1).toNat | _ => 0)
         rw [g113, g33]
         show ((L.length : Int) - 1 - ((j + 1 : Nat) : Int) + 1).toNat < ((L.length : Int) - 1 - j + 1).toNat
         omega
     | _ => exact hq11.elim
   · refine ⟨_, rfl, ?_⟩
     obtain ⟨d9, n9, g9⟩ := hput (.bool false)
     have e17 : (a8.put (some 17) (Value.bool false)).tmps.getD 17 undef = .bool false := g9 (17, .bool false) (by simp)
     obtain ⟨a9, ha9⟩ : ∃ a9, a8.put (some 17) (Value.bool false) = a9 := ⟨_, rfl⟩
     rw [ha9] at e17 d9 n9 ⊢
     refine wpListIn_plain rfl fun K hK => ⟨fun _ _ => trivial, ?_⟩
     rw [z2b none a9.eval _ (fun c e => by cases e)]
     simp only [execOp, Act.eval, e17, Op.unary, Sem.run_bind, Sem.run_pure, Result.andThen_ok, Oper.uponIn_value]
     refine hK _ _ (wpListIn_nil ?_)
     refine wpIn_cond_true ?_ (wpIn_ret ?_)
     · simp [Act.put, Act.eval, Array.getD_eq_getD_getElem?, n9]
     refine ⟨d9, _, results_none rfl _ _ _, ⟨_, rfl⟩, .inr ⟨_, ?_, hJx9⟩⟩
     · rw [← hbt]; exact List.take_prefix _ _
 | _ => exact hq4.elim
theorem y057 (L : List Int) : (bkL L).map Prod.snd = L.reverse := by
 refine List.ext_getElem (by simp [bkL]) fun i h1 h2 => ?_
 simp only [bkL, List.map_map, List.getElem_map, List.getElem_range, Function.comp, List.getElem_reverse, List.getD]
 simp at h2
 rw [List.getElem?_eq_getElem (by omega)]
 rfl
theorem z4u (k : IntKind) (n : Int) : (Value.int k n).cells = [Value.int k n].toArray := rfl
theorem zzp {P Q R S : Prop} (a : Q) (b : R) (c : S) (h : Mk P → Hid Q → Hid R → Hid S → P := by
 intro m q r s
 repeat' first | refine z07 (by first | assumption | (apply_assumption <;> first | assumption | omega)) ?_ ?_ | refine LSp.fit (by assumption) ?_ | simp (maxSteps := 4000000) (disch := omega) only [z13, z12, bun, ↓z05, ↓z01, z03, findLabel, ↓reduceIte, imp, shift, z0g, z0c, unown, names, z08, below, noF, isF, z04, z0a, z09, ren, z0t, z0u, z0h, renO, belowM, seval, -Int.reduceToNat, bT, z14, z3k, z5j, tab, zco, z1k, z4u, *] | exact z0n _ | refine z0m _ _ ?_ | exact Cln.cl | refine z02 _ ?_ | refine z00 _ _ ?_ ?_ | refine z10 _ ?_ | (refine Fk.fk ?_ ?_ <;> intro hg <;> (try simp only [hg]) <;> (try simp only [z11] at hg) <;> try (exfalso; first | omega | exact Bool.noConfusion hg | exact hg trivial)) | refine And.intro (by omega) ?_ | omega
 first
 | done
 | all_goals (repeat revert hg)
   fail_if_success with_reducible refine m.use ?_
   exact q.out
   first
   | done
   | exact r.out
     first
     | done
     | exact s.out
       first | done | fail) : P := h ⟨tru⟩ ⟨a⟩ ⟨b⟩ ⟨c⟩
theorem zmt (L : List Int) : z0q Tryz.prog 186 [.sl L.length (L.map I32)] (.fn 205 [] [.cp [.sl L.length (L.map I32)]]) := by
 refine z8x (z := true) (ts := [.tmp 2]) ok1 Tryz.func186 rfl rfl (by decide +kernel) (by simp [Tryz.ntmps186]) rfl ?_
 exact zzp tru tru tru
def y0fy (w2 : World) (b o : Nat) (v : Value) (W : World) : Prop :=
 W.os = w2.os ∧ W.tape = w2.tape ∧ W.output = w2.output ∧ w2.heap.size ≤ W.heap.size ∧ (∀ k, k < w2.heap.size → k ≠ b → W.heap[k]? = w2.heap[k]?) ∧ z3t W b o [v]
theorem y058 {β : Type} {w2 : World} {b o : Nat} {v : β → Value} (hb : b < w2.heap.size) : OwnFrom w2.heap.size (fun (s : β) W => y0fy w2 b o (v s) W) := by
 rintro s A B row ⟨h1, h2, h3, h4, h5, h6⟩ hg hr
 have hk : ∀ k, k < w2.heap.size → B.heap[k]? = A.heap[k]? := fun k hk => hg.block k (by omega) (fun e => by have := (hr k e.symm).1; omega)
 exact ⟨hg.os.trans h1, hg.tape.trans h2, hg.output.trans h3, Nat.le_trans h4 hg.size, fun k hk' hne => (hk k hk').trans (h5 k hk' hne), h6.keepAt (hk b hb)⟩
theorem y0ax (L : List Int) (hL : L.length ≤ 1000) : z0q Tryz.prog 155 [tab, .sl L.length (L.map I32)] (I64 (zeq L)) := by
 skip
 refine ⟨⟨_, Tryz.func155, rfl, by decide +kernel⟩, fun w F vs hF hT hr => ?_⟩
 refine (callsIn_wide (n := 10)).1 ?_
 show CallsIn (fr none) 10 _ _ _ _ _
 refine callsIn_of_wp_marks Tryz.func155 rfl trivial ?_
 rw [show Tryz.f155.ntmps = 18 from Tryz.ntmps155]
 have hrel := zf7 (N := 18) (ds := []) hT hF hr (by simp)
 refine wpIn_seq (wpIn_mono (z0s none 10 ok1 _ (Q := z8b (fun s => wk s ⟨[(1, .sl L.length (L.map I32)), (2, .ptr 0 0), (4, .ptr 1 0)], [.row true 1 (zco (sM 42) (pM 42)), .row true 1 [I64 0]]⟩) (fun _ _ => False) (fun _ => False)) rfl (by decide) hrel (AW.out ?_)) ?_)
 · refine zzp ?_ tru tru <;> intros
   (simp (disch := omega) [wk, wkT, wkM, noF, isF, get, z0b, belowM, below, belows, I64, I32, Bv, U8, Sv, tab, zco, Value.cells, Value.oneCell'] <;> try omega)
 rintro e1 a1 w1 ⟨s1, G1, F1, hq1, h1⟩
 cases e1 with
 | normal =>
   have h1' := h1.weak hq1
   refine wpIn_seq (wpIn_seq (wpIn_mono (z0s none 10 ok1 _ (Q := z8b (fun s => wk s ⟨[(2, .ptr 0 0), (4, .ptr 1 0), (9, .fn 205 [] [.cp [.sl L.length (L.map I32)]])], [.row true 1 (zco (sM 42) (pM 42)), .row true 1 [I64 0]]⟩) (fun _ _ => False) (fun _ => False)) rfl (by decide) h1' (AW.out ?_)) ?_))
   · (have := zmt L; refine zzp ?_ tru tru <;> intros)
     all_goals first
       | ((simp (disch := omega) [wk, wkT, wkM, noF, isF, get, z0b, belowM, below, belows, I64, I32, Bv, U8, Sv, tab, zco, Value.cells, Value.oneCell'] <;> try omega); done)
       | rfl
   rintro e2 a2 w2 ⟨s2, G2, F2, hq2, h2⟩
   cases e2 with
   | normal =>
     have h3 := h2.weak hq2
     obtain ⟨G, hG⟩ : ∃ G, G2.take 2 = G := ⟨_, rfl⟩
     simp only [List.length_cons, List.length_nil, Nat.zero_add, Nat.reduceAdd] at h3
     rw [hG] at h3
    
     obtain ⟨L1, hL1, hp4⟩ := (show Rep w2 F2 G (.ptr 1 0) (a2.tmps.getD 4 undef) from h3.tm 4).ptr_inv
     rw [Nat.add_zero] at hp4
     obtain ⟨L1', vs1, e1, hrow, hrs⟩ := (show z1w w2 F2 G (some L1) (.row true 1 [I64 0]) from h3.ob 1 _ hL1)
     cases e1
     obtain ⟨hL1F, hL1w, hL1p⟩ := h3.live 1 L1 hL1
     have hL1n : w.heap.size ≤ L1.b := by
       rcases (show _ ∨ _ from hL1p) with h | h
       · exact h
       · simp at h
     have hvs : vs1 = [.int .i64 0] := by
       cases hrs with
       | cons h h' => cases h'; cases h; rfl
     subst hvs
    
     obtain ⟨p, h9, hp⟩ : ∃ p, a2.tmps.getD 9 undef = .func (.func 205) #[] #[p] ∧ Rep w2 F2 [] (.cp [.sl L.length (L.map I32)]) p := by
       have h := zgj h3 rfl (show Rep w2 F2 G (.fn 205 [] [.cp [.sl L.length (L.map I32)]]) (a2.tmps.getD 9 undef) from h3.tm 9)
       simp only [fz, fzs] at h
       cases hv : a2.tmps.getD 9 undef <;> rw [hv] at h <;> cases h
       rename_i h1 h2
       cases h1
       cases h2 with
       | cons h2 h4 => cases h4; exact ⟨_, rfl, h2⟩
    
     have h5 := h3.weak (s' := ⟨[(2, .ptr 0 0)], [.row true 1 (zco (sM 42) (pM 42))]⟩) (by (simp (disch := omega) [wk, wkT, wkM, noF, isF, get, z0b, belowM, below, belows, I64, I32, Bv, U8, Sv, tab, zco] <;> try omega))
     simp only [List.length_cons, List.length_nil, Nat.zero_add, Nat.reduceAdd] at h5
     have htb := zbo h5 (show Rep w2 F2 (G.take 1) (.ptr 0 0) (a2.tmps.getD 2 undef) from h5.tm 2)
     simp only [fz, obj, zco, List.map_cons, List.map_nil, fz1, List.drop_zero] at htb
     obtain ⟨FR, hFR⟩ : ∃ FR, zmo F2 (G.take 1) = FR := ⟨_, rfl⟩
     rw [hFR] at htb
     have hFRw : ∀ b, FR b → b < w2.heap.size := by
       intro b hb
       rw [← hFR] at hb
       rcases hb with hb | ⟨id, M, hM, rfl⟩
       · exact (h3.fb b hb).1
       · exact (h5.live id M hM).2.1
     have hF2w : ∀ b, F2 b → b < w2.heap.size := fun b hb => (h3.fb b hb).1
     have hTR : zcu Tryz.prog w2 FR := h3.tb.sub fun b hb => by rw [← hFR]; exact .inl hb
     have hgr2 := h3.grown
     have hd2 : a2.defers = [] := h3.defers
    
     have fin : ∀ (v : Int) (D : Nat) (W : World), v = zeq L → w2.heap.size ≤ D → y0fy w2 L1.b L1.o (.int .i64 v) W → W.heap[D]? = some (.deferred (some [])) →
         LeavesInM (fr none) 10 Tryz.prog Tryz.f155 a2.tmps (y01o w F (I64 (zeq L))) ({ target := .collected D, args := #[] } :: a2.defers) .returning W := by
       rintro v D W rfl hD ⟨b1, b2, b3, b4, b5, b6⟩ hK
       refine ⟨by simp, .inl ⟨D, _, rfl, run_takeDeferred hK, ?_⟩⟩
       rw [hd2]
       have hDl : D < W.heap.size := (Array.getElem?_eq_some_iff.1 hK).1
       have hne : L1.b ≠ D := by omega
       have h6 : z3t (W.putObj D (.deferred none)) L1.b L1.o [.int .i64 (zeq L)] := b6.keepAt (World.putObj_heap_other hne)
       refine ⟨_, zqs ok1 zod rfl rfl hp4 h6, ?_⟩
       have hg := grownBy_putObj' W D (.deferred none)
       refine ⟨_, F, [], rfl, ⟨hg.os.trans (b1.trans hgr2.os), hg.tape.trans (b2.trans hgr2.tape), hg.output.trans (b3.trans hgr2.output), Nat.le_trans hgr2.size (Nat.le_trans b4 hg.size), fun k hk => ?_⟩, fun _ h => h, fun b hb => ⟨.inl hb, ?_⟩, .v _, ⟨rfl, by simp, by simp, by simp⟩, by simp⟩
       · have h0 := hgr2.size
         exact (World.putObj_heap_other (by omega)).trans ((b5 k (by omega) (by omega)).trans (hgr2.block k hk))
       · have h0 := hF b hb
         have h1 := hgr2.size
         have h2 := hg.size
         omega
     have hbelow : ∀ {W : World}, RowKit.Below w2.heap.size w2 W → z3t W L1.b L1.o [.int .i64 0] := fun hB => hrow.keepAt (hB.block _ hL1w)
     have hTm : ∀ x : Int × Int, ((#[10, 11].zip (y01p x)).foldl (fun t (p, v) => t.setIfInBounds p v) a2.tmps).size = 18 ∧ ((#[10, 11].zip (y01p x)).foldl (fun t (p, v) => t.setIfInBounds p v) a2.tmps).getD 2 undef = a2.tmps.getD 2 undef ∧
         ((#[10, 11].zip (y01p x)).foldl (fun t (p, v) => t.setIfInBounds p v) a2.tmps).getD 4 undef = a2.tmps.getD 4 undef ∧ ((#[10, 11].zip (y01p x)).foldl (fun t (p, v) => t.setIfInBounds p v) a2.tmps).getD 11 undef = .int .i32 x.2 := by
       intro x
       have hsz := h3.tsize
       have e : (#[10, 11].zip (y01p x)).foldl (fun t (p, v) => t.setIfInBounds p v) a2.tmps = (a2.tmps.setIfInBounds 10 (.int .i64 x.1)).setIfInBounds 11 (.int .i32 x.2) := by
         simp [y01p]
       rw [e]
       refine ⟨by simp [hsz], ?_, ?_, ?_⟩
       · simp [Array.getD_eq_getD_getElem?]
       · simp [Array.getD_eq_getD_getElem?]
       · simp [Array.getD_eq_getD_getElem?, hsz]
     refine wpIn_block (wpIn_rangeFunc_ownF (F := fr none) (n := 10) (w0 := w2) rfl (by decide) (gf := 205) (lb := #[p]) h9 trivial (enters_of Tryz.func205 (by kernel_rfl) rfl)
       (zzg L hL 9 w2 F2 hF2w h3.tb p hp) (fun h k b hb => (k b hb).trans (h b hb)) (fun W l o o' hl _ _ _ b hb => World.putObj_heap_other (by have := hF2w b hb; omega)) (RowKit.Below.refl _ _) (fun _ => rfl)
       (fun pre W => RowKit.Below w2.heap.size w2 W ∧ ∀ c ∈ pre, bidi c.2 = 6)
       (fun c pre W => c = .ret ∧ (∃ (q : List (Int × Int)) (x : Int × Int), pre = q ++ [x] ∧ (∀ c ∈ q, bidi c.2 = 6) ∧ bidi x.2 ≠ 6) ∧ y0fy w2 L1.b L1.o (.int .i64 (bidi ((pre.getLast?).getD (0, 0)).2)) W)
       (OwnFrom.and (ownFrom_below (Nat.le_refl _) (Nat.le_refl _)) (fun s W W' row hs _ _ => hs))
       (fun c => OwnFrom.and (fun s W W' row hs _ _ => hs) (OwnFrom.and (fun s W W' row hs _ _ => hs) (y058 hL1w)))
       ⟨RowKit.Below.refl _ _, by simp⟩ (fun x => ({ tmps := (#[10, 11].zip (y01p x)).foldl (fun t (p, v) => t.setIfInBounds p v) a2.tmps, defers := [] } : Act).put (some 6) (.int .i32 x.2)) ?assign ?body ?done ?stop)
     case assign =>
       intro l x W K hK
       have hT := hTm x
       refine wpIn_region_lit (wpListIn_plain rfl fun K' hK' => ⟨fun _ _ => trivial, ?_⟩)
       rw [show ((fr none).inRound l) = fr (some l) from rfl, z2b (some l) _ _ (fun c e => by cases e)]
       have hv : (Act.eval ({ tmps := (#[10, 11].zip (y01p x)).foldl (fun t (p, v) => t.setIfInBounds p v) a2.tmps, defers := [] } : Act) (.tmp 11)) = .int .i32 x.2 := hT.2.2.2
       simp only [execOp, hv]
       exact hK' _ _ hK
     case body =>
       rintro l pre x W ⟨hB, hpre⟩ hlen
       obtain ⟨q1, q2, q3, q4⟩ := hTm x
       obtain ⟨T, hT⟩ : ∃ T, (#[10, 11].zip (y01p x)).foldl (fun t (p, v) => t.setIfInBounds p v) a2.tmps = T := ⟨_, rfl⟩
       rw [hT] at q1 q2 q3 q4 ⊢
       have hFRW : ∀ b, FR b → b < W.heap.size := fun b hb => Nat.lt_of_lt_of_le (hFRw b hb) hB.size
       have hsame : zev FR FR w2 W := ⟨fun _ h => h, fun b hb => hB.block b (hFRw b hb)⟩
       have hb0 : Rel Tryz.prog 18 ⟨FR, [], [], [], none, fun _ => none⟩ W ⟨[(2, .cp (zco (sM 42) (pM 42))), (4, .v (.pointer (some ⟨L1.b, L1.o, none⟩)))], []⟩ [] FR { tmps := T, defers := [] } W := by
         refine zqm (a := { tmps := T, defers := [] }) (z73 hTR hFRW (fun b hb => hB.block b (hFRw b hb))) hFRW q1 fun k => ?_
         simp only [get]
         split
         · rename_i e; subst e; show Rep W FR [] _ (T.getD 2 undef); rw [q2]; exact Rep.mono hsame (z2v.nil _) htb
         split
         · rename_i e; subst e; show Rep W FR [] _ (T.getD 4 undef); rw [q3, hp4]; exact .v _
         exact .junk _
       have h6 := hb0.putD (d := some 6) (x := I32 x.2) (v := .int .i32 x.2) rfl (.v _)
       show Code.wpIn (fr (some l)) 8 _ _ _ _ _
       refine wpIn_block (wpIn_seq (wpIn_mono (z0s (some l) 8 ok1 _ (Q := z8b (fun s => wk s ⟨[(4, .v (.pointer (some ⟨L1.b, L1.o, none⟩))), (7, I64 (bidi x.2))], []⟩) (fun _ _ => False) (fun _ => False)) rfl (by decide) h6 (AW.out ?_)) ?_))
       · (have := @z87; refine zzp ?_ tru tru <;> intros)
         exact wk0
       rintro e3 a3 w3 ⟨s3, G3, F3, hq3, h7⟩
       cases e3 with
       | normal =>
         have h7' := h7.weak hq3
         refine wpIn_seq (wpIn_mono (z0s (some l) 8 ok1 _ (Q := z8b (fun s => wk s ⟨[(4, .v (.pointer (some ⟨L1.b, L1.o, none⟩))), (7, I64 (bidi x.2)), (16, Bv (bidi x.2 != 6))], []⟩) (fun _ _ => False) (fun _ => False)) rfl (by decide) h7' (AW.out ?_)) ?_)
         · refine zzp ?_ tru tru <;> intros
           exact wk0
         rintro e4 a4 w4 ⟨s4, G4, F4, hq4, h8⟩
         cases e4 with
         | normal =>
           have h8' := h8.weak hq4
           have hg8 := h8.grown
           have lt : ∀ {k : Nat} {o : Obj}, W.heap[k]? = some o → k < W.heap.size := fun h => (Array.getElem?_eq_some_iff.1 h).1
           by_cases hx : bidi x.2 = 6
           · refine wpIn_cond_false ((h8'.atv (k := 16) rfl).trans (by rw [hx]; rfl)) (wpIn_skip ?_)
             refine ⟨⟨hg8.size, fun k o hk _ => (hg8.block k (lt hk)).trans hk⟩, fun b hb => hg8.block b (Nat.lt_of_lt_of_le (hF2w b hb) hB.size), ⟨hg8.os.trans hB.os, hg8.tape.trans hB.tape, hg8.output.trans hB.output, Nat.le_trans hB.size hg8.size, fun k hk => (hg8.block k (Nat.lt_of_lt_of_le hk hB.size)).trans (hB.block k hk)⟩, fun c hc => ?_⟩
             rcases List.mem_append.1 hc with h | h
             · exact hpre c h
             · rw [List.mem_singleton.1 h]; exact hx
           · have hxb : (bidi x.2 != 6) = true := by simpa using hx
             refine wpIn_cond_true ((h8'.atv (k := 16) rfl).trans (by rw [hxb])) ?_
             refine wpIn_seq (wpIn_region_lit (zc0 (some l) 8 1 ok1 (z8b (fun s => wk s ⟨[(4, .v (.pointer (some ⟨L1.b, L1.o, none⟩))), (17, I64 (bidi x.2))], []⟩) (fun _ _ => False) (fun _ => False)) (by decide) h8' ?_ ?_))
             · refine zzp ?_ tru tru <;> intros
               exact wk0
             rintro a5 w5 ⟨s5, G5, F5, hq5, h9'⟩
             have h10 := h9'.weak hq5
             have hg9 := h9'.grown
             have hr5 : z3t w5 L1.b L1.o [.int .i64 0] := (hbelow hB).keepAt (hg9.block _ (Nat.lt_of_lt_of_le hL1w hB.size))
             refine zkl (some l) 8 ok1 (t := 3) zod rfl rfl rfl rfl (h10.atv (k := 4) rfl) (x := .tmp 17) (h10.atv (k := 17) rfl) rfl rfl hr5 ?_
             intro w6 hW
             refine wpIn_ret ?_
             have hne : ∀ {k : Nat} {o : Obj}, W.heap[k]? = some o → o.isCells = false → k ≠ L1.b := by
               rintro k o hk ho rfl
               obtain ⟨c, e, fz, hc, _⟩ := hbelow hB
               rw [hc] at hk; cases hk; simp [Obj.isCells] at ho
             refine ⟨⟨by rw [hW.size]; exact hg9.size, fun k o hk ho => (hW.block k (hne hk ho)).trans ((hg9.block k (lt hk)).trans hk)⟩, rfl, ⟨pre, x, rfl, hpre, hx⟩, ?_⟩
             refine ⟨hW.os.trans (hg9.os.trans hB.os), hW.tape.trans (hg9.tape.trans hB.tape), hW.output.trans (hg9.output.trans hB.output), by rw [hW.size]; exact Nat.le_trans hB.size hg9.size, fun k hk hk' => (hW.block k hk').trans ((hg9.block k (Nat.lt_of_lt_of_le hk hB.size)).trans (hB.block k hk)), ?_⟩
             have := hW.row
             simpa using this
         | _ => exact hq4.elim
       | _ => exact hq3.elim
     case done =>
       rintro D xs W hD rfl ⟨hB, hall⟩ hK
       have hl0 : zeq L = 0 := by
         have := zoz (q := L.reverse) (fun c hc => by
           rw [← y057] at hc
           obtain ⟨y, hy, rfl⟩ := List.mem_map.1 hc
           exact hall y hy) []
         rw [List.append_nil] at this
         exact this
       refine wpIn_seq (wpIn_region_lit (zkl none 10 ok1 (t := 3) zod rfl rfl rfl rfl (by exact hp4) (x := .const (.int .i64 0)) rfl rfl rfl (hbelow hB) ?_))
       intro W' hW
       refine wpIn_ret (fin 0 D W' hl0.symm hD ⟨hW.os.trans hB.os, hW.tape.trans hB.tape, hW.output.trans hB.output, by rw [hW.size]; exact hB.size, fun k hk hne => (hW.block k hne).trans (hB.block k hk), hW.row⟩ ((hW.block D (by omega)).trans hK))
     case stop =>
       rintro D c pre W hD hpre ⟨rfl, ⟨q, x, rfl, hq, hx⟩, hX⟩ hK
       refine wpIn_ret ?_
       simp only [List.getLast?_append, List.getLast?_singleton, Option.some_or, Option.getD_some] at hX
       refine fin (bidi x.2) D W ?_ hD hX hK
       obtain ⟨r, hr⟩ := hpre
       unfold zeq
       rw [← y057, ← hr, List.map_append, List.map_append, List.append_assoc, zoz (fun c hc => by
         obtain ⟨y, hy, rfl⟩ := List.mem_map.1 hc
         exact hq y hy)]
       simp only [List.map_cons, List.map_nil, List.cons_append, List.nil_append, y0j9]
       rw [if_neg hx]
   | _ => exact hq2.elim
 | _ => exact hq1.elim
theorem y09l {L : List Int} {i : Nat} (h : i < L.length) : L.take (i + 1) = L.take i ++ [L.getD i 0] := by
 rw [List.take_add_one]; simp [List.getD, h]
set_option maxHeartbeats 2000000 in
theorem zse {P Q R S : Prop} (a : Q) (b : R) (c : S) (h : Mk P → Hid Q → Hid R → Hid S → P := by
 intro m q r s
 repeat' first | refine z07 (by first | assumption | (apply_assumption <;> first | assumption | omega)) ?_ ?_ | refine LSp.fit (by assumption) ?_ | simp (maxSteps := 4000000) (disch := omega) only [z13, z12, bun, ↓z05, ↓z01, z03, findLabel, ↓reduceIte, imp, shift, z0g, z0c, unown, names, z08, below, noF, isF, z04, z0a, z09, ren, z0t, z0u, z0h, renO, belowM, seval, -Int.reduceToNat, bT, z14, tab, zco, y0l3, z3k, z5j, z4u, Int.reduceToNat, List.take_length, *] | exact z0n _ | refine z0m _ _ ?_ | exact Cln.cl | refine z02 _ ?_ | refine z00 _ _ ?_ ?_ | refine z10 _ ?_ | (refine Fk.fk ?_ ?_ <;> intro hg <;> (try simp only [hg]) <;> (try simp only [z11] at hg) <;> try (exfalso; first | omega | exact Bool.noConfusion hg | exact hg trivial)) | refine And.intro (by omega) ?_ | omega
 first
 | done
 | all_goals (repeat revert hg)
   fail_if_success with_reducible refine m.use ?_
   exact q.out
   first
   | done
   | exact r.out
     first
     | done
     | exact s.out
       first | done | fail) : P := h ⟨tru⟩ ⟨a⟩ ⟨b⟩ ⟨c⟩
theorem zjv (L : List Int) (hL : L.length ≤ 1000) : z0q Tryz.prog 154 [tab, .sl L.length (L.map I32)] (.ag (y0l3 L)) := by
 refine sp [.cell 4 155] Tryz.func154 Tryz.ntmps154 ?_
 refine zse ?_ tru tru <;> intros
 refine z0j (fun i : Nat => ⟨[(2, .ptr 0 0), (4, .ptr 1 0), (5, .ptr 2 0), (8, .sl L.length (L.map I32)), (9, I64 L.length), (10, I64 i)], [.row true 1 (zco (sM 42) (pM 42)), .row true 1 [I64 0, I64 0, I64 0, I64 0, I64 0, I64 0, I64 0, I64 0], .row true 1 (y0l3 (L.take i))]⟩) (fun i => i ≤ L.length) (fun i => L.length - i) 0 (by omega) (by (simp (disch := omega) [wk, wkT, wkM, noF, isF, get, z0b, belowM, below, belows, I64, I32, Bv, U8, Sv, tab, zco, y0l3, y0l2] <;> try omega)) ?_
 intro i hi
 by_cases hlt : i < L.length
 · have hs := y09l hlt
   obtain ⟨c, hc⟩ : ∃ c, L.getD i 0 = c := ⟨_, rfl⟩
   rw [hc] at hs
   have hb : ∀ k, 0 ≤ cn (L.take i) k ∧ cn (L.take i) k ≤ 1000 := fun k => by
     have := zos (L.take i) k
     have h2 : (L.take i).length ≤ 1000 := by rw [List.length_take]; omega
     omega
   have b0 := hb 0
   have b1 := hb 1
   have b2 := hb 2
   have b3 := hb 3
   have b4 := hb 4
   have b5 := hb 5
   have b6 := hb 6
   have b7 := hb 7
   rcases zzh c with h | h | h | h | h | h | h | h
   all_goals
     (have := @z87; refine zse ?_ tru tru <;> intros)
     refine ⟨i + 1, by omega, by omega, ?_⟩
     (simp (disch := omega) [wk, wkT, wkM, noF, isF, get, z0b, belowM, below, belows, I64, I32, Bv, U8, Sv, tab, zco, y0l3, hs, y0gi, h] <;> try omega)
 · obtain rfl : i = L.length := by omega
   (have := @z87; exact zse tru tru tru)
theorem zxa (L : List Int) (hL : L.length ≤ 1000) : z0q Tryz.prog 108 [tab, .sl L.length (L.map I32)] (Bv (y06v L)) := by
 refine sp [.tmp 4] Tryz.func108 Tryz.ntmps108 ?_
 have h2 := zos L 2
 have h3 := zos L 3
 have h5 := zos L 5
 (have := zjv L hL; refine zse ?_ tru tru <;> intros)
 rw [← y0hk]
theorem y09e (L : List Int) (hL : L.length ≤ 1000) : z0q Tryz.prog 156 [tab, .sl L.length (L.map I32)] (I64 (zqw L)) := by
 refine sp [.tmp 4] Tryz.func156 Tryz.ntmps156 ?_
 by_cases h0 : 0 < L.length
 · rw [y018 h0]
   (have := @z87; exact zse tru tru tru)
   all_goals simp_all
 · have : L = [] := by cases L; rfl; simp at h0
   subst this
   (have := @z87; refine zse ?_ tru tru <;> intros)
   rfl
set_option maxHeartbeats 2000000 in
theorem y010 (L : List Int) (hL : L.length ≤ 1000) : z0q Tryz.prog 109 [tab, .sl L.length (L.map I32)] (Bv (zto L)) := by
 refine sp [.tmp 4] Tryz.func109 Tryz.ntmps109 ?_
 have e1 := y0gj L 1
 have e4 := zju L 4
 have e5 := zju L 5
 have hne : L.isEmpty = ((L.length : Int) == 0) := by cases L <;> simp <;> omega
 unfold zto
 rcases ztu L with h | h | h
 all_goals
   rw [h]
   (have := zjv L hL; have := y0ax L hL; have := y09e L hL; have := zxa L hL; exact zse tru tru tru)
   all_goals first
     | (simp_all; done)
     | skip
theorem y0l6 (n : Int) : 0 ≤ dg n ∧ dg n < 256 := by
 unfold dg
 repeat' split
 all_goals omega
theorem zjx (n : Int) : z0q Tryz.prog 148 [I64 n] (.tup [.v (.int .u8 (dg n)), Bv (dgOk n)]) := by
 refine sp [.tmp 2, .tmp 3] Tryz.func148 Tryz.ntmps148 ?_
 repeat' first | simp (maxSteps := 4000000) (disch := omega) only [z13, z12, bun, ↓z05, ↓z01, z03, findLabel, ↓reduceIte, imp, shift, z0g, z0c, unown, names, z08, below, noF, isF, z04, z0a, z09, ren, z0t, z0u, z0h, renO, belowM, seval, -Int.reduceToNat, B3, B4, B5, z14] | refine z10 _ ?_ | (refine Fk.fk ?_ ?_ <;> intro hg <;> (try simp only [hg]) <;> (try simp only [z11] at hg) <;> try (exfalso; first | omega | exact Bool.noConfusion hg | exact hg trivial)) | refine And.intro (by omega) ?_ | omega
 all_goals
   simp only [dg, dgOk, AV.tup.injEq, List.cons.injEq, AV.v.injEq, Value.int.injEq, Value.bool.injEq, and_true, true_and]
   refine ⟨?_, ?_⟩
   · repeat' split
     all_goals omega
   · rw [Bool.eq_iff_iff]; simp; omega
theorem y05u {P Q R S : Prop} (a : Q) (b : R) (c : S) (h : Mk P → Hid Q → Hid R → Hid S → P := by
 intro m q r s
 repeat' first | refine z07 (by first | assumption | (apply_assumption <;> first | assumption | omega)) ?_ ?_ | refine LSp.fit (by assumption) ?_ | simp (maxSteps := 4000000) (disch := omega) only [z13, z12, bun, ↓z05, ↓z01, z03, findLabel, ↓reduceIte, imp, shift, z0g, z0c, unown, names, z08, below, noF, isF, z04, z0a, z09, ren, z0t, z0u, z0h, renO, belowM, seval, -Int.reduceToNat, bT, z14, *] | exact z0n _ | refine z0m _ _ ?_ | exact Cln.cl | refine z02 _ ?_ | refine z00 _ _ ?_ ?_ | refine z10 _ ?_ | (refine Fk.fk ?_ ?_ <;> intro hg <;> (try simp only [hg]) <;> (try simp only [z11] at hg) <;> try (exfalso; first | omega | exact Bool.noConfusion hg | exact hg trivial)) | refine And.intro (by omega) ?_ | omega
 first
 | done
 | all_goals (repeat revert hg)
   fail_if_success with_reducible refine m.use ?_
   exact q.out
   first
   | done
   | exact r.out
     first
     | done
     | exact s.out
       first | done | fail) : P := h ⟨tru⟩ ⟨a⟩ ⟨b⟩ ⟨c⟩
theorem z74 (c : Int) (h0 : 0 ≤ c) (h1 : c ≤ 255) : z0q Tryz.prog 159 [.v (.int .u8 c)] (.tup [I64 (vl c), Bv (y01i c)]) := by
 refine sp [.tmp 2, .tmp 3] Tryz.func159 Tryz.ntmps159 ?_
 repeat' first | simp (maxSteps := 4000000) (disch := omega) only [z13, z12, bun, ↓z05, ↓z01, z03, findLabel, ↓reduceIte, imp, shift, z0g, z0c, unown, names, z08, below, noF, isF, z04, z0a, z09, ren, z0t, z0u, z0h, renO, belowM, seval, -Int.reduceToNat, B3, B4, B5, z14] | refine z10 _ ?_ | (refine Fk.fk ?_ ?_ <;> intro hg <;> (try simp only [hg]) <;> (try simp only [z11] at hg) <;> try (exfalso; first | omega | exact Bool.noConfusion hg | exact hg trivial)) | refine And.intro (by omega) ?_ | omega
 all_goals
   simp only [vl, y01i, AV.tup.injEq, List.cons.injEq, AV.v.injEq, Value.int.injEq, Value.bool.injEq, and_true, true_and]
   refine ⟨?_, ?_⟩
   · repeat' split
     all_goals omega
   · rw [Bool.eq_iff_iff]; simp; omega
theorem z7r (k b : Int) (h0 : -1000000000 ≤ k) (h1 : k ≤ 1000000000) (h2 : -1000000000 ≤ b) (h3 : b ≤ 1000000000) : z0q Tryz.prog 147 [I64 k, I64 b] (I64 (thr k b)) := by
 refine sp [.tmp 4] Tryz.func147 Tryz.ntmps147 ?_
 refine y05u ?_ tru tru <;> intros
 all_goals (congr 2; unfold thr; omega)
theorem zwi {f : Nat} {d k r : Int} (h : adF f d k = r) (hf : 0 < f) (hd : 455 < d) : adF (f - 1) (d / 35) (k + 36) = r := by
 cases f with
 | zero => omega
 | succ f => rw [← h, adF, if_pos hd]; rfl
theorem zwj {f : Nat} {d k r : Int} (h : adF f d k = r) (hf : 0 < f) (hd : ¬ 455 < d) : k + 36 * d / (d + 38) = r := by
 cases f with
 | zero => omega
 | succ f => rw [← h, adF, if_neg hd]
theorem zwh {f : Nat} {d : Int} (h : d < 35 ^ f * 456) (hd : 455 < d) : 0 < f ∧ d / 35 < 35 ^ (f - 1) * 456 := by
 cases f with
 | zero => simp at h; omega
 | succ f =>
   refine ⟨by omega, ?_⟩
   rw [Nat.add_sub_cancel]
   have : (35 : Int) ^ (f + 1) = 35 ^ f * 35 := Int.pow_succ 35 f
   rw [this] at h
   generalize (35 : Int) ^ f = p at *
   omega
theorem z4g (d c : Int) (first : Bool) (h0 : 0 ≤ d) (h1 : d ≤ 1000000000000) (h2 : 1 ≤ c) (h3 : c ≤ 9223372036854775807) : z0q Tryz.prog 96 [I64 d, I64 c, Bv first] (I64 (adapt d c first)) := by
 refine sp [.tmp 6] Tryz.func96 Tryz.ntmps96 ?_
 have hm : (if c > 1 then c else 1) = c := by split <;> omega
 cases first with
 | true =>
   have hq := z4v (x := d / 700) (c := c) (by omega) h2
   obtain ⟨r, hr⟩ : ∃ r, adF 20 (d / 700 + d / 700 / c) 0 = r := ⟨_, rfl⟩
   rw [zzc, hr]
   generalize hx : d / 700 / c = q at *
   refine y05u ?_ tru tru <;> intros
   refine z0j (fun x : Nat × Int × Int => ⟨[(0, I64 x.2.1), (7, I64 x.2.2)], []⟩) (fun x => 1 ≤ x.1 ∧ x.1 ≤ 20 ∧ 0 ≤ x.2.1 ∧ x.2.1 ≤ 2000000000000 ∧ 0 ≤ x.2.2 ∧ x.2.2 ≤ 36 * (20 - x.1) ∧ x.2.1 < 35 ^ (x.1 - 1) * 456 ∧ adF x.1 x.2.1 x.2.2 = r) (fun x => x.1) (20, d / 700 + q, 0)
     (by refine ⟨?_, ?_, ?_, ?_, ?_, ?_, ?_, hr⟩ <;> dsimp only <;> omega) wk0 ?_
   rintro ⟨f, e, k⟩ ⟨hf1, hf, he0, he1, hk0, hk1, hb, hv⟩
   dsimp only at hf1 hf he0 he1 hk0 hk1 hb hv
   have h36 : 0 ≤ 36 * e / (e + 38) := Int.ediv_nonneg (by omega) (by omega)
   have h37 : 36 * e / (e + 38) ≤ 36 := Int.ediv_le_of_le_mul (by omega) (by omega)
   generalize hy : 36 * e / (e + 38) = y at *
   refine y05u ?_ ?_ tru <;> intros
   · obtain ⟨h5, h6⟩ := zwh hb (by omega)
     refine ⟨(f - 1, e / 35, k + 36), ?_, by dsimp only; omega, wk0⟩
     refine ⟨?_, ?_, ?_, ?_, ?_, ?_, h6, zwi hv hf1 (by omega)⟩ <;> dsimp only <;> omega
   · have := zwj hv hf1 (by omega)
     rw [← this, hy]
 | false =>
   have hq := z4v (x := d / 2) (c := c) (by omega) h2
   obtain ⟨r, hr⟩ : ∃ r, adF 20 (d / 2 + d / 2 / c) 0 = r := ⟨_, rfl⟩
   rw [zrt, hr]
   generalize hx : d / 2 / c = q at *
   refine y05u ?_ tru tru <;> intros
   refine z0j (fun x : Nat × Int × Int => ⟨[(0, I64 x.2.1), (7, I64 x.2.2)], []⟩) (fun x => 1 ≤ x.1 ∧ x.1 ≤ 20 ∧ 0 ≤ x.2.1 ∧ x.2.1 ≤ 2000000000000 ∧ 0 ≤ x.2.2 ∧ x.2.2 ≤ 36 * (20 - x.1) ∧ x.2.1 < 35 ^ (x.1 - 1) * 456 ∧ adF x.1 x.2.1 x.2.2 = r) (fun x => x.1) (20, d / 2 + q, 0)
     (by refine ⟨?_, ?_, ?_, ?_, ?_, ?_, ?_, hr⟩ <;> dsimp only <;> omega) wk0 ?_
   rintro ⟨f, e, k⟩ ⟨hf1, hf, he0, he1, hk0, hk1, hb, hv⟩
   dsimp only at hf1 hf he0 he1 hk0 hk1 hb hv
   have h36 : 0 ≤ 36 * e / (e + 38) := Int.ediv_nonneg (by omega) (by omega)
   have h37 : 36 * e / (e + 38) ≤ 36 := Int.ediv_le_of_le_mul (by omega) (by omega)
   generalize hy : 36 * e / (e + 38) = y at *
   refine y05u ?_ ?_ tru <;> intros
   · obtain ⟨h5, h6⟩ := zwh hb (by omega)
     refine ⟨(f - 1, e / 35, k + 36), ?_, by dsimp only; omega, wk0⟩
     refine ⟨?_, ?_, ?_, ?_, ?_, ?_, h6, zwi hv hf1 (by omega)⟩ <;> dsimp only <;> omega
   · have := zwj hv hf1 (by omega)
     rw [← this, hy]
theorem zrx (n : Int) : z3m [.v (.int .u8 n)] = some [UInt8.ofNat n.toNat] := rfl
theorem y0fz (n : Int) (k : Nat) (K : AV → Prop) : CB2 k (z3m [.v (.int .u8 n)]) K = (k = 1 ∧ K (.v (.string ⟨[UInt8.ofNat n.toNat].toArray⟩))) := rfl
theorem z0y (n : Int) : ((dgb n).toNat : Int) = dg n := by
 have := y0l6 n
 unfold dgb; simp; omega
theorem y0fn (k b : Int) : 1 ≤ thr k b ∧ thr k b ≤ 26 := by unfold thr; omega
theorem y0iy {n t : Int} (hn : t ≤ n) (h1 : 1 ≤ t) (h2 : t ≤ 26) : 0 ≤ (n - t) / (36 - t) ∧ 10 * ((n - t) / (36 - t)) ≤ n ∧ 0 ≤ (n - t) % (36 - t) ∧ (n - t) % (36 - t) < 36 - t := by
 have h3 : 0 ≤ (n - t) / (36 - t) := Int.ediv_nonneg (by omega) (by omega)
 have h4 := Int.ediv_mul_le (n - t) (b := 36 - t) (by omega)
 have h5 : (n - t) / (36 - t) * 10 ≤ (n - t) / (36 - t) * (36 - t) := Int.mul_le_mul_of_nonneg_left (by omega) h3
 exact ⟨h3, by omega, Int.emod_nonneg _ (by omega), Int.emod_lt_of_pos _ (by omega)⟩
theorem y0ix {f : Nat} {n q : Int} (h : n < 2 ^ (f - 1)) (hf : 1 ≤ f) (hq : 10 * q ≤ n) (hn : 1 ≤ n) : 1 ≤ f - 1 ∧ q < 2 ^ (f - 1 - 1) := by
 obtain ⟨f, rfl⟩ : ∃ g, f = g + 1 := ⟨f - 1, by omega⟩
 rw [Nat.add_sub_cancel] at *
 cases f with
 | zero => simp at h; omega
 | succ f =>
   refine ⟨by omega, ?_⟩
   rw [Nat.add_sub_cancel]
   have : (2 : Int) ^ (f + 1) = 2 ^ f * 2 := Int.pow_succ 2 f
   rw [this] at h
   generalize (2 : Int) ^ f = p at *
   omega
theorem y0cl {f : Nat} {n k b : Int} (hf : 1 ≤ f) (h : n < thr k b) : wrF f n k b = [dgb n] := by
 obtain ⟨f, rfl⟩ : ∃ g, f = g + 1 := ⟨f - 1, by omega⟩
 rw [wrF, if_pos h]
theorem y0ck {f : Nat} {n k b : Int} (hf : 1 ≤ f) (h : ¬ n < thr k b) : wrF f n k b = dgb (thr k b + (n - thr k b) % (36 - thr k b)) :: wrF (f - 1) ((n - thr k b) / (36 - thr k b)) (k + 36) b := by
 obtain ⟨f, rfl⟩ : ∃ g, f = g + 1 := ⟨f - 1, by omega⟩
 rw [wrF, if_neg h]; rfl
theorem y0gv {P Q R S : Prop} {H : Prop} (o : H) (a : Q) (b : R) (c : S) (h : H → Mk P → Hid Q → Hid R → Hid S → P := by
 intro w m q r s
 repeat' first | refine z07 (by first | assumption | (apply_assumption <;> first | assumption | omega)) ?_ ?_ | refine LSp.fit (by assumption) ?_ | simp (maxSteps := 4000000) (disch := omega) only [z13, z12, bun, ↓z05, ↓z01, z03, findLabel, ↓reduceIte, imp, shift, z0g, z0c, unown, names, z08, below, noF, isF, z04, z0a, z09, ren, z0t, z0u, z0h, renO, belowM, seval, -Int.reduceToNat, bT, z14, z0y, zrx, y0fz, w] | exact z0n _ | refine z0m _ _ ?_ | exact Cln.cl | refine z02 _ ?_ | refine z00 _ _ ?_ ?_ | refine z10 _ ?_ | (refine Fk.fk ?_ ?_ <;> intro hg <;> (try simp only [hg]) <;> (try simp only [z11] at hg) <;> try (exfalso; first | omega | exact Bool.noConfusion hg | exact hg trivial)) | refine And.intro (by omega) ?_ | omega
 first
 | done
 | all_goals (repeat revert hg)
   fail_if_success with_reducible refine m.use ?_
   exact q.out
   first
   | done
   | exact r.out
     first
     | done
     | exact s.out
       first | done | fail) : P := h o ⟨tru⟩ ⟨a⟩ ⟨b⟩ ⟨c⟩
theorem y01n (o : List UInt8) (n b : Int) (ho : o.length ≤ 1000000000) (hn : 0 ≤ n) (hn1 : n ≤ 1000000000000) (h2 : -1000000 ≤ b) (h3 : b ≤ 1000000) :
   z4a Tryz.prog 95 [.arr 5 1 (o.map U8)] [.ref 0 0 o.length, I64 n, I64 b] [.arr 5 1 ((o ++ wr n b).map U8), .fence] (.ref 0 0 (o ++ wr n b).length) := by
 refine z2g (ts := [.tmp 6]) ok1 Tryz.func95 rfl rfl (by decide +kernel) (by simp [Tryz.ntmps95]) rfl ?_
 refine y0gv tru ?_ tru tru <;> intros
 refine z0j (fun x : Nat × Int × Int × List UInt8 => ⟨[(0, .ref 0 0 (o ++ x.2.2.2).length), (1, I64 x.2.1), (2, I64 b), (7, I64 x.2.2.1)], [.arr 5 1 ((o ++ x.2.2.2).map U8), .fence]⟩)
   (fun x => 1 ≤ x.1 ∧ x.1 ≤ 64 ∧ 0 ≤ x.2.1 ∧ x.2.1 ≤ 1000000000000 ∧ x.2.2.1 = 36 * (65 - x.1) ∧ x.2.1 < 2 ^ (x.1 - 1) ∧ x.2.2.2.length + x.1 = 64 ∧ x.2.2.2 ++ wrF x.1 x.2.1 x.2.2.1 b = wr n b) (fun x => x.1) (64, n, 36, [])
   (by refine ⟨?_, ?_, ?_, ?_, ?_, ?_, ?_, ?_⟩ <;> dsimp only <;> first | omega | rfl) (by (simp (disch := omega) [wk, wkT, wkM, noF, isF, get, z0b, belowM, below, belows, I64, I32, Bv, U8, Sv, List.append_nil] <;> try omega)) ?_
 rintro ⟨f, n, k, acc⟩ ⟨hf1, hf, hn0, hn1, hk, hb, hl, hv⟩
 dsimp only at hf1 hf hn0 hn1 hk hb hl hv
 have ht := y0fn k b
 by_cases hlt : n < thr k b
 · have he := y0cl hf1 hlt
   rw [he] at hv
   (have := @zjx; have := @z7r; refine y0gv tru ?_ tru tru <;> intros)
   rw [← hv]
   simp [U8, z0y, Nat.add_assoc]
 · have he := y0ck hf1 hlt
   rw [he] at hv
   obtain ⟨q0, q1, q2, q3⟩ := y0iy (n := n) (t := thr k b) (by omega) (by omega) (by omega)
   obtain ⟨h5, h6⟩ := y0ix hb hf1 q1 (by omega)
   generalize hqq : (n - thr k b) / (36 - thr k b) = q at *
   generalize hrr : (n - thr k b) % (36 - thr k b) = r at *
   (have := @zjx; have := @z7r; refine y0gv (And.intro hqq hrr) ?_ tru tru <;> intros)
   refine ⟨(f - 1, q, k + 36, acc ++ [dgb (thr k b + r)]), ⟨h5, by dsimp only; omega, q0, by dsimp only; omega, by dsimp only; omega, h6, by simp; omega, ?_⟩, by dsimp only; omega, ?_⟩
   · rw [← hv]; simp
   · (simp (disch := omega) [wk, wkT, wkM, noF, isF, get, z0b, belowM, below, belows, I64, I32, Bv, U8, Sv, z0y, List.map_append, List.append_assoc] <;> try omega)
theorem zsg {P Q R S : Prop} {H : Prop} (o : H) (a : Q) (b : R) (c : S) (h : H → Mk P → Hid Q → Hid R → Hid S → P := by
 intro w m q r s
 repeat' first | refine z07 (by first | assumption | (apply_assumption <;> first | assumption | omega)) ?_ ?_ | refine LSp.fit (by assumption) ?_ | simp (maxSteps := 4000000) (disch := omega) only [z13, z12, bun, ↓z05, ↓z01, z03, findLabel, ↓reduceIte, imp, shift, z0g, z0c, unown, names, z08, below, noF, isF, z04, z0a, z09, ren, z0t, z0u, z0h, renO, belowM, seval, -Int.reduceToNat, bT, z14, z0y, w] | exact z0n _ | refine z0m _ _ ?_ | exact Cln.cl | refine z02 _ ?_ | refine z00 _ _ ?_ ?_ | refine z10 _ ?_ | (refine Fk.fk ?_ ?_ <;> intro hg <;> (try simp only [hg]) <;> (try simp only [z11] at hg) <;> try (exfalso; first | omega | exact Bool.noConfusion hg | exact hg trivial)) | refine And.intro (by omega) ?_ | omega
 first
 | done
 | all_goals (repeat revert hg)
   fail_if_success with_reducible refine m.use ?_
   exact q.out
   first
   | done
   | exact r.out
     first
     | done
     | exact s.out
       first | done | fail) : P := h o ⟨tru⟩ ⟨a⟩ ⟨b⟩ ⟨c⟩
theorem y083 (l : List Int) (n : Int) (hl : l.length ≤ 100000) : z0q Tryz.prog 94 [.sl l.length (l.map I32), I32 n] (I32 (nxt l n)) := by
 refine sp [.tmp 4] Tryz.func94 Tryz.ntmps94 ?_
 refine zsg tru ?_ tru tru <;> intros
 refine z0j (fun i : Nat => ⟨[(1, I32 n), (5, I32 ((l.take i).foldl (fun o r => if n ≤ r ∧ (o < 0 ∨ r < o) then r else o) (-1))), (8, .sl l.length (l.map I32)), (9, I64 l.length), (10, I64 i)], []⟩) (fun i => i ≤ l.length) (fun i => l.length - i) 0 (by simp) wk0 ?_
 intro i hi
 by_cases hlt : i < l.length
 · have hs := z3x (fun o r => if n ≤ r ∧ (o < 0 ∨ r < o) then r else o) (-1) l i 0 hlt
   generalize (l.take i).foldl (fun o r => if n ≤ r ∧ (o < 0 ∨ r < o) then r else o) (-1) = o at *
   repeat' first | simp (maxSteps := 4000000) (disch := omega) only [z13, z12, bun, ↓z05, ↓z01, z03, findLabel, ↓reduceIte, imp, shift, z0g, z0c, unown, names, z08, below, noF, isF, z04, z0a, z09, ren, z0t, z0u, z0h, renO, belowM, seval, -Int.reduceToNat, B3, B4, B21, B63, z14, z0y] | refine z10 _ ?_ | (refine Fk.fk ?_ ?_ <;> intro hg <;> (try simp only [hg]) <;> (try simp only [z11] at hg) <;> try (exfalso; first | omega | exact Bool.noConfusion hg | exact hg trivial)) | refine And.intro (by omega) ?_ | omega
   all_goals
     refine ⟨i + 1, by omega, by omega, ?_⟩
     rw [hs]
     first
     | rw [if_pos (by omega)]
     | rw [if_neg (by omega)]
     (simp (disch := omega) [wk, wkT, wkM, noF, isF, get, z0b, belowM, below, belows, I64, I32, Bv, U8, Sv, z3x] <;> try omega)
 · have e : i = l.length := by omega
   subst e
   rw [List.take_length]
   refine zsg tru ?_ tru tru <;> intros
   rfl
theorem y01d {l : List Int} (h : z0r l = true) : ∀ r ∈ l, 0 ≤ r ∧ r ≤ 1114111 := fun r hr => by
 have := (z1t r).1 (List.all_eq_true.1 h r hr)
 omega
theorem zin (l : List Int) (i : Nat) : (z0o (l.take i)).length ≤ i := by
 have := zh9 (l.take i)
 simp at this; omega
theorem zar (l : List Int) (hl : l.length ≤ 1000) : z0q Tryz.prog 59 [.sl l.length (l.map I32)] (.tup [Sv (pnS l), Bv (z0r l)]) := by
 refine sp [.tmp 2, .tmp 3] Tryz.func59 Tryz.ntmps59 ?_
 refine zsg tru ?_ tru tru <;> intros
 refine z0j (fun i : Nat => ⟨[(0, .sl l.length (l.map I32)), (4, .ref 0 0 (z0o (l.take i)).length), (15, .sl l.length (l.map I32)), (16, I64 l.length), (17, I64 i)], [.arr 5 1 ((z0o (l.take i)).map U8)]⟩) (fun i => i ≤ l.length ∧ (l.take i).all right = true) (fun i => l.length - i) 0 (by simp) (by (simp (disch := omega) [wk, wkT, wkM, noF, isF, get, z0b, belowM, below, belows, I64, I32, Bv, U8, Sv, z0o] <;> try omega)) ?_
 rintro i ⟨hi, hr⟩
 have hpi := zin l i
 by_cases hlt : i < l.length
 · have hp := ztd l i hlt
   have ht := z1h l i 0 hlt
   cases hgr : right (l.getD i 0) with
   | false =>
     have hb := zr4 hlt hgr
     (have := @z4l; refine zsg hgr ?_ tru tru <;> intros)
     simp [pnS, hb]
   | true =>
     have hgr' := (z1t _).1 hgr
     have hr' : (l.take (i + 1)).all right = true := by rw [ht, List.all_append, hr]; simp only [List.all_cons, List.all_nil, hgr]; rfl
     obtain ⟨r, hrr⟩ : ∃ r, l.getD i 0 = r := ⟨_, rfl⟩
     rw [hrr] at hgr hgr' hp ht
     (have := @z4l; refine zsg (And.intro hrr hgr) ?_ ?_ tru <;> intros)
     · refine ⟨i + 1, ⟨by omega, hr'⟩, by omega, ?_⟩
       rw [hp, if_pos (by omega)]
       (simp (disch := omega) [wk, wkT, wkM, noF, isF, get, z0b, belowM, below, belows, I64, I32, Bv, U8, Sv, z17] <;> try omega)
     · refine ⟨i + 1, ⟨by omega, hr'⟩, by omega, ?_⟩
       rw [hp, if_neg (by omega)]
       (simp (disch := omega) [wk, wkT, wkM, noF, isF, get, z0b, belowM, below, belows, I64, I32, Bv, U8, Sv, List.append_nil] <;> try omega)
 · have e : i = l.length := by omega
   subst e
   rw [List.take_length] at *
   have hok : z0r l = true := hr
   have hR := y01d hok
   have hS : pnS l = z4b l := by simp [pnS, hok]
   rw [hok, hS]
   have hpl := zh9 l
   have hpc := zdc l
   refine zsg tru ?_ ?_ tru <;> intros
   all_goals
     refine z0j (fun x : Nat × Int × EnS => ⟨[(0, .sl l.length (l.map I32)), (4, .ref 0 0 x.2.2.out.length), (7, I64 (z0o l).length), (8, I32 x.2.1), (9, I64 x.2.2.delta), (10, I64 x.2.2.bias), (11, I64 x.2.2.h)], [.arr 5 1 (x.2.2.out.map U8)]⟩)
       (fun x => EnI l x.2.1 x.2.2 ∧ (l.length : Int) < x.1 + x.2.2.h ∧ enF l (z0o l).length x.1 x.2.1 x.2.2 = z4b l) (fun x => x.1) (l.length + 1, 128, ⟨z2s l, 0, 72, (z0o l).length⟩)
       (by
         refine ⟨⟨by dsimp only; omega, by dsimp only; omega, Int.le_refl 0, by simp, by dsimp only; omega, by dsimp only; omega, by dsimp only; omega, ?_⟩, by dsimp only; omega, rfl⟩
         dsimp only [z2s]; split <;> (try simp only [List.length_append, List.length_cons, List.length_nil]) <;> omega) ?_ ?_
     · first
       | (have hh : z2s l = z0o l ++ [45] := by unfold z2s; rw [if_pos (by omega)])
       | (have hh : z2s l = z0o l := by unfold z2s; rw [if_neg (by omega)])
       (simp (disch := omega) [wk, wkT, wkM, noF, isF, get, z0b, belowM, below, belows, I64, I32, Bv, U8, Sv, hh] <;> try omega)
     · rintro ⟨f, n, ⟨out, delta, bias, h⟩⟩ ⟨hI, hf, hv⟩
       dsimp only at hI hf hv
       have hn0 := hI.n0
       have hn1 := hI.n1
       have hd0 := hI.d0
       have hb0 := hI.b0
       have hb1 := hI.b1
       have hhh := hI.hh
       have hlen := hI.len
       dsimp only at hd0 hb0 hb1 hhh hlen
       by_cases hlt : h < l.length
       · obtain ⟨h1, h2, hJ, hc1, hc2, hm, hpos⟩ := hI.first (fun r hr => (hR r hr).2) hl hlt
         dsimp only at hJ hc1 hc2 hpos
         obtain ⟨f, rfl⟩ : ∃ g, f = g + 1 := ⟨f - 1, by omega⟩
         rw [enF, if_pos hlt] at hv
         dsimp only at hv
         have hnm := h1.2.1
         generalize hmm : nxt l n = m at *
         generalize hpp : (m - n) * (h + 1) = p at *
         (have := y083 l n (by omega); refine zsg (And.intro hmm hpp) ?_ tru tru <;> intros)
         refine z0j (fun x : Nat × EnS => ⟨[(0, .sl l.length (l.map I32)), (4, .ref 0 0 x.2.out.length), (7, I64 (z0o l).length), (8, I32 m), (9, I64 x.2.delta), (10, I64 x.2.bias), (11, I64 x.2.h), (59, .sl l.length (l.map I32)), (60, I64 l.length), (61, I64 x.1)], [.arr 5 1 (x.2.out.map U8)]⟩)
           (fun x => EnJ l m ⟨out, delta + p, bias, h⟩ x.1 x.2 ∧ x.1 ≤ l.length) (fun x => l.length - x.1) (0, ⟨out, delta + p, bias, h⟩) ⟨hJ, by dsimp only; omega⟩ wk0 ?_
         rintro ⟨j, ⟨out1, delta1, bias1, h1'⟩⟩ ⟨hJ1, hj⟩
         dsimp only at hJ1 hj
         have hroom : h + l.countP (· == m) ≤ l.length := by
           have := z6i (l := l) (n := n) (m := m) h1.2.2 h1.2.1
           have := List.countP_le_length (p := fun x : Int => decide (x < m + 1)) (l := l)
           omega
         have hd0' := hJ1.d0
         have hd1' := hJ1.d1
         have hb0' := hJ1.b0
         have hb1' := hJ1.b1
         have hhl := hJ1.hl
         have hlen' := hJ1.len
         have hh' := hJ1.hh
         have hh0 := hJ1.h0
         dsimp only at hd0' hd1' hb0' hb1' hhl hlen' hh' hh0
         by_cases hjl : j < l.length
         · have hN := hJ1.next hjl (by dsimp only; omega) hroom
           have hwl := y0fs delta1 bias1
           obtain ⟨r, hrr⟩ : ∃ r, l.getD j 0 = r := ⟨_, rfl⟩
           rw [hrr] at hN
           repeat' first | refine z1b [0] (y01n out1 delta1 bias1 (by omega) (by omega) (by omega) (by omega) (by omega)) ?_ | refine z07 (z4g _ _ _ (by omega) (by omega) (by omega) (by omega)) ?_ ?_ | simp (maxSteps := 4000000) (disch := omega) only [z13, z12, bun, ↓z05, ↓z01, z03, findLabel, ↓reduceIte, imp, shift, z0g, z0c, unown, names, z08, below, noF, isF, z04, z0a, z09, ren, z0t, z0u, z0h, renO, belowM, seval, -Int.reduceToNat, hrr, B3, B4, B9, B21, B63, B5, B84, z14, z0y] | exact z0n _ | refine z0m _ _ ?_ | exact Cln.cl | refine z02 _ ?_ | refine z00 _ _ ?_ ?_ | refine z10 _ ?_ | (refine Fk.fk ?_ ?_ <;> intro hg <;> (try simp only [hg]) <;> (try simp only [z11] at hg) <;> try (exfalso; first | omega | exact Bool.noConfusion hg | exact hg trivial)) | refine And.intro (by omega) ?_ | omega
           · have e : z6m m (z0o l).length ⟨out1, delta1, bias1, h1'⟩ r = ⟨out1, delta1 + 1, bias1, h1'⟩ := by unfold z6m; rw [if_pos (by omega)]
             rw [e] at hN
             exact ⟨(j + 1, _), ⟨hN, by dsimp only; omega⟩, by dsimp only; omega, wk0⟩
           · have e : z6m m (z0o l).length ⟨out1, delta1, bias1, h1'⟩ r = ⟨out1 ++ wr delta1 bias1, 0, adapt delta1 (h1' + 1) (h1' == ((z0o l).length : Int)), h1' + 1⟩ := by unfold z6m; rw [if_neg (by omega), if_pos (by omega)]
             rw [e] at hN
             exact ⟨(j + 1, _), ⟨hN, by dsimp only; omega⟩, by dsimp only; omega, wk0⟩
           · have e : z6m m (z0o l).length ⟨out1, delta1, bias1, h1'⟩ r = ⟨out1, delta1, bias1, h1'⟩ := by unfold z6m; rw [if_neg (by omega), if_neg (by omega)]
             rw [e] at hN
             exact ⟨(j + 1, _), ⟨hN, by dsimp only; omega⟩, by dsimp only; omega, wk0⟩
         · have ej : j = l.length := by omega
           subst ej
           obtain ⟨hL, hgt⟩ := hJ1.last h1 hn0 hm hhh hc1
           dsimp only at hL hgt
           have heq := hJ1.eq
           rw [List.take_length] at heq
           repeat' first | simp (maxSteps := 4000000) (disch := omega) only [z13, z12, bun, ↓z05, ↓z01, z03, findLabel, ↓reduceIte, imp, shift, z0g, z0c, unown, names, z08, below, noF, isF, z04, z0a, z09, ren, z0t, z0u, z0h, renO, belowM, seval, -Int.reduceToNat, B3, B4, B9, B21, B63, B5, B84, z14, z0y] | refine z10 _ ?_ | (refine Fk.fk ?_ ?_ <;> intro hg <;> (try simp only [hg]) <;> (try simp only [z11] at hg) <;> try (exfalso; first | omega | exact Bool.noConfusion hg | exact hg trivial)) | refine And.intro (by omega) ?_ | omega
           refine ⟨(f, m + 1, ⟨out1, delta1 + 1, bias1, h1'⟩), ⟨hL, by dsimp only; omega, ?_⟩, by dsimp only; omega, wk0⟩
           rw [← hv]
           unfold zg5
           rw [← heq]
       · have hv' : out = z4b l := by
           rw [← hv]
           cases f with
           | zero => rfl
           | succ f => rw [enF, if_neg hlt]
         repeat' first | simp (maxSteps := 4000000) (disch := omega) only [z13, z12, bun, ↓z05, ↓z01, z03, findLabel, ↓reduceIte, imp, shift, z0g, z0c, unown, names, z08, below, noF, isF, z04, z0a, z09, ren, z0t, z0u, z0h, renO, belowM, seval, -Int.reduceToNat, B3, B4, B9, B21, B63, B5, B84, z14, z0y] | refine z10 _ ?_ | (refine Fk.fk ?_ ?_ <;> intro hg <;> (try simp only [hg]) <;> (try simp only [z11] at hg) <;> try (exfalso; first | omega | exact Bool.noConfusion hg | exact hg trivial)) | refine And.intro (by omega) ?_ | omega
         rw [hv']
end Go.AE
end
section
set_option linter.unusedSimpArgs false
set_option linter.unusedVariables false
namespace Go.AE
open Go.Proofs Go.Lib
def insF : Nat := 120
theorem zeh {P : Program} {ops : Array Oper} {rest : List Oper} {o : Oper} {a : Act} {w w' : World} {Q : Exit → Act → World → Prop} (hg : o.guard = none) (d x : Operand) (t u : TypeId)
   (ho : o.op = .call { callee := .builtin .copy, args := #[d, x], argTypes := #[t, u] }) {p q v : Value} (hd : a.eval d = p) (hx : a.eval x = q)
   (hr : (Builtin.copy_ #[t, u] o.type #[p, q]).run P w = .ok v w') (h : wpList P ops Q rest (a.put o.dst v) w') : wpList P ops Q (o :: rest) a w := by
 refine wpList_plain hg fun K hK => ?_
 unfold Oper.wp execOp
 simp only [ho, resolve, invoke, builtin, Sem.run_bind, Sem.run_pure, Result.andThen_ok, List.map_toArray, List.map_cons, List.map_nil, hd, hx, hr]
 exact hK _ _ h
theorem zg1 {P : Program} {ops : Array Oper} {o : Oper} {a : Act} {w w' : World} {K : Act → World → Prop} {Q : Exit → Act → World → Prop} {E : Prop} (hg : o.guard = none) (d x : Operand) (t u : TypeId)
   (ho : o.op = .call { callee := .builtin .copy, args := #[d, x], argTypes := #[t, u] }) {p q v : Value} (hd : a.eval d = p) (hx : a.eval x = q)
   (hr : (Builtin.copy_ #[t, u] o.type #[p, q]).run P w = .ok v w') (h : K (a.put o.dst v) w') : if Region.wanted o (yielded ops a.tmps) = true then Oper.wp P o a w K Q else E := by
 rw [if_pos (by simp [Region.wanted, hg])]
 unfold Oper.wp execOp
 simp only [ho, resolve, invoke, builtin, Sem.run_bind, Sem.run_pure, Result.andThen_ok, List.map_toArray, List.map_cons, List.map_nil, hd, hx, hr]
 exact h
set_option maxHeartbeats 4000000 in
set_option maxRecDepth 100000 in
theorem y0b8 (b n c i vb voff vc : Nat) (cs : List Value) (x : Value) (w : World) (hi : i < n) (hroom : n + 1 ≤ c) (hc63 : c ≤ 9223372036854775807) (hvb : vb ≠ b) (hcl : cs.length = n)
   (hcs : ∀ j v, cs[j]? = some v → w.cell? ⟨b, j, none⟩ = some v) (hsp : ∀ j, j < n + 1 → (w.cell? ⟨b, j, none⟩).isSome = true) (hfz : ∀ j, j < n + 1 → w.frozen? ⟨b, j, none⟩ = false)
   (hvs : w.cell? ⟨vb, voff, none⟩ = some x) (h1c : ∀ v ∈ cs, v.oneCell' = true) (h1v : x.oneCell' = true)
   (tA tB : TypeId) (kA kB : Nat) (hsa : w.shape? vb = some (tA, kA)) (hsb : w.shape? b = some (tB, kB)) (hkB : kB ≠ 0) (hfa : w.frozen? ⟨vb, voff, none⟩ = false) (hfe : w.frozen? ⟨vb, kA, none⟩ = false) :
   Calls Tryz.prog insF #[.slice (some ⟨b, 0, none⟩) n c, .int .i64 i, .slice (some ⟨vb, voff, none⟩) 1 vc] w fun e w' =>
     e = .returned (.slice (some ⟨b, 0, none⟩) (n + 1) c) ∧ w' = (w.drew.setCells b (i + 1) (cs.drop i)).setCells b i [x] := by
 have hne : ¬ ((i : Int) = (n : Int)) := by omega
 have hsz : (Tryz.prog.info? 21).map (·.size) = some 1 := by kernel_rfl
 have hov : ∀ lb cb, (callFunc 160 #[.slice (some ⟨vb, voff, none⟩) 1 vc, .slice (some ⟨b, i + 1, none⟩) lb cb]).run Tryz.prog w = .ok (.value (.bool false)) w := fun lb cb => by
   rw [run_callFunc_extern Tryz.func160 (by kernel_rfl) (by kernel_rfl) (by kernel_rfl) (e := Extern.SlicesOverlaps.overlaps #[63, 63] #[4]) (by kernel_rfl),
     Lib.run_overlaps_apart w 63 4 21 Tryz.underlying63 1 Tryz.sizeOf21 ⟨vb, voff, none⟩ ⟨b, i + 1, none⟩ 1 vc lb cb hvb tA tB kA kB hsa hsb hkB hfa hfe]
   rfl
 have hdl : (cs.drop i).length = n - i := by rw [List.length_drop, hcl]
 have mixed : Tryz.prog.follows .mixedOrders = true := by decide +kernel
 have hw1 : IntKind.i64.wrap ((i : Int) + 1) = (i : Int) + 1 := by rw [IntKind.wrap_i64]; omega
 have hb1 : (0 : Int) ≤ (i : Int) + 1 := by omega
 have hin : i ≤ n := by omega
 have htn : ((i : Int) + 1).toNat = i + 1 := by omega
 have hb2 : ¬ (c = i + 1) := by omega
 have hb3 : (i : Int) ≤ (n : Int) + 1 := by omega
 have hb4 : ¬ (c = i) := by omega
 have hb5 : (i : Int) ≤ (n : Int) := by omega
 have hc1 : ∀ ty dc sc, (Builtin.copy_ #[63, 63] ty #[.slice (some ⟨b, i + 1, none⟩) (n + 1 - (i + 1)) dc, .slice (some ⟨b, i, none⟩) (n + 1 - i) sc]).run Tryz.prog w.drew = .ok (goInt (cs.drop i).length) (w.drew.setCells b (i + 1) (cs.drop i)) := fun ty dc sc =>
   run_copy_cells w.drew _ _ ty 21 b (i + 1) (n + 1 - (i + 1)) dc ⟨b, i, none⟩ (n + 1 - i) sc (cs.drop i) Tryz.underlying63 hsz (by rw [hdl]; simp only [Nat.min_def]; split <;> omega)
     (fun j v hj => by rw [Addr.add_lit]; exact hcs (i + j) v (by rwa [List.getElem?_drop] at hj))
     (fun j hj => hsp _ (by omega)) (fun j hj => hfz _ (by omega)) (fun v hv => h1c v (List.mem_of_mem_drop hv))
 obtain ⟨W1, hW1⟩ : ∃ W1, W1 = w.drew.setCells b (i + 1) (cs.drop i) := ⟨_, rfl⟩
 have hsp1 : ∀ k, k < n + 1 → (W1.cell? ⟨b, k, none⟩).isSome = true := fun k hk => by
   rw [hW1]
   by_cases hin : i + 1 ≤ k
   · have := World.cell?_setCells_in b (cs.drop i) (i + 1) w.drew (fun j hj => hsp _ (by omega)) (k - (i + 1)) (by omega)
     rw [show i + 1 + (k - (i + 1)) = k by omega] at this
     rw [this]; rfl
   · rw [World.cell?_setCells_out b _ _ _ ⟨b, k, none⟩ (fun _ _ => by show k < i + 1 ∨ _; omega)]
     exact hsp k hk
 have hc2 : ∀ (W : World), (∀ x, W.cell? x = W1.cell? x) → (∀ x, W.frozen? x = W1.frozen? x) → ∀ ty dc, (Builtin.copy_ #[63, 63] ty #[.slice (some ⟨b, i, none⟩) (n + 1 - i) dc, .slice (some ⟨vb, voff, none⟩) 1 vc]).run Tryz.prog W = .ok (goInt 1) (W.setCells b i [x]) := fun W hWc hWf ty dc =>
   run_copy_cells W _ _ ty 21 b i (n + 1 - i) dc ⟨vb, voff, none⟩ 1 vc [x] Tryz.underlying63 hsz (by simp only [Nat.min_def, List.length_cons, List.length_nil]; split <;> omega)
     (fun j v hj => by
       have hj0 : j = 0 := by have := (List.getElem?_eq_some_iff.1 hj).1; simpa using this
       subst hj0
       simp at hj; subst hj
       rw [Addr.add_lit, hWc, hW1, World.cell?_setCells_out b _ _ _ _ (fun h _ => absurd h hvb)]
       exact hvs)
     (fun j hj => by rw [hWc]; exact hsp1 _ (by simp at hj; omega)) (fun j hj => by rw [hWf, hW1, World.frozen?_setCells]; exact hfz _ (by simp at hj; omega)) (fun v hv => by simp at hv; subst hv; exact h1v)
 rw [← hW1] at hc1
 unfold insF
 go_enter Tryz.func120, Tryz.ntmps120
 go_wp2_with (simp only [hov])
 go_region_law_o (refine zg1 rfl _ _ 63 63 rfl (by simp [Act.eval, Act.put]; rfl) (by simp [Act.eval, Act.put]; rfl) (hc1 _ _ _) ?_)
 go_wp2_with (at_builtin; refine zeh rfl _ _ 63 63 rfl rfl rfl (hc2 _ (fun _ => rfl) (fun _ => rfl) _ _) ?_)
 go_ret
 exact ⟨rfl, rfl⟩
set_option maxHeartbeats 4000000 in
set_option maxRecDepth 100000 in
theorem y0b7 (b n c i vb voff vc : Nat) (cs : List Value) (x : Value) (w : World) (hi : i < n) (hnc : n ≤ c) (hroom : c < n + 1) (hbig : (n + 1) * 4 ≤ 140737488355328) (hcl : cs.length = n)
   (hcs : ∀ j v, cs[j]? = some v → w.cell? ⟨b, j, none⟩ = some v)
   (hvs : w.cell? ⟨vb, voff, none⟩ = some x) (h1c : ∀ v ∈ cs, v.oneCell' = true) (h1v : x.oneCell' = true) :
   Calls Tryz.prog insF #[.slice (some ⟨b, 0, none⟩) n c, .int .i64 i, .slice (some ⟨vb, voff, none⟩) 1 vc] w fun e w' =>
     e = .returned (.slice (some ⟨w.heap.size, 0, none⟩) (n + 1) (grownCap w (n + 1) c 21)) ∧
     w' = (((w.alloc (.cells ((cs.take i).toArray ++ Builtin.zeroCells (Value.int .i32 0).cells (n + 1 - i) ++ Builtin.zeroCells (Value.int .i32 0).cells (grownCap w (n + 1) c 21 - (n + 1))) 21)).drew.setCells w.heap.size i [x]).drew).setCells w.heap.size (i + 1) (cs.drop i) := by
 have hne : ¬ ((i : Int) = (n : Int)) := by omega
 have hne2 : (c : Int) < (n : Int) + 1 := by omega
 obtain ⟨i0, hi0, hz0, hzs, hzb⟩ := info_parts (P := Tryz.prog) (e := 21) (z := .int .i32 0) (size := 1) (bytes := 4) (by kernel_rfl)
 have hsz : (Tryz.prog.info? 21).map (·.size) = some 1 := by rw [hi0]; simp [hzs]
 have hbw : b < w.heap.size := block_lt_of_cell (hcs 0 _ (List.getElem?_eq_getElem (by omega)))
 have hvw : vb < w.heap.size := block_lt_of_cell hvs
 have hkk : (n : Int) + 1 - (i : Int) = ((n + 1 - i : Nat) : Int) := by omega
 have hik : i + (n + 1 - i) = n + 1 := by omega
 have hold : (Builtin.firstCells i0.size i (.slice (some ⟨b, 0, none⟩) i c)).run Tryz.prog w.drew = .ok (cs.take i).toArray w.drew := by
   rw [hzs]
   refine run_firstCells_some w.drew 1 i ⟨b, 0, none⟩ i c (cs.take i) (by rw [List.length_take]; omega) fun j v hj => ?_
   rw [Addr.add_lit, Nat.zero_add]
   rw [List.getElem?_take] at hj
   split at hj
   · exact hcs j v hj
   · cases hj
 obtain ⟨G, hG⟩ : ∃ G, G = grownCap w (n + 1) c 21 := ⟨_, rfl⟩
 obtain ⟨ROW, hROW⟩ : ∃ ROW : Array Value, ROW = (cs.take i).toArray ++ Builtin.zeroCells (Value.int .i32 0).cells (n + 1 - i) ++ Builtin.zeroCells (Value.int .i32 0).cells (G - (n + 1)) := ⟨_, rfl⟩
 have happ : ∀ ty, (Builtin.append_ #[63, 3] ty #[.slice (some ⟨b, 0, none⟩) i c, .int .i64 ((n : Int) + 1 - (i : Int))]).run Tryz.prog w = .ok (.slice (some ⟨w.heap.size, 0, none⟩) (n + 1) G) (w.drew.alloc (.cells ROW 21)) := fun ty => by
   have h := Lib.run_append_grow_zeros (P := Tryz.prog) w 63 3 ty 21 i0 _ .i64 .i64 Tryz.underlying63 Tryz.underlying3 hi0 hz0 (some ⟨b, 0, none⟩) i c (cs.take i) hold (n + 1 - i) (by omega) (by omega) (by omega) (by omega) (by rw [hzb]; omega) (by rw [hzb, hik]; exact growslice_fits hroom hbig)
   rw [hik] at h
   rw [hkk, hROW, hG]
   exact h
 rw [← hG, ← hROW]
 have hRl : n + 1 ≤ ROW.size := by rw [hROW]; simp [Builtin.zeroCells, Value.cells]; omega
 obtain ⟨W1, hW1⟩ : ∃ W1, W1 = w.drew.alloc (.cells ROW 21) := ⟨_, rfl⟩
 have hN : ∀ j, j < n + 1 → (W1.cell? ⟨w.heap.size, j, none⟩).isSome = true := fun j hj => by
   rw [hW1, World.cell?_alloc_at (w := w.drew) ROW _ w.heap.size j rfl, Array.getElem?_eq_getElem (by omega)]; rfl
 have hNf : ∀ j, W1.frozen? ⟨w.heap.size, j, none⟩ = false := fun j => by rw [hW1]; exact World.frozen?_alloc_at (w := w.drew) ROW _ w.heap.size j rfl
 have hOb : ∀ j v, w.cell? ⟨b, j, none⟩ = some v → W1.cell? ⟨b, j, none⟩ = some v := fun j v h => by rw [hW1, World.cell?_alloc_past (w := w.drew) _ b j hbw]; exact h
 have hOv : ∀ j v, w.cell? ⟨vb, j, none⟩ = some v → W1.cell? ⟨vb, j, none⟩ = some v := fun j v h => by rw [hW1, World.cell?_alloc_past (w := w.drew) _ vb j hvw]; exact h
 have hGn : n + 1 ≤ G := by rw [hG]; exact grownCap_ge w _ _ _
 have hG63 : G ≤ 9223372036854775807 := by
   have := grownCap_le_maxLen w (n + 1) c 21 (by unfold maxLen; omega)
   rw [← hG] at this
   unfold maxLen at this
   omega
 have hcA : ∀ (W : World), (∀ x, W.cell? x = W1.cell? x) → (∀ x, W.frozen? x = W1.frozen? x) → ∀ ty dc, (Builtin.copy_ #[63, 63] ty #[.slice (some ⟨w.heap.size, i, none⟩) (n + 1 - i) dc, .slice (some ⟨vb, voff, none⟩) 1 vc]).run Tryz.prog W = .ok (goInt 1) (W.setCells w.heap.size i [x]) := fun W hWc hWf ty dc =>
   run_copy_cells W _ _ ty 21 w.heap.size i (n + 1 - i) dc ⟨vb, voff, none⟩ 1 vc [x] Tryz.underlying63 hsz (by simp only [Nat.min_def, List.length_cons, List.length_nil]; split <;> omega)
     (fun j v hj => by
       have hj0 : j = 0 := by have := (List.getElem?_eq_some_iff.1 hj).1; simpa using this
       subst hj0
       simp at hj; subst hj
       rw [Addr.add_lit, hWc]
       exact hOv _ _ hvs)
     (fun j hj => by rw [hWc]; exact hN _ (by simp at hj; omega)) (fun j hj => by rw [hWf]; exact hNf _) (fun v hv => by simp at hv; subst hv; exact h1v)
 have hdl : (cs.drop i).length = n - i := by rw [List.length_drop, hcl]
 have hbN : b ≠ w.heap.size := by omega
 obtain ⟨W2, hW2⟩ : ∃ W2, W2 = W1.setCells w.heap.size i [x] := ⟨_, rfl⟩
 have hN2 : ∀ k, k < n + 1 → (W2.cell? ⟨w.heap.size, k, none⟩).isSome = true := fun k hk => by
   rw [hW2]
   by_cases hin : k = i
   · subst hin
     have := World.cell?_setCells_in w.heap.size [x] k W1 (fun j hj => hN _ (by simp at hj; omega)) 0 (by simp)
     rw [Nat.add_zero] at this
     rw [this]; rfl
   · rw [World.cell?_setCells_out w.heap.size _ _ _ ⟨w.heap.size, k, none⟩ (fun _ _ => by show k < i ∨ i + 1 ≤ k; omega)]
     exact hN k hk
 have hcB : ∀ (W : World), (∀ x, W.cell? x = W2.cell? x) → (∀ x, W.frozen? x = W2.frozen? x) → ∀ ty dc sc, (Builtin.copy_ #[63, 63] ty #[.slice (some ⟨w.heap.size, i + 1, none⟩) (n + 1 - (i + 1)) dc, .slice (some ⟨b, i, none⟩) (n - i) sc]).run Tryz.prog W = .ok (goInt (cs.drop i).length) (W.setCells w.heap.size (i + 1) (cs.drop i)) := fun W hWc hWf ty dc sc =>
   run_copy_cells W _ _ ty 21 w.heap.size (i + 1) (n + 1 - (i + 1)) dc ⟨b, i, none⟩ (n - i) sc (cs.drop i) Tryz.underlying63 hsz (by rw [hdl]; simp only [Nat.min_def]; split <;> omega)
     (fun j v hj => by
       rw [Addr.add_lit, hWc, hW2, World.cell?_setCells_out _ _ _ _ _ (fun h _ => absurd h hbN)]
       exact hOb _ v (hcs (i + j) v (by rwa [List.getElem?_drop] at hj)))
     (fun j hj => by rw [hWc]; exact hN2 _ (by omega)) (fun j hj => by rw [hWf, hW2, World.frozen?_setCells]; exact hNf _) (fun v hv => h1c v (List.mem_of_mem_drop hv))
 have mixed : Tryz.prog.follows .mixedOrders = true := by decide +kernel
 have hw1 : IntKind.i64.wrap ((i : Int) + 1) = (i : Int) + 1 := by rw [IntKind.wrap_i64]; omega
 have hb1 : (0 : Int) ≤ (i : Int) + 1 := by omega
 have hin : i ≤ n := by omega
 have htn : ((i : Int) + 1).toNat = i + 1 := by omega
 have hb3 : (i : Int) ≤ (n : Int) + 1 := by omega
 have hb5 : (i : Int) ≤ (n : Int) := by omega
 have hGi : ¬ (G = i) := by omega
 have hGim : ¬ (G = i + 1) := by omega
 have hci : ¬ (c = i) := by omega
 subst hW2 hW1
 have hE1 : ∀ x, ((w.alloc (.cells ROW 21)).drew).cell? x = (w.drew.alloc (.cells ROW 21)).cell? x := fun x => rfl
 have hE2 : ∀ x, ((w.alloc (.cells ROW 21)).drew).frozen? x = (w.drew.alloc (.cells ROW 21)).frozen? x := fun x => rfl
 have hF1 : ∀ y, (((w.alloc (.cells ROW 21)).drew.setCells w.heap.size i [x]).drew).cell? y = ((w.drew.alloc (.cells ROW 21)).setCells w.heap.size i [x]).cell? y := fun y => rfl
 have hF2 : ∀ y, (((w.alloc (.cells ROW 21)).drew.setCells w.heap.size i [x]).drew).frozen? y = ((w.drew.alloc (.cells ROW 21)).setCells w.heap.size i [x]).frozen? y := fun y => rfl
 clear hkk hold hROW hRl
 unfold insF
 go_enter Tryz.func120, Tryz.ntmps120
 go_wp2_with (first
   | (at_builtin; refine Lib.wpList_append_run _ rfl _ _ _ _ rfl _ _ rfl rfl _ _ (happ _) ?_)
   | (at_builtin; refine zeh rfl _ _ 63 63 rfl rfl rfl (hcA _ hE1 hE2 _ _) ?_))
 go_region_law_o (refine zg1 rfl _ _ 63 63 rfl (p := .slice (some ⟨w.heap.size, i + 1, none⟩) (n + 1 - (i + 1)) (G - (i + 1))) (q := .slice (some ⟨b, i, none⟩) (n - i) (c - i)) (by simp [Act.eval, Act.put] <;> omega) (by simp [Act.eval, Act.put] <;> omega) (hcB _ hF1 hF2 _ _ _) ?_)
 go_wp2
 go_ret
 exact ⟨rfl, rfl⟩
theorem z3y (b : Nat) : ∀ (vs : List Value) (o : Nat) (w : World) {c : Array Value} {e : TypeId} {fz : Nat × Nat}, w.heap[b]? = some (.cells c e fz) →
   (∃ c', (w.setCells b o vs).heap[b]? = some (.cells c' e fz) ∧ c'.size = c.size ∧ ∀ j, j < c.size → c'[j]? = if o ≤ j ∧ j < o + vs.length then vs[j - o]? else c[j]?) ∧
   (∀ k, k ≠ b → (w.setCells b o vs).heap[k]? = w.heap[k]?) ∧ (w.setCells b o vs).heap.size = w.heap.size ∧ (w.setCells b o vs).os = w.os ∧ (w.setCells b o vs).tape = w.tape ∧ (w.setCells b o vs).output = w.output
 | [], o, w, c, e, fz, h => ⟨⟨c, h, rfl, fun j hj => by rw [if_neg]; simp⟩, fun _ _ => rfl, rfl, rfl, rfl, rfl⟩
 | v :: r, o, w, c, e, fz, h => by
   have hb : b < w.heap.size := (Array.getElem?_eq_some_iff.1 h).1
   have h1 : (w.setCell ⟨b, o, none⟩ v).heap[b]? = some (.cells (c.setIfInBounds o v) e fz) := by
     simp only [World.setCell, Array.getElem?_modify, if_pos, h, Option.map_some, Option.isSome_none, Bool.false_eq_true, if_false]
   obtain ⟨⟨c', q1, q2, q3⟩, q4, q5, q6, q7, q8⟩ := z3y b r (o + 1) (w.setCell ⟨b, o, none⟩ v) h1
   refine ⟨⟨c', q1, by rw [q2]; simp, fun j hj => ?_⟩, fun k hk => ?_, ?_, q6, q7, q8⟩
   · rw [q3 j (by simpa using hj)]
     by_cases hjo : j = o
     · subst hjo
       rw [if_neg (by omega), if_pos (by simp)]
       simp [hj]
     · by_cases hin : o + 1 ≤ j ∧ j < o + 1 + r.length
       · rw [if_pos hin, if_pos (by simp; omega), show j - o = (j - (o + 1)) + 1 by omega]; simp
       · rw [if_neg hin, if_neg (by simp; omega)]
         simp [Array.getElem?_setIfInBounds, Ne.symm hjo]
   · rw [World.setCells, q4 k hk]
     simp only [World.setCell, Array.getElem?_modify]
     rw [if_neg (Ne.symm hk)]
   · rw [World.setCells, q5]; simp [World.setCell]
end Go.AE
end
section
set_option linter.unusedSimpArgs false
set_option linter.unusedVariables false
namespace Go.AE
open Go.Proofs Go.Lib
def zrn (L : List Int) (i : Nat) (x : Int) : List Int := L.take i ++ x :: L.drop i
theorem zhz {w : World} {b : Nat} {c : Array Value} {e : TypeId} {fz : Nat × Nat} (h : w.heap[b]? = some (.cells c e fz)) : w.shape? b = some (e, c.size) := by
 simp [World.shape?, h]
theorem zat {w : World} {F : Nat → Prop} {G : Gh} : ∀ {L : List Int} {vs : List Value}, z0l w F G (L.map I32) vs → vs = L.map (Value.int .i32)
 | [], vs, h => by cases h; rfl
 | a :: L, vs, h => by
   cases h with
   | cons h1 h2 => rw [zat h2]; cases h1; rfl
theorem znp {w : World} {F : Nat → Prop} {G : Gh} : ∀ (L : List Int), z0l w F G (L.map I32) (L.map (Value.int .i32))
 | [] => .nil
 | a :: L => .cons (.v _) (znp L)
theorem y0b6 (L : List Int) (i : Nat) (x : Int) (hi : i ≤ L.length) : (zrn L i x).length = L.length + 1 := by simp [zrn]; omega
theorem y071 (L : List Int) (i : Nat) (x : Int) (hi : i ≤ L.length) (j : Nat) (hj : j < L.length + 1) :
   ((zrn L i x).map (Value.int .i32))[j]? = if j < i then (L.map (Value.int .i32))[j]? else if j = i then some (.int .i32 x) else (L.map (Value.int .i32))[j - 1]? := by
 simp only [zrn, List.map_append, List.map_cons, List.map_take, List.map_drop]
 by_cases h1 : j < i
 · rw [if_pos h1, List.getElem?_append_left (by simp; omega), List.getElem?_take_of_lt h1]
 · rw [if_neg h1, List.getElem?_append_right (by simp; omega)]
   have e : ((L.map (Value.int .i32)).take i).length = i := by simp; omega
   rw [e]
   by_cases h2 : j = i
   · subst h2; simp
   · rw [if_neg h2, show j - i = (j - i - 1) + 1 by omega, List.getElem?_cons_succ, List.getElem?_drop, show i + (j - i - 1) = j - 1 by omega]
theorem y006 (L : List Int) (i : Nat) (x : Int) (hi : i < L.length) (hL : L.length ≤ 1000000000) :
   z4a Tryz.prog 120 [.arr 21 1 (L.map I32), .arr 21 1 [I32 x]] [.ref 0 0 L.length, I64 i, .ref 1 0 1] [.arr 21 1 ((zrn L i x).map I32), .arr 21 1 [I32 x], .fence] (.ref 0 0 (L.length + 1)) := by
 refine ⟨⟨_, Tryz.func120, by decide +kernel, by decide +kernel⟩, fun w F g vs hR hr => ?_⟩
 obtain ⟨v0, v1, v2, rfl, h0, h1, h2⟩ : ∃ v0 v1 v2, vs = [v0, v1, v2] ∧ Rep w F (g ++ [none]) (.ref 0 0 L.length) v0 ∧ Rep w F (g ++ [none]) (I64 i) v1 ∧ Rep w F (g ++ [none]) (.ref 1 0 1) v2 := by
   cases hr with
   | cons h0 hr => cases hr with
     | cons h1 hr => cases hr with
       | cons h2 hr => cases hr; exact ⟨_, _, _, rfl, h0, h1, h2⟩
 cases h1
 have ho0 : obj ([Ob.arr 21 1 (L.map I32), .arr 21 1 [I32 x]] ++ [Ob.fence]) 0 = .arr 21 1 (L.map I32) := rfl
 have ho1 : obj ([Ob.arr 21 1 (L.map I32), .arr 21 1 [I32 x]] ++ [Ob.fence]) 1 = .arr 21 1 [I32 x] := rfl
 obtain ⟨gg, us, hg, hv0, hown, hrs, hone, hsz⟩ := zc3 hR (id := 0) ho0 h0 (by simp)
 obtain ⟨gk, ks, hk, hv2, hown2, hrs2, hone2, hsz2⟩ := zc3 hR (id := 1) ho1 h2 (by simp)
 have hus := zat hrs
 subst hus
 have hks := zat (L := [x]) hrs2
 subst hks
 obtain ⟨M, rfl⟩ : ∃ M, gg = some M := by
   cases gg with
   | none =>
     rcases hown.2 with ⟨_, hn⟩ | ⟨_, _, _, h5, _⟩
     · omega
     · rw [hv0] at h5; simp [slv] at h5
   | some M => exact ⟨M, rfl⟩
 obtain ⟨K, rfl⟩ : ∃ M, gk = some M := by
   cases gk with
   | none =>
     rcases hown2.2 with ⟨_, hn⟩ | ⟨_, _, _, h5, _⟩
     · cases hn
     · rw [hv2] at h5; simp [slv] at h5
   | some M => exact ⟨M, rfl⟩
 have hM0 : M.o = 0 := by
   have := hR.obG hg
   obtain ⟨_, _, _, _, _, _, h5⟩ := this
   exact h5 M rfl
 rcases hown.2 with ⟨h5, _⟩ | ⟨gb, cap, cur, h5, _, hh, hn, hm, hs, ht⟩
 · rw [hv0] at h5; simp [slv] at h5
 rw [hv0] at h5
 simp [slv] at h5
 obtain ⟨rfl, rfl⟩ := h5
 rcases hown2.2 with ⟨h5, _⟩ | ⟨gb, cap, kc, h5, _, hkh, hkn, hkm, hks, hkt⟩
 · rw [hv2] at h5; simp [slv] at h5
 rw [hv2] at h5
 simp [slv] at h5
 obtain ⟨rfl, rfl⟩ := h5
 rw [hv0, hv2]
 have hKM : K.b ≠ M.b := fun e => by have := hR.inj 1 0 K M hk hg e; omega
 have hkx : w.cell? ⟨K.b, 0, none⟩ = some (.int .i32 x) := by
   have : (kc.toList.take (1 * 1))[0]? = some (Value.int .i32 x) := by rw [hkt]; rfl
   rw [List.getElem?_take_of_lt (by omega)] at this
   simp [World.cell?, hkh]; simpa using this
 have hcl : (L.map (Value.int .i32)).length = L.length := by simp
 have hcur : ∀ (j : Nat) (v : Value), (L.map (Value.int .i32))[j]? = some v → cur[j]? = some v := by
   intro j v hj
   have hlt : j < L.length := by have := (List.getElem?_eq_some_iff.1 hj).1; simpa using this
   rw [← ht, List.getElem?_take_of_lt (by omega)] at hj
   simpa using hj
 have hcs : ∀ (j : Nat) (v : Value), (L.map (Value.int .i32))[j]? = some v → w.cell? ⟨M.b, j, none⟩ = some v := fun j v hj => by
   simp [World.cell?, hh, hcur j v hj]
 have hil : (zrn L i x).length = L.length + 1 := y0b6 L i x (by omega)
 have hdl : ((L.map (Value.int .i32)).drop i).length = L.length - i := by simp
 have hone' : ∀ u ∈ (zrn L i x).map (Value.int .i32), u.oneCell' = true := fun u hu => by
   obtain ⟨y, _, rfl⟩ := List.mem_map.1 hu; rfl
 have hMb := hR.live 0 M hg
 by_cases hroom : L.length + 1 ≤ M.cap
 · have hsp : ∀ j, j < L.length + 1 → (w.cell? ⟨M.b, j, none⟩).isSome = true := fun j hj => by
     simp only [World.cell?, hh]
     rw [Array.getElem?_eq_getElem (by omega)]; rfl
   have hfz : ∀ j, j < L.length + 1 → w.frozen? ⟨M.b, j, none⟩ = false := fun j hj => by simp [World.frozen?, hh]
   refine (y0b8 M.b L.length M.cap i K.b 0 K.cap _ (.int .i32 x) w hi hroom (by unfold maxLen at hm; omega) hKM hcl hcs hsp hfz hkx hone rfl 21 21 kc.size cur.size (zhz hkh) (zhz hh) (by omega) ?_ ?_).mono ?_
   · simp [World.frozen?, hkh]
   · simp [World.frozen?, hkh]
   · rintro e w' ⟨rfl, rfl⟩
     obtain ⟨⟨c1, a1, a2, a3⟩, a4, a5, a6, a7, a8⟩ := z3y M.b ((L.map (Value.int .i32)).drop i) (i + 1) w.drew (c := cur) hh
     obtain ⟨⟨c2, b1, b2, b3⟩, b4, b5, b6, b7, b8⟩ := z3y M.b [Value.int .i32 x] i _ a1
     have hR' := hR.grow (.drew w)
     have hown' : ((w.drew.setCells M.b (i + 1) ((L.map (Value.int .i32)).drop i)).setCells M.b i [Value.int .i32 x]).ownsRow 0 21 1 (slv (some M) (L.length + 1)) (L.length + 1) ((zrn L i x).map (Value.int .i32)) := by
       refine ⟨by simp [hil], .inr ⟨M.b, M.cap, c2, rfl, Nat.zero_le _, b1, hroom, hm, by omega, ?_⟩⟩
       apply List.ext_getElem?
       intro j
       by_cases hj : j < L.length + 1
       · rw [List.getElem?_take_of_lt (by omega), Array.getElem?_toList, b3 j (by omega), y071 L i x (by omega) j hj]
         by_cases h1 : j < i
         · rw [if_neg (by omega), if_pos h1, a3 j (by omega), if_neg (by omega)]
           have : j < (L.map (Value.int .i32)).length := by simp; omega
           rw [hcur j _ (List.getElem?_eq_getElem this), List.getElem?_eq_getElem this]
         · rw [if_neg h1]
           by_cases h2 : j = i
           · subst h2; rw [if_pos (by simp), if_pos rfl]; simp
           · rw [if_neg h2, if_neg (by simp; omega), a3 j (by omega), if_pos (by omega), List.getElem?_drop, show i + (j - (i + 1)) = j - 1 by omega]
       · rw [List.getElem?_eq_none (by simp; omega), List.getElem?_eq_none (by simp [hil]; omega)]
     have hfin := hR'.turn (w' := (w.drew.setCells M.b (i + 1) ((L.map (Value.int .i32)).drop i)).setCells M.b i [Value.int .i32 x]) hg (o := .arr 21 1 ((zrn L i x).map I32)) (b6.trans a6) (b7.trans a7) (b8.trans a8) (b5.trans a5)
       (fun k hk => (b4 k hk).trans (a4 k hk)) ⟨L.length + 1, _, hown', znp _, hone', by omega, fun L' hL' => by simp at hL'; subst hL'; exact hM0⟩ hMb.2.2
       (fun r hr e => by
         rcases hMb.2.2 with h3 | ⟨_, h3⟩
         · have := hMb.2.1; omega
         · exact absurd e (h3 r hr)) (fun q => by cases q)
     refine ⟨_, _, _, rfl, hfin, ?_⟩
     have := Rep.ref (w := (w.drew.setCells M.b (i + 1) ((L.map (Value.int .i32)).drop i)).setCells M.b i [Value.int .i32 x]) (F := F) (off := 0) (len := L.length + 1) (cap := M.cap) hg (fun _ => rfl) hroom
     rw [hM0] at this
     exact this
 · refine (y0b7 M.b L.length M.cap i K.b 0 K.cap _ (.int .i32 x) w hi hn (by omega) (by omega) hcl hcs hkx hone rfl).mono ?_
   rintro e w' ⟨rfl, rfl⟩
   have hG1 := grownCap_ge w (L.length + 1) M.cap 21
   have hG2 := grownCap_le_maxLen w (L.length + 1) M.cap 21 (by unfold maxLen; omega)
   generalize hGG : grownCap w (L.length + 1) M.cap 21 = GG at *
   have hROWsz : (((L.map (Value.int .i32)).take i).toArray ++ Builtin.zeroCells (Value.int .i32 0).cells (L.length + 1 - i) ++ Builtin.zeroCells (Value.int .i32 0).cells (GG - (L.length + 1))).size = GG := by
     simp [Builtin.zeroCells, Value.cells]; omega
   have hROWlt : ∀ (j : Nat), j < i → (((L.map (Value.int .i32)).take i).toArray ++ Builtin.zeroCells (Value.int .i32 0).cells (L.length + 1 - i) ++ Builtin.zeroCells (Value.int .i32 0).cells (GG - (L.length + 1)))[j]? = (L.map (Value.int .i32))[j]? := by
     intro j hj
     rw [Array.append_assoc, Array.getElem?_append_left (by simp; omega)]
     simp only [List.getElem?_toArray]
     rw [List.getElem?_take_of_lt hj]
   generalize (((L.map (Value.int .i32)).take i).toArray ++ Builtin.zeroCells (Value.int .i32 0).cells (L.length + 1 - i) ++ Builtin.zeroCells (Value.int .i32 0).cells (GG - (L.length + 1))) = ROW at *
   have hnew : ((w.alloc (.cells ROW 21)).drew).heap[w.heap.size]? = some (.cells ROW 21 (0, 0)) := by
     have := z5u w (.cells ROW 21)
     exact this
   obtain ⟨⟨c1, a1, a2, a3⟩, a4, a5, a6, a7, a8⟩ := z3y w.heap.size [Value.int .i32 x] i _ hnew
   obtain ⟨⟨c2, b1, b2, b3⟩, b4, b5, b6, b7, b8⟩ := z3y w.heap.size ((L.map (Value.int .i32)).drop i) (i + 1) (((w.alloc (.cells ROW 21)).drew.setCells w.heap.size i [Value.int .i32 x]).drew) (c := c1) a1
   have hsize : (w.alloc (.cells ROW 21)).heap.size = w.heap.size + 1 := by simp
   have hgrow : z65 w ((((w.alloc (.cells ROW 21)).drew.setCells w.heap.size i [Value.int .i32 x]).drew).setCells w.heap.size (i + 1) ((L.map (Value.int .i32)).drop i)) := by
     refine ⟨b6.trans a6, b7.trans a7, b8.trans a8, ?_, fun k hk => ?_⟩
     · rw [b5]
       show w.heap.size ≤ ((w.alloc (.cells ROW 21)).drew.setCells w.heap.size i [Value.int .i32 x]).heap.size
       rw [a5]
       show w.heap.size ≤ (w.alloc (.cells ROW 21)).heap.size
       omega
     · rw [b4 k (by omega)]
       show ((w.alloc (.cells ROW 21)).drew.setCells w.heap.size i [Value.int .i32 x]).heap[k]? = _
       rw [a4 k (by omega)]
       exact (z65.alloc w (.cells ROW 21)).block k hk
   have hsz2' : w.heap.size < ((((w.alloc (.cells ROW 21)).drew.setCells w.heap.size i [Value.int .i32 x]).drew).setCells w.heap.size (i + 1) ((L.map (Value.int .i32)).drop i)).heap.size := by
     rw [b5]
     show w.heap.size < ((w.alloc (.cells ROW 21)).drew.setCells w.heap.size i [Value.int .i32 x]).heap.size
     rw [a5]
     show w.heap.size < (w.alloc (.cells ROW 21)).heap.size
     omega
   generalize ((((w.alloc (.cells ROW 21)).drew.setCells w.heap.size i [Value.int .i32 x]).drew).setCells w.heap.size (i + 1) ((L.map (Value.int .i32)).drop i)) = w' at *
   have hown' : w'.ownsRow 0 21 1 (slv (some ⟨w.heap.size, 0, GG⟩) (L.length + 1)) (L.length + 1) ((zrn L i x).map (Value.int .i32)) := by
     refine ⟨by simp [hil], .inr ⟨w.heap.size, GG, c2, rfl, Nat.zero_le _, b1, hG1, hG2, by omega, ?_⟩⟩
     apply List.ext_getElem?
     intro j
     by_cases hj : j < L.length + 1
     · rw [List.getElem?_take_of_lt (by omega), Array.getElem?_toList, b3 j (by omega), y071 L i x (by omega) j hj]
       by_cases h1 : j < i
       · rw [if_neg (by omega), if_pos h1, a3 j (by omega), if_neg (by omega)]
         exact hROWlt j h1
       · rw [if_neg h1]
         by_cases h2 : j = i
         · subst h2; rw [if_neg (by omega), if_pos rfl, a3 j (by omega), if_pos (by simp)]; simp
         · rw [if_neg h2, if_pos (by omega), List.getElem?_drop, show i + (j - (i + 1)) = j - 1 by omega]
     · rw [List.getElem?_eq_none (by simp; omega), List.getElem?_eq_none (by simp [hil]; omega)]
   have hgl : 0 < (g ++ [none]).length := by simp
   have hren := hR.renew hg (o := .arr 21 1 ((zrn L i x).map I32)) (g' := some ⟨w.heap.size, 0, GG⟩) hgrow ⟨L.length + 1, _, hown', znp _, hone', by omega, fun L' hL' => by simp at hL'; subst hL'; rfl⟩
     (fun L' hL' => by simp at hL'; subst hL'; exact ⟨Nat.le_refl _, hsz2'⟩) rfl (by intro q; cases q)
   refine ⟨_, _, _, rfl, hren, ?_⟩
   have hnw : ((g ++ [none]).set 0 (some ⟨w.heap.size, 0, GG⟩))[0]? = some (some ⟨w.heap.size, 0, GG⟩) := by simp
   exact Rep.ref (w := w') (F := F) (off := 0) (len := L.length + 1) (cap := GG) hnw (fun _ => rfl) hG1
set_option maxRecDepth 20000 in
theorem y005 (L : List Int) (x : Int) (hL : L.length ≤ 1000000000) :
   z4a Tryz.prog 120 [.arr 21 1 (L.map I32), .arr 21 1 [I32 x]] [.ref 0 0 L.length, I64 L.length, .ref 1 0 1] [.arr 21 1 ((zrn L L.length x).map I32), .arr 21 1 [I32 x], .fence] (.ref 0 0 (L.length + 1)) := by
 have e : zrn L L.length x = L ++ [x] := by simp [zrn]
 rw [e]
 refine z2g (ts := [.tmp 6]) ok1 Tryz.func120 rfl rfl (by decide +kernel) (by simp [Tryz.ntmps120]) rfl ?_
 repeat' first | simp (maxSteps := 4000000) (disch := omega) only [z13, z12, bun, ↓z05, ↓z01, z03, findLabel, ↓reduceIte, imp, shift, z0g, z0c, unown, names, z08, below, noF, isF, z04, z0a, z09, ren, z0t, z0u, z0h, renO, belowM, seval, -Int.reduceToNat, List.map_append, B3, B4, B21, B63, z14] | refine z10 _ ?_ | (refine Fk.fk ?_ ?_ <;> intro hg <;> (try simp only [hg]) <;> (try simp only [z11] at hg) <;> try (exfalso; first | omega | exact Bool.noConfusion hg | exact hg trivial)) | refine And.intro (by omega) ?_ | omega
 all_goals simp
theorem zgo (L : List Int) (i : Nat) (x : Int) (hi : i ≤ L.length) (hL : L.length ≤ 1000000000) :
   z4a Tryz.prog 120 [.arr 21 1 (L.map I32), .arr 21 1 [I32 x]] [.ref 0 0 L.length, I64 i, .ref 1 0 1] [.arr 21 1 ((zrn L i x).map I32), .arr 21 1 [I32 x], .fence] (.ref 0 0 (L.length + 1)) := by
 rcases Nat.lt_or_ge i L.length with h | h
 · exact y006 L i x h hL
 · have e : i = L.length := by omega
   subst e
   exact y005 L x hL
end Go.AE
end
section
namespace Go.AE
open Go.Proofs
set_option maxHeartbeats 4000000
set_option maxRecDepth 20000
def rdR : Option (Int × List UInt8) → AV
 | none => .tup [I64 (-1), Sv []]
 | some (d, r) => .tup [I64 d, Sv r]
theorem y05w {P Q R S : Prop} {H : Prop} (o : H) (a : Q) (b : R) (c : S) (h : H → Mk P → Hid Q → Hid R → Hid S → P := by
 intro w m q r s
 repeat' first | refine z07 (by first | assumption | (apply_assumption <;> first | assumption | omega)) ?_ ?_ | refine LSp.fit (by assumption) ?_ | simp (maxSteps := 4000000) (disch := omega) only [z13, z12, bun, ↓z05, ↓z01, z03, findLabel, ↓reduceIte, imp, shift, z0g, z0c, unown, names, z08, below, noF, isF, z04, z0a, z09, ren, z0t, z0u, z0h, renO, belowM, seval, -Int.reduceToNat, bT, z14, z0y, w] | exact z0n _ | refine z0m _ _ ?_ | exact Cln.cl | refine z02 _ ?_ | refine z00 _ _ ?_ ?_ | refine z10 _ ?_ | (refine Fk.fk ?_ ?_ <;> intro hg <;> (try simp only [hg]) <;> (try simp only [z11] at hg) <;> try (exfalso; first | omega | exact Bool.noConfusion hg | exact hg trivial)) | refine And.intro (by omega) ?_ | omega
 first
 | done
 | all_goals (repeat revert hg)
   fail_if_success with_reducible refine m.use ?_
   exact q.out
   first
   | done
   | exact r.out
     first
     | done
     | exact s.out
       first | done | fail) : P := h o ⟨tru⟩ ⟨a⟩ ⟨b⟩ ⟨c⟩
theorem z3h (s : List UInt8) (b : Int) (hs : s.length ≤ 100000) (h2 : -1000000 ≤ b) (h3 : b ≤ 1000000) : z0q Tryz.prog 119 [Sv s, I64 b] (rdR (rd s b)) := by
 refine sp [.tmp 4, .tmp 5] Tryz.func119 Tryz.ntmps119 ?_
 refine y05w tru ?_ tru tru <;> intros
 refine z0j (fun x : Nat × Int × Int => ⟨[(0, Sv s), (1, I64 b), (6, I64 x.2.1), (7, I64 x.2.2), (13, I64 s.length), (14, I64 x.1)], []⟩)
   (fun x => x.1 ≤ s.length ∧ 0 ≤ x.2.1 ∧ x.2.1 ≤ 2147483647 ∧ 1 ≤ x.2.2 ∧ x.2.2 ≤ 75161927645 ∧ rd s b = rdN b (s.drop x.1) (36 * (x.1 + 1)) x.2.1 x.2.2) (fun x => s.length - x.1) (0, 0, 1) ⟨by dsimp only; omega, by dsimp only; omega, by dsimp only; omega, by dsimp only; omega, by dsimp only; omega, rfl⟩ wk0 ?_
 rintro ⟨k, n, w⟩ ⟨hk, hn0, hn1, hw0, hw1, hv⟩
 dsimp only at hk hn0 hn1 hw0 hw1 hv
 have ht := y0fn (36 * (k + 1)) b
 by_cases hlt : k < s.length
 · have hs0 : 0 < (s.drop k).length := by simp; omega
   have hg0 : (s.drop k).getD 0 0 = s.getD k 0 := by simp [List.getD]
   have hc := zi7 (s.getD k 0)
   have hvl := y0ch (s.getD k 0).toNat
   have hp0 : 0 ≤ vl (s.getD k 0).toNat * w := Int.mul_nonneg hvl.1 (by omega)
   have hp1 : w ≤ 2147483647 → vl (s.getD k 0).toNat * w ≤ 75161927645 := fun h => by
     have := Int.mul_le_mul hvl.2 h (by omega) (by omega)
     omega
   have hq1 : 1 ≤ w * (36 - thr (36 * (k + 1)) b) := by
     have := Int.mul_le_mul (a := 1) (b := 1) (c := w) (d := 36 - thr (36 * (k + 1)) b) hw0 (by omega) (by omega) (by omega)
     omega
   have hq2 : w ≤ 2147483647 → w * (36 - thr (36 * (k + 1)) b) ≤ 75161927645 := fun h => by
     have := Int.mul_le_mul h (show 36 - thr (36 * (k + 1)) b ≤ 35 by omega) (by omega) (by omega)
     omega
   have e1 := y0bx (b := b) (k := 36 * (k + 1)) (n := n) (w := w) hs0
   have e2 := y0by (b := b) (k := 36 * (k + 1)) (n := n) (w := w) hs0
   have e3 := y0ih (b := b) (k := 36 * (k + 1)) (n := n) (w := w) hs0
   rw [hg0] at e1 e2 e3
   rw [List.drop_drop] at e1 e2
   generalize htt : thr (36 * (k + 1)) b = t at *
   generalize hvv : vl (s.getD k 0).toNat = v at *
   generalize hpp : v * w = p at *
   generalize hqq : w * (36 - t) = q at *
   cases hok : y01i (s.getD k 0).toNat with
   | false =>
     have e := e3 (by rw [hok]; simp)
     (have := @z74; have := @z7r; refine y05w (And.intro hok (And.intro hvv hpp)) ?_ tru tru <;> intros)
     rw [hv, e]; rfl
   | true =>
     rw [hok] at e1 e2 e3
     by_cases hw : w ≤ 2147483647
     · have hp1 := hp1 hw
       have hq2 := hq2 hw
       by_cases hn : n + p ≤ 2147483647
       · by_cases hd : v < t
         · have e := e1 ⟨rfl, hw, hn⟩ hd
           repeat' first | refine z07 (z74 _ (by omega) (by omega)) ?_ ?_ | refine z07 (z7r _ _ (by omega) (by omega) (by omega) (by omega)) ?_ ?_ | simp (maxSteps := 4000000) (disch := omega) only [z13, z12, bun, ↓z05, ↓z01, z03, findLabel, ↓reduceIte, imp, shift, z0g, z0c, unown, names, z08, below, noF, isF, z04, z0a, z09, ren, z0t, z0u, z0h, renO, belowM, seval, -Int.reduceToNat, hok, hvv, hpp, htt, B3, B4, B5, B9, z14, z0y] | exact z0n _ | refine z0m _ _ ?_ | exact Cln.cl | refine z02 _ ?_ | refine z00 _ _ ?_ ?_ | refine z10 _ ?_ | (refine Fk.fk ?_ ?_ <;> intro hg <;> (try simp only [hg]) <;> (try simp only [z11] at hg) <;> try (exfalso; first | omega | exact Bool.noConfusion hg | exact hg trivial)) | refine And.intro (by omega) ?_ | omega
           rw [hv, e]
           have e5 : ((k : Int) + 1).toNat = k + 1 := by omega
           rw [e5]; rfl
         · have e := e2 ⟨rfl, hw, hn⟩ hd
           repeat' first | refine z07 (z74 _ (by omega) (by omega)) ?_ ?_ | refine z07 (z7r _ _ (by omega) (by omega) (by omega) (by omega)) ?_ ?_ | simp (maxSteps := 4000000) (disch := omega) only [z13, z12, bun, ↓z05, ↓z01, z03, findLabel, ↓reduceIte, imp, shift, z0g, z0c, unown, names, z08, below, noF, isF, z04, z0a, z09, ren, z0t, z0u, z0h, renO, belowM, seval, -Int.reduceToNat, hok, hvv, hpp, htt, hqq, B3, B4, B5, B9, z14, z0y] | exact z0n _ | refine z0m _ _ ?_ | exact Cln.cl | refine z02 _ ?_ | refine z00 _ _ ?_ ?_ | refine z10 _ ?_ | (refine Fk.fk ?_ ?_ <;> intro hg <;> (try simp only [hg]) <;> (try simp only [z11] at hg) <;> try (exfalso; first | omega | exact Bool.noConfusion hg | exact hg trivial)) | refine And.intro (by omega) ?_ | omega
           refine ⟨(k + 1, n + p, q), ⟨by dsimp only; omega, by dsimp only; omega, by dsimp only; omega, by dsimp only; omega, by dsimp only; omega, ?_⟩, by dsimp only; omega, wk0⟩
           rw [hv, e]
           congr 1 <;> omega
       · have e := e3 (by intro h; omega)
         (have := @z74; have := @z7r; refine y05w (And.intro hok (And.intro hvv hpp)) ?_ tru tru <;> intros)
         rw [hv, e]; rfl
     · have e := e3 (by intro h; omega)
       (have := @z74; have := @z7r; refine y05w (And.intro hok (And.intro hvv hpp)) ?_ tru tru <;> intros)
       rw [hv, e]; rfl
 · have e : k = s.length := by omega
   subst e
   rw [List.drop_length] at hv
   refine y05w tru ?_ tru tru <;> intros
   rw [hv]; rfl
theorem zcy {P Q R S : Prop} {H : Prop} (o : H) (a : Q) (b : R) (c : S) (h : H → Mk P → Hid Q → Hid R → Hid S → P := by
 intro w m q r s
 repeat' first | refine z07 (by first | assumption | (apply_assumption <;> first | assumption | omega)) ?_ ?_ | refine LSp.fit (by assumption) ?_ | simp (maxSteps := 4000000) (disch := omega) only [z13, z12, bun, ↓z05, ↓z01, z03, findLabel, ↓reduceIte, imp, shift, z0g, z0c, unown, names, z08, below, noF, isF, z04, z0a, z09, ren, z0t, z0u, z0h, renO, belowM, seval, -Int.reduceToNat, bT, z14, z0y, rdR, w] | exact z0n _ | refine z0m _ _ ?_ | exact Cln.cl | refine z02 _ ?_ | refine z00 _ _ ?_ ?_ | refine z10 _ ?_ | (refine Fk.fk ?_ ?_ <;> intro hg <;> (try simp only [hg]) <;> (try simp only [z11] at hg) <;> try (exfalso; first | omega | exact Bool.noConfusion hg | exact hg trivial)) | refine And.intro (by omega) ?_ | omega
 first
 | done
 | all_goals (repeat revert hg)
   fail_if_success with_reducible refine m.use ?_
   exact q.out
   first
   | done
   | exact r.out
     first
     | done
     | exact s.out
       first | done | fail) : P := h o ⟨tru⟩ ⟨a⟩ ⟨b⟩ ⟨c⟩
theorem y00c (s : List UInt8) (hs : s.length ≤ 100000) : z0q Tryz.prog 158 [Sv s, .v (.int .u8 45)] (I64 (z6q s)) := by
 refine sp [.tmp 4] Tryz.func158 Tryz.ntmps158 ?_
 refine zcy tru ?_ tru tru <;> intros
 refine z0j (fun k : Nat => ⟨[(0, Sv s), (1, .v (.int .u8 45)), (5, I64 (k - 1))], []⟩) (fun k => k ≤ s.length ∧ z6q s = ldK s k) (fun k => k) s.length ⟨Nat.le_refl _, rfl⟩ wk0 ?_
 rintro k ⟨hk, hv⟩
 cases k with
 | zero =>
   refine zcy tru ?_ tru tru <;> intros
   all_goals (rw [hv]; rfl)
 | succ k =>
   rw [ldK] at hv
   have e1 : (((k + 1 : Nat) : Int) - 1) = k := by omega
   have h45 : (45 : UInt8).toNat = 45 := rfl
   by_cases hd : s.getD k 0 = 45
   · rw [if_pos hd] at hv
     have e2 : ((s.getD k 0).toNat : Int) = 45 := by rw [hd]; rfl
     refine zcy (And.intro e1 e2) ?_ tru tru <;> intros
     all_goals (rw [hv])
   · rw [if_neg hd] at hv
     have e2 : ((s.getD k 0).toNat : Int) ≠ 45 := fun h => hd (UInt8.toNat.inj (by omega))
     refine zcy e1 ?_ tru tru <;> intros
     exact ⟨k, ⟨by omega, hv⟩, by omega, wk0⟩
theorem zkk (s : List UInt8) (hs : s.length ≤ 100000) : z0q Tryz.prog 118 [Sv s, .v (.int .u8 45)] (I64 (z6q s)) := by
 refine sp [.tmp 4] Tryz.func118 Tryz.ntmps118 ?_
 (have := y00c s hs; exact zcy tru tru tru tru)
theorem y070 (L : List Int) (i : Nat) (x : Int) : zrn L i x = zid L i x := rfl
theorem zxc (L : List Int) (i : Nat) (x : Int) (hi : i ≤ L.length) : (zid L i x).length = L.length + 1 := by simp [zid]; omega
def decR : Option (List Int) → AV
 | none => .tup [.own 21 1 0 [], Bv false]
 | some L => .tup [.own 21 1 L.length (L.map I32), Bv true]
theorem zs5 (s : List UInt8) (hs : s.length ≤ 100000) : z0q Tryz.prog 62 [Sv s] (decR (zax s)) := by
 refine sp [.tmp 2, .tmp 3] Tryz.func62 Tryz.ntmps62 ?_
 have hl := zxk s s.length
 have hl' : z6q s = ldK s s.length := rfl
 by_cases h8 : 0 ≤ eight s
 · have e : zax s = none := by unfold zax; rw [if_pos h8]
   rw [e]
   (have := z23 s (by omega); refine zcy tru ?_ tru tru <;> intros)
   all_goals (rfl)
 · have e : zax s = dcF (s.length + 1) (dc0 s) := by unfold zax; rw [if_neg h8]
   rw [e]
   by_cases h0 : 0 < z6q s
   · have hd0 : dc0 s = ⟨s.drop ((z6q s).toNat + 1), 128, 0, 72, true, (s.take (z6q s).toNat).map fun c => (c.toNat : Int)⟩ := by unfold dc0; rw [if_pos h0]
     have hru := ztr (s.take (z6q s).toNat) (fun c hc => zcz h8 c (List.mem_of_mem_take hc))
     have hn1 : ((z6q s) + 1).toNat = (z6q s).toNat + 1 := by omega
     repeat' first | refine z07 (z23 s (by omega)) ?_ ?_ | refine z07 (zkk s (by omega)) ?_ ?_ | refine y0j2 (.take 0 (.take 1 (.take 2 (.take 4 (.take 5 (.take 6 (.take 7 (.one 3 (.take 8 (.take 9 (.done))))))))))) _ (by decide +kernel) ?_ | simp (maxSteps := 4000000) (disch := omega) only [z13, z12, bun, ↓z05, ↓z01, z03, findLabel, ↓reduceIte, imp, shift, z0g, z0c, unown, names, z08, below, noF, isF, z04, z0a, z09, ren, z0t, z0u, z0h, renO, belowM, seval, -Int.reduceToNat, hru, hn1, B3, B4, B5, B9, B21, B63, z14, z0y] | exact z0n _ | refine z0m _ _ ?_ | exact Cln.cl | refine z02 _ ?_ | refine z00 _ _ ?_ ?_ | refine z10 _ ?_ | (refine Fk.fk ?_ ?_ <;> intro hg <;> (try simp only [hg]) <;> (try simp only [z11] at hg) <;> try (exfalso; first | omega | exact Bool.noConfusion hg | exact hg trivial)) | refine And.intro (by omega) ?_ | omega
     refine ⟨by simp; omega, ?_⟩
     refine z0j (fun x : Nat × DcS => ⟨[(0, Sv x.2.s), (4, .ref 2 0 x.2.out.length), (6, I64 x.2.n), (7, I64 x.2.i), (8, I64 x.2.bias), (9, Bv x.2.first)], [.dead, .dead, .arr 21 1 (x.2.out.map I32)]⟩)
       (fun x => DcI s x.1 x.2 ∧ dcF x.1 x.2 = dcF (s.length + 1) (dc0 s)) (fun x => x.2.s.length) (s.length + 1, dc0 s) ⟨y05m s, rfl⟩ ?_ ?_
     · rw [hd0]
       (simp [wk, wkT, wkM, noF, isF, get, z0b, belowM, below, belows, I64, I32, Bv, U8, Sv]; rfl)
     · rintro ⟨f, ⟨s1, n, i, bias, first, out⟩⟩ ⟨hI, hv⟩
       have hfuel := hI.fuel
       have hn0 := hI.n0
       have hn1 := hI.n1
       have hi0 := hI.i0
       have hi1 := hI.i1
       have hb0 := hI.b0
       have hb1 := hI.b1
       have hlen := hI.len
       dsimp only at hfuel hn0 hn1 hi0 hi1 hb0 hb1 hlen hv
       obtain ⟨f, rfl⟩ : ∃ g, f = g + 1 := ⟨f - 1, by omega⟩
       by_cases hs1 : s1 = []
       · subst hs1
         have e : dcF (f + 1) ⟨[], n, i, bias, first, out⟩ = some out := rfl
         rw [← hv, e]
         repeat' first | simp (maxSteps := 4000000) (disch := omega) only [z13, z12, bun, ↓z05, ↓z01, z03, findLabel, ↓reduceIte, imp, shift, z0g, z0c, unown, names, z08, below, noF, isF, z04, z0a, z09, ren, z0t, z0u, z0h, renO, belowM, seval, -Int.reduceToNat, B3, B4, B5, B9, B21, B63, z14, z0y] | refine z10 _ ?_ | (refine Fk.fk ?_ ?_ <;> intro hg <;> (try simp only [hg]) <;> (try simp only [z11] at hg) <;> try (exfalso; first | omega | exact Bool.noConfusion hg | exact hg trivial)) | refine And.intro (by omega) ?_ | omega
         all_goals (rfl)
       · have hs1b : (s1 == []) = false := by simpa using hs1
         rw [zf0 hs1] at hv
         cases hrd : rd s1 bias with
         | none =>
           rw [hrd] at hv
           rw [← hv]
           repeat' first | refine z07 (z3h s1 bias (by omega) (by omega) (by omega)) ?_ ?_ | simp (maxSteps := 4000000) (disch := omega) only [z13, z12, bun, ↓z05, ↓z01, z03, findLabel, ↓reduceIte, imp, shift, z0g, z0c, unown, names, z08, below, noF, isF, z04, z0a, z09, ren, z0t, z0u, z0h, renO, belowM, seval, -Int.reduceToNat, hs1b, hrd, rdR, B3, B4, B5, B9, B21, B63, z14, z0y] | exact z0n _ | refine z0m _ _ ?_ | exact Cln.cl | refine z02 _ ?_ | refine z00 _ _ ?_ ?_ | refine z10 _ ?_ | (refine Fk.fk ?_ ?_ <;> intro hg <;> (try simp only [hg]) <;> (try simp only [z11] at hg) <;> try (exfalso; first | omega | exact Bool.noConfusion hg | exact hg trivial)) | refine And.intro (by omega) ?_ | omega
           all_goals first | rfl | (exact absurd (by assumption) hs1)
         | some p =>
           obtain ⟨d, r⟩ := p
           obtain ⟨hd1, hd2, _⟩ := zhl hrd
           have hrl := zyj hrd
           rw [hrd] at hv
           dsimp only at hv
           have hqm := z4v (x := i + d) (c := out.length + 1) (by omega) (by omega)
           have hm0 := Int.emod_nonneg (i + d) (b := (out.length : Int) + 1) (by omega)
           have hm1 := Int.emod_lt_of_pos (i + d) (b := (out.length : Int) + 1) (by omega)
           obtain ⟨mi, hmi⟩ : ∃ mi : Nat, (i + d) % ((out.length : Int) + 1) = mi := ⟨((i + d) % ((out.length : Int) + 1)).toNat, by omega⟩
           rw [hmi] at hv hm0 hm1
           generalize hqq : (i + d) / ((out.length : Int) + 1) = q at *
           by_cases hl1 : 2147483647 < i + d
           · rw [if_pos hl1] at hv
             rw [← hv]
             repeat' first | refine z07 (z3h s1 bias (by omega) (by omega) (by omega)) ?_ ?_ | simp (maxSteps := 4000000) (disch := omega) only [z13, z12, bun, ↓z05, ↓z01, z03, findLabel, ↓reduceIte, imp, shift, z0g, z0c, unown, names, z08, below, noF, isF, z04, z0a, z09, ren, z0t, z0u, z0h, renO, belowM, seval, -Int.reduceToNat, hs1b, hrd, rdR, B3, B4, B5, B9, B21, B63, z14, z0y] | exact z0n _ | refine z0m _ _ ?_ | exact Cln.cl | refine z02 _ ?_ | refine z00 _ _ ?_ ?_ | refine z10 _ ?_ | (refine Fk.fk ?_ ?_ <;> intro hg <;> (try simp only [hg]) <;> (try simp only [z11] at hg) <;> try (exfalso; first | omega | exact Bool.noConfusion hg | exact hg trivial)) | refine And.intro (by omega) ?_ | omega
             all_goals first | rfl | (exact absurd (by assumption) hs1)
           · rw [if_neg hl1] at hv
             by_cases hl2 : 1114111 < n + q
             · rw [if_pos (.inl hl2)] at hv
               rw [← hv]
               repeat' first | refine z07 (z3h s1 bias (by omega) (by omega) (by omega)) ?_ ?_ | refine z07 (z4g _ _ _ (by omega) (by omega) (by omega) (by omega)) ?_ ?_ | simp (maxSteps := 4000000) (disch := omega) only [z13, z12, bun, ↓z05, ↓z01, z03, findLabel, ↓reduceIte, imp, shift, z0g, z0c, unown, names, z08, below, noF, isF, z04, z0a, z09, ren, z0t, z0u, z0h, renO, belowM, seval, -Int.reduceToNat, hs1b, hrd, rdR, hqq, B3, B4, B5, B9, B21, B63, z14, z0y] | exact z0n _ | refine z0m _ _ ?_ | exact Cln.cl | refine z02 _ ?_ | refine z00 _ _ ?_ ?_ | refine z10 _ ?_ | (refine Fk.fk ?_ ?_ <;> intro hg <;> (try simp only [hg]) <;> (try simp only [z11] at hg) <;> try (exfalso; first | omega | exact Bool.noConfusion hg | exact hg trivial)) | refine And.intro (by omega) ?_ | omega
               all_goals first | rfl | (exact absurd (by assumption) hs1)
             · cases hrt : right (n + q) with
               | false =>
                 rw [if_pos (.inr hrt)] at hv
                 rw [← hv]
                 repeat' first | refine z07 (z3h s1 bias (by omega) (by omega) (by omega)) ?_ ?_ | refine z07 (z4g _ _ _ (by omega) (by omega) (by omega) (by omega)) ?_ ?_ | refine z07 (z4l _) ?_ ?_ | simp (maxSteps := 4000000) (disch := omega) only [z13, z12, bun, ↓z05, ↓z01, z03, findLabel, ↓reduceIte, imp, shift, z0g, z0c, unown, names, z08, below, noF, isF, z04, z0a, z09, ren, z0t, z0u, z0h, renO, belowM, seval, -Int.reduceToNat, hs1b, hrd, rdR, hqq, hrt, B3, B4, B5, B9, B21, B63, z14, z0y] | exact z0n _ | refine z0m _ _ ?_ | exact Cln.cl | refine z02 _ ?_ | refine z00 _ _ ?_ ?_ | refine z10 _ ?_ | (refine Fk.fk ?_ ?_ <;> intro hg <;> (try simp only [hg]) <;> (try simp only [z11] at hg) <;> try (exfalso; first | omega | exact Bool.noConfusion hg | exact hg trivial)) | refine And.intro (by omega) ?_ | omega
                 all_goals first | rfl | (exact absurd (by assumption) hs1)
               | true =>
                 rw [if_neg (fun h => h.elim (fun h => by omega) (fun h => by rw [hrt] at h; cases h))] at hv
                 have ha := zew (d := d) (c := (out.length : Int) + 1) (first := first) hd1 (by omega)
                 have hil := zxc out mi (n + q) (by omega)
                 rw [Int.toNat_natCast] at hv
                 repeat' first | refine z07 (z3h s1 bias (by omega) (by omega) (by omega)) ?_ ?_ | refine z07 (z4g _ _ _ (by omega) (by omega) (by omega) (by omega)) ?_ ?_ | refine z07 (z4l _) ?_ ?_ | refine z1b [2, 3] (zgo out mi (n + q) (by omega) (by omega)) ?_ | simp (maxSteps := 4000000) (disch := omega) only [z13, z12, bun, ↓z05, ↓z01, z03, findLabel, ↓reduceIte, imp, shift, z0g, z0c, unown, names, z08, below, noF, isF, z04, z0a, z09, ren, z0t, z0u, z0h, renO, belowM, seval, -Int.reduceToNat, hs1b, hrd, rdR, hqq, hrt, hmi, B3, B4, B5, B9, B21, B63, z14, z0y] | exact z0n _ | refine z0m _ _ ?_ | exact Cln.cl | refine z02 _ ?_ | refine z00 _ _ ?_ ?_ | refine z10 _ ?_ | (refine Fk.fk ?_ ?_ <;> intro hg <;> (try simp only [hg]) <;> (try simp only [z11] at hg) <;> try (exfalso; first | omega | exact Bool.noConfusion hg | exact hg trivial)) | refine And.intro (by omega) ?_ | omega
                 refine ⟨(f, ⟨r, n + q, mi + 1, adapt d (out.length + 1) first, false, zid out mi (n + q)⟩), ⟨⟨?_, ?_, ?_, ?_, ?_, ?_, ?_, ?_⟩, hv⟩, ?_, ?_⟩
                 all_goals first | (dsimp only; omega) | skip
                 (simp (disch := omega) [wk, wkT, wkM, noF, isF, get, z0b, belowM, below, belows, I64, I32, Bv, U8, Sv, y070, hil] <;> try omega)
   · have hd0 : dc0 s = ⟨s, 128, 0, 72, true, []⟩ := by unfold dc0; rw [if_neg h0]
     (have := z23 s (by omega); have := zkk s (by omega); repeat' first | refine y0j2 (.take 0 (.take 1 (.take 2 (.take 4 (.take 5 (.take 6 (.take 7 (.one 3 (.take 8 (.take 9 (.done))))))))))) _ (by decide +kernel) ?_ | refine zcy tru ?_ tru tru <;> intros | refine zcy tru ?_ ?_ tru <;> intros | refine zcy tru ?_ ?_ ?_ <;> intros | exact zcy tru tru tru tru | fail)
     refine z0j (fun x : Nat × DcS => ⟨[(0, Sv x.2.s), (4, .ref 1 0 x.2.out.length), (6, I64 x.2.n), (7, I64 x.2.i), (8, I64 x.2.bias), (9, Bv x.2.first)], [.dead, .arr 21 1 (x.2.out.map I32)]⟩)
       (fun x => DcI s x.1 x.2 ∧ dcF x.1 x.2 = dcF (s.length + 1) (dc0 s)) (fun x => x.2.s.length) (s.length + 1, dc0 s) ⟨y05m s, rfl⟩ ?_ ?_
     · rw [hd0]
       (simp (disch := omega) [wk, wkT, wkM, noF, isF, get, z0b, belowM, below, belows, I64, I32, Bv, U8, Sv, hd0] <;> try omega)
     · rintro ⟨f, ⟨s1, n, i, bias, first, out⟩⟩ ⟨hI, hv⟩
       have hfuel := hI.fuel
       have hn0 := hI.n0
       have hn1 := hI.n1
       have hi0 := hI.i0
       have hi1 := hI.i1
       have hb0 := hI.b0
       have hb1 := hI.b1
       have hlen := hI.len
       dsimp only at hfuel hn0 hn1 hi0 hi1 hb0 hb1 hlen hv
       obtain ⟨f, rfl⟩ : ∃ g, f = g + 1 := ⟨f - 1, by omega⟩
       by_cases hs1 : s1 = []
       · subst hs1
         have e : dcF (f + 1) ⟨[], n, i, bias, first, out⟩ = some out := rfl
         rw [← hv, e]
         refine zcy tru ?_ tru tru <;> intros
         all_goals (rfl)
       · have hs1b : (s1 == []) = false := by simpa using hs1
         rw [zf0 hs1] at hv
         cases hrd : rd s1 bias with
         | none =>
           rw [hrd] at hv
           rw [← hv]
           (have := z3h s1 bias (by omega) (by omega) (by omega); refine zcy (And.intro hs1b hrd) ?_ tru tru <;> intros)
           all_goals first | rfl | (exact absurd (by assumption) hs1)
         | some p =>
           obtain ⟨d, r⟩ := p
           obtain ⟨hd1, hd2, _⟩ := zhl hrd
           have hrl := zyj hrd
           rw [hrd] at hv
           dsimp only at hv
           have hqm := z4v (x := i + d) (c := out.length + 1) (by omega) (by omega)
           have hm0 := Int.emod_nonneg (i + d) (b := (out.length : Int) + 1) (by omega)
           have hm1 := Int.emod_lt_of_pos (i + d) (b := (out.length : Int) + 1) (by omega)
           obtain ⟨mi, hmi⟩ : ∃ mi : Nat, (i + d) % ((out.length : Int) + 1) = mi := ⟨((i + d) % ((out.length : Int) + 1)).toNat, by omega⟩
           rw [hmi] at hv hm0 hm1
           generalize hqq : (i + d) / ((out.length : Int) + 1) = q at *
           by_cases hl1 : 2147483647 < i + d
           · rw [if_pos hl1] at hv
             rw [← hv]
             (have := z3h s1 bias (by omega) (by omega) (by omega); refine zcy (And.intro hs1b hrd) ?_ tru tru <;> intros)
             all_goals first | rfl | (exact absurd (by assumption) hs1)
           · rw [if_neg hl1] at hv
             by_cases hl2 : 1114111 < n + q
             · rw [if_pos (.inl hl2)] at hv
               rw [← hv]
               repeat' first | refine z07 (z3h s1 bias (by omega) (by omega) (by omega)) ?_ ?_ | refine z07 (z4g _ _ _ (by omega) (by omega) (by omega) (by omega)) ?_ ?_ | simp (maxSteps := 4000000) (disch := omega) only [z13, z12, bun, ↓z05, ↓z01, z03, findLabel, ↓reduceIte, imp, shift, z0g, z0c, unown, names, z08, below, noF, isF, z04, z0a, z09, ren, z0t, z0u, z0h, renO, belowM, seval, -Int.reduceToNat, hs1b, hrd, rdR, hqq, B3, B4, B5, B9, B21, B63, z14, z0y] | exact z0n _ | refine z0m _ _ ?_ | exact Cln.cl | refine z02 _ ?_ | refine z00 _ _ ?_ ?_ | refine z10 _ ?_ | (refine Fk.fk ?_ ?_ <;> intro hg <;> (try simp only [hg]) <;> (try simp only [z11] at hg) <;> try (exfalso; first | omega | exact Bool.noConfusion hg | exact hg trivial)) | refine And.intro (by omega) ?_ | omega
               all_goals first | rfl | (exact absurd (by assumption) hs1)
             · cases hrt : right (n + q) with
               | false =>
                 rw [if_pos (.inr hrt)] at hv
                 rw [← hv]
                 repeat' first | refine z07 (z3h s1 bias (by omega) (by omega) (by omega)) ?_ ?_ | refine z07 (z4g _ _ _ (by omega) (by omega) (by omega) (by omega)) ?_ ?_ | refine z07 (z4l _) ?_ ?_ | simp (maxSteps := 4000000) (disch := omega) only [z13, z12, bun, ↓z05, ↓z01, z03, findLabel, ↓reduceIte, imp, shift, z0g, z0c, unown, names, z08, below, noF, isF, z04, z0a, z09, ren, z0t, z0u, z0h, renO, belowM, seval, -Int.reduceToNat, hs1b, hrd, rdR, hqq, hrt, B3, B4, B5, B9, B21, B63, z14, z0y] | exact z0n _ | refine z0m _ _ ?_ | exact Cln.cl | refine z02 _ ?_ | refine z00 _ _ ?_ ?_ | refine z10 _ ?_ | (refine Fk.fk ?_ ?_ <;> intro hg <;> (try simp only [hg]) <;> (try simp only [z11] at hg) <;> try (exfalso; first | omega | exact Bool.noConfusion hg | exact hg trivial)) | refine And.intro (by omega) ?_ | omega
                 all_goals first | rfl | (exact absurd (by assumption) hs1)
               | true =>
                 rw [if_neg (fun h => h.elim (fun h => by omega) (fun h => by rw [hrt] at h; cases h))] at hv
                 have ha := zew (d := d) (c := (out.length : Int) + 1) (first := first) hd1 (by omega)
                 have hil := zxc out mi (n + q) (by omega)
                 rw [Int.toNat_natCast] at hv
                 repeat' first | refine z07 (z3h s1 bias (by omega) (by omega) (by omega)) ?_ ?_ | refine z07 (z4g _ _ _ (by omega) (by omega) (by omega) (by omega)) ?_ ?_ | refine z07 (z4l _) ?_ ?_ | refine z1b [1, 2] (zgo out mi (n + q) (by omega) (by omega)) ?_ | simp (maxSteps := 4000000) (disch := omega) only [z13, z12, bun, ↓z05, ↓z01, z03, findLabel, ↓reduceIte, imp, shift, z0g, z0c, unown, names, z08, below, noF, isF, z04, z0a, z09, ren, z0t, z0u, z0h, renO, belowM, seval, -Int.reduceToNat, hs1b, hrd, rdR, hqq, hrt, hmi, B3, B4, B5, B9, B21, B63, z14, z0y] | exact z0n _ | refine z0m _ _ ?_ | exact Cln.cl | refine z02 _ ?_ | refine z00 _ _ ?_ ?_ | refine z10 _ ?_ | (refine Fk.fk ?_ ?_ <;> intro hg <;> (try simp only [hg]) <;> (try simp only [z11] at hg) <;> try (exfalso; first | omega | exact Bool.noConfusion hg | exact hg trivial)) | refine And.intro (by omega) ?_ | omega
                 refine ⟨(f, ⟨r, n + q, mi + 1, adapt d (out.length + 1) first, false, zid out mi (n + q)⟩), ⟨⟨?_, ?_, ?_, ?_, ?_, ?_, ?_, ?_⟩, hv⟩, ?_, ?_⟩
                 all_goals first | (dsimp only; omega) | skip
                 (simp (disch := omega) [wk, wkT, wkM, noF, isF, get, z0b, belowM, below, belows, I64, I32, Bv, U8, Sv, y070, hil] <;> try omega)
end Go.AE
end
