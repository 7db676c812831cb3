/- Contracts of functions that the laws of this seat reach, and plain laws of what they compute. No condition beyond each statement's own. -/
import Derived.Test.YtpcfmiocndafcaaGreatK1
import Derived.Test.YtpcfmiocndafcaaGreatV1
import Derived.Test.YtpcfmiocndafcaaGreatAEBun
import Derived.WalkKit
import Derived.Lib.Walk
import Derived.Lib.SliceRun
import Derived.Lib.JoinLaws
import Derived.Lib.AppendZerosOnto
import Derived.Lib.Overlaps
import Derived.Laws.Externs
import Derived.Laws.IdiomCopy
import Derived.Laws.NewBlocks
import Derived.Shelf.RegionOpenPlain
set_option linter.unusedVariables false
set_option linter.unusedSimpArgs false
section
namespace Go.AE
open Go.Proofs
set_option maxRecDepth 20000
set_option linter.unusedSimpArgs false
theorem dg_pos (n : Int) : 0 ≤ dg n ∧ dg n < 256 := by unfold dg; repeat' split
                                                       all_goals omega
theorem zhn (n : Int) : Spec Tryz.prog 94 [I64 n] (.tup [.v (.int .u8 (dg n)), Bv (dgOk n)]) := by
  refine z0g (z := false) (ts := [.tmp 2, .tmp 3]) ok1 Tryz.func94 rfl rfl (by decide +kernel) (by simp [Tryz.ntmps94]) rfl ?_
  repeat' first | simp (maxSteps := 4000000) (disch := omega) only [bunL, bunD, bun, ↓z04, ↓z01, z02, findLabel, ↓reduceIte, imp, shift, z0b, z0a, unown, names, z07, below, noF, isF, z03, z09, z08, ren, givL, updM, z0c, renO, belowM, seval, -Int.reduceToNat, B3, B4, B5, bunN] | refine DR_q _ ?_ | (refine Fk.fk ?_ ?_ <;> intro hg <;> (try simp only [hg]) <;> (try simp only [bunB] at hg) <;> try (exfalso; first | omega | exact Bool.noConfusion hg | exact hg trivial)) | refine And.intro (by omega) ?_ | omega
  all_goals
    simp only [dg, dgOk, AV.tup.injEq, List.cons.injEq, AV.v.injEq, Value.int.injEq, Value.bool.injEq, and_true, true_and]
    refine ⟨?_, ?_⟩
    · repeat' split
      all_goals omega
    · rw [Bool.eq_iff_iff]; simp; omega
theorem z73 (c : Int) (h0 : 0 ≤ c) (h1 : c ≤ 255) : Spec Tryz.prog 104 [.v (.int .u8 c)] (.tup [I64 (vl c), Bv (vlOk c)]) := by
  refine z0g (z := false) (ts := [.tmp 2, .tmp 3]) ok1 Tryz.func104 rfl rfl (by decide +kernel) (by simp [Tryz.ntmps104]) rfl ?_
  repeat' first | simp (maxSteps := 4000000) (disch := omega) only [bunL, bunD, bun, ↓z04, ↓z01, z02, findLabel, ↓reduceIte, imp, shift, z0b, z0a, unown, names, z07, below, noF, isF, z03, z09, z08, ren, givL, updM, z0c, renO, belowM, seval, -Int.reduceToNat, B3, B4, B5, bunN] | refine DR_q _ ?_ | (refine Fk.fk ?_ ?_ <;> intro hg <;> (try simp only [hg]) <;> (try simp only [bunB] at hg) <;> try (exfalso; first | omega | exact Bool.noConfusion hg | exact hg trivial)) | refine And.intro (by omega) ?_ | omega
  all_goals
    simp only [vl, vlOk, AV.tup.injEq, List.cons.injEq, AV.v.injEq, Value.int.injEq, Value.bool.injEq, and_true, true_and]
    refine ⟨?_, ?_⟩
    · repeat' split
      all_goals omega
    · rw [Bool.eq_iff_iff]; simp; omega
theorem z7k (k b : Int) (h0 : -1000000000 ≤ k) (h1 : k ≤ 1000000000) (h2 : -1000000000 ≤ b) (h3 : b ≤ 1000000000) : Spec Tryz.prog 93 [I64 k, I64 b] (I64 (thr k b)) := by
  refine z0g (z := false) (ts := [.tmp 4]) ok1 Tryz.func93 rfl rfl (by decide +kernel) (by simp [Tryz.ntmps93]) rfl ?_
  repeat' first | simp (maxSteps := 4000000) (disch := omega) only [bunL, bunD, bun, ↓z04, ↓z01, z02, findLabel, ↓reduceIte, imp, shift, z0b, z0a, unown, names, z07, below, noF, isF, z03, z09, z08, ren, givL, updM, z0c, renO, belowM, seval, -Int.reduceToNat, B3, bunN] | refine DR_q _ ?_ | (refine Fk.fk ?_ ?_ <;> intro hg <;> (try simp only [hg]) <;> (try simp only [bunB] at hg) <;> try (exfalso; first | omega | exact Bool.noConfusion hg | exact hg trivial)) | refine And.intro (by omega) ?_ | omega
  all_goals (congr 2; unfold thr; omega)
theorem zsl {f : Nat} {d k r : Int} (h : adF f d k = r) (hf : 0 < f) (hd : 455 < d) : adF (f - 1) (d / 35) (k + 36) = r := by
  cases f with
  | zero => omega
  | succ f => rw [← h, adF, if_pos hd]; rfl
theorem zsm {f : Nat} {d k r : Int} (h : adF f d k = r) (hf : 0 < f) (hd : ¬ 455 < d) : k + 36 * d / (d + 38) = r := by
  cases f with
  | zero => omega
  | succ f => rw [← h, adF, if_neg hd]
theorem zsk {f : Nat} {d : Int} (h : d < 35 ^ f * 456) (hd : 455 < d) : 0 < f ∧ d / 35 < 35 ^ (f - 1) * 456 := by
  cases f with
  | zero => simp at h; omega
  | succ f =>
    refine ⟨by omega, ?_⟩
    rw [Nat.add_sub_cancel]
    have : (35 : Int) ^ (f + 1) = 35 ^ f * 35 := Int.pow_succ 35 f
    rw [this] at h
    generalize (35 : Int) ^ f = p at *
    omega
theorem z4o (d c : Int) (first : Bool) (h0 : 0 ≤ d) (h1 : d ≤ 1000000000000) (h2 : 1 ≤ c) (h3 : c ≤ 9223372036854775807) : Spec Tryz.prog 75 [I64 d, I64 c, Bv first] (I64 (adapt d c first)) := by
  refine z0g (z := false) (ts := [.tmp 6]) ok1 Tryz.func75 rfl rfl (by decide +kernel) (by simp [Tryz.ntmps75]) rfl ?_
  have hm : (if c > 1 then c else 1) = c := by split <;> omega
  cases first with
  | true =>
    have hq := z53 (x := d / 700) (c := c) (by omega) h2
    obtain ⟨r, hr⟩ : ∃ r, adF 20 (d / 700 + d / 700 / c) 0 = r := ⟨_, rfl⟩
    rw [zv2, hr]
    generalize hx : d / 700 / c = q at *
    repeat' first | simp (maxSteps := 4000000) (disch := omega) only [bunL, bunD, bun, ↓z04, ↓z01, z02, findLabel, ↓reduceIte, imp, shift, z0b, z0a, unown, names, z07, below, noF, isF, z03, z09, z08, ren, givL, updM, z0c, renO, belowM, seval, -Int.reduceToNat, hm, hx, B3, B4, bunN] | refine DR_q _ ?_ | (refine Fk.fk ?_ ?_ <;> intro hg <;> (try simp only [hg]) <;> (try simp only [bunB] at hg) <;> try (exfalso; first | omega | exact Bool.noConfusion hg | exact hg trivial)) | refine And.intro (by omega) ?_ | omega
    refine z0m (fun x : Nat × Int × Int => ⟨[(0, I64 x.2.1), (7, I64 x.2.2)], []⟩) (fun x => 1 ≤ x.1 ∧ x.1 ≤ 20 ∧ 0 ≤ x.2.1 ∧ x.2.1 ≤ 2000000000000 ∧ 0 ≤ x.2.2 ∧ x.2.2 ≤ 36 * (20 - x.1) ∧ x.2.1 < 35 ^ (x.1 - 1) * 456 ∧ adF x.1 x.2.1 x.2.2 = r) (fun x => x.1) (20, d / 700 + q, 0)
      (by refine ⟨?_, ?_, ?_, ?_, ?_, ?_, ?_, hr⟩ <;> dsimp only <;> omega) (by simp [wk, wkT, wkM, noF, isF, get, z0h, belowM, below, belows, I64, I32, Bv, U8, Sv] <;> try omega) ?_
    rintro ⟨f, e, k⟩ ⟨hf1, hf, he0, he1, hk0, hk1, hb, hv⟩
    dsimp only at hf1 hf he0 he1 hk0 hk1 hb hv
    have h36 : 0 ≤ 36 * e / (e + 38) := Int.ediv_nonneg (by omega) (by omega)
    have h37 : 36 * e / (e + 38) ≤ 36 := Int.ediv_le_of_le_mul (by omega) (by omega)
    generalize hy : 36 * e / (e + 38) = y at *
    repeat' first | simp (maxSteps := 4000000) (disch := omega) only [bunL, bunD, bun, ↓z04, ↓z01, z02, findLabel, ↓reduceIte, imp, shift, z0b, z0a, unown, names, z07, below, noF, isF, z03, z09, z08, ren, givL, updM, z0c, renO, belowM, seval, -Int.reduceToNat, hy, B3, B4, bunN] | refine DR_q _ ?_ | (refine Fk.fk ?_ ?_ <;> intro hg <;> (try simp only [hg]) <;> (try simp only [bunB] at hg) <;> try (exfalso; first | omega | exact Bool.noConfusion hg | exact hg trivial)) | refine And.intro (by omega) ?_ | omega
    · obtain ⟨h5, h6⟩ := zsk hb (by omega)
      refine ⟨(f - 1, e / 35, k + 36), ?_, by dsimp only; omega, (by simp [wk, wkT, wkM, noF, isF, get, z0h, belowM, below, belows, I64, I32, Bv, U8, Sv] <;> try omega)⟩
      refine ⟨?_, ?_, ?_, ?_, ?_, ?_, h6, zsl hv hf1 (by omega)⟩ <;> dsimp only <;> omega
    · have := zsm hv hf1 (by omega)
      rw [← this, hy]
  | false =>
    have hq := z53 (x := d / 2) (c := c) (by omega) h2
    obtain ⟨r, hr⟩ : ∃ r, adF 20 (d / 2 + d / 2 / c) 0 = r := ⟨_, rfl⟩
    rw [zok, hr]
    generalize hx : d / 2 / c = q at *
    repeat' first | simp (maxSteps := 4000000) (disch := omega) only [bunL, bunD, bun, ↓z04, ↓z01, z02, findLabel, ↓reduceIte, imp, shift, z0b, z0a, unown, names, z07, below, noF, isF, z03, z09, z08, ren, givL, updM, z0c, renO, belowM, seval, -Int.reduceToNat, hm, hx, B3, B4, bunN] | refine DR_q _ ?_ | (refine Fk.fk ?_ ?_ <;> intro hg <;> (try simp only [hg]) <;> (try simp only [bunB] at hg) <;> try (exfalso; first | omega | exact Bool.noConfusion hg | exact hg trivial)) | refine And.intro (by omega) ?_ | omega
    refine z0m (fun x : Nat × Int × Int => ⟨[(0, I64 x.2.1), (7, I64 x.2.2)], []⟩) (fun x => 1 ≤ x.1 ∧ x.1 ≤ 20 ∧ 0 ≤ x.2.1 ∧ x.2.1 ≤ 2000000000000 ∧ 0 ≤ x.2.2 ∧ x.2.2 ≤ 36 * (20 - x.1) ∧ x.2.1 < 35 ^ (x.1 - 1) * 456 ∧ adF x.1 x.2.1 x.2.2 = r) (fun x => x.1) (20, d / 2 + q, 0)
      (by refine ⟨?_, ?_, ?_, ?_, ?_, ?_, ?_, hr⟩ <;> dsimp only <;> omega) (by simp [wk, wkT, wkM, noF, isF, get, z0h, belowM, below, belows, I64, I32, Bv, U8, Sv] <;> try omega) ?_
    rintro ⟨f, e, k⟩ ⟨hf1, hf, he0, he1, hk0, hk1, hb, hv⟩
    dsimp only at hf1 hf he0 he1 hk0 hk1 hb hv
    have h36 : 0 ≤ 36 * e / (e + 38) := Int.ediv_nonneg (by omega) (by omega)
    have h37 : 36 * e / (e + 38) ≤ 36 := Int.ediv_le_of_le_mul (by omega) (by omega)
    generalize hy : 36 * e / (e + 38) = y at *
    repeat' first | simp (maxSteps := 4000000) (disch := omega) only [bunL, bunD, bun, ↓z04, ↓z01, z02, findLabel, ↓reduceIte, imp, shift, z0b, z0a, unown, names, z07, below, noF, isF, z03, z09, z08, ren, givL, updM, z0c, renO, belowM, seval, -Int.reduceToNat, hy, B3, B4, bunN] | refine DR_q _ ?_ | (refine Fk.fk ?_ ?_ <;> intro hg <;> (try simp only [hg]) <;> (try simp only [bunB] at hg) <;> try (exfalso; first | omega | exact Bool.noConfusion hg | exact hg trivial)) | refine And.intro (by omega) ?_ | omega
    · obtain ⟨h5, h6⟩ := zsk hb (by omega)
      refine ⟨(f - 1, e / 35, k + 36), ?_, by dsimp only; omega, (by simp [wk, wkT, wkM, noF, isF, get, z0h, belowM, below, belows, I64, I32, Bv, U8, Sv] <;> try omega)⟩
      refine ⟨?_, ?_, ?_, ?_, ?_, ?_, h6, zsl hv hf1 (by omega)⟩ <;> dsimp only <;> omega
    · have := zsm hv hf1 (by omega)
      rw [← this, hy]
end Go.AE
end
section
namespace Go.AE
open Go.Proofs
set_option maxRecDepth 20000
set_option linter.unusedSimpArgs false
theorem z9t (n : Int) : z3z [.v (.int .u8 n)] = some [UInt8.ofNat n.toNat] := rfl
theorem zof (n : Int) (k : Nat) (K : AV → Prop) : CB2 k (z3z [.v (.int .u8 n)]) K = (k = 1 ∧ K (.v (.string ⟨[UInt8.ofNat n.toNat].toArray⟩))) := rfl
theorem z0o (n : Int) : ((dgb n).toNat : Int) = dg n := by
  have := dg_pos n
  unfold dgb; simp; omega
theorem thr_ok (k b : Int) : 1 ≤ thr k b ∧ thr k b ≤ 26 := by unfold thr; omega
theorem wr_step {n t : Int} (hn : t ≤ n) (h1 : 1 ≤ t) (h2 : t ≤ 26) : 0 ≤ (n - t) / (36 - t) ∧ 10 * ((n - t) / (36 - t)) ≤ n ∧ 0 ≤ (n - t) % (36 - t) ∧ (n - t) % (36 - t) < 36 - t := by
  have h3 : 0 ≤ (n - t) / (36 - t) := Int.ediv_nonneg (by omega) (by omega)
  have h4 := Int.ediv_mul_le (n - t) (b := 36 - t) (by omega)
  have h5 : (n - t) / (36 - t) * 10 ≤ (n - t) / (36 - t) * (36 - t) := Int.mul_le_mul_of_nonneg_left (by omega) h3
  exact ⟨h3, by omega, Int.emod_nonneg _ (by omega), Int.emod_lt_of_pos _ (by omega)⟩
theorem wr_room {f : Nat} {n q : Int} (h : n < 2 ^ (f - 1)) (hf : 1 ≤ f) (hq : 10 * q ≤ n) (hn : 1 ≤ n) : 1 ≤ f - 1 ∧ q < 2 ^ (f - 1 - 1) := by
  obtain ⟨f, rfl⟩ : ∃ g, f = g + 1 := ⟨f - 1, by omega⟩
  rw [Nat.add_sub_cancel] at *
  cases f with
  | zero => simp at h; omega
  | succ f =>
    refine ⟨by omega, ?_⟩
    rw [Nat.add_sub_cancel]
    have : (2 : Int) ^ (f + 1) = 2 ^ f * 2 := Int.pow_succ 2 f
    rw [this] at h
    generalize (2 : Int) ^ f = p at *
    omega
theorem wrF_stop {f : Nat} {n k b : Int} (hf : 1 ≤ f) (h : n < thr k b) : wrF f n k b = [dgb n] := by
  obtain ⟨f, rfl⟩ : ∃ g, f = g + 1 := ⟨f - 1, by omega⟩
  rw [wrF, if_pos h]
theorem wrF_more {f : Nat} {n k b : Int} (hf : 1 ≤ f) (h : ¬ n < thr k b) : wrF f n k b = dgb (thr k b + (n - thr k b) % (36 - thr k b)) :: wrF (f - 1) ((n - thr k b) / (36 - thr k b)) (k + 36) b := by
  obtain ⟨f, rfl⟩ : ∃ g, f = g + 1 := ⟨f - 1, by omega⟩
  rw [wrF, if_neg h]; rfl
theorem zx1 (o : List UInt8) (n b : Int) (ho : o.length ≤ 1000000000) (hn : 0 ≤ n) (hn1 : n ≤ 1000000000000) (h2 : -1000000 ≤ b) (h3 : b ≤ 1000000) :
    z5j Tryz.prog 74 [.arr 5 1 (o.map U8)] [.ref 0 0 o.length, I64 n, I64 b] [.arr 5 1 ((o ++ wr n b).map U8), .fence] (.ref 0 0 (o ++ wr n b).length) := by
  refine z3p (ts := [.tmp 6]) ok1 Tryz.func74 rfl rfl (by decide +kernel) (by simp [Tryz.ntmps74]) rfl ?_
  repeat' first | simp (maxSteps := 4000000) (disch := omega) only [bunL, bunD, bun, ↓z04, ↓z01, z02, findLabel, ↓reduceIte, imp, shift, z0b, z0a, unown, names, z07, below, noF, isF, z03, z09, z08, ren, givL, updM, z0c, renO, belowM, seval, -Int.reduceToNat, B3, B4, B5, B86, bunN, z0o, z9t, zof] | refine DR_q _ ?_ | (refine Fk.fk ?_ ?_ <;> intro hg <;> (try simp only [hg]) <;> (try simp only [bunB] at hg) <;> try (exfalso; first | omega | exact Bool.noConfusion hg | exact hg trivial)) | refine And.intro (by omega) ?_ | omega
  refine z0m (fun x : Nat × Int × Int × List UInt8 => ⟨[(0, .ref 0 0 (o ++ x.2.2.2).length), (1, I64 x.2.1), (2, I64 b), (7, I64 x.2.2.1)], [.arr 5 1 ((o ++ x.2.2.2).map U8), .fence]⟩)
    (fun x => 1 ≤ x.1 ∧ x.1 ≤ 64 ∧ 0 ≤ x.2.1 ∧ x.2.1 ≤ 1000000000000 ∧ x.2.2.1 = 36 * (65 - x.1) ∧ x.2.1 < 2 ^ (x.1 - 1) ∧ x.2.2.2.length + x.1 = 64 ∧ x.2.2.2 ++ wrF x.1 x.2.1 x.2.2.1 b = wr n b) (fun x => x.1) (64, n, 36, [])
    (by refine ⟨?_, ?_, ?_, ?_, ?_, ?_, ?_, ?_⟩ <;> dsimp only <;> first | omega | rfl) (by (simp (disch := omega) [wk, wkT, wkM, noF, isF, get, z0h, belowM, below, belows, I64, I32, Bv, U8, Sv, List.append_nil] <;> try omega)) ?_
  rintro ⟨f, n, k, acc⟩ ⟨hf1, hf, hn0, hn1, hk, hb, hl, hv⟩
  dsimp only at hf1 hf hn0 hn1 hk hb hl hv
  have ht := thr_ok k b
  by_cases hlt : n < thr k b
  · have he := wrF_stop hf1 hlt
    rw [he] at hv
    repeat' first | refine z06 (zhn _) ?_ ?_ | refine z06 (z7k _ _ (by omega) (by omega) (by omega) (by omega)) ?_ ?_ | simp (maxSteps := 4000000) (disch := omega) only [bunL, bunD, bun, ↓z04, ↓z01, z02, findLabel, ↓reduceIte, imp, shift, z0b, z0a, unown, names, z07, below, noF, isF, z03, z09, z08, ren, givL, updM, z0c, renO, belowM, seval, -Int.reduceToNat, B3, B4, B5, B86, bunN, z0o, z9t, zof] | exact z0f _ | refine z0e _ _ ?_ | exact Cln.cl | refine z05 _ ?_ | refine z00 _ _ ?_ ?_ | refine DR_q _ ?_ | (refine Fk.fk ?_ ?_ <;> intro hg <;> (try simp only [hg]) <;> (try simp only [bunB] at hg) <;> try (exfalso; first | omega | exact Bool.noConfusion hg | exact hg trivial)) | refine And.intro (by omega) ?_ | omega
    rw [← hv]
    simp [U8, z0o, Nat.add_assoc]
  · have he := wrF_more hf1 hlt
    rw [he] at hv
    obtain ⟨q0, q1, q2, q3⟩ := wr_step (n := n) (t := thr k b) (by omega) (by omega) (by omega)
    obtain ⟨h5, h6⟩ := wr_room hb hf1 q1 (by omega)
    generalize hqq : (n - thr k b) / (36 - thr k b) = q at *
    generalize hrr : (n - thr k b) % (36 - thr k b) = r at *
    repeat' first | refine z06 (zhn _) ?_ ?_ | refine z06 (z7k _ _ (by omega) (by omega) (by omega) (by omega)) ?_ ?_ | simp (maxSteps := 4000000) (disch := omega) only [bunL, bunD, bun, ↓z04, ↓z01, z02, findLabel, ↓reduceIte, imp, shift, z0b, z0a, unown, names, z07, below, noF, isF, z03, z09, z08, ren, givL, updM, z0c, renO, belowM, seval, -Int.reduceToNat, hqq, hrr, B3, B4, B5, B86, bunN, z0o, z9t, zof] | exact z0f _ | refine z0e _ _ ?_ | exact Cln.cl | refine z05 _ ?_ | refine z00 _ _ ?_ ?_ | refine DR_q _ ?_ | (refine Fk.fk ?_ ?_ <;> intro hg <;> (try simp only [hg]) <;> (try simp only [bunB] at hg) <;> try (exfalso; first | omega | exact Bool.noConfusion hg | exact hg trivial)) | refine And.intro (by omega) ?_ | omega
    refine ⟨(f - 1, q, k + 36, acc ++ [dgb (thr k b + r)]), ⟨h5, by dsimp only; omega, q0, by dsimp only; omega, by dsimp only; omega, h6, by simp; omega, ?_⟩, by dsimp only; omega, ?_⟩
    · rw [← hv]; simp
    · (simp (disch := omega) [wk, wkT, wkM, noF, isF, get, z0h, belowM, below, belows, I64, I32, Bv, U8, Sv, z0o, List.map_append, List.append_assoc] <;> try omega)
end Go.AE
end
section
namespace Go.AE
open Go.Proofs
set_option maxRecDepth 20000
set_option linter.unusedSimpArgs false
theorem next_spec (l : List Int) (n : Int) (hl : l.length ≤ 100000) : Spec Tryz.prog 73 [.sl l.length (l.map I32), I32 n] (I32 (nxt l n)) := by
  refine z0g (z := false) (ts := [.tmp 4]) ok1 Tryz.func73 rfl rfl (by decide +kernel) (by simp [Tryz.ntmps73]) rfl ?_
  repeat' first | simp (maxSteps := 4000000) (disch := omega) only [bunL, bunD, bun, ↓z04, ↓z01, z02, findLabel, ↓reduceIte, imp, shift, z0b, z0a, unown, names, z07, below, noF, isF, z03, z09, z08, ren, givL, updM, z0c, renO, belowM, seval, -Int.reduceToNat, B3, B4, B21, B41, bunN, z0o] | refine DR_q _ ?_ | (refine Fk.fk ?_ ?_ <;> intro hg <;> (try simp only [hg]) <;> (try simp only [bunB] at hg) <;> try (exfalso; first | omega | exact Bool.noConfusion hg | exact hg trivial)) | refine And.intro (by omega) ?_ | omega
  refine z0m (fun i : Nat => ⟨[(1, I32 n), (5, I32 ((l.take i).foldl (fun o r => if n ≤ r ∧ (o < 0 ∨ r < o) then r else o) (-1))), (8, .sl l.length (l.map I32)), (9, I64 l.length), (10, I64 i)], []⟩) (fun i => i ≤ l.length) (fun i => l.length - i) 0 (by simp) (by simp [wk, wkT, wkM, noF, isF, get, z0h, belowM, below, belows, I64, I32, Bv, U8, Sv] <;> try omega) ?_
  intro i hi
  by_cases hlt : i < l.length
  · have hs := z4c (fun o r => if n ≤ r ∧ (o < 0 ∨ r < o) then r else o) (-1) l i 0 hlt
    generalize (l.take i).foldl (fun o r => if n ≤ r ∧ (o < 0 ∨ r < o) then r else o) (-1) = o at *
    repeat' first | simp (maxSteps := 4000000) (disch := omega) only [bunL, bunD, bun, ↓z04, ↓z01, z02, findLabel, ↓reduceIte, imp, shift, z0b, z0a, unown, names, z07, below, noF, isF, z03, z09, z08, ren, givL, updM, z0c, renO, belowM, seval, -Int.reduceToNat, B3, B4, B21, B41, bunN, z0o] | refine DR_q _ ?_ | (refine Fk.fk ?_ ?_ <;> intro hg <;> (try simp only [hg]) <;> (try simp only [bunB] at hg) <;> try (exfalso; first | omega | exact Bool.noConfusion hg | exact hg trivial)) | refine And.intro (by omega) ?_ | omega
    all_goals
      refine ⟨i + 1, by omega, by omega, ?_⟩
      rw [hs]
      first
      | rw [if_pos (by omega)]
      | rw [if_neg (by omega)]
      (simp (disch := omega) [wk, wkT, wkM, noF, isF, get, z0h, belowM, below, belows, I64, I32, Bv, U8, Sv, z4c] <;> try omega)
  · have e : i = l.length := by omega
    subst e
    rw [List.take_length]
    repeat' first | simp (maxSteps := 4000000) (disch := omega) only [bunL, bunD, bun, ↓z04, ↓z01, z02, findLabel, ↓reduceIte, imp, shift, z0b, z0a, unown, names, z07, below, noF, isF, z03, z09, z08, ren, givL, updM, z0c, renO, belowM, seval, -Int.reduceToNat, B3, B4, B21, B41, bunN, z0o] | refine DR_q _ ?_ | (refine Fk.fk ?_ ?_ <;> intro hg <;> (try simp only [hg]) <;> (try simp only [bunB] at hg) <;> try (exfalso; first | omega | exact Bool.noConfusion hg | exact hg trivial)) | refine And.intro (by omega) ?_ | omega
    rfl
theorem zwt {l : List Int} (h : z1m l = true) : ∀ r ∈ l, 0 ≤ r ∧ r ≤ 1114111 := fun r hr => by
  have := (z2q r).1 (List.all_eq_true.1 h r hr)
  omega
theorem zgg (l : List Int) (i : Nat) : (z0x (l.take i)).length ≤ i := by
  have := zf4 (l.take i)
  simp at this; omega
theorem z9x (l : List Int) (hl : l.length ≤ 1000) : Spec Tryz.prog 43 [.sl l.length (l.map I32)] (.tup [Sv (pnS l), Bv (z1m l)]) := by
  refine z0g (z := false) (ts := [.tmp 2, .tmp 3]) ok1 Tryz.func43 rfl rfl (by decide +kernel) (by simp [Tryz.ntmps43]) rfl ?_
  repeat' first | simp (maxSteps := 4000000) (disch := omega) only [bunL, bunD, bun, ↓z04, ↓z01, z02, findLabel, ↓reduceIte, imp, shift, z0b, z0a, unown, names, z07, below, noF, isF, z03, z09, z08, ren, givL, updM, z0c, renO, belowM, seval, -Int.reduceToNat, B3, B4, B9, B21, B41, B5, B86, bunN, z0o] | refine DR_q _ ?_ | (refine Fk.fk ?_ ?_ <;> intro hg <;> (try simp only [hg]) <;> (try simp only [bunB] at hg) <;> try (exfalso; first | omega | exact Bool.noConfusion hg | exact hg trivial)) | refine And.intro (by omega) ?_ | omega
  refine z0m (fun i : Nat => ⟨[(0, .sl l.length (l.map I32)), (4, .ref 0 0 (z0x (l.take i)).length), (15, .sl l.length (l.map I32)), (16, I64 l.length), (17, I64 i)], [.arr 5 1 ((z0x (l.take i)).map U8)]⟩) (fun i => i ≤ l.length ∧ (l.take i).all right = true) (fun i => l.length - i) 0 (by simp) (by (simp (disch := omega) [wk, wkT, wkM, noF, isF, get, z0h, belowM, below, belows, I64, I32, Bv, U8, Sv, z0x] <;> try omega)) ?_
  rintro i ⟨hi, hr⟩
  have hpi := zgg l i
  by_cases hlt : i < l.length
  · have hp := zpu l i hlt
    have ht := z1p l i 0 hlt
    cases hgr : right (l.getD i 0) with
    | false =>
      have hb := zny hlt hgr
      repeat' first | refine z06 (z4t _) ?_ ?_ | simp (maxSteps := 4000000) (disch := omega) only [bunL, bunD, bun, ↓z04, ↓z01, z02, findLabel, ↓reduceIte, imp, shift, z0b, z0a, unown, names, z07, below, noF, isF, z03, z09, z08, ren, givL, updM, z0c, renO, belowM, seval, -Int.reduceToNat, hgr, B3, B4, B9, B21, B41, B5, B86, bunN, z0o] | exact z0f _ | refine z0e _ _ ?_ | exact Cln.cl | refine z05 _ ?_ | refine z00 _ _ ?_ ?_ | refine DR_q _ ?_ | (refine Fk.fk ?_ ?_ <;> intro hg <;> (try simp only [hg]) <;> (try simp only [bunB] at hg) <;> try (exfalso; first | omega | exact Bool.noConfusion hg | exact hg trivial)) | refine And.intro (by omega) ?_ | omega
      simp [pnS, hb]
    | true =>
      have hgr' := (z2q _).1 hgr
      have hr' : (l.take (i + 1)).all right = true := by rw [ht, List.all_append, hr]; simp only [List.all_cons, List.all_nil, hgr]; rfl
      obtain ⟨r, hrr⟩ : ∃ r, l.getD i 0 = r := ⟨_, rfl⟩
      rw [hrr] at hgr hgr' hp ht
      repeat' first | refine z06 (z4t _) ?_ ?_ | simp (maxSteps := 4000000) (disch := omega) only [bunL, bunD, bun, ↓z04, ↓z01, z02, findLabel, ↓reduceIte, imp, shift, z0b, z0a, unown, names, z07, below, noF, isF, z03, z09, z08, ren, givL, updM, z0c, renO, belowM, seval, -Int.reduceToNat, hrr, hgr, B3, B4, B9, B21, B41, B5, B86, bunN, z0o] | exact z0f _ | refine z0e _ _ ?_ | exact Cln.cl | refine z05 _ ?_ | refine z00 _ _ ?_ ?_ | refine DR_q _ ?_ | (refine Fk.fk ?_ ?_ <;> intro hg <;> (try simp only [hg]) <;> (try simp only [bunB] at hg) <;> try (exfalso; first | omega | exact Bool.noConfusion hg | exact hg trivial)) | refine And.intro (by omega) ?_ | omega
      · refine ⟨i + 1, ⟨by omega, hr'⟩, by omega, ?_⟩
        rw [hp, if_pos (by omega)]
        (simp (disch := omega) [wk, wkT, wkM, noF, isF, get, z0h, belowM, below, belows, I64, I32, Bv, U8, Sv, z1w] <;> try omega)
      · refine ⟨i + 1, ⟨by omega, hr'⟩, by omega, ?_⟩
        rw [hp, if_neg (by omega)]
        (simp (disch := omega) [wk, wkT, wkM, noF, isF, get, z0h, belowM, below, belows, I64, I32, Bv, U8, Sv, List.append_nil] <;> try omega)
  · have e : i = l.length := by omega
    subst e
    rw [List.take_length] at *
    have hok : z1m l = true := hr
    have hR := zwt hok
    have hS : pnS l = z5x l := by simp [pnS, hok]
    rw [hok, hS]
    have hpl := zf4 l
    have hpc := zir l
    repeat' first | simp (maxSteps := 4000000) (disch := omega) only [bunL, bunD, bun, ↓z04, ↓z01, z02, findLabel, ↓reduceIte, imp, shift, z0b, z0a, unown, names, z07, below, noF, isF, z03, z09, z08, ren, givL, updM, z0c, renO, belowM, seval, -Int.reduceToNat, B3, B4, B9, B21, B41, B5, B86, bunN, z0o] | refine DR_q _ ?_ | (refine Fk.fk ?_ ?_ <;> intro hg <;> (try simp only [hg]) <;> (try simp only [bunB] at hg) <;> try (exfalso; first | omega | exact Bool.noConfusion hg | exact hg trivial)) | refine And.intro (by omega) ?_ | omega
    all_goals
      refine z0m (fun x : Nat × Int × EnS => ⟨[(0, .sl l.length (l.map I32)), (4, .ref 0 0 x.2.2.out.length), (7, I64 (z0x l).length), (8, I32 x.2.1), (9, I64 x.2.2.delta), (10, I64 x.2.2.bias), (11, I64 x.2.2.h)], [.arr 5 1 (x.2.2.out.map U8)]⟩)
        (fun x => EnI l x.2.1 x.2.2 ∧ (l.length : Int) < x.1 + x.2.2.h ∧ enF l (z0x l).length x.1 x.2.1 x.2.2 = z5x l) (fun x => x.1) (l.length + 1, 128, ⟨z3b l, 0, 72, (z0x l).length⟩)
        (by
          refine ⟨⟨by dsimp only; omega, by dsimp only; omega, Int.le_refl 0, by simp, by dsimp only; omega, by dsimp only; omega, by dsimp only; omega, ?_⟩, by dsimp only; omega, rfl⟩
          dsimp only [z3b]; split <;> (try simp only [List.length_append, List.length_cons, List.length_nil]) <;> omega) ?_ ?_
      · first
        | (have hh : z3b l = z0x l ++ [45] := by unfold z3b; rw [if_pos (by omega)])
        | (have hh : z3b l = z0x l := by unfold z3b; rw [if_neg (by omega)])
        (simp (disch := omega) [wk, wkT, wkM, noF, isF, get, z0h, belowM, below, belows, I64, I32, Bv, U8, Sv, hh] <;> try omega)
      · rintro ⟨f, n, ⟨out, delta, bias, h⟩⟩ ⟨hI, hf, hv⟩
        dsimp only at hI hf hv
        have hn0 := hI.n0
        have hn1 := hI.n1
        have hd0 := hI.d0
        have hb0 := hI.b0
        have hb1 := hI.b1
        have hhh := hI.hh
        have hlen := hI.len
        dsimp only at hd0 hb0 hb1 hhh hlen
        by_cases hlt : h < l.length
        · obtain ⟨h1, h2, hJ, hc1, hc2, hm, hpos⟩ := hI.first (fun r hr => (hR r hr).2) hl hlt
          dsimp only at hJ hc1 hc2 hpos
          obtain ⟨f, rfl⟩ : ∃ g, f = g + 1 := ⟨f - 1, by omega⟩
          rw [enF, if_pos hlt] at hv
          dsimp only at hv
          have hnm := h1.2.1
          generalize hmm : nxt l n = m at *
          generalize hpp : (m - n) * (h + 1) = p at *
          repeat' first | refine z06 (next_spec l n (by omega)) ?_ ?_ | simp (maxSteps := 4000000) (disch := omega) only [bunL, bunD, bun, ↓z04, ↓z01, z02, findLabel, ↓reduceIte, imp, shift, z0b, z0a, unown, names, z07, below, noF, isF, z03, z09, z08, ren, givL, updM, z0c, renO, belowM, seval, -Int.reduceToNat, hmm, hpp, B3, B4, B9, B21, B41, B5, B86, bunN, z0o] | exact z0f _ | refine z0e _ _ ?_ | exact Cln.cl | refine z05 _ ?_ | refine z00 _ _ ?_ ?_ | refine DR_q _ ?_ | (refine Fk.fk ?_ ?_ <;> intro hg <;> (try simp only [hg]) <;> (try simp only [bunB] at hg) <;> try (exfalso; first | omega | exact Bool.noConfusion hg | exact hg trivial)) | refine And.intro (by omega) ?_ | omega
          refine z0m (fun x : Nat × EnS => ⟨[(0, .sl l.length (l.map I32)), (4, .ref 0 0 x.2.out.length), (7, I64 (z0x l).length), (8, I32 m), (9, I64 x.2.delta), (10, I64 x.2.bias), (11, I64 x.2.h), (59, .sl l.length (l.map I32)), (60, I64 l.length), (61, I64 x.1)], [.arr 5 1 (x.2.out.map U8)]⟩)
            (fun x => EnJ l m ⟨out, delta + p, bias, h⟩ x.1 x.2 ∧ x.1 ≤ l.length) (fun x => l.length - x.1) (0, ⟨out, delta + p, bias, h⟩) ⟨hJ, by dsimp only; omega⟩ (by simp [wk, wkT, wkM, noF, isF, get, z0h, belowM, below, belows, I64, I32, Bv, U8, Sv] <;> try omega) ?_
          rintro ⟨j, ⟨out1, delta1, bias1, h1'⟩⟩ ⟨hJ1, hj⟩
          dsimp only at hJ1 hj
          have hroom : h + l.countP (· == m) ≤ l.length := by
            have := z8v (l := l) (n := n) (m := m) h1.2.2 h1.2.1
            have := List.countP_le_length (p := fun x : Int => decide (x < m + 1)) (l := l)
            omega
          have hd0' := hJ1.d0
          have hd1' := hJ1.d1
          have hb0' := hJ1.b0
          have hb1' := hJ1.b1
          have hhl := hJ1.hl
          have hlen' := hJ1.len
          have hh' := hJ1.hh
          have hh0 := hJ1.h0
          dsimp only at hd0' hd1' hb0' hb1' hhl hlen' hh' hh0
          by_cases hjl : j < l.length
          · have hN := hJ1.next hjl (by dsimp only; omega) hroom
            have hwl := wr_len delta1 bias1
            obtain ⟨r, hrr⟩ : ∃ r, l.getD j 0 = r := ⟨_, rfl⟩
            rw [hrr] at hN
            repeat' first | refine z17 [0] (zx1 out1 delta1 bias1 (by omega) (by omega) (by omega) (by omega) (by omega)) ?_ | refine z06 (z4o _ _ _ (by omega) (by omega) (by omega) (by omega)) ?_ ?_ | simp (maxSteps := 4000000) (disch := omega) only [bunL, bunD, bun, ↓z04, ↓z01, z02, findLabel, ↓reduceIte, imp, shift, z0b, z0a, unown, names, z07, below, noF, isF, z03, z09, z08, ren, givL, updM, z0c, renO, belowM, seval, -Int.reduceToNat, hrr, B3, B4, B9, B21, B41, B5, B86, bunN, z0o] | exact z0f _ | refine z0e _ _ ?_ | exact Cln.cl | refine z05 _ ?_ | refine z00 _ _ ?_ ?_ | refine DR_q _ ?_ | (refine Fk.fk ?_ ?_ <;> intro hg <;> (try simp only [hg]) <;> (try simp only [bunB] at hg) <;> try (exfalso; first | omega | exact Bool.noConfusion hg | exact hg trivial)) | refine And.intro (by omega) ?_ | omega
            · have e : z6s m (z0x l).length ⟨out1, delta1, bias1, h1'⟩ r = ⟨out1, delta1 + 1, bias1, h1'⟩ := by unfold z6s; rw [if_pos (by omega)]
              rw [e] at hN
              exact ⟨(j + 1, _), ⟨hN, by dsimp only; omega⟩, by dsimp only; omega, (by simp [wk, wkT, wkM, noF, isF, get, z0h, belowM, below, belows, I64, I32, Bv, U8, Sv] <;> try omega)⟩
            · have e : z6s m (z0x l).length ⟨out1, delta1, bias1, h1'⟩ r = ⟨out1 ++ wr delta1 bias1, 0, adapt delta1 (h1' + 1) (h1' == ((z0x l).length : Int)), h1' + 1⟩ := by unfold z6s; rw [if_neg (by omega), if_pos (by omega)]
              rw [e] at hN
              exact ⟨(j + 1, _), ⟨hN, by dsimp only; omega⟩, by dsimp only; omega, (by simp [wk, wkT, wkM, noF, isF, get, z0h, belowM, below, belows, I64, I32, Bv, U8, Sv] <;> try omega)⟩
            · have e : z6s m (z0x l).length ⟨out1, delta1, bias1, h1'⟩ r = ⟨out1, delta1, bias1, h1'⟩ := by unfold z6s; rw [if_neg (by omega), if_neg (by omega)]
              rw [e] at hN
              exact ⟨(j + 1, _), ⟨hN, by dsimp only; omega⟩, by dsimp only; omega, (by simp [wk, wkT, wkM, noF, isF, get, z0h, belowM, below, belows, I64, I32, Bv, U8, Sv] <;> try omega)⟩
          · have ej : j = l.length := by omega
            subst ej
            obtain ⟨hL, hgt⟩ := hJ1.last h1 hn0 hm hhh hc1
            dsimp only at hL hgt
            have heq := hJ1.eq
            rw [List.take_length] at heq
            repeat' first | simp (maxSteps := 4000000) (disch := omega) only [bunL, bunD, bun, ↓z04, ↓z01, z02, findLabel, ↓reduceIte, imp, shift, z0b, z0a, unown, names, z07, below, noF, isF, z03, z09, z08, ren, givL, updM, z0c, renO, belowM, seval, -Int.reduceToNat, B3, B4, B9, B21, B41, B5, B86, bunN, z0o] | refine DR_q _ ?_ | (refine Fk.fk ?_ ?_ <;> intro hg <;> (try simp only [hg]) <;> (try simp only [bunB] at hg) <;> try (exfalso; first | omega | exact Bool.noConfusion hg | exact hg trivial)) | refine And.intro (by omega) ?_ | omega
            refine ⟨(f, m + 1, ⟨out1, delta1 + 1, bias1, h1'⟩), ⟨hL, by dsimp only; omega, ?_⟩, by dsimp only; omega, (by simp [wk, wkT, wkM, noF, isF, get, z0h, belowM, below, belows, I64, I32, Bv, U8, Sv] <;> try omega)⟩
            rw [← hv]
            unfold zdz
            rw [← heq]
        · have hv' : out = z5x l := by
            rw [← hv]
            cases f with
            | zero => rfl
            | succ f => rw [enF, if_neg hlt]
          repeat' first | simp (maxSteps := 4000000) (disch := omega) only [bunL, bunD, bun, ↓z04, ↓z01, z02, findLabel, ↓reduceIte, imp, shift, z0b, z0a, unown, names, z07, below, noF, isF, z03, z09, z08, ren, givL, updM, z0c, renO, belowM, seval, -Int.reduceToNat, B3, B4, B9, B21, B41, B5, B86, bunN, z0o] | refine DR_q _ ?_ | (refine Fk.fk ?_ ?_ <;> intro hg <;> (try simp only [hg]) <;> (try simp only [bunB] at hg) <;> try (exfalso; first | omega | exact Bool.noConfusion hg | exact hg trivial)) | refine And.intro (by omega) ?_ | omega
          rw [hv']
end Go.AE
end
section
set_option linter.unusedSimpArgs false
set_option linter.unusedVariables false
namespace Go.AE
open Go.Proofs Go.Lib
def insF : Nat := 88
theorem zcy {P : Program} {ops : Array Oper} {rest : List Oper} {o : Oper} {a : Act} {w w' : World} {Q : Exit → Act → World → Prop} (hg : o.guard = none) (d x : Operand) (t u : TypeId)
    (ho : o.op = .call { callee := .builtin .copy, args := #[d, x], argTypes := #[t, u] }) {p q v : Value} (hd : a.eval d = p) (hx : a.eval x = q)
    (hr : (Builtin.copy_ #[t, u] o.type #[p, q]).run P w = .ok v w') (h : wpList P ops Q rest (a.put o.dst v) w') : wpList P ops Q (o :: rest) a w := by
  refine wpList_plain hg fun K hK => ?_
  unfold Oper.wp execOp
  simp only [ho, resolve, invoke, builtin, Sem.run_bind, Sem.run_pure, Result.andThen_ok, List.map_toArray, List.map_cons, List.map_nil, hd, hx, hr]
  exact hK _ _ h
theorem zdw {P : Program} {ops : Array Oper} {o : Oper} {a : Act} {w w' : World} {K : Act → World → Prop} {Q : Exit → Act → World → Prop} {E : Prop} (hg : o.guard = none) (d x : Operand) (t u : TypeId)
    (ho : o.op = .call { callee := .builtin .copy, args := #[d, x], argTypes := #[t, u] }) {p q v : Value} (hd : a.eval d = p) (hx : a.eval x = q)
    (hr : (Builtin.copy_ #[t, u] o.type #[p, q]).run P w = .ok v w') (h : K (a.put o.dst v) w') : if Region.wanted o (yielded ops a.tmps) = true then Oper.wp P o a w K Q else E := by
  rw [if_pos (by simp [Region.wanted, hg])]
  unfold Oper.wp execOp
  simp only [ho, resolve, invoke, builtin, Sem.run_bind, Sem.run_pure, Result.andThen_ok, List.map_toArray, List.map_cons, List.map_nil, hd, hx, hr]
  exact h
set_option maxHeartbeats 4000000 in
set_option maxRecDepth 100000 in
theorem ins_room (b n c i vb voff vc : Nat) (cs : List Value) (x : Value) (w : World) (hi : i < n) (hroom : n + 1 ≤ c) (hc63 : c ≤ 9223372036854775807) (hvb : vb ≠ b) (hcl : cs.length = n)
    (hcs : ∀ j v, cs[j]? = some v → w.cell? ⟨b, j, none⟩ = some v) (hsp : ∀ j, j < n + 1 → (w.cell? ⟨b, j, none⟩).isSome = true) (hfz : ∀ j, j < n + 1 → w.frozen? ⟨b, j, none⟩ = false)
    (hvs : w.cell? ⟨vb, voff, none⟩ = some x) (h1c : ∀ v ∈ cs, v.oneCell' = true) (h1v : x.oneCell' = true)
    (tA tB : TypeId) (kA kB : Nat) (hsa : w.shape? vb = some (tA, kA)) (hsb : w.shape? b = some (tB, kB)) (hkB : kB ≠ 0) (hfa : w.frozen? ⟨vb, voff, none⟩ = false) (hfe : w.frozen? ⟨vb, kA, none⟩ = false) :
    Calls Tryz.prog insF #[.slice (some ⟨b, 0, none⟩) n c, .int .i64 i, .slice (some ⟨vb, voff, none⟩) 1 vc] w fun e w' =>
      e = .returned (.slice (some ⟨b, 0, none⟩) (n + 1) c) ∧ w' = (w.drew.setCells b (i + 1) (cs.drop i)).setCells b i [x] := by
  have hne : ¬ ((i : Int) = (n : Int)) := by omega
  have hsz : (Tryz.prog.info? 21).map (·.size) = some 1 := by kernel_rfl
  have hov : ∀ lb cb, (callFunc 105 #[.slice (some ⟨vb, voff, none⟩) 1 vc, .slice (some ⟨b, i + 1, none⟩) lb cb]).run Tryz.prog w = .ok (.value (.bool false)) w := fun lb cb => by
    rw [run_callFunc_extern Tryz.func105 (by kernel_rfl) (by kernel_rfl) (by kernel_rfl) (e := Extern.SlicesOverlaps.overlaps #[41, 41] #[4]) (by kernel_rfl),
      Lib.run_overlaps_apart w 41 4 21 Tryz.underlying41 1 Tryz.sizeOf21 ⟨vb, voff, none⟩ ⟨b, i + 1, none⟩ 1 vc lb cb hvb tA tB kA kB hsa hsb hkB hfa hfe]
    rfl
  have hdl : (cs.drop i).length = n - i := by rw [List.length_drop, hcl]
  have mixed : Tryz.prog.follows .mixedOrders = true := by decide +kernel
  have hw1 : IntKind.i64.wrap ((i : Int) + 1) = (i : Int) + 1 := by rw [IntKind.wrap_i64]; omega
  have hb1 : (0 : Int) ≤ (i : Int) + 1 := by omega
  have hin : i ≤ n := by omega
  have htn : ((i : Int) + 1).toNat = i + 1 := by omega
  have hb2 : ¬ (c = i + 1) := by omega
  have hb3 : (i : Int) ≤ (n : Int) + 1 := by omega
  have hb4 : ¬ (c = i) := by omega
  have hb5 : (i : Int) ≤ (n : Int) := by omega
  have hc1 : ∀ ty dc sc, (Builtin.copy_ #[41, 41] ty #[.slice (some ⟨b, i + 1, none⟩) (n + 1 - (i + 1)) dc, .slice (some ⟨b, i, none⟩) (n + 1 - i) sc]).run Tryz.prog w.drew = .ok (goInt (cs.drop i).length) (w.drew.setCells b (i + 1) (cs.drop i)) := fun ty dc sc =>
    run_copy_cells w.drew _ _ ty 21 b (i + 1) (n + 1 - (i + 1)) dc ⟨b, i, none⟩ (n + 1 - i) sc (cs.drop i) Tryz.underlying41 hsz (by rw [hdl]; simp only [Nat.min_def]; split <;> omega)
      (fun j v hj => by rw [Addr.add_lit]; exact hcs (i + j) v (by rwa [List.getElem?_drop] at hj))
      (fun j hj => hsp _ (by omega)) (fun j hj => hfz _ (by omega)) (fun v hv => h1c v (List.mem_of_mem_drop hv))
  obtain ⟨W1, hW1⟩ : ∃ W1, W1 = w.drew.setCells b (i + 1) (cs.drop i) := ⟨_, rfl⟩
  have hsp1 : ∀ k, k < n + 1 → (W1.cell? ⟨b, k, none⟩).isSome = true := fun k hk => by
    rw [hW1]
    by_cases hin : i + 1 ≤ k
    · have := World.cell?_setCells_in b (cs.drop i) (i + 1) w.drew (fun j hj => hsp _ (by omega)) (k - (i + 1)) (by omega)
      rw [show i + 1 + (k - (i + 1)) = k by omega] at this
      rw [this]; rfl
    · rw [World.cell?_setCells_out b _ _ _ ⟨b, k, none⟩ (fun _ _ => by show k < i + 1 ∨ _; omega)]
      exact hsp k hk
  have hc2 : ∀ (W : World), (∀ x, W.cell? x = W1.cell? x) → (∀ x, W.frozen? x = W1.frozen? x) → ∀ ty dc, (Builtin.copy_ #[41, 41] ty #[.slice (some ⟨b, i, none⟩) (n + 1 - i) dc, .slice (some ⟨vb, voff, none⟩) 1 vc]).run Tryz.prog W = .ok (goInt 1) (W.setCells b i [x]) := fun W hWc hWf ty dc =>
    run_copy_cells W _ _ ty 21 b i (n + 1 - i) dc ⟨vb, voff, none⟩ 1 vc [x] Tryz.underlying41 hsz (by simp only [Nat.min_def, List.length_cons, List.length_nil]; split <;> omega)
      (fun j v hj => by
        have hj0 : j = 0 := by have := (List.getElem?_eq_some_iff.1 hj).1; simpa using this
        subst hj0
        simp at hj; subst hj
        rw [Addr.add_lit, hWc, hW1, World.cell?_setCells_out b _ _ _ _ (fun h _ => absurd h hvb)]
        exact hvs)
      (fun j hj => by rw [hWc]; exact hsp1 _ (by simp at hj; omega)) (fun j hj => by rw [hWf, hW1, World.frozen?_setCells]; exact hfz _ (by simp at hj; omega)) (fun v hv => by simp at hv; subst hv; exact h1v)
  rw [← hW1] at hc1
  unfold insF
  go_enter Tryz.func88, Tryz.ntmps88
  go_wp2_with (simp only [hov])
  go_region_law_o (refine zdw rfl _ _ 41 41 rfl (by simp [Act.eval, Act.put]; rfl) (by simp [Act.eval, Act.put]; rfl) (hc1 _ _ _) ?_)
  go_wp2_with (at_builtin; refine zcy rfl _ _ 41 41 rfl rfl rfl (hc2 _ (fun _ => rfl) (fun _ => rfl) _ _) ?_)
  go_ret
  exact ⟨rfl, rfl⟩
set_option maxHeartbeats 4000000 in
set_option maxRecDepth 100000 in
theorem ins_grow (b n c i vb voff vc : Nat) (cs : List Value) (x : Value) (w : World) (hi : i < n) (hnc : n ≤ c) (hroom : c < n + 1) (hbig : (n + 1) * 4 ≤ 140737488355328) (hcl : cs.length = n)
    (hcs : ∀ j v, cs[j]? = some v → w.cell? ⟨b, j, none⟩ = some v)
    (hvs : w.cell? ⟨vb, voff, none⟩ = some x) (h1c : ∀ v ∈ cs, v.oneCell' = true) (h1v : x.oneCell' = true) :
    Calls Tryz.prog insF #[.slice (some ⟨b, 0, none⟩) n c, .int .i64 i, .slice (some ⟨vb, voff, none⟩) 1 vc] w fun e w' =>
      e = .returned (.slice (some ⟨w.heap.size, 0, none⟩) (n + 1) (grownCap w (n + 1) c 21)) ∧
      w' = (((w.alloc (.cells ((cs.take i).toArray ++ Builtin.zeroCells (Value.int .i32 0).cells (n + 1 - i) ++ Builtin.zeroCells (Value.int .i32 0).cells (grownCap w (n + 1) c 21 - (n + 1))) 21)).drew.setCells w.heap.size i [x]).drew).setCells w.heap.size (i + 1) (cs.drop i) := by
  have hne : ¬ ((i : Int) = (n : Int)) := by omega
  have hne2 : (c : Int) < (n : Int) + 1 := by omega
  obtain ⟨i0, hi0, hz0, hzs, hzb⟩ := info_parts (P := Tryz.prog) (e := 21) (z := .int .i32 0) (size := 1) (bytes := 4) (by kernel_rfl)
  have hsz : (Tryz.prog.info? 21).map (·.size) = some 1 := by rw [hi0]; simp [hzs]
  have hbw : b < w.heap.size := block_lt_of_cell (hcs 0 _ (List.getElem?_eq_getElem (by omega)))
  have hvw : vb < w.heap.size := block_lt_of_cell hvs
  have hkk : (n : Int) + 1 - (i : Int) = ((n + 1 - i : Nat) : Int) := by omega
  have hik : i + (n + 1 - i) = n + 1 := by omega
  have hold : (Builtin.firstCells i0.size i (.slice (some ⟨b, 0, none⟩) i c)).run Tryz.prog w.drew = .ok (cs.take i).toArray w.drew := by
    rw [hzs]
    refine run_firstCells_some w.drew 1 i ⟨b, 0, none⟩ i c (cs.take i) (by rw [List.length_take]; omega) fun j v hj => ?_
    rw [Addr.add_lit, Nat.zero_add]
    rw [List.getElem?_take] at hj
    split at hj
    · exact hcs j v hj
    · cases hj
  obtain ⟨G, hG⟩ : ∃ G, G = grownCap w (n + 1) c 21 := ⟨_, rfl⟩
  obtain ⟨ROW, hROW⟩ : ∃ ROW : Array Value, ROW = (cs.take i).toArray ++ Builtin.zeroCells (Value.int .i32 0).cells (n + 1 - i) ++ Builtin.zeroCells (Value.int .i32 0).cells (G - (n + 1)) := ⟨_, rfl⟩
  have happ : ∀ ty, (Builtin.append_ #[41, 3] ty #[.slice (some ⟨b, 0, none⟩) i c, .int .i64 ((n : Int) + 1 - (i : Int))]).run Tryz.prog w = .ok (.slice (some ⟨w.heap.size, 0, none⟩) (n + 1) G) (w.drew.alloc (.cells ROW 21)) := fun ty => by
    have h := Lib.run_append_grow_zeros (P := Tryz.prog) w 41 3 ty 21 i0 _ .i64 .i64 Tryz.underlying41 Tryz.underlying3 hi0 hz0 (some ⟨b, 0, none⟩) i c (cs.take i) hold (n + 1 - i) (by omega) (by omega) (by omega) (by omega) (by rw [hzb]; omega) (by rw [hzb, hik]; exact growslice_fits hroom hbig)
    rw [hik] at h
    rw [hkk, hROW, hG]
    exact h
  rw [← hG, ← hROW]
  have hRl : n + 1 ≤ ROW.size := by rw [hROW]; simp [Builtin.zeroCells, Value.cells]; omega
  obtain ⟨W1, hW1⟩ : ∃ W1, W1 = w.drew.alloc (.cells ROW 21) := ⟨_, rfl⟩
  have hN : ∀ j, j < n + 1 → (W1.cell? ⟨w.heap.size, j, none⟩).isSome = true := fun j hj => by
    rw [hW1, World.cell?_alloc_at (w := w.drew) ROW _ w.heap.size j rfl, Array.getElem?_eq_getElem (by omega)]; rfl
  have hNf : ∀ j, W1.frozen? ⟨w.heap.size, j, none⟩ = false := fun j => by rw [hW1]; exact World.frozen?_alloc_at (w := w.drew) ROW _ w.heap.size j rfl
  have hOb : ∀ j v, w.cell? ⟨b, j, none⟩ = some v → W1.cell? ⟨b, j, none⟩ = some v := fun j v h => by rw [hW1, World.cell?_alloc_past (w := w.drew) _ b j hbw]; exact h
  have hOv : ∀ j v, w.cell? ⟨vb, j, none⟩ = some v → W1.cell? ⟨vb, j, none⟩ = some v := fun j v h => by rw [hW1, World.cell?_alloc_past (w := w.drew) _ vb j hvw]; exact h
  have hGn : n + 1 ≤ G := by rw [hG]; exact grownCap_ge w _ _ _
  have hG63 : G ≤ 9223372036854775807 := by
    have := grownCap_le_maxLen w (n + 1) c 21 (by unfold maxLen; omega)
    rw [← hG] at this
    unfold maxLen at this
    omega
  have hcA : ∀ (W : World), (∀ x, W.cell? x = W1.cell? x) → (∀ x, W.frozen? x = W1.frozen? x) → ∀ ty dc, (Builtin.copy_ #[41, 41] ty #[.slice (some ⟨w.heap.size, i, none⟩) (n + 1 - i) dc, .slice (some ⟨vb, voff, none⟩) 1 vc]).run Tryz.prog W = .ok (goInt 1) (W.setCells w.heap.size i [x]) := fun W hWc hWf ty dc =>
    run_copy_cells W _ _ ty 21 w.heap.size i (n + 1 - i) dc ⟨vb, voff, none⟩ 1 vc [x] Tryz.underlying41 hsz (by simp only [Nat.min_def, List.length_cons, List.length_nil]; split <;> omega)
      (fun j v hj => by
        have hj0 : j = 0 := by have := (List.getElem?_eq_some_iff.1 hj).1; simpa using this
        subst hj0
        simp at hj; subst hj
        rw [Addr.add_lit, hWc]
        exact hOv _ _ hvs)
      (fun j hj => by rw [hWc]; exact hN _ (by simp at hj; omega)) (fun j hj => by rw [hWf]; exact hNf _) (fun v hv => by simp at hv; subst hv; exact h1v)
  have hdl : (cs.drop i).length = n - i := by rw [List.length_drop, hcl]
  have hbN : b ≠ w.heap.size := by omega
  obtain ⟨W2, hW2⟩ : ∃ W2, W2 = W1.setCells w.heap.size i [x] := ⟨_, rfl⟩
  have hN2 : ∀ k, k < n + 1 → (W2.cell? ⟨w.heap.size, k, none⟩).isSome = true := fun k hk => by
    rw [hW2]
    by_cases hin : k = i
    · subst hin
      have := World.cell?_setCells_in w.heap.size [x] k W1 (fun j hj => hN _ (by simp at hj; omega)) 0 (by simp)
      rw [Nat.add_zero] at this
      rw [this]; rfl
    · rw [World.cell?_setCells_out w.heap.size _ _ _ ⟨w.heap.size, k, none⟩ (fun _ _ => by show k < i ∨ i + 1 ≤ k; omega)]
      exact hN k hk
  have hcB : ∀ (W : World), (∀ x, W.cell? x = W2.cell? x) → (∀ x, W.frozen? x = W2.frozen? x) → ∀ ty dc sc, (Builtin.copy_ #[41, 41] ty #[.slice (some ⟨w.heap.size, i + 1, none⟩) (n + 1 - (i + 1)) dc, .slice (some ⟨b, i, none⟩) (n - i) sc]).run Tryz.prog W = .ok (goInt (cs.drop i).length) (W.setCells w.heap.size (i + 1) (cs.drop i)) := fun W hWc hWf ty dc sc =>
    run_copy_cells W _ _ ty 21 w.heap.size (i + 1) (n + 1 - (i + 1)) dc ⟨b, i, none⟩ (n - i) sc (cs.drop i) Tryz.underlying41 hsz (by rw [hdl]; simp only [Nat.min_def]; split <;> omega)
      (fun j v hj => by
        rw [Addr.add_lit, hWc, hW2, World.cell?_setCells_out _ _ _ _ _ (fun h _ => absurd h hbN)]
        exact hOb _ v (hcs (i + j) v (by rwa [List.getElem?_drop] at hj)))
      (fun j hj => by rw [hWc]; exact hN2 _ (by omega)) (fun j hj => by rw [hWf, hW2, World.frozen?_setCells]; exact hNf _) (fun v hv => h1c v (List.mem_of_mem_drop hv))
  have mixed : Tryz.prog.follows .mixedOrders = true := by decide +kernel
  have hw1 : IntKind.i64.wrap ((i : Int) + 1) = (i : Int) + 1 := by rw [IntKind.wrap_i64]; omega
  have hb1 : (0 : Int) ≤ (i : Int) + 1 := by omega
  have hin : i ≤ n := by omega
  have htn : ((i : Int) + 1).toNat = i + 1 := by omega
  have hb3 : (i : Int) ≤ (n : Int) + 1 := by omega
  have hb5 : (i : Int) ≤ (n : Int) := by omega
  have hGi : ¬ (G = i) := by omega
  have hGim : ¬ (G = i + 1) := by omega
  have hci : ¬ (c = i) := by omega
  subst hW2 hW1
  have hE1 : ∀ x, ((w.alloc (.cells ROW 21)).drew).cell? x = (w.drew.alloc (.cells ROW 21)).cell? x := fun x => rfl
  have hE2 : ∀ x, ((w.alloc (.cells ROW 21)).drew).frozen? x = (w.drew.alloc (.cells ROW 21)).frozen? x := fun x => rfl
  have hF1 : ∀ y, (((w.alloc (.cells ROW 21)).drew.setCells w.heap.size i [x]).drew).cell? y = ((w.drew.alloc (.cells ROW 21)).setCells w.heap.size i [x]).cell? y := fun y => rfl
  have hF2 : ∀ y, (((w.alloc (.cells ROW 21)).drew.setCells w.heap.size i [x]).drew).frozen? y = ((w.drew.alloc (.cells ROW 21)).setCells w.heap.size i [x]).frozen? y := fun y => rfl
  clear hkk hold hROW hRl
  unfold insF
  go_enter Tryz.func88, Tryz.ntmps88
  go_wp2_with (first
    | (at_builtin; refine Lib.wpList_append_run _ rfl _ _ _ _ rfl _ _ rfl rfl _ _ (happ _) ?_)
    | (at_builtin; refine zcy rfl _ _ 41 41 rfl rfl rfl (hcA _ hE1 hE2 _ _) ?_))
  go_region_law_o (refine zdw rfl _ _ 41 41 rfl (p := .slice (some ⟨w.heap.size, i + 1, none⟩) (n + 1 - (i + 1)) (G - (i + 1))) (q := .slice (some ⟨b, i, none⟩) (n - i) (c - i)) (by simp [Act.eval, Act.put] <;> omega) (by simp [Act.eval, Act.put] <;> omega) (hcB _ hF1 hF2 _ _ _) ?_)
  go_wp2
  go_ret
  exact ⟨rfl, rfl⟩
theorem z4e (b : Nat) : ∀ (vs : List Value) (o : Nat) (w : World) {c : Array Value} {e : TypeId} {fz : Nat × Nat}, w.heap[b]? = some (.cells c e fz) →
    (∃ c', (w.setCells b o vs).heap[b]? = some (.cells c' e fz) ∧ c'.size = c.size ∧ ∀ j, j < c.size → c'[j]? = if o ≤ j ∧ j < o + vs.length then vs[j - o]? else c[j]?) ∧
    (∀ k, k ≠ b → (w.setCells b o vs).heap[k]? = w.heap[k]?) ∧ (w.setCells b o vs).heap.size = w.heap.size ∧ (w.setCells b o vs).os = w.os ∧ (w.setCells b o vs).tape = w.tape ∧ (w.setCells b o vs).output = w.output
  | [], o, w, c, e, fz, h => ⟨⟨c, h, rfl, fun j hj => by rw [if_neg]; simp⟩, fun _ _ => rfl, rfl, rfl, rfl, rfl⟩
  | v :: r, o, w, c, e, fz, h => by
    have hb : b < w.heap.size := (Array.getElem?_eq_some_iff.1 h).1
    have h1 : (w.setCell ⟨b, o, none⟩ v).heap[b]? = some (.cells (c.setIfInBounds o v) e fz) := by
      simp only [World.setCell, Array.getElem?_modify, if_pos, h, Option.map_some, Option.isSome_none, Bool.false_eq_true, if_false]
    obtain ⟨⟨c', q1, q2, q3⟩, q4, q5, q6, q7, q8⟩ := z4e b r (o + 1) (w.setCell ⟨b, o, none⟩ v) h1
    refine ⟨⟨c', q1, by rw [q2]; simp, fun j hj => ?_⟩, fun k hk => ?_, ?_, q6, q7, q8⟩
    · rw [q3 j (by simpa using hj)]
      by_cases hjo : j = o
      · subst hjo
        rw [if_neg (by omega), if_pos (by simp)]
        simp [hj]
      · by_cases hin : o + 1 ≤ j ∧ j < o + 1 + r.length
        · rw [if_pos hin, if_pos (by simp; omega), show j - o = (j - (o + 1)) + 1 by omega]; simp
        · rw [if_neg hin, if_neg (by simp; omega)]
          simp [Array.getElem?_setIfInBounds, Ne.symm hjo]
    · rw [World.setCells, q4 k hk]
      simp only [World.setCell, Array.getElem?_modify]
      rw [if_neg (Ne.symm hk)]
    · rw [World.setCells, q5]; simp [World.setCell]
end Go.AE
end
section
set_option linter.unusedSimpArgs false
set_option linter.unusedVariables false
namespace Go.AE
open Go.Proofs Go.Lib
def insL (L : List Int) (i : Nat) (x : Int) : List Int := L.take i ++ x :: L.drop i
theorem zfv {w : World} {b : Nat} {c : Array Value} {e : TypeId} {fz : Nat × Nat} (h : w.heap[b]? = some (.cells c e fz)) : w.shape? b = some (e, c.size) := by
  simp [World.shape?, h]
theorem z9z {w : World} {F : Nat → Prop} {G : Gh} : ∀ {L : List Int} {vs : List Value}, Reps w F G (L.map I32) vs → vs = L.map (Value.int .i32)
  | [], vs, h => by cases h; rfl
  | a :: L, vs, h => by
    cases h with
    | cons h1 h2 => rw [z9z h2]; cases h1; rfl
theorem zku {w : World} {F : Nat → Prop} {G : Gh} : ∀ (L : List Int), Reps w F G (L.map I32) (L.map (Value.int .i32))
  | [] => .nil
  | a :: L => .cons (.v _) (zku L)
theorem insL_len (L : List Int) (i : Nat) (x : Int) (hi : i ≤ L.length) : (insL L i x).length = L.length + 1 := by simp [insL]; omega
theorem ins_get (L : List Int) (i : Nat) (x : Int) (hi : i ≤ L.length) (j : Nat) (hj : j < L.length + 1) :
    ((insL L i x).map (Value.int .i32))[j]? = if j < i then (L.map (Value.int .i32))[j]? else if j = i then some (.int .i32 x) else (L.map (Value.int .i32))[j - 1]? := by
  simp only [insL, List.map_append, List.map_cons, List.map_take, List.map_drop]
  by_cases h1 : j < i
  · rw [if_pos h1, List.getElem?_append_left (by simp; omega), List.getElem?_take_of_lt h1]
  · rw [if_neg h1, List.getElem?_append_right (by simp; omega)]
    have e : ((L.map (Value.int .i32)).take i).length = i := by simp; omega
    rw [e]
    by_cases h2 : j = i
    · subst h2; simp
    · rw [if_neg h2, show j - i = (j - i - 1) + 1 by omega, List.getElem?_cons_succ, List.getElem?_drop, show i + (j - i - 1) = j - 1 by omega]
theorem zvs (L : List Int) (i : Nat) (x : Int) (hi : i < L.length) (hL : L.length ≤ 1000000000) :
    z5j Tryz.prog 88 [.arr 21 1 (L.map I32), .arr 21 1 [I32 x]] [.ref 0 0 L.length, I64 i, .ref 1 0 1] [.arr 21 1 ((insL L i x).map I32), .arr 21 1 [I32 x], .fence] (.ref 0 0 (L.length + 1)) := by
  refine ⟨⟨_, Tryz.func88, by decide +kernel, by decide +kernel⟩, fun w F g vs hR hr => ?_⟩
  obtain ⟨v0, v1, v2, rfl, h0, h1, h2⟩ : ∃ v0 v1 v2, vs = [v0, v1, v2] ∧ Rep w F (g ++ [none]) (.ref 0 0 L.length) v0 ∧ Rep w F (g ++ [none]) (I64 i) v1 ∧ Rep w F (g ++ [none]) (.ref 1 0 1) v2 := by
    cases hr with
    | cons h0 hr => cases hr with
      | cons h1 hr => cases hr with
        | cons h2 hr => cases hr; exact ⟨_, _, _, rfl, h0, h1, h2⟩
  cases h1
  have ho0 : obj ([Ob.arr 21 1 (L.map I32), .arr 21 1 [I32 x]] ++ [Ob.fence]) 0 = .arr 21 1 (L.map I32) := rfl
  have ho1 : obj ([Ob.arr 21 1 (L.map I32), .arr 21 1 [I32 x]] ++ [Ob.fence]) 1 = .arr 21 1 [I32 x] := rfl
  obtain ⟨gg, us, hg, hv0, hown, hrs, hone, hsz⟩ := zaq hR (id := 0) ho0 h0 (by simp)
  obtain ⟨gk, ks, hk, hv2, hown2, hrs2, hone2, hsz2⟩ := zaq hR (id := 1) ho1 h2 (by simp)
  have hus := z9z hrs
  subst hus
  have hks := z9z (L := [x]) hrs2
  subst hks
  obtain ⟨M, rfl⟩ : ∃ M, gg = some M := by
    cases gg with
    | none =>
      rcases hown.2 with ⟨_, hn⟩ | ⟨_, _, _, h5, _⟩
      · omega
      · rw [hv0] at h5; simp [slv] at h5
    | some M => exact ⟨M, rfl⟩
  obtain ⟨K, rfl⟩ : ∃ M, gk = some M := by
    cases gk with
    | none =>
      rcases hown2.2 with ⟨_, hn⟩ | ⟨_, _, _, h5, _⟩
      · cases hn
      · rw [hv2] at h5; simp [slv] at h5
    | some M => exact ⟨M, rfl⟩
  have hM0 : M.o = 0 := by
    have := hR.obG hg
    obtain ⟨_, _, _, _, _, _, h5⟩ := this
    exact h5 M rfl
  rcases hown.2 with ⟨h5, _⟩ | ⟨gb, cap, cur, h5, _, hh, hn, hm, hs, ht⟩
  · rw [hv0] at h5; simp [slv] at h5
  rw [hv0] at h5
  simp [slv] at h5
  obtain ⟨rfl, rfl⟩ := h5
  rcases hown2.2 with ⟨h5, _⟩ | ⟨gb, cap, kc, h5, _, hkh, hkn, hkm, hks, hkt⟩
  · rw [hv2] at h5; simp [slv] at h5
  rw [hv2] at h5
  simp [slv] at h5
  obtain ⟨rfl, rfl⟩ := h5
  rw [hv0, hv2]
  have hKM : K.b ≠ M.b := fun e => by have := hR.inj 1 0 K M hk hg e; omega
  have hkx : w.cell? ⟨K.b, 0, none⟩ = some (.int .i32 x) := by
    have : (kc.toList.take (1 * 1))[0]? = some (Value.int .i32 x) := by rw [hkt]; rfl
    rw [List.getElem?_take_of_lt (by omega)] at this
    simp [World.cell?, hkh]; simpa using this
  have hcl : (L.map (Value.int .i32)).length = L.length := by simp
  have hcur : ∀ (j : Nat) (v : Value), (L.map (Value.int .i32))[j]? = some v → cur[j]? = some v := by
    intro j v hj
    have hlt : j < L.length := by have := (List.getElem?_eq_some_iff.1 hj).1; simpa using this
    rw [← ht, List.getElem?_take_of_lt (by omega)] at hj
    simpa using hj
  have hcs : ∀ (j : Nat) (v : Value), (L.map (Value.int .i32))[j]? = some v → w.cell? ⟨M.b, j, none⟩ = some v := fun j v hj => by
    simp [World.cell?, hh, hcur j v hj]
  have hil : (insL L i x).length = L.length + 1 := insL_len L i x (by omega)
  have hdl : ((L.map (Value.int .i32)).drop i).length = L.length - i := by simp
  have hone' : ∀ u ∈ (insL L i x).map (Value.int .i32), u.oneCell' = true := fun u hu => by
    obtain ⟨y, _, rfl⟩ := List.mem_map.1 hu; rfl
  have hMb := hR.live 0 M hg
  by_cases hroom : L.length + 1 ≤ M.cap
  · have hsp : ∀ j, j < L.length + 1 → (w.cell? ⟨M.b, j, none⟩).isSome = true := fun j hj => by
      simp only [World.cell?, hh]
      rw [Array.getElem?_eq_getElem (by omega)]; rfl
    have hfz : ∀ j, j < L.length + 1 → w.frozen? ⟨M.b, j, none⟩ = false := fun j hj => by simp [World.frozen?, hh]
    refine (ins_room M.b L.length M.cap i K.b 0 K.cap _ (.int .i32 x) w hi hroom (by unfold maxLen at hm; omega) hKM hcl hcs hsp hfz hkx hone rfl 21 21 kc.size cur.size (zfv hkh) (zfv hh) (by omega) ?_ ?_).mono ?_
    · simp [World.frozen?, hkh]
    · simp [World.frozen?, hkh]
    · rintro e w' ⟨rfl, rfl⟩
      obtain ⟨⟨c1, a1, a2, a3⟩, a4, a5, a6, a7, a8⟩ := z4e M.b ((L.map (Value.int .i32)).drop i) (i + 1) w.drew (c := cur) hh
      obtain ⟨⟨c2, b1, b2, b3⟩, b4, b5, b6, b7, b8⟩ := z4e M.b [Value.int .i32 x] i _ a1
      have hR' := hR.grow (.drew w)
      have hown' : ((w.drew.setCells M.b (i + 1) ((L.map (Value.int .i32)).drop i)).setCells M.b i [Value.int .i32 x]).ownsRow 0 21 1 (slv (some M) (L.length + 1)) (L.length + 1) ((insL L i x).map (Value.int .i32)) := by
        refine ⟨by simp [hil], .inr ⟨M.b, M.cap, c2, rfl, Nat.zero_le _, b1, hroom, hm, by omega, ?_⟩⟩
        apply List.ext_getElem?
        intro j
        by_cases hj : j < L.length + 1
        · rw [List.getElem?_take_of_lt (by omega), Array.getElem?_toList, b3 j (by omega), ins_get L i x (by omega) j hj]
          by_cases h1 : j < i
          · rw [if_neg (by omega), if_pos h1, a3 j (by omega), if_neg (by omega)]
            have : j < (L.map (Value.int .i32)).length := by simp; omega
            rw [hcur j _ (List.getElem?_eq_getElem this), List.getElem?_eq_getElem this]
          · rw [if_neg h1]
            by_cases h2 : j = i
            · subst h2; rw [if_pos (by simp), if_pos rfl]; simp
            · rw [if_neg h2, if_neg (by simp; omega), a3 j (by omega), if_pos (by omega), List.getElem?_drop, show i + (j - (i + 1)) = j - 1 by omega]
        · rw [List.getElem?_eq_none (by simp; omega), List.getElem?_eq_none (by simp [hil]; omega)]
      have hfin := hR'.turn (w' := (w.drew.setCells M.b (i + 1) ((L.map (Value.int .i32)).drop i)).setCells M.b i [Value.int .i32 x]) hg (o := .arr 21 1 ((insL L i x).map I32)) (b6.trans a6) (b7.trans a7) (b8.trans a8) (b5.trans a5)
        (fun k hk => (b4 k hk).trans (a4 k hk)) ⟨L.length + 1, _, hown', zku _, hone', by omega, fun L' hL' => by simp at hL'; subst hL'; exact hM0⟩ hMb.2.2
        (fun r hr e => by
          rcases hMb.2.2 with h3 | ⟨_, h3⟩
          · have := hMb.2.1; omega
          · exact absurd e (h3 r hr)) (fun q => by cases q)
      refine ⟨_, _, _, rfl, hfin, ?_⟩
      have := Rep.ref (w := (w.drew.setCells M.b (i + 1) ((L.map (Value.int .i32)).drop i)).setCells M.b i [Value.int .i32 x]) (F := F) (off := 0) (len := L.length + 1) (cap := M.cap) hg (fun _ => rfl) hroom
      rw [hM0] at this
      exact this
  · refine (ins_grow M.b L.length M.cap i K.b 0 K.cap _ (.int .i32 x) w hi hn (by omega) (by omega) hcl hcs hkx hone rfl).mono ?_
    rintro e w' ⟨rfl, rfl⟩
    have hG1 := grownCap_ge w (L.length + 1) M.cap 21
    have hG2 := grownCap_le_maxLen w (L.length + 1) M.cap 21 (by unfold maxLen; omega)
    generalize hGG : grownCap w (L.length + 1) M.cap 21 = GG at *
    have hROWsz : (((L.map (Value.int .i32)).take i).toArray ++ Builtin.zeroCells (Value.int .i32 0).cells (L.length + 1 - i) ++ Builtin.zeroCells (Value.int .i32 0).cells (GG - (L.length + 1))).size = GG := by
      simp [Builtin.zeroCells, Value.cells]; omega
    have hROWlt : ∀ (j : Nat), j < i → (((L.map (Value.int .i32)).take i).toArray ++ Builtin.zeroCells (Value.int .i32 0).cells (L.length + 1 - i) ++ Builtin.zeroCells (Value.int .i32 0).cells (GG - (L.length + 1)))[j]? = (L.map (Value.int .i32))[j]? := by
      intro j hj
      rw [Array.append_assoc, Array.getElem?_append_left (by simp; omega)]
      simp only [List.getElem?_toArray]
      rw [List.getElem?_take_of_lt hj]
    generalize (((L.map (Value.int .i32)).take i).toArray ++ Builtin.zeroCells (Value.int .i32 0).cells (L.length + 1 - i) ++ Builtin.zeroCells (Value.int .i32 0).cells (GG - (L.length + 1))) = ROW at *
    have hnew : ((w.alloc (.cells ROW 21)).drew).heap[w.heap.size]? = some (.cells ROW 21 (0, 0)) := by
      have := z62 w (.cells ROW 21)
      exact this
    obtain ⟨⟨c1, a1, a2, a3⟩, a4, a5, a6, a7, a8⟩ := z4e w.heap.size [Value.int .i32 x] i _ hnew
    obtain ⟨⟨c2, b1, b2, b3⟩, b4, b5, b6, b7, b8⟩ := z4e w.heap.size ((L.map (Value.int .i32)).drop i) (i + 1) (((w.alloc (.cells ROW 21)).drew.setCells w.heap.size i [Value.int .i32 x]).drew) (c := c1) a1
    have hsize : (w.alloc (.cells ROW 21)).heap.size = w.heap.size + 1 := by simp
    have hgrow : Grow w ((((w.alloc (.cells ROW 21)).drew.setCells w.heap.size i [Value.int .i32 x]).drew).setCells w.heap.size (i + 1) ((L.map (Value.int .i32)).drop i)) := by
      refine ⟨b6.trans a6, b7.trans a7, b8.trans a8, ?_, fun k hk => ?_⟩
      · rw [b5]
        show w.heap.size ≤ ((w.alloc (.cells ROW 21)).drew.setCells w.heap.size i [Value.int .i32 x]).heap.size
        rw [a5]
        show w.heap.size ≤ (w.alloc (.cells ROW 21)).heap.size
        omega
      · rw [b4 k (by omega)]
        show ((w.alloc (.cells ROW 21)).drew.setCells w.heap.size i [Value.int .i32 x]).heap[k]? = _
        rw [a4 k (by omega)]
        exact (Grow.alloc w (.cells ROW 21)).block k hk
    have hsz2' : w.heap.size < ((((w.alloc (.cells ROW 21)).drew.setCells w.heap.size i [Value.int .i32 x]).drew).setCells w.heap.size (i + 1) ((L.map (Value.int .i32)).drop i)).heap.size := by
      rw [b5]
      show w.heap.size < ((w.alloc (.cells ROW 21)).drew.setCells w.heap.size i [Value.int .i32 x]).heap.size
      rw [a5]
      show w.heap.size < (w.alloc (.cells ROW 21)).heap.size
      omega
    generalize ((((w.alloc (.cells ROW 21)).drew.setCells w.heap.size i [Value.int .i32 x]).drew).setCells w.heap.size (i + 1) ((L.map (Value.int .i32)).drop i)) = w' at *
    have hown' : w'.ownsRow 0 21 1 (slv (some ⟨w.heap.size, 0, GG⟩) (L.length + 1)) (L.length + 1) ((insL L i x).map (Value.int .i32)) := by
      refine ⟨by simp [hil], .inr ⟨w.heap.size, GG, c2, rfl, Nat.zero_le _, b1, hG1, hG2, by omega, ?_⟩⟩
      apply List.ext_getElem?
      intro j
      by_cases hj : j < L.length + 1
      · rw [List.getElem?_take_of_lt (by omega), Array.getElem?_toList, b3 j (by omega), ins_get L i x (by omega) j hj]
        by_cases h1 : j < i
        · rw [if_neg (by omega), if_pos h1, a3 j (by omega), if_neg (by omega)]
          exact hROWlt j h1
        · rw [if_neg h1]
          by_cases h2 : j = i
          · subst h2; rw [if_neg (by omega), if_pos rfl, a3 j (by omega), if_pos (by simp)]; simp
          · rw [if_neg h2, if_pos (by omega), List.getElem?_drop, show i + (j - (i + 1)) = j - 1 by omega]
      · rw [List.getElem?_eq_none (by simp; omega), List.getElem?_eq_none (by simp [hil]; omega)]
    have hgl : 0 < (g ++ [none]).length := by simp
    have hren := hR.renew hg (o := .arr 21 1 ((insL L i x).map I32)) (g' := some ⟨w.heap.size, 0, GG⟩) hgrow ⟨L.length + 1, _, hown', zku _, hone', by omega, fun L' hL' => by simp at hL'; subst hL'; rfl⟩
      (fun L' hL' => by simp at hL'; subst hL'; exact ⟨Nat.le_refl _, hsz2'⟩) rfl (by intro q; cases q)
    refine ⟨_, _, _, rfl, hren, ?_⟩
    have hnw : ((g ++ [none]).set 0 (some ⟨w.heap.size, 0, GG⟩))[0]? = some (some ⟨w.heap.size, 0, GG⟩) := by simp
    exact Rep.ref (w := w') (F := F) (off := 0) (len := L.length + 1) (cap := GG) hnw (fun _ => rfl) hG1
set_option maxRecDepth 20000 in
theorem zvr (L : List Int) (x : Int) (hL : L.length ≤ 1000000000) :
    z5j Tryz.prog 88 [.arr 21 1 (L.map I32), .arr 21 1 [I32 x]] [.ref 0 0 L.length, I64 L.length, .ref 1 0 1] [.arr 21 1 ((insL L L.length x).map I32), .arr 21 1 [I32 x], .fence] (.ref 0 0 (L.length + 1)) := by
  have e : insL L L.length x = L ++ [x] := by simp [insL]
  rw [e]
  refine z3p (ts := [.tmp 6]) ok1 Tryz.func88 rfl rfl (by decide +kernel) (by simp [Tryz.ntmps88]) rfl ?_
  repeat' first | simp (maxSteps := 4000000) (disch := omega) only [bunL, bunD, bun, ↓z04, ↓z01, z02, findLabel, ↓reduceIte, imp, shift, z0b, z0a, unown, names, z07, below, noF, isF, z03, z09, z08, ren, givL, updM, z0c, renO, belowM, seval, -Int.reduceToNat, List.map_append, B3, B4, B21, B41, bunN] | refine DR_q _ ?_ | (refine Fk.fk ?_ ?_ <;> intro hg <;> (try simp only [hg]) <;> (try simp only [bunB] at hg) <;> try (exfalso; first | omega | exact Bool.noConfusion hg | exact hg trivial)) | refine And.intro (by omega) ?_ | omega
  all_goals simp
theorem zej (L : List Int) (i : Nat) (x : Int) (hi : i ≤ L.length) (hL : L.length ≤ 1000000000) :
    z5j Tryz.prog 88 [.arr 21 1 (L.map I32), .arr 21 1 [I32 x]] [.ref 0 0 L.length, I64 i, .ref 1 0 1] [.arr 21 1 ((insL L i x).map I32), .arr 21 1 [I32 x], .fence] (.ref 0 0 (L.length + 1)) := by
  rcases Nat.lt_or_ge i L.length with h | h
  · exact zvs L i x h hL
  · have e : i = L.length := by omega
    subst e
    exact zvr L x hL
end Go.AE
end
section
namespace Go.AE
open Go.Proofs
set_option maxRecDepth 20000
set_option maxHeartbeats 4000000
set_option linter.unusedSimpArgs false
end Go.AE
end
section
namespace Go.AE
open Go.Proofs
set_option maxRecDepth 20000
set_option maxHeartbeats 4000000
set_option linter.unusedSimpArgs false
def rdR : Option (Int × List UInt8) → AV
  | none => .tup [I64 (-1), Sv []]
  | some (d, r) => .tup [I64 d, Sv r]
theorem z3x (s : List UInt8) (b : Int) (hs : s.length ≤ 100000) (h2 : -1000000 ≤ b) (h3 : b ≤ 1000000) : Spec Tryz.prog 87 [Sv s, I64 b] (rdR (rd s b)) := by
  refine z0g (z := false) (ts := [.tmp 4, .tmp 5]) ok1 Tryz.func87 rfl rfl (by decide +kernel) (by simp [Tryz.ntmps87]) rfl ?_
  repeat' first | simp (maxSteps := 4000000) (disch := omega) only [bunL, bunD, bun, ↓z04, ↓z01, z02, findLabel, ↓reduceIte, imp, shift, z0b, z0a, unown, names, z07, below, noF, isF, z03, z09, z08, ren, givL, updM, z0c, renO, belowM, seval, -Int.reduceToNat, B3, B4, B5, B9, bunN, z0o] | refine DR_q _ ?_ | (refine Fk.fk ?_ ?_ <;> intro hg <;> (try simp only [hg]) <;> (try simp only [bunB] at hg) <;> try (exfalso; first | omega | exact Bool.noConfusion hg | exact hg trivial)) | refine And.intro (by omega) ?_ | omega
  refine z0m (fun x : Nat × Int × Int => ⟨[(0, Sv s), (1, I64 b), (6, I64 x.2.1), (7, I64 x.2.2), (13, I64 s.length), (14, I64 x.1)], []⟩)
    (fun x => x.1 ≤ s.length ∧ 0 ≤ x.2.1 ∧ x.2.1 ≤ 2147483647 ∧ 1 ≤ x.2.2 ∧ x.2.2 ≤ 75161927645 ∧ rd s b = rdN b (s.drop x.1) (36 * (x.1 + 1)) x.2.1 x.2.2) (fun x => s.length - x.1) (0, 0, 1) ⟨by dsimp only; omega, by dsimp only; omega, by dsimp only; omega, by dsimp only; omega, by dsimp only; omega, rfl⟩ (by simp [wk, wkT, wkM, noF, isF, get, z0h, belowM, below, belows, I64, I32, Bv, U8, Sv] <;> try omega) ?_
  rintro ⟨k, n, w⟩ ⟨hk, hn0, hn1, hw0, hw1, hv⟩
  dsimp only at hk hn0 hn1 hw0 hw1 hv
  have ht := thr_ok (36 * (k + 1)) b
  by_cases hlt : k < s.length
  · have hs0 : 0 < (s.drop k).length := by simp; omega
    have hg0 : (s.drop k).getD 0 0 = s.getD k 0 := by simp [List.getD]
    have hc := zbd (s.getD k 0)
    have hvl := vl_ok (s.getD k 0).toNat
    have hp0 : 0 ≤ vl (s.getD k 0).toNat * w := Int.mul_nonneg hvl.1 (by omega)
    have hp1 : w ≤ 2147483647 → vl (s.getD k 0).toNat * w ≤ 75161927645 := fun h => by
      have := Int.mul_le_mul hvl.2 h (by omega) (by omega)
      omega
    have hq1 : 1 ≤ w * (36 - thr (36 * (k + 1)) b) := by
      have := Int.mul_le_mul (a := 1) (b := 1) (c := w) (d := 36 - thr (36 * (k + 1)) b) hw0 (by omega) (by omega) (by omega)
      omega
    have hq2 : w ≤ 2147483647 → w * (36 - thr (36 * (k + 1)) b) ≤ 75161927645 := fun h => by
      have := Int.mul_le_mul h (show 36 - thr (36 * (k + 1)) b ≤ 35 by omega) (by omega) (by omega)
      omega
    have e1 := rdN_last (b := b) (k := 36 * (k + 1)) (n := n) (w := w) hs0
    have e2 := rdN_more (b := b) (k := 36 * (k + 1)) (n := n) (w := w) hs0
    have e3 := rdN_bad (b := b) (k := 36 * (k + 1)) (n := n) (w := w) hs0
    rw [hg0] at e1 e2 e3
    rw [List.drop_drop] at e1 e2
    generalize htt : thr (36 * (k + 1)) b = t at *
    generalize hvv : vl (s.getD k 0).toNat = v at *
    generalize hpp : v * w = p at *
    generalize hqq : w * (36 - t) = q at *
    cases hok : vlOk (s.getD k 0).toNat with
    | false =>
      have e := e3 (by rw [hok]; simp)
      repeat' first | refine z06 (z73 _ (by omega) (by omega)) ?_ ?_ | refine z06 (z7k _ _ (by omega) (by omega) (by omega) (by omega)) ?_ ?_ | simp (maxSteps := 4000000) (disch := omega) only [bunL, bunD, bun, ↓z04, ↓z01, z02, findLabel, ↓reduceIte, imp, shift, z0b, z0a, unown, names, z07, below, noF, isF, z03, z09, z08, ren, givL, updM, z0c, renO, belowM, seval, -Int.reduceToNat, hok, hvv, hpp, B3, B4, B5, B9, bunN, z0o] | exact z0f _ | refine z0e _ _ ?_ | exact Cln.cl | refine z05 _ ?_ | refine z00 _ _ ?_ ?_ | refine DR_q _ ?_ | (refine Fk.fk ?_ ?_ <;> intro hg <;> (try simp only [hg]) <;> (try simp only [bunB] at hg) <;> try (exfalso; first | omega | exact Bool.noConfusion hg | exact hg trivial)) | refine And.intro (by omega) ?_ | omega
      rw [hv, e]; rfl
    | true =>
      rw [hok] at e1 e2 e3
      by_cases hw : w ≤ 2147483647
      · have hp1 := hp1 hw
        have hq2 := hq2 hw
        by_cases hn : n + p ≤ 2147483647
        · by_cases hd : v < t
          · have e := e1 ⟨rfl, hw, hn⟩ hd
            repeat' first | refine z06 (z73 _ (by omega) (by omega)) ?_ ?_ | refine z06 (z7k _ _ (by omega) (by omega) (by omega) (by omega)) ?_ ?_ | simp (maxSteps := 4000000) (disch := omega) only [bunL, bunD, bun, ↓z04, ↓z01, z02, findLabel, ↓reduceIte, imp, shift, z0b, z0a, unown, names, z07, below, noF, isF, z03, z09, z08, ren, givL, updM, z0c, renO, belowM, seval, -Int.reduceToNat, hok, hvv, hpp, htt, B3, B4, B5, B9, bunN, z0o] | exact z0f _ | refine z0e _ _ ?_ | exact Cln.cl | refine z05 _ ?_ | refine z00 _ _ ?_ ?_ | refine DR_q _ ?_ | (refine Fk.fk ?_ ?_ <;> intro hg <;> (try simp only [hg]) <;> (try simp only [bunB] at hg) <;> try (exfalso; first | omega | exact Bool.noConfusion hg | exact hg trivial)) | refine And.intro (by omega) ?_ | omega
            rw [hv, e]
            have e5 : ((k : Int) + 1).toNat = k + 1 := by omega
            rw [e5]; rfl
          · have e := e2 ⟨rfl, hw, hn⟩ hd
            repeat' first | refine z06 (z73 _ (by omega) (by omega)) ?_ ?_ | refine z06 (z7k _ _ (by omega) (by omega) (by omega) (by omega)) ?_ ?_ | simp (maxSteps := 4000000) (disch := omega) only [bunL, bunD, bun, ↓z04, ↓z01, z02, findLabel, ↓reduceIte, imp, shift, z0b, z0a, unown, names, z07, below, noF, isF, z03, z09, z08, ren, givL, updM, z0c, renO, belowM, seval, -Int.reduceToNat, hok, hvv, hpp, htt, hqq, B3, B4, B5, B9, bunN, z0o] | exact z0f _ | refine z0e _ _ ?_ | exact Cln.cl | refine z05 _ ?_ | refine z00 _ _ ?_ ?_ | refine DR_q _ ?_ | (refine Fk.fk ?_ ?_ <;> intro hg <;> (try simp only [hg]) <;> (try simp only [bunB] at hg) <;> try (exfalso; first | omega | exact Bool.noConfusion hg | exact hg trivial)) | refine And.intro (by omega) ?_ | omega
            refine ⟨(k + 1, n + p, q), ⟨by dsimp only; omega, by dsimp only; omega, by dsimp only; omega, by dsimp only; omega, by dsimp only; omega, ?_⟩, by dsimp only; omega, (by simp [wk, wkT, wkM, noF, isF, get, z0h, belowM, below, belows, I64, I32, Bv, U8, Sv] <;> try omega)⟩
            rw [hv, e]
            congr 1 <;> omega
        · have e := e3 (by intro h; omega)
          repeat' first | refine z06 (z73 _ (by omega) (by omega)) ?_ ?_ | refine z06 (z7k _ _ (by omega) (by omega) (by omega) (by omega)) ?_ ?_ | simp (maxSteps := 4000000) (disch := omega) only [bunL, bunD, bun, ↓z04, ↓z01, z02, findLabel, ↓reduceIte, imp, shift, z0b, z0a, unown, names, z07, below, noF, isF, z03, z09, z08, ren, givL, updM, z0c, renO, belowM, seval, -Int.reduceToNat, hok, hvv, hpp, B3, B4, B5, B9, bunN, z0o] | exact z0f _ | refine z0e _ _ ?_ | exact Cln.cl | refine z05 _ ?_ | refine z00 _ _ ?_ ?_ | refine DR_q _ ?_ | (refine Fk.fk ?_ ?_ <;> intro hg <;> (try simp only [hg]) <;> (try simp only [bunB] at hg) <;> try (exfalso; first | omega | exact Bool.noConfusion hg | exact hg trivial)) | refine And.intro (by omega) ?_ | omega
          rw [hv, e]; rfl
      · have e := e3 (by intro h; omega)
        repeat' first | refine z06 (z73 _ (by omega) (by omega)) ?_ ?_ | refine z06 (z7k _ _ (by omega) (by omega) (by omega) (by omega)) ?_ ?_ | simp (maxSteps := 4000000) (disch := omega) only [bunL, bunD, bun, ↓z04, ↓z01, z02, findLabel, ↓reduceIte, imp, shift, z0b, z0a, unown, names, z07, below, noF, isF, z03, z09, z08, ren, givL, updM, z0c, renO, belowM, seval, -Int.reduceToNat, hok, hvv, hpp, B3, B4, B5, B9, bunN, z0o] | exact z0f _ | refine z0e _ _ ?_ | exact Cln.cl | refine z05 _ ?_ | refine z00 _ _ ?_ ?_ | refine DR_q _ ?_ | (refine Fk.fk ?_ ?_ <;> intro hg <;> (try simp only [hg]) <;> (try simp only [bunB] at hg) <;> try (exfalso; first | omega | exact Bool.noConfusion hg | exact hg trivial)) | refine And.intro (by omega) ?_ | omega
        rw [hv, e]; rfl
  · have e : k = s.length := by omega
    subst e
    rw [List.drop_length] at hv
    repeat' first | simp (maxSteps := 4000000) (disch := omega) only [bunL, bunD, bun, ↓z04, ↓z01, z02, findLabel, ↓reduceIte, imp, shift, z0b, z0a, unown, names, z07, below, noF, isF, z03, z09, z08, ren, givL, updM, z0c, renO, belowM, seval, -Int.reduceToNat, B3, B4, B5, B9, bunN, z0o] | refine DR_q _ ?_ | (refine Fk.fk ?_ ?_ <;> intro hg <;> (try simp only [hg]) <;> (try simp only [bunB] at hg) <;> try (exfalso; first | omega | exact Bool.noConfusion hg | exact hg trivial)) | refine And.intro (by omega) ?_ | omega
    rw [hv]; rfl
end Go.AE
end
section
namespace Go.AE
open Go.Proofs
set_option maxRecDepth 20000
set_option maxHeartbeats 4000000
set_option linter.unusedSimpArgs false
theorem zvy (s : List UInt8) (hs : s.length ≤ 100000) : Spec Tryz.prog 103 [Sv s, .v (.int .u8 45)] (I64 (z6v s)) := by
  refine z0g (z := false) (ts := [.tmp 4]) ok1 Tryz.func103 rfl rfl (by decide +kernel) (by simp [Tryz.ntmps103]) rfl ?_
  repeat' first | simp (maxSteps := 4000000) (disch := omega) only [bunL, bunD, bun, ↓z04, ↓z01, z02, findLabel, ↓reduceIte, imp, shift, z0b, z0a, unown, names, z07, below, noF, isF, z03, z09, z08, ren, givL, updM, z0c, renO, belowM, seval, -Int.reduceToNat, B3, B4, B5, B9, bunN, z0o] | refine DR_q _ ?_ | (refine Fk.fk ?_ ?_ <;> intro hg <;> (try simp only [hg]) <;> (try simp only [bunB] at hg) <;> try (exfalso; first | omega | exact Bool.noConfusion hg | exact hg trivial)) | refine And.intro (by omega) ?_ | omega
  refine z0m (fun k : Nat => ⟨[(0, Sv s), (1, .v (.int .u8 45)), (5, I64 (k - 1))], []⟩) (fun k => k ≤ s.length ∧ z6v s = ldK s k) (fun k => k) s.length ⟨Nat.le_refl _, rfl⟩ (by simp [wk, wkT, wkM, noF, isF, get, z0h, belowM, below, belows, I64, I32, Bv, U8, Sv] <;> try omega) ?_
  rintro k ⟨hk, hv⟩
  cases k with
  | zero =>
    repeat' first | simp (maxSteps := 4000000) (disch := omega) only [bunL, bunD, bun, ↓z04, ↓z01, z02, findLabel, ↓reduceIte, imp, shift, z0b, z0a, unown, names, z07, below, noF, isF, z03, z09, z08, ren, givL, updM, z0c, renO, belowM, seval, -Int.reduceToNat, B3, B4, B5, B9, bunN, z0o] | refine DR_q _ ?_ | (refine Fk.fk ?_ ?_ <;> intro hg <;> (try simp only [hg]) <;> (try simp only [bunB] at hg) <;> try (exfalso; first | omega | exact Bool.noConfusion hg | exact hg trivial)) | refine And.intro (by omega) ?_ | omega
    rw [hv]; rfl
  | succ k =>
    rw [ldK] at hv
    have e1 : (((k + 1 : Nat) : Int) - 1) = k := by omega
    have h45 : (45 : UInt8).toNat = 45 := rfl
    by_cases hd : s.getD k 0 = 45
    · rw [if_pos hd] at hv
      have e2 : ((s.getD k 0).toNat : Int) = 45 := by rw [hd]; rfl
      repeat' first | simp (maxSteps := 4000000) (disch := omega) only [bunL, bunD, bun, ↓z04, ↓z01, z02, findLabel, ↓reduceIte, imp, shift, z0b, z0a, unown, names, z07, below, noF, isF, z03, z09, z08, ren, givL, updM, z0c, renO, belowM, seval, -Int.reduceToNat, e1, e2, B3, B4, B5, B9, bunN, z0o] | refine DR_q _ ?_ | (refine Fk.fk ?_ ?_ <;> intro hg <;> (try simp only [hg]) <;> (try simp only [bunB] at hg) <;> try (exfalso; first | omega | exact Bool.noConfusion hg | exact hg trivial)) | refine And.intro (by omega) ?_ | omega
      rw [hv]
    · rw [if_neg hd] at hv
      have e2 : ((s.getD k 0).toNat : Int) ≠ 45 := fun h => hd (UInt8.toNat.inj (by omega))
      repeat' first | simp (maxSteps := 4000000) (disch := omega) only [bunL, bunD, bun, ↓z04, ↓z01, z02, findLabel, ↓reduceIte, imp, shift, z0b, z0a, unown, names, z07, below, noF, isF, z03, z09, z08, ren, givL, updM, z0c, renO, belowM, seval, -Int.reduceToNat, e1, B3, B4, B5, B9, bunN, z0o] | refine DR_q _ ?_ | (refine Fk.fk ?_ ?_ <;> intro hg <;> (try simp only [hg]) <;> (try simp only [bunB] at hg) <;> try (exfalso; first | omega | exact Bool.noConfusion hg | exact hg trivial)) | refine And.intro (by omega) ?_ | omega
      exact ⟨k, ⟨by omega, hv⟩, by omega, (by simp [wk, wkT, wkM, noF, isF, get, z0h, belowM, below, belows, I64, I32, Bv, U8, Sv] <;> try omega)⟩
theorem zia (s : List UInt8) (hs : s.length ≤ 100000) : Spec Tryz.prog 86 [Sv s, .v (.int .u8 45)] (I64 (z6v s)) := by
  refine z0g (z := false) (ts := [.tmp 4]) ok1 Tryz.func86 rfl rfl (by decide +kernel) (by simp [Tryz.ntmps86]) rfl ?_
  repeat' first | refine z06 (zvy s hs) ?_ ?_ | simp (maxSteps := 4000000) (disch := omega) only [bunL, bunD, bun, ↓z04, ↓z01, z02, findLabel, ↓reduceIte, imp, shift, z0b, z0a, unown, names, z07, below, noF, isF, z03, z09, z08, ren, givL, updM, z0c, renO, belowM, seval, -Int.reduceToNat, B3, B5, B9, bunN, z0o] | exact z0f _ | refine z0e _ _ ?_ | exact Cln.cl | refine z05 _ ?_ | refine z00 _ _ ?_ ?_ | refine DR_q _ ?_ | (refine Fk.fk ?_ ?_ <;> intro hg <;> (try simp only [hg]) <;> (try simp only [bunB] at hg) <;> try (exfalso; first | omega | exact Bool.noConfusion hg | exact hg trivial)) | refine And.intro (by omega) ?_ | omega
theorem insA_eq (L : List Int) (i : Nat) (x : Int) : insL L i x = insA L i x := rfl
theorem ztc (L : List Int) (i : Nat) (x : Int) (hi : i ≤ L.length) : (insA L i x).length = L.length + 1 := by simp [insA]; omega
def decR : Option (List Int) → AV
  | none => .tup [.own 21 1 0 [], Bv false]
  | some L => .tup [.own 21 1 L.length (L.map I32), Bv true]
theorem zou (s : List UInt8) (hs : s.length ≤ 100000) : Spec Tryz.prog 63 [Sv s] (decR (zd4 s)) := by
  refine z0g (z := false) (ts := [.tmp 2, .tmp 3]) ok1 Tryz.func63 rfl rfl (by decide +kernel) (by simp [Tryz.ntmps63]) rfl ?_
  have hl := zti s s.length
  have hl' : z6v s = ldK s s.length := rfl
  by_cases h8 : 0 ≤ eight s
  · have e : zd4 s = none := by unfold zd4; rw [if_pos h8]
    rw [e]
    repeat' first | refine z06 (z1o s (by omega)) ?_ ?_ | simp (maxSteps := 4000000) (disch := omega) only [bunL, bunD, bun, ↓z04, ↓z01, z02, findLabel, ↓reduceIte, imp, shift, z0b, z0a, unown, names, z07, below, noF, isF, z03, z09, z08, ren, givL, updM, z0c, renO, belowM, seval, -Int.reduceToNat, B3, B4, B5, B9, B21, B41, bunN, z0o] | exact z0f _ | refine z0e _ _ ?_ | exact Cln.cl | refine z05 _ ?_ | refine z00 _ _ ?_ ?_ | refine DR_q _ ?_ | (refine Fk.fk ?_ ?_ <;> intro hg <;> (try simp only [hg]) <;> (try simp only [bunB] at hg) <;> try (exfalso; first | omega | exact Bool.noConfusion hg | exact hg trivial)) | refine And.intro (by omega) ?_ | omega
    rfl
  · have e : zd4 s = dcF (s.length + 1) (dc0 s) := by unfold zd4; rw [if_neg h8]
    rw [e]
    by_cases h0 : 0 < z6v s
    · have hd0 : dc0 s = ⟨s.drop ((z6v s).toNat + 1), 128, 0, 72, true, (s.take (z6v s).toNat).map fun c => (c.toNat : Int)⟩ := by unfold dc0; rw [if_pos h0]
      have hru := zq5 (s.take (z6v s).toNat) (fun c hc => zhq h8 c (List.mem_of_mem_take hc))
      have hn1 : ((z6v s) + 1).toNat = (z6v s).toNat + 1 := by omega
      repeat' first | refine z06 (z1o s (by omega)) ?_ ?_ | refine z06 (zia s (by omega)) ?_ ?_ | refine DR_p (.take 0 (.take 1 (.take 2 (.take 4 (.take 5 (.take 6 (.take 7 (.one 3 (.take 8 (.take 9 (.done))))))))))) _ (by decide +kernel) ?_ | simp (maxSteps := 4000000) (disch := omega) only [bunL, bunD, bun, ↓z04, ↓z01, z02, findLabel, ↓reduceIte, imp, shift, z0b, z0a, unown, names, z07, below, noF, isF, z03, z09, z08, ren, givL, updM, z0c, renO, belowM, seval, -Int.reduceToNat, hru, hn1, B3, B4, B5, B9, B21, B41, bunN, z0o] | exact z0f _ | refine z0e _ _ ?_ | exact Cln.cl | refine z05 _ ?_ | refine z00 _ _ ?_ ?_ | refine DR_q _ ?_ | (refine Fk.fk ?_ ?_ <;> intro hg <;> (try simp only [hg]) <;> (try simp only [bunB] at hg) <;> try (exfalso; first | omega | exact Bool.noConfusion hg | exact hg trivial)) | refine And.intro (by omega) ?_ | omega
      refine ⟨by simp; omega, ?_⟩
      refine z0m (fun x : Nat × DcS => ⟨[(0, Sv x.2.s), (4, .ref 2 0 x.2.out.length), (6, I64 x.2.n), (7, I64 x.2.i), (8, I64 x.2.bias), (9, Bv x.2.first)], [.dead, .dead, .arr 21 1 (x.2.out.map I32)]⟩)
        (fun x => DcI s x.1 x.2 ∧ dcF x.1 x.2 = dcF (s.length + 1) (dc0 s)) (fun x => x.2.s.length) (s.length + 1, dc0 s) ⟨dc0_ok s, rfl⟩ ?_ ?_
      · rw [hd0]
        (simp [wk, wkT, wkM, noF, isF, get, z0h, belowM, below, belows, I64, I32, Bv, U8, Sv]; rfl)
      · rintro ⟨f, ⟨s1, n, i, bias, first, out⟩⟩ ⟨hI, hv⟩
        have hfuel := hI.fuel
        have hn0 := hI.n0
        have hn1 := hI.n1
        have hi0 := hI.i0
        have hi1 := hI.i1
        have hb0 := hI.b0
        have hb1 := hI.b1
        have hlen := hI.len
        dsimp only at hfuel hn0 hn1 hi0 hi1 hb0 hb1 hlen hv
        obtain ⟨f, rfl⟩ : ∃ g, f = g + 1 := ⟨f - 1, by omega⟩
        by_cases hs1 : s1 = []
        · subst hs1
          have e : dcF (f + 1) ⟨[], n, i, bias, first, out⟩ = some out := rfl
          rw [← hv, e]
          repeat' first | simp (maxSteps := 4000000) (disch := omega) only [bunL, bunD, bun, ↓z04, ↓z01, z02, findLabel, ↓reduceIte, imp, shift, z0b, z0a, unown, names, z07, below, noF, isF, z03, z09, z08, ren, givL, updM, z0c, renO, belowM, seval, -Int.reduceToNat, B3, B4, B5, B9, B21, B41, bunN, z0o] | refine DR_q _ ?_ | (refine Fk.fk ?_ ?_ <;> intro hg <;> (try simp only [hg]) <;> (try simp only [bunB] at hg) <;> try (exfalso; first | omega | exact Bool.noConfusion hg | exact hg trivial)) | refine And.intro (by omega) ?_ | omega
          rfl
        · have hs1b : (s1 == []) = false := by simpa using hs1
          rw [zd9 hs1] at hv
          cases hrd : rd s1 bias with
          | none =>
            rw [hrd] at hv
            rw [← hv]
            repeat' first | refine z06 (z3x s1 bias (by omega) (by omega) (by omega)) ?_ ?_ | simp (maxSteps := 4000000) (disch := omega) only [bunL, bunD, bun, ↓z04, ↓z01, z02, findLabel, ↓reduceIte, imp, shift, z0b, z0a, unown, names, z07, below, noF, isF, z03, z09, z08, ren, givL, updM, z0c, renO, belowM, seval, -Int.reduceToNat, hs1b, hrd, rdR, B3, B4, B5, B9, B21, B41, bunN, z0o] | exact z0f _ | refine z0e _ _ ?_ | exact Cln.cl | refine z05 _ ?_ | refine z00 _ _ ?_ ?_ | refine DR_q _ ?_ | (refine Fk.fk ?_ ?_ <;> intro hg <;> (try simp only [hg]) <;> (try simp only [bunB] at hg) <;> try (exfalso; first | omega | exact Bool.noConfusion hg | exact hg trivial)) | refine And.intro (by omega) ?_ | omega
            all_goals first | rfl | (exact absurd (by assumption) hs1)
          | some p =>
            obtain ⟨d, r⟩ := p
            obtain ⟨hd1, hd2, _⟩ := zfg hrd
            have hrl := rd_len hrd
            rw [hrd] at hv
            dsimp only at hv
            have hqm := z53 (x := i + d) (c := out.length + 1) (by omega) (by omega)
            have hm0 := Int.emod_nonneg (i + d) (b := (out.length : Int) + 1) (by omega)
            have hm1 := Int.emod_lt_of_pos (i + d) (b := (out.length : Int) + 1) (by omega)
            obtain ⟨mi, hmi⟩ : ∃ mi : Nat, (i + d) % ((out.length : Int) + 1) = mi := ⟨((i + d) % ((out.length : Int) + 1)).toNat, by omega⟩
            rw [hmi] at hv hm0 hm1
            generalize hqq : (i + d) / ((out.length : Int) + 1) = q at *
            by_cases hl1 : 2147483647 < i + d
            · rw [if_pos hl1] at hv
              rw [← hv]
              repeat' first | refine z06 (z3x s1 bias (by omega) (by omega) (by omega)) ?_ ?_ | simp (maxSteps := 4000000) (disch := omega) only [bunL, bunD, bun, ↓z04, ↓z01, z02, findLabel, ↓reduceIte, imp, shift, z0b, z0a, unown, names, z07, below, noF, isF, z03, z09, z08, ren, givL, updM, z0c, renO, belowM, seval, -Int.reduceToNat, hs1b, hrd, rdR, B3, B4, B5, B9, B21, B41, bunN, z0o] | exact z0f _ | refine z0e _ _ ?_ | exact Cln.cl | refine z05 _ ?_ | refine z00 _ _ ?_ ?_ | refine DR_q _ ?_ | (refine Fk.fk ?_ ?_ <;> intro hg <;> (try simp only [hg]) <;> (try simp only [bunB] at hg) <;> try (exfalso; first | omega | exact Bool.noConfusion hg | exact hg trivial)) | refine And.intro (by omega) ?_ | omega
              all_goals first | rfl | (exact absurd (by assumption) hs1)
            · rw [if_neg hl1] at hv
              by_cases hl2 : 1114111 < n + q
              · rw [if_pos (.inl hl2)] at hv
                rw [← hv]
                repeat' first | refine z06 (z3x s1 bias (by omega) (by omega) (by omega)) ?_ ?_ | refine z06 (z4o _ _ _ (by omega) (by omega) (by omega) (by omega)) ?_ ?_ | simp (maxSteps := 4000000) (disch := omega) only [bunL, bunD, bun, ↓z04, ↓z01, z02, findLabel, ↓reduceIte, imp, shift, z0b, z0a, unown, names, z07, below, noF, isF, z03, z09, z08, ren, givL, updM, z0c, renO, belowM, seval, -Int.reduceToNat, hs1b, hrd, rdR, hqq, B3, B4, B5, B9, B21, B41, bunN, z0o] | exact z0f _ | refine z0e _ _ ?_ | exact Cln.cl | refine z05 _ ?_ | refine z00 _ _ ?_ ?_ | refine DR_q _ ?_ | (refine Fk.fk ?_ ?_ <;> intro hg <;> (try simp only [hg]) <;> (try simp only [bunB] at hg) <;> try (exfalso; first | omega | exact Bool.noConfusion hg | exact hg trivial)) | refine And.intro (by omega) ?_ | omega
                all_goals first | rfl | (exact absurd (by assumption) hs1)
              · cases hrt : right (n + q) with
                | false =>
                  rw [if_pos (.inr hrt)] at hv
                  rw [← hv]
                  repeat' first | refine z06 (z3x s1 bias (by omega) (by omega) (by omega)) ?_ ?_ | refine z06 (z4o _ _ _ (by omega) (by omega) (by omega) (by omega)) ?_ ?_ | refine z06 (z4t _) ?_ ?_ | simp (maxSteps := 4000000) (disch := omega) only [bunL, bunD, bun, ↓z04, ↓z01, z02, findLabel, ↓reduceIte, imp, shift, z0b, z0a, unown, names, z07, below, noF, isF, z03, z09, z08, ren, givL, updM, z0c, renO, belowM, seval, -Int.reduceToNat, hs1b, hrd, rdR, hqq, hrt, B3, B4, B5, B9, B21, B41, bunN, z0o] | exact z0f _ | refine z0e _ _ ?_ | exact Cln.cl | refine z05 _ ?_ | refine z00 _ _ ?_ ?_ | refine DR_q _ ?_ | (refine Fk.fk ?_ ?_ <;> intro hg <;> (try simp only [hg]) <;> (try simp only [bunB] at hg) <;> try (exfalso; first | omega | exact Bool.noConfusion hg | exact hg trivial)) | refine And.intro (by omega) ?_ | omega
                  all_goals first | rfl | (exact absurd (by assumption) hs1)
                | true =>
                  rw [if_neg (fun h => h.elim (fun h => by omega) (fun h => by rw [hrt] at h; cases h))] at hv
                  have ha := zd7 (d := d) (c := (out.length : Int) + 1) (first := first) hd1 (by omega)
                  have hil := ztc out mi (n + q) (by omega)
                  rw [Int.toNat_natCast] at hv
                  repeat' first | refine z06 (z3x s1 bias (by omega) (by omega) (by omega)) ?_ ?_ | refine z06 (z4o _ _ _ (by omega) (by omega) (by omega) (by omega)) ?_ ?_ | refine z06 (z4t _) ?_ ?_ | refine z17 [2, 3] (zej out mi (n + q) (by omega) (by omega)) ?_ | simp (maxSteps := 4000000) (disch := omega) only [bunL, bunD, bun, ↓z04, ↓z01, z02, findLabel, ↓reduceIte, imp, shift, z0b, z0a, unown, names, z07, below, noF, isF, z03, z09, z08, ren, givL, updM, z0c, renO, belowM, seval, -Int.reduceToNat, hs1b, hrd, rdR, hqq, hrt, hmi, B3, B4, B5, B9, B21, B41, bunN, z0o] | exact z0f _ | refine z0e _ _ ?_ | exact Cln.cl | refine z05 _ ?_ | refine z00 _ _ ?_ ?_ | refine DR_q _ ?_ | (refine Fk.fk ?_ ?_ <;> intro hg <;> (try simp only [hg]) <;> (try simp only [bunB] at hg) <;> try (exfalso; first | omega | exact Bool.noConfusion hg | exact hg trivial)) | refine And.intro (by omega) ?_ | omega
                  refine ⟨(f, ⟨r, n + q, mi + 1, adapt d (out.length + 1) first, false, insA out mi (n + q)⟩), ⟨⟨?_, ?_, ?_, ?_, ?_, ?_, ?_, ?_⟩, hv⟩, ?_, ?_⟩
                  all_goals first | (dsimp only; omega) | skip
                  (simp (disch := omega) [wk, wkT, wkM, noF, isF, get, z0h, belowM, below, belows, I64, I32, Bv, U8, Sv, insA_eq, hil] <;> try omega)
    · have hd0 : dc0 s = ⟨s, 128, 0, 72, true, []⟩ := by unfold dc0; rw [if_neg h0]
      repeat' first | refine z06 (z1o s (by omega)) ?_ ?_ | refine z06 (zia s (by omega)) ?_ ?_ | refine DR_p (.take 0 (.take 1 (.take 2 (.take 4 (.take 5 (.take 6 (.take 7 (.one 3 (.take 8 (.take 9 (.done))))))))))) _ (by decide +kernel) ?_ | simp (maxSteps := 4000000) (disch := omega) only [bunL, bunD, bun, ↓z04, ↓z01, z02, findLabel, ↓reduceIte, imp, shift, z0b, z0a, unown, names, z07, below, noF, isF, z03, z09, z08, ren, givL, updM, z0c, renO, belowM, seval, -Int.reduceToNat, B3, B4, B5, B9, B21, B41, bunN, z0o] | exact z0f _ | refine z0e _ _ ?_ | exact Cln.cl | refine z05 _ ?_ | refine z00 _ _ ?_ ?_ | refine DR_q _ ?_ | (refine Fk.fk ?_ ?_ <;> intro hg <;> (try simp only [hg]) <;> (try simp only [bunB] at hg) <;> try (exfalso; first | omega | exact Bool.noConfusion hg | exact hg trivial)) | refine And.intro (by omega) ?_ | omega
      refine z0m (fun x : Nat × DcS => ⟨[(0, Sv x.2.s), (4, .ref 1 0 x.2.out.length), (6, I64 x.2.n), (7, I64 x.2.i), (8, I64 x.2.bias), (9, Bv x.2.first)], [.dead, .arr 21 1 (x.2.out.map I32)]⟩)
        (fun x => DcI s x.1 x.2 ∧ dcF x.1 x.2 = dcF (s.length + 1) (dc0 s)) (fun x => x.2.s.length) (s.length + 1, dc0 s) ⟨dc0_ok s, rfl⟩ ?_ ?_
      · rw [hd0]
        (simp (disch := omega) [wk, wkT, wkM, noF, isF, get, z0h, belowM, below, belows, I64, I32, Bv, U8, Sv, hd0] <;> try omega)
      · rintro ⟨f, ⟨s1, n, i, bias, first, out⟩⟩ ⟨hI, hv⟩
        have hfuel := hI.fuel
        have hn0 := hI.n0
        have hn1 := hI.n1
        have hi0 := hI.i0
        have hi1 := hI.i1
        have hb0 := hI.b0
        have hb1 := hI.b1
        have hlen := hI.len
        dsimp only at hfuel hn0 hn1 hi0 hi1 hb0 hb1 hlen hv
        obtain ⟨f, rfl⟩ : ∃ g, f = g + 1 := ⟨f - 1, by omega⟩
        by_cases hs1 : s1 = []
        · subst hs1
          have e : dcF (f + 1) ⟨[], n, i, bias, first, out⟩ = some out := rfl
          rw [← hv, e]
          repeat' first | simp (maxSteps := 4000000) (disch := omega) only [bunL, bunD, bun, ↓z04, ↓z01, z02, findLabel, ↓reduceIte, imp, shift, z0b, z0a, unown, names, z07, below, noF, isF, z03, z09, z08, ren, givL, updM, z0c, renO, belowM, seval, -Int.reduceToNat, B3, B4, B5, B9, B21, B41, bunN, z0o] | refine DR_q _ ?_ | (refine Fk.fk ?_ ?_ <;> intro hg <;> (try simp only [hg]) <;> (try simp only [bunB] at hg) <;> try (exfalso; first | omega | exact Bool.noConfusion hg | exact hg trivial)) | refine And.intro (by omega) ?_ | omega
          rfl
        · have hs1b : (s1 == []) = false := by simpa using hs1
          rw [zd9 hs1] at hv
          cases hrd : rd s1 bias with
          | none =>
            rw [hrd] at hv
            rw [← hv]
            repeat' first | refine z06 (z3x s1 bias (by omega) (by omega) (by omega)) ?_ ?_ | simp (maxSteps := 4000000) (disch := omega) only [bunL, bunD, bun, ↓z04, ↓z01, z02, findLabel, ↓reduceIte, imp, shift, z0b, z0a, unown, names, z07, below, noF, isF, z03, z09, z08, ren, givL, updM, z0c, renO, belowM, seval, -Int.reduceToNat, hs1b, hrd, rdR, B3, B4, B5, B9, B21, B41, bunN, z0o] | exact z0f _ | refine z0e _ _ ?_ | exact Cln.cl | refine z05 _ ?_ | refine z00 _ _ ?_ ?_ | refine DR_q _ ?_ | (refine Fk.fk ?_ ?_ <;> intro hg <;> (try simp only [hg]) <;> (try simp only [bunB] at hg) <;> try (exfalso; first | omega | exact Bool.noConfusion hg | exact hg trivial)) | refine And.intro (by omega) ?_ | omega
            all_goals first | rfl | (exact absurd (by assumption) hs1)
          | some p =>
            obtain ⟨d, r⟩ := p
            obtain ⟨hd1, hd2, _⟩ := zfg hrd
            have hrl := rd_len hrd
            rw [hrd] at hv
            dsimp only at hv
            have hqm := z53 (x := i + d) (c := out.length + 1) (by omega) (by omega)
            have hm0 := Int.emod_nonneg (i + d) (b := (out.length : Int) + 1) (by omega)
            have hm1 := Int.emod_lt_of_pos (i + d) (b := (out.length : Int) + 1) (by omega)
            obtain ⟨mi, hmi⟩ : ∃ mi : Nat, (i + d) % ((out.length : Int) + 1) = mi := ⟨((i + d) % ((out.length : Int) + 1)).toNat, by omega⟩
            rw [hmi] at hv hm0 hm1
            generalize hqq : (i + d) / ((out.length : Int) + 1) = q at *
            by_cases hl1 : 2147483647 < i + d
            · rw [if_pos hl1] at hv
              rw [← hv]
              repeat' first | refine z06 (z3x s1 bias (by omega) (by omega) (by omega)) ?_ ?_ | simp (maxSteps := 4000000) (disch := omega) only [bunL, bunD, bun, ↓z04, ↓z01, z02, findLabel, ↓reduceIte, imp, shift, z0b, z0a, unown, names, z07, below, noF, isF, z03, z09, z08, ren, givL, updM, z0c, renO, belowM, seval, -Int.reduceToNat, hs1b, hrd, rdR, B3, B4, B5, B9, B21, B41, bunN, z0o] | exact z0f _ | refine z0e _ _ ?_ | exact Cln.cl | refine z05 _ ?_ | refine z00 _ _ ?_ ?_ | refine DR_q _ ?_ | (refine Fk.fk ?_ ?_ <;> intro hg <;> (try simp only [hg]) <;> (try simp only [bunB] at hg) <;> try (exfalso; first | omega | exact Bool.noConfusion hg | exact hg trivial)) | refine And.intro (by omega) ?_ | omega
              all_goals first | rfl | (exact absurd (by assumption) hs1)
            · rw [if_neg hl1] at hv
              by_cases hl2 : 1114111 < n + q
              · rw [if_pos (.inl hl2)] at hv
                rw [← hv]
                repeat' first | refine z06 (z3x s1 bias (by omega) (by omega) (by omega)) ?_ ?_ | refine z06 (z4o _ _ _ (by omega) (by omega) (by omega) (by omega)) ?_ ?_ | simp (maxSteps := 4000000) (disch := omega) only [bunL, bunD, bun, ↓z04, ↓z01, z02, findLabel, ↓reduceIte, imp, shift, z0b, z0a, unown, names, z07, below, noF, isF, z03, z09, z08, ren, givL, updM, z0c, renO, belowM, seval, -Int.reduceToNat, hs1b, hrd, rdR, hqq, B3, B4, B5, B9, B21, B41, bunN, z0o] | exact z0f _ | refine z0e _ _ ?_ | exact Cln.cl | refine z05 _ ?_ | refine z00 _ _ ?_ ?_ | refine DR_q _ ?_ | (refine Fk.fk ?_ ?_ <;> intro hg <;> (try simp only [hg]) <;> (try simp only [bunB] at hg) <;> try (exfalso; first | omega | exact Bool.noConfusion hg | exact hg trivial)) | refine And.intro (by omega) ?_ | omega
                all_goals first | rfl | (exact absurd (by assumption) hs1)
              · cases hrt : right (n + q) with
                | false =>
                  rw [if_pos (.inr hrt)] at hv
                  rw [← hv]
                  repeat' first | refine z06 (z3x s1 bias (by omega) (by omega) (by omega)) ?_ ?_ | refine z06 (z4o _ _ _ (by omega) (by omega) (by omega) (by omega)) ?_ ?_ | refine z06 (z4t _) ?_ ?_ | simp (maxSteps := 4000000) (disch := omega) only [bunL, bunD, bun, ↓z04, ↓z01, z02, findLabel, ↓reduceIte, imp, shift, z0b, z0a, unown, names, z07, below, noF, isF, z03, z09, z08, ren, givL, updM, z0c, renO, belowM, seval, -Int.reduceToNat, hs1b, hrd, rdR, hqq, hrt, B3, B4, B5, B9, B21, B41, bunN, z0o] | exact z0f _ | refine z0e _ _ ?_ | exact Cln.cl | refine z05 _ ?_ | refine z00 _ _ ?_ ?_ | refine DR_q _ ?_ | (refine Fk.fk ?_ ?_ <;> intro hg <;> (try simp only [hg]) <;> (try simp only [bunB] at hg) <;> try (exfalso; first | omega | exact Bool.noConfusion hg | exact hg trivial)) | refine And.intro (by omega) ?_ | omega
                  all_goals first | rfl | (exact absurd (by assumption) hs1)
                | true =>
                  rw [if_neg (fun h => h.elim (fun h => by omega) (fun h => by rw [hrt] at h; cases h))] at hv
                  have ha := zd7 (d := d) (c := (out.length : Int) + 1) (first := first) hd1 (by omega)
                  have hil := ztc out mi (n + q) (by omega)
                  rw [Int.toNat_natCast] at hv
                  repeat' first | refine z06 (z3x s1 bias (by omega) (by omega) (by omega)) ?_ ?_ | refine z06 (z4o _ _ _ (by omega) (by omega) (by omega) (by omega)) ?_ ?_ | refine z06 (z4t _) ?_ ?_ | refine z17 [1, 2] (zej out mi (n + q) (by omega) (by omega)) ?_ | simp (maxSteps := 4000000) (disch := omega) only [bunL, bunD, bun, ↓z04, ↓z01, z02, findLabel, ↓reduceIte, imp, shift, z0b, z0a, unown, names, z07, below, noF, isF, z03, z09, z08, ren, givL, updM, z0c, renO, belowM, seval, -Int.reduceToNat, hs1b, hrd, rdR, hqq, hrt, hmi, B3, B4, B5, B9, B21, B41, bunN, z0o] | exact z0f _ | refine z0e _ _ ?_ | exact Cln.cl | refine z05 _ ?_ | refine z00 _ _ ?_ ?_ | refine DR_q _ ?_ | (refine Fk.fk ?_ ?_ <;> intro hg <;> (try simp only [hg]) <;> (try simp only [bunB] at hg) <;> try (exfalso; first | omega | exact Bool.noConfusion hg | exact hg trivial)) | refine And.intro (by omega) ?_ | omega
                  refine ⟨(f, ⟨r, n + q, mi + 1, adapt d (out.length + 1) first, false, insA out mi (n + q)⟩), ⟨⟨?_, ?_, ?_, ?_, ?_, ?_, ?_, ?_⟩, hv⟩, ?_, ?_⟩
                  all_goals first | (dsimp only; omega) | skip
                  (simp (disch := omega) [wk, wkT, wkM, noF, isF, get, z0h, belowM, below, belows, I64, I32, Bv, U8, Sv, insA_eq, hil] <;> try omega)
end Go.AE
end
