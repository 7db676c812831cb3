/- Contracts of functions that the laws of this seat reach, and plain laws of what they compute. No condition beyond each statement's own. -/
import Derived.Test.YtekgeapohenheaaGreatK1
import Derived.Test.YtekgeapohenheaaGreatV1
import Derived.Test.YtekgeapohenheaaGreatAEBun
set_option linter.unusedVariables false
set_option linter.unusedSimpArgs false
section
namespace Go.AE
open Go.Proofs
set_option maxRecDepth 20000
set_option linter.unusedSimpArgs false
theorem dg_pos (n : Int) : 0 ≤ dg n ∧ dg n < 256 := by unfold dg; repeat' split
                                                       all_goals omega
theorem zfa (n : Int) : Spec Tryz.prog 109 [I64 n] (.tup [.v (.int .u8 (dg n)), Bv (dgOk n)]) := by
  refine z0g (z := false) (ts := [.tmp 2, .tmp 3]) ok1 Tryz.func109 rfl rfl (by decide +kernel) (by simp [Tryz.ntmps109]) rfl ?_
  repeat' first | simp (maxSteps := 4000000) (disch := omega) only [bunL, bunD, bun, ↓z04, ↓z00, z02, findLabel, ↓reduceIte, imp, shift, z0b, z0a, unown, names, z06, below, noF, isF, z03, z08, z07, ren, givL, updM, z0c, renO, belowM, seval, -Int.reduceToNat, B3, B4, B5, bunN] | refine DR_q _ ?_ | (refine Fk.fk ?_ ?_ <;> intro hg <;> (try simp only [hg]) <;> (try simp only [bunB] at hg) <;> try (exfalso; first | omega | exact Bool.noConfusion hg | exact hg trivial)) | refine And.intro (by omega) ?_ | omega
  all_goals
    simp only [dg, dgOk, AV.tup.injEq, List.cons.injEq, AV.v.injEq, Value.int.injEq, Value.bool.injEq, and_true, true_and]
    refine ⟨?_, ?_⟩
    · repeat' split
      all_goals omega
    · rw [Bool.eq_iff_iff]; simp; omega
theorem zrk (k b : Int) (h0 : -1000000000 ≤ k) (h1 : k ≤ 1000000000) (h2 : -1000000000 ≤ b) (h3 : b ≤ 1000000000) : Spec Tryz.prog 108 [I64 k, I64 b] (I64 (thr k b)) := by
  refine z0g (z := false) (ts := [.tmp 4]) ok1 Tryz.func108 rfl rfl (by decide +kernel) (by simp [Tryz.ntmps108]) rfl ?_
  repeat' first | simp (maxSteps := 4000000) (disch := omega) only [bunL, bunD, bun, ↓z04, ↓z00, z02, findLabel, ↓reduceIte, imp, shift, z0b, z0a, unown, names, z06, below, noF, isF, z03, z08, z07, ren, givL, updM, z0c, renO, belowM, seval, -Int.reduceToNat, B3, bunN] | refine DR_q _ ?_ | (refine Fk.fk ?_ ?_ <;> intro hg <;> (try simp only [hg]) <;> (try simp only [bunB] at hg) <;> try (exfalso; first | omega | exact Bool.noConfusion hg | exact hg trivial)) | refine And.intro (by omega) ?_ | omega
  all_goals (congr 2; unfold thr; omega)
theorem zpe {f : Nat} {d k r : Int} (h : adF f d k = r) (hf : 0 < f) (hd : 455 < d) : adF (f - 1) (d / 35) (k + 36) = r := by
  cases f with
  | zero => omega
  | succ f => rw [← h, adF, if_pos hd]; rfl
theorem zpf {f : Nat} {d k r : Int} (h : adF f d k = r) (hf : 0 < f) (hd : ¬ 455 < d) : k + 36 * d / (d + 38) = r := by
  cases f with
  | zero => omega
  | succ f => rw [← h, adF, if_neg hd]
theorem zpd {f : Nat} {d : Int} (h : d < 35 ^ f * 456) (hd : 455 < d) : 0 < f ∧ d / 35 < 35 ^ (f - 1) * 456 := by
  cases f with
  | zero => simp at h; omega
  | succ f =>
    refine ⟨by omega, ?_⟩
    rw [Nat.add_sub_cancel]
    have : (35 : Int) ^ (f + 1) = 35 ^ f * 35 := Int.pow_succ 35 f
    rw [this] at h
    generalize (35 : Int) ^ f = p at *
    omega
theorem zru (d c : Int) (first : Bool) (h0 : 0 ≤ d) (h1 : d ≤ 1000000000000) (h2 : 1 ≤ c) (h3 : c ≤ 9223372036854775807) : Spec Tryz.prog 78 [I64 d, I64 c, Bv first] (I64 (adapt d c first)) := by
  refine z0g (z := false) (ts := [.tmp 6]) ok1 Tryz.func78 rfl rfl (by decide +kernel) (by simp [Tryz.ntmps78]) rfl ?_
  have hm : (if c > 1 then c else 1) = c := by split <;> omega
  cases first with
  | true =>
    have hq := z5o (x := d / 700) (c := c) (by omega) h2
    obtain ⟨r, hr⟩ : ∃ r, adF 20 (d / 700 + d / 700 / c) 0 = r := ⟨_, rfl⟩
    rw [zrv, hr]
    generalize hx : d / 700 / c = q at *
    repeat' first | simp (maxSteps := 4000000) (disch := omega) only [bunL, bunD, bun, ↓z04, ↓z00, z02, findLabel, ↓reduceIte, imp, shift, z0b, z0a, unown, names, z06, below, noF, isF, z03, z08, z07, ren, givL, updM, z0c, renO, belowM, seval, -Int.reduceToNat, hm, hx, B3, B4, bunN] | refine DR_q _ ?_ | (refine Fk.fk ?_ ?_ <;> intro hg <;> (try simp only [hg]) <;> (try simp only [bunB] at hg) <;> try (exfalso; first | omega | exact Bool.noConfusion hg | exact hg trivial)) | refine And.intro (by omega) ?_ | omega
    refine z0p (fun x : Nat × Int × Int => ⟨[(0, I64 x.2.1), (7, I64 x.2.2)], []⟩) (fun x => 1 ≤ x.1 ∧ x.1 ≤ 20 ∧ 0 ≤ x.2.1 ∧ x.2.1 ≤ 2000000000000 ∧ 0 ≤ x.2.2 ∧ x.2.2 ≤ 36 * (20 - x.1) ∧ x.2.1 < 35 ^ (x.1 - 1) * 456 ∧ adF x.1 x.2.1 x.2.2 = r) (fun x => x.1) (20, d / 700 + q, 0)
      (by refine ⟨?_, ?_, ?_, ?_, ?_, ?_, ?_, hr⟩ <;> dsimp only <;> omega) (by simp [wk, wkT, wkM, noF, isF, get, z0e, belowM, below, belows, I64, I32, Bv, U8, Sv] <;> try omega) ?_
    rintro ⟨f, e, k⟩ ⟨hf1, hf, he0, he1, hk0, hk1, hb, hv⟩
    dsimp only at hf1 hf he0 he1 hk0 hk1 hb hv
    have h36 : 0 ≤ 36 * e / (e + 38) := Int.ediv_nonneg (by omega) (by omega)
    have h37 : 36 * e / (e + 38) ≤ 36 := Int.ediv_le_of_le_mul (by omega) (by omega)
    generalize hy : 36 * e / (e + 38) = y at *
    repeat' first | simp (maxSteps := 4000000) (disch := omega) only [bunL, bunD, bun, ↓z04, ↓z00, z02, findLabel, ↓reduceIte, imp, shift, z0b, z0a, unown, names, z06, below, noF, isF, z03, z08, z07, ren, givL, updM, z0c, renO, belowM, seval, -Int.reduceToNat, hy, B3, B4, bunN] | refine DR_q _ ?_ | (refine Fk.fk ?_ ?_ <;> intro hg <;> (try simp only [hg]) <;> (try simp only [bunB] at hg) <;> try (exfalso; first | omega | exact Bool.noConfusion hg | exact hg trivial)) | refine And.intro (by omega) ?_ | omega
    · obtain ⟨h5, h6⟩ := zpd hb (by omega)
      refine ⟨(f - 1, e / 35, k + 36), ?_, by dsimp only; omega, (by simp [wk, wkT, wkM, noF, isF, get, z0e, belowM, below, belows, I64, I32, Bv, U8, Sv] <;> try omega)⟩
      refine ⟨?_, ?_, ?_, ?_, ?_, ?_, h6, zpe hv hf1 (by omega)⟩ <;> dsimp only <;> omega
    · have := zpf hv hf1 (by omega)
      rw [← this, hy]
  | false =>
    have hq := z5o (x := d / 2) (c := c) (by omega) h2
    obtain ⟨r, hr⟩ : ∃ r, adF 20 (d / 2 + d / 2 / c) 0 = r := ⟨_, rfl⟩
    rw [zln, hr]
    generalize hx : d / 2 / c = q at *
    repeat' first | simp (maxSteps := 4000000) (disch := omega) only [bunL, bunD, bun, ↓z04, ↓z00, z02, findLabel, ↓reduceIte, imp, shift, z0b, z0a, unown, names, z06, below, noF, isF, z03, z08, z07, ren, givL, updM, z0c, renO, belowM, seval, -Int.reduceToNat, hm, hx, B3, B4, bunN] | refine DR_q _ ?_ | (refine Fk.fk ?_ ?_ <;> intro hg <;> (try simp only [hg]) <;> (try simp only [bunB] at hg) <;> try (exfalso; first | omega | exact Bool.noConfusion hg | exact hg trivial)) | refine And.intro (by omega) ?_ | omega
    refine z0p (fun x : Nat × Int × Int => ⟨[(0, I64 x.2.1), (7, I64 x.2.2)], []⟩) (fun x => 1 ≤ x.1 ∧ x.1 ≤ 20 ∧ 0 ≤ x.2.1 ∧ x.2.1 ≤ 2000000000000 ∧ 0 ≤ x.2.2 ∧ x.2.2 ≤ 36 * (20 - x.1) ∧ x.2.1 < 35 ^ (x.1 - 1) * 456 ∧ adF x.1 x.2.1 x.2.2 = r) (fun x => x.1) (20, d / 2 + q, 0)
      (by refine ⟨?_, ?_, ?_, ?_, ?_, ?_, ?_, hr⟩ <;> dsimp only <;> omega) (by simp [wk, wkT, wkM, noF, isF, get, z0e, belowM, below, belows, I64, I32, Bv, U8, Sv] <;> try omega) ?_
    rintro ⟨f, e, k⟩ ⟨hf1, hf, he0, he1, hk0, hk1, hb, hv⟩
    dsimp only at hf1 hf he0 he1 hk0 hk1 hb hv
    have h36 : 0 ≤ 36 * e / (e + 38) := Int.ediv_nonneg (by omega) (by omega)
    have h37 : 36 * e / (e + 38) ≤ 36 := Int.ediv_le_of_le_mul (by omega) (by omega)
    generalize hy : 36 * e / (e + 38) = y at *
    repeat' first | simp (maxSteps := 4000000) (disch := omega) only [bunL, bunD, bun, ↓z04, ↓z00, z02, findLabel, ↓reduceIte, imp, shift, z0b, z0a, unown, names, z06, below, noF, isF, z03, z08, z07, ren, givL, updM, z0c, renO, belowM, seval, -Int.reduceToNat, hy, B3, B4, bunN] | refine DR_q _ ?_ | (refine Fk.fk ?_ ?_ <;> intro hg <;> (try simp only [hg]) <;> (try simp only [bunB] at hg) <;> try (exfalso; first | omega | exact Bool.noConfusion hg | exact hg trivial)) | refine And.intro (by omega) ?_ | omega
    · obtain ⟨h5, h6⟩ := zpd hb (by omega)
      refine ⟨(f - 1, e / 35, k + 36), ?_, by dsimp only; omega, (by simp [wk, wkT, wkM, noF, isF, get, z0e, belowM, below, belows, I64, I32, Bv, U8, Sv] <;> try omega)⟩
      refine ⟨?_, ?_, ?_, ?_, ?_, ?_, h6, zpe hv hf1 (by omega)⟩ <;> dsimp only <;> omega
    · have := zpf hv hf1 (by omega)
      rw [← this, hy]
end Go.AE
end
section
namespace Go.AE
open Go.Proofs
set_option maxRecDepth 20000
set_option linter.unusedSimpArgs false
theorem z8l (n : Int) : z3i [.v (.int .u8 n)] = some [UInt8.ofNat n.toNat] := rfl
theorem zlj (n : Int) (k : Nat) (K : AV → Prop) : CB2 k (z3i [.v (.int .u8 n)]) K = (k = 1 ∧ K (.v (.string ⟨[UInt8.ofNat n.toNat].toArray⟩))) := rfl
theorem z1r (n : Int) : ((dgb n).toNat : Int) = dg n := by
  have := dg_pos n
  unfold dgb; simp; omega
theorem thr_ok (k b : Int) : 1 ≤ thr k b ∧ thr k b ≤ 26 := by unfold thr; omega
theorem wr_step {n t : Int} (hn : t ≤ n) (h1 : 1 ≤ t) (h2 : t ≤ 26) : 0 ≤ (n - t) / (36 - t) ∧ 10 * ((n - t) / (36 - t)) ≤ n ∧ 0 ≤ (n - t) % (36 - t) ∧ (n - t) % (36 - t) < 36 - t := by
  have h3 : 0 ≤ (n - t) / (36 - t) := Int.ediv_nonneg (by omega) (by omega)
  have h4 := Int.ediv_mul_le (n - t) (b := 36 - t) (by omega)
  have h5 : (n - t) / (36 - t) * 10 ≤ (n - t) / (36 - t) * (36 - t) := Int.mul_le_mul_of_nonneg_left (by omega) h3
  exact ⟨h3, by omega, Int.emod_nonneg _ (by omega), Int.emod_lt_of_pos _ (by omega)⟩
theorem wr_room {f : Nat} {n q : Int} (h : n < 2 ^ (f - 1)) (hf : 1 ≤ f) (hq : 10 * q ≤ n) (hn : 1 ≤ n) : 1 ≤ f - 1 ∧ q < 2 ^ (f - 1 - 1) := by
  obtain ⟨f, rfl⟩ : ∃ g, f = g + 1 := ⟨f - 1, by omega⟩
  rw [Nat.add_sub_cancel] at *
  cases f with
  | zero => simp at h; omega
  | succ f =>
    refine ⟨by omega, ?_⟩
    rw [Nat.add_sub_cancel]
    have : (2 : Int) ^ (f + 1) = 2 ^ f * 2 := Int.pow_succ 2 f
    rw [this] at h
    generalize (2 : Int) ^ f = p at *
    omega
theorem wrF_stop {f : Nat} {n k b : Int} (hf : 1 ≤ f) (h : n < thr k b) : wrF f n k b = [dgb n] := by
  obtain ⟨f, rfl⟩ : ∃ g, f = g + 1 := ⟨f - 1, by omega⟩
  rw [wrF, if_pos h]
theorem wrF_more {f : Nat} {n k b : Int} (hf : 1 ≤ f) (h : ¬ n < thr k b) : wrF f n k b = dgb (thr k b + (n - thr k b) % (36 - thr k b)) :: wrF (f - 1) ((n - thr k b) / (36 - thr k b)) (k + 36) b := by
  obtain ⟨f, rfl⟩ : ∃ g, f = g + 1 := ⟨f - 1, by omega⟩
  rw [wrF, if_neg h]; rfl
theorem ztj (o : List UInt8) (n b : Int) (ho : o.length ≤ 1000000000) (hn : 0 ≤ n) (hn1 : n ≤ 1000000000000) (h2 : -1000000 ≤ b) (h3 : b ≤ 1000000) :
    z5l Tryz.prog 77 [.arr 5 1 (o.map U8)] [.ref 0 0 o.length, I64 n, I64 b] [.arr 5 1 ((o ++ wr n b).map U8), .fence] (.ref 0 0 (o ++ wr n b).length) := by
  refine z3x (ts := [.tmp 6]) ok1 Tryz.func77 rfl rfl (by decide +kernel) (by simp [Tryz.ntmps77]) rfl ?_
  repeat' first | simp (maxSteps := 4000000) (disch := omega) only [bunL, bunD, bun, ↓z04, ↓z00, z02, findLabel, ↓reduceIte, imp, shift, z0b, z0a, unown, names, z06, below, noF, isF, z03, z08, z07, ren, givL, updM, z0c, renO, belowM, seval, -Int.reduceToNat, B3, B4, B5, B100, bunN, z1r, z8l, zlj] | refine DR_q _ ?_ | (refine Fk.fk ?_ ?_ <;> intro hg <;> (try simp only [hg]) <;> (try simp only [bunB] at hg) <;> try (exfalso; first | omega | exact Bool.noConfusion hg | exact hg trivial)) | refine And.intro (by omega) ?_ | omega
  refine z0p (fun x : Nat × Int × Int × List UInt8 => ⟨[(0, .ref 0 0 (o ++ x.2.2.2).length), (1, I64 x.2.1), (2, I64 b), (7, I64 x.2.2.1)], [.arr 5 1 ((o ++ x.2.2.2).map U8), .fence]⟩)
    (fun x => 1 ≤ x.1 ∧ x.1 ≤ 64 ∧ 0 ≤ x.2.1 ∧ x.2.1 ≤ 1000000000000 ∧ x.2.2.1 = 36 * (65 - x.1) ∧ x.2.1 < 2 ^ (x.1 - 1) ∧ x.2.2.2.length + x.1 = 64 ∧ x.2.2.2 ++ wrF x.1 x.2.1 x.2.2.1 b = wr n b) (fun x => x.1) (64, n, 36, [])
    (by refine ⟨?_, ?_, ?_, ?_, ?_, ?_, ?_, ?_⟩ <;> dsimp only <;> first | omega | rfl) (by (simp (disch := omega) [wk, wkT, wkM, noF, isF, get, z0e, belowM, below, belows, I64, I32, Bv, U8, Sv, List.append_nil] <;> try omega)) ?_
  rintro ⟨f, n, k, acc⟩ ⟨hf1, hf, hn0, hn1, hk, hb, hl, hv⟩
  dsimp only at hf1 hf hn0 hn1 hk hb hl hv
  have ht := thr_ok k b
  by_cases hlt : n < thr k b
  · have he := wrF_stop hf1 hlt
    rw [he] at hv
    repeat' first | refine z09 (zfa _) ?_ ?_ | refine z09 (zrk _ _ (by omega) (by omega) (by omega) (by omega)) ?_ ?_ | simp (maxSteps := 4000000) (disch := omega) only [bunL, bunD, bun, ↓z04, ↓z00, z02, findLabel, ↓reduceIte, imp, shift, z0b, z0a, unown, names, z06, below, noF, isF, z03, z08, z07, ren, givL, updM, z0c, renO, belowM, seval, -Int.reduceToNat, B3, B4, B5, B100, bunN, z1r, z8l, zlj] | exact z0i _ | refine z0h _ _ ?_ | exact Cln.cl | refine z05 _ ?_ | refine z01 _ _ ?_ ?_ | refine DR_q _ ?_ | (refine Fk.fk ?_ ?_ <;> intro hg <;> (try simp only [hg]) <;> (try simp only [bunB] at hg) <;> try (exfalso; first | omega | exact Bool.noConfusion hg | exact hg trivial)) | refine And.intro (by omega) ?_ | omega
    rw [← hv]
    simp [U8, z1r, Nat.add_assoc]
  · have he := wrF_more hf1 hlt
    rw [he] at hv
    obtain ⟨q0, q1, q2, q3⟩ := wr_step (n := n) (t := thr k b) (by omega) (by omega) (by omega)
    obtain ⟨h5, h6⟩ := wr_room hb hf1 q1 (by omega)
    generalize hqq : (n - thr k b) / (36 - thr k b) = q at *
    generalize hrr : (n - thr k b) % (36 - thr k b) = r at *
    repeat' first | refine z09 (zfa _) ?_ ?_ | refine z09 (zrk _ _ (by omega) (by omega) (by omega) (by omega)) ?_ ?_ | simp (maxSteps := 4000000) (disch := omega) only [bunL, bunD, bun, ↓z04, ↓z00, z02, findLabel, ↓reduceIte, imp, shift, z0b, z0a, unown, names, z06, below, noF, isF, z03, z08, z07, ren, givL, updM, z0c, renO, belowM, seval, -Int.reduceToNat, hqq, hrr, B3, B4, B5, B100, bunN, z1r, z8l, zlj] | exact z0i _ | refine z0h _ _ ?_ | exact Cln.cl | refine z05 _ ?_ | refine z01 _ _ ?_ ?_ | refine DR_q _ ?_ | (refine Fk.fk ?_ ?_ <;> intro hg <;> (try simp only [hg]) <;> (try simp only [bunB] at hg) <;> try (exfalso; first | omega | exact Bool.noConfusion hg | exact hg trivial)) | refine And.intro (by omega) ?_ | omega
    refine ⟨(f - 1, q, k + 36, acc ++ [dgb (thr k b + r)]), ⟨h5, by dsimp only; omega, q0, by dsimp only; omega, by dsimp only; omega, h6, by simp; omega, ?_⟩, by dsimp only; omega, ?_⟩
    · rw [← hv]; simp
    · (simp (disch := omega) [wk, wkT, wkM, noF, isF, get, z0e, belowM, below, belows, I64, I32, Bv, U8, Sv, z1r, List.map_append, List.append_assoc] <;> try omega)
end Go.AE
end
section
namespace Go.AE
open Go.Proofs
set_option maxRecDepth 20000
set_option linter.unusedSimpArgs false
theorem zyj (l : List Int) (n : Int) (hl : l.length ≤ 100000) : Spec Tryz.prog 76 [.sl l.length (l.map I32), I32 n] (I32 (nxt l n)) := by
  refine z0g (z := false) (ts := [.tmp 4]) ok1 Tryz.func76 rfl rfl (by decide +kernel) (by simp [Tryz.ntmps76]) rfl ?_
  repeat' first | simp (maxSteps := 4000000) (disch := omega) only [bunL, bunD, bun, ↓z04, ↓z00, z02, findLabel, ↓reduceIte, imp, shift, z0b, z0a, unown, names, z06, below, noF, isF, z03, z08, z07, ren, givL, updM, z0c, renO, belowM, seval, -Int.reduceToNat, B3, B4, B21, B53, bunN, z1r] | refine DR_q _ ?_ | (refine Fk.fk ?_ ?_ <;> intro hg <;> (try simp only [hg]) <;> (try simp only [bunB] at hg) <;> try (exfalso; first | omega | exact Bool.noConfusion hg | exact hg trivial)) | refine And.intro (by omega) ?_ | omega
  refine z0p (fun i : Nat => ⟨[(1, I32 n), (5, I32 ((l.take i).foldl (fun o r => if n ≤ r ∧ (o < 0 ∨ r < o) then r else o) (-1))), (8, .sl l.length (l.map I32)), (9, I64 l.length), (10, I64 i)], []⟩) (fun i => i ≤ l.length) (fun i => l.length - i) 0 (by simp) (by simp [wk, wkT, wkM, noF, isF, get, z0e, belowM, below, belows, I64, I32, Bv, U8, Sv] <;> try omega) ?_
  intro i hi
  by_cases hlt : i < l.length
  · have hs := z3s (fun o r => if n ≤ r ∧ (o < 0 ∨ r < o) then r else o) (-1) l i 0 hlt
    generalize (l.take i).foldl (fun o r => if n ≤ r ∧ (o < 0 ∨ r < o) then r else o) (-1) = o at *
    repeat' first | simp (maxSteps := 4000000) (disch := omega) only [bunL, bunD, bun, ↓z04, ↓z00, z02, findLabel, ↓reduceIte, imp, shift, z0b, z0a, unown, names, z06, below, noF, isF, z03, z08, z07, ren, givL, updM, z0c, renO, belowM, seval, -Int.reduceToNat, B3, B4, B21, B53, bunN, z1r] | refine DR_q _ ?_ | (refine Fk.fk ?_ ?_ <;> intro hg <;> (try simp only [hg]) <;> (try simp only [bunB] at hg) <;> try (exfalso; first | omega | exact Bool.noConfusion hg | exact hg trivial)) | refine And.intro (by omega) ?_ | omega
    all_goals
      refine ⟨i + 1, by omega, by omega, ?_⟩
      rw [hs]
      first
      | rw [if_pos (by omega)]
      | rw [if_neg (by omega)]
      (simp (disch := omega) [wk, wkT, wkM, noF, isF, get, z0e, belowM, below, belows, I64, I32, Bv, U8, Sv, z3s] <;> try omega)
  · have e : i = l.length := by omega
    subst e
    rw [List.take_length]
    repeat' first | simp (maxSteps := 4000000) (disch := omega) only [bunL, bunD, bun, ↓z04, ↓z00, z02, findLabel, ↓reduceIte, imp, shift, z0b, z0a, unown, names, z06, below, noF, isF, z03, z08, z07, ren, givL, updM, z0c, renO, belowM, seval, -Int.reduceToNat, B3, B4, B21, B53, bunN, z1r] | refine DR_q _ ?_ | (refine Fk.fk ?_ ?_ <;> intro hg <;> (try simp only [hg]) <;> (try simp only [bunB] at hg) <;> try (exfalso; first | omega | exact Bool.noConfusion hg | exact hg trivial)) | refine And.intro (by omega) ?_ | omega
    rfl
theorem ztb {l : List Int} (h : z1z l = true) : ∀ r ∈ l, 0 ≤ r ∧ r ≤ 1114111 := fun r hr => by
  have := (z4f r).1 (List.all_eq_true.1 h r hr)
  omega
theorem ze0 (l : List Int) (i : Nat) : (z10 (l.take i)).length ≤ i := by
  have := zcv (l.take i)
  simp at this; omega
theorem zm1 (l : List Int) (hl : l.length ≤ 1000) : Spec Tryz.prog 48 [.sl l.length (l.map I32)] (.tup [Sv (pnS l), Bv (z1z l)]) := by
  refine z0g (z := false) (ts := [.tmp 2, .tmp 3]) ok1 Tryz.func48 rfl rfl (by decide +kernel) (by simp [Tryz.ntmps48]) rfl ?_
  repeat' first | simp (maxSteps := 4000000) (disch := omega) only [bunL, bunD, bun, ↓z04, ↓z00, z02, findLabel, ↓reduceIte, imp, shift, z0b, z0a, unown, names, z06, below, noF, isF, z03, z08, z07, ren, givL, updM, z0c, renO, belowM, seval, -Int.reduceToNat, B3, B4, B9, B21, B53, B5, B100, bunN, z1r] | refine DR_q _ ?_ | (refine Fk.fk ?_ ?_ <;> intro hg <;> (try simp only [hg]) <;> (try simp only [bunB] at hg) <;> try (exfalso; first | omega | exact Bool.noConfusion hg | exact hg trivial)) | refine And.intro (by omega) ?_ | omega
  refine z0p (fun i : Nat => ⟨[(0, .sl l.length (l.map I32)), (4, .ref 0 0 (z10 (l.take i)).length), (15, .sl l.length (l.map I32)), (16, I64 l.length), (17, I64 i)], [.arr 5 1 ((z10 (l.take i)).map U8)]⟩) (fun i => i ≤ l.length ∧ (l.take i).all right = true) (fun i => l.length - i) 0 (by simp) (by (simp (disch := omega) [wk, wkT, wkM, noF, isF, get, z0e, belowM, below, belows, I64, I32, Bv, U8, Sv, z10] <;> try omega)) ?_
  rintro i ⟨hi, hr⟩
  have hpi := ze0 l i
  by_cases hlt : i < l.length
  · have hp := zmq l i hlt
    have ht := z1p l i 0 hlt
    cases hgr : right (l.getD i 0) with
    | false =>
      have hb := zl3 hlt hgr
      repeat' first | refine z09 (zag _) ?_ ?_ | simp (maxSteps := 4000000) (disch := omega) only [bunL, bunD, bun, ↓z04, ↓z00, z02, findLabel, ↓reduceIte, imp, shift, z0b, z0a, unown, names, z06, below, noF, isF, z03, z08, z07, ren, givL, updM, z0c, renO, belowM, seval, -Int.reduceToNat, hgr, B3, B4, B9, B21, B53, B5, B100, bunN, z1r] | exact z0i _ | refine z0h _ _ ?_ | exact Cln.cl | refine z05 _ ?_ | refine z01 _ _ ?_ ?_ | refine DR_q _ ?_ | (refine Fk.fk ?_ ?_ <;> intro hg <;> (try simp only [hg]) <;> (try simp only [bunB] at hg) <;> try (exfalso; first | omega | exact Bool.noConfusion hg | exact hg trivial)) | refine And.intro (by omega) ?_ | omega
      simp [pnS, hb]
    | true =>
      have hgr' := (z4f _).1 hgr
      have hr' : (l.take (i + 1)).all right = true := by rw [ht, List.all_append, hr]; simp only [List.all_cons, List.all_nil, hgr]; rfl
      obtain ⟨r, hrr⟩ : ∃ r, l.getD i 0 = r := ⟨_, rfl⟩
      rw [hrr] at hgr hgr' hp ht
      repeat' first | refine z09 (zag _) ?_ ?_ | simp (maxSteps := 4000000) (disch := omega) only [bunL, bunD, bun, ↓z04, ↓z00, z02, findLabel, ↓reduceIte, imp, shift, z0b, z0a, unown, names, z06, below, noF, isF, z03, z08, z07, ren, givL, updM, z0c, renO, belowM, seval, -Int.reduceToNat, hrr, hgr, B3, B4, B9, B21, B53, B5, B100, bunN, z1r] | exact z0i _ | refine z0h _ _ ?_ | exact Cln.cl | refine z05 _ ?_ | refine z01 _ _ ?_ ?_ | refine DR_q _ ?_ | (refine Fk.fk ?_ ?_ <;> intro hg <;> (try simp only [hg]) <;> (try simp only [bunB] at hg) <;> try (exfalso; first | omega | exact Bool.noConfusion hg | exact hg trivial)) | refine And.intro (by omega) ?_ | omega
      · refine ⟨i + 1, ⟨by omega, hr'⟩, by omega, ?_⟩
        rw [hp, if_pos (by omega)]
        (simp (disch := omega) [wk, wkT, wkM, noF, isF, get, z0e, belowM, below, belows, I64, I32, Bv, U8, Sv, z1s] <;> try omega)
      · refine ⟨i + 1, ⟨by omega, hr'⟩, by omega, ?_⟩
        rw [hp, if_neg (by omega)]
        (simp (disch := omega) [wk, wkT, wkM, noF, isF, get, z0e, belowM, below, belows, I64, I32, Bv, U8, Sv, List.append_nil] <;> try omega)
  · have e : i = l.length := by omega
    subst e
    rw [List.take_length] at *
    have hok : z1z l = true := hr
    have hR := ztb hok
    have hS : pnS l = zmr l := by simp [pnS, hok]
    rw [hok, hS]
    have hpl := zcv l
    have hpc := zga l
    repeat' first | simp (maxSteps := 4000000) (disch := omega) only [bunL, bunD, bun, ↓z04, ↓z00, z02, findLabel, ↓reduceIte, imp, shift, z0b, z0a, unown, names, z06, below, noF, isF, z03, z08, z07, ren, givL, updM, z0c, renO, belowM, seval, -Int.reduceToNat, B3, B4, B9, B21, B53, B5, B100, bunN, z1r] | refine DR_q _ ?_ | (refine Fk.fk ?_ ?_ <;> intro hg <;> (try simp only [hg]) <;> (try simp only [bunB] at hg) <;> try (exfalso; first | omega | exact Bool.noConfusion hg | exact hg trivial)) | refine And.intro (by omega) ?_ | omega
    all_goals
      refine z0p (fun x : Nat × Int × EnS => ⟨[(0, .sl l.length (l.map I32)), (4, .ref 0 0 x.2.2.out.length), (7, I64 (z10 l).length), (8, I32 x.2.1), (9, I64 x.2.2.delta), (10, I64 x.2.2.bias), (11, I64 x.2.2.h)], [.arr 5 1 (x.2.2.out.map U8)]⟩)
        (fun x => EnI l x.2.1 x.2.2 ∧ (l.length : Int) < x.1 + x.2.2.h ∧ enF l (z10 l).length x.1 x.2.1 x.2.2 = zmr l) (fun x => x.1) (l.length + 1, 128, ⟨z94 l, 0, 72, (z10 l).length⟩)
        (by
          refine ⟨⟨by dsimp only; omega, by dsimp only; omega, Int.le_refl 0, by simp, by dsimp only; omega, by dsimp only; omega, by dsimp only; omega, ?_⟩, by dsimp only; omega, rfl⟩
          dsimp only [z94]; split <;> (try simp only [List.length_append, List.length_cons, List.length_nil]) <;> omega) ?_ ?_
      · first
        | (have hh : z94 l = z10 l ++ [45] := by unfold z94; rw [if_pos (by omega)])
        | (have hh : z94 l = z10 l := by unfold z94; rw [if_neg (by omega)])
        (simp (disch := omega) [wk, wkT, wkM, noF, isF, get, z0e, belowM, below, belows, I64, I32, Bv, U8, Sv, hh] <;> try omega)
      · rintro ⟨f, n, ⟨out, delta, bias, h⟩⟩ ⟨hI, hf, hv⟩
        dsimp only at hI hf hv
        have hn0 := hI.n0
        have hn1 := hI.n1
        have hd0 := hI.d0
        have hb0 := hI.b0
        have hb1 := hI.b1
        have hhh := hI.hh
        have hlen := hI.len
        dsimp only at hd0 hb0 hb1 hhh hlen
        by_cases hlt : h < l.length
        · obtain ⟨h1, h2, hJ, hc1, hc2, hm, hpos⟩ := hI.first (fun r hr => (hR r hr).2) hl hlt
          dsimp only at hJ hc1 hc2 hpos
          obtain ⟨f, rfl⟩ : ∃ g, f = g + 1 := ⟨f - 1, by omega⟩
          rw [enF, if_pos hlt] at hv
          dsimp only at hv
          have hnm := h1.2.1
          generalize hmm : nxt l n = m at *
          generalize hpp : (m - n) * (h + 1) = p at *
          repeat' first | refine z09 (zyj l n (by omega)) ?_ ?_ | simp (maxSteps := 4000000) (disch := omega) only [bunL, bunD, bun, ↓z04, ↓z00, z02, findLabel, ↓reduceIte, imp, shift, z0b, z0a, unown, names, z06, below, noF, isF, z03, z08, z07, ren, givL, updM, z0c, renO, belowM, seval, -Int.reduceToNat, hmm, hpp, B3, B4, B9, B21, B53, B5, B100, bunN, z1r] | exact z0i _ | refine z0h _ _ ?_ | exact Cln.cl | refine z05 _ ?_ | refine z01 _ _ ?_ ?_ | refine DR_q _ ?_ | (refine Fk.fk ?_ ?_ <;> intro hg <;> (try simp only [hg]) <;> (try simp only [bunB] at hg) <;> try (exfalso; first | omega | exact Bool.noConfusion hg | exact hg trivial)) | refine And.intro (by omega) ?_ | omega
          refine z0p (fun x : Nat × EnS => ⟨[(0, .sl l.length (l.map I32)), (4, .ref 0 0 x.2.out.length), (7, I64 (z10 l).length), (8, I32 m), (9, I64 x.2.delta), (10, I64 x.2.bias), (11, I64 x.2.h), (59, .sl l.length (l.map I32)), (60, I64 l.length), (61, I64 x.1)], [.arr 5 1 (x.2.out.map U8)]⟩)
            (fun x => EnJ l m ⟨out, delta + p, bias, h⟩ x.1 x.2 ∧ x.1 ≤ l.length) (fun x => l.length - x.1) (0, ⟨out, delta + p, bias, h⟩) ⟨hJ, by dsimp only; omega⟩ (by simp [wk, wkT, wkM, noF, isF, get, z0e, belowM, below, belows, I64, I32, Bv, U8, Sv] <;> try omega) ?_
          rintro ⟨j, ⟨out1, delta1, bias1, h1'⟩⟩ ⟨hJ1, hj⟩
          dsimp only at hJ1 hj
          have hroom : h + l.countP (· == m) ≤ l.length := by
            have := z7r (l := l) (n := n) (m := m) h1.2.2 h1.2.1
            have := List.countP_le_length (p := fun x : Int => decide (x < m + 1)) (l := l)
            omega
          have hd0' := hJ1.d0
          have hd1' := hJ1.d1
          have hb0' := hJ1.b0
          have hb1' := hJ1.b1
          have hhl := hJ1.hl
          have hlen' := hJ1.len
          have hh' := hJ1.hh
          have hh0 := hJ1.h0
          dsimp only at hd0' hd1' hb0' hb1' hhl hlen' hh' hh0
          by_cases hjl : j < l.length
          · have hN := hJ1.next hjl (by dsimp only; omega) hroom
            have hwl := zzy delta1 bias1
            obtain ⟨r, hrr⟩ : ∃ r, l.getD j 0 = r := ⟨_, rfl⟩
            rw [hrr] at hN
            repeat' first | refine z1j [0] (ztj out1 delta1 bias1 (by omega) (by omega) (by omega) (by omega) (by omega)) ?_ | refine z09 (zru _ _ _ (by omega) (by omega) (by omega) (by omega)) ?_ ?_ | simp (maxSteps := 4000000) (disch := omega) only [bunL, bunD, bun, ↓z04, ↓z00, z02, findLabel, ↓reduceIte, imp, shift, z0b, z0a, unown, names, z06, below, noF, isF, z03, z08, z07, ren, givL, updM, z0c, renO, belowM, seval, -Int.reduceToNat, hrr, B3, B4, B9, B21, B53, B5, B100, bunN, z1r] | exact z0i _ | refine z0h _ _ ?_ | exact Cln.cl | refine z05 _ ?_ | refine z01 _ _ ?_ ?_ | refine DR_q _ ?_ | (refine Fk.fk ?_ ?_ <;> intro hg <;> (try simp only [hg]) <;> (try simp only [bunB] at hg) <;> try (exfalso; first | omega | exact Bool.noConfusion hg | exact hg trivial)) | refine And.intro (by omega) ?_ | omega
            · have e : z5q m (z10 l).length ⟨out1, delta1, bias1, h1'⟩ r = ⟨out1, delta1 + 1, bias1, h1'⟩ := by unfold z5q; rw [if_pos (by omega)]
              rw [e] at hN
              exact ⟨(j + 1, _), ⟨hN, by dsimp only; omega⟩, by dsimp only; omega, (by simp [wk, wkT, wkM, noF, isF, get, z0e, belowM, below, belows, I64, I32, Bv, U8, Sv] <;> try omega)⟩
            · have e : z5q m (z10 l).length ⟨out1, delta1, bias1, h1'⟩ r = ⟨out1 ++ wr delta1 bias1, 0, adapt delta1 (h1' + 1) (h1' == ((z10 l).length : Int)), h1' + 1⟩ := by unfold z5q; rw [if_neg (by omega), if_pos (by omega)]
              rw [e] at hN
              exact ⟨(j + 1, _), ⟨hN, by dsimp only; omega⟩, by dsimp only; omega, (by simp [wk, wkT, wkM, noF, isF, get, z0e, belowM, below, belows, I64, I32, Bv, U8, Sv] <;> try omega)⟩
            · have e : z5q m (z10 l).length ⟨out1, delta1, bias1, h1'⟩ r = ⟨out1, delta1, bias1, h1'⟩ := by unfold z5q; rw [if_neg (by omega), if_neg (by omega)]
              rw [e] at hN
              exact ⟨(j + 1, _), ⟨hN, by dsimp only; omega⟩, by dsimp only; omega, (by simp [wk, wkT, wkM, noF, isF, get, z0e, belowM, below, belows, I64, I32, Bv, U8, Sv] <;> try omega)⟩
          · have ej : j = l.length := by omega
            subst ej
            obtain ⟨hL, hgt⟩ := hJ1.last h1 hn0 hm hhh hc1
            dsimp only at hL hgt
            have heq := hJ1.eq
            rw [List.take_length] at heq
            repeat' first | simp (maxSteps := 4000000) (disch := omega) only [bunL, bunD, bun, ↓z04, ↓z00, z02, findLabel, ↓reduceIte, imp, shift, z0b, z0a, unown, names, z06, below, noF, isF, z03, z08, z07, ren, givL, updM, z0c, renO, belowM, seval, -Int.reduceToNat, B3, B4, B9, B21, B53, B5, B100, bunN, z1r] | refine DR_q _ ?_ | (refine Fk.fk ?_ ?_ <;> intro hg <;> (try simp only [hg]) <;> (try simp only [bunB] at hg) <;> try (exfalso; first | omega | exact Bool.noConfusion hg | exact hg trivial)) | refine And.intro (by omega) ?_ | omega
            refine ⟨(f, m + 1, ⟨out1, delta1 + 1, bias1, h1'⟩), ⟨hL, by dsimp only; omega, ?_⟩, by dsimp only; omega, (by simp [wk, wkT, wkM, noF, isF, get, z0e, belowM, below, belows, I64, I32, Bv, U8, Sv] <;> try omega)⟩
            rw [← hv]
            unfold zc4
            rw [← heq]
        · have hv' : out = zmr l := by
            rw [← hv]
            cases f with
            | zero => rfl
            | succ f => rw [enF, if_neg hlt]
          repeat' first | simp (maxSteps := 4000000) (disch := omega) only [bunL, bunD, bun, ↓z04, ↓z00, z02, findLabel, ↓reduceIte, imp, shift, z0b, z0a, unown, names, z06, below, noF, isF, z03, z08, z07, ren, givL, updM, z0c, renO, belowM, seval, -Int.reduceToNat, B3, B4, B9, B21, B53, B5, B100, bunN, z1r] | refine DR_q _ ?_ | (refine Fk.fk ?_ ?_ <;> intro hg <;> (try simp only [hg]) <;> (try simp only [bunB] at hg) <;> try (exfalso; first | omega | exact Bool.noConfusion hg | exact hg trivial)) | refine And.intro (by omega) ?_ | omega
          rw [hv']
end Go.AE
end
