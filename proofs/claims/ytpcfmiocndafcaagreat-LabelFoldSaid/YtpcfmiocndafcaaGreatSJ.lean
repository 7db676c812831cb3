/- Contracts of functions that the laws of this seat reach, and plain laws of what they compute. No condition beyond each statement's own. -/
import Derived.Test.YtpcfmiocndafcaaGreatSG
import Derived.Test.YtpcfmiocndafcaaGreatXA
import Derived.Test.YtpcfmiocndafcaaGreatXE
import Derived.Test.YtpcfmiocndafcaaGreatV1
set_option linter.unusedVariables false
set_option linter.unusedSimpArgs false
section
namespace Go.AE
open Go.Proofs
set_option maxRecDepth 20000
set_option maxHeartbeats 8000000
set_option linter.unusedSimpArgs false
end Go.AE
end
section
namespace Go.AE
open Go.Proofs
set_option maxRecDepth 20000
set_option maxHeartbeats 8000000
set_option linter.unusedSimpArgs false
theorem asc_chk : ((List.range 128).all fun n : Nat => decide (one1 false (n : Int) = [(n : Int)]) && decide (one1 true (n : Int) = [(n : Int)]) && decide (cls (n : Int) = 0)) = true := by decide +kernel
theorem asc_one {r : Int} (h : 0 ≤ r) (h' : r < 128) : (∀ soft, one1 soft r = [r]) ∧ cls r = 0 := by
  have := List.all_eq_true.1 asc_chk r.toNat (List.mem_range.2 (by omega))
  simp only [Bool.and_eq_true, decide_eq_true_eq] at this
  rw [show ((r.toNat : Nat) : Int) = r by omega] at this
  exact ⟨fun soft => by cases soft; exact this.1.1; exact this.1.2, this.2⟩
def asc (s : List UInt8) : List Int := s.map fun c => (c.toNat : Int)
theorem one_asc (c : UInt8) (t : List UInt8) (h : c.toNat < 128) : one (c :: t) = some ((c.toNat : Int), 1) := by
  have hl : lead (c.toNat : Int) = (0, (c.toNat : Int)) := by unfold lead; rw [if_pos (by omega)]
  unfold one
  simp only [hl]
  have hr : rlen (c.toNat : Int) = 1 := by
    simp (disch := omega) [rlen, right]
    omega
  simp [z49, hr]
theorem zj6 : ∀ (f : Nat) (s : List UInt8) (a : Int), s.length < f → (∀ c ∈ s, c.toNat < 128) → z12 f a s = (asc s, -1)
  | 0, _, _, h, _ => by omega
  | f + 1, [], _, _, _ => rfl
  | f + 1, c :: t, a, h, hc => by
    simp only [List.length_cons] at h
    rw [z12, if_neg (by simp), one_asc c t (hc c (by simp))]
    simp only [z67, List.drop_succ_cons, List.drop_zero]
    rw [zj6 f t _ (by omega) (fun d hd => hc d (by simp [hd]))]
    rfl
theorem pr_chk : (splits.all fun s => s.2.2.2.1 || s.2.2.2.2 || decide (128 ≤ s.2.2.1) || decide (s.2.2.1 = 0)) = true := by decide +kernel
theorem asc_mem {s : List UInt8} (h : ∀ c ∈ s, c.toNat < 128) : ∀ r ∈ asc s, 0 ≤ r ∧ r < 128 := fun r hr => by
  obtain ⟨c, hc, rfl⟩ := List.mem_map.1 hr
  have := h c hc
  omega
theorem zuo {soft : Bool} : ∀ {l : List Int}, (∀ r ∈ l, 0 ≤ r ∧ r < 128) → z0v soft l = l
  | [], _ => rfl
  | a :: l, h => by
    have := zuo (soft := soft) (l := l) (fun r hr => h r (by simp [hr]))
    unfold z0v at this ⊢
    rw [List.flatMap_cons, this, (asc_one (h a (by simp)).1 (h a (by simp)).2).1 soft]; rfl
theorem ord_asc : ∀ {l : List Int}, (∀ r ∈ l, 0 ≤ r ∧ r < 128) → ordL l = l
  | [], _ => rfl
  | a :: l, h => by
    have := ord_asc (l := l) (fun r hr => h r (by simp [hr]))
    unfold ordL at this ⊢
    rw [ordF, if_neg (by rw [(asc_one (h a (by simp)).1 (h a (by simp)).2).2]; omega), this]; rfl
theorem mk2_asc {b x : Int} (h0 : 0 ≤ x) (h1 : x < 128) : (mk2 b x).2 = false := by
  unfold mk2
  rw [if_neg (by omega), if_neg (by omega)]
  have hn : splits.find? (z3o b x) = none := by
    by_cases hx : x = 0
    · subst hx; exact pair_zero b
    · refine List.find?_eq_none.2 fun s hs hp => ?_
      have := List.all_eq_true.1 pr_chk s hs
      simp only [z3o, Bool.and_eq_true, Bool.not_eq_true', beq_iff_eq] at hp
      rw [hp.1.1.1, hp.1.1.2, hp.2] at this
      simp at this
      omega
  unfold pr
  rw [hn]; rfl
theorem join_asc {l : List Int} (h : ∀ r ∈ l, 0 ≤ r ∧ r < 128) : z98 l = l := by
  have key : ∀ (l : List Int) (s : JS), (∀ r ∈ l, 0 ≤ r ∧ r < 128) → (l.foldl z3c s).out = s.out ++ l := fun l => by
    induction l with
    | nil => intro s _; simp
    | cons x l ih =>
      intro s hl
      have hs : z3c s x = s.put x := by
        unfold z3c
        split
        · rfl
        · rw [mk2_asc (hl x (by simp)).1 (hl x (by simp)).2]
          split <;> simp
      rw [List.foldl_cons, ih _ (fun r hr => hl r (by simp [hr])), hs, z7e]; simp
  exact key l _ h
theorem str_asc {s : List UInt8} (h : ∀ c ∈ s, c.toNat < 128) : strS (asc s) = s ∧ z1m (asc s) = true := by
  have hok : z1m (asc s) = true := List.all_eq_true.2 fun r hr => by
    have := asc_mem h r hr
    exact (z2q _).2 (by omega)
  refine ⟨?_, hok⟩
  unfold strS
  rw [if_pos hok]
  clear hok
  induction s with
  | nil => rfl
  | cons c t ih =>
    have hc := h c (by simp)
    have he : enc (c.toNat : Int) = [c] := by
      unfold enc
      rw [if_pos ((z2q _).2 (by omega)), if_pos (by omega)]
      have : ofI (c.toNat : Int) = c := by
        apply UInt8.toNat.inj
        have := c.toNat_lt
        simp [ofI]
      rw [this]
    have := ih (fun d hd => h d (by simp [hd]))
    unfold asc at this ⊢
    rw [List.map_cons, List.flatMap_cons, he, this]; rfl
end Go.AE
end
section
namespace Go.AE
open Go.Proofs
set_option maxRecDepth 20000
set_option maxHeartbeats 8000000
set_option linter.unusedSimpArgs false
theorem zus (k : Nat) : imps k z0q = (z0q, []) := rfl
theorem tb_set2 (a b c d e : AV) : setCells [a, b, c, d, e] 0 z0q = z0q := rfl
theorem zjg (k : Nat) : shifts k z0q = z0q := rfl
theorem tbB2 : type_of% (And.intro @tbB (And.intro @zus (And.intro @zjg @tb_set2))) := (And.intro @tbB (And.intro @zus (And.intro @zjg @tb_set2)))
theorem nar_spec (r : Int) (hr : okR r) : Spec Tryz.prog 79 [.ag z0q, I32 r] (I32 (nar r)) := by
  have hs := z95 r
  rw [← z0l] at hs
  refine z0g (z := false) (ts := [.tmp 4]) ok1 Tryz.func79 rfl rfl (by decide +kernel) (by simp [Tryz.ntmps79]) rfl ?_
  cases hw : wide r with
  | true =>
    have hw' : 65281 ≤ r ∧ r ≤ 65374 := by simpa [wide] using hw
    have e : nar r = (spl r).1.2.1 := by unfold nar; rw [hw, (zby hw).1]; rfl
    rw [e]
    repeat' first | refine z06 (hs) ?_ ?_ | simp (maxSteps := 4000000) (disch := omega) only [bunL, bunD, bun, ↓z04, ↓z01, z02, findLabel, ↓reduceIte, imp, shift, z0b, z0a, unown, names, z07, below, noF, isF, z03, z09, z08, ren, givL, updM, z0c, renO, belowM, seval, -Int.reduceToNat, D102, bunN, tbB2, List.map_nil, List.nil_append, z0d] | exact z0f _ | refine z0e _ _ ?_ | exact Cln.cl | refine z05 _ ?_ | refine z00 _ _ ?_ ?_ | refine DR_q _ ?_ | (refine Fk.fk ?_ ?_ <;> intro hg <;> (try simp only [hg]) <;> (try simp only [bunB] at hg) <;> try (exfalso; first | omega | exact Bool.noConfusion hg | exact hg trivial)) | refine And.intro (by omega) ?_ | omega
    all_goals trace_state
  | false =>
    have hw' : ¬ (65281 ≤ r ∧ r ≤ 65374) := by simpa [wide] using hw
    have e : nar r = r := by unfold nar; rw [hw]; rfl
    rw [e]
    repeat' first | refine z06 (hs) ?_ ?_ | simp (maxSteps := 4000000) (disch := omega) only [bunL, bunD, bun, ↓z04, ↓z01, z02, findLabel, ↓reduceIte, imp, shift, z0b, z0a, unown, names, z07, below, noF, isF, z03, z09, z08, ren, givL, updM, z0c, renO, belowM, seval, -Int.reduceToNat, D102, bunN, tbB2, List.map_nil, List.nil_append, z0d] | exact z0f _ | refine z0e _ _ ?_ | exact Cln.cl | refine z05 _ ?_ | refine z00 _ _ ?_ ?_ | refine DR_q _ ?_ | (refine Fk.fk ?_ ?_ <;> intro hg <;> (try simp only [hg]) <;> (try simp only [bunB] at hg) <;> try (exfalso; first | omega | exact Bool.noConfusion hg | exact hg trivial)) | refine And.intro (by omega) ?_ | omega
    all_goals first | omega | trace_state
theorem zve (l : List Int) (hl : l.length ≤ 100000) (hr : ∀ r ∈ l, okR r) : Spec Tryz.prog 77 [.sl l.length (l.map I32), .fn 79 [.ag z0q] []] (.own 21 1 l.length ((l.map nar).map I32)) := by
  refine z0g (z := false) (ts := [.tmp 4]) ok1 Tryz.func77 rfl rfl (by decide +kernel) (by simp [Tryz.ntmps77]) rfl ?_
  repeat' first | simp (maxSteps := 4000000) (disch := omega) only [bunL, bunD, bun, ↓z04, ↓z01, z02, findLabel, ↓reduceIte, imp, shift, z0b, z0a, unown, names, z07, below, noF, isF, z03, z09, z08, ren, givL, updM, z0c, renO, belowM, seval, -Int.reduceToNat, B3, B21, B41, B100, bunN, tbB2, List.map_nil, List.nil_append, z0d] | refine DR_q _ ?_ | (refine Fk.fk ?_ ?_ <;> intro hg <;> (try simp only [hg]) <;> (try simp only [bunB] at hg) <;> try (exfalso; first | omega | exact Bool.noConfusion hg | exact hg trivial)) | refine And.intro (by omega) ?_ | omega
  refine z0m (fun i : Nat => ⟨[(1, .fn 79 [.ag z0q] []), (5, .ref 1 0 i), (8, .sl l.length (l.map I32)), (9, I64 l.length), (10, I64 i)], [.dead, .arr 21 1 (((l.take i).map nar).map I32)]⟩) (fun i => i ≤ l.length) (fun i => l.length - i) 0 (by simp) (by (simp (disch := omega) [wk, wkT, wkM, noF, isF, get, z0h, belowM, below, belows, I64, I32, Bv, U8, Sv, z0i] <;> try omega)) ?_
  intro i hi
  have hlt0 : (l.take i).length = i := by simp; omega
  by_cases hlt : i < l.length
  · have ht : (l.take (i + 1)).map nar = (l.take i).map nar ++ [nar (l.getD i 0)] := by rw [z1p l i 0 hlt, List.map_append]; rfl
    have hg0 : okR (l.getD i 0) := hr _ (by simp [List.getD, hlt])
    have hs := nar_spec (l.getD i 0) hg0
    repeat' first | refine z06 (hs) ?_ ?_ | simp (maxSteps := 4000000) (disch := omega) only [bunL, bunD, bun, ↓z04, ↓z01, z02, findLabel, ↓reduceIte, imp, shift, z0b, z0a, unown, names, z07, below, noF, isF, z03, z09, z08, ren, givL, updM, z0c, renO, belowM, seval, -Int.reduceToNat, B3, B21, B41, B100, bunN, tbB2, List.map_nil, List.nil_append, z0d] | exact z0f _ | refine z0e _ _ ?_ | exact Cln.cl | refine z05 _ ?_ | refine z00 _ _ ?_ ?_ | refine DR_q _ ?_ | (refine Fk.fk ?_ ?_ <;> intro hg <;> (try simp only [hg]) <;> (try simp only [bunB] at hg) <;> try (exfalso; first | omega | exact Bool.noConfusion hg | exact hg trivial)) | refine And.intro (by omega) ?_ | omega
    refine ⟨i + 1, by omega, by omega, ?_⟩
    rw [ht]
    (simp (disch := omega) [wk, wkT, wkM, noF, isF, get, z0h, belowM, below, belows, I64, I32, Bv, U8, Sv, List.map_append, z0i] <;> try omega)
  · have e : i = l.length := by omega
    subst e
    rw [List.take_length] at *
    repeat' first | simp (maxSteps := 4000000) (disch := omega) only [bunL, bunD, bun, ↓z04, ↓z01, z02, findLabel, ↓reduceIte, imp, shift, z0b, z0a, unown, names, z07, below, noF, isF, z03, z09, z08, ren, givL, updM, z0c, renO, belowM, seval, -Int.reduceToNat, B3, B21, B41, B100, bunN, tbB2, List.map_nil, List.nil_append, z0d] | refine DR_q _ ?_ | (refine Fk.fk ?_ ?_ <;> intro hg <;> (try simp only [hg]) <;> (try simp only [bunB] at hg) <;> try (exfalso; first | omega | exact Bool.noConfusion hg | exact hg trivial)) | refine And.intro (by omega) ?_ | omega
theorem zvd (l : List Int) (hl : l.length ≤ 100000) (hr : ∀ r ∈ l, okR r) : Spec Tryz.prog 77 [.sl l.length (l.map I32), .fn 78 [.ag z0q] []] (.own 21 1 l.length ((l.map low).map I32)) := by
  refine z0g (z := false) (ts := [.tmp 4]) ok1 Tryz.func77 rfl rfl (by decide +kernel) (by simp [Tryz.ntmps77]) rfl ?_
  repeat' first | simp (maxSteps := 4000000) (disch := omega) only [bunL, bunD, bun, ↓z04, ↓z01, z02, findLabel, ↓reduceIte, imp, shift, z0b, z0a, unown, names, z07, below, noF, isF, z03, z09, z08, ren, givL, updM, z0c, renO, belowM, seval, -Int.reduceToNat, B3, B21, B41, B100, bunN, tbB2, List.map_nil, List.nil_append, z0d] | refine DR_q _ ?_ | (refine Fk.fk ?_ ?_ <;> intro hg <;> (try simp only [hg]) <;> (try simp only [bunB] at hg) <;> try (exfalso; first | omega | exact Bool.noConfusion hg | exact hg trivial)) | refine And.intro (by omega) ?_ | omega
  refine z0m (fun i : Nat => ⟨[(1, .fn 78 [.ag z0q] []), (5, .ref 1 0 i), (8, .sl l.length (l.map I32)), (9, I64 l.length), (10, I64 i)], [.dead, .arr 21 1 (((l.take i).map low).map I32)]⟩) (fun i => i ≤ l.length) (fun i => l.length - i) 0 (by simp) (by (simp (disch := omega) [wk, wkT, wkM, noF, isF, get, z0h, belowM, below, belows, I64, I32, Bv, U8, Sv, z0i] <;> try omega)) ?_
  intro i hi
  have hlt0 : (l.take i).length = i := by simp; omega
  by_cases hlt : i < l.length
  · have ht : (l.take (i + 1)).map low = (l.take i).map low ++ [low (l.getD i 0)] := by rw [z1p l i 0 hlt, List.map_append]; rfl
    have hg0 : okR (l.getD i 0) := hr _ (by simp [List.getD, hlt])
    have hs := zw7 (l.getD i 0)
    rw [← z0l] at hs
    repeat' first | refine z06 (hs) ?_ ?_ | simp (maxSteps := 4000000) (disch := omega) only [bunL, bunD, bun, ↓z04, ↓z01, z02, findLabel, ↓reduceIte, imp, shift, z0b, z0a, unown, names, z07, below, noF, isF, z03, z09, z08, ren, givL, updM, z0c, renO, belowM, seval, -Int.reduceToNat, B3, B21, B41, B100, bunN, tbB2, List.map_nil, List.nil_append, z0d] | exact z0f _ | refine z0e _ _ ?_ | exact Cln.cl | refine z05 _ ?_ | refine z00 _ _ ?_ ?_ | refine DR_q _ ?_ | (refine Fk.fk ?_ ?_ <;> intro hg <;> (try simp only [hg]) <;> (try simp only [bunB] at hg) <;> try (exfalso; first | omega | exact Bool.noConfusion hg | exact hg trivial)) | refine And.intro (by omega) ?_ | omega
    refine ⟨i + 1, by omega, by omega, ?_⟩
    rw [ht]
    (simp (disch := omega) [wk, wkT, wkM, noF, isF, get, z0h, belowM, below, belows, I64, I32, Bv, U8, Sv, List.map_append, z0i] <;> try omega)
  · have e : i = l.length := by omega
    subst e
    rw [List.take_length] at *
    repeat' first | simp (maxSteps := 4000000) (disch := omega) only [bunL, bunD, bun, ↓z04, ↓z01, z02, findLabel, ↓reduceIte, imp, shift, z0b, z0a, unown, names, z07, below, noF, isF, z03, z09, z08, ren, givL, updM, z0c, renO, belowM, seval, -Int.reduceToNat, B3, B21, B41, B100, bunN, tbB2, List.map_nil, List.nil_append, z0d] | refine DR_q _ ?_ | (refine Fk.fk ?_ ?_ <;> intro hg <;> (try simp only [hg]) <;> (try simp only [bunB] at hg) <;> try (exfalso; first | omega | exact Bool.noConfusion hg | exact hg trivial)) | refine And.intro (by omega) ?_ | omega
theorem zwx (l : List Int) (hl : l.length ≤ 100000) (hr : ∀ r ∈ l, okR r) : Spec Tryz.prog 53 [tab, .sl l.length (l.map I32)] (.own 21 1 l.length ((l.map nar).map I32)) := by
  rw [← z0l]
  have h := zve l hl hr
  refine z0g (z := false) (ts := [.tmp 4]) ok1 Tryz.func53 rfl rfl (by decide +kernel) (by simp [Tryz.ntmps53]) rfl ?_
  repeat' first | refine z06 (h) ?_ ?_ | simp (maxSteps := 4000000) (disch := omega) only [bunL, bunD, bun, ↓z04, ↓z01, z02, findLabel, ↓reduceIte, imp, shift, z0b, z0a, unown, names, z07, below, noF, isF, z03, z09, z08, ren, givL, updM, z0c, renO, belowM, seval, -Int.reduceToNat, B21, B41, B100, D102, bunN, tbB2, List.map_nil, List.nil_append, z0d] | exact z0f _ | refine z0e _ _ ?_ | exact Cln.cl | refine z05 _ ?_ | refine z00 _ _ ?_ ?_ | refine DR_q _ ?_ | (refine Fk.fk ?_ ?_ <;> intro hg <;> (try simp only [hg]) <;> (try simp only [bunB] at hg) <;> try (exfalso; first | omega | exact Bool.noConfusion hg | exact hg trivial)) | refine And.intro (by omega) ?_ | omega
  all_goals trace_state
theorem zmz (l : List Int) (hl : l.length ≤ 100000) (hr : ∀ r ∈ l, okR r) : Spec Tryz.prog 52 [tab, .sl l.length (l.map I32)] (.own 21 1 l.length ((l.map low).map I32)) := by
  rw [← z0l]
  have h := zvd l hl hr
  refine z0g (z := false) (ts := [.tmp 4]) ok1 Tryz.func52 rfl rfl (by decide +kernel) (by simp [Tryz.ntmps52]) rfl ?_
  repeat' first | refine z06 (h) ?_ ?_ | simp (maxSteps := 4000000) (disch := omega) only [bunL, bunD, bun, ↓z04, ↓z01, z02, findLabel, ↓reduceIte, imp, shift, z0b, z0a, unown, names, z07, below, noF, isF, z03, z09, z08, ren, givL, updM, z0c, renO, belowM, seval, -Int.reduceToNat, D29, B21, B41, B100, bunN, tbB2, List.map_nil, List.nil_append, z0d] | exact z0f _ | refine z0e _ _ ?_ | exact Cln.cl | refine z05 _ ?_ | refine z00 _ _ ?_ ?_ | refine DR_q _ ?_ | (refine Fk.fk ?_ ?_ <;> intro hg <;> (try simp only [hg]) <;> (try simp only [bunB] at hg) <;> try (exfalso; first | omega | exact Bool.noConfusion hg | exact hg trivial)) | refine And.intro (by omega) ?_ | omega
  all_goals trace_state
end Go.AE
end
section
namespace Go.AE
open Go.Proofs
set_option maxRecDepth 20000
set_option maxHeartbeats 8000000
set_option linter.unusedSimpArgs false
def plC (c : UInt8) : UInt8 := if 65 ≤ c.toNat ∧ c.toNat ≤ 90 then c + 32 else c
def plS (s : List UInt8) : List UInt8 := s.map plC
theorem zpr {c : UInt8} (h : 65 ≤ c.toNat ∧ c.toNat ≤ 90) : (plC c).toNat = c.toNat + 32 := by
  have e : (32 : UInt8).toNat = 32 := rfl
  unfold plC; rw [if_pos h, UInt8.toNat_add, e]; omega
theorem zu6 {c : UInt8} (h : ¬ (65 ≤ c.toNat ∧ c.toNat ≤ 90)) : plC c = c := by unfold plC; rw [if_neg h]
theorem zps (c : UInt8) : Spec Tryz.prog 66 [U8 c] (U8 (plC c)) := by
  refine z0g (z := false) (ts := [.tmp 2]) ok1 Tryz.func66 rfl rfl (by decide +kernel) (by simp [Tryz.ntmps66]) rfl ?_
  have hc := zbd c
  by_cases h : 65 ≤ c.toNat ∧ c.toNat ≤ 90
  · have e := zpr h
    repeat' first | simp (maxSteps := 4000000) (disch := omega) only [bunL, bunD, bun, ↓z04, ↓z01, z02, findLabel, ↓reduceIte, imp, shift, z0b, z0a, unown, names, z07, below, noF, isF, z03, z09, z08, ren, givL, updM, z0c, renO, belowM, seval, -Int.reduceToNat, B4, B5, bunN, tbB2, List.map_nil, List.nil_append] | refine DR_q _ ?_ | (refine Fk.fk ?_ ?_ <;> intro hg <;> (try simp only [hg]) <;> (try simp only [bunB] at hg) <;> try (exfalso; first | omega | exact Bool.noConfusion hg | exact hg trivial)) | refine And.intro (by omega) ?_ | omega
    all_goals first | omega | (congr 3; omega) | trace_state
  · rw [zu6 h]
    repeat' first | simp (maxSteps := 4000000) (disch := omega) only [bunL, bunD, bun, ↓z04, ↓z01, z02, findLabel, ↓reduceIte, imp, shift, z0b, z0a, unown, names, z07, below, noF, isF, z03, z09, z08, ren, givL, updM, z0c, renO, belowM, seval, -Int.reduceToNat, B4, B5, bunN, tbB2, List.map_nil, List.nil_append] | refine DR_q _ ?_ | (refine Fk.fk ?_ ?_ <;> intro hg <;> (try simp only [hg]) <;> (try simp only [bunB] at hg) <;> try (exfalso; first | omega | exact Bool.noConfusion hg | exact hg trivial)) | refine And.intro (by omega) ?_ | omega
    all_goals first | omega | trace_state
theorem zox (s : List UInt8) (hl : s.length ≤ 100000) : Spec Tryz.prog 65 [.sl s.length (s.map U8), .fn 66 [] []] (.own 5 1 s.length ((plS s).map U8)) := by
  refine z0g (z := false) (ts := [.tmp 4]) ok1 Tryz.func65 rfl rfl (by decide +kernel) (by simp [Tryz.ntmps65]) rfl ?_
  repeat' first | simp (maxSteps := 4000000) (disch := omega) only [bunL, bunD, bun, ↓z04, ↓z01, z02, findLabel, ↓reduceIte, imp, shift, z0b, z0a, unown, names, z07, below, noF, isF, z03, z09, z08, ren, givL, updM, z0c, renO, belowM, seval, -Int.reduceToNat, B3, B5, B86, B88, bunN, tbB2, List.map_nil, List.nil_append] | refine DR_q _ ?_ | (refine Fk.fk ?_ ?_ <;> intro hg <;> (try simp only [hg]) <;> (try simp only [bunB] at hg) <;> try (exfalso; first | omega | exact Bool.noConfusion hg | exact hg trivial)) | refine And.intro (by omega) ?_ | omega
  refine z0m (fun i : Nat => ⟨[(1, .fn 66 [] []), (5, .ref 1 0 i), (8, .sl s.length (s.map U8)), (9, I64 s.length), (10, I64 i)], [.dead, .arr 5 1 ((plS (s.take i)).map U8)]⟩) (fun i => i ≤ s.length) (fun i => s.length - i) 0 (by simp) (by (simp (disch := omega) [wk, wkT, wkM, noF, isF, get, z0h, belowM, below, belows, I64, I32, Bv, U8, Sv, plS] <;> try omega)) ?_
  intro i hi
  have hlt0 : (s.take i).length = i := by simp; omega
  have hlp : (plS (s.take i)).length = i := by simp [plS]; omega
  by_cases hlt : i < s.length
  · have ht : plS (s.take (i + 1)) = plS (s.take i) ++ [plC (s.getD i 0)] := by unfold plS; rw [z1p s i 0 hlt, List.map_append]; rfl
    have hs := zps (s.getD i 0)
    repeat' first | refine z06 (hs) ?_ ?_ | simp (maxSteps := 4000000) (disch := omega) only [bunL, bunD, bun, ↓z04, ↓z01, z02, findLabel, ↓reduceIte, imp, shift, z0b, z0a, unown, names, z07, below, noF, isF, z03, z09, z08, ren, givL, updM, z0c, renO, belowM, seval, -Int.reduceToNat, hlp, B3, B5, B86, B88, bunN, tbB2, List.map_nil, List.nil_append] | exact z0f _ | refine z0e _ _ ?_ | exact Cln.cl | refine z05 _ ?_ | refine z00 _ _ ?_ ?_ | refine DR_q _ ?_ | (refine Fk.fk ?_ ?_ <;> intro hg <;> (try simp only [hg]) <;> (try simp only [bunB] at hg) <;> try (exfalso; first | omega | exact Bool.noConfusion hg | exact hg trivial)) | refine And.intro (by omega) ?_ | omega
    refine ⟨i + 1, by omega, by omega, ?_⟩
    rw [ht]
    (simp (disch := omega) [wk, wkT, wkM, noF, isF, get, z0h, belowM, below, belows, I64, I32, Bv, U8, Sv, List.map_append] <;> try omega)
  · have e : i = s.length := by omega
    subst e
    rw [List.take_length] at *
    repeat' first | simp (maxSteps := 4000000) (disch := omega) only [bunL, bunD, bun, ↓z04, ↓z01, z02, findLabel, ↓reduceIte, imp, shift, z0b, z0a, unown, names, z07, below, noF, isF, z03, z09, z08, ren, givL, updM, z0c, renO, belowM, seval, -Int.reduceToNat, hlp, B3, B5, B86, B88, bunN, tbB2, List.map_nil, List.nil_append] | refine DR_q _ ?_ | (refine Fk.fk ?_ ?_ <;> intro hg <;> (try simp only [hg]) <;> (try simp only [bunB] at hg) <;> try (exfalso; first | omega | exact Bool.noConfusion hg | exact hg trivial)) | refine And.intro (by omega) ?_ | omega
theorem zpt (s : List UInt8) (hl : s.length ≤ 100000) : Spec Tryz.prog 29 [Sv s] (Sv (plS s)) := by
  have h := zox s hl
  have hlp : (plS s).length = s.length := by simp [plS]
  have htk : List.take s.length ((plS s).map U8) = (plS s).map U8 := List.take_of_length_le (by simp [plS])
  refine z0g (z := false) (ts := [.tmp 2]) ok1 Tryz.func29 rfl rfl (by decide +kernel) (by simp [Tryz.ntmps29]) rfl ?_
  repeat' first | refine z06 (h) ?_ ?_ | simp (maxSteps := 4000000) (disch := omega) only [bunL, bunD, bun, ↓z04, ↓z01, z02, findLabel, ↓reduceIte, imp, shift, z0b, z0a, unown, names, z07, below, noF, isF, z03, z09, z08, ren, givL, updM, z0c, renO, belowM, seval, -Int.reduceToNat, hlp, htk, B9, B5, B86, B88, bunN, tbB2, List.map_nil, List.nil_append] | exact z0f _ | refine z0e _ _ ?_ | exact Cln.cl | refine z05 _ ?_ | refine z00 _ _ ?_ ?_ | refine DR_q _ ?_ | (refine Fk.fk ?_ ?_ <;> intro hg <;> (try simp only [hg]) <;> (try simp only [bunB] at hg) <;> try (exfalso; first | omega | exact Bool.noConfusion hg | exact hg trivial)) | refine And.intro (by omega) ?_ | omega
theorem lw_okR {l : List Int} (h : z1m l = true) : ∀ r ∈ l, okR r := fun r hr => by
  have := (z2q r).1 (z59.1 h r hr); unfold okR; omega
theorem nar_right {r : Int} (h : right r = true) : right (nar r) = true := by
  unfold nar
  split
  · rename_i hw
    have : 65281 ≤ r ∧ r ≤ 65374 := by simpa [wide] using hw
    exact zb2 (by omega)
  · exact h
theorem map_lw (l : List Int) : (l.map nar).map low = l.map lw := by rw [List.map_map]; rfl
theorem zhy (s : List UInt8) (hs : s.length ≤ 10000000) (hl : (runes s).1.length ≤ 10000) : Spec Tryz.prog 16 [tab, Sv s] (.tup [Sv (z2j s).1, Bv (z2j s).2]) := by
  have hr := z2o s
  have h1 := zwx (runes s).1 (by omega) (lw_okR hr)
  have h2 := zmz ((runes s).1.map nar) (by rw [List.length_map]; omega) (lw_okR (z59.2 fun r hr' => by
    obtain ⟨a, ha, rfl⟩ := List.mem_map.1 hr'
    exact nar_right (z59.1 hr a ha)))
  rw [map_lw, List.length_map] at h2
  have h3 := z51 ((runes s).1.map lw) (by rw [List.length_map]; omega)
  rw [List.length_map] at h3
  have hn := z6a ((runes s).1.map lw)
  rw [List.length_map] at hn
  have hrr := z58 (zki hr)
  have h4 := zn3 (strS ((runes s).1.map lw)) (by omega) (by rw [hrr]; simp; omega)
  have hk1 : List.take (runes s).1.length (((runes s).1.map nar).map I32) = ((runes s).1.map nar).map I32 := List.take_of_length_le (by simp)
  have hk2 : List.take (runes s).1.length (((runes s).1.map lw).map I32) = ((runes s).1.map lw).map I32 := List.take_of_length_le (by simp)
  rw [← z0l] at h1 h2 h4 ⊢
  refine z0g (z := false) (ts := [.tmp 4, .tmp 5]) ok1 Tryz.func16 rfl rfl (by decide +kernel) (by simp [Tryz.ntmps16]) rfl ?_
  rw [foldS_eq]
  generalize strS ((runes s).1.map lw) = Z at *
  generalize z1m ((runes s).1.map lw) = zo at *
  generalize hf : z2k false true Z = fz at *
  clear hrr hn
  by_cases h0 : 0 ≤ (runes s).2
  · rw [if_pos h0]
    repeat' first | refine z06 (z2d s (by omega)) ?_ ?_ | simp (maxSteps := 4000000) (disch := omega) only [bunL, bunD, bun, ↓z04, ↓z01, z02, findLabel, ↓reduceIte, imp, shift, z0b, z0a, unown, names, z07, below, noF, isF, z03, z09, z08, ren, givL, updM, z0c, renO, belowM, seval, -Int.reduceToNat, B9, D29, B21, B41, bunN, tbB2, List.map_nil, List.nil_append] | exact z0f _ | refine z0e _ _ ?_ | exact Cln.cl | refine z05 _ ?_ | refine z00 _ _ ?_ ?_ | refine DR_q _ ?_ | (refine Fk.fk ?_ ?_ <;> intro hg <;> (try simp only [hg]) <;> (try simp only [bunB] at hg) <;> try (exfalso; first | omega | exact Bool.noConfusion hg | exact hg trivial)) | refine And.intro (by omega) ?_ | omega
    all_goals trace_state
  · rw [if_neg h0]
    repeat' first | refine z06 (z2d s (by omega)) ?_ ?_ | refine DR_p (.take 2 (.two 0 (.one 1 (.one 3 (.one 4 (.one 5 (.take 6 (.two 7 (.take 9 (.one 8 (.take 10 (.done)))) 8 (.one 7 (.take 9 (.take 10 (.done)))))))))) 1 (.two 0 (.one 3 (.one 4 (.one 5 (.take 6 (.two 7 (.take 9 (.one 8 (.take 10 (.done)))) 8 (.one 7 (.take 9 (.take 10 (.done))))))))) 3 (.one 0 (.one 4 (.one 5 (.take 6 (.two 7 (.take 9 (.one 8 (.take 10 (.done)))) 8 (.one 7 (.take 9 (.take 10 (.done)))))))))))) _ (by decide +kernel) ?_ | simp (maxSteps := 4000000) (disch := omega) only [bunL, bunD, bun, ↓z04, ↓z01, z02, findLabel, ↓reduceIte, imp, shift, z0b, z0a, unown, names, z07, below, noF, isF, z03, z09, z08, ren, givL, updM, z0c, renO, belowM, seval, -Int.reduceToNat, List.length_map, hk1, hk2, B9, D29, B21, B41, bunN, tbB2, List.map_nil, List.nil_append] | exact z0f _ | refine z0e _ _ ?_ | exact Cln.cl | refine z05 _ ?_ | refine z00 _ _ ?_ ?_ | refine DR_q _ ?_ | (refine Fk.fk ?_ ?_ <;> intro hg <;> (try simp only [hg]) <;> (try simp only [bunB] at hg) <;> try (exfalso; first | omega | exact Bool.noConfusion hg | exact hg trivial)) | refine And.intro (by omega) ?_ | omega
    repeat' refine And.intro ?_ ?_
    all_goals (repeat' first | refine z06 (h1) ?_ ?_ | refine z06 (h2) ?_ ?_ | refine z06 (h3) ?_ ?_ | refine z06 (h4) ?_ ?_ | simp (maxSteps := 4000000) (disch := omega) only [bunL, bunD, bun, ↓z04, ↓z01, z02, findLabel, ↓reduceIte, imp, shift, z0b, z0a, unown, names, z07, below, noF, isF, z03, z09, z08, ren, givL, updM, z0c, renO, belowM, seval, -Int.reduceToNat, List.length_map, hk1, hk2, B9, D29, B21, B41, bunN, tbB2, List.map_nil, List.nil_append] | exact z0f _ | refine z0e _ _ ?_ | exact Cln.cl | refine z05 _ ?_ | refine z00 _ _ ?_ ?_ | refine DR_q _ ?_ | (refine Fk.fk ?_ ?_ <;> intro hg <;> (try simp only [hg]) <;> (try simp only [bunB] at hg) <;> try (exfalso; first | omega | exact Bool.noConfusion hg | exact hg trivial)) | refine And.intro (by omega) ?_ | omega)
    all_goals (repeat' refine And.intro ?_ ?_)
    all_goals (repeat' first | refine z06 (h1) ?_ ?_ | refine z06 (h2) ?_ ?_ | refine z06 (h3) ?_ ?_ | refine z06 (h4) ?_ ?_ | simp (maxSteps := 4000000) (disch := omega) only [bunL, bunD, bun, ↓z04, ↓z01, z02, findLabel, ↓reduceIte, imp, shift, z0b, z0a, unown, names, z07, below, noF, isF, z03, z09, z08, ren, givL, updM, z0c, renO, belowM, seval, -Int.reduceToNat, List.length_map, hk1, hk2, B9, D29, B21, B41, bunN, tbB2, List.map_nil, List.nil_append] | exact z0f _ | refine z0e _ _ ?_ | exact Cln.cl | refine z05 _ ?_ | refine z00 _ _ ?_ ?_ | refine DR_q _ ?_ | (refine Fk.fk ?_ ?_ <;> intro hg <;> (try simp only [hg]) <;> (try simp only [bunB] at hg) <;> try (exfalso; first | omega | exact Bool.noConfusion hg | exact hg trivial)) | refine And.intro (by omega) ?_ | omega)
    all_goals trace_state
end Go.AE
end
section
namespace Go.AE
open Go.Proofs
set_option maxRecDepth 20000
set_option maxHeartbeats 8000000
set_option linter.unusedSimpArgs false
theorem z3n : Spec Tryz.prog 9 [] (.ag z0q) := new_spec
theorem zmb (s : List UInt8) (hs : s.length ≤ 10000) : Spec Tryz.prog 16 [tab, Sv s] (.tup [Sv (z2j s).1, Bv (z2j s).2]) := zhy s (by omega) (rl_le hs)
theorem zeb {s : List UInt8} (hs : (runes s).1.length ≤ 2500) (h : ¬ 0 ≤ (runes s).2) : ∃ X, z2j s = (X, true) ∧ X.length ≤ 40000 ∧ runes X = (z5b (runes s).1, -1) ∧ (runes X).1.length ≤ 10000 ∧ z2j X = (X, true) ∧ z2k false true X = (X, true) := by
  have h1 := z87 (runes s).1
  have h2 := z6a (z5b (runes s).1)
  have e1 := zea h
  have e2 := zvl h
  have h3 := z5m (s := s)
  rw [z4b h] at e1 e2
  exact ⟨strS (z5b (runes s).1), z4b h, by omega, h3, by rw [h3]; dsimp only; omega, e1, e2⟩
end Go.AE
end
section
namespace Go.AE
open Go.Proofs
set_option maxRecDepth 20000
set_option maxHeartbeats 8000000
set_option linter.unusedSimpArgs false
theorem eight_asc {s : List UInt8} (h8 : ¬ 0 ≤ eight s) : ∀ c ∈ s, c.toNat < 128 := by
  have key : ∀ (s : List UInt8) (k : Nat), ¬ 0 ≤ z5e k s → ∀ c ∈ s, c.toNat < 128 := fun s => by
    induction s with
    | nil => intro k _ c hc; cases hc
    | cons b l ih =>
      intro k h c hc
      rw [z5e] at h
      split at h
      · omega
      · rcases List.mem_cons.1 hc with rfl | hc
        · omega
        · exact ih (k + 1) h c hc
  exact key s 0 h8
theorem plC_big (c : UInt8) : 128 ≤ (plC c).toNat ↔ 128 ≤ c.toNat := by
  by_cases h : 65 ≤ c.toNat ∧ c.toNat ≤ 90
  · rw [zpr h]; omega
  · rw [zu6 h]
theorem plS_eight (s : List UInt8) : eight (plS s) = eight s := by
  have key : ∀ (s : List UInt8) (k : Nat), z5e k (plS s) = z5e k s := fun s => by
    induction s with
    | nil => intro k; rfl
    | cons c s ih =>
      intro k
      show (if 128 ≤ (plC c).toNat then (k : Int) else z5e (k + 1) (plS s)) = _
      rw [z5e, ih]
      simp only [plC_big]
  exact key s 0
theorem lw_asc {c : UInt8} (h : c.toNat < 128) : lw (c.toNat : Int) = ((plC c).toNat : Int) := by
  have := List.all_eq_true.1 (show ((List.range 128).all fun n => decide (lw (n : Int) = if 65 ≤ n ∧ n ≤ 90 then (n : Int) + 32 else n)) = true by decide +kernel) c.toNat (by simp; omega)
  have e := of_decide_eq_true this
  rw [e]
  by_cases h : 65 ≤ c.toNat ∧ c.toNat ≤ 90
  · rw [if_pos h, zpr h]; omega
  · rw [if_neg h, zu6 h]
theorem plS_asc {s : List UInt8} (h : ∀ c ∈ s, c.toNat < 128) : ∀ c ∈ plS s, c.toNat < 128 := fun c hc => by
  obtain ⟨a, ha, rfl⟩ := List.mem_map.1 hc
  have := plC_big a
  have := h a ha
  omega
theorem zv3 {s : List UInt8} (h : ∀ c ∈ s, c.toNat < 128) : (asc s).map lw = asc (plS s) := by
  induction s with
  | nil => rfl
  | cons c s ih =>
    show lw (c.toNat : Int) :: (asc s).map lw = ((plC c).toNat : Int) :: asc (plS s)
    rw [lw_asc (h c (by simp)), ih fun d hd => h d (List.mem_cons_of_mem _ hd)]
theorem formL_asc {s : List UInt8} (h : ∀ c ∈ s, c.toNat < 128) (soft join : Bool) : z54 soft join (asc s) = asc s := by
  have ha := asc_mem h
  unfold z54
  rw [zuo ha, ord_asc ha, join_asc ha]
  split <;> rfl
theorem znr {s : List UInt8} (h : ∀ c ∈ s, c.toNat < 128) : runes s = (asc s, -1) := zj6 _ _ _ (by omega) h
theorem ze9 {s : List UInt8} (h : ∀ c ∈ s, c.toNat < 128) : z2j s = (plS s, true) := by
  have hp := plS_asc h
  rw [z4b (by rw [znr h]; dsimp only; omega), znr h]
  dsimp only
  unfold z5b
  rw [zv3 h, formL_asc hp, (str_asc hp).1]
end Go.AE
end
section
namespace Go.AE
set_option linter.unusedSimpArgs false
def soB (r : Int) : Bool := (spl r).2 && ((spl r).1.2.2.2.1 || (spl r).1.2.2.2.2)
def lch (r : Int) : Bool := !soB r && (decide (2 ≤ cat r ∧ cat r ≤ 5) || r == 45)
structure Firm (c : Int) : Prop where
  fx : lw c = c
  one : one1 false c = [c]
  cl : cls c = 0
  l : ∀ a, (mk2 a c).2 = false
  r : ∀ b, (mk2 c b).2 = false
end Go.AE
end
section
namespace Go.AE
open Go.Proofs
set_option maxRecDepth 20000
set_option maxHeartbeats 8000000
set_option linter.unusedSimpArgs false
theorem zbq (r : Int) : Spec Tryz.prog 22 [tab, I32 r] (Bv (lch r)) := by
  have hs := z95 r
  have hc := zk0 r
  rw [← z0l] at hs hc ⊢
  refine z0g (z := false) (ts := [.tmp 4]) ok1 Tryz.func22 rfl rfl (by decide +kernel) (by simp [Tryz.ntmps22]) rfl ?_
  unfold lch soB
  cases h1 : (spl r).2 <;> cases h2 : (spl r).1.2.2.2.1 <;> cases h3 : (spl r).1.2.2.2.2
  all_goals
    repeat' first | refine z06 (hs) ?_ ?_ | refine z06 (hc) ?_ ?_ | simp (maxSteps := 4000000) (disch := omega) only [bunL, bunD, bun, ↓z04, ↓z01, z02, findLabel, ↓reduceIte, imp, shift, z0b, z0a, unown, names, z07, below, noF, isF, z03, z09, z08, ren, givL, updM, z0c, renO, belowM, seval, -Int.reduceToNat, h1, h2, h3, D29, bunN, Int.reduceToNat, tbB2, List.map_nil, List.nil_append, z0d] | exact z0f _ | refine z0e _ _ ?_ | exact Cln.cl | refine z05 _ ?_ | refine z00 _ _ ?_ ?_ | refine DR_q _ ?_ | (refine Fk.fk ?_ ?_ <;> intro hg <;> (try simp only [hg]) <;> (try simp only [bunB] at hg) <;> try (exfalso; first | omega | exact Bool.noConfusion hg | exact hg trivial)) | refine And.intro (by omega) ?_ | omega
  all_goals (congr 2; rw [Bool.eq_iff_iff]; simp only [Bool.or_eq_true, decide_eq_true_eq, beq_iff_eq, true_iff]; omega)
theorem need_at (L : List Int) (k : Nat) (hk : k < L.length) : need L (k : Int) = z6x L k := by
  unfold need
  rw [if_pos (by omega)]; rfl
end Go.AE
end
section
namespace Go.AE
open Go.Proofs
set_option maxRecDepth 20000
set_option maxHeartbeats 8000000
set_option linter.unusedSimpArgs false
theorem z0u : (Value.slice none 0 0).cells.toList = [Value.slice none 0 0] := rfl
theorem z1f : ((Value.slice none 0 0).cells.all fun x => x.oneCell') = true := by decide +kernel
theorem any_take {p : Nat → Bool} {i n : Nat} (h : ∀ j, j < i → p j = false) (hi : i < n) (hp : p i = true) : (List.range n).any p = true := List.any_eq_true.2 ⟨i, List.mem_range.2 hi, hp⟩
theorem any_none {p : Nat → Bool} {n : Nat} (h : ∀ j, j < n → p j = false) : (List.range n).any p = false := by
  rw [List.any_eq_false]
  intro k hk
  rw [h k (List.mem_range.1 hk)]; simp
end Go.AE
end
section
namespace Go.AE
set_option linter.unusedSimpArgs false
def z2f : List (Bool × Int) → Int
  | [] => 0
  | (b, e) :: l => if b then e else z2f l
def z9w (s : List UInt8) : Bool := (decide (1 ≤ s.length) && (s.take 1 == [45])) || (decide (1 ≤ s.length) && (s.drop (s.length - 1) == [45])) || (decide (3 < s.length) && ((s.take 4).drop 2 == [45, 45]))
def strK (L : List Int) (k : Nat) : Bool := z6x L k == 2 || (z6x L k == 0 && !lch (L.getD k 0))
def strL (L : List Int) : Bool := (List.range L.length).any (strK L)
def codB (s : List UInt8) : Bool := decide (eight s < 0) || !((z2k false true s).2 && ((z2k false true s).1 == s))
def za4 (s : List UInt8) : Int := z2f [(decide (0 ≤ (runes s).2), 7), (codB s, 4), (z9w s, 11), (cat ((runes s).1.getD 0 0) == 4, 10), (strL (runes s).1, 8), (hasB (runes s).1 && !zq2 (runes s).1, 9),
  (!z1m (runes s).1, 12), (decide (63 < 4 + (pnS (runes s).1).length), 5)]
theorem ze7 : ∀ {l : List (Bool × Int)}, (∀ p ∈ l, p.2 ≠ 0) → z2f l = 0 → ∀ p ∈ l, p.1 = false
  | [], _, _, p, hp => by cases hp
  | (b, e) :: l, h, h0, p, hp => by
    unfold z2f at h0
    cases b with
    | true => exact absurd h0 (h (true, e) (by simp))
    | false =>
      rcases List.mem_cons.1 hp with rfl | hp
      · rfl
      · exact ze7 (fun q hq => h q (List.mem_cons_of_mem _ hq)) h0 p hp
structure Wide (s : List UInt8) : Prop where
  at_ : ¬ 0 ≤ (runes s).2
  big : 0 ≤ eight s
  form : z2k false true s = (s, true)
  dash : z9w s = false
  mark : cat ((runes s).1.getD 0 0) ≠ 4
  chars : strL (runes s).1 = false
  bidi : (hasB (runes s).1 && !zq2 (runes s).1) = false
  len : 4 + (pnS (runes s).1).length ≤ 63
theorem zqh {s : List UInt8} (h : za4 s = 0) : Wide s := by
  have k := ze7 (l := [(decide (0 ≤ (runes s).2), 7), (codB s, 4), (z9w s, 11), (cat ((runes s).1.getD 0 0) == 4, 10), (strL (runes s).1, 8), (hasB (runes s).1 && !zq2 (runes s).1, 9),
    (!z1m (runes s).1, 12), (decide (63 < 4 + (pnS (runes s).1).length), 5)]) (by simp) h
  simp only [List.mem_cons, List.not_mem_nil, or_false, forall_eq_or_imp, forall_eq, decide_eq_false_iff_not] at k
  obtain ⟨k1, k2, k3, k4, k5, k6, k7, k8⟩ := k
  unfold codB at k2
  rw [Bool.or_eq_false_iff] at k2
  obtain ⟨k2, k9⟩ := k2
  simp only [decide_eq_false_iff_not, Bool.not_eq_false', Bool.and_eq_true, beq_iff_eq] at k2 k9
  exact ⟨k1, by omega, Prod.ext k9.2 k9.1, k3, by simpa using k4, k5, k6, by omega⟩
theorem zo8 {s : List UInt8} (h : Wide s) {k : Nat} (hk : k < (runes s).1.length) : z6x (runes s).1 k ≠ 2 ∧ (z6x (runes s).1 k = 0 → lch ((runes s).1.getD k 0) = true) := by
  have := List.any_eq_false.1 h.chars k (List.mem_range.2 hk)
  unfold strK at this
  simp only [Bool.or_eq_true, Bool.and_eq_true, beq_iff_eq, Bool.not_eq_true', not_or, not_and, Bool.not_eq_false] at this
  exact this
theorem lch_fx {r : Int} (h : lch r = true) : lw r = r ∧ cat r ≠ 1 ∧ (cat r = 0 ∨ cat r = 8 → r = 45) := by
  unfold lch at h
  simp only [Bool.and_eq_true, Bool.not_eq_true', Bool.or_eq_true, decide_eq_true_eq, beq_iff_eq] at h
  obtain ⟨h1, h2⟩ := h
  have hw : wide r = false := by
    cases hq : wide r with
    | false => rfl
    | true =>
      obtain ⟨_, a2, _, a4, _⟩ := zby hq
      unfold soB at h1
      rw [a2, a4] at h1
      cases h1
  have hc : cat r ≠ 1 := by
    rcases h2 with h2 | h2
    · omega
    · subst h2; decide +kernel
  refine ⟨?_, hc, ?_⟩
  · unfold lw nar
    rw [hw]
    exact low_fix hc
  · rintro (h | h)
    · rcases h2 with h2 | h2
      · omega
      · exact h2
    · rcases h2 with h2 | h2
      · omega
      · exact h2
theorem rl_fx {r : Int} (h : rl r ≠ .no) : lw r = r ∧ cat r ≠ 1 ∧ cat r ≠ 0 ∧ cat r ≠ 8 := by
  have key : ∀ x ∈ (expand 1632 1641 ++ expand 1776 1785 ++ [8205, 8204, 183, 885, 1523, 1524, 12539]), lw x = x ∧ cat x ≠ 1 ∧ cat x ≠ 0 ∧ cat x ≠ 8 := fun x hx => by
    have := List.all_eq_true.1 (show ((expand 1632 1641 ++ expand 1776 1785 ++ [8205, 8204, 183, 885, 1523, 1524, 12539]).all fun x => decide (lw x = x) && (decide (cat x ≠ 1) && (decide (cat x ≠ 0) && decide (cat x ≠ 8)))) = true by decide +kernel) x hx
    simp only [Bool.and_eq_true, decide_eq_true_eq] at this
    exact this
  rcases zkv r with ⟨q, _⟩ | ⟨_, q, _⟩ | ⟨q, _⟩ | ⟨q, _⟩ | ⟨q, _⟩ | ⟨q, _⟩ | ⟨q, _⟩ | ⟨q, _⟩ | ⟨q, _⟩ | ⟨_, q⟩
  · unfold arA at q
    simp only [Bool.and_eq_true, decide_eq_true_eq] at q
    exact key r (List.mem_append.2 (Or.inl (List.mem_append.2 (Or.inl (z3m q.1 q.2)))))
  · unfold arB at q
    simp only [Bool.and_eq_true, decide_eq_true_eq] at q
    exact key r (List.mem_append.2 (Or.inl (List.mem_append.2 (Or.inr (z3m q.1 q.2)))))
  all_goals first
    | (subst q; exact key _ (List.mem_append.2 (Or.inr (by simp))))
    | exact absurd q h
theorem zn2 {L : List Int} {k : Nat} (h : z6x L k ≠ 2) : z6x L k = 0 ∧ rl (L.getD k 0) = .no ∨ rl (L.getD k 0) ≠ .no := by
  by_cases hr : rl (L.getD k 0) = .no
  · left
    refine ⟨?_, hr⟩
    unfold z6x
    rw [if_pos hr]
  · right; exact hr
theorem zl7 {s : List UInt8} (h : Wide s) : ∀ r ∈ (runes s).1, lw r = r ∧ cat r ≠ 1 ∧ (cat r = 0 ∨ cat r = 8 → r = 45) := fun r hr => by
  obtain ⟨k, hk1, hk2⟩ := List.getElem_of_mem hr
  have e : (runes s).1.getD k 0 = r := by simp [List.getD, hk1, hk2]
  have hc := zo8 h hk1
  rcases zn2 hc.1 with ⟨q1, _⟩ | q
  · have := lch_fx (hc.2 q1)
    rwa [e] at this
  · rw [e] at q
    obtain ⟨a, b, c, d⟩ := rl_fx q
    exact ⟨a, b, fun h => by rcases h with h | h <;> contradiction⟩
theorem zg6 {s : List UInt8} (h : Wide s) : z2j s = (s, true) := by
  have e : z2j s = z2k false true s := by
    rw [z4b h.at_, z4d h.at_]
    unfold z5b
    rw [map_fix fun r hr => (zl7 h r hr).1]
  rw [e, h.form]
theorem zhp {s : List UInt8} (h : 0 ≤ eight s) : s ≠ [] := fun e => by subst e; simp [eight, z5e] at h
theorem wide_ne {s : List UInt8} (h : Wide s) : (runes s).1.length ≠ 0 := fun e => by
  have hb := z4v s
  have ha : (runes s).2 = -1 := (z7i s).resolve_right h.at_
  rw [ha, z4a, List.take_length] at hb
  have : (runes s).1 = [] := List.eq_nil_of_length_eq_zero e
  rw [this] at hb
  exact zhp h.big (by rw [← hb.2.1]; rfl)
end Go.AE
end
section
namespace Go.AE
set_option linter.unusedSimpArgs false
def ace : List UInt8 := [120, 110, 45, 45]
def aceB (s : List UInt8) : Bool := decide (4 ≤ s.length) && (s.take 4 == ace)
def ldh (c : UInt8) : Bool := (decide (97 ≤ c.toNat) && decide (c.toNat ≤ 122)) || (decide (65 ≤ c.toNat) && decide (c.toNat ≤ 90)) || (decide (48 ≤ c.toNat) && decide (c.toNat ≤ 57)) || c == 45
def plaV (s : List UInt8) : Int := z2f [(decide (s = []), 13), (decide (63 < s.length), 5), (!s.all ldh, 8), (z9w s, 11)]
def botF (X : List UInt8) : List UInt8 × List UInt8 × Int :=
  if 0 ≤ eight X then (ace ++ pnS (runes X).1, X, za4 X)
  else if aceB X = false then (X, X, plaV X)
  else match zd4 (X.drop 4) with
    | none => ([], [], 12)
    | some l => if 63 < X.length then ([], [], 5) else if za4 (strS l) ≠ 0 then ([], [], za4 (strS l)) else if pnS l ≠ X.drop 4 then ([], [], 12) else (X, strS l, 0)
def botV (s : List UInt8) : List UInt8 × List UInt8 × Int := if (z2j s).2 = false then ([], [], 7) else botF (z2j s).1
def toA (s : List UInt8) : List UInt8 × Int := if (botV s).2.2 ≠ 0 then ([], (botV s).2.2) else ((botV s).1, 0)
def toU (s : List UInt8) : List UInt8 × Int := if (botV s).2.2 ≠ 0 then ([], (botV s).2.2) else ((botV s).2.1, 0)
def kinV (s : List UInt8) : Int := if (toA s).2 ≠ 0 then 0 else if 0 ≤ eight s then 3 else if aceB (plS s) = true then 2 else 1
theorem zqe {s : List UInt8} (h : (botV s).2.2 ≠ 0) : toA s = ([], (botV s).2.2) ∧ toU s = ([], (botV s).2.2) := by unfold toA toU; rw [if_pos h, if_pos h]; exact ⟨rfl, rfl⟩
theorem zo5 {s : List UInt8} (h : (botV s).2.2 = 0) : toA s = ((botV s).1, 0) ∧ toU s = ((botV s).2.1, 0) := by unfold toA toU; rw [if_neg (by simp [h]), if_neg (by simp [h])]; exact ⟨rfl, rfl⟩
theorem zhc {s X : List UInt8} (h : z2j s = (X, true)) : botV s = botF X := by unfold botV; rw [h]; rfl
theorem zon {s : List UInt8} (h : 0 ≤ (runes s).2) : botV s = ([], [], 7) := by unfold botV z2j; rw [if_pos h]; rfl
theorem bot_form {s : List UInt8} (h : ¬ 0 ≤ (runes s).2) (join : Bool) : botV (z2k false join s).1 = botV s := by
  unfold botV
  rw [zhx h join]
theorem znp {s : List UInt8} (h : Wide s) : (runes s).1.getD 0 0 ≠ 45 := fun e => by
  have hn := wide_ne h
  have hb := z4v s
  have ha : (runes s).2 = -1 := (z7i s).resolve_right h.at_
  rw [ha, z4a, List.take_length] at hb
  have hs2 : strS (runes s).1 = (runes s).1.flatMap enc := by unfold strS; rw [if_pos hb.1]
  cases hq : (runes s).1 with
  | nil => rw [hq] at hn; simp at hn
  | cons r l =>
    rw [hq] at e
    have e : r = 45 := e
    subst e
    rw [hq, List.flatMap_cons] at hs2
    have h45 : enc 45 = [45] := by decide
    rw [h45] at hs2
    rw [hq] at hb
    have hd := h.dash
    have : s = 45 :: l.flatMap enc := by rw [← hb.2.1, hs2]; rfl
    rw [this] at hd
    simp [z9w] at hd
theorem soft_one {r : Int} (h : soB r = false) : one1 true r = one1 false r := by
  by_cases hh : han r = true
  · rw [z2i true, z2i false, if_pos hh, if_pos hh]
  · have hh : han r = false := by simpa using hh
    cases hs : (spl r).2 with
    | false => rw [z6k hh hs, z6k hh hs]
    | true =>
      have := z4w (q := fun r s => s.2.2.2.1 || decide (oneF 5 true r = oneF 5 false r)) (by decide +kernel) (by decide +kernel) hs
      unfold soB at h
      rw [hs, Bool.true_and, Bool.or_eq_false_iff] at h
      rw [h.1, Bool.false_or] at this
      exact of_decide_eq_true this
theorem rl_so {r : Int} (h : rl r ≠ .no) : soB r = false := by
  have key : ∀ x ∈ (expand 1632 1641 ++ expand 1776 1785 ++ [8205, 8204, 183, 885, 1523, 1524, 12539]), soB x = false := fun x hx => by
    have := List.all_eq_true.1 (show ((expand 1632 1641 ++ expand 1776 1785 ++ [8205, 8204, 183, 885, 1523, 1524, 12539]).all fun x => !soB x) = true by decide +kernel) x hx
    simpa using this
  rcases zkv r with ⟨q, _⟩ | ⟨_, q, _⟩ | ⟨q, _⟩ | ⟨q, _⟩ | ⟨q, _⟩ | ⟨q, _⟩ | ⟨q, _⟩ | ⟨q, _⟩ | ⟨q, _⟩ | ⟨_, q⟩
  · unfold arA at q
    simp only [Bool.and_eq_true, decide_eq_true_eq] at q
    exact key r (List.mem_append.2 (Or.inl (List.mem_append.2 (Or.inl (z3m q.1 q.2)))))
  · unfold arB at q
    simp only [Bool.and_eq_true, decide_eq_true_eq] at q
    exact key r (List.mem_append.2 (Or.inl (List.mem_append.2 (Or.inr (z3m q.1 q.2)))))
  all_goals first
    | (subst q; exact key _ (List.mem_append.2 (Or.inr (by simp))))
    | exact absurd q h
theorem wide_so {s : List UInt8} (h : Wide s) : ∀ r ∈ (runes s).1, soB r = false := fun r hr => by
  obtain ⟨k, hk1, hk2⟩ := List.getElem_of_mem hr
  have e : (runes s).1.getD k 0 = r := by simp [List.getD, hk1, hk2]
  have hc := zo8 h hk1
  rcases zn2 hc.1 with ⟨q1, _⟩ | q
  · have := hc.2 q1
    rw [e] at this
    unfold lch at this
    simp only [Bool.and_eq_true, Bool.not_eq_true'] at this
    exact this.1
  · rw [e] at q
    exact rl_so q
theorem wide_nfkc {s : List UInt8} (h : Wide s) : z2k true true s = (s, true) := by
  have e : z54 true true (runes s).1 = z54 false true (runes s).1 := by
    unfold z54
    have : z0v true (runes s).1 = z0v false (runes s).1 := by
      have hso := wide_so h
      generalize (runes s).1 = L at hso
      induction L with
      | nil => rfl
      | cons r L ih => rw [z1u, z1u, soft_one (hso r (by simp)), ih fun x hx => hso x (List.mem_cons_of_mem _ hx)]
    rw [this]
  rw [z4d h.at_, e, ← z4d h.at_, h.form]
theorem zna {s : List UInt8} : plaV s = 0 ↔ s ≠ [] ∧ s.length ≤ 63 ∧ s.all ldh = true ∧ z9w s = false := by
  unfold plaV z2f z2f z2f z2f z2f
  by_cases h1 : s = []
  · simp [h1]
  · by_cases h2 : 63 < s.length
    · simp [h1, h2]; omega
    · cases h3 : s.all ldh <;> cases h4 : z9w s <;> simp [h1, h2] <;> omega
theorem zmo {c : UInt8} (h : ldh c = true) : c.toNat < 128 := by
  unfold ldh at h
  simp only [Bool.or_eq_true, Bool.and_eq_true, decide_eq_true_eq, beq_iff_eq] at h
  rcases h with ((h | h) | h) | h
  · omega
  · omega
  · omega
  · subst h; decide
theorem pla_asc {s : List UInt8} (h : plaV s = 0) : eight s = -1 ∧ 0 < s.length ∧ s.length ≤ 63 := by
  obtain ⟨h1, h2, h3, h4⟩ := zna.1 h
  refine ⟨z8w fun c hc => zmo (List.all_eq_true.1 h3 c hc), ?_, h2⟩
  cases s with
  | nil => exact absurd rfl h1
  | cons => simp
theorem evB_le : ∀ (E : List (Int × Nat)) (x : DcS), (evB x E).length ≤ 64 * E.length
  | [], _ => Nat.le_refl _
  | e :: E, x => by
    have h1 := evB_le E (z0s x e)
    have h2 := wr_len (evD x e) x.bias
    rw [evB, List.length_append, List.length_cons]
    omega
theorem pnS_len (l : List Int) (hl : l.length ≤ 1000) : (pnS l).length ≤ 65 * l.length + 1 := by
  unfold pnS
  split
  · rename_i h
    obtain ⟨E, e⟩ := ze0 h hl
    have h1 := evB_le E (x0 l)
    have h2 := e.len
    have h3 := zf4 l
    have h4 : (z3b l).length ≤ (z0x l).length + 1 := by unfold z3b; split <;> simp
    rw [e.enc, List.length_append]
    omega
  · simp
theorem pnS_eq {l : List Int} (h : z1m l = true) : pnS l = z5x l := by unfold pnS; rw [if_pos h]
theorem ofI_asc {r : Int} (h0 : 0 ≤ r) (h : r < 128) : ((ofI r).toNat : Int) = r := by
  unfold ofI
  have : (UInt8.ofNat r.toNat).toNat = r.toNat := by simp; omega
  rw [this]; omega
theorem enc_low {l : List Int} (h : z1m l = true) (hl : l.length ≤ 1000) (hf : ∀ r ∈ l, lw r = r) : ∀ c ∈ z5x l, plC c = c := fun c hc => by
  obtain ⟨E, e⟩ := ze0 h hl
  rw [e.enc] at hc
  rcases List.mem_append.1 hc with hc | hc
  · have key : ∀ c ∈ z0x l, plC c = c := fun c hc => by
      obtain ⟨r, hr, rfl⟩ := List.mem_map.1 hc
      obtain ⟨hr1, hr2⟩ := List.mem_filter.1 hr
      have h0 := zap h r hr1
      have h1 : r < 128 := by simpa using hr2
      have h2 := ofI_asc h0 h1
      have h3 := lw_asc (c := ofI r) (by omega)
      rw [h2, hf r hr1] at h3
      apply UInt8.toNat.inj
      omega
    unfold z3b at hc
    split at hc
    · rcases List.mem_append.1 hc with hc | hc
      · exact key c hc
      · simp only [List.mem_singleton] at hc
        subst hc; decide
    · exact key c hc
  · obtain ⟨v, h1, h2, rfl⟩ := e.dig c hc
    have := zdv h1 h2
    exact zu6 (by omega)
theorem enc_pos {l : List Int} (h : z1m l = true) (hl : l.length ≤ 1000) (hb : ∃ r ∈ l, 128 ≤ r) : 0 < (z5x l).length := by
  have h1 := pn_back h hl
  cases hq : z5x l with
  | cons => simp
  | nil =>
    rw [hq] at h1
    have : zd4 [] = some [] := by decide +kernel
    rw [this] at h1
    obtain ⟨r, hr, _⟩ := hb
    simp at h1
    rw [h1] at hr
    cases hr
theorem big_of {s : List UInt8} (h : 0 ≤ eight s) (ha : ¬ 0 ≤ (runes s).2) : ∃ r ∈ (runes s).1, 128 ≤ r := by
  refine Classical.byContradiction fun hn => ?_
  have hall : ∀ r ∈ (runes s).1, r < 128 := fun r hr => by
    refine Classical.byContradiction fun h2 => hn ⟨r, hr, by omega⟩
  have hb := z4v s
  have hat : (runes s).2 = -1 := (z7i s).resolve_right ha
  rw [hat, z4a, List.take_length] at hb
  have hs2 : strS (runes s).1 = (runes s).1.flatMap enc := by unfold strS; rw [if_pos hb.1]
  have h0 := zap hb.1
  have hasc : ∀ c ∈ s, c.toNat < 128 := fun c hc => by
    rw [← hb.2.1, hs2] at hc
    obtain ⟨r, hr, hcr⟩ := List.mem_flatMap.1 hc
    have h1 := h0 r hr
    have h2 := hall r hr
    unfold enc at hcr
    rw [if_pos (z59.1 hb.1 r hr), if_pos (by omega)] at hcr
    simp only [List.mem_singleton] at hcr
    subst hcr
    have := ofI_asc h1 h2
    omega
  have := z8w hasc
  omega
theorem ace_pre (t : List UInt8) : aceB (ace ++ t) = true := by
  unfold aceB ace
  simp
theorem ace_of {s : List UInt8} (h : aceB s = true) : s = ace ++ s.drop 4 := by
  unfold aceB at h
  simp only [Bool.and_eq_true, decide_eq_true_eq, beq_iff_eq] at h
  rw [← h.2, List.take_append_drop]
theorem zoj : ∀ c ∈ ace, plC c = c ∧ c.toNat < 128 := by decide
theorem map_plC {s : List UInt8} (h : ∀ c ∈ s, plC c = c) : plS s = s := by
  unfold plS
  induction s with
  | nil => rfl
  | cons c s ih => rw [List.map_cons, h c (by simp), ih fun x hx => h x (List.mem_cons_of_mem _ hx)]
theorem zjk {u : List UInt8} (h : Wide u) (hl : (runes u).1.length ≤ 1000) (hw : za4 u = 0) : botV u = (ace ++ pnS (runes u).1, u, 0) ∧ botV (ace ++ pnS (runes u).1) = (ace ++ pnS (runes u).1, u, 0) ∧
    eight (ace ++ pnS (runes u).1) = -1 ∧ 4 < (ace ++ pnS (runes u).1).length ∧ (ace ++ pnS (runes u).1).length ≤ 63 := by
  have hok := z2o u
  have hp := pnS_eq hok
  have hfx : ∀ r ∈ (runes u).1, lw r = r := fun r hr => (zl7 h r hr).1
  have hpos := enc_pos hok hl (big_of h.big h.at_)
  have hlen := h.len
  rw [hp] at hlen ⊢
  have hlow : ∀ c ∈ ace ++ z5x (runes u).1, plC c = c := fun c hc => by
    rcases List.mem_append.1 hc with hc | hc
    · exact (zoj c hc).1
    · exact enc_low hok hl hfx c hc
  have hasc : ∀ c ∈ ace ++ z5x (runes u).1, c.toNat < 128 := fun c hc => by
    rcases List.mem_append.1 hc with hc | hc
    · exact (zoj c hc).2
    · exact zlv hok hl c hc
  have he := z8w hasc
  have hb := z4v u
  have hat : (runes u).2 = -1 := (z7i u).resolve_right h.at_
  rw [hat, z4a, List.take_length] at hb
  have hal : (ace ++ z5x (runes u).1).length = 4 + (z5x (runes u).1).length := by rw [List.length_append]; rfl
  refine ⟨?_, ?_, he, by omega, by omega⟩
  · rw [zhc (zg6 h)]
    unfold botF
    rw [if_pos h.big, hp, hw]
  · have hf : z2j (ace ++ z5x (runes u).1) = (ace ++ z5x (runes u).1, true) := by rw [ze9 hasc, map_plC hlow]
    rw [zhc hf]
    unfold botF
    rw [if_neg (by omega), if_neg (by rw [ace_pre]; simp)]
    have hd : (ace ++ z5x (runes u).1).drop 4 = z5x (runes u).1 := rfl
    rw [hd, pn_back hok hl]
    dsimp only
    rw [if_neg (by omega), hb.2.1, if_neg (by simp [hw]), hp, if_neg (by simp)]
theorem zlm {s : List UInt8} (hs : (runes s).1.length ≤ 240) (h : (botV s).2.2 = 0) :
    (∃ u, Wide u ∧ za4 u = 0 ∧ (runes u).1.length ≤ 1000 ∧ botV s = (ace ++ pnS (runes u).1, u, 0) ∧ (z2j s = (u, true) ∨ z2j s = (ace ++ pnS (runes u).1, true))) ∨
    (∃ X, z2j s = (X, true) ∧ plaV X = 0 ∧ aceB X = false ∧ eight X < 0 ∧ botV s = (X, X, 0) ∧ botV X = (X, X, 0)) := by
  by_cases h0 : 0 ≤ (runes s).2
  · rw [zon h0] at h; simp at h
  · obtain ⟨X, x1, x2, x3, x4, x5, x6⟩ := zeb (s := s) (by omega) h0
    have hxl : (runes X).1.length ≤ 1000 := by
      have := z87 (runes s).1
      rw [x3]; dsimp only; omega
    rw [zhc x1] at h ⊢
    have hX := zhc x5
    unfold botF at h
    split at h
    · rename_i h8
      left
      have hw : za4 X = 0 := h
      refine ⟨X, zqh hw, hw, hxl, ?_, Or.inl x1⟩
      unfold botF; rw [if_pos h8, hw]
    · rename_i h8
      split at h
      · rename_i ha
        right
        have hp : plaV X = 0 := h
        have e : botF X = (X, X, 0) := by unfold botF; rw [if_neg h8, if_pos ha, hp]
        exact ⟨X, x1, hp, ha, by omega, e, hX.trans e⟩
      · rename_i ha
        have ha : aceB X = true := by simpa using ha
        left
        split at h
        · simp at h
        · rename_i l hl
          split at h
          · simp at h
          · rename_i h63
            split at h
            · rename_i hw; exact absurd h hw
            · rename_i hw
              have hw : za4 (strS l) = 0 := by simpa using hw
              split at h
              · simp at h
              · rename_i hp
                have hp : pnS l = X.drop 4 := by simpa using hp
                obtain ⟨d1, d2, d3⟩ := enc_dec (s := X.drop 4) (by simp; omega) hl
                have hr := z58 d1
                have hXe := ace_of ha
                have hll : l.length ≤ 1000 := by simp at d2; omega
                refine ⟨strS l, zqh hw, hw, by rw [hr]; exact hll, ?_, Or.inr ?_⟩
                · rw [hr]
                  dsimp only
                  rw [hp, ← hXe]
                  unfold botF
                  rw [if_neg h8, if_neg (by simp [ha]), hl]
                  dsimp only
                  rw [if_neg h63, if_neg (by simp [hw]), if_neg (by simp [hp])]
                · rw [hr]
                  dsimp only
                  rw [hp, ← hXe, x1]
end Go.AE
end
