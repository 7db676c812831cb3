/- Contracts of functions that the laws of this seat reach, and plain laws of what they compute. No condition beyond each statement's own. -/
import Derived.Test.YtekgeapohenheaaGreatSI
set_option linter.unusedVariables false
set_option linter.unusedSimpArgs false
section
/- The laws of chapter 3. -/
namespace Go.AE
open Go.Proofs
set_option maxRecDepth 20000
set_option maxHeartbeats 8000000
set_option linter.unusedSimpArgs false
theorem tb_imps (k : Nat) : imps k tabBox = (tabBox, []) := rfl
theorem tb_set (a b c d e : AV) : setCells [a, b, c, d, e] 0 tabBox = tabBox := rfl
theorem tb_shifts (k : Nat) : shifts k tabBox = tabBox := rfl
theorem tbB1 : type_of% (And.intro @tbB (And.intro @tb_imps (And.intro @tb_shifts @tb_set))) := (And.intro @tbB (And.intro @tb_imps (And.intro @tb_shifts @tb_set)))
theorem new_box : Spec Tryz.prog 6 [] (.ag tabBox) := new_spec
end Go.AE
end
section
/- More laws of chapter 3. -/
namespace Go.AE
open Go.Proofs
set_option maxRecDepth 20000
set_option maxHeartbeats 8000000
set_option linter.unusedSimpArgs false
theorem asc_chk : ((List.range 128).all fun n : Nat => decide (one1 false (n : Int) = [(n : Int)]) && decide (one1 true (n : Int) = [(n : Int)]) && decide (cls (n : Int) = 0)) = true := by decide +kernel
theorem asc_one {r : Int} (h : 0 ≤ r) (h' : r < 128) : (∀ soft, one1 soft r = [r]) ∧ cls r = 0 := by
  have := List.all_eq_true.1 asc_chk r.toNat (List.mem_range.2 (by omega))
  simp only [Bool.and_eq_true, decide_eq_true_eq] at this
  rw [show ((r.toNat : Nat) : Int) = r by omega] at this
  exact ⟨fun soft => by cases soft; exact this.1.1; exact this.1.2, this.2⟩
def asc (s : List UInt8) : List Int := s.map fun c => (c.toNat : Int)
theorem one_asc (c : UInt8) (t : List UInt8) (h : c.toNat < 128) : one (c :: t) = some ((c.toNat : Int), 1) := by
  have hl : lead (c.toNat : Int) = (0, (c.toNat : Int)) := by unfold lead; rw [if_pos (by omega)]
  unfold one
  simp only [hl]
  have hr : rlen (c.toNat : Int) = 1 := by
    simp (disch := omega) [rlen, right]
    omega
  simp [foldB, hr]
theorem runesF_asc : ∀ (f : Nat) (s : List UInt8) (a : Int), s.length < f → (∀ c ∈ s, c.toNat < 128) → runesF f a s = (asc s, -1)
  | 0, _, _, h, _ => by omega
  | f + 1, [], _, _, _ => rfl
  | f + 1, c :: t, a, h, hc => by
    simp only [List.length_cons] at h
    rw [runesF, if_neg (by simp), one_asc c t (hc c (by simp))]
    simp only [runesN, List.drop_succ_cons, List.drop_zero]
    rw [runesF_asc f t _ (by omega) (fun d hd => hc d (by simp [hd]))]
    rfl
theorem pr_chk : (splits.all fun s => s.2.2.2.1 || s.2.2.2.2 || decide (128 ≤ s.2.2.1) || decide (s.2.2.1 = 0)) = true := by decide +kernel
theorem asc_mem {s : List UInt8} (h : ∀ c ∈ s, c.toNat < 128) : ∀ r ∈ asc s, 0 ≤ r ∧ r < 128 := fun r hr => by
  obtain ⟨c, hc, rfl⟩ := List.mem_map.1 hr
  have := h c hc
  omega
theorem splt_asc {soft : Bool} : ∀ {l : List Int}, (∀ r ∈ l, 0 ≤ r ∧ r < 128) → spltL soft l = l
  | [], _ => rfl
  | a :: l, h => by
    have := splt_asc (soft := soft) (l := l) (fun r hr => h r (by simp [hr]))
    unfold spltL at this ⊢
    rw [List.flatMap_cons, this, (asc_one (h a (by simp)).1 (h a (by simp)).2).1 soft]; rfl
theorem ord_asc : ∀ {l : List Int}, (∀ r ∈ l, 0 ≤ r ∧ r < 128) → ordL l = l
  | [], _ => rfl
  | a :: l, h => by
    have := ord_asc (l := l) (fun r hr => h r (by simp [hr]))
    unfold ordL at this ⊢
    rw [ordF, if_neg (by rw [(asc_one (h a (by simp)).1 (h a (by simp)).2).2]; omega), this]; rfl
theorem mk2_asc {b x : Int} (h0 : 0 ≤ x) (h1 : x < 128) : (mk2 b x).2 = false := by
  unfold mk2
  rw [if_neg (by omega), if_neg (by omega)]
  have hn : splits.find? (pairP b x) = none := by
    by_cases hx : x = 0
    · subst hx; exact pair_zero b
    · refine List.find?_eq_none.2 fun s hs hp => ?_
      have := List.all_eq_true.1 pr_chk s hs
      simp only [pairP, Bool.and_eq_true, Bool.not_eq_true', beq_iff_eq] at hp
      rw [hp.1.1.1, hp.1.1.2, hp.2] at this
      simp at this
      omega
  unfold pr
  rw [hn]; rfl
theorem join_asc {l : List Int} (h : ∀ r ∈ l, 0 ≤ r ∧ r < 128) : joinL l = l := by
  have key : ∀ (l : List Int) (s : JS), (∀ r ∈ l, 0 ≤ r ∧ r < 128) → (l.foldl jStep s).out = s.out ++ l := fun l => by
    induction l with
    | nil => intro s _; simp
    | cons x l ih =>
      intro s hl
      have hs : jStep s x = s.put x := by
        unfold jStep
        split
        · rfl
        · rw [mk2_asc (hl x (by simp)).1 (hl x (by simp)).2]
          split <;> simp
      rw [List.foldl_cons, ih _ (fun r hr => hl r (by simp [hr])), hs, put_out]; simp
  exact key l _ h
theorem str_asc {s : List UInt8} (h : ∀ c ∈ s, c.toNat < 128) : strS (asc s) = s ∧ strOk (asc s) = true := by
  have hok : strOk (asc s) = true := List.all_eq_true.2 fun r hr => by
    have := asc_mem h r hr
    exact (right_iff _).2 (by omega)
  refine ⟨?_, hok⟩
  unfold strS
  rw [if_pos hok]
  clear hok
  induction s with
  | nil => rfl
  | cons c t ih =>
    have hc := h c (by simp)
    have he : enc (c.toNat : Int) = [c] := by
      unfold enc
      rw [if_pos ((right_iff _).2 (by omega)), if_pos (by omega)]
      have : ofI (c.toNat : Int) = c := by
        apply UInt8.toNat.inj
        have := c.toNat_lt
        simp [ofI]
      rw [this]
    have := ih (fun d hd => h d (by simp [hd]))
    unfold asc at this ⊢
    rw [List.map_cons, List.flatMap_cons, he, this]; rfl
theorem form_asc {s : List UInt8} (h : ∀ c ∈ s, c.toNat < 128) (soft join : Bool) : formS soft join s = (s, true) := by
  have hr : runes s = (asc s, -1) := runesF_asc _ _ _ (by omega) h
  have ha := asc_mem h
  have hl : formL soft join (asc s) = asc s := by
    unfold formL
    rw [splt_asc ha, ord_asc ha, join_asc ha]
    split <;> rfl
  unfold formS
  rw [hr, if_neg (show ¬ (0 : Int) ≤ -1 by decide), hl, (str_asc h).1, (str_asc h).2]
end Go.AE
end
section
/- Fold: contracts. -/
namespace Go.AE
open Go.Proofs
set_option maxRecDepth 20000
set_option maxHeartbeats 8000000
set_option linter.unusedSimpArgs false
theorem tb_imps2 (k : Nat) : imps k tabBox = (tabBox, []) := rfl
theorem tb_set2 (a b c d e : AV) : setCells [a, b, c, d, e] 0 tabBox = tabBox := rfl
theorem tb_shifts2 (k : Nat) : shifts k tabBox = tabBox := rfl
theorem tbB2 : type_of% (And.intro @tbB (And.intro @tb_imps2 (And.intro @tb_shifts2 @tb_set2))) := (And.intro @tbB (And.intro @tb_imps2 (And.intro @tb_shifts2 @tb_set2)))
theorem nar_spec (r : Int) (hr : okR r) : Spec Tryz.prog 81 [.ag tabBox, I32 r] (I32 (nar r)) := by
  have hs := split_spec r
  rw [← tabBox_eq] at hs
  refine spec_mk (z := false) (ts := [.tmp 4]) ok1 Tryz.func81 rfl rfl (by decide +kernel) (by simp [Tryz.ntmps81]) rfl ?_
  cases hw : wide r with
  | true =>
    have hw' : 65281 ≤ r ∧ r ≤ 65374 := by simpa [wide] using hw
    have e : nar r = (spl r).1.2.1 := by unfold nar; rw [hw, (wide_small hw).1]; rfl
    rw [e]
    repeat' first | refine WE_fit (hs) ?_ ?_ | simp (maxSteps := 4000000) (disch := omega) only [bunL, bunD, bun, ↓WG_true, ↓WG_false, labelOf, findLabel, ↓reduceIte, imp, shift, killO, cond_true, cond_false, hasId, ne_eq, unown, names, plainR, below, noF, isF, lendObs, lendOb, kindOk, ren, givL, updM, backO, renO, belowM, seval, -Int.reduceToNat, D107, bunN, tbB2, List.map_nil, List.nil_append, splitC] | exact NK_no _ | refine NK_cl _ _ ?_ | exact Cln.cl | refine clean_tup _ ?_ | refine cleans_cons _ _ ?_ ?_ | refine DR_q _ ?_ | (refine Fk.fk ?_ ?_ <;> intro hg <;> (try simp only [hg]) <;> (try simp only [bunB, ne_eq] at hg) <;> try (exfalso; first | omega | exact Bool.noConfusion hg | exact hg trivial)) | refine And.intro (by omega) ?_ | omega
    all_goals trace_state
  | false =>
    have hw' : ¬ (65281 ≤ r ∧ r ≤ 65374) := by simpa [wide] using hw
    have e : nar r = r := by unfold nar; rw [hw]; rfl
    rw [e]
    repeat' first | refine WE_fit (hs) ?_ ?_ | simp (maxSteps := 4000000) (disch := omega) only [bunL, bunD, bun, ↓WG_true, ↓WG_false, labelOf, findLabel, ↓reduceIte, imp, shift, killO, cond_true, cond_false, hasId, ne_eq, unown, names, plainR, below, noF, isF, lendObs, lendOb, kindOk, ren, givL, updM, backO, renO, belowM, seval, -Int.reduceToNat, D107, bunN, tbB2, List.map_nil, List.nil_append, splitC] | exact NK_no _ | refine NK_cl _ _ ?_ | exact Cln.cl | refine clean_tup _ ?_ | refine cleans_cons _ _ ?_ ?_ | refine DR_q _ ?_ | (refine Fk.fk ?_ ?_ <;> intro hg <;> (try simp only [hg]) <;> (try simp only [bunB, ne_eq] at hg) <;> try (exfalso; first | omega | exact Bool.noConfusion hg | exact hg trivial)) | refine And.intro (by omega) ?_ | omega
    all_goals first | omega | trace_state
theorem eachW_spec (l : List Int) (hl : l.length ≤ 100000) (hr : ∀ r ∈ l, okR r) : Spec Tryz.prog 79 [.sl l.length (l.map I32), .fn 81 [.ag tabBox] []] (.own 21 1 l.length ((l.map nar).map I32)) := by
  refine spec_mk (z := false) (ts := [.tmp 4]) ok1 Tryz.func79 rfl rfl (by decide +kernel) (by simp [Tryz.ntmps79]) rfl ?_
  repeat' first | simp (maxSteps := 4000000) (disch := omega) only [bunL, bunD, bun, ↓WG_true, ↓WG_false, labelOf, findLabel, ↓reduceIte, imp, shift, killO, cond_true, cond_false, hasId, ne_eq, unown, names, plainR, below, noF, isF, lendObs, lendOb, kindOk, ren, givL, updM, backO, renO, belowM, seval, -Int.reduceToNat, B3, B21, B53, B105, bunN, tbB2, List.map_nil, List.nil_append, splitC] | refine DR_q _ ?_ | (refine Fk.fk ?_ ?_ <;> intro hg <;> (try simp only [hg]) <;> (try simp only [bunB, ne_eq] at hg) <;> try (exfalso; first | omega | exact Bool.noConfusion hg | exact hg trivial)) | refine And.intro (by omega) ?_ | omega
  refine LP_intro (fun i : Nat => ⟨[(1, .fn 81 [.ag tabBox] []), (5, .ref 1 0 i), (8, .sl l.length (l.map I32)), (9, I64 l.length), (10, I64 i)], [.dead, .arr 21 1 (((l.take i).map nar).map I32)]⟩) (fun i => i ≤ l.length) (fun i => l.length - i) 0 (by simp) (by (simp (disch := omega) [wk, wkT, wkM, noF, isF, get, belowT, belowM, below, belows, I64, I32, Bv, U8, Sv, tb_bel] <;> try omega)) ?_
  intro i hi
  have hlt0 : (l.take i).length = i := by simp; omega
  by_cases hlt : i < l.length
  · have ht : (l.take (i + 1)).map nar = (l.take i).map nar ++ [nar (l.getD i 0)] := by rw [take_snocD l i 0 hlt, List.map_append]; rfl
    have hg0 : okR (l.getD i 0) := hr _ (by simp [List.getD, hlt])
    have hs := nar_spec (l.getD i 0) hg0
    repeat' first | refine WE_fit (hs) ?_ ?_ | simp (maxSteps := 4000000) (disch := omega) only [bunL, bunD, bun, ↓WG_true, ↓WG_false, labelOf, findLabel, ↓reduceIte, imp, shift, killO, cond_true, cond_false, hasId, ne_eq, unown, names, plainR, below, noF, isF, lendObs, lendOb, kindOk, ren, givL, updM, backO, renO, belowM, seval, -Int.reduceToNat, B3, B21, B53, B105, bunN, tbB2, List.map_nil, List.nil_append, splitC] | exact NK_no _ | refine NK_cl _ _ ?_ | exact Cln.cl | refine clean_tup _ ?_ | refine cleans_cons _ _ ?_ ?_ | refine DR_q _ ?_ | (refine Fk.fk ?_ ?_ <;> intro hg <;> (try simp only [hg]) <;> (try simp only [bunB, ne_eq] at hg) <;> try (exfalso; first | omega | exact Bool.noConfusion hg | exact hg trivial)) | refine And.intro (by omega) ?_ | omega
    refine ⟨i + 1, by omega, by omega, ?_⟩
    rw [ht]
    (simp (disch := omega) [wk, wkT, wkM, noF, isF, get, belowT, belowM, below, belows, I64, I32, Bv, U8, Sv, List.map_append, tb_bel] <;> try omega)
  · have e : i = l.length := by omega
    subst e
    rw [List.take_length] at *
    repeat' first | simp (maxSteps := 4000000) (disch := omega) only [bunL, bunD, bun, ↓WG_true, ↓WG_false, labelOf, findLabel, ↓reduceIte, imp, shift, killO, cond_true, cond_false, hasId, ne_eq, unown, names, plainR, below, noF, isF, lendObs, lendOb, kindOk, ren, givL, updM, backO, renO, belowM, seval, -Int.reduceToNat, B3, B21, B53, B105, bunN, tbB2, List.map_nil, List.nil_append, splitC] | refine DR_q _ ?_ | (refine Fk.fk ?_ ?_ <;> intro hg <;> (try simp only [hg]) <;> (try simp only [bunB, ne_eq] at hg) <;> try (exfalso; first | omega | exact Bool.noConfusion hg | exact hg trivial)) | refine And.intro (by omega) ?_ | omega
theorem eachL_spec (l : List Int) (hl : l.length ≤ 100000) (hr : ∀ r ∈ l, okR r) : Spec Tryz.prog 79 [.sl l.length (l.map I32), .fn 80 [.ag tabBox] []] (.own 21 1 l.length ((l.map low).map I32)) := by
  refine spec_mk (z := false) (ts := [.tmp 4]) ok1 Tryz.func79 rfl rfl (by decide +kernel) (by simp [Tryz.ntmps79]) rfl ?_
  repeat' first | simp (maxSteps := 4000000) (disch := omega) only [bunL, bunD, bun, ↓WG_true, ↓WG_false, labelOf, findLabel, ↓reduceIte, imp, shift, killO, cond_true, cond_false, hasId, ne_eq, unown, names, plainR, below, noF, isF, lendObs, lendOb, kindOk, ren, givL, updM, backO, renO, belowM, seval, -Int.reduceToNat, B3, B21, B53, B105, bunN, tbB2, List.map_nil, List.nil_append, splitC] | refine DR_q _ ?_ | (refine Fk.fk ?_ ?_ <;> intro hg <;> (try simp only [hg]) <;> (try simp only [bunB, ne_eq] at hg) <;> try (exfalso; first | omega | exact Bool.noConfusion hg | exact hg trivial)) | refine And.intro (by omega) ?_ | omega
  refine LP_intro (fun i : Nat => ⟨[(1, .fn 80 [.ag tabBox] []), (5, .ref 1 0 i), (8, .sl l.length (l.map I32)), (9, I64 l.length), (10, I64 i)], [.dead, .arr 21 1 (((l.take i).map low).map I32)]⟩) (fun i => i ≤ l.length) (fun i => l.length - i) 0 (by simp) (by (simp (disch := omega) [wk, wkT, wkM, noF, isF, get, belowT, belowM, below, belows, I64, I32, Bv, U8, Sv, tb_bel] <;> try omega)) ?_
  intro i hi
  have hlt0 : (l.take i).length = i := by simp; omega
  by_cases hlt : i < l.length
  · have ht : (l.take (i + 1)).map low = (l.take i).map low ++ [low (l.getD i 0)] := by rw [take_snocD l i 0 hlt, List.map_append]; rfl
    have hg0 : okR (l.getD i 0) := hr _ (by simp [List.getD, hlt])
    have hs := lower_spec (l.getD i 0)
    rw [← tabBox_eq] at hs
    repeat' first | refine WE_fit (hs) ?_ ?_ | simp (maxSteps := 4000000) (disch := omega) only [bunL, bunD, bun, ↓WG_true, ↓WG_false, labelOf, findLabel, ↓reduceIte, imp, shift, killO, cond_true, cond_false, hasId, ne_eq, unown, names, plainR, below, noF, isF, lendObs, lendOb, kindOk, ren, givL, updM, backO, renO, belowM, seval, -Int.reduceToNat, B3, B21, B53, B105, bunN, tbB2, List.map_nil, List.nil_append, splitC] | exact NK_no _ | refine NK_cl _ _ ?_ | exact Cln.cl | refine clean_tup _ ?_ | refine cleans_cons _ _ ?_ ?_ | refine DR_q _ ?_ | (refine Fk.fk ?_ ?_ <;> intro hg <;> (try simp only [hg]) <;> (try simp only [bunB, ne_eq] at hg) <;> try (exfalso; first | omega | exact Bool.noConfusion hg | exact hg trivial)) | refine And.intro (by omega) ?_ | omega
    refine ⟨i + 1, by omega, by omega, ?_⟩
    rw [ht]
    (simp (disch := omega) [wk, wkT, wkM, noF, isF, get, belowT, belowM, below, belows, I64, I32, Bv, U8, Sv, List.map_append, tb_bel] <;> try omega)
  · have e : i = l.length := by omega
    subst e
    rw [List.take_length] at *
    repeat' first | simp (maxSteps := 4000000) (disch := omega) only [bunL, bunD, bun, ↓WG_true, ↓WG_false, labelOf, findLabel, ↓reduceIte, imp, shift, killO, cond_true, cond_false, hasId, ne_eq, unown, names, plainR, below, noF, isF, lendObs, lendOb, kindOk, ren, givL, updM, backO, renO, belowM, seval, -Int.reduceToNat, B3, B21, B53, B105, bunN, tbB2, List.map_nil, List.nil_append, splitC] | refine DR_q _ ?_ | (refine Fk.fk ?_ ?_ <;> intro hg <;> (try simp only [hg]) <;> (try simp only [bunB, ne_eq] at hg) <;> try (exfalso; first | omega | exact Bool.noConfusion hg | exact hg trivial)) | refine And.intro (by omega) ?_ | omega
theorem width_spec (l : List Int) (hl : l.length ≤ 100000) (hr : ∀ r ∈ l, okR r) : Spec Tryz.prog 52 [tab, .sl l.length (l.map I32)] (.own 21 1 l.length ((l.map nar).map I32)) := by
  rw [← tabBox_eq]
  have h := eachW_spec l hl hr
  refine spec_mk (z := false) (ts := [.tmp 4]) ok1 Tryz.func52 rfl rfl (by decide +kernel) (by simp [Tryz.ntmps52]) rfl ?_
  repeat' first | refine WE_fit (h) ?_ ?_ | simp (maxSteps := 4000000) (disch := omega) only [bunL, bunD, bun, ↓WG_true, ↓WG_false, labelOf, findLabel, ↓reduceIte, imp, shift, killO, cond_true, cond_false, hasId, ne_eq, unown, names, plainR, below, noF, isF, lendObs, lendOb, kindOk, ren, givL, updM, backO, renO, belowM, seval, -Int.reduceToNat, B21, B53, B105, D107, bunN, tbB2, List.map_nil, List.nil_append, splitC] | exact NK_no _ | refine NK_cl _ _ ?_ | exact Cln.cl | refine clean_tup _ ?_ | refine cleans_cons _ _ ?_ ?_ | refine DR_q _ ?_ | (refine Fk.fk ?_ ?_ <;> intro hg <;> (try simp only [hg]) <;> (try simp only [bunB, ne_eq] at hg) <;> try (exfalso; first | omega | exact Bool.noConfusion hg | exact hg trivial)) | refine And.intro (by omega) ?_ | omega
  all_goals trace_state
theorem lowers_spec4 (l : List Int) (hl : l.length ≤ 100000) (hr : ∀ r ∈ l, okR r) : Spec Tryz.prog 51 [tab, .sl l.length (l.map I32)] (.own 21 1 l.length ((l.map low).map I32)) := by
  rw [← tabBox_eq]
  have h := eachL_spec l hl hr
  refine spec_mk (z := false) (ts := [.tmp 4]) ok1 Tryz.func51 rfl rfl (by decide +kernel) (by simp [Tryz.ntmps51]) rfl ?_
  repeat' first | refine WE_fit (h) ?_ ?_ | simp (maxSteps := 4000000) (disch := omega) only [bunL, bunD, bun, ↓WG_true, ↓WG_false, labelOf, findLabel, ↓reduceIte, imp, shift, killO, cond_true, cond_false, hasId, ne_eq, unown, names, plainR, below, noF, isF, lendObs, lendOb, kindOk, ren, givL, updM, backO, renO, belowM, seval, -Int.reduceToNat, D29, B21, B53, B105, bunN, tbB2, List.map_nil, List.nil_append, splitC] | exact NK_no _ | refine NK_cl _ _ ?_ | exact Cln.cl | refine clean_tup _ ?_ | refine cleans_cons _ _ ?_ ?_ | refine DR_q _ ?_ | (refine Fk.fk ?_ ?_ <;> intro hg <;> (try simp only [hg]) <;> (try simp only [bunB, ne_eq] at hg) <;> try (exfalso; first | omega | exact Bool.noConfusion hg | exact hg trivial)) | refine And.intro (by omega) ?_ | omega
  all_goals trace_state
theorem rwidth_spec (l : List Int) (hl : l.length ≤ 100000) : Spec Tryz.prog 61 [.sl l.length (l.map I32)] (.own 21 1 l.length ((l.map nar).map I32)) := by
  refine spec_mk (z := false) (ts := [.tmp 2]) ok1 Tryz.func61 rfl rfl (by decide +kernel) (by simp [Tryz.ntmps61]) rfl ?_
  repeat' first | simp (maxSteps := 4000000) (disch := omega) only [bunL, bunD, bun, ↓WG_true, ↓WG_false, labelOf, findLabel, ↓reduceIte, imp, shift, killO, cond_true, cond_false, hasId, ne_eq, unown, names, plainR, below, noF, isF, lendObs, lendOb, kindOk, ren, givL, updM, backO, renO, belowM, seval, -Int.reduceToNat, B3, B4, B21, B53, bunN, tbB2, List.map_nil, List.nil_append, splitC] | refine DR_q _ ?_ | (refine Fk.fk ?_ ?_ <;> intro hg <;> (try simp only [hg]) <;> (try simp only [bunB, ne_eq] at hg) <;> try (exfalso; first | omega | exact Bool.noConfusion hg | exact hg trivial)) | refine And.intro (by omega) ?_ | omega
  refine LP_intro (fun i : Nat => ⟨[(0, .sl l.length (l.map I32)), (3, .ref 1 0 i), (4, I64 i)], [.dead, .arr 21 1 (((l.take i).map nar).map I32)]⟩) (fun i => i ≤ l.length) (fun i => l.length - i) 0 (by simp) (by simp [wk, wkT, wkM, noF, isF, get, belowT, belowM, below, belows, I64, I32, Bv, U8, Sv] <;> try omega) ?_
  intro i hi
  have hlt0 : (l.take i).length = i := by simp; omega
  by_cases hlt : i < l.length
  · have ht : (l.take (i + 1)).map nar = (l.take i).map nar ++ [nar (l.getD i 0)] := by rw [take_snocD l i 0 hlt, List.map_append]; rfl
    cases hw : wide (l.getD i 0) with
    | true =>
      have hw' : 65281 ≤ l.getD i 0 ∧ l.getD i 0 ≤ 65374 := by simpa [wide] using hw
      have e : nar (l.getD i 0) = l.getD i 0 - 65248 := by unfold nar; rw [hw]; rfl
      repeat' first | refine WE_fit (rwide_spec _) ?_ ?_ | simp (maxSteps := 4000000) (disch := omega) only [bunL, bunD, bun, ↓WG_true, ↓WG_false, labelOf, findLabel, ↓reduceIte, imp, shift, killO, cond_true, cond_false, hasId, ne_eq, unown, names, plainR, below, noF, isF, lendObs, lendOb, kindOk, ren, givL, updM, backO, renO, belowM, seval, -Int.reduceToNat, hw, B3, B4, B21, B53, bunN, tbB2, List.map_nil, List.nil_append, splitC] | exact NK_no _ | refine NK_cl _ _ ?_ | exact Cln.cl | refine clean_tup _ ?_ | refine cleans_cons _ _ ?_ ?_ | refine DR_q _ ?_ | (refine Fk.fk ?_ ?_ <;> intro hg <;> (try simp only [hg]) <;> (try simp only [bunB, ne_eq] at hg) <;> try (exfalso; first | omega | exact Bool.noConfusion hg | exact hg trivial)) | refine And.intro (by omega) ?_ | omega
      refine ⟨i + 1, by omega, by omega, ?_⟩
      rw [ht, e]
      (simp (disch := omega) [wk, wkT, wkM, noF, isF, get, belowT, belowM, below, belows, I64, I32, Bv, U8, Sv, List.map_append] <;> try omega)
    | false =>
      have e : nar (l.getD i 0) = l.getD i 0 := by unfold nar; rw [hw]; rfl
      repeat' first | refine WE_fit (rwide_spec _) ?_ ?_ | simp (maxSteps := 4000000) (disch := omega) only [bunL, bunD, bun, ↓WG_true, ↓WG_false, labelOf, findLabel, ↓reduceIte, imp, shift, killO, cond_true, cond_false, hasId, ne_eq, unown, names, plainR, below, noF, isF, lendObs, lendOb, kindOk, ren, givL, updM, backO, renO, belowM, seval, -Int.reduceToNat, hw, B3, B4, B21, B53, bunN, tbB2, List.map_nil, List.nil_append, splitC] | exact NK_no _ | refine NK_cl _ _ ?_ | exact Cln.cl | refine clean_tup _ ?_ | refine cleans_cons _ _ ?_ ?_ | refine DR_q _ ?_ | (refine Fk.fk ?_ ?_ <;> intro hg <;> (try simp only [hg]) <;> (try simp only [bunB, ne_eq] at hg) <;> try (exfalso; first | omega | exact Bool.noConfusion hg | exact hg trivial)) | refine And.intro (by omega) ?_ | omega
      refine ⟨i + 1, by omega, by omega, ?_⟩
      rw [ht, e]
      (simp (disch := omega) [wk, wkT, wkM, noF, isF, get, belowT, belowM, below, belows, I64, I32, Bv, U8, Sv, List.map_append] <;> try omega)
  · have e : i = l.length := by omega
    subst e
    rw [List.take_length] at *
    repeat' first | simp (maxSteps := 4000000) (disch := omega) only [bunL, bunD, bun, ↓WG_true, ↓WG_false, labelOf, findLabel, ↓reduceIte, imp, shift, killO, cond_true, cond_false, hasId, ne_eq, unown, names, plainR, below, noF, isF, lendObs, lendOb, kindOk, ren, givL, updM, backO, renO, belowM, seval, -Int.reduceToNat, B3, B4, B21, B53, bunN, tbB2, List.map_nil, List.nil_append, splitC] | refine DR_q _ ?_ | (refine Fk.fk ?_ ?_ <;> intro hg <;> (try simp only [hg]) <;> (try simp only [bunB, ne_eq] at hg) <;> try (exfalso; first | omega | exact Bool.noConfusion hg | exact hg trivial)) | refine And.intro (by omega) ?_ | omega
theorem rlowers_spec (l : List Int) (hl : l.length ≤ 100000) : Spec Tryz.prog 60 [.sl l.length (l.map I32)] (.own 21 1 l.length ((l.map low).map I32)) := by
  refine spec_mk (z := false) (ts := [.tmp 2]) ok1 Tryz.func60 rfl rfl (by decide +kernel) (by simp [Tryz.ntmps60]) rfl ?_
  repeat' first | simp (maxSteps := 4000000) (disch := omega) only [bunL, bunD, bun, ↓WG_true, ↓WG_false, labelOf, findLabel, ↓reduceIte, imp, shift, killO, cond_true, cond_false, hasId, ne_eq, unown, names, plainR, below, noF, isF, lendObs, lendOb, kindOk, ren, givL, updM, backO, renO, belowM, seval, -Int.reduceToNat, B3, B4, B21, B53, bunN, tbB2, List.map_nil, List.nil_append, splitC] | refine DR_q _ ?_ | (refine Fk.fk ?_ ?_ <;> intro hg <;> (try simp only [hg]) <;> (try simp only [bunB, ne_eq] at hg) <;> try (exfalso; first | omega | exact Bool.noConfusion hg | exact hg trivial)) | refine And.intro (by omega) ?_ | omega
  refine LP_intro (fun i : Nat => ⟨[(0, .sl l.length (l.map I32)), (3, .ref 1 0 i), (4, I64 i)], [.dead, .arr 21 1 (((l.take i).map low).map I32)]⟩) (fun i => i ≤ l.length) (fun i => l.length - i) 0 (by simp) (by simp [wk, wkT, wkM, noF, isF, get, belowT, belowM, below, belows, I64, I32, Bv, U8, Sv] <;> try omega) ?_
  intro i hi
  have hlt0 : (l.take i).length = i := by simp; omega
  by_cases hlt : i < l.length
  · have ht : (l.take (i + 1)).map low = (l.take i).map low ++ [low (l.getD i 0)] := by rw [take_snocD l i 0 hlt, List.map_append]; rfl
    repeat' first | refine WE_fit (rlower_spec _) ?_ ?_ | simp (maxSteps := 4000000) (disch := omega) only [bunL, bunD, bun, ↓WG_true, ↓WG_false, labelOf, findLabel, ↓reduceIte, imp, shift, killO, cond_true, cond_false, hasId, ne_eq, unown, names, plainR, below, noF, isF, lendObs, lendOb, kindOk, ren, givL, updM, backO, renO, belowM, seval, -Int.reduceToNat, B3, B4, B21, B53, bunN, tbB2, List.map_nil, List.nil_append, splitC] | exact NK_no _ | refine NK_cl _ _ ?_ | exact Cln.cl | refine clean_tup _ ?_ | refine cleans_cons _ _ ?_ ?_ | refine DR_q _ ?_ | (refine Fk.fk ?_ ?_ <;> intro hg <;> (try simp only [hg]) <;> (try simp only [bunB, ne_eq] at hg) <;> try (exfalso; first | omega | exact Bool.noConfusion hg | exact hg trivial)) | refine And.intro (by omega) ?_ | omega
    refine ⟨i + 1, by omega, by omega, ?_⟩
    rw [ht]
    (simp (disch := omega) [wk, wkT, wkM, noF, isF, get, belowT, belowM, below, belows, I64, I32, Bv, U8, Sv, List.map_append] <;> try omega)
  · have e : i = l.length := by omega
    subst e
    rw [List.take_length] at *
    repeat' first | simp (maxSteps := 4000000) (disch := omega) only [bunL, bunD, bun, ↓WG_true, ↓WG_false, labelOf, findLabel, ↓reduceIte, imp, shift, killO, cond_true, cond_false, hasId, ne_eq, unown, names, plainR, below, noF, isF, lendObs, lendOb, kindOk, ren, givL, updM, backO, renO, belowM, seval, -Int.reduceToNat, B3, B4, B21, B53, bunN, tbB2, List.map_nil, List.nil_append, splitC] | refine DR_q _ ?_ | (refine Fk.fk ?_ ?_ <;> intro hg <;> (try simp only [hg]) <;> (try simp only [bunB, ne_eq] at hg) <;> try (exfalso; first | omega | exact Bool.noConfusion hg | exact hg trivial)) | refine And.intro (by omega) ?_ | omega
end Go.AE
end
section
/- Fold: Plain, Fold, Alike, and the document's. -/
namespace Go.AE
open Go.Proofs
set_option maxRecDepth 20000
set_option maxHeartbeats 8000000
set_option linter.unusedSimpArgs false
def plC (c : UInt8) : UInt8 := if 65 ≤ c.toNat ∧ c.toNat ≤ 90 then c + 32 else c
def plS (s : List UInt8) : List UInt8 := s.map plC
theorem plC_yes {c : UInt8} (h : 65 ≤ c.toNat ∧ c.toNat ≤ 90) : (plC c).toNat = c.toNat + 32 := by
  have e : (32 : UInt8).toNat = 32 := rfl
  unfold plC; rw [if_pos h, UInt8.toNat_add, e]; omega
theorem plC_no {c : UInt8} (h : ¬ (65 ≤ c.toNat ∧ c.toNat ≤ 90)) : plC c = c := by unfold plC; rw [if_neg h]
theorem nth_u8' (s : List UInt8) (i : Nat) (h : i < s.length) : s.getD i 0 = s[i] := by simp [List.getD, h]
theorem set_midU {A B : List UInt8} {x y : UInt8} {k : Nat} (h : k = A.length) : (A ++ x :: B).set k y = A ++ y :: B := by subst h; simp
theorem getD_midU {A B : List UInt8} {x d : UInt8} {k : Nat} (h : k = A.length) : (A ++ x :: B).getD k d = x := by subst h; simp [List.getD]
theorem setNth_u8 : ∀ (L : List UInt8) (k : Nat) (x : UInt8), setNth (L.map U8) k (U8 x) = (L.set k x).map U8
  | [], _, _ => rfl
  | _ :: _, 0, _ => rfl
  | a :: L, k + 1, x => by
    show U8 a :: setNth (L.map U8) k (U8 x) = U8 a :: (L.set k x).map U8
    rw [setNth_u8 L k x]
theorem lw_okR {l : List Int} (h : strOk l = true) : ∀ r ∈ l, okR r := fun r hr => by
  have := (right_iff r).1 (strOk_iff.1 h r hr); unfold okR; omega
theorem nar_right {r : Int} (h : right r = true) : right (nar r) = true := by
  unfold nar
  split
  · rename_i hw
    have : 65281 ≤ r ∧ r ≤ 65374 := by simpa [wide] using hw
    exact right_of (by omega)
  · exact h
theorem map_lw (l : List Int) : (l.map nar).map low = l.map lw := by rw [List.map_map]; rfl
theorem fold_spec' (s : List UInt8) (hs : s.length ≤ 10000000) (hl : (runes s).1.length ≤ 10000) : Spec Tryz.prog 19 [tab, Sv s] (.tup [Sv (foldS s).1, Bv (foldS s).2]) := by
  have hr := runes_right s
  have h1 := width_spec (runes s).1 (by omega) (lw_okR hr)
  have h2 := lowers_spec4 ((runes s).1.map nar) (by rw [List.length_map]; omega) (lw_okR (strOk_iff.2 fun r hr' => by
    obtain ⟨a, ha, rfl⟩ := List.mem_map.1 hr'
    exact nar_right (strOk_iff.1 hr a ha)))
  rw [map_lw, List.length_map] at h2
  have h3 := utfString_spec ((runes s).1.map lw) (by rw [List.length_map]; omega)
  rw [List.length_map] at h3
  have hn := strS_len ((runes s).1.map lw)
  rw [List.length_map] at hn
  have hrr := runes_str (lw_strOk hr)
  have h4 := nfc_spec' (strS ((runes s).1.map lw)) (by omega) (by rw [hrr]; simp; omega)
  have hk1 : List.take (runes s).1.length (((runes s).1.map nar).map I32) = ((runes s).1.map nar).map I32 := List.take_of_length_le (by simp)
  have hk2 : List.take (runes s).1.length (((runes s).1.map lw).map I32) = ((runes s).1.map lw).map I32 := List.take_of_length_le (by simp)
  rw [← tabBox_eq] at h1 h2 h4 ⊢
  refine spec_mk (z := false) (ts := [.tmp 4, .tmp 5]) ok1 Tryz.func19 rfl rfl (by decide +kernel) (by simp [Tryz.ntmps19]) rfl ?_
  rw [foldS_eq]
  generalize strS ((runes s).1.map lw) = Z at *
  generalize strOk ((runes s).1.map lw) = zo at *
  generalize hf : formS false true Z = fz at *
  clear hrr hn
  by_cases h0 : 0 ≤ (runes s).2
  · rw [if_pos h0]
    repeat' first | refine WE_fit (utfRunes_spec s (by omega)) ?_ ?_ | simp (maxSteps := 4000000) (disch := omega) only [bunL, bunD, bun, ↓WG_true, ↓WG_false, labelOf, findLabel, ↓reduceIte, imp, shift, killO, cond_true, cond_false, hasId, ne_eq, unown, names, plainR, below, noF, isF, lendObs, lendOb, kindOk, ren, givL, updM, backO, renO, belowM, seval, -Int.reduceToNat, B9, D29, B21, B53, bunN, tbB2, List.map_nil, List.nil_append] | exact NK_no _ | refine NK_cl _ _ ?_ | exact Cln.cl | refine clean_tup _ ?_ | refine cleans_cons _ _ ?_ ?_ | refine DR_q _ ?_ | (refine Fk.fk ?_ ?_ <;> intro hg <;> (try simp only [hg]) <;> (try simp only [bunB, ne_eq] at hg) <;> try (exfalso; first | omega | exact Bool.noConfusion hg | exact hg trivial)) | refine And.intro (by omega) ?_ | omega
    all_goals trace_state
  · rw [if_neg h0]
    repeat' first | refine WE_fit (utfRunes_spec s (by omega)) ?_ ?_ | refine DR_p (.take 2 (.two 0 (.one 1 (.one 3 (.one 4 (.one 5 (.take 6 (.two 7 (.take 9 (.one 8 (.take 10 (.done)))) 8 (.one 7 (.take 9 (.take 10 (.done)))))))))) 1 (.two 0 (.one 3 (.one 4 (.one 5 (.take 6 (.two 7 (.take 9 (.one 8 (.take 10 (.done)))) 8 (.one 7 (.take 9 (.take 10 (.done))))))))) 3 (.one 0 (.one 4 (.one 5 (.take 6 (.two 7 (.take 9 (.one 8 (.take 10 (.done)))) 8 (.one 7 (.take 9 (.take 10 (.done)))))))))))) _ (by decide +kernel) ?_ | simp (maxSteps := 4000000) (disch := omega) only [bunL, bunD, bun, ↓WG_true, ↓WG_false, labelOf, findLabel, ↓reduceIte, imp, shift, killO, cond_true, cond_false, hasId, ne_eq, unown, names, plainR, below, noF, isF, lendObs, lendOb, kindOk, ren, givL, updM, backO, renO, belowM, seval, -Int.reduceToNat, List.length_map, hk1, hk2, B9, D29, B21, B53, bunN, tbB2, List.map_nil, List.nil_append] | exact NK_no _ | refine NK_cl _ _ ?_ | exact Cln.cl | refine clean_tup _ ?_ | refine cleans_cons _ _ ?_ ?_ | refine DR_q _ ?_ | (refine Fk.fk ?_ ?_ <;> intro hg <;> (try simp only [hg]) <;> (try simp only [bunB, ne_eq] at hg) <;> try (exfalso; first | omega | exact Bool.noConfusion hg | exact hg trivial)) | refine And.intro (by omega) ?_ | omega
    repeat' refine And.intro ?_ ?_
    all_goals (repeat' first | refine WE_fit (h1) ?_ ?_ | refine WE_fit (h2) ?_ ?_ | refine WE_fit (h3) ?_ ?_ | refine WE_fit (h4) ?_ ?_ | simp (maxSteps := 4000000) (disch := omega) only [bunL, bunD, bun, ↓WG_true, ↓WG_false, labelOf, findLabel, ↓reduceIte, imp, shift, killO, cond_true, cond_false, hasId, ne_eq, unown, names, plainR, below, noF, isF, lendObs, lendOb, kindOk, ren, givL, updM, backO, renO, belowM, seval, -Int.reduceToNat, List.length_map, hk1, hk2, B9, D29, B21, B53, bunN, tbB2, List.map_nil, List.nil_append] | exact NK_no _ | refine NK_cl _ _ ?_ | exact Cln.cl | refine clean_tup _ ?_ | refine cleans_cons _ _ ?_ ?_ | refine DR_q _ ?_ | (refine Fk.fk ?_ ?_ <;> intro hg <;> (try simp only [hg]) <;> (try simp only [bunB, ne_eq] at hg) <;> try (exfalso; first | omega | exact Bool.noConfusion hg | exact hg trivial)) | refine And.intro (by omega) ?_ | omega)
    all_goals (repeat' refine And.intro ?_ ?_)
    all_goals (repeat' first | refine WE_fit (h1) ?_ ?_ | refine WE_fit (h2) ?_ ?_ | refine WE_fit (h3) ?_ ?_ | refine WE_fit (h4) ?_ ?_ | simp (maxSteps := 4000000) (disch := omega) only [bunL, bunD, bun, ↓WG_true, ↓WG_false, labelOf, findLabel, ↓reduceIte, imp, shift, killO, cond_true, cond_false, hasId, ne_eq, unown, names, plainR, below, noF, isF, lendObs, lendOb, kindOk, ren, givL, updM, backO, renO, belowM, seval, -Int.reduceToNat, List.length_map, hk1, hk2, B9, D29, B21, B53, bunN, tbB2, List.map_nil, List.nil_append] | exact NK_no _ | refine NK_cl _ _ ?_ | exact Cln.cl | refine clean_tup _ ?_ | refine cleans_cons _ _ ?_ ?_ | refine DR_q _ ?_ | (refine Fk.fk ?_ ?_ <;> intro hg <;> (try simp only [hg]) <;> (try simp only [bunB, ne_eq] at hg) <;> try (exfalso; first | omega | exact Bool.noConfusion hg | exact hg trivial)) | refine And.intro (by omega) ?_ | omega)
    all_goals trace_state
end Go.AE
end
section
/- Fold: the document's, Alike, a small case; FoldSame, FoldSmall. -/
namespace Go.AE
open Go.Proofs
set_option maxRecDepth 20000
set_option maxHeartbeats 8000000
set_option linter.unusedSimpArgs false
theorem new_box4 : Spec Tryz.prog 6 [] (.ag tabBox) := new_spec
theorem rfold_spec (s : List UInt8) (hs : s.length ≤ 2500) : Spec Tryz.prog 23 [Sv s] (.tup [Sv (foldS s).1, Bv (foldS s).2]) := by
  have hl := runes_len s
  have hr := runes_right s
  have h1 := rwidth_spec (runes s).1 (by omega)
  have h2 := rlowers_spec ((runes s).1.map nar) (by rw [List.length_map]; omega)
  rw [map_lw, List.length_map] at h2
  have h3 := refString_spec ((runes s).1.map lw) (by rw [List.length_map]; omega)
  rw [List.length_map] at h3
  have hn := strS_len ((runes s).1.map lw)
  rw [List.length_map] at hn
  have hrr := runes_str (lw_strOk hr)
  have h4 := rform_spec' (strS ((runes s).1.map lw)) false true (by omega) (by rw [hrr]; simp; omega)
  have hk1 : List.take (runes s).1.length (((runes s).1.map nar).map I32) = ((runes s).1.map nar).map I32 := List.take_of_length_le (by simp)
  have hk2 : List.take (runes s).1.length (((runes s).1.map lw).map I32) = ((runes s).1.map lw).map I32 := List.take_of_length_le (by simp)
  refine spec_mk (z := false) (ts := [.tmp 2, .tmp 3]) ok1 Tryz.func23 rfl rfl (by decide +kernel) (by simp [Tryz.ntmps23]) rfl ?_
  rw [foldS_eq]
  generalize strS ((runes s).1.map lw) = Z at *
  generalize strOk ((runes s).1.map lw) = zo at *
  generalize hf : formS false true Z = fz at *
  clear hrr hn
  by_cases h0 : 0 ≤ (runes s).2
  · rw [if_pos h0]
    repeat' first | refine WE_fit (refRunes_spec s (by omega)) ?_ ?_ | simp (maxSteps := 4000000) (disch := omega) only [bunL, bunD, bun, ↓WG_true, ↓WG_false, labelOf, findLabel, ↓reduceIte, imp, shift, killO, cond_true, cond_false, hasId, ne_eq, unown, names, plainR, below, noF, isF, lendObs, lendOb, kindOk, ren, givL, updM, backO, renO, belowM, seval, -Int.reduceToNat, B3, B4, B9, B21, B53, bunN, Int.reduceToNat, tbB2, List.map_nil, List.nil_append] | exact NK_no _ | refine NK_cl _ _ ?_ | exact Cln.cl | refine clean_tup _ ?_ | refine cleans_cons _ _ ?_ ?_ | refine DR_q _ ?_ | (refine Fk.fk ?_ ?_ <;> intro hg <;> (try simp only [hg]) <;> (try simp only [bunB, ne_eq] at hg) <;> try (exfalso; first | omega | exact Bool.noConfusion hg | exact hg trivial)) | refine And.intro (by omega) ?_ | omega
    all_goals trace_state
  · rw [if_neg h0]
    repeat' first | refine WE_fit (refRunes_spec s (by omega)) ?_ ?_ | refine WE_fit (h1) ?_ ?_ | refine WE_fit (h2) ?_ ?_ | refine WE_fit (h3) ?_ ?_ | refine WE_fit (h4) ?_ ?_ | simp (maxSteps := 4000000) (disch := omega) only [bunL, bunD, bun, ↓WG_true, ↓WG_false, labelOf, findLabel, ↓reduceIte, imp, shift, killO, cond_true, cond_false, hasId, ne_eq, unown, names, plainR, below, noF, isF, lendObs, lendOb, kindOk, ren, givL, updM, backO, renO, belowM, seval, -Int.reduceToNat, List.length_map, hk1, hk2, B3, B4, B9, B21, B53, bunN, Int.reduceToNat, tbB2, List.map_nil, List.nil_append] | exact NK_no _ | refine NK_cl _ _ ?_ | exact Cln.cl | refine clean_tup _ ?_ | refine cleans_cons _ _ ?_ ?_ | refine DR_q _ ?_ | (refine Fk.fk ?_ ?_ <;> intro hg <;> (try simp only [hg]) <;> (try simp only [bunB, ne_eq] at hg) <;> try (exfalso; first | omega | exact Bool.noConfusion hg | exact hg trivial)) | refine And.intro (by omega) ?_ | omega
    all_goals trace_state
def alB (a b : List UInt8) : Bool := (foldS a).2 && (foldS b).2 && ((foldS a).1 == (foldS b).1)
theorem fold_spec (s : List UInt8) (hs : s.length ≤ 10000) : Spec Tryz.prog 19 [tab, Sv s] (.tup [Sv (foldS s).1, Bv (foldS s).2]) := fold_spec' s (by omega) (rl_le hs)
theorem foldS_key {s : List UInt8} (hs : (runes s).1.length ≤ 2500) (h : ¬ 0 ≤ (runes s).2) : ∃ X, foldS s = (X, true) ∧ X.length ≤ 40000 ∧ runes X = (foldL (runes s).1, -1) ∧ (runes X).1.length ≤ 10000 ∧ foldS X = (X, true) ∧ formS false true X = (X, true) := by
  have h1 := foldL_len (runes s).1
  have h2 := strS_len (foldL (runes s).1)
  have e1 := foldS_foldS h
  have e2 := form_foldS h
  have h3 := runes_fold (s := s)
  rw [foldS_at h] at e1 e2
  exact ⟨strS (foldL (runes s).1), foldS_at h, by omega, h3, by rw [h3]; dsimp only; omega, e1, e2⟩
end Go.AE
end
