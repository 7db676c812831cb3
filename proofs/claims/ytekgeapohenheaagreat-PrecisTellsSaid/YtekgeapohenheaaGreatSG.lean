/- Contracts of functions that the laws of this seat reach, and plain laws of what they compute. No condition beyond each statement's own. -/
import Derived.Test.YtekgeapohenheaaGreatSE
import Derived.WalkKit
import Derived.Lib.Walk
import Derived.Lib.SliceRun
import Derived.Lib.AppendZeros
import Derived.Lib.AppendZerosOnto
set_option linter.unusedVariables false
set_option linter.unusedSimpArgs false
section
/- Join, by the document: its contract. -/
namespace Go.AE
open Go.Proofs
set_option maxRecDepth 20000
set_option maxHeartbeats 8000000
set_option linter.unusedSimpArgs false
theorem rjoin_spec (l : List Int) (hl : l.length ≤ 500000) (hr : ∀ r ∈ l, okR r) : Spec Tryz.prog 90 [.sl l.length (l.map I32)] (.own 21 1 (joinL l).length ((joinL l).map I32)) := by
  refine spec_mk (z := false) (ts := [.tmp 2]) ok1 Tryz.func90 rfl rfl (by decide +kernel) (by simp [Tryz.ntmps90]) rfl ?_
  repeat' first | simp (maxSteps := 4000000) (disch := omega) only [bunL, bunD, bun, ↓WG_true, ↓WG_false, labelOf, findLabel, ↓reduceIte, imp, shift, killO, cond_true, cond_false, hasId, ne_eq, unown, names, plainR, below, noF, isF, lendObs, lendOb, kindOk, ren, givL, updM, backO, renO, belowM, seval, -Int.reduceToNat, B3, B4, B21, B53, bunN, tab_fz] | refine DR_q _ ?_ | (refine Fk.fk ?_ ?_ <;> intro hg <;> (try simp only [hg]) <;> (try simp only [bunB, ne_eq] at hg) <;> try (exfalso; first | omega | exact Bool.noConfusion hg | exact hg trivial)) | refine And.intro (by omega) ?_ | omega
  refine LP_intro (fun i : Nat => ⟨[(0, .sl l.length (l.map I32)), (3, .ref 1 0 (jRun (l.take i)).out.length), (4, I64 i)], [.dead, .arr 21 1 ((jRun (l.take i)).out.map I32)]⟩)
    (fun i => i ≤ l.length) (fun i => l.length - i) 0 (by simp) (by (simp (disch := omega) [wk, wkT, wkM, noF, isF, get, belowT, belowM, below, belows, I64, I32, Bv, U8, Sv, jRun, JS.out] <;> try omega)) ?_
  intro i hi
  by_cases hlt : i < l.length
  · have hjt := jRun_take l i hlt
    have hJ := JI.run (l.take i)
    have hJl := jRun_len (l.take i)
    have hJr := jOk_run (l := l.take i) (fun r h => hr r (List.mem_of_mem_take h))
    have hlt0 : (l.take i).length = i := by simp; omega
    have hx : okR (l.getD i 0) := hr _ (by simp [List.getD, hlt])
    obtain ⟨x, hxe⟩ : ∃ x, l.getD i 0 = x := ⟨_, rfl⟩
    rw [hxe] at hjt hx
    have hc := rclass_spec x hx.1 hx.2
    have hc0 := cls_nonneg x
    have hc1 := cls_le x
    generalize jRun (l.take i) = J at *
    have hpo := put_out J x
    have hms := hJ.ms
    cases hst : J.st with
    | none =>
      have hpre := hJ.none hst
      have hj : jStep J x = J.put x := by unfold jStep; rw [hst]
      have ho : J.out = J.ms := by simp [JS.out, hst, hpre]
      rw [hj] at hjt
      rw [ho] at hJl hJr hpo ⊢
      clear hJ ho hpre
      generalize J.ms = ms at *
      repeat' first | refine WE_fit (hc) ?_ ?_ | simp (maxSteps := 4000000) (disch := omega) only [bunL, bunD, bun, ↓WG_true, ↓WG_false, labelOf, findLabel, ↓reduceIte, imp, shift, killO, cond_true, cond_false, hasId, ne_eq, unown, names, plainR, below, noF, isF, lendObs, lendOb, kindOk, ren, givL, updM, backO, renO, belowM, seval, -Int.reduceToNat, hxe, B3, B4, B21, B53, bunN, tab_fz] | exact NK_no _ | refine NK_cl _ _ ?_ | exact Cln.cl | refine clean_tup _ ?_ | refine cleans_cons _ _ ?_ ?_ | refine DR_q _ ?_ | (refine Fk.fk ?_ ?_ <;> intro hg <;> (try simp only [hg]) <;> (try simp only [bunB, ne_eq] at hg) <;> try (exfalso; first | omega | exact Bool.noConfusion hg | exact hg trivial)) | refine And.intro (by omega) ?_ | omega
      refine LP_intro (fun p : Nat × Bool => ⟨[(0, .sl l.length (l.map I32)), (3, .ref 1 0 ms.length), (4, I64 i), (5, I64 (cls x)), (6, I64 ((p.1 : Int) - 1)), (7, Bv p.2)], [.dead, .arr 21 1 (ms.map I32)]⟩)
        (fun p => p.1 ≤ ms.length) (fun p => p.1) (ms.length, true) (Nat.le_refl _) (by simp [wk, wkT, wkM, noF, isF, get, belowT, belowM, below, belows, I64, I32, Bv, U8, Sv] <;> try omega) ?_
      rintro ⟨j, f⟩ hj1
      dsimp only at hj1
      by_cases hj0 : 0 < j
      · have e1 : ((j : Int) - 1).toNat = j - 1 := by omega
        have hm := getD_memD (X := ms) (k := j - 1) (by omega)
        have hmr := hJr _ hm
        have hmc := hms _ hm
        have hcm := rclass_spec _ hmr.1 hmr.2
        generalize hgm : ms.getD (j - 1) 0 = m at *
        by_cases hcmx : cls m < cls x
        · cases f with
          | true =>
            repeat' first | refine WE_fit (hcm) ?_ ?_ | simp (maxSteps := 4000000) (disch := omega) only [bunL, bunD, bun, ↓WG_true, ↓WG_false, labelOf, findLabel, ↓reduceIte, imp, shift, killO, cond_true, cond_false, hasId, ne_eq, unown, names, plainR, below, noF, isF, lendObs, lendOb, kindOk, ren, givL, updM, backO, renO, belowM, seval, -Int.reduceToNat, e1, hxe, hgm, B3, B4, B21, B53, bunN, tab_fz] | exact NK_no _ | refine NK_cl _ _ ?_ | exact Cln.cl | refine clean_tup _ ?_ | refine cleans_cons _ _ ?_ ?_ | refine DR_q _ ?_ | (refine Fk.fk ?_ ?_ <;> intro hg <;> (try simp only [hg]) <;> (try simp only [bunB, ne_eq] at hg) <;> try (exfalso; first | omega | exact Bool.noConfusion hg | exact hg trivial)) | refine And.intro (by omega) ?_ | omega
            refine ⟨(j - 1, true), by dsimp only; omega, by dsimp only; omega, ?_⟩
            (simp (disch := omega) [wk, wkT, wkM, noF, isF, get, belowT, belowM, below, belows, I64, I32, Bv, U8, Sv, ] <;> try omega)
          | false =>
            repeat' first | refine WE_fit (hcm) ?_ ?_ | simp (maxSteps := 4000000) (disch := omega) only [bunL, bunD, bun, ↓WG_true, ↓WG_false, labelOf, findLabel, ↓reduceIte, imp, shift, killO, cond_true, cond_false, hasId, ne_eq, unown, names, plainR, below, noF, isF, lendObs, lendOb, kindOk, ren, givL, updM, backO, renO, belowM, seval, -Int.reduceToNat, e1, hxe, hgm, B3, B4, B21, B53, bunN, tab_fz] | exact NK_no _ | refine NK_cl _ _ ?_ | exact Cln.cl | refine clean_tup _ ?_ | refine cleans_cons _ _ ?_ ?_ | refine DR_q _ ?_ | (refine Fk.fk ?_ ?_ <;> intro hg <;> (try simp only [hg]) <;> (try simp only [bunB, ne_eq] at hg) <;> try (exfalso; first | omega | exact Bool.noConfusion hg | exact hg trivial)) | refine And.intro (by omega) ?_ | omega
            refine ⟨(j - 1, false), by dsimp only; omega, by dsimp only; omega, ?_⟩
            (simp (disch := omega) [wk, wkT, wkM, noF, isF, get, belowT, belowM, below, belows, I64, I32, Bv, U8, Sv, ] <;> try omega)
        · cases f with
          | true =>
            repeat' first | refine WE_fit (hcm) ?_ ?_ | simp (maxSteps := 4000000) (disch := omega) only [bunL, bunD, bun, ↓WG_true, ↓WG_false, labelOf, findLabel, ↓reduceIte, imp, shift, killO, cond_true, cond_false, hasId, ne_eq, unown, names, plainR, below, noF, isF, lendObs, lendOb, kindOk, ren, givL, updM, backO, renO, belowM, seval, -Int.reduceToNat, e1, hxe, hgm, B3, B4, B21, B53, bunN, tab_fz] | exact NK_no _ | refine NK_cl _ _ ?_ | exact Cln.cl | refine clean_tup _ ?_ | refine cleans_cons _ _ ?_ ?_ | refine DR_q _ ?_ | (refine Fk.fk ?_ ?_ <;> intro hg <;> (try simp only [hg]) <;> (try simp only [bunB, ne_eq] at hg) <;> try (exfalso; first | omega | exact Bool.noConfusion hg | exact hg trivial)) | refine And.intro (by omega) ?_ | omega
            refine ⟨(j - 1, false), by dsimp only; omega, by dsimp only; omega, ?_⟩
            (simp (disch := omega) [wk, wkT, wkM, noF, isF, get, belowT, belowM, below, belows, I64, I32, Bv, U8, Sv, ] <;> try omega)
          | false =>
            repeat' first | refine WE_fit (hcm) ?_ ?_ | simp (maxSteps := 4000000) (disch := omega) only [bunL, bunD, bun, ↓WG_true, ↓WG_false, labelOf, findLabel, ↓reduceIte, imp, shift, killO, cond_true, cond_false, hasId, ne_eq, unown, names, plainR, below, noF, isF, lendObs, lendOb, kindOk, ren, givL, updM, backO, renO, belowM, seval, -Int.reduceToNat, e1, hxe, hgm, B3, B4, B21, B53, bunN, tab_fz] | exact NK_no _ | refine NK_cl _ _ ?_ | exact Cln.cl | refine clean_tup _ ?_ | refine cleans_cons _ _ ?_ ?_ | refine DR_q _ ?_ | (refine Fk.fk ?_ ?_ <;> intro hg <;> (try simp only [hg]) <;> (try simp only [bunB, ne_eq] at hg) <;> try (exfalso; first | omega | exact Bool.noConfusion hg | exact hg trivial)) | refine And.intro (by omega) ?_ | omega
            refine ⟨(j - 1, false), by dsimp only; omega, by dsimp only; omega, ?_⟩
            (simp (disch := omega) [wk, wkT, wkM, noF, isF, get, belowT, belowM, below, belows, I64, I32, Bv, U8, Sv, ] <;> try omega)
      · have e : j = 0 := by omega
        subst e
        repeat' first | simp (maxSteps := 4000000) (disch := omega) only [bunL, bunD, bun, ↓WG_true, ↓WG_false, labelOf, findLabel, ↓reduceIte, imp, shift, killO, cond_true, cond_false, hasId, ne_eq, unown, names, plainR, below, noF, isF, lendObs, lendOb, kindOk, ren, givL, updM, backO, renO, belowM, seval, -Int.reduceToNat, hxe, B3, B4, B21, B53, bunN, tab_fz] | refine DR_q _ ?_ | (refine Fk.fk ?_ ?_ <;> intro hg <;> (try simp only [hg]) <;> (try simp only [bunB, ne_eq] at hg) <;> try (exfalso; first | omega | exact Bool.noConfusion hg | exact hg trivial)) | refine And.intro (by omega) ?_ | omega
        refine ⟨i + 1, by omega, by omega, ?_⟩
        rw [hjt, hpo]
        (simp (disch := omega) [wk, wkT, wkM, noF, isF, get, belowT, belowM, below, belows, I64, I32, Bv, U8, Sv, ] <;> try omega)
    | some b =>
      have ho : J.out = J.pre ++ b :: J.ms := by simp [JS.out, hst]
      have hbc := hJ.st b hst
      have hj : jStep J x = if J.ms.all (fun m => decide (cls m < cls x)) then (if (mk2 b x).2 then ⟨J.pre, some (mk2 b x).1, J.ms⟩ else J.put x) else J.put x := by unfold jStep; rw [hst]
      have o1 : (JS.out ⟨J.pre, some (mk2 b x).1, J.ms⟩) = J.pre ++ (mk2 b x).1 :: J.ms := by simp [JS.out]
      rw [hj] at hjt
      rw [ho] at hJl hJr hpo ⊢
      have hbo : okR b := hJr b (by simp)
      have hmk := rmake_spec b x hbo hx
      have hcb := rclass_spec b hbo.1 hbo.2
      have hfin : ∀ f : Bool, (J.ms.all fun m => decide (cls m < cls x)) = f → (jRun (l.take (i + 1))).out = if f = true ∧ (mk2 b x).2 = true then J.pre ++ (mk2 b x).1 :: J.ms else J.pre ++ b :: J.ms ++ [x] := fun f hf => by
        rw [hjt, hf]
        cases f <;> cases hk : (mk2 b x).2 <;> simp [hpo, o1]
      clear hJ ho hj hjt o1
      generalize J.ms = ms at *
      generalize J.pre = pre at *
      have hol : (pre ++ b :: ms).length = pre.length + (ms.length + 1) := by simp
      have hgb : (pre ++ b :: ms).getD pre.length 0 = b := getD_mid rfl
      repeat' first | refine WE_fit (hc) ?_ ?_ | simp (maxSteps := 4000000) (disch := omega) only [bunL, bunD, bun, ↓WG_true, ↓WG_false, labelOf, findLabel, ↓reduceIte, imp, shift, killO, cond_true, cond_false, hasId, ne_eq, unown, names, plainR, below, noF, isF, lendObs, lendOb, kindOk, ren, givL, updM, backO, renO, belowM, seval, -Int.reduceToNat, hxe, B3, B4, B21, B53, bunN, tab_fz] | exact NK_no _ | refine NK_cl _ _ ?_ | exact Cln.cl | refine clean_tup _ ?_ | refine cleans_cons _ _ ?_ ?_ | refine DR_q _ ?_ | (refine Fk.fk ?_ ?_ <;> intro hg <;> (try simp only [hg]) <;> (try simp only [bunB, ne_eq] at hg) <;> try (exfalso; first | omega | exact Bool.noConfusion hg | exact hg trivial)) | refine And.intro (by omega) ?_ | omega
      refine LP_intro (fun p : Nat × Bool => ⟨[(0, .sl l.length (l.map I32)), (3, .ref 1 0 (pre ++ b :: ms).length), (4, I64 i), (5, I64 (cls x)), (6, I64 ((pre.length : Int) + p.1)), (7, Bv p.2)], [.dead, .arr 21 1 ((pre ++ b :: ms).map I32)]⟩)
        (fun p => p.1 ≤ ms.length ∧ ((ms.drop p.1).all fun m => decide (cls m < cls x)) = p.2) (fun p => p.1) (ms.length, true) ⟨Nat.le_refl _, by simp⟩ (by (simp (disch := omega) [wk, wkT, wkM, noF, isF, get, belowT, belowM, below, belows, I64, I32, Bv, U8, Sv, hol] <;> try omega)) ?_
      rintro ⟨j, f⟩ ⟨hj1, hf⟩
      dsimp only at hj1 hf
      by_cases hj0 : 0 < j
      · obtain ⟨t1, t2⟩ := take_pred hj0 hj1
        have e1 : ((pre.length : Int) + (j : Int)).toNat = pre.length + j := by omega
        have hm := getD_memD (X := ms) (k := j - 1) (by omega)
        have hmr := hJr _ (List.mem_append_right _ (List.mem_cons_of_mem _ hm))
        have hmc := hms _ hm
        have hcm := rclass_spec _ hmr.1 hmr.2
        have hgm : (pre ++ b :: ms).getD (pre.length + j) 0 = ms.getD (j - 1) 0 := by
          have := getD_x (A := pre ++ [b]) (X := ms) (R := []) (k := j - 1) (by omega)
          rw [List.append_nil] at this
          rw [← this, show pre ++ b :: ms = pre ++ [b] ++ ms by simp]
          congr 1
          simp; omega
        have hf2 : ((ms.drop (j - 1)).all fun m => decide (cls m < cls x)) = (decide (cls (ms.getD (j - 1) 0) < cls x) && f) := by rw [t2, List.all_cons, hf]
        generalize ms.getD (j - 1) 0 = m at *
        by_cases hcmx : cls m < cls x
        · cases f with
          | true =>
            repeat' first | refine WE_fit (hcm) ?_ ?_ | simp (maxSteps := 4000000) (disch := omega) only [bunL, bunD, bun, ↓WG_true, ↓WG_false, labelOf, findLabel, ↓reduceIte, imp, shift, killO, cond_true, cond_false, hasId, ne_eq, unown, names, plainR, below, noF, isF, lendObs, lendOb, kindOk, ren, givL, updM, backO, renO, belowM, seval, -Int.reduceToNat, e1, hxe, hol, hgm, B3, B4, B21, B53, bunN, tab_fz] | exact NK_no _ | refine NK_cl _ _ ?_ | exact Cln.cl | refine clean_tup _ ?_ | refine cleans_cons _ _ ?_ ?_ | refine DR_q _ ?_ | (refine Fk.fk ?_ ?_ <;> intro hg <;> (try simp only [hg]) <;> (try simp only [bunB, ne_eq] at hg) <;> try (exfalso; first | omega | exact Bool.noConfusion hg | exact hg trivial)) | refine And.intro (by omega) ?_ | omega
            refine ⟨(j - 1, true), ⟨by dsimp only; omega, by rw [hf2, decide_eq_true hcmx]; rfl⟩, by dsimp only; omega, ?_⟩
            (simp (disch := omega) [wk, wkT, wkM, noF, isF, get, belowT, belowM, below, belows, I64, I32, Bv, U8, Sv, hol] <;> try omega)
          | false =>
            repeat' first | refine WE_fit (hcm) ?_ ?_ | simp (maxSteps := 4000000) (disch := omega) only [bunL, bunD, bun, ↓WG_true, ↓WG_false, labelOf, findLabel, ↓reduceIte, imp, shift, killO, cond_true, cond_false, hasId, ne_eq, unown, names, plainR, below, noF, isF, lendObs, lendOb, kindOk, ren, givL, updM, backO, renO, belowM, seval, -Int.reduceToNat, e1, hxe, hol, hgm, B3, B4, B21, B53, bunN, tab_fz] | exact NK_no _ | refine NK_cl _ _ ?_ | exact Cln.cl | refine clean_tup _ ?_ | refine cleans_cons _ _ ?_ ?_ | refine DR_q _ ?_ | (refine Fk.fk ?_ ?_ <;> intro hg <;> (try simp only [hg]) <;> (try simp only [bunB, ne_eq] at hg) <;> try (exfalso; first | omega | exact Bool.noConfusion hg | exact hg trivial)) | refine And.intro (by omega) ?_ | omega
            refine ⟨(j - 1, false), ⟨by dsimp only; omega, by rw [hf2, decide_eq_true hcmx]; rfl⟩, by dsimp only; omega, ?_⟩
            (simp (disch := omega) [wk, wkT, wkM, noF, isF, get, belowT, belowM, below, belows, I64, I32, Bv, U8, Sv, hol] <;> try omega)
        · cases f with
          | true =>
            repeat' first | refine WE_fit (hcm) ?_ ?_ | simp (maxSteps := 4000000) (disch := omega) only [bunL, bunD, bun, ↓WG_true, ↓WG_false, labelOf, findLabel, ↓reduceIte, imp, shift, killO, cond_true, cond_false, hasId, ne_eq, unown, names, plainR, below, noF, isF, lendObs, lendOb, kindOk, ren, givL, updM, backO, renO, belowM, seval, -Int.reduceToNat, e1, hxe, hol, hgm, B3, B4, B21, B53, bunN, tab_fz] | exact NK_no _ | refine NK_cl _ _ ?_ | exact Cln.cl | refine clean_tup _ ?_ | refine cleans_cons _ _ ?_ ?_ | refine DR_q _ ?_ | (refine Fk.fk ?_ ?_ <;> intro hg <;> (try simp only [hg]) <;> (try simp only [bunB, ne_eq] at hg) <;> try (exfalso; first | omega | exact Bool.noConfusion hg | exact hg trivial)) | refine And.intro (by omega) ?_ | omega
            refine ⟨(j - 1, false), ⟨by dsimp only; omega, by rw [hf2, decide_eq_false hcmx]; rfl⟩, by dsimp only; omega, ?_⟩
            (simp (disch := omega) [wk, wkT, wkM, noF, isF, get, belowT, belowM, below, belows, I64, I32, Bv, U8, Sv, hol] <;> try omega)
          | false =>
            repeat' first | refine WE_fit (hcm) ?_ ?_ | simp (maxSteps := 4000000) (disch := omega) only [bunL, bunD, bun, ↓WG_true, ↓WG_false, labelOf, findLabel, ↓reduceIte, imp, shift, killO, cond_true, cond_false, hasId, ne_eq, unown, names, plainR, below, noF, isF, lendObs, lendOb, kindOk, ren, givL, updM, backO, renO, belowM, seval, -Int.reduceToNat, e1, hxe, hol, hgm, B3, B4, B21, B53, bunN, tab_fz] | exact NK_no _ | refine NK_cl _ _ ?_ | exact Cln.cl | refine clean_tup _ ?_ | refine cleans_cons _ _ ?_ ?_ | refine DR_q _ ?_ | (refine Fk.fk ?_ ?_ <;> intro hg <;> (try simp only [hg]) <;> (try simp only [bunB, ne_eq] at hg) <;> try (exfalso; first | omega | exact Bool.noConfusion hg | exact hg trivial)) | refine And.intro (by omega) ?_ | omega
            refine ⟨(j - 1, false), ⟨by dsimp only; omega, by rw [hf2, decide_eq_false hcmx]; rfl⟩, by dsimp only; omega, ?_⟩
            (simp (disch := omega) [wk, wkT, wkM, noF, isF, get, belowT, belowM, below, belows, I64, I32, Bv, U8, Sv, hol] <;> try omega)
      · have e : j = 0 := by omega
        subst e
        have e1 : ((pre.length : Int) + ((0 : Nat) : Int)).toNat = pre.length := by omega
        have e2 : ((pre.length : Int) + 0).toNat = pre.length := by omega
        rw [List.drop_zero] at hf
        have hfin := hfin f hf
        cases f with
        | true =>
          cases hk : (mk2 b x).2 with
          | true =>
            rw [if_pos ⟨rfl, hk⟩] at hfin
            have hset : (pre ++ b :: ms).set pre.length (mk2 b x).1 = pre ++ (mk2 b x).1 :: ms := set_mid rfl
            repeat' first | refine WE_fit (hcb) ?_ ?_ | refine WE_fit (hmk) ?_ ?_ | simp (maxSteps := 4000000) (disch := omega) only [bunL, bunD, bun, ↓WG_true, ↓WG_false, labelOf, findLabel, ↓reduceIte, imp, shift, killO, cond_true, cond_false, hasId, ne_eq, unown, names, plainR, below, noF, isF, lendObs, lendOb, kindOk, ren, givL, updM, backO, renO, belowM, seval, -Int.reduceToNat, e1, e2, hxe, hol, hgb, hbc, hk, setNth_i32, hset, B3, B4, B21, B53, bunN, tab_fz] | exact NK_no _ | refine NK_cl _ _ ?_ | exact Cln.cl | refine clean_tup _ ?_ | refine cleans_cons _ _ ?_ ?_ | refine DR_q _ ?_ | (refine Fk.fk ?_ ?_ <;> intro hg <;> (try simp only [hg]) <;> (try simp only [bunB, ne_eq] at hg) <;> try (exfalso; first | omega | exact Bool.noConfusion hg | exact hg trivial)) | refine And.intro (by omega) ?_ | omega
            refine ⟨i + 1, by omega, by omega, ?_⟩
            rw [hfin]
            (simp (disch := omega) [wk, wkT, wkM, noF, isF, get, belowT, belowM, below, belows, I64, I32, Bv, U8, Sv, hol] <;> try omega)
          | false =>
            rw [if_neg (by rw [hk]; simp)] at hfin
            repeat' first | refine WE_fit (hcb) ?_ ?_ | refine WE_fit (hmk) ?_ ?_ | simp (maxSteps := 4000000) (disch := omega) only [bunL, bunD, bun, ↓WG_true, ↓WG_false, labelOf, findLabel, ↓reduceIte, imp, shift, killO, cond_true, cond_false, hasId, ne_eq, unown, names, plainR, below, noF, isF, lendObs, lendOb, kindOk, ren, givL, updM, backO, renO, belowM, seval, -Int.reduceToNat, e1, e2, hxe, hol, hgb, hbc, hk, B3, B4, B21, B53, bunN, tab_fz] | exact NK_no _ | refine NK_cl _ _ ?_ | exact Cln.cl | refine clean_tup _ ?_ | refine cleans_cons _ _ ?_ ?_ | refine DR_q _ ?_ | (refine Fk.fk ?_ ?_ <;> intro hg <;> (try simp only [hg]) <;> (try simp only [bunB, ne_eq] at hg) <;> try (exfalso; first | omega | exact Bool.noConfusion hg | exact hg trivial)) | refine And.intro (by omega) ?_ | omega
            refine ⟨i + 1, by omega, by omega, ?_⟩
            rw [hfin]
            (simp (disch := omega) [wk, wkT, wkM, noF, isF, get, belowT, belowM, below, belows, I64, I32, Bv, U8, Sv, hol, List.append_assoc] <;> try omega)
        | false =>
          rw [if_neg (by simp)] at hfin
          repeat' first | refine WE_fit (hcb) ?_ ?_ | refine WE_fit (hmk) ?_ ?_ | simp (maxSteps := 4000000) (disch := omega) only [bunL, bunD, bun, ↓WG_true, ↓WG_false, labelOf, findLabel, ↓reduceIte, imp, shift, killO, cond_true, cond_false, hasId, ne_eq, unown, names, plainR, below, noF, isF, lendObs, lendOb, kindOk, ren, givL, updM, backO, renO, belowM, seval, -Int.reduceToNat, e1, e2, hxe, hol, hgb, hbc, B3, B4, B21, B53, bunN, tab_fz] | exact NK_no _ | refine NK_cl _ _ ?_ | exact Cln.cl | refine clean_tup _ ?_ | refine cleans_cons _ _ ?_ ?_ | refine DR_q _ ?_ | (refine Fk.fk ?_ ?_ <;> intro hg <;> (try simp only [hg]) <;> (try simp only [bunB, ne_eq] at hg) <;> try (exfalso; first | omega | exact Bool.noConfusion hg | exact hg trivial)) | refine And.intro (by omega) ?_ | omega
          refine ⟨i + 1, by omega, by omega, ?_⟩
          rw [hfin]
          (simp (disch := omega) [wk, wkT, wkM, noF, isF, get, belowT, belowM, below, belows, I64, I32, Bv, U8, Sv, hol, List.append_assoc] <;> try omega)
  · have e : i = l.length := by omega
    subst e
    rw [List.take_length] at *
    repeat' first | simp (maxSteps := 4000000) (disch := omega) only [bunL, bunD, bun, ↓WG_true, ↓WG_false, labelOf, findLabel, ↓reduceIte, imp, shift, killO, cond_true, cond_false, hasId, ne_eq, unown, names, plainR, below, noF, isF, lendObs, lendOb, kindOk, ren, givL, updM, backO, renO, belowM, seval, -Int.reduceToNat, B3, B4, B21, B53, bunN, tab_fz] | refine DR_q _ ?_ | (refine Fk.fk ?_ ?_ <;> intro hg <;> (try simp only [hg]) <;> (try simp only [bunB, ne_eq] at hg) <;> try (exfalso; first | omega | exact Bool.noConfusion hg | exact hg trivial)) | refine And.intro (by omega) ?_ | omega
    rfl
end Go.AE
end
section
/- slices.Grow of nothing: its contract. -/
set_option linter.unusedSimpArgs false
set_option linter.unusedVariables false
namespace Go.AE
open Go.Proofs Go.Lib
set_option maxHeartbeats 4000000 in
set_option maxRecDepth 100000 in
theorem grow_run (w : World) (n : Nat) (h0 : 0 < n) (hn : n ≤ 1000000) : Calls Tryz.prog 148 #[.slice none 0 0, .int .i64 n] w fun e w' =>
    e = .returned (.slice (some ⟨w.heap.size, 0, none⟩) 0 (grownCap w n 0 21)) ∧ w' = w.drew.alloc (.cells (Builtin.zeroCells (Value.int .i32 0).cells n ++ Builtin.zeroCells (Value.int .i32 0).cells (grownCap w n 0 21 - n)) 21) := by
  have happ : ∀ ty, (Builtin.append_ #[53, 3] ty #[.slice none 0 0, .int .i64 n]).run Tryz.prog w = _ := fun ty =>
    run_append_nil_zeros (P := Tryz.prog) w 53 3 ty 21 _ (.int .i32 0) .i64 .i64 Tryz.underlying53 Tryz.underlying3 rfl rfl n h0 (by decide) (by omega) (by show n * 4 ≤ _; omega)
  have hge : n ≤ grownCap w n 0 21 := grownCap_ge w _ 0 21
  have hle : grownCap w n 0 21 ≤ maxLen := grownCap_le_maxLen w _ 0 21 (by unfold maxLen; omega)
  go_enter Tryz.func148, Tryz.ntmps148
  go_wp2_with (at_builtin; refine Lib.wpList_append_run _ rfl _ _ _ _ rfl _ _ rfl rfl _ _ (happ _) ?_)
  go_ret
  exact ⟨rfl, rfl⟩
set_option maxHeartbeats 4000000 in
set_option maxRecDepth 100000 in
theorem grow_run0 (w : World) : Calls Tryz.prog 148 #[.slice none 0 0, .int .i64 0] w fun e w' => e = .returned (.slice none 0 0) ∧ w' = w := by
  go_enter Tryz.func148, Tryz.ntmps148
  go_wp2
  go_ret
  exact ⟨rfl, rfl⟩
theorem grow_spec (n : Nat) (hn : n ≤ 1000000) : Spec Tryz.prog 148 [.v (.slice none 0 0), I64 n] (.own 21 1 0 []) := by
  refine ⟨⟨_, Tryz.func148, by decide +kernel, by decide +kernel⟩, fun w F vs hw hr => ?_⟩
  obtain ⟨v0, v1, rfl, h0, h1⟩ : ∃ v0 v1, vs = [v0, v1] ∧ Rep w F [] (.v (.slice none 0 0)) v0 ∧ Rep w F [] (I64 n) v1 := by
    cases hr with
    | cons h0 hr => cases hr with
      | cons h1 hr => cases hr; exact ⟨_, _, rfl, h0, h1⟩
  cases h0
  cases h1
  rcases Nat.eq_zero_or_pos n with rfl | hp
  · refine (grow_run0 w).mono ?_
    rintro e w' ⟨rfl, rfl⟩
    refine ⟨_, F, [none], rfl, Grow.refl _, fun b h => h, fun b h => ⟨.inl h, hw b h⟩, .ref0 rfl, ?_, ?_⟩
    · refine ⟨rfl, fun id x hx => ?_, fun id L hx => ?_, fun i j L M hi hj => ?_⟩
      · cases id with
        | zero => cases hx; exact ⟨0, [], ⟨rfl, .inl ⟨rfl, rfl⟩⟩, .nil, by simp, by decide, fun L h => by cases h⟩
        | succ id => cases hx
      · cases id with
        | zero => cases hx
        | succ id => cases hx
      · cases i with
        | zero => cases hi
        | succ i => cases hi
    · intro id L hL
      cases id with
      | zero => cases hL
      | succ id => cases hL
  · refine (grow_run w n hp hn).mono ?_
    rintro e w' ⟨rfl, hw'⟩
    have hge : n ≤ grownCap w n 0 21 := grownCap_ge w _ 0 21
    have hle : grownCap w n 0 21 ≤ maxLen := grownCap_le_maxLen w _ 0 21 (by unfold maxLen; omega)
    have hsz : w'.heap.size = w.heap.size + 1 := by rw [hw']; exact Array.size_push _
    have hold : ∀ k, k < w.heap.size → w'.heap[k]? = w.heap[k]? := fun k hk => by
      rw [hw']
      exact RowKit.Below.heap_alloc w.drew _ k hk
    have hnew : w'.heap[w.heap.size]? = some (.cells (Builtin.zeroCells (Value.int .i32 0).cells n ++ Builtin.zeroCells (Value.int .i32 0).cells (grownCap w n 0 21 - n)) 21 (0, 0)) := by
      rw [hw']
      exact heap_alloc_new w.drew _
    have hrep : Rep w' F [some ⟨w.heap.size, 0, grownCap w n 0 21⟩] (.ref 0 0 0) (.slice (some ⟨w.heap.size, 0, none⟩) 0 (grownCap w n 0 21)) := Rep.ref (L := ⟨w.heap.size, 0, grownCap w n 0 21⟩) rfl (fun _ => rfl) (Nat.zero_le _)
    refine ⟨_, F, [some ⟨w.heap.size, 0, grownCap w n 0 21⟩], rfl, ⟨by rw [hw']; rfl, by rw [hw']; rfl, by rw [hw']; rfl, by omega, hold⟩, fun b h => h, fun b h => ⟨.inl h, by have := hw b h; omega⟩, hrep, ?_, ?_⟩
    · refine ⟨rfl, fun id x hx => ?_, fun id L hx => ?_, fun i j L M hi hj _ => ?_⟩
      · cases id with
        | zero =>
          cases hx
          refine ⟨0, [], ⟨rfl, .inr ⟨w.heap.size, grownCap w n 0 21, _, rfl, Nat.zero_le _, hnew, Nat.zero_le _, hle, ?_, by simp⟩⟩, .nil, by simp, by decide, fun L h => by cases h; rfl⟩
          simp [size_zeroCells, Value.cells]; omega
        | succ id => cases hx
      · cases id with
        | zero =>
          cases hx
          refine ⟨fun h => ?_, by dsimp only; omega⟩
          have := hw _ h
          dsimp only at this
          omega
        | succ id => cases hx
      · cases i with
        | zero => cases j with
          | zero => rfl
          | succ j => cases hj
        | succ i => cases hi
    · intro id L hL
      cases id with
      | zero => cases hL; exact Nat.le_refl _
      | succ id => cases hL
end Go.AE
end
section
/- slices.Concat of two rows: its contract. -/
namespace Go.AE
open Go.Proofs
set_option maxRecDepth 20000
set_option maxHeartbeats 8000000
set_option linter.unusedSimpArgs false
theorem concat_spec (A B : List Int) (hA : A.length ≤ 400000) (hB : B.length ≤ 400000) : Spec Tryz.prog 143 [.sl 2 [.sl A.length (A.map I32), .sl B.length (B.map I32)]] (.own 21 1 (A ++ B).length ((A ++ B).map I32)) := by
  refine spec_mk (z := false) (ts := [.tmp 2]) ok1 Tryz.func143 rfl rfl (by decide +kernel) (by simp [Tryz.ntmps143]) rfl ?_
  repeat' first | simp (maxSteps := 4000000) (disch := omega) only [bunL, bunD, bun, ↓WG_true, ↓WG_false, labelOf, findLabel, ↓reduceIte, imp, shift, killO, cond_true, cond_false, hasId, ne_eq, unown, names, plainR, below, noF, isF, lendObs, lendOb, kindOk, ren, givL, updM, backO, renO, belowM, seval, -Int.reduceToNat, B3, B4, B9, D147, bunN] | refine DR_q _ ?_ | (refine Fk.fk ?_ ?_ <;> intro hg <;> (try simp only [hg]) <;> (try simp only [bunB, ne_eq] at hg) <;> try (exfalso; first | omega | exact Bool.noConfusion hg | exact hg trivial)) | refine And.intro (by omega) ?_ | omega
  refine LP_intro (fun x : Nat × Nat => ⟨[(0, .sl 2 [.sl A.length (A.map I32), .sl B.length (B.map I32)]), (3, I64 x.2), (9, .sl 2 [.sl A.length (A.map I32), .sl B.length (B.map I32)]), (10, I64 2), (11, I64 x.1)], [.dead]⟩)
    (fun x => (x.1 = 0 ∧ x.2 = 0) ∨ (x.1 = 1 ∧ x.2 = A.length) ∨ (x.1 = 2 ∧ x.2 = A.length + B.length)) (fun x => 2 - x.1) (0, 0) (.inl ⟨rfl, rfl⟩) (by simp [wk, wkT, wkM, noF, isF, get, belowT, belowM, below, belows, I64, I32, Bv, U8, Sv] <;> try omega) ?_
  rintro ⟨i, k⟩ h
  dsimp only at h
  rcases h with ⟨rfl, rfl⟩ | ⟨rfl, rfl⟩ | ⟨rfl, rfl⟩
  · repeat' first | simp (maxSteps := 4000000) (disch := omega) only [bunL, bunD, bun, ↓WG_true, ↓WG_false, labelOf, findLabel, ↓reduceIte, imp, shift, killO, cond_true, cond_false, hasId, ne_eq, unown, names, plainR, below, noF, isF, lendObs, lendOb, kindOk, ren, givL, updM, backO, renO, belowM, seval, -Int.reduceToNat, B3, B4, B9, D147, bunN] | refine DR_q _ ?_ | (refine Fk.fk ?_ ?_ <;> intro hg <;> (try simp only [hg]) <;> (try simp only [bunB, ne_eq] at hg) <;> try (exfalso; first | omega | exact Bool.noConfusion hg | exact hg trivial)) | refine And.intro (by omega) ?_ | omega
    refine ⟨(1, A.length), .inr (.inl ⟨rfl, rfl⟩), by simp, ?_⟩
    (simp (disch := omega) [wk, wkT, wkM, noF, isF, get, belowT, belowM, below, belows, I64, I32, Bv, U8, Sv, ] <;> try omega)
  · repeat' first | simp (maxSteps := 4000000) (disch := omega) only [bunL, bunD, bun, ↓WG_true, ↓WG_false, labelOf, findLabel, ↓reduceIte, imp, shift, killO, cond_true, cond_false, hasId, ne_eq, unown, names, plainR, below, noF, isF, lendObs, lendOb, kindOk, ren, givL, updM, backO, renO, belowM, seval, -Int.reduceToNat, B3, B4, B9, D147, bunN] | refine DR_q _ ?_ | (refine Fk.fk ?_ ?_ <;> intro hg <;> (try simp only [hg]) <;> (try simp only [bunB, ne_eq] at hg) <;> try (exfalso; first | omega | exact Bool.noConfusion hg | exact hg trivial)) | refine And.intro (by omega) ?_ | omega
    refine ⟨(2, A.length + B.length), .inr (.inr ⟨rfl, rfl⟩), by simp, ?_⟩
    (simp (disch := omega) [wk, wkT, wkM, noF, isF, get, belowT, belowM, below, belows, I64, I32, Bv, U8, Sv, ] <;> try omega)
  · repeat' first | refine WE_fit (grow_spec (A.length + B.length) (by omega)) ?_ ?_ | simp (maxSteps := 4000000) (disch := omega) only [bunL, bunD, bun, ↓WG_true, ↓WG_false, labelOf, findLabel, ↓reduceIte, imp, shift, killO, cond_true, cond_false, hasId, ne_eq, unown, names, plainR, below, noF, isF, lendObs, lendOb, kindOk, ren, givL, updM, backO, renO, belowM, seval, -Int.reduceToNat, B3, B4, B9, D147, bunN] | exact NK_no _ | refine NK_cl _ _ ?_ | exact Cln.cl | refine clean_tup _ ?_ | refine cleans_cons _ _ ?_ ?_ | refine DR_q _ ?_ | (refine Fk.fk ?_ ?_ <;> intro hg <;> (try simp only [hg]) <;> (try simp only [bunB, ne_eq] at hg) <;> try (exfalso; first | omega | exact Bool.noConfusion hg | exact hg trivial)) | refine And.intro (by omega) ?_ | omega
    refine LP_intro (fun x : Nat × List Int => ⟨[(6, .ref 1 0 x.2.length), (25, .sl 2 [.sl A.length (A.map I32), .sl B.length (B.map I32)]), (26, I64 2), (27, I64 x.1)], [.dead, .arr 21 1 (x.2.map I32)]⟩)
      (fun x => (x.1 = 0 ∧ x.2 = []) ∨ (x.1 = 1 ∧ x.2 = A) ∨ (x.1 = 2 ∧ x.2 = A ++ B)) (fun x => 2 - x.1) (0, []) (.inl ⟨rfl, rfl⟩) (by (simp (disch := omega) [wk, wkT, wkM, noF, isF, get, belowT, belowM, below, belows, I64, I32, Bv, U8, Sv, ] <;> try omega)) ?_
    rintro ⟨i, k⟩ h
    dsimp only at h
    rcases h with ⟨rfl, rfl⟩ | ⟨rfl, rfl⟩ | ⟨rfl, rfl⟩
    · repeat' first | simp (maxSteps := 4000000) (disch := omega) only [bunL, bunD, bun, ↓WG_true, ↓WG_false, labelOf, findLabel, ↓reduceIte, imp, shift, killO, cond_true, cond_false, hasId, ne_eq, unown, names, plainR, below, noF, isF, lendObs, lendOb, kindOk, ren, givL, updM, backO, renO, belowM, seval, -Int.reduceToNat, B3, B4, B9, D147, bunN] | refine DR_q _ ?_ | (refine Fk.fk ?_ ?_ <;> intro hg <;> (try simp only [hg]) <;> (try simp only [bunB, ne_eq] at hg) <;> try (exfalso; first | omega | exact Bool.noConfusion hg | exact hg trivial)) | refine And.intro (by omega) ?_ | omega
      refine ⟨(1, A), .inr (.inl ⟨rfl, rfl⟩), by simp, ?_⟩
      (simp (disch := omega) [wk, wkT, wkM, noF, isF, get, belowT, belowM, below, belows, I64, I32, Bv, U8, Sv, ] <;> try omega)
    · repeat' first | simp (maxSteps := 4000000) (disch := omega) only [bunL, bunD, bun, ↓WG_true, ↓WG_false, labelOf, findLabel, ↓reduceIte, imp, shift, killO, cond_true, cond_false, hasId, ne_eq, unown, names, plainR, below, noF, isF, lendObs, lendOb, kindOk, ren, givL, updM, backO, renO, belowM, seval, -Int.reduceToNat, B3, B4, B9, D147, bunN] | refine DR_q _ ?_ | (refine Fk.fk ?_ ?_ <;> intro hg <;> (try simp only [hg]) <;> (try simp only [bunB, ne_eq] at hg) <;> try (exfalso; first | omega | exact Bool.noConfusion hg | exact hg trivial)) | refine And.intro (by omega) ?_ | omega
      refine ⟨(2, k ++ B), .inr (.inr ⟨rfl, rfl⟩), by simp, ?_⟩
      (simp (disch := omega) [wk, wkT, wkM, noF, isF, get, belowT, belowM, below, belows, I64, I32, Bv, U8, Sv, List.map_append] <;> try omega)
    · repeat' first | simp (maxSteps := 4000000) (disch := omega) only [bunL, bunD, bun, ↓WG_true, ↓WG_false, labelOf, findLabel, ↓reduceIte, imp, shift, killO, cond_true, cond_false, hasId, ne_eq, unown, names, plainR, below, noF, isF, lendObs, lendOb, kindOk, ren, givL, updM, backO, renO, belowM, seval, -Int.reduceToNat, B3, B4, B9, D147, bunN] | refine DR_q _ ?_ | (refine Fk.fk ?_ ?_ <;> intro hg <;> (try simp only [hg]) <;> (try simp only [bunB, ne_eq] at hg) <;> try (exfalso; first | omega | exact Bool.noConfusion hg | exact hg trivial)) | refine And.intro (by omega) ?_ | omega
      all_goals trace_state
end Go.AE
end
section
/- What characters are split into: its contract. -/
namespace Go.AE
open Go.Proofs
set_option maxRecDepth 20000
set_option maxHeartbeats 8000000
set_option linter.unusedSimpArgs false
theorem nsyl_spec (r : Int) (h : 44032 ≤ r ∧ r ≤ 55203) : Spec Tryz.prog 142 [I32 r] (.own 21 1 (syl r).length ((syl r).map I32)) := by
  by_cases h28 : (r - 44032) % 28 = 0
  · have hs : syl r = [4352 + (r - 44032) / 588, 4449 + (r - 44032) % 588 / 28] := by rw [syl, if_pos h28]; rfl
    have e : (r - 44032) % 588 / 28 = (r - 44032) / 28 % 21 := by omega
    rw [hs, e]
    refine spec_mk (z := false) (ts := [.tmp 2]) ok1 Tryz.func142 rfl rfl (by decide +kernel) (by simp [Tryz.ntmps142]) rfl ?_
    repeat' first | simp (maxSteps := 4000000) (disch := omega) only [bunL, bunD, bun, ↓WG_true, ↓WG_false, labelOf, findLabel, ↓reduceIte, imp, shift, killO, cond_true, cond_false, hasId, ne_eq, unown, names, plainR, below, noF, isF, lendObs, lendOb, kindOk, ren, givL, updM, backO, renO, belowM, seval, -Int.reduceToNat, B4, B21, B53, bunN, tbB, splitC] | refine DR_q _ ?_ | (refine Fk.fk ?_ ?_ <;> intro hg <;> (try simp only [hg]) <;> (try simp only [bunB, ne_eq] at hg) <;> try (exfalso; first | omega | exact Bool.noConfusion hg | exact hg trivial)) | refine And.intro (by omega) ?_ | omega
  · have hs : syl r = [4352 + (r - 44032) / 588, 4449 + (r - 44032) % 588 / 28, 4519 + (r - 44032) % 28] := by rw [syl, if_neg h28]; rfl
    have e : (r - 44032) % 588 / 28 = (r - 44032) / 28 % 21 := by omega
    rw [hs, e]
    refine spec_mk (z := false) (ts := [.tmp 2]) ok1 Tryz.func142 rfl rfl (by decide +kernel) (by simp [Tryz.ntmps142]) rfl ?_
    repeat' first | simp (maxSteps := 4000000) (disch := omega) only [bunL, bunD, bun, ↓WG_true, ↓WG_false, labelOf, findLabel, ↓reduceIte, imp, shift, killO, cond_true, cond_false, hasId, ne_eq, unown, names, plainR, below, noF, isF, lendObs, lendOb, kindOk, ren, givL, updM, backO, renO, belowM, seval, -Int.reduceToNat, B4, B21, B53, bunN, tbB, splitC] | refine DR_q _ ?_ | (refine Fk.fk ?_ ?_ <;> intro hg <;> (try simp only [hg]) <;> (try simp only [bunB, ne_eq] at hg) <;> try (exfalso; first | omega | exact Bool.noConfusion hg | exact hg trivial)) | refine And.intro (by omega) ?_ | omega
theorem none_stop (r : Int) (soft : Bool) (hr : okR r) (h : han r = true ∨ stop soft r = true) : Spec Tryz.prog 130 [tab, I32 r, Bv soft] (.sl (one1 soft r).length ((one1 soft r).map I32)) := by
  have he := one1_eq soft r
  have hsp := split_spec r
  have n3 := nin_spec r 44032 11172 (by decide) (by decide) (by decide)
  rw [← tabBox_eq] at hsp ⊢
  refine spec_mk (z := true) (ts := [.tmp 6]) ok1 Tryz.func130 rfl rfl (by decide +kernel) (by simp [Tryz.ntmps130]) rfl ?_
  cases hh : han r with
  | true =>
    rw [hh, if_pos rfl] at he
    have hb : 44032 ≤ r ∧ r ≤ 55203 := by simpa [han] using hh
    rw [decide_eq_true (show 44032 ≤ r ∧ r < 44032 + 11172 by omega)] at n3
    rw [he]
    repeat' first | refine WE_fit (hsp) ?_ ?_ | refine WE_fit (n3) ?_ ?_ | refine WE_fit (nsyl_spec r hb) ?_ ?_ | simp (maxSteps := 4000000) (disch := omega) only [bunL, bunD, bun, ↓WG_true, ↓WG_false, labelOf, findLabel, ↓reduceIte, imp, shift, killO, cond_true, cond_false, hasId, ne_eq, unown, names, plainR, below, noF, isF, lendObs, lendOb, kindOk, ren, givL, updM, backO, renO, belowM, seval, -Int.reduceToNat, D29, D147, bunN, tbB, splitC] | exact NK_no _ | refine NK_cl _ _ ?_ | exact Cln.cl | refine clean_tup _ ?_ | refine cleans_cons _ _ ?_ ?_ | refine DR_q _ ?_ | (refine Fk.fk ?_ ?_ <;> intro hg <;> (try simp only [hg]) <;> (try simp only [bunB, ne_eq] at hg) <;> try (exfalso; first | omega | exact Bool.noConfusion hg | exact hg trivial)) | refine And.intro (by omega) ?_ | omega
    all_goals trace_state
  | false =>
    have hst := h.resolve_left (by rw [hh]; simp)
    rw [hh, hst] at he
    have hb : ¬ (44032 ≤ r ∧ r < 44032 + 11172) := by intro h'; simp [han] at hh; omega
    rw [decide_eq_false hb] at n3
    have hs : one1 soft r = [r] := by rw [he]; simp
    rw [hs]
    unfold stop at hst
    cases h2 : (spl r).2 with
    | false => repeat' first | refine WE_fit (hsp) ?_ ?_ | refine WE_fit (n3) ?_ ?_ | simp (maxSteps := 4000000) (disch := omega) only [bunL, bunD, bun, ↓WG_true, ↓WG_false, labelOf, findLabel, ↓reduceIte, imp, shift, killO, cond_true, cond_false, hasId, ne_eq, unown, names, plainR, below, noF, isF, lendObs, lendOb, kindOk, ren, givL, updM, backO, renO, belowM, seval, -Int.reduceToNat, h2, D29, D147, bunN, tbB, splitC] | exact NK_no _ | refine NK_cl _ _ ?_ | exact Cln.cl | refine clean_tup _ ?_ | refine cleans_cons _ _ ?_ ?_ | refine DR_q _ ?_ | (refine Fk.fk ?_ ?_ <;> intro hg <;> (try simp only [hg]) <;> (try simp only [bunB, ne_eq] at hg) <;> try (exfalso; first | omega | exact Bool.noConfusion hg | exact hg trivial)) | refine And.intro (by omega) ?_ | omega
    | true =>
      rw [h2] at hst
      cases h3 : (spl r).1.2.2.2.1 with
      | false => rw [h3] at hst; simp at hst
      | true =>
        cases soft with
        | true => rw [h3] at hst; simp at hst
        | false => repeat' first | refine WE_fit (hsp) ?_ ?_ | refine WE_fit (n3) ?_ ?_ | simp (maxSteps := 4000000) (disch := omega) only [bunL, bunD, bun, ↓WG_true, ↓WG_false, labelOf, findLabel, ↓reduceIte, imp, shift, killO, cond_true, cond_false, hasId, ne_eq, unown, names, plainR, below, noF, isF, lendObs, lendOb, kindOk, ren, givL, updM, backO, renO, belowM, seval, -Int.reduceToNat, h2, h3, D29, D147, bunN, tbB, splitC] | exact NK_no _ | refine NK_cl _ _ ?_ | exact Cln.cl | refine clean_tup _ ?_ | refine cleans_cons _ _ ?_ ?_ | refine DR_q _ ?_ | (refine Fk.fk ?_ ?_ <;> intro hg <;> (try simp only [hg]) <;> (try simp only [bunB, ne_eq] at hg) <;> try (exfalso; first | omega | exact Bool.noConfusion hg | exact hg trivial)) | refine And.intro (by omega) ?_ | omega
theorem none_spec : ∀ (n : Nat) (r : Int) (soft : Bool), Deep n r → okR r → Spec Tryz.prog 130 [tab, I32 r, Bv soft] (.sl (one1 soft r).length ((one1 soft r).map I32)) := by
  intro n
  induction n with
  | zero => intro r soft hd hr; exact none_stop r soft hr (.inr (by simp [stop, show (spl r).2 = false from hd]))
  | succ n ih =>
    intro r soft hd hr
    by_cases hs : han r = true ∨ stop soft r = true
    · exact none_stop r soft hr hs
    · have h1 : han r = false := by simpa using fun h => hs (.inl h)
      have h2 : stop soft r = false := by simpa using fun h => hs (.inr h)
      have he := one1_eq soft r
      rw [h1, h2] at he
      have hsp : (spl r).2 = true := by
        unfold stop at h2
        cases hq : (spl r).2
        · rw [hq] at h2; simp at h2
        · rfl
      have hsoft : ((spl r).1.2.2.2.1 && !soft) = false := by
        unfold stop at h2
        rw [hsp] at h2
        simpa using h2
      obtain ⟨b1, b2, b3, b4⟩ := spl_bounds hsp
      have i1 := ih (spl r).1.2.1 soft (hd hsp).1 (by unfold okR; omega)
      have l1 := oneF_len 5 soft (spl r).1.2.1
      have l2 := oneF_len 5 soft (spl r).1.2.2.1
      rw [show oneF 5 soft (spl r).1.2.1 = one1 soft (spl r).1.2.1 from rfl] at l1
      rw [show oneF 5 soft (spl r).1.2.2.1 = one1 soft (spl r).1.2.2.1 from rfl] at l2
      have hspl := split_spec r
      have n3 := nin_spec r 44032 11172 (by decide) (by decide) (by decide)
      have hb : ¬ (44032 ≤ r ∧ r < 44032 + 11172) := by intro h'; simp [han] at h1; omega
      rw [decide_eq_false hb] at n3
      by_cases h0 : (spl r).1.2.2.1 = 0
      · have hs1 : one1 soft r = one1 soft (spl r).1.2.1 := by rw [he]; simp [h0]
        rw [hs1]
        rw [← tabBox_eq] at hspl i1 ⊢
        refine spec_mk (z := true) (ts := [.tmp 6]) ok1 Tryz.func130 rfl rfl (by decide +kernel) (by simp [Tryz.ntmps130]) rfl ?_
        cases h3 : (spl r).1.2.2.2.1 with
        | false => repeat' first | refine WE_fit (hspl) ?_ ?_ | refine WE_fit (n3) ?_ ?_ | refine WE_fit (i1) ?_ ?_ | simp (maxSteps := 4000000) (disch := omega) only [bunL, bunD, bun, ↓WG_true, ↓WG_false, labelOf, findLabel, ↓reduceIte, imp, shift, killO, cond_true, cond_false, hasId, ne_eq, unown, names, plainR, below, noF, isF, lendObs, lendOb, kindOk, ren, givL, updM, backO, renO, belowM, seval, -Int.reduceToNat, hsp, h3, h0, D29, D147, bunN, tbB, splitC] | exact NK_no _ | refine NK_cl _ _ ?_ | exact Cln.cl | refine clean_tup _ ?_ | refine cleans_cons _ _ ?_ ?_ | refine DR_q _ ?_ | (refine Fk.fk ?_ ?_ <;> intro hg <;> (try simp only [hg]) <;> (try simp only [bunB, ne_eq] at hg) <;> try (exfalso; first | omega | exact Bool.noConfusion hg | exact hg trivial)) | refine And.intro (by omega) ?_ | omega
        | true =>
          have : soft = true := by rw [h3] at hsoft; simpa using hsoft
          subst this
          repeat' first | refine WE_fit (hspl) ?_ ?_ | refine WE_fit (n3) ?_ ?_ | refine WE_fit (i1) ?_ ?_ | simp (maxSteps := 4000000) (disch := omega) only [bunL, bunD, bun, ↓WG_true, ↓WG_false, labelOf, findLabel, ↓reduceIte, imp, shift, killO, cond_true, cond_false, hasId, ne_eq, unown, names, plainR, below, noF, isF, lendObs, lendOb, kindOk, ren, givL, updM, backO, renO, belowM, seval, -Int.reduceToNat, hsp, h3, h0, D29, D147, bunN, tbB, splitC] | exact NK_no _ | refine NK_cl _ _ ?_ | exact Cln.cl | refine clean_tup _ ?_ | refine cleans_cons _ _ ?_ ?_ | refine DR_q _ ?_ | (refine Fk.fk ?_ ?_ <;> intro hg <;> (try simp only [hg]) <;> (try simp only [bunB, ne_eq] at hg) <;> try (exfalso; first | omega | exact Bool.noConfusion hg | exact hg trivial)) | refine And.intro (by omega) ?_ | omega
      · have i2 := ih (spl r).1.2.2.1 soft ((hd hsp).2 h0) (by unfold okR; omega)
        have hs1 : one1 soft r = one1 soft (spl r).1.2.1 ++ one1 soft (spl r).1.2.2.1 := by rw [he]; simp [h0]
        have hcc := concat_spec (one1 soft (spl r).1.2.1) (one1 soft (spl r).1.2.2.1) (by omega) (by omega)
        rw [hs1]
        rw [← tabBox_eq] at hspl i1 i2 ⊢
        refine spec_mk (z := true) (ts := [.tmp 6]) ok1 Tryz.func130 rfl rfl (by decide +kernel) (by simp [Tryz.ntmps130]) rfl ?_
        cases h3 : (spl r).1.2.2.2.1 with
        | false =>
          repeat' first | refine WE_fit (hspl) ?_ ?_ | refine WE_fit (n3) ?_ ?_ | refine WE_fit (i1) ?_ ?_ | refine WE_fit (i2) ?_ ?_ | refine WE_fit (hcc) ?_ ?_ | simp (maxSteps := 4000000) (disch := omega) only [bunL, bunD, bun, ↓WG_true, ↓WG_false, labelOf, findLabel, ↓reduceIte, imp, shift, killO, cond_true, cond_false, hasId, ne_eq, unown, names, plainR, below, noF, isF, lendObs, lendOb, kindOk, ren, givL, updM, backO, renO, belowM, seval, -Int.reduceToNat, hsp, h3, D29, D147, bunN, tbB, splitC] | exact NK_no _ | refine NK_cl _ _ ?_ | exact Cln.cl | refine clean_tup _ ?_ | refine cleans_cons _ _ ?_ ?_ | refine DR_q _ ?_ | (refine Fk.fk ?_ ?_ <;> intro hg <;> (try simp only [hg]) <;> (try simp only [bunB, ne_eq] at hg) <;> try (exfalso; first | omega | exact Bool.noConfusion hg | exact hg trivial)) | refine And.intro (by omega) ?_ | omega
          all_goals trace_state
        | true =>
          have : soft = true := by rw [h3] at hsoft; simpa using hsoft
          subst this
          repeat' first | refine WE_fit (hspl) ?_ ?_ | refine WE_fit (n3) ?_ ?_ | refine WE_fit (i1) ?_ ?_ | refine WE_fit (i2) ?_ ?_ | refine WE_fit (hcc) ?_ ?_ | simp (maxSteps := 4000000) (disch := omega) only [bunL, bunD, bun, ↓WG_true, ↓WG_false, labelOf, findLabel, ↓reduceIte, imp, shift, killO, cond_true, cond_false, hasId, ne_eq, unown, names, plainR, below, noF, isF, lendObs, lendOb, kindOk, ren, givL, updM, backO, renO, belowM, seval, -Int.reduceToNat, hsp, h3, D29, D147, bunN, tbB, splitC] | exact NK_no _ | refine NK_cl _ _ ?_ | exact Cln.cl | refine clean_tup _ ?_ | refine cleans_cons _ _ ?_ ?_ | refine DR_q _ ?_ | (refine Fk.fk ?_ ?_ <;> intro hg <;> (try simp only [hg]) <;> (try simp only [bunB, ne_eq] at hg) <;> try (exfalso; first | omega | exact Bool.noConfusion hg | exact hg trivial)) | refine And.intro (by omega) ?_ | omega
          all_goals trace_state
end Go.AE
end
section
/- Split: its contract. -/
namespace Go.AE
open Go.Proofs
set_option maxRecDepth 20000
set_option maxHeartbeats 8000000
set_option linter.unusedSimpArgs false
theorem noneS (r : Int) (soft : Bool) (hr : okR r) : Spec Tryz.prog 130 [tab, I32 r, Bv soft] (.sl (one1 soft r).length ((one1 soft r).map I32)) := none_spec 4 r soft (deep_all r) hr
theorem nsplt_spec (l : List Int) (soft : Bool) (hl : l.length ≤ 20000) (hr : ∀ r ∈ l, okR r) : Spec Tryz.prog 113 [tab, .sl l.length (l.map I32), Bv soft] (.own 21 1 (spltL soft l).length ((spltL soft l).map I32)) := by
  rw [← tabBox_eq]
  refine spec_mk (z := false) (ts := [.tmp 6]) ok1 Tryz.func113 rfl rfl (by decide +kernel) (by simp [Tryz.ntmps113]) rfl ?_
  repeat' first | simp (maxSteps := 4000000) (disch := omega) only [bunL, bunD, bun, ↓WG_true, ↓WG_false, labelOf, findLabel, ↓reduceIte, imp, shift, killO, cond_true, cond_false, hasId, ne_eq, unown, names, plainR, below, noF, isF, lendObs, lendOb, kindOk, ren, givL, updM, backO, renO, belowM, seval, -Int.reduceToNat, D29, B21, B53, bunN, tbB] | refine DR_q _ ?_ | (refine Fk.fk ?_ ?_ <;> intro hg <;> (try simp only [hg]) <;> (try simp only [bunB, ne_eq] at hg) <;> try (exfalso; first | omega | exact Bool.noConfusion hg | exact hg trivial)) | refine And.intro (by omega) ?_ | omega
  refine LP_intro (fun i : Nat => ⟨[(2, Bv soft), (3, .ptr 0 0), (7, .ref 2 0 (spltL soft (l.take i)).length), (10, .sl l.length (l.map I32)), (11, I64 l.length), (12, I64 i)], [.row true 1 tabBox, .dead, .arr 21 1 ((spltL soft (l.take i)).map I32)]⟩) (fun i => i ≤ l.length) (fun i => l.length - i) 0 (by simp) (by (simp (disch := omega) [wk, wkT, wkM, noF, isF, get, belowT, belowM, below, belows, I64, I32, Bv, U8, Sv, spltL, tb_bel] <;> try omega)) ?_
  intro i hi
  have hln := splt_len soft (l.take i)
  have hlt0 : (l.take i).length = i := by simp; omega
  by_cases hlt : i < l.length
  · have ht := splt_take soft l i hlt
    have hg0 : okR (l.getD i 0) := hr _ (by simp [List.getD, hlt])
    have hno := noneS (l.getD i 0) soft hg0
    rw [← tabBox_eq] at hno
    have l1 := oneF_len 5 soft (l.getD i 0)
    rw [show oneF 5 soft (l.getD i 0) = one1 soft (l.getD i 0) from rfl] at l1
    repeat' first | refine WE_fit (hno) ?_ ?_ | simp (maxSteps := 4000000) (disch := omega) only [bunL, bunD, bun, ↓WG_true, ↓WG_false, labelOf, findLabel, ↓reduceIte, imp, shift, killO, cond_true, cond_false, hasId, ne_eq, unown, names, plainR, below, noF, isF, lendObs, lendOb, kindOk, ren, givL, updM, backO, renO, belowM, seval, -Int.reduceToNat, D29, B21, B53, bunN, tbB] | exact NK_no _ | refine NK_cl _ _ ?_ | exact Cln.cl | refine clean_tup _ ?_ | refine cleans_cons _ _ ?_ ?_ | refine DR_q _ ?_ | (refine Fk.fk ?_ ?_ <;> intro hg <;> (try simp only [hg]) <;> (try simp only [bunB, ne_eq] at hg) <;> try (exfalso; first | omega | exact Bool.noConfusion hg | exact hg trivial)) | refine And.intro (by omega) ?_ | omega
    refine ⟨i + 1, by omega, by omega, ?_⟩
    rw [ht]
    (simp (disch := omega) [wk, wkT, wkM, noF, isF, get, belowT, belowM, below, belows, I64, I32, Bv, U8, Sv, List.map_append, tb_bel] <;> try omega)
  · have e : i = l.length := by omega
    subst e
    rw [List.take_length] at *
    repeat' first | simp (maxSteps := 4000000) (disch := omega) only [bunL, bunD, bun, ↓WG_true, ↓WG_false, labelOf, findLabel, ↓reduceIte, imp, shift, killO, cond_true, cond_false, hasId, ne_eq, unown, names, plainR, below, noF, isF, lendObs, lendOb, kindOk, ren, givL, updM, backO, renO, belowM, seval, -Int.reduceToNat, D29, B21, B53, bunN, tbB] | refine DR_q _ ?_ | (refine Fk.fk ?_ ?_ <;> intro hg <;> (try simp only [hg]) <;> (try simp only [bunB, ne_eq] at hg) <;> try (exfalso; first | omega | exact Bool.noConfusion hg | exact hg trivial)) | refine And.intro (by omega) ?_ | omega
end Go.AE
end
