/- Contracts of functions that the laws of this seat reach, and plain laws of what they compute. No condition beyond each statement's own. -/
import Derived.Test.YteidmpcdcfoncaaDoorSH
import Derived.Test.YteidmpcdcfoncaaDoorPA
set_option linter.unusedVariables false
set_option linter.unusedSimpArgs false
section
/- Spots: whole parts; the library's Count. -/
namespace Go.AE
open Go.Proofs
set_option maxRecDepth 20000
set_option maxHeartbeats 8000000
set_option linter.unusedSimpArgs false
theorem FI_i64 (n : Int) (K : AV → Prop) : FI .i64 (some n) K = (-9223372036854775808 ≤ n ∧ n ≤ 9223372036854775807 ∧ K (I64 n)) := rfl
theorem f0 : Value.float .f64 0 = .float .f64 (fw 0) := by rw [show fw 0 = 0 by decide]
theorem f1 : Value.float .f64 4607182418800017408 = .float .f64 (fw 4) := by rw [show fw 4 = 4607182418800017408 by decide]
theorem fM : Value.float .f64 4787326403894837248 = .float .f64 (fw 4398046511104) := by rw [show fw 4398046511104 = 4787326403894837248 by decide]
theorem c00 : Value.complex .f64 0 0 = .complex .f64 (fw 0) (fw 0) := by rw [show fw 0 = 0 by decide]
abbrev Cv (p q : Int) : AV := .v (.complex .f64 (fw p) (fw q))
abbrev Fv (p : Int) : AV := .v (.float .f64 (fw p))
theorem count_spec (s : List UInt8) (hs : s.length < 4294967281) : Spec Tryd.prog 22 [Sv s, Sv [13, 10]] (I64 (lines s)) := by
  refine spec_v (xs := [.string ⟨s.toArray⟩, .string ⟨[13, 10].toArray⟩]) ⟨_, Tryd.func22, rfl, by decide +kernel⟩ (fun w F => .v _) rfl fun w F hT => ?_
  obtain ⟨m, hm⟩ := tabs_cell hT (g := 0) (by decide +kernel) fun u hu => Tryd.laysM145.s1_3 u hu
  refine (Tryd.strings_Count ⟨s.toArray⟩ ⟨[13, 10].toArray⟩ m w (by show s.toArray.size < _; simpa using hs) hm (by decide)).mono ?_
  rintro e w' ⟨rfl, rfl⟩
  refine ⟨?_, Grow.refl _⟩
  have : Lib.countB ⟨s.toArray⟩ ⟨[13, 10].toArray⟩ = lines s := count_eq s
  rw [this]
/-- A whole part. -/
def wh (q : Int) : Int := if 4398046511104 ≤ q then 1099511627776 else if 0 < q then q / 4 else 0
def small53 (q : Int) : Prop := q.natAbs < 9007199254740992
instance (q : Int) : Decidable (small53 q) := inferInstanceAs (Decidable (_ < _))
theorem s53 {q : Int} (h : small53 q) : q.natAbs < 2 ^ 53 := h
theorem wh_bound (q : Int) : 0 ≤ wh q ∧ wh q ≤ 1099511627776 := by
  unfold wh; split
  · omega
  · split <;> omega
theorem ge_fw {a b : Int} (ha : small53 a) (hb : small53 b) : (ford (fw a) (fw b) == some .gt || ford (fw a) (fw b) == some .eq) = decide (b ≤ a) := by
  rw [ford_fw a b (s53 ha) (s53 hb)]
  rcases Int.lt_trichotomy a b with h | h | h
  · rw [Int.compare_eq_lt.2 h, decide_eq_false (by omega)]; rfl
  · subst h; rw [Int.compare_eq_eq.2 rfl, decide_eq_true (by omega)]; rfl
  · rw [Int.compare_eq_gt.2 h, decide_eq_true (by omega)]; rfl
theorem gt_fw {a b : Int} (ha : small53 a) (hb : small53 b) : (ford (fw a) (fw b) == some .gt) = decide (b < a) := by
  rw [ford_fw a b (s53 ha) (s53 hb)]
  rcases Int.lt_trichotomy a b with h | h | h
  · rw [Int.compare_eq_lt.2 h, decide_eq_false (by omega)]; rfl
  · subst h; rw [Int.compare_eq_eq.2 rfl, decide_eq_false (by omega)]; rfl
  · rw [Int.compare_eq_gt.2 h, decide_eq_true (by omega)]; rfl
theorem eq_fw {a b : Int} (ha : small53 a) (hb : small53 b) : (ford (fw a) (fw b) == some .eq) = decide (a = b) := by
  rw [ford_fw a b (s53 ha) (s53 hb)]
  rcases Int.lt_trichotomy a b with h | h | h
  · rw [Int.compare_eq_lt.2 h, decide_eq_false (by omega)]; rfl
  · subst h; rw [Int.compare_eq_eq.2 rfl, decide_eq_true rfl]; rfl
  · rw [Int.compare_eq_gt.2 h, decide_eq_false (by omega)]; rfl
theorem add_fw {a b c : Int} (e : a + b = c) (ha : small53 a) (hb : small53 b) (hc : small53 c) : fadd (fw a) (fw b) = some (fw c) := by
  subst e; exact fadd_fw a b (s53 ha) (s53 hb) (s53 hc)
theorem sub_fw {a b c : Int} (e : a - b = c) (ha : small53 a) (hb : small53 b) (hc : small53 c) : fsub (fw a) (fw b) = some (fw c) := by
  subst e; exact fsub_fw a b (s53 ha) (s53 hb) (s53 hc)
theorem nat_fw {n : Int} (h0 : -2251799813685248 < n) (h : n < 2251799813685248) : i2f n = fw (4 * n) := by
  have e : (2 : Nat) ^ 51 = 2251799813685248 := by decide
  exact i2f_fw n (by rw [e]; omega)
theorem int_fw {q : Int} (h : small53 q) (h0 : 0 ≤ q) : f2t (fw q) = some (q / 4) := by
  rw [f2t_fw q (s53 h), Int.tdiv_eq_ediv_of_nonneg h0]
theorem whole_spec (q : Int) (h : small53 q) : Spec Tryd.prog 25 [Fv q] (Fv (4 * wh q)) := by
  have hb : q.natAbs < 9007199254740992 := h
  refine spec_mk (z := false) (ts := [.tmp 2]) ok1 Tryd.func25 rfl rfl (by decide +kernel) (by simp [Tryd.ntmps25]) rfl ?_
  have g1 := ge_fw (a := q) (b := 4398046511104) h (by decide)
  have g2 := gt_fw (a := q) (b := 0) h (by decide)
  by_cases h1 : 4398046511104 ≤ q
  · have e : wh q = 1099511627776 := by unfold wh; rw [if_pos h1]
    rw [decide_eq_true h1] at g1
    rw [e]
    repeat' first | simp (maxSteps := 4000000) (disch := omega) only [bunL, bunD, bun, ↓WG_true, ↓WG_false, labelOf, findLabel, ↓reduceIte, imp, shift, killO, hasId, unown, names, plainR, below, noF, isF, lendObs, lendOb, kindOk, ren, givL, updM, backO, renO, belowM, seval, -Int.reduceToNat, g1, B3, B4, B24, bunN, Int.reduceToNat, List.map_nil, List.nil_append, FO_some, CO_some, BI_fadd, BI_fsub, BI_feql, BI_fneq, BI_flss, BI_fleq, BI_fgtr, BI_fgeq, BI_cadd, BI_ceql, BI_cneq, FI_i64, CV_i2f, CV_f2i, CW_i2f, CW_f2i, wopC_real, wopC_imag, wopC_cplx, qopC_real, qopC_imag, qopC_cplx, pureOp_real, pureOp_imag, pureOp_cplx, RE_c, IM_c, CX_f, B2_flt, B2_cpx, wopC_assign_flt, wopC_assign_cpx, f0, f1, fM, c00] | refine DR_q _ ?_ | (refine Fk.fk ?_ ?_ <;> intro hg <;> (try simp only [hg]) <;> (try simp only [bunB] at hg) <;> try (exfalso; first | omega | exact Bool.noConfusion hg | exact hg trivial)) | refine And.intro (by omega) ?_ | omega
    all_goals trace_state
  · rw [decide_eq_false h1] at g1
    by_cases h2 : 0 < q
    · have e : wh q = q / 4 := by unfold wh; rw [if_neg h1, if_pos h2]
      rw [decide_eq_true h2] at g2
      have g3 := int_fw h (by omega)
      have g4 := nat_fw (n := q / 4) (by omega) (by omega)
      rw [e]
      repeat' first | simp (maxSteps := 4000000) (disch := omega) only [bunL, bunD, bun, ↓WG_true, ↓WG_false, labelOf, findLabel, ↓reduceIte, imp, shift, killO, hasId, unown, names, plainR, below, noF, isF, lendObs, lendOb, kindOk, ren, givL, updM, backO, renO, belowM, seval, -Int.reduceToNat, g1, g2, g3, g4, B3, B4, B24, bunN, Int.reduceToNat, List.map_nil, List.nil_append, FO_some, CO_some, BI_fadd, BI_fsub, BI_feql, BI_fneq, BI_flss, BI_fleq, BI_fgtr, BI_fgeq, BI_cadd, BI_ceql, BI_cneq, FI_i64, CV_i2f, CV_f2i, CW_i2f, CW_f2i, wopC_real, wopC_imag, wopC_cplx, qopC_real, qopC_imag, qopC_cplx, pureOp_real, pureOp_imag, pureOp_cplx, RE_c, IM_c, CX_f, B2_flt, B2_cpx, wopC_assign_flt, wopC_assign_cpx, f0, f1, fM, c00] | refine DR_q _ ?_ | (refine Fk.fk ?_ ?_ <;> intro hg <;> (try simp only [hg]) <;> (try simp only [bunB] at hg) <;> try (exfalso; first | omega | exact Bool.noConfusion hg | exact hg trivial)) | refine And.intro (by omega) ?_ | omega
      all_goals trace_state
    · have e : wh q = 0 := by unfold wh; rw [if_neg h1, if_neg h2]
      rw [decide_eq_false h2] at g2
      rw [e]
      repeat' first | simp (maxSteps := 4000000) (disch := omega) only [bunL, bunD, bun, ↓WG_true, ↓WG_false, labelOf, findLabel, ↓reduceIte, imp, shift, killO, hasId, unown, names, plainR, below, noF, isF, lendObs, lendOb, kindOk, ren, givL, updM, backO, renO, belowM, seval, -Int.reduceToNat, g1, g2, B3, B4, B24, bunN, Int.reduceToNat, List.map_nil, List.nil_append, FO_some, CO_some, BI_fadd, BI_fsub, BI_feql, BI_fneq, BI_flss, BI_fleq, BI_fgtr, BI_fgeq, BI_cadd, BI_ceql, BI_cneq, FI_i64, CV_i2f, CV_f2i, CW_i2f, CW_f2i, wopC_real, wopC_imag, wopC_cplx, qopC_real, qopC_imag, qopC_cplx, pureOp_real, pureOp_imag, pureOp_cplx, RE_c, IM_c, CX_f, B2_flt, B2_cpx, wopC_assign_flt, wopC_assign_cpx, f0, f1, fM, c00] | refine DR_q _ ?_ | (refine Fk.fk ?_ ?_ <;> intro hg <;> (try simp only [hg]) <;> (try simp only [bunB] at hg) <;> try (exfalso; first | omega | exact Bool.noConfusion hg | exact hg trivial)) | refine And.intro (by omega) ?_ | omega
      all_goals trace_state
end Go.AE
end
section
/- Spots: steps, places, lines, texts. -/
namespace Go.AE
open Go.Proofs
set_option maxRecDepth 20000
set_option maxHeartbeats 8000000
set_option linter.unusedSimpArgs false
theorem trim_spec (p q : Int) (hp : small53 p) (hq : small53 q) : Spec Tryd.prog 19 [Cv p q] (Cv (4 * wh p) (4 * wh q)) := by
  have h1 := whole_spec p hp
  have h2 := whole_spec q hq
  refine spec_mk (z := false) (ts := [.tmp 2]) ok1 Tryd.func19 rfl rfl (by decide +kernel) (by simp [Tryd.ntmps19]) rfl ?_
  repeat' first | refine WE_fit (h1) ?_ ?_ | refine WE_fit (h2) ?_ ?_ | simp (maxSteps := 4000000) (disch := omega) only [bunL, bunD, bun, ↓WG_true, ↓WG_false, labelOf, findLabel, ↓reduceIte, imp, shift, killO, hasId, unown, names, plainR, below, noF, isF, lendObs, lendOb, kindOk, ren, givL, updM, backO, renO, belowM, seval, -Int.reduceToNat, B23, B24, bunN, Int.reduceToNat, List.map_nil, List.nil_append, FO_some, CO_some, BI_fadd, BI_fsub, BI_feql, BI_fneq, BI_flss, BI_fleq, BI_fgtr, BI_fgeq, BI_cadd, BI_ceql, BI_cneq, FI_i64, CV_i2f, CV_f2i, CW_i2f, CW_f2i, wopC_real, wopC_imag, wopC_cplx, qopC_real, qopC_imag, qopC_cplx, pureOp_real, pureOp_imag, pureOp_cplx, RE_c, IM_c, CX_f, B2_flt, B2_cpx, wopC_assign_flt, wopC_assign_cpx, f0, f1, fM, c00] | exact NK_no _ | refine NK_cl _ _ ?_ | exact Cln.cl | refine clean_tup _ ?_ | refine cleans_cons _ _ ?_ ?_ | refine DR_q _ ?_ | (refine Fk.fk ?_ ?_ <;> intro hg <;> (try simp only [hg]) <;> (try simp only [bunB] at hg) <;> try (exfalso; first | omega | exact Bool.noConfusion hg | exact hg trivial)) | refine And.intro (by omega) ?_ | omega
  all_goals trace_state
theorem part_spec (q : Int) (h : small53 q) : Spec Tryd.prog 21 [Fv q] (I64 (wh q)) := by
  have hb : q.natAbs < 9007199254740992 := h
  refine spec_mk (z := false) (ts := [.tmp 2]) ok1 Tryd.func21 rfl rfl (by decide +kernel) (by simp [Tryd.ntmps21]) rfl ?_
  have g1 := ge_fw (a := q) (b := 4398046511104) h (by decide)
  have g2 := gt_fw (a := q) (b := 0) h (by decide)
  by_cases h1 : 4398046511104 ≤ q
  · have e : wh q = 1099511627776 := by unfold wh; rw [if_pos h1]
    rw [decide_eq_true h1] at g1
    rw [e]
    repeat' first | simp (maxSteps := 4000000) (disch := omega) only [bunL, bunD, bun, ↓WG_true, ↓WG_false, labelOf, findLabel, ↓reduceIte, imp, shift, killO, hasId, unown, names, plainR, below, noF, isF, lendObs, lendOb, kindOk, ren, givL, updM, backO, renO, belowM, seval, -Int.reduceToNat, g1, B3, B4, B24, bunN, Int.reduceToNat, List.map_nil, List.nil_append, FO_some, CO_some, BI_fadd, BI_fsub, BI_feql, BI_fneq, BI_flss, BI_fleq, BI_fgtr, BI_fgeq, BI_cadd, BI_ceql, BI_cneq, FI_i64, CV_i2f, CV_f2i, CW_i2f, CW_f2i, wopC_real, wopC_imag, wopC_cplx, qopC_real, qopC_imag, qopC_cplx, pureOp_real, pureOp_imag, pureOp_cplx, RE_c, IM_c, CX_f, B2_flt, B2_cpx, wopC_assign_flt, wopC_assign_cpx, f0, f1, fM, c00] | refine DR_q _ ?_ | (refine Fk.fk ?_ ?_ <;> intro hg <;> (try simp only [hg]) <;> (try simp only [bunB] at hg) <;> try (exfalso; first | omega | exact Bool.noConfusion hg | exact hg trivial)) | refine And.intro (by omega) ?_ | omega
    all_goals trace_state
  · rw [decide_eq_false h1] at g1
    by_cases h2 : 0 < q
    · have e : wh q = q / 4 := by unfold wh; rw [if_neg h1, if_pos h2]
      rw [decide_eq_true h2] at g2
      have g3 := int_fw h (by omega)
      rw [e]
      repeat' first | simp (maxSteps := 4000000) (disch := omega) only [bunL, bunD, bun, ↓WG_true, ↓WG_false, labelOf, findLabel, ↓reduceIte, imp, shift, killO, hasId, unown, names, plainR, below, noF, isF, lendObs, lendOb, kindOk, ren, givL, updM, backO, renO, belowM, seval, -Int.reduceToNat, g1, g2, g3, B3, B4, B24, bunN, Int.reduceToNat, List.map_nil, List.nil_append, FO_some, CO_some, BI_fadd, BI_fsub, BI_feql, BI_fneq, BI_flss, BI_fleq, BI_fgtr, BI_fgeq, BI_cadd, BI_ceql, BI_cneq, FI_i64, CV_i2f, CV_f2i, CW_i2f, CW_f2i, wopC_real, wopC_imag, wopC_cplx, qopC_real, qopC_imag, qopC_cplx, pureOp_real, pureOp_imag, pureOp_cplx, RE_c, IM_c, CX_f, B2_flt, B2_cpx, wopC_assign_flt, wopC_assign_cpx, f0, f1, fM, c00] | refine DR_q _ ?_ | (refine Fk.fk ?_ ?_ <;> intro hg <;> (try simp only [hg]) <;> (try simp only [bunB] at hg) <;> try (exfalso; first | omega | exact Bool.noConfusion hg | exact hg trivial)) | refine And.intro (by omega) ?_ | omega
      all_goals trace_state
    · have e : wh q = 0 := by unfold wh; rw [if_neg h1, if_neg h2]
      rw [decide_eq_false h2] at g2
      rw [e]
      repeat' first | simp (maxSteps := 4000000) (disch := omega) only [bunL, bunD, bun, ↓WG_true, ↓WG_false, labelOf, findLabel, ↓reduceIte, imp, shift, killO, hasId, unown, names, plainR, below, noF, isF, lendObs, lendOb, kindOk, ren, givL, updM, backO, renO, belowM, seval, -Int.reduceToNat, g1, g2, B3, B4, B24, bunN, Int.reduceToNat, List.map_nil, List.nil_append, FO_some, CO_some, BI_fadd, BI_fsub, BI_feql, BI_fneq, BI_flss, BI_fleq, BI_fgtr, BI_fgeq, BI_cadd, BI_ceql, BI_cneq, FI_i64, CV_i2f, CV_f2i, CW_i2f, CW_f2i, wopC_real, wopC_imag, wopC_cplx, qopC_real, qopC_imag, qopC_cplx, pureOp_real, pureOp_imag, pureOp_cplx, RE_c, IM_c, CX_f, B2_flt, B2_cpx, wopC_assign_flt, wopC_assign_cpx, f0, f1, fM, c00] | refine DR_q _ ?_ | (refine Fk.fk ?_ ?_ <;> intro hg <;> (try simp only [hg]) <;> (try simp only [bunB] at hg) <;> try (exfalso; first | omega | exact Bool.noConfusion hg | exact hg trivial)) | refine And.intro (by omega) ?_ | omega
      all_goals trace_state
def whn (q : Int) : Nat := (wh q).toNat
theorem whn_eq (q : Int) : wh q = (whn q : Int) := by have := wh_bound q; unfold whn; omega
theorem whn_bound (q : Int) : whn q ≤ 1099511627776 := by have := wh_bound q; unfold whn; omega
abbrev spv (x : Nat × Nat) : AV := Cv (4 * (x.1 : Int)) (4 * (x.2 : Int))
theorem sm {n : Nat} (h : n ≤ 2199023255552) : small53 (4 * (n : Int)) := by unfold small53; omega
theorem step_spec (p q : Int) (s : List UInt8) (hp : small53 p) (hq : small53 q) (hs : s.length ≤ 1000000) : Spec Tryd.prog 11 [Cv p q, Sv s] (spv (stp s (whn p) (whn q))) := by
  have h1 := trim_spec p q hp hq
  rw [whn_eq, whn_eq] at h1
  have b1 := whn_bound p
  have b2 := whn_bound q
  refine spec_mk (z := false) (ts := [.tmp 4]) ok1 Tryd.func11 rfl rfl (by decide +kernel) (by simp [Tryd.ntmps11]) rfl ?_
  repeat' first | refine WE_fit (h1) ?_ ?_ | simp (maxSteps := 4000000) (disch := omega) only [bunL, bunD, bun, ↓WG_true, ↓WG_false, labelOf, findLabel, ↓reduceIte, imp, shift, killO, hasId, unown, names, plainR, below, noF, isF, lendObs, lendOb, kindOk, ren, givL, updM, backO, renO, belowM, seval, -Int.reduceToNat, B3, B4, B9, B23, B24, bunN, Int.reduceToNat, List.map_nil, List.nil_append, FO_some, CO_some, BI_fadd, BI_fsub, BI_feql, BI_fneq, BI_flss, BI_fleq, BI_fgtr, BI_fgeq, BI_cadd, BI_ceql, BI_cneq, FI_i64, CV_i2f, CV_f2i, CW_i2f, CW_f2i, wopC_real, wopC_imag, wopC_cplx, qopC_real, qopC_imag, qopC_cplx, pureOp_real, pureOp_imag, pureOp_cplx, RE_c, IM_c, CX_f, B2_flt, B2_cpx, wopC_assign_flt, wopC_assign_cpx, f0, f1, fM, c00] | exact NK_no _ | refine NK_cl _ _ ?_ | exact Cln.cl | refine clean_tup _ ?_ | refine cleans_cons _ _ ?_ ?_ | refine DR_q _ ?_ | (refine Fk.fk ?_ ?_ <;> intro hg <;> (try simp only [hg]) <;> (try simp only [bunB] at hg) <;> try (exfalso; first | omega | exact Bool.noConfusion hg | exact hg trivial)) | refine And.intro (by omega) ?_ | omega
  refine LP_intro (fun x : List UInt8 × Nat × Nat => ⟨[(0, spv x.2), (1, Sv x.1)], []⟩) (fun x => stp x.1 x.2.1 x.2.2 = stp s (whn p) (whn q) ∧ x.1.length ≤ s.length ∧ x.2.1 + x.1.length ≤ whn p + s.length ∧ x.2.2 + x.1.length ≤ whn q + s.length) (fun x => x.1.length) (s, whn p, whn q) ⟨rfl, by simp, by simp, by simp⟩ (by simp [wk, wkT, wkM, noF, isF, get, belowT, belowM, below, belows, I64, I32, Bv, U8, Sv] <;> try omega) ?_
  rintro ⟨t, l, c⟩ ⟨ht, hl, hl1, hl2⟩
  replace ht : stp t l c = stp s (whn p) (whn q) := ht
  replace hl : t.length ≤ s.length := hl
  replace hl1 : l + t.length ≤ whn p + s.length := hl1
  replace hl2 : c + t.length ≤ whn q + s.length := hl2
  have hc := cut_spec t [13, 10] (by omega)
  by_cases hi : Lib.index t crlf = -1
  · have e : Lib.cut t [13, 10] = (t, [], false) := by unfold Lib.cut; rw [if_neg (by show ¬ 0 ≤ Lib.index t crlf; omega)]
    rw [e] at hc
    have e2 := stp_none t l c hi
    rw [ht] at e2
    rw [e2]
    have a1 := add_fw (a := 4 * (l : Int)) (b := 0) (c := 4 * (l : Int)) (by omega) (sm (by omega)) (by decide) (sm (by omega))
    have a2 := nat_fw (n := (t.length : Int)) (by omega) (by omega)
    have a3 := add_fw (a := 4 * (c : Int)) (b := 4 * (t.length : Int)) (c := 4 * ((c + t.length : Nat) : Int)) (by omega) (sm (by omega)) (sm (by omega)) (sm (by omega))
    repeat' first | refine WE_fit (hc) ?_ ?_ | simp (maxSteps := 4000000) (disch := omega) only [bunL, bunD, bun, ↓WG_true, ↓WG_false, labelOf, findLabel, ↓reduceIte, imp, shift, killO, hasId, unown, names, plainR, below, noF, isF, lendObs, lendOb, kindOk, ren, givL, updM, backO, renO, belowM, seval, -Int.reduceToNat, a1, a2, a3, B3, B4, B9, B23, B24, bunN, Int.reduceToNat, List.map_nil, List.nil_append, FO_some, CO_some, BI_fadd, BI_fsub, BI_feql, BI_fneq, BI_flss, BI_fleq, BI_fgtr, BI_fgeq, BI_cadd, BI_ceql, BI_cneq, FI_i64, CV_i2f, CV_f2i, CW_i2f, CW_f2i, wopC_real, wopC_imag, wopC_cplx, qopC_real, qopC_imag, qopC_cplx, pureOp_real, pureOp_imag, pureOp_cplx, RE_c, IM_c, CX_f, B2_flt, B2_cpx, wopC_assign_flt, wopC_assign_cpx, f0, f1, fM, c00] | exact NK_no _ | refine NK_cl _ _ ?_ | exact Cln.cl | refine clean_tup _ ?_ | refine cleans_cons _ _ ?_ ?_ | refine DR_q _ ?_ | (refine Fk.fk ?_ ?_ <;> intro hg <;> (try simp only [hg]) <;> (try simp only [bunB] at hg) <;> try (exfalso; first | omega | exact Bool.noConfusion hg | exact hg trivial)) | refine And.intro (by omega) ?_ | omega
    all_goals trace_state
  · have hg := Lib.index_ge t crlf
    obtain ⟨i, hi2⟩ : ∃ i : Nat, Lib.index t crlf = i := ⟨(Lib.index t crlf).toNat, by omega⟩
    have hr := Lib.index_room t crlf (by omega)
    have e : Lib.cut t [13, 10] = (t.take i, t.drop (i + 2), true) := by
      unfold Lib.cut
      rw [if_pos (by show 0 ≤ Lib.index t crlf; omega)]
      show (t.take (Lib.index t crlf).toNat, t.drop ((Lib.index t crlf).toNat + 2), true) = _
      rw [hi2, Int.toNat_natCast]
    rw [e] at hc
    have e2 := stp_found t l c i hi2
    rw [ht] at e2
    rw [hi2] at hr
    have hcl : crlf.length = 2 := rfl
    rw [hcl] at hr
    have hdl : (t.drop (i + 2)).length = t.length - (i + 2) := List.length_drop
    have a1 := add_fw (a := 4 * (l : Int)) (b := 4) (c := 4 * ((l + 1 : Nat) : Int)) (by omega) (sm (by omega)) (by decide) (sm (by omega))
    repeat' first | refine WE_fit (hc) ?_ ?_ | simp (maxSteps := 4000000) (disch := omega) only [bunL, bunD, bun, ↓WG_true, ↓WG_false, labelOf, findLabel, ↓reduceIte, imp, shift, killO, hasId, unown, names, plainR, below, noF, isF, lendObs, lendOb, kindOk, ren, givL, updM, backO, renO, belowM, seval, -Int.reduceToNat, a1, B3, B4, B9, B23, B24, bunN, Int.reduceToNat, List.map_nil, List.nil_append, FO_some, CO_some, BI_fadd, BI_fsub, BI_feql, BI_fneq, BI_flss, BI_fleq, BI_fgtr, BI_fgeq, BI_cadd, BI_ceql, BI_cneq, FI_i64, CV_i2f, CV_f2i, CW_i2f, CW_f2i, wopC_real, wopC_imag, wopC_cplx, qopC_real, qopC_imag, qopC_cplx, pureOp_real, pureOp_imag, pureOp_cplx, RE_c, IM_c, CX_f, B2_flt, B2_cpx, wopC_assign_flt, wopC_assign_cpx, f0, f1, fM, c00] | exact NK_no _ | refine NK_cl _ _ ?_ | exact Cln.cl | refine clean_tup _ ?_ | refine cleans_cons _ _ ?_ ?_ | refine DR_q _ ?_ | (refine Fk.fk ?_ ?_ <;> intro hg <;> (try simp only [hg]) <;> (try simp only [bunB] at hg) <;> try (exfalso; first | omega | exact Bool.noConfusion hg | exact hg trivial)) | refine And.intro (by omega) ?_ | omega
    refine ⟨(t.drop (i + 2), l + 1, 0), ⟨e2.symm, by show (t.drop (i + 2)).length ≤ _; omega, by show l + 1 + (t.drop (i + 2)).length ≤ _; omega, by show 0 + (t.drop (i + 2)).length ≤ _; omega⟩, by show (t.drop (i + 2)).length < t.length; omega, (by simp [wk, wkT, wkM, noF, isF, get, belowT, belowM, below, belows, I64, I32, Bv, U8, Sv] <;> try omega)⟩
theorem rstep_spec (p q : Int) (s : List UInt8) (hp : small53 p) (hq : small53 q) (hs : s.length ≤ 1000000) : Spec Tryd.prog 12 [Cv p q, Sv s] (spv (stp s (whn p) (whn q))) := by
  have h1 := part_spec p hp
  have h2 := part_spec q hq
  rw [whn_eq] at h1 h2
  have b1 := whn_bound p
  have b2 := whn_bound q
  refine spec_mk (z := false) (ts := [.tmp 4]) ok1 Tryd.func12 rfl rfl (by decide +kernel) (by simp [Tryd.ntmps12]) rfl ?_
  repeat' first | refine WE_fit (h1) ?_ ?_ | refine WE_fit (h2) ?_ ?_ | simp (maxSteps := 4000000) (disch := omega) only [bunL, bunD, bun, ↓WG_true, ↓WG_false, labelOf, findLabel, ↓reduceIte, imp, shift, killO, hasId, unown, names, plainR, below, noF, isF, lendObs, lendOb, kindOk, ren, givL, updM, backO, renO, belowM, seval, -Int.reduceToNat, B3, B4, B5, B9, B23, B24, bunN, Int.reduceToNat, List.map_nil, List.nil_append, FO_some, CO_some, BI_fadd, BI_fsub, BI_feql, BI_fneq, BI_flss, BI_fleq, BI_fgtr, BI_fgeq, BI_cadd, BI_ceql, BI_cneq, FI_i64, CV_i2f, CV_f2i, CW_i2f, CW_f2i, wopC_real, wopC_imag, wopC_cplx, qopC_real, qopC_imag, qopC_cplx, pureOp_real, pureOp_imag, pureOp_cplx, RE_c, IM_c, CX_f, B2_flt, B2_cpx, wopC_assign_flt, wopC_assign_cpx, f0, f1, fM, c00] | exact NK_no _ | refine NK_cl _ _ ?_ | exact Cln.cl | refine clean_tup _ ?_ | refine cleans_cons _ _ ?_ ?_ | refine DR_q _ ?_ | (refine Fk.fk ?_ ?_ <;> intro hg <;> (try simp only [hg]) <;> (try simp only [bunB] at hg) <;> try (exfalso; first | omega | exact Bool.noConfusion hg | exact hg trivial)) | refine And.intro (by omega) ?_ | omega
  refine LP_intro (fun x : Nat × Nat × Nat => ⟨[(1, Sv s), (5, I64 x.2.1), (6, I64 x.2.2), (7, I64 x.1)], []⟩) (fun x => x.1 ≤ s.length ∧ stp (s.drop x.1) x.2.1 x.2.2 = stp s (whn p) (whn q) ∧ x.2.1 ≤ whn p + x.1 ∧ x.2.2 ≤ whn q + x.1) (fun x => s.length - x.1) (0, whn p, whn q) ⟨by simp, rfl, by simp, by simp⟩ (by simp [wk, wkT, wkM, noF, isF, get, belowT, belowM, below, belows, I64, I32, Bv, U8, Sv] <;> try omega) ?_
  rintro ⟨i, l, c⟩ ⟨hi, ht, hl1, hl2⟩
  replace hi : i ≤ s.length := hi
  replace ht : stp (s.drop i) l c = stp s (whn p) (whn q) := ht
  replace hl1 : l ≤ whn p + i := hl1
  replace hl2 : c ≤ whn q + i := hl2
  have hi1 : ((i : Int) + 1).toNat = i + 1 := by omega
  by_cases hlt : i < s.length
  · have hd : s.drop i = s.getD i 0 :: s.drop (i + 1) := by rw [List.drop_eq_getElem_cons hlt]; simp [List.getD, hlt]
    rw [hd, stp_cons] at ht
    by_cases h13 : (s.getD i 0).toNat = 13
    · have e13 : s.getD i 0 = 13 := UInt8.toNat.inj h13
      by_cases h2l : i + 1 < s.length
      · have hd2 : s.drop (i + 1) = s.getD (i + 1) 0 :: s.drop (i + 2) := by rw [List.drop_eq_getElem_cons h2l]; simp [List.getD, h2l]
        by_cases h10 : (s.getD (i + 1) 0).toNat = 10
        · have e10 : s.getD (i + 1) 0 = 10 := UInt8.toNat.inj h10
          have hp2 : pairB (s.getD i 0) (s.drop (i + 1)) := ⟨e13, by rw [hd2, e10]; rfl⟩
          rw [if_pos hp2, hd2] at ht
          repeat' first | simp (maxSteps := 4000000) (disch := omega) only [bunL, bunD, bun, ↓WG_true, ↓WG_false, labelOf, findLabel, ↓reduceIte, imp, shift, killO, hasId, unown, names, plainR, below, noF, isF, lendObs, lendOb, kindOk, ren, givL, updM, backO, renO, belowM, seval, -Int.reduceToNat, hi1, B3, B4, B5, B9, B23, B24, bunN, Int.reduceToNat, List.map_nil, List.nil_append, FO_some, CO_some, BI_fadd, BI_fsub, BI_feql, BI_fneq, BI_flss, BI_fleq, BI_fgtr, BI_fgeq, BI_cadd, BI_ceql, BI_cneq, FI_i64, CV_i2f, CV_f2i, CW_i2f, CW_f2i, wopC_real, wopC_imag, wopC_cplx, qopC_real, qopC_imag, qopC_cplx, pureOp_real, pureOp_imag, pureOp_cplx, RE_c, IM_c, CX_f, B2_flt, B2_cpx, wopC_assign_flt, wopC_assign_cpx, f0, f1, fM, c00] | refine DR_q _ ?_ | (refine Fk.fk ?_ ?_ <;> intro hg <;> (try simp only [hg]) <;> (try simp only [bunB] at hg) <;> try (exfalso; first | omega | exact Bool.noConfusion hg | exact hg trivial)) | refine And.intro (by omega) ?_ | omega
          all_goals first | omega | skip
          refine ⟨(i + 2, l + 1, 0), ⟨by show i + 2 ≤ s.length; omega, ht, by show l + 1 ≤ _ + (i + 2); omega, by show 0 ≤ _; omega⟩, by show s.length - (i + 2) < s.length - i; omega, ?_⟩
          (simp (disch := omega) [wk, wkT, wkM, noF, isF, get, belowT, belowM, below, belows, I64, I32, Bv, U8, Sv, List.map_nil] <;> try omega)
        · have hp2 : ¬ pairB (s.getD i 0) (s.drop (i + 1)) := fun h => h10 (by have := h.2; rw [hd2] at this; simp only [List.head?_cons, Option.some.injEq] at this; rw [this]; rfl)
          rw [if_neg hp2] at ht
          repeat' first | simp (maxSteps := 4000000) (disch := omega) only [bunL, bunD, bun, ↓WG_true, ↓WG_false, labelOf, findLabel, ↓reduceIte, imp, shift, killO, hasId, unown, names, plainR, below, noF, isF, lendObs, lendOb, kindOk, ren, givL, updM, backO, renO, belowM, seval, -Int.reduceToNat, hi1, B3, B4, B5, B9, B23, B24, bunN, Int.reduceToNat, List.map_nil, List.nil_append, FO_some, CO_some, BI_fadd, BI_fsub, BI_feql, BI_fneq, BI_flss, BI_fleq, BI_fgtr, BI_fgeq, BI_cadd, BI_ceql, BI_cneq, FI_i64, CV_i2f, CV_f2i, CW_i2f, CW_f2i, wopC_real, wopC_imag, wopC_cplx, qopC_real, qopC_imag, qopC_cplx, pureOp_real, pureOp_imag, pureOp_cplx, RE_c, IM_c, CX_f, B2_flt, B2_cpx, wopC_assign_flt, wopC_assign_cpx, f0, f1, fM, c00] | refine DR_q _ ?_ | (refine Fk.fk ?_ ?_ <;> intro hg <;> (try simp only [hg]) <;> (try simp only [bunB] at hg) <;> try (exfalso; first | omega | exact Bool.noConfusion hg | exact hg trivial)) | refine And.intro (by omega) ?_ | omega
          all_goals first | omega | skip
          refine ⟨(i + 1, l, c + 1), ⟨by show i + 1 ≤ s.length; omega, ht, by show l ≤ _ + (i + 1); omega, by show c + 1 ≤ _ + (i + 1); omega⟩, by show s.length - (i + 1) < s.length - i; omega, ?_⟩
          (simp (disch := omega) [wk, wkT, wkM, noF, isF, get, belowT, belowM, below, belows, I64, I32, Bv, U8, Sv, List.map_nil] <;> try omega)
      · have hd2 : s.drop (i + 1) = [] := List.drop_eq_nil_iff.2 (by omega)
        have hp2 : ¬ pairB (s.getD i 0) (s.drop (i + 1)) := fun h => by have := h.2; rw [hd2] at this; cases this
        rw [if_neg hp2] at ht
        repeat' first | simp (maxSteps := 4000000) (disch := omega) only [bunL, bunD, bun, ↓WG_true, ↓WG_false, labelOf, findLabel, ↓reduceIte, imp, shift, killO, hasId, unown, names, plainR, below, noF, isF, lendObs, lendOb, kindOk, ren, givL, updM, backO, renO, belowM, seval, -Int.reduceToNat, hi1, B3, B4, B5, B9, B23, B24, bunN, Int.reduceToNat, List.map_nil, List.nil_append, FO_some, CO_some, BI_fadd, BI_fsub, BI_feql, BI_fneq, BI_flss, BI_fleq, BI_fgtr, BI_fgeq, BI_cadd, BI_ceql, BI_cneq, FI_i64, CV_i2f, CV_f2i, CW_i2f, CW_f2i, wopC_real, wopC_imag, wopC_cplx, qopC_real, qopC_imag, qopC_cplx, pureOp_real, pureOp_imag, pureOp_cplx, RE_c, IM_c, CX_f, B2_flt, B2_cpx, wopC_assign_flt, wopC_assign_cpx, f0, f1, fM, c00] | refine DR_q _ ?_ | (refine Fk.fk ?_ ?_ <;> intro hg <;> (try simp only [hg]) <;> (try simp only [bunB] at hg) <;> try (exfalso; first | omega | exact Bool.noConfusion hg | exact hg trivial)) | refine And.intro (by omega) ?_ | omega
        all_goals first | omega | skip
        refine ⟨(i + 1, l, c + 1), ⟨by show i + 1 ≤ s.length; omega, ht, by show l ≤ _ + (i + 1); omega, by show c + 1 ≤ _ + (i + 1); omega⟩, by show s.length - (i + 1) < s.length - i; omega, ?_⟩
        (simp (disch := omega) [wk, wkT, wkM, noF, isF, get, belowT, belowM, below, belows, I64, I32, Bv, U8, Sv, List.map_nil] <;> try omega)
    · have hp2 : ¬ pairB (s.getD i 0) (s.drop (i + 1)) := fun h => h13 (by rw [h.1]; rfl)
      rw [if_neg hp2] at ht
      repeat' first | simp (maxSteps := 4000000) (disch := omega) only [bunL, bunD, bun, ↓WG_true, ↓WG_false, labelOf, findLabel, ↓reduceIte, imp, shift, killO, hasId, unown, names, plainR, below, noF, isF, lendObs, lendOb, kindOk, ren, givL, updM, backO, renO, belowM, seval, -Int.reduceToNat, B3, B4, B5, B9, B23, B24, bunN, Int.reduceToNat, List.map_nil, List.nil_append, FO_some, CO_some, BI_fadd, BI_fsub, BI_feql, BI_fneq, BI_flss, BI_fleq, BI_fgtr, BI_fgeq, BI_cadd, BI_ceql, BI_cneq, FI_i64, CV_i2f, CV_f2i, CW_i2f, CW_f2i, wopC_real, wopC_imag, wopC_cplx, qopC_real, qopC_imag, qopC_cplx, pureOp_real, pureOp_imag, pureOp_cplx, RE_c, IM_c, CX_f, B2_flt, B2_cpx, wopC_assign_flt, wopC_assign_cpx, f0, f1, fM, c00] | refine DR_q _ ?_ | (refine Fk.fk ?_ ?_ <;> intro hg <;> (try simp only [hg]) <;> (try simp only [bunB] at hg) <;> try (exfalso; first | omega | exact Bool.noConfusion hg | exact hg trivial)) | refine And.intro (by omega) ?_ | omega
      all_goals first | omega | skip
      refine ⟨(i + 1, l, c + 1), ⟨by show i + 1 ≤ s.length; omega, ht, by show l ≤ _ + (i + 1); omega, by show c + 1 ≤ _ + (i + 1); omega⟩, by show s.length - (i + 1) < s.length - i; omega, ?_⟩
      (simp (disch := omega) [wk, wkT, wkM, noF, isF, get, belowT, belowM, below, belows, I64, I32, Bv, U8, Sv, List.map_nil] <;> try omega)
  · have e : s.drop i = [] := List.drop_eq_nil_iff.2 (by omega)
    rw [e] at ht
    rw [← ht]
    have a1 := nat_fw (n := (l : Int)) (by omega) (by omega)
    have a2 := nat_fw (n := (c : Int)) (by omega) (by omega)
    repeat' first | simp (maxSteps := 4000000) (disch := omega) only [bunL, bunD, bun, ↓WG_true, ↓WG_false, labelOf, findLabel, ↓reduceIte, imp, shift, killO, hasId, unown, names, plainR, below, noF, isF, lendObs, lendOb, kindOk, ren, givL, updM, backO, renO, belowM, seval, -Int.reduceToNat, a1, a2, B3, B4, B5, B9, B23, B24, bunN, Int.reduceToNat, List.map_nil, List.nil_append, FO_some, CO_some, BI_fadd, BI_fsub, BI_feql, BI_fneq, BI_flss, BI_fleq, BI_fgtr, BI_fgeq, BI_cadd, BI_ceql, BI_cneq, FI_i64, CV_i2f, CV_f2i, CW_i2f, CW_f2i, wopC_real, wopC_imag, wopC_cplx, qopC_real, qopC_imag, qopC_cplx, pureOp_real, pureOp_imag, pureOp_cplx, RE_c, IM_c, CX_f, B2_flt, B2_cpx, wopC_assign_flt, wopC_assign_cpx, f0, f1, fM, c00] | refine DR_q _ ?_ | (refine Fk.fk ?_ ?_ <;> intro hg <;> (try simp only [hg]) <;> (try simp only [bunB] at hg) <;> try (exfalso; first | omega | exact Bool.noConfusion hg | exact hg trivial)) | refine And.intro (by omega) ?_ | omega
    all_goals rfl
def clampN (k : Int) (n : Nat) : Nat := if k < 0 then 0 else if (n : Int) < k then n else k.toNat
theorem clampN_le (k : Int) (n : Nat) : clampN k n ≤ n := by unfold clampN; split; omega; split <;> omega
theorem whn0 : whn 0 = 0 := rfl
theorem of_spec (s : List UInt8) (k : Int) (hs : s.length ≤ 1000000) : Spec Tryd.prog 13 [Sv s, I64 k] (spv (spot s (clampN k s.length))) := by
  have h0 := step_spec 0 0 (s.take (clampN k s.length)) (by decide) (by decide) (by have := clampN_le k s.length; simp; omega)
  rw [whn0] at h0
  refine spec_mk (z := false) (ts := [.tmp 4]) ok1 Tryd.func13 rfl rfl (by decide +kernel) (by simp [Tryd.ntmps13]) rfl ?_
  unfold spot
  by_cases h1 : k < 0
  · have e : clampN k s.length = 0 := if_pos h1
    rw [e] at h0 ⊢
    have e1 : (if (s.length : Int) < k then (s.length : Int) else k) = k := if_neg (by omega)
    have e2 : (if k > 0 then k else 0) = 0 := if_neg (by omega)
    repeat' first | refine WE_fit (h0) ?_ ?_ | simp (maxSteps := 4000000) (disch := omega) only [bunL, bunD, bun, ↓WG_true, ↓WG_false, labelOf, findLabel, ↓reduceIte, imp, shift, killO, hasId, unown, names, plainR, below, noF, isF, lendObs, lendOb, kindOk, ren, givL, updM, backO, renO, belowM, seval, -Int.reduceToNat, e1, e2, Int.toNat_zero, B3, B9, B23, bunN, Int.reduceToNat, List.map_nil, List.nil_append, FO_some, CO_some, BI_fadd, BI_fsub, BI_feql, BI_fneq, BI_flss, BI_fleq, BI_fgtr, BI_fgeq, BI_cadd, BI_ceql, BI_cneq, FI_i64, CV_i2f, CV_f2i, CW_i2f, CW_f2i, wopC_real, wopC_imag, wopC_cplx, qopC_real, qopC_imag, qopC_cplx, pureOp_real, pureOp_imag, pureOp_cplx, RE_c, IM_c, CX_f, B2_flt, B2_cpx, wopC_assign_flt, wopC_assign_cpx, f0, f1, fM, c00] | exact NK_no _ | refine NK_cl _ _ ?_ | exact Cln.cl | refine clean_tup _ ?_ | refine cleans_cons _ _ ?_ ?_ | refine DR_q _ ?_ | (refine Fk.fk ?_ ?_ <;> intro hg <;> (try simp only [hg]) <;> (try simp only [bunB] at hg) <;> try (exfalso; first | omega | exact Bool.noConfusion hg | exact hg trivial)) | refine And.intro (by omega) ?_ | omega
    all_goals first | omega | trace_state
  · by_cases h2 : (s.length : Int) < k
    · have e : clampN k s.length = s.length := by unfold clampN; rw [if_neg h1, if_pos h2]
      rw [e] at h0 ⊢
      have e1 : (if (s.length : Int) < k then (s.length : Int) else k) = s.length := if_pos h2
      have e2 : (if (s.length : Int) > 0 then (s.length : Int) else 0) = s.length := by split <;> omega
      repeat' first | refine WE_fit (h0) ?_ ?_ | simp (maxSteps := 4000000) (disch := omega) only [bunL, bunD, bun, ↓WG_true, ↓WG_false, labelOf, findLabel, ↓reduceIte, imp, shift, killO, hasId, unown, names, plainR, below, noF, isF, lendObs, lendOb, kindOk, ren, givL, updM, backO, renO, belowM, seval, -Int.reduceToNat, e1, e2, Int.toNat_natCast, B3, B9, B23, bunN, Int.reduceToNat, List.map_nil, List.nil_append, FO_some, CO_some, BI_fadd, BI_fsub, BI_feql, BI_fneq, BI_flss, BI_fleq, BI_fgtr, BI_fgeq, BI_cadd, BI_ceql, BI_cneq, FI_i64, CV_i2f, CV_f2i, CW_i2f, CW_f2i, wopC_real, wopC_imag, wopC_cplx, qopC_real, qopC_imag, qopC_cplx, pureOp_real, pureOp_imag, pureOp_cplx, RE_c, IM_c, CX_f, B2_flt, B2_cpx, wopC_assign_flt, wopC_assign_cpx, f0, f1, fM, c00] | exact NK_no _ | refine NK_cl _ _ ?_ | exact Cln.cl | refine clean_tup _ ?_ | refine cleans_cons _ _ ?_ ?_ | refine DR_q _ ?_ | (refine Fk.fk ?_ ?_ <;> intro hg <;> (try simp only [hg]) <;> (try simp only [bunB] at hg) <;> try (exfalso; first | omega | exact Bool.noConfusion hg | exact hg trivial)) | refine And.intro (by omega) ?_ | omega
      all_goals first | omega | trace_state
    · have e : clampN k s.length = k.toNat := by unfold clampN; rw [if_neg h1, if_neg h2]
      rw [e] at h0 ⊢
      have e1 : (if (s.length : Int) < k then (s.length : Int) else k) = k := if_neg h2
      have e2 : (if k > 0 then k else 0) = k := by split <;> omega
      repeat' first | refine WE_fit (h0) ?_ ?_ | simp (maxSteps := 4000000) (disch := omega) only [bunL, bunD, bun, ↓WG_true, ↓WG_false, labelOf, findLabel, ↓reduceIte, imp, shift, killO, hasId, unown, names, plainR, below, noF, isF, lendObs, lendOb, kindOk, ren, givL, updM, backO, renO, belowM, seval, -Int.reduceToNat, e1, e2, B3, B9, B23, bunN, Int.reduceToNat, List.map_nil, List.nil_append, FO_some, CO_some, BI_fadd, BI_fsub, BI_feql, BI_fneq, BI_flss, BI_fleq, BI_fgtr, BI_fgeq, BI_cadd, BI_ceql, BI_cneq, FI_i64, CV_i2f, CV_f2i, CW_i2f, CW_f2i, wopC_real, wopC_imag, wopC_cplx, qopC_real, qopC_imag, qopC_cplx, pureOp_real, pureOp_imag, pureOp_cplx, RE_c, IM_c, CX_f, B2_flt, B2_cpx, wopC_assign_flt, wopC_assign_cpx, f0, f1, fM, c00] | exact NK_no _ | refine NK_cl _ _ ?_ | exact Cln.cl | refine clean_tup _ ?_ | refine cleans_cons _ _ ?_ ?_ | refine DR_q _ ?_ | (refine Fk.fk ?_ ?_ <;> intro hg <;> (try simp only [hg]) <;> (try simp only [bunB] at hg) <;> try (exfalso; first | omega | exact Bool.noConfusion hg | exact hg trivial)) | refine And.intro (by omega) ?_ | omega
      all_goals first | omega | trace_state
theorem rof_spec (s : List UInt8) (k : Int) (hs : s.length ≤ 1000000) : Spec Tryd.prog 14 [Sv s, I64 k] (spv (spot s (clampN k s.length))) := by
  have h0 := rstep_spec 0 0 (s.take (clampN k s.length)) (by decide) (by decide) (by have := clampN_le k s.length; simp; omega)
  rw [whn0] at h0
  refine spec_mk (z := false) (ts := [.tmp 4]) ok1 Tryd.func14 rfl rfl (by decide +kernel) (by simp [Tryd.ntmps14]) rfl ?_
  unfold spot
  by_cases h1 : k < 0
  · have e : clampN k s.length = 0 := if_pos h1
    rw [e] at h0 ⊢
    have e1 : (if (s.length : Int) < k then (s.length : Int) else k) = k := if_neg (by omega)
    have e2 : (if k > 0 then k else 0) = 0 := if_neg (by omega)
    repeat' first | refine WE_fit (h0) ?_ ?_ | simp (maxSteps := 4000000) (disch := omega) only [bunL, bunD, bun, ↓WG_true, ↓WG_false, labelOf, findLabel, ↓reduceIte, imp, shift, killO, hasId, unown, names, plainR, below, noF, isF, lendObs, lendOb, kindOk, ren, givL, updM, backO, renO, belowM, seval, -Int.reduceToNat, e1, e2, Int.toNat_zero, B3, B9, B23, bunN, Int.reduceToNat, List.map_nil, List.nil_append, FO_some, CO_some, BI_fadd, BI_fsub, BI_feql, BI_fneq, BI_flss, BI_fleq, BI_fgtr, BI_fgeq, BI_cadd, BI_ceql, BI_cneq, FI_i64, CV_i2f, CV_f2i, CW_i2f, CW_f2i, wopC_real, wopC_imag, wopC_cplx, qopC_real, qopC_imag, qopC_cplx, pureOp_real, pureOp_imag, pureOp_cplx, RE_c, IM_c, CX_f, B2_flt, B2_cpx, wopC_assign_flt, wopC_assign_cpx, f0, f1, fM, c00] | exact NK_no _ | refine NK_cl _ _ ?_ | exact Cln.cl | refine clean_tup _ ?_ | refine cleans_cons _ _ ?_ ?_ | refine DR_q _ ?_ | (refine Fk.fk ?_ ?_ <;> intro hg <;> (try simp only [hg]) <;> (try simp only [bunB] at hg) <;> try (exfalso; first | omega | exact Bool.noConfusion hg | exact hg trivial)) | refine And.intro (by omega) ?_ | omega
    all_goals first | omega | trace_state
  · by_cases h2 : (s.length : Int) < k
    · have e : clampN k s.length = s.length := by unfold clampN; rw [if_neg h1, if_pos h2]
      rw [e] at h0 ⊢
      have e1 : (if (s.length : Int) < k then (s.length : Int) else k) = s.length := if_pos h2
      have e2 : (if (s.length : Int) > 0 then (s.length : Int) else 0) = s.length := by split <;> omega
      repeat' first | refine WE_fit (h0) ?_ ?_ | simp (maxSteps := 4000000) (disch := omega) only [bunL, bunD, bun, ↓WG_true, ↓WG_false, labelOf, findLabel, ↓reduceIte, imp, shift, killO, hasId, unown, names, plainR, below, noF, isF, lendObs, lendOb, kindOk, ren, givL, updM, backO, renO, belowM, seval, -Int.reduceToNat, e1, e2, Int.toNat_natCast, B3, B9, B23, bunN, Int.reduceToNat, List.map_nil, List.nil_append, FO_some, CO_some, BI_fadd, BI_fsub, BI_feql, BI_fneq, BI_flss, BI_fleq, BI_fgtr, BI_fgeq, BI_cadd, BI_ceql, BI_cneq, FI_i64, CV_i2f, CV_f2i, CW_i2f, CW_f2i, wopC_real, wopC_imag, wopC_cplx, qopC_real, qopC_imag, qopC_cplx, pureOp_real, pureOp_imag, pureOp_cplx, RE_c, IM_c, CX_f, B2_flt, B2_cpx, wopC_assign_flt, wopC_assign_cpx, f0, f1, fM, c00] | exact NK_no _ | refine NK_cl _ _ ?_ | exact Cln.cl | refine clean_tup _ ?_ | refine cleans_cons _ _ ?_ ?_ | refine DR_q _ ?_ | (refine Fk.fk ?_ ?_ <;> intro hg <;> (try simp only [hg]) <;> (try simp only [bunB] at hg) <;> try (exfalso; first | omega | exact Bool.noConfusion hg | exact hg trivial)) | refine And.intro (by omega) ?_ | omega
      all_goals first | omega | trace_state
    · have e : clampN k s.length = k.toNat := by unfold clampN; rw [if_neg h1, if_neg h2]
      rw [e] at h0 ⊢
      have e1 : (if (s.length : Int) < k then (s.length : Int) else k) = k := if_neg h2
      have e2 : (if k > 0 then k else 0) = k := by split <;> omega
      repeat' first | refine WE_fit (h0) ?_ ?_ | simp (maxSteps := 4000000) (disch := omega) only [bunL, bunD, bun, ↓WG_true, ↓WG_false, labelOf, findLabel, ↓reduceIte, imp, shift, killO, hasId, unown, names, plainR, below, noF, isF, lendObs, lendOb, kindOk, ren, givL, updM, backO, renO, belowM, seval, -Int.reduceToNat, e1, e2, B3, B9, B23, bunN, Int.reduceToNat, List.map_nil, List.nil_append, FO_some, CO_some, BI_fadd, BI_fsub, BI_feql, BI_fneq, BI_flss, BI_fleq, BI_fgtr, BI_fgeq, BI_cadd, BI_ceql, BI_cneq, FI_i64, CV_i2f, CV_f2i, CW_i2f, CW_f2i, wopC_real, wopC_imag, wopC_cplx, qopC_real, qopC_imag, qopC_cplx, pureOp_real, pureOp_imag, pureOp_cplx, RE_c, IM_c, CX_f, B2_flt, B2_cpx, wopC_assign_flt, wopC_assign_cpx, f0, f1, fM, c00] | exact NK_no _ | refine NK_cl _ _ ?_ | exact Cln.cl | refine clean_tup _ ?_ | refine cleans_cons _ _ ?_ ?_ | refine DR_q _ ?_ | (refine Fk.fk ?_ ?_ <;> intro hg <;> (try simp only [hg]) <;> (try simp only [bunB] at hg) <;> try (exfalso; first | omega | exact Bool.noConfusion hg | exact hg trivial)) | refine And.intro (by omega) ?_ | omega
      all_goals first | omega | trace_state
theorem lines_spec (s : List UInt8) (hs : s.length ≤ 1000000) : Spec Tryd.prog 15 [Sv s] (I64 (lines s)) := by
  have h := count_spec s (by omega)
  refine spec_mk (z := false) (ts := [.tmp 2]) ok1 Tryd.func15 rfl rfl (by decide +kernel) (by simp [Tryd.ntmps15]) rfl ?_
  repeat' first | refine WE_fit (h) ?_ ?_ | simp (maxSteps := 4000000) (disch := omega) only [bunL, bunD, bun, ↓WG_true, ↓WG_false, labelOf, findLabel, ↓reduceIte, imp, shift, killO, hasId, unown, names, plainR, below, noF, isF, lendObs, lendOb, kindOk, ren, givL, updM, backO, renO, belowM, seval, -Int.reduceToNat, B3, B9, bunN, Int.reduceToNat, List.map_nil, List.nil_append, FO_some, CO_some, BI_fadd, BI_fsub, BI_feql, BI_fneq, BI_flss, BI_fleq, BI_fgtr, BI_fgeq, BI_cadd, BI_ceql, BI_cneq, FI_i64, CV_i2f, CV_f2i, CW_i2f, CW_f2i, wopC_real, wopC_imag, wopC_cplx, qopC_real, qopC_imag, qopC_cplx, pureOp_real, pureOp_imag, pureOp_cplx, RE_c, IM_c, CX_f, B2_flt, B2_cpx, wopC_assign_flt, wopC_assign_cpx, f0, f1, fM, c00] | exact NK_no _ | refine NK_cl _ _ ?_ | exact Cln.cl | refine clean_tup _ ?_ | refine cleans_cons _ _ ?_ ?_ | refine DR_q _ ?_ | (refine Fk.fk ?_ ?_ <;> intro hg <;> (try simp only [hg]) <;> (try simp only [bunB] at hg) <;> try (exfalso; first | omega | exact Bool.noConfusion hg | exact hg trivial)) | refine And.intro (by omega) ?_ | omega
theorem lines_short {s : List UInt8} (h : s.length ≤ 1) : lines s = 0 := by
  match s, h with
  | [], _ => rfl
  | [_], _ => rfl
theorem rlines_spec (s : List UInt8) (hs : s.length ≤ 1000000) : Spec Tryd.prog 16 [Sv s] (I64 (lines s)) := by
  refine spec_mk (z := false) (ts := [.tmp 2]) ok1 Tryd.func16 rfl rfl (by decide +kernel) (by simp [Tryd.ntmps16]) rfl ?_
  repeat' first | simp (maxSteps := 4000000) (disch := omega) only [bunL, bunD, bun, ↓WG_true, ↓WG_false, labelOf, findLabel, ↓reduceIte, imp, shift, killO, hasId, unown, names, plainR, below, noF, isF, lendObs, lendOb, kindOk, ren, givL, updM, backO, renO, belowM, seval, -Int.reduceToNat, B3, B4, B5, B9, bunN, Int.reduceToNat, List.map_nil, List.nil_append, FO_some, CO_some, BI_fadd, BI_fsub, BI_feql, BI_fneq, BI_flss, BI_fleq, BI_fgtr, BI_fgeq, BI_cadd, BI_ceql, BI_cneq, FI_i64, CV_i2f, CV_f2i, CW_i2f, CW_f2i, wopC_real, wopC_imag, wopC_cplx, qopC_real, qopC_imag, qopC_cplx, pureOp_real, pureOp_imag, pureOp_cplx, RE_c, IM_c, CX_f, B2_flt, B2_cpx, wopC_assign_flt, wopC_assign_cpx, f0, f1, fM, c00] | refine DR_q _ ?_ | (refine Fk.fk ?_ ?_ <;> intro hg <;> (try simp only [hg]) <;> (try simp only [bunB] at hg) <;> try (exfalso; first | omega | exact Bool.noConfusion hg | exact hg trivial)) | refine And.intro (by omega) ?_ | omega
  refine LP_intro (fun x : Nat × Nat => ⟨[(0, Sv s), (3, I64 x.2), (4, I64 x.1)], []⟩) (fun x => x.1 ≤ s.length ∧ x.2 + lines (s.drop x.1) = lines s ∧ x.2 ≤ x.1) (fun x => s.length - x.1) (0, 0) ⟨by simp, by simp, by simp⟩ (by simp [wk, wkT, wkM, noF, isF, get, belowT, belowM, below, belows, I64, I32, Bv, U8, Sv] <;> try omega) ?_
  rintro ⟨i, n⟩ ⟨hi, ht, hn⟩
  replace hi : i ≤ s.length := hi
  replace ht : n + lines (s.drop i) = lines s := ht
  replace hn : n ≤ i := hn
  have hi1 : ((i : Int) + 1).toNat = i + 1 := by omega
  by_cases hlt : i + 1 < s.length
  · have hd : s.drop i = s.getD i 0 :: s.drop (i + 1) := by rw [List.drop_eq_getElem_cons (by omega)]; simp [List.getD, show i < s.length by omega]
    have hd2 : s.drop (i + 1) = s.getD (i + 1) 0 :: s.drop (i + 2) := by rw [List.drop_eq_getElem_cons hlt]; simp [List.getD, hlt]
    rw [hd, lines_cons] at ht
    by_cases h13 : (s.getD i 0).toNat = 13
    · by_cases h10 : (s.getD (i + 1) 0).toNat = 10
      · have hp2 : pairB (s.getD i 0) (s.drop (i + 1)) := ⟨UInt8.toNat.inj h13, by rw [hd2, UInt8.toNat.inj (b := 10) h10]; rfl⟩
        have hq : ¬ pairB (s.getD (i + 1) 0) (s.drop (i + 2)) := fun h => by have := h.1; rw [this] at h10; cases h10
        rw [if_pos hp2] at ht
        have hl2 : lines (s.drop (i + 1)) = lines (s.drop (i + 1)).tail := by rw [hd2, lines_cons, if_neg hq]; rfl
        repeat' first | simp (maxSteps := 4000000) (disch := omega) only [bunL, bunD, bun, ↓WG_true, ↓WG_false, labelOf, findLabel, ↓reduceIte, imp, shift, killO, hasId, unown, names, plainR, below, noF, isF, lendObs, lendOb, kindOk, ren, givL, updM, backO, renO, belowM, seval, -Int.reduceToNat, hi1, B3, B4, B5, B9, bunN, Int.reduceToNat, List.map_nil, List.nil_append, FO_some, CO_some, BI_fadd, BI_fsub, BI_feql, BI_fneq, BI_flss, BI_fleq, BI_fgtr, BI_fgeq, BI_cadd, BI_ceql, BI_cneq, FI_i64, CV_i2f, CV_f2i, CW_i2f, CW_f2i, wopC_real, wopC_imag, wopC_cplx, qopC_real, qopC_imag, qopC_cplx, pureOp_real, pureOp_imag, pureOp_cplx, RE_c, IM_c, CX_f, B2_flt, B2_cpx, wopC_assign_flt, wopC_assign_cpx, f0, f1, fM, c00] | refine DR_q _ ?_ | (refine Fk.fk ?_ ?_ <;> intro hg <;> (try simp only [hg]) <;> (try simp only [bunB] at hg) <;> try (exfalso; first | omega | exact Bool.noConfusion hg | exact hg trivial)) | refine And.intro (by omega) ?_ | omega
        all_goals first | omega | skip
        refine ⟨(i + 1, n + 1), ⟨by show i + 1 ≤ s.length; omega, by show n + 1 + lines (s.drop (i + 1)) = lines s; rw [hl2]; omega, by show n + 1 ≤ i + 1; omega⟩, by show s.length - (i + 1) < s.length - i; omega, ?_⟩
        (simp (disch := omega) [wk, wkT, wkM, noF, isF, get, belowT, belowM, below, belows, I64, I32, Bv, U8, Sv, List.map_nil] <;> try omega)
      · have hp2 : ¬ pairB (s.getD i 0) (s.drop (i + 1)) := fun h => h10 (by have := h.2; rw [hd2] at this; simp only [List.head?_cons, Option.some.injEq] at this; rw [this]; rfl)
        rw [if_neg hp2] at ht
        repeat' first | simp (maxSteps := 4000000) (disch := omega) only [bunL, bunD, bun, ↓WG_true, ↓WG_false, labelOf, findLabel, ↓reduceIte, imp, shift, killO, hasId, unown, names, plainR, below, noF, isF, lendObs, lendOb, kindOk, ren, givL, updM, backO, renO, belowM, seval, -Int.reduceToNat, hi1, B3, B4, B5, B9, bunN, Int.reduceToNat, List.map_nil, List.nil_append, FO_some, CO_some, BI_fadd, BI_fsub, BI_feql, BI_fneq, BI_flss, BI_fleq, BI_fgtr, BI_fgeq, BI_cadd, BI_ceql, BI_cneq, FI_i64, CV_i2f, CV_f2i, CW_i2f, CW_f2i, wopC_real, wopC_imag, wopC_cplx, qopC_real, qopC_imag, qopC_cplx, pureOp_real, pureOp_imag, pureOp_cplx, RE_c, IM_c, CX_f, B2_flt, B2_cpx, wopC_assign_flt, wopC_assign_cpx, f0, f1, fM, c00] | refine DR_q _ ?_ | (refine Fk.fk ?_ ?_ <;> intro hg <;> (try simp only [hg]) <;> (try simp only [bunB] at hg) <;> try (exfalso; first | omega | exact Bool.noConfusion hg | exact hg trivial)) | refine And.intro (by omega) ?_ | omega
        all_goals first | omega | skip
        refine ⟨(i + 1, n), ⟨by show i + 1 ≤ s.length; omega, ht, by show n ≤ i + 1; omega⟩, by show s.length - (i + 1) < s.length - i; omega, ?_⟩
        (simp (disch := omega) [wk, wkT, wkM, noF, isF, get, belowT, belowM, below, belows, I64, I32, Bv, U8, Sv, List.map_nil] <;> try omega)
    · have hp2 : ¬ pairB (s.getD i 0) (s.drop (i + 1)) := fun h => h13 (by rw [h.1]; rfl)
      rw [if_neg hp2] at ht
      repeat' first | simp (maxSteps := 4000000) (disch := omega) only [bunL, bunD, bun, ↓WG_true, ↓WG_false, labelOf, findLabel, ↓reduceIte, imp, shift, killO, hasId, unown, names, plainR, below, noF, isF, lendObs, lendOb, kindOk, ren, givL, updM, backO, renO, belowM, seval, -Int.reduceToNat, hi1, B3, B4, B5, B9, bunN, Int.reduceToNat, List.map_nil, List.nil_append, FO_some, CO_some, BI_fadd, BI_fsub, BI_feql, BI_fneq, BI_flss, BI_fleq, BI_fgtr, BI_fgeq, BI_cadd, BI_ceql, BI_cneq, FI_i64, CV_i2f, CV_f2i, CW_i2f, CW_f2i, wopC_real, wopC_imag, wopC_cplx, qopC_real, qopC_imag, qopC_cplx, pureOp_real, pureOp_imag, pureOp_cplx, RE_c, IM_c, CX_f, B2_flt, B2_cpx, wopC_assign_flt, wopC_assign_cpx, f0, f1, fM, c00] | refine DR_q _ ?_ | (refine Fk.fk ?_ ?_ <;> intro hg <;> (try simp only [hg]) <;> (try simp only [bunB] at hg) <;> try (exfalso; first | omega | exact Bool.noConfusion hg | exact hg trivial)) | refine And.intro (by omega) ?_ | omega
      all_goals first | omega | skip
      refine ⟨(i + 1, n), ⟨by show i + 1 ≤ s.length; omega, ht, by show n ≤ i + 1; omega⟩, by show s.length - (i + 1) < s.length - i; omega, ?_⟩
      (simp (disch := omega) [wk, wkT, wkM, noF, isF, get, belowT, belowM, below, belows, I64, I32, Bv, U8, Sv, List.map_nil] <;> try omega)
  · have e := lines_short (s := s.drop i) (by simp; omega)
    rw [e] at ht
    have e2 : lines s = n := by omega
    rw [e2]
    repeat' first | simp (maxSteps := 4000000) (disch := omega) only [bunL, bunD, bun, ↓WG_true, ↓WG_false, labelOf, findLabel, ↓reduceIte, imp, shift, killO, hasId, unown, names, plainR, below, noF, isF, lendObs, lendOb, kindOk, ren, givL, updM, backO, renO, belowM, seval, -Int.reduceToNat, B3, B4, B5, B9, bunN, Int.reduceToNat, List.map_nil, List.nil_append, FO_some, CO_some, BI_fadd, BI_fsub, BI_feql, BI_fneq, BI_flss, BI_fleq, BI_fgtr, BI_fgeq, BI_cadd, BI_ceql, BI_cneq, FI_i64, CV_i2f, CV_f2i, CW_i2f, CW_f2i, wopC_real, wopC_imag, wopC_cplx, qopC_real, qopC_imag, qopC_cplx, pureOp_real, pureOp_imag, pureOp_cplx, RE_c, IM_c, CX_f, B2_flt, B2_cpx, wopC_assign_flt, wopC_assign_cpx, f0, f1, fM, c00] | refine DR_q _ ?_ | (refine Fk.fk ?_ ?_ <;> intro hg <;> (try simp only [hg]) <;> (try simp only [bunB] at hg) <;> try (exfalso; first | omega | exact Bool.noConfusion hg | exact hg trivial)) | refine And.intro (by omega) ?_ | omega
    all_goals trace_state
end Go.AE
end
