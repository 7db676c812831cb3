/- Contracts of functions that the laws of this seat reach, and plain laws of what they compute. No condition beyond each statement's own. -/
import Derived.Test.YtekgeapohenheaaGreatK1
import Derived.Test.YtekgeapohenheaaGreatAENum
import Derived.Test.YtekgeapohenheaaGreatAEBun
import Derived.Test.YtekgeapohenheaaGreatU1
set_option linter.unusedVariables false
set_option linter.unusedSimpArgs false
section
/- Characters and their bytes: plain laws and contracts. -/
namespace Go.AE
open Go.Proofs
set_option maxRecDepth 10000
set_option linter.unusedSimpArgs false
def right (r : Int) : Bool := decide (0 ≤ r) && decide (r ≤ 1114111) && !(decide (55296 ≤ r) && decide (r ≤ 57343))
def rlen (r : Int) : Int := if right r then (if r ≤ 127 then 1 else if r ≤ 2047 then 2 else if r ≤ 65535 then 3 else 4) else 0

theorem right_spec (r : Int) : Spec Tryz.prog 75 [I32 r] (Bv (right r)) := by
  refine spec_mk (z := false) (ts := [.tmp 2]) ok1 Tryz.func75 rfl rfl (by decide +kernel) (by simp [Tryz.ntmps75]) rfl ?_
  repeat' first | simp (maxSteps := 4000000) (disch := omega) only [bunL, bunD, bun, ↓WG_true, ↓WG_false, labelOf, findLabel, ↓reduceIte, imp, shift, killO, cond_true, cond_false, hasId, ne_eq, unown, names, plainR, below, noF, isF, lendObs, lendOb, kindOk, ren, givL, updM, backO, renO, belowM, seval, -Int.reduceToNat, B4, B21, bunN] | refine DR_q _ ?_ | (refine Fk.fk ?_ ?_ <;> intro hg <;> (try simp only [hg]) <;> (try simp only [bunB, ne_eq] at hg) <;> try (exfalso; first | omega | exact Bool.noConfusion hg | exact hg trivial)) | refine And.intro (by omega) ?_ | omega
  all_goals (congr 2; first | rfl | (first | rw [Bool.eq_iff_iff] | skip); simp_all [right, rlen] <;> omega)
theorem rright_spec (r : Int) : Spec Tryz.prog 85 [I32 r] (Bv (right r)) := by
  refine spec_mk (z := false) (ts := [.tmp 2]) ok1 Tryz.func85 rfl rfl (by decide +kernel) (by simp [Tryz.ntmps85]) rfl ?_
  repeat' first | simp (maxSteps := 4000000) (disch := omega) only [bunL, bunD, bun, ↓WG_true, ↓WG_false, labelOf, findLabel, ↓reduceIte, imp, shift, killO, cond_true, cond_false, hasId, ne_eq, unown, names, plainR, below, noF, isF, lendObs, lendOb, kindOk, ren, givL, updM, backO, renO, belowM, seval, -Int.reduceToNat, B4, B21, bunN] | refine DR_q _ ?_ | (refine Fk.fk ?_ ?_ <;> intro hg <;> (try simp only [hg]) <;> (try simp only [bunB, ne_eq] at hg) <;> try (exfalso; first | omega | exact Bool.noConfusion hg | exact hg trivial)) | refine And.intro (by omega) ?_ | omega
  all_goals (congr 2; first | rfl | (first | rw [Bool.eq_iff_iff] | skip); simp_all [right, rlen] <;> omega)
theorem len_spec (r : Int) : Spec Tryz.prog 55 [I32 r] (I64 (rlen r)) := by
  refine spec_mk (z := false) (ts := [.tmp 2]) ok1 Tryz.func55 rfl rfl (by decide +kernel) (by simp [Tryz.ntmps55]) rfl ?_
  repeat' first | refine WE_fit (right_spec _) ?_ ?_ | simp (maxSteps := 4000000) (disch := omega) only [bunL, bunD, bun, ↓WG_true, ↓WG_false, labelOf, findLabel, ↓reduceIte, imp, shift, killO, cond_true, cond_false, hasId, ne_eq, unown, names, plainR, below, noF, isF, lendObs, lendOb, kindOk, ren, givL, updM, backO, renO, belowM, seval, -Int.reduceToNat, B3, B4, B21, bunN] | exact NK_no _ | refine NK_cl _ _ ?_ | exact Cln.cl | refine clean_tup _ ?_ | refine cleans_cons _ _ ?_ ?_ | refine DR_q _ ?_ | (refine Fk.fk ?_ ?_ <;> intro hg <;> (try simp only [hg]) <;> (try simp only [bunB, ne_eq] at hg) <;> try (exfalso; first | omega | exact Bool.noConfusion hg | exact hg trivial)) | refine And.intro (by omega) ?_ | omega

  all_goals (congr 2; first | rfl | (first | rw [Bool.eq_iff_iff] | skip); simp_all [right, rlen] <;> omega)
theorem rlen_spec (r : Int) : Spec Tryz.prog 91 [I32 r] (I64 (rlen r)) := by
  refine spec_mk (z := false) (ts := [.tmp 2]) ok1 Tryz.func91 rfl rfl (by decide +kernel) (by simp [Tryz.ntmps91]) rfl ?_
  repeat' first | refine WE_fit (rright_spec _) ?_ ?_ | simp (maxSteps := 4000000) (disch := omega) only [bunL, bunD, bun, ↓WG_true, ↓WG_false, labelOf, findLabel, ↓reduceIte, imp, shift, killO, cond_true, cond_false, hasId, ne_eq, unown, names, plainR, below, noF, isF, lendObs, lendOb, kindOk, ren, givL, updM, backO, renO, belowM, seval, -Int.reduceToNat, B3, B4, B21, bunN] | exact NK_no _ | refine NK_cl _ _ ?_ | exact Cln.cl | refine clean_tup _ ?_ | refine cleans_cons _ _ ?_ ?_ | refine DR_q _ ?_ | (refine Fk.fk ?_ ?_ <;> intro hg <;> (try simp only [hg]) <;> (try simp only [bunB, ne_eq] at hg) <;> try (exfalso; first | omega | exact Bool.noConfusion hg | exact hg trivial)) | refine And.intro (by omega) ?_ | omega
  all_goals (congr 2; first | rfl | (first | rw [Bool.eq_iff_iff] | skip); simp_all [right, rlen] <;> omega)
end Go.AE
end
section
/- Characters and their bytes: plain laws and contracts. -/
namespace Go.AE
open Go.Proofs
set_option maxRecDepth 10000
set_option linter.unusedSimpArgs false

def ofI (n : Int) : UInt8 := UInt8.ofNat n.toNat
theorem ofI_toNat {n : Int} (h : 0 ≤ n) (k : n < 256) : ((ofI n).toNat : Int) = n := by
  unfold ofI; simp; omega

/-- What a first byte tells. -/
def lead (c : Int) : Int × Int :=
  if c < 128 then (0, c) else if 194 ≤ c ∧ c < 224 then (1, c % 32) else if 224 ≤ c ∧ c < 240 then (2, c % 16) else if 240 ≤ c ∧ c < 245 then (3, c % 8) else (-1, 0)

def enc (r : Int) : List UInt8 :=
  if right r then (if r ≤ 127 then [ofI r] else if r ≤ 2047 then [ofI (192 + r / 64), ofI (128 + r % 64)] else if r ≤ 65535 then [ofI (224 + r / 4096), ofI (128 + r / 64 % 64), ofI (128 + r % 64)]
    else [ofI (240 + r / 262144), ofI (128 + r / 4096 % 64), ofI (128 + r / 64 % 64), ofI (128 + r % 64)]) else []

theorem lead_spec (b : UInt8) : Spec Tryz.prog 54 [U8 b] (.tup [I64 (lead b.toNat).1, I32 (lead b.toNat).2]) := by
  refine spec_mk (z := false) (ts := [.tmp 2, .tmp 3]) ok1 Tryz.func54 rfl rfl (by decide +kernel) (by simp [Tryz.ntmps54]) rfl ?_
  have hb := u8_lt b
  repeat' first | simp (maxSteps := 4000000) (disch := omega) only [bunL, bunD, bun, ↓WG_true, ↓WG_false, labelOf, findLabel, ↓reduceIte, imp, shift, killO, cond_true, cond_false, hasId, ne_eq, unown, names, plainR, below, noF, isF, lendObs, lendOb, kindOk, ren, givL, updM, backO, renO, belowM, seval, -Int.reduceToNat, B3, B4, B5, B21, bunN, and63_32, and63_8, and31_8, and15_8, and7_8, min6_32, min12_32, min18_32, wrap8, wrap32, wrap64, Int.tdiv_eq_ediv_of_nonneg, Int.tmod_eq_emod_of_nonneg, Int.fdiv_eq_ediv_of_nonneg] | refine DR_q _ ?_ | (refine Fk.fk ?_ ?_ <;> intro hg <;> (try simp only [hg]) <;> (try simp only [bunB, ne_eq] at hg) <;> try (exfalso; first | omega | exact Bool.noConfusion hg | exact hg trivial)) | refine And.intro (by omega) ?_ | omega
  all_goals
    congr 3 <;> first
    | rfl
    | (simp (disch := omega) only [lead, if_pos, if_neg]; first | done | (congr 2 <;> first | rfl | omega))


theorem right_iff (r : Int) : right r = true ↔ 0 ≤ r ∧ r ≤ 1114111 ∧ ¬ (55296 ≤ r ∧ r ≤ 57343) := by
  simp [right]; omega
theorem rlen_yes {r : Int} (h : right r = true) : rlen r = if r ≤ 127 then 1 else if r ≤ 2047 then 2 else if r ≤ 65535 then 3 else 4 := by simp [rlen, h]
theorem rlen_no {r : Int} (h : right r = false) : rlen r = 0 := by simp [rlen, h]
theorem rlen_all (r : Int) : (rlen r = 1 ↔ 0 ≤ r ∧ r ≤ 127) ∧ (rlen r = 2 ↔ 128 ≤ r ∧ r ≤ 2047) ∧ (rlen r = 3 ↔ 2048 ≤ r ∧ r ≤ 65535 ∧ ¬ (55296 ≤ r ∧ r ≤ 57343)) ∧ (rlen r = 4 ↔ 65536 ≤ r ∧ r ≤ 1114111) := by
  have h := right_iff r
  cases hr : right r with
  | true => rw [rlen_yes hr]; rw [hr] at h; simp only [true_iff] at h; repeat' split
            all_goals omega
  | false => rw [rlen_no hr]; rw [hr] at h; simp only [Bool.false_eq_true, false_iff] at h; omega
theorem rlen1 (r : Int) : rlen r = 1 ↔ 0 ≤ r ∧ r ≤ 127 := (rlen_all r).1
theorem rlen2 (r : Int) : rlen r = 2 ↔ 128 ≤ r ∧ r ≤ 2047 := (rlen_all r).2.1
theorem rlen3 (r : Int) : rlen r = 3 ↔ 2048 ≤ r ∧ r ≤ 65535 ∧ ¬ (55296 ≤ r ∧ r ≤ 57343) := (rlen_all r).2.2.1
theorem rlen4 (r : Int) : rlen r = 4 ↔ 65536 ≤ r ∧ r ≤ 1114111 := (rlen_all r).2.2.2
theorem rlen0 (r : Int) : rlen r = 0 ↔ right r = false := by
  cases hr : right r with
  | true => rw [rlen_yes hr]; simp; repeat' split
            all_goals omega
  | false => rw [rlen_no hr]; simp
theorem rlen_or (r : Int) : rlen r = 0 ∨ rlen r = 1 ∨ rlen r = 2 ∨ rlen r = 3 ∨ rlen r = 4 := by
  cases hr : right r with
  | true => rw [rlen_yes hr]; repeat' split
            all_goals simp
  | false => rw [rlen_no hr]; simp
theorem enc1 {r : Int} (h : 0 ≤ r ∧ r ≤ 127) : enc r = [ofI r] := by
  have hr : right r = true := by simp [right]; omega
  simp (disch := omega) only [enc, hr, if_true, if_pos, if_neg]
theorem enc2 {r : Int} (h : 128 ≤ r ∧ r ≤ 2047) : enc r = [ofI (192 + r / 64), ofI (128 + r % 64)] := by
  have hr : right r = true := by simp [right]; omega
  simp (disch := omega) only [enc, hr, if_true, if_pos, if_neg]
theorem enc3 {r : Int} (h : 2048 ≤ r ∧ r ≤ 65535 ∧ ¬ (55296 ≤ r ∧ r ≤ 57343)) : enc r = [ofI (224 + r / 4096), ofI (128 + r / 64 % 64), ofI (128 + r % 64)] := by
  have hr : right r = true := by simp [right]; omega
  simp (disch := omega) only [enc, hr, if_true, if_pos, if_neg]
theorem enc4 {r : Int} (h : 65536 ≤ r ∧ r ≤ 1114111) : enc r = [ofI (240 + r / 262144), ofI (128 + r / 4096 % 64), ofI (128 + r / 64 % 64), ofI (128 + r % 64)] := by
  have hr : right r = true := by simp [right]; omega
  simp (disch := omega) only [enc, hr, if_true, if_pos, if_neg]
theorem enc0 {r : Int} (h : right r = false) : enc r = [] := by simp [enc, h]
theorem enc_length (r : Int) : ((enc r).length : Int) = rlen r := by
  rcases rlen_or r with h | h | h | h | h
  · rw [enc0 ((rlen0 r).1 h), h]; rfl
  · rw [enc1 ((rlen1 r).1 h), h]; rfl
  · rw [enc2 ((rlen2 r).1 h), h]; rfl
  · rw [enc3 ((rlen3 r).1 h), h]; rfl
  · rw [enc4 ((rlen4 r).1 h), h]; rfl

theorem bytes_spec (r : Int) : Spec Tryz.prog 86 [I32 r] (.own 5 1 (enc r).length ((enc r).map U8)) := by
  refine spec_mk (z := false) (ts := [.tmp 2]) ok1 Tryz.func86 rfl rfl (by decide +kernel) (by simp [Tryz.ntmps86]) rfl ?_
  repeat' first | refine WE_fit (rlen_spec _) ?_ ?_ | simp (maxSteps := 4000000) (disch := omega) only [bunL, bunD, bun, ↓WG_true, ↓WG_false, labelOf, findLabel, ↓reduceIte, imp, shift, killO, cond_true, cond_false, hasId, ne_eq, unown, names, plainR, below, noF, isF, lendObs, lendOb, kindOk, ren, givL, updM, backO, renO, belowM, seval, -Int.reduceToNat, B3, B4, B21, B5, B100, bunN, and63_32, and63_8, and31_8, and15_8, and7_8, min6_32, min12_32, min18_32, wrap8, wrap32, wrap64, Int.tdiv_eq_ediv_of_nonneg, Int.tmod_eq_emod_of_nonneg, Int.fdiv_eq_ediv_of_nonneg] | exact NK_no _ | refine NK_cl _ _ ?_ | exact Cln.cl | refine clean_tup _ ?_ | refine cleans_cons _ _ ?_ ?_ | refine DR_q _ ?_ | (refine Fk.fk ?_ ?_ <;> intro hg <;> (try simp only [hg]) <;> (try simp only [bunB, ne_eq] at hg) <;> try (exfalso; first | omega | exact Bool.noConfusion hg | exact hg trivial)) | refine And.intro (by omega) ?_ | omega
  · have h := (rlen1 r).1 (by assumption)
    rw [enc1 h]
    simp (maxSteps := 4000000) (disch := omega) only [bunL, bunD, bun, ↓WG_true, ↓WG_false, labelOf, findLabel, ↓reduceIte, imp, shift, killO, cond_true, cond_false, hasId, ne_eq, unown, names, plainR, below, noF, isF, lendObs, lendOb, kindOk, ren, givL, updM, backO, renO, belowM, seval, -Int.reduceToNat, ofI_toNat, B3, B4, B21, B5, B100, bunN, and63_32, and63_8, and31_8, and15_8, and7_8, min6_32, min12_32, min18_32, wrap8, wrap32, wrap64, Int.tdiv_eq_ediv_of_nonneg, Int.tmod_eq_emod_of_nonneg, Int.fdiv_eq_ediv_of_nonneg]
  · have h := (rlen2 r).1 (by assumption)
    rw [enc2 h]
    simp (maxSteps := 4000000) (disch := omega) only [bunL, bunD, bun, ↓WG_true, ↓WG_false, labelOf, findLabel, ↓reduceIte, imp, shift, killO, cond_true, cond_false, hasId, ne_eq, unown, names, plainR, below, noF, isF, lendObs, lendOb, kindOk, ren, givL, updM, backO, renO, belowM, seval, -Int.reduceToNat, ofI_toNat, B3, B4, B21, B5, B100, bunN, and63_32, and63_8, and31_8, and15_8, and7_8, min6_32, min12_32, min18_32, wrap8, wrap32, wrap64, Int.tdiv_eq_ediv_of_nonneg, Int.tmod_eq_emod_of_nonneg, Int.fdiv_eq_ediv_of_nonneg]
  · have h := (rlen3 r).1 (by assumption)
    rw [enc3 h]
    simp (maxSteps := 4000000) (disch := omega) only [bunL, bunD, bun, ↓WG_true, ↓WG_false, labelOf, findLabel, ↓reduceIte, imp, shift, killO, cond_true, cond_false, hasId, ne_eq, unown, names, plainR, below, noF, isF, lendObs, lendOb, kindOk, ren, givL, updM, backO, renO, belowM, seval, -Int.reduceToNat, ofI_toNat, B3, B4, B21, B5, B100, bunN, and63_32, and63_8, and31_8, and15_8, and7_8, min6_32, min12_32, min18_32, wrap8, wrap32, wrap64, Int.tdiv_eq_ediv_of_nonneg, Int.tmod_eq_emod_of_nonneg, Int.fdiv_eq_ediv_of_nonneg]
  · have h := (rlen4 r).1 (by assumption)
    rw [enc4 h]
    simp (maxSteps := 4000000) (disch := omega) only [bunL, bunD, bun, ↓WG_true, ↓WG_false, labelOf, findLabel, ↓reduceIte, imp, shift, killO, cond_true, cond_false, hasId, ne_eq, unown, names, plainR, below, noF, isF, lendObs, lendOb, kindOk, ren, givL, updM, backO, renO, belowM, seval, -Int.reduceToNat, ofI_toNat, B3, B4, B21, B5, B100, bunN, and63_32, and63_8, and31_8, and15_8, and7_8, min6_32, min12_32, min18_32, wrap8, wrap32, wrap64, Int.tdiv_eq_ediv_of_nonneg, Int.tmod_eq_emod_of_nonneg, Int.fdiv_eq_ediv_of_nonneg]
  · have h : rlen r = 0 := by have := rlen_or r; omega
    rw [enc0 ((rlen0 r).1 h)]
    rfl

theorem take_snocD {α : Type} (l : List α) (i : Nat) (d : α) (h : i < l.length) : l.take (i + 1) = l.take i ++ [l.getD i d] := by
  rw [List.take_add_one]
  simp [List.getD, h]

end Go.AE
end
section
/- Characters and their bytes: plain laws and contracts. -/
namespace Go.AE
open Go.Proofs
set_option maxRecDepth 10000
set_option linter.unusedSimpArgs false
theorem enc_le (r : Int) : (enc r).length ≤ 4 := by have := enc_length r; have := rlen_or r; omega

def strOk (l : List Int) : Bool := l.all right
def strS (l : List Int) : List UInt8 := if strOk l then l.flatMap enc else []

theorem strOk_bad {l : List Int} {i : Nat} (h : i < l.length) (hr : right (l.getD i 0) = false) : strOk l = false := by
  rw [strOk, List.all_eq_false]
  exact ⟨l.getD i 0, by simp [List.getD, h], by rw [hr]; simp⟩

theorem str_step {l : List Int} {i : Nat} {acc : List UInt8} (hi : i < l.length) (ha : acc = (l.take i).flatMap enc) (hn : acc.length ≤ 4 * i) (hr : (l.take i).all right = true) (hg : right (l.getD i 0) = true) :
    i + 1 ≤ l.length ∧ acc ++ enc (l.getD i 0) = (l.take (i + 1)).flatMap enc ∧ (acc ++ enc (l.getD i 0)).length ≤ 4 * (i + 1) ∧ (l.take (i + 1)).all right = true := by
  have hE := enc_le (l.getD i 0)
  refine ⟨by omega, ?_, by simp only [List.length_append]; omega, ?_⟩
  · rw [take_snocD _ _ 0 hi, List.flatMap_append, ha]; simp
  · rw [take_snocD _ _ 0 hi, List.all_append, hr]; simp only [List.all_cons, List.all_nil, hg]; rfl

theorem utfString_spec (l : List Int) (hl : l.length ≤ 100000) : Spec Tryz.prog 50 [.sl l.length (l.map I32)] (.tup [Sv (strS l), Bv (strOk l)]) := by
  refine spec_mk (z := false) (ts := [.tmp 2, .tmp 3]) ok1 Tryz.func50 rfl rfl (by decide +kernel) (by simp [Tryz.ntmps50]) rfl ?_
  repeat' first | simp (maxSteps := 4000000) (disch := omega) only [bunL, bunD, bun, ↓WG_true, ↓WG_false, labelOf, findLabel, ↓reduceIte, imp, shift, killO, cond_true, cond_false, hasId, ne_eq, unown, names, plainR, below, noF, isF, lendObs, lendOb, kindOk, ren, givL, updM, backO, renO, belowM, seval, -Int.reduceToNat, B3, B4, B9, B21, B53, B5, B100, bunN, and63_32, and63_8, and31_8, and15_8, and7_8, min6_32, min12_32, min18_32, wrap8, wrap32, wrap64, Int.tdiv_eq_ediv_of_nonneg, Int.tmod_eq_emod_of_nonneg, Int.fdiv_eq_ediv_of_nonneg, or192, or224, or240, or128] | refine DR_q _ ?_ | (refine Fk.fk ?_ ?_ <;> intro hg <;> (try simp only [hg]) <;> (try simp only [bunB, ne_eq, rlen1, rlen2, rlen3, rlen4, rlen0] at hg) <;> try (exfalso; first | omega | exact Bool.noConfusion hg | exact hg trivial)) | refine And.intro (by omega) ?_ | omega
  refine LP_intro (fun x : Nat × List UInt8 => ⟨[(7, .sl l.length (l.map I32)), (8, I64 l.length), (9, I64 x.1), (4, .ref 0 0 x.2.length)], [.arr 5 1 (x.2.map U8)]⟩)
    (fun x => x.1 ≤ l.length ∧ x.2 = (l.take x.1).flatMap enc ∧ x.2.length ≤ 4 * x.1 ∧ (l.take x.1).all right = true) (fun x => l.length - x.1) (0, []) (by simp) (by simp [wk, wkT, wkM, noF, isF, get, belowT, belowM, below, belows, I64, I32, Bv, U8, Sv] <;> try omega) ?_
  rintro ⟨i, acc⟩ ⟨hi, ha, hn, hr⟩
  dsimp only at hi ha hn hr
  repeat' first | refine WE_fit (len_spec _) ?_ ?_ | simp (maxSteps := 4000000) (disch := omega) only [bunL, bunD, bun, ↓WG_true, ↓WG_false, labelOf, findLabel, ↓reduceIte, imp, shift, killO, cond_true, cond_false, hasId, ne_eq, unown, names, plainR, below, noF, isF, lendObs, lendOb, kindOk, ren, givL, updM, backO, renO, belowM, seval, -Int.reduceToNat, B3, B4, B9, B21, B53, B5, B100, bunN, and63_32, and63_8, and31_8, and15_8, and7_8, min6_32, min12_32, min18_32, wrap8, wrap32, wrap64, Int.tdiv_eq_ediv_of_nonneg, Int.tmod_eq_emod_of_nonneg, Int.fdiv_eq_ediv_of_nonneg, or192, or224, or240, or128] | exact NK_no _ | refine NK_cl _ _ ?_ | exact Cln.cl | refine clean_tup _ ?_ | refine cleans_cons _ _ ?_ ?_ | refine DR_q _ ?_ | (refine Fk.fk ?_ ?_ <;> intro hg <;> (try simp only [hg]) <;> (try simp only [bunB, ne_eq, rlen1, rlen2, rlen3, rlen4, rlen0] at hg) <;> try (exfalso; first | omega | exact Bool.noConfusion hg | exact hg trivial)) | refine And.intro (by omega) ?_ | omega
  · rename_i hg
    have h := strOk_bad (by omega) hg
    simp [strS, h]
  · have hg' : right (l.getD i 0) = true := by assumption
    refine ⟨(i + 1, acc ++ enc (l.getD i 0)), str_step (by omega) ha hn hr hg', by dsimp only; omega, ?_⟩
    generalize l.getD i 0 = r at *
    rw [enc1 hg]
    (simp (disch := omega) [wk, wkT, wkM, noF, isF, get, belowT, belowM, below, belows, I64, I32, Bv, U8, Sv, ofI_toNat] <;> try omega)
  · have hg' : right (l.getD i 0) = true := by assumption
    refine ⟨(i + 1, acc ++ enc (l.getD i 0)), str_step (by omega) ha hn hr hg', by dsimp only; omega, ?_⟩
    generalize l.getD i 0 = r at *
    rw [enc2 hg]
    (simp (disch := omega) [wk, wkT, wkM, noF, isF, get, belowT, belowM, below, belows, I64, I32, Bv, U8, Sv, ofI_toNat] <;> try omega)
  · have hg' : right (l.getD i 0) = true := by assumption
    refine ⟨(i + 1, acc ++ enc (l.getD i 0)), str_step (by omega) ha hn hr hg', by dsimp only; omega, ?_⟩
    generalize l.getD i 0 = r at *
    rw [enc3 (by omega)]
    (simp (disch := omega) [wk, wkT, wkM, noF, isF, get, belowT, belowM, below, belows, I64, I32, Bv, U8, Sv, ofI_toNat] <;> try omega)
  · have hg' : right (l.getD i 0) = true := by assumption
    refine ⟨(i + 1, acc ++ enc (l.getD i 0)), str_step (by omega) ha hn hr hg', by dsimp only; omega, ?_⟩
    generalize l.getD i 0 = r at *
    rw [enc4 hg]
    (simp (disch := omega) [wk, wkT, wkM, noF, isF, get, belowT, belowM, below, belows, I64, I32, Bv, U8, Sv, ofI_toNat] <;> try omega)
  · exfalso
    have h := (right_iff _).1 (by assumption)
    omega
  · have e : i = l.length := by omega
    subst e
    rw [List.take_length] at ha hr
    have h : strOk l = true := hr
    simp [strS, h, ha]

theorem refString_spec (l : List Int) (hl : l.length ≤ 100000) : Spec Tryz.prog 59 [.sl l.length (l.map I32)] (.tup [Sv (strS l), Bv (strOk l)]) := by
  refine spec_mk (z := false) (ts := [.tmp 2, .tmp 3]) ok1 Tryz.func59 rfl rfl (by decide +kernel) (by simp [Tryz.ntmps59]) rfl ?_
  repeat' first | simp (maxSteps := 4000000) (disch := omega) only [bunL, bunD, bun, ↓WG_true, ↓WG_false, labelOf, findLabel, ↓reduceIte, imp, shift, killO, cond_true, cond_false, hasId, ne_eq, unown, names, plainR, below, noF, isF, lendObs, lendOb, kindOk, ren, givL, updM, backO, renO, belowM, seval, -Int.reduceToNat, B3, B4, B9, B21, B53, B5, B100, bunN, and63_32, and63_8, and31_8, and15_8, and7_8, min6_32, min12_32, min18_32, wrap8, wrap32, wrap64, Int.tdiv_eq_ediv_of_nonneg, Int.tmod_eq_emod_of_nonneg, Int.fdiv_eq_ediv_of_nonneg, or192, or224, or240, or128] | refine DR_q _ ?_ | (refine Fk.fk ?_ ?_ <;> intro hg <;> (try simp only [hg]) <;> (try simp only [bunB, ne_eq, rlen1, rlen2, rlen3, rlen4, rlen0] at hg) <;> try (exfalso; first | omega | exact Bool.noConfusion hg | exact hg trivial)) | refine And.intro (by omega) ?_ | omega
  refine LP_intro (fun x : Nat × List UInt8 => ⟨[(0, .sl l.length (l.map I32)), (5, I64 x.1), (4, .ref 0 0 x.2.length)], [.arr 5 1 (x.2.map U8)]⟩)
    (fun x => x.1 ≤ l.length ∧ x.2 = (l.take x.1).flatMap enc ∧ x.2.length ≤ 4 * x.1 ∧ (l.take x.1).all right = true) (fun x => l.length - x.1) (0, []) (by simp) (by simp [wk, wkT, wkM, noF, isF, get, belowT, belowM, below, belows, I64, I32, Bv, U8, Sv] <;> try omega) ?_
  rintro ⟨i, acc⟩ ⟨hi, ha, hn, hr⟩
  dsimp only at hi ha hn hr
  have hE := enc_le (l.getD i 0)
  repeat' first | refine WE_fit (rright_spec _) ?_ ?_ | refine WE_fit (bytes_spec _) ?_ ?_ | simp (maxSteps := 4000000) (disch := omega) only [bunL, bunD, bun, ↓WG_true, ↓WG_false, labelOf, findLabel, ↓reduceIte, imp, shift, killO, cond_true, cond_false, hasId, ne_eq, unown, names, plainR, below, noF, isF, lendObs, lendOb, kindOk, ren, givL, updM, backO, renO, belowM, seval, -Int.reduceToNat, B3, B4, B9, B21, B53, B5, B100, bunN, and63_32, and63_8, and31_8, and15_8, and7_8, min6_32, min12_32, min18_32, wrap8, wrap32, wrap64, Int.tdiv_eq_ediv_of_nonneg, Int.tmod_eq_emod_of_nonneg, Int.fdiv_eq_ediv_of_nonneg, or192, or224, or240, or128] | exact NK_no _ | refine NK_cl _ _ ?_ | exact Cln.cl | refine clean_tup _ ?_ | refine cleans_cons _ _ ?_ ?_ | refine DR_q _ ?_ | (refine Fk.fk ?_ ?_ <;> intro hg <;> (try simp only [hg]) <;> (try simp only [bunB, ne_eq, rlen1, rlen2, rlen3, rlen4, rlen0] at hg) <;> try (exfalso; first | omega | exact Bool.noConfusion hg | exact hg trivial)) | refine And.intro (by omega) ?_ | omega
  · rename_i hg
    have h := strOk_bad (by omega) hg
    simp [strS, h]
  · have hg' : right (l.getD i 0) = true := by assumption
    refine ⟨(i + 1, acc ++ enc (l.getD i 0)), str_step (by omega) ha hn hr hg', by dsimp only; omega, ?_⟩
    generalize l.getD i 0 = r at *
    (simp (disch := omega) [wk, wkT, wkM, noF, isF, get, belowT, belowM, below, belows, I64, I32, Bv, U8, Sv, ofI_toNat] <;> try omega)
  · have e : i = l.length := by omega
    subst e
    rw [List.take_length] at ha hr
    have h : strOk l = true := hr
    simp [strS, h, ha]
end Go.AE
end
section
/- Characters and their bytes: plain laws and contracts. -/
namespace Go.AE
open Go.Proofs
set_option maxRecDepth 10000
set_option linter.unusedSimpArgs false

def isCont (b : UInt8) : Bool := decide (128 ≤ b.toNat) && decide (b.toNat < 192)
def foldB (r : Int) (bs : List UInt8) : Int := bs.foldl (fun r b => r * 64 + (b.toNat : Int) % 64) r
/-- The character that bytes begin with. -/
def one (s : List UInt8) : Option (Int × Nat) :=
  match s with
  | [] => none
  | c :: t =>
    if (lead c.toNat).1 < 0 ∨ (t.length : Int) < (lead c.toNat).1 then none
    else if (t.take (lead c.toNat).1.toNat).all isCont = true ∧ rlen (foldB (lead c.toNat).2 (t.take (lead c.toNat).1.toNat)) = (lead c.toNat).1 + 1 then
      some (foldB (lead c.toNat).2 (t.take (lead c.toNat).1.toNat), (lead c.toNat).1.toNat + 1)
    else none

def runesN (o : Option (Int × Nat)) (a : Int) (s : List UInt8) (R : Int → List UInt8 → List Int × Int) : List Int × Int :=
  match o with
  | none => ([], a)
  | some (r, k) => (r :: (R (a + k) (s.drop k)).1, (R (a + k) (s.drop k)).2)
def runesF : Nat → Int → List UInt8 → List Int × Int
  | 0, _, _ => ([], -1)
  | f + 1, a, s => if s.isEmpty then ([], -1) else runesN (one s) a s (runesF f)

def runes (s : List UInt8) : List Int × Int := runesF (s.length + 1) 0 s

theorem lead_or (c : Int) : (lead c).1 = -1 ∨ (lead c).1 = 0 ∨ (lead c).1 = 1 ∨ (lead c).1 = 2 ∨ (lead c).1 = 3 := by
  unfold lead; repeat' split
  all_goals simp
theorem lead_snd {c : Int} (h : 0 ≤ c) : 0 ≤ (lead c).2 ∧ (lead c).2 < 128 := by
  unfold lead; repeat' split
  all_goals (dsimp only; omega)
theorem foldB_snoc (r : Int) (bs : List UInt8) (b : UInt8) : foldB r (bs ++ [b]) = foldB r bs * 64 + (b.toNat : Int) % 64 := by
  simp [foldB]
theorem foldB_bound (bs : List UInt8) : ∀ {r : Int}, 0 ≤ r → 0 ≤ foldB r bs ∧ foldB r bs < (r + 1) * 64 ^ bs.length := by
  induction bs with
  | nil => intro r h; simp [foldB]; omega
  | cons b bs ih =>
    intro r h
    have := ih (r := r * 64 + (b.toNat : Int) % 64) (by omega)
    have e : foldB r (b :: bs) = foldB (r * 64 + (b.toNat : Int) % 64) bs := rfl
    rw [e]
    refine ⟨this.1, Int.lt_of_lt_of_le this.2 ?_⟩
    rw [List.length_cons, Int.pow_succ, Int.mul_comm (64 ^ bs.length) 64, ← Int.mul_assoc]
    exact Int.mul_le_mul_of_nonneg_right (by omega) (Int.le_of_lt (Int.pow_pos (by decide)))
theorem foldB_small {r : Int} (h : 0 ≤ r) (k : r < 128) {bs : List UInt8} (hl : bs.length ≤ 3) : 0 ≤ foldB r bs ∧ foldB r bs < 33554432 := by
  have h1 := foldB_bound bs h
  refine ⟨h1.1, Int.lt_of_lt_of_le h1.2 ?_⟩
  have : bs.length = 0 ∨ bs.length = 1 ∨ bs.length = 2 ∨ bs.length = 3 := by omega
  rcases this with e | e | e | e <;> rw [e] <;> simp <;> omega
theorem foldB_small2 {r : Int} (h : 0 ≤ r) (k : r < 128) {bs : List UInt8} (hl : bs.length ≤ 2) : 0 ≤ foldB r bs ∧ foldB r bs < 16777216 := by
  have h1 := foldB_bound bs h
  refine ⟨h1.1, Int.lt_of_lt_of_le h1.2 ?_⟩
  have : bs.length = 0 ∨ bs.length = 1 ∨ bs.length = 2 := by omega
  rcases this with e | e | e <;> rw [e] <;> simp <;> omega

theorem one_none {s : List UInt8} (h : 0 < s.length) (hc : (lead (s.getD 0 0).toNat).1 < 0 ∨ (s.length : Int) ≤ (lead (s.getD 0 0).toNat).1) : one s = none := by
  cases s with
  | nil => simp at h
  | cons c t =>
    simp only [List.getD_cons_zero, List.length_cons] at hc
    simp only [one]
    rw [if_pos (by omega)]
theorem one_bad {s : List UInt8} {j : Nat} (h : 0 < s.length) (hj : (j : Int) < (lead (s.getD 0 0).toNat).1) (hb : isCont (s.getD (j + 1) 0) = false) : one s = none := by
  cases s with
  | nil => simp at h
  | cons c t =>
    simp only [List.getD_cons_zero, List.getD_cons_succ] at hj hb
    simp only [one]
    split
    · rfl
    · rename_i hn
      rw [if_neg]
      intro h2
      have h3 := List.all_eq_true.1 h2.1 (t.getD j 0) (by
        have : j < t.length := by omega
        rw [List.mem_take_iff_getElem]
        exact ⟨j, by omega, by simp [List.getD, this]⟩)
      rw [h3] at hb
      simp at hb
theorem one_last {s : List UInt8} {n : Nat} (h : 0 < s.length) (hn : (lead (s.getD 0 0).toNat).1 = n) (hl : n < s.length) (ha : ((s.drop 1).take n).all isCont = true) :
    one s = if rlen (foldB (lead (s.getD 0 0).toNat).2 ((s.drop 1).take n)) = n + 1 then some (foldB (lead (s.getD 0 0).toNat).2 ((s.drop 1).take n), n + 1) else none := by
  cases s with
  | nil => simp at h
  | cons c t =>
    simp only [List.getD_cons_zero, List.drop_succ_cons, List.drop_zero, List.length_cons] at *
    simp only [one, hn, Int.toNat_natCast, ha, true_and]
    rw [if_neg (by omega)]

theorem runesF_succ (f : Nat) (a : Int) (s : List UInt8) : runesF (f + 1) a s = if s.isEmpty then ([], -1) else runesN (one s) a s (runesF f) := rfl
theorem runesF_stop {f : Nat} {a : Int} {s : List UInt8} (hs : 0 < s.length) (h : one s = none) : runesF (f + 1) a s = ([], a) := by
  rw [runesF_succ, h, if_neg]
  · rfl
  · cases s <;> simp_all
theorem runesF_step {f : Nat} {a : Int} {s : List UInt8} {r : Int} {k : Nat} (hs : 0 < s.length) (h : one s = some (r, k)) : runesF (f + 1) a s = (r :: (runesF f (a + k) (s.drop k)).1, (runesF f (a + k) (s.drop k)).2) := by
  rw [runesF_succ, h, if_neg]
  · rfl
  · cases s <;> simp_all
theorem runesF_end (f : Nat) (a : Int) : runesF f a [] = ([], -1) := by cases f <;> rfl
theorem isCont_iff (b : UInt8) : isCont b = true ↔ (b.toNat : Int) - b.toNat % 64 = 128 := by
  simp [isCont]; omega
end Go.AE
end
section
/- Characters and their bytes: plain laws and contracts. -/
namespace Go.AE
open Go.Proofs
set_option maxRecDepth 10000
set_option linter.unusedSimpArgs false

theorem getD_drop (s : List UInt8) (a j : Nat) : (s.drop a).getD j 0 = s.getD (a + j) 0 := by simp [List.getD]
theorem runes_fin {s : List UInt8} {acc : List Int} {f : Nat} {a : Nat} {e : Int} (hr : runes s = (acc ++ (runesF f (↑a) (List.drop a s)).fst, (runesF f (↑a) (List.drop a s)).snd)) (h : runesF f a (s.drop a) = ([], e)) :
    AV.tup [AV.own 21 1 acc.length (List.map I32 acc), AV.v (Value.int IntKind.i64 e)] = AV.tup [AV.own 21 1 (runes s).fst.length (List.map I32 (runes s).fst), AV.v (Value.int IntKind.i64 (runes s).snd)] := by
  rw [hr, h]; simp

theorem utfRunes_spec (s : List UInt8) (hs : s.length ≤ 100000000) : Spec Tryz.prog 20 [Sv s] (.tup [.own 21 1 (runes s).1.length ((runes s).1.map I32), I64 (runes s).2]) := by
  refine spec_mk (z := false) (ts := [.tmp 2, .tmp 3]) ok1 Tryz.func20 rfl rfl (by decide +kernel) (by simp [Tryz.ntmps20]) rfl ?_
  repeat' first | simp (maxSteps := 4000000) (disch := omega) only [bunL, bunD, bun, ↓WG_true, ↓WG_false, labelOf, findLabel, ↓reduceIte, imp, shift, killO, cond_true, cond_false, hasId, ne_eq, unown, names, plainR, below, noF, isF, lendObs, lendOb, kindOk, ren, givL, updM, backO, renO, belowM, seval, -Int.reduceToNat, B3, B4, B5, B9, B21, B53, bunN, and63_32, and63_8, and31_8, and15_8, and7_8, min6_32, min12_32, min18_32, wrap8, wrap32, wrap64, Int.tdiv_eq_ediv_of_nonneg, Int.tmod_eq_emod_of_nonneg, Int.fdiv_eq_ediv_of_nonneg, or192, or224, or240, or128, or64_32, andnot63_8] | refine DR_q _ ?_ | (refine Fk.fk ?_ ?_ <;> intro hg <;> (try simp only [hg]) <;> (try simp only [bunB, ne_eq, rlen0] at hg) <;> try (exfalso; first | omega | exact Bool.noConfusion hg | exact hg trivial)) | refine And.intro (by omega) ?_ | omega
  refine LP_intro (fun x : Nat × Nat × List Int => ⟨[(0, Sv s), (7, I64 x.1), (4, .ref 1 0 x.2.2.length)], [.dead, .arr 21 1 (x.2.2.map I32)]⟩)
    (fun x => x.1 ≤ s.length ∧ s.length + 1 ≤ x.1 + x.2.1 ∧ x.2.2.length ≤ x.1 ∧ runes s = (x.2.2 ++ (runesF x.2.1 x.1 (s.drop x.1)).1, (runesF x.2.1 x.1 (s.drop x.1)).2)) (fun x => s.length - x.1) (0, s.length + 1, []) (by simp [runes]) (by simp [wk, wkT, wkM, noF, isF, get, belowT, belowM, below, belows, I64, I32, Bv, U8, Sv] <;> try omega) ?_
  rintro ⟨a, f, acc⟩ ⟨ha, hf, hn, hr⟩
  dsimp only at ha hf hn hr
  have hb := u8_lt (s.getD a 0)
  repeat' first | refine WE_fit (lead_spec _) ?_ ?_ | simp (maxSteps := 4000000) (disch := omega) only [bunL, bunD, bun, ↓WG_true, ↓WG_false, labelOf, findLabel, ↓reduceIte, imp, shift, killO, cond_true, cond_false, hasId, ne_eq, unown, names, plainR, below, noF, isF, lendObs, lendOb, kindOk, ren, givL, updM, backO, renO, belowM, seval, -Int.reduceToNat, B3, B4, B5, B9, B21, B53, bunN, and63_32, and63_8, and31_8, and15_8, and7_8, min6_32, min12_32, min18_32, wrap8, wrap32, wrap64, Int.tdiv_eq_ediv_of_nonneg, Int.tmod_eq_emod_of_nonneg, Int.fdiv_eq_ediv_of_nonneg, or192, or224, or240, or128, or64_32, andnot63_8] | exact NK_no _ | refine NK_cl _ _ ?_ | exact Cln.cl | refine clean_tup _ ?_ | refine cleans_cons _ _ ?_ ?_ | refine DR_q _ ?_ | (refine Fk.fk ?_ ?_ <;> intro hg <;> (try simp only [hg]) <;> (try simp only [bunB, ne_eq, rlen0] at hg) <;> try (exfalso; first | omega | exact Bool.noConfusion hg | exact hg trivial)) | refine And.intro (by omega) ?_ | omega
  · obtain ⟨f, rfl⟩ : ∃ g, f = g + 1 := ⟨f - 1, by omega⟩
    exact runes_fin hr (runesF_stop (by simp; omega) (one_none (by simp; omega) (by rw [getD_drop]; simp only [List.length_drop, Nat.add_zero]; omega)))
  · obtain ⟨f, rfl⟩ : ∃ g, f = g + 1 := ⟨f - 1, by omega⟩
    exact runes_fin hr (runesF_stop (by simp; omega) (one_none (by simp; omega) (by rw [getD_drop]; simp only [List.length_drop, Nat.add_zero]; omega)))
  · obtain ⟨f, rfl⟩ : ∃ g, f = g + 1 := ⟨f - 1, by omega⟩
    have hlo := lead_or (s.getD a 0).toNat
    have hls := lead_snd (c := (s.getD a 0).toNat) (by omega)
    obtain ⟨n, hn0⟩ : ∃ n : Nat, (lead (s.getD a 0).toNat).1 = n := ⟨(lead (s.getD a 0).toNat).1.toNat, by omega⟩
    have g1 : (a : Int) < s.length := by omega
    have g2 : (n : Int) < s.length - a := by omega
    have g3 : (n : Int) ≤ 3 := by omega
    have hg0 : (s.drop a).getD 0 0 = s.getD a 0 := by rw [getD_drop]; rfl
    have hdd : (s.drop a).drop 1 = s.drop (a + 1) := by rw [List.drop_drop]
    simp only [hn0]
    refine LP_intro (fun j : Nat => ⟨[(0, Sv s), (7, I64 a), (4, .ref 1 0 acc.length), (5, I64 n), (6, I32 (foldB (lead (s.getD a 0).toNat).2 ((s.drop (a + 1)).take j))), (8, I64 (a + 1 + j))], [.dead, .arr 21 1 (acc.map I32)]⟩)
      (fun j => j ≤ n ∧ ((s.drop (a + 1)).take j).all isCont = true) (fun j => n - j) 0 (by simp) (by simp [wk, wkT, wkM, noF, isF, get, belowT, belowM, below, belows, I64, I32, Bv, U8, Sv, foldB]) ?_
    rintro j ⟨hj, hc⟩
    have hT : ((a : Int) + 1 + j).toNat = a + 1 + j := by omega
    have hb1 := u8_lt (s.getD (a + 1 + j) 0)
    have hF : j < n → 0 ≤ foldB (lead (s.getD a 0).toNat).2 ((s.drop (a + 1)).take j) ∧ foldB (lead (s.getD a 0).toNat).2 ((s.drop (a + 1)).take j) < 16777216 := fun h => foldB_small2 hls.1 hls.2 (by simp; omega)
    repeat' first | refine WE_fit (len_spec _) ?_ ?_ | simp (maxSteps := 4000000) (disch := omega) only [bunL, bunD, bun, ↓WG_true, ↓WG_false, labelOf, findLabel, ↓reduceIte, imp, shift, killO, cond_true, cond_false, hasId, ne_eq, unown, names, plainR, below, noF, isF, lendObs, lendOb, kindOk, ren, givL, updM, backO, renO, belowM, seval, -Int.reduceToNat, hT, B3, B4, B5, B9, B21, B53, bunN, and63_32, and63_8, and31_8, and15_8, and7_8, min6_32, min12_32, min18_32, wrap8, wrap32, wrap64, Int.tdiv_eq_ediv_of_nonneg, Int.tmod_eq_emod_of_nonneg, Int.fdiv_eq_ediv_of_nonneg, or192, or224, or240, or128, or64_32, andnot63_8] | exact NK_no _ | refine NK_cl _ _ ?_ | exact Cln.cl | refine clean_tup _ ?_ | refine cleans_cons _ _ ?_ ?_ | refine DR_q _ ?_ | (refine Fk.fk ?_ ?_ <;> intro hg <;> (try simp only [hg]) <;> (try simp only [bunB, ne_eq, rlen0] at hg) <;> try (exfalso; first | omega | exact Bool.noConfusion hg | exact hg trivial)) | refine And.intro (by omega) ?_ | omega
    · rename_i hg
      refine runes_fin hr (runesF_stop (by simp; omega) (one_bad (j := j) (by simp; omega) (by rw [hg0, hn0]; omega) ?_))
      rw [getD_drop, show a + (j + 1) = a + 1 + j by omega]
      exact Bool.eq_false_iff.2 fun h => hg ((isCont_iff _).1 h)
    · rename_i hg
      have e : (s.drop (a + 1)).take (j + 1) = (s.drop (a + 1)).take j ++ [s.getD (a + 1 + j) 0] := by rw [take_snocD _ _ 0 (by simp; omega), getD_drop]
      refine ⟨j + 1, ⟨by omega, ?_⟩, by omega, ?_⟩
      · rw [e, List.all_append, hc]; simp only [List.all_cons, List.all_nil, (isCont_iff _).2 hg]; rfl
      · rw [e, foldB_snoc]
        generalize s.getD (a + 1 + j) 0 = c at *
        generalize foldB (lead (s.getD a 0).toNat).2 ((s.drop (a + 1)).take j) = r at *
        (simp (disch := omega) [wk, wkT, wkM, noF, isF, get, belowT, belowM, below, belows, I64, I32, Bv, U8, Sv, hn] <;> try omega)
    · rename_i hg
      have e : j = n := by omega
      subst e
      refine runes_fin hr (runesF_stop (by simp; omega) ?_)
      rw [one_last (n := j) (by simp; omega) (by rw [hg0, hn0]) (by simp; omega) (by rw [hdd]; exact hc), hg0, hdd, if_neg hg]
    · rename_i hg
      have e : j = n := by omega
      subst e
      have h1 := one_last (s := s.drop a) (n := j) (by simp; omega) (by rw [hg0, hn0]) (by simp; omega) (by rw [hdd]; exact hc)
      rw [hg0, hdd, if_pos hg] at h1
      have h2 := runesF_step (f := f) (a := (a : Int)) (by simp; omega) h1
      rw [List.drop_drop] at h2
      refine ⟨(a + (j + 1), f, acc ++ [foldB (lead (s.getD a 0).toNat).2 ((s.drop (a + 1)).take j)]), ⟨by dsimp only; omega, by dsimp only; omega, by simp; omega, ?_⟩, by dsimp only; omega, ?_⟩
      · rw [hr, h2]
        simp [Int.add_assoc]
      · generalize foldB (lead (s.getD a 0).toNat).2 ((s.drop (a + 1)).take j) = r at *
        (simp (disch := omega) [wk, wkT, wkM, noF, isF, get, belowT, belowM, below, belows, I64, I32, Bv, U8, Sv, hn] <;> try omega)
  · have : s.drop a = [] := List.drop_of_length_le (by omega)
    exact runes_fin hr (by rw [this, runesF_end])
end Go.AE
end
section
/- Characters and their bytes: plain laws and contracts. -/
namespace Go.AE
open Go.Proofs
set_option maxRecDepth 10000
set_option linter.unusedSimpArgs false

theorem ofI_self (c : UInt8) : ofI (c.toNat : Int) = c := by simp [ofI]
theorem ofI_eq {n : Int} {c : UInt8} (h : n = c.toNat) : ofI n = c := by rw [h, ofI_self]

def dec (m : Nat) (s : List UInt8) : Int :=
  if m = 2 then ((s.getD 0 0).toNat : Int) % 32 * 64 + ((s.getD 1 0).toNat : Int) % 64
  else if m = 3 then ((s.getD 0 0).toNat : Int) % 16 * 4096 + ((s.getD 1 0).toNat : Int) % 64 * 64 + ((s.getD 2 0).toNat : Int) % 64
  else if m = 4 then ((s.getD 0 0).toNat : Int) % 8 * 262144 + ((s.getD 1 0).toNat : Int) % 64 * 4096 + ((s.getD 2 0).toNat : Int) % 64 * 64 + ((s.getD 3 0).toNat : Int) % 64
  else ((s.getD 0 0).toNat : Int)

theorem lead_inv {c : Int} {n : Nat} (h : (lead c).1 = n) : (n = 0 ∧ c < 128 ∧ (lead c).2 = c) ∨ (n = 1 ∧ 194 ≤ c ∧ c < 224 ∧ (lead c).2 = c % 32) ∨ (n = 2 ∧ 224 ≤ c ∧ c < 240 ∧ (lead c).2 = c % 16) ∨ (n = 3 ∧ 240 ≤ c ∧ c < 245 ∧ (lead c).2 = c % 8) := by
  unfold lead at h ⊢
  repeat' (split at h)
  all_goals (simp at h; try omega)
  all_goals (simp (disch := omega) only [if_pos, if_neg]; simp; omega)

theorem one_some {s : List UInt8} {r : Int} {k : Nat} (h : one s = some (r, k)) : rlen r = k ∧ enc r = s.take k ∧ k ≤ s.length ∧ 0 < k := by
  cases s with
  | nil => simp [one] at h
  | cons c t =>
    simp only [one] at h
    split at h
    · simp at h
    · rename_i h0
      split at h
      · rename_i h1
        obtain ⟨n, hn⟩ : ∃ n : Nat, (lead c.toNat).1 = n := ⟨(lead c.toNat).1.toNat, by omega⟩
        rw [hn] at h0 h1 h
        simp only [Int.toNat_natCast, Option.some.injEq, Prod.mk.injEq] at h h1
        obtain ⟨h2, h3⟩ := h
        obtain ⟨hc, hl⟩ := h1
        have hlt := u8_lt c
        rw [h2] at hl
        subst h3
        refine ⟨by omega, ?_, by simp; omega, by omega⟩
        rcases lead_inv hn with ⟨e, h4, h5⟩ | ⟨e, h4, h6, h5⟩ | ⟨e, h4, h6, h5⟩ | ⟨e, h4, h6, h5⟩
        · subst e
          rw [h5] at h2
          simp [foldB] at h2
          rw [enc1 (by omega), ← h2, ofI_self]; rfl
        · subst e
          match t, hc, h2, h0 with
          | b1 :: t, hc, h2, h0 =>
            have hb := u8_lt b1
            simp [isCont] at hc
            rw [h5] at h2
            simp [foldB] at h2
            rw [enc2 ((rlen2 r).1 (by omega)), ofI_eq (c := c) (by omega), ofI_eq (c := b1) (by omega)]; rfl
          | [], _, _, h0 => simp at h0; try omega
        · subst e
          match t, hc, h2, h0 with
          | b1 :: b2 :: t, hc, h2, h0 =>
            have hb := u8_lt b1
            have hb := u8_lt b2
            simp [isCont] at hc
            rw [h5] at h2
            simp [foldB] at h2
            rw [enc3 ((rlen3 r).1 (by omega)), ofI_eq (c := c) (by omega), ofI_eq (c := b1) (by omega), ofI_eq (c := b2) (by omega)]; rfl
          | [], _, _, h0 => simp at h0; try omega
          | [_], _, _, h0 => simp at h0; try omega
        · subst e
          match t, hc, h2, h0 with
          | b1 :: b2 :: b3 :: t, hc, h2, h0 =>
            have hb := u8_lt b1
            have hb := u8_lt b2
            have hb := u8_lt b3
            simp [isCont] at hc
            rw [h5] at h2
            simp [foldB] at h2
            rw [enc4 ((rlen4 r).1 (by omega)), ofI_eq (c := c) (by omega), ofI_eq (c := b1) (by omega), ofI_eq (c := b2) (by omega), ofI_eq (c := b3) (by omega)]; rfl
          | [], _, _, h0 => simp at h0; try omega
          | [_], _, _, h0 => simp at h0; try omega
          | [_, _], _, _, h0 => simp at h0; try omega
      · simp at h

theorem one_mk {c : UInt8} {t : List UInt8} {r : Int} {n : Nat} (h1 : (lead c.toNat).1 = n) (h2 : n ≤ t.length) (h3 : (t.take n).all isCont = true) (h4 : foldB (lead c.toNat).2 (t.take n) = r) (h5 : rlen r = n + 1) : one (c :: t) = some (r, n + 1) := by
  have := one_last (s := c :: t) (n := n) (by simp) h1 (by simp; omega) h3
  rw [this, if_pos]
  · simp only [List.getD_cons_zero, List.drop_succ_cons, List.drop_zero, h4]
  · simp only [List.getD_cons_zero, List.drop_succ_cons, List.drop_zero, h4, h5]

theorem isCont_ofI {n : Int} (h : 128 ≤ n) (k : n < 192) : isCont (ofI n) = true := by
  have := ofI_toNat (n := n) (by omega) (by omega)
  simp [isCont]; omega

theorem one_enc {r : Int} (h : right r = true) (t : List UInt8) : one (enc r ++ t) = some (r, (enc r).length) := by
  rcases rlen_or r with hr | hr | hr | hr | hr
  · rw [(rlen0 r).1 hr] at h; simp at h
  · have hb := (rlen1 r).1 hr
    rw [enc1 hb]; simp only [List.cons_append, List.nil_append]
    refine one_mk (n := 0) ?_ (by simp) (by simp) ?_ (by omega) <;> rw [ofI_toNat (by omega) (by omega)]
    · simp (disch := omega) only [lead, if_pos]; rfl
    · simp (disch := omega) only [lead, if_pos]; rfl
  · have hb := (rlen2 r).1 hr
    rw [enc2 hb]; simp only [List.cons_append, List.nil_append]
    refine one_mk (n := 1) ?_ (by simp) ?_ ?_ (by omega)
    · rw [ofI_toNat (by omega) (by omega)]; simp (disch := omega) only [lead, if_pos, if_neg]; rfl
    · simp only [List.nil_append, List.cons_append, List.take_succ_cons, List.take_zero, List.all_cons, List.all_nil]
      rw [isCont_ofI (by omega) (by omega)]; rfl
    · rw [ofI_toNat (by omega) (by omega)]
      simp (disch := omega) only [lead, if_pos, if_neg, List.nil_append, List.cons_append, List.take_succ_cons, List.take_zero, foldB, List.foldl_cons, List.foldl_nil, ofI_toNat]
      omega
  · have hb := (rlen3 r).1 hr
    rw [enc3 hb]; simp only [List.cons_append, List.nil_append]
    refine one_mk (n := 2) ?_ (by simp) ?_ ?_ (by omega)
    · rw [ofI_toNat (by omega) (by omega)]; simp (disch := omega) only [lead, if_pos, if_neg]; rfl
    · simp only [List.nil_append, List.cons_append, List.take_succ_cons, List.take_zero, List.all_cons, List.all_nil]
      rw [isCont_ofI (by omega) (by omega), isCont_ofI (by omega) (by omega)]; rfl
    · rw [ofI_toNat (by omega) (by omega)]
      simp (disch := omega) only [lead, if_pos, if_neg, List.nil_append, List.cons_append, List.take_succ_cons, List.take_zero, foldB, List.foldl_cons, List.foldl_nil, ofI_toNat]
      omega
  · have hb := (rlen4 r).1 hr
    rw [enc4 hb]; simp only [List.cons_append, List.nil_append]
    refine one_mk (n := 3) ?_ (by simp) ?_ ?_ (by omega)
    · rw [ofI_toNat (by omega) (by omega)]; simp (disch := omega) only [lead, if_pos, if_neg]; rfl
    · simp only [List.nil_append, List.cons_append, List.take_succ_cons, List.take_zero, List.all_cons, List.all_nil]
      rw [isCont_ofI (by omega) (by omega), isCont_ofI (by omega) (by omega), isCont_ofI (by omega) (by omega)]; rfl
    · rw [ofI_toNat (by omega) (by omega)]
      simp (disch := omega) only [lead, if_pos, if_neg, List.nil_append, List.cons_append, List.take_succ_cons, List.take_zero, foldB, List.foldl_cons, List.foldl_nil, ofI_toNat]
      omega

theorem dec2 (s : List UInt8) : dec 2 s = ((s.getD 0 0).toNat : Int) % 32 * 64 + ((s.getD 1 0).toNat : Int) % 64 := rfl
theorem dec3 (s : List UInt8) : dec 3 s = ((s.getD 0 0).toNat : Int) % 16 * 4096 + ((s.getD 1 0).toNat : Int) % 64 * 64 + ((s.getD 2 0).toNat : Int) % 64 := rfl
theorem dec4 (s : List UInt8) : dec 4 s = ((s.getD 0 0).toNat : Int) % 8 * 262144 + ((s.getD 1 0).toNat : Int) % 64 * 4096 + ((s.getD 2 0).toNat : Int) % 64 * 64 + ((s.getD 3 0).toNat : Int) % 64 := rfl
theorem dec1 (s : List UInt8) : dec 1 s = ((s.getD 0 0).toNat : Int) := rfl
theorem dec_enc {r : Int} (h : right r = true) (t : List UInt8) : dec (rlen r).toNat (enc r ++ t) = r := by
  rcases rlen_or r with hr | hr | hr | hr | hr
  · rw [(rlen0 r).1 hr] at h; simp at h
  · have hb := (rlen1 r).1 hr
    rw [enc1 hb, hr, show (1 : Int).toNat = 1 from rfl, dec1]
    simp (disch := omega) only [ofI_toNat, List.cons_append, List.nil_append, List.getD_cons_zero, List.getD_cons_succ]
  · have hb := (rlen2 r).1 hr
    rw [enc2 hb, hr, show (2 : Int).toNat = 2 from rfl, dec2]
    simp (disch := omega) only [ofI_toNat, List.cons_append, List.nil_append, List.getD_cons_zero, List.getD_cons_succ]
    omega
  · have hb := (rlen3 r).1 hr
    rw [enc3 hb, hr, show (3 : Int).toNat = 3 from rfl, dec3]
    simp (disch := omega) only [ofI_toNat, List.cons_append, List.nil_append, List.getD_cons_zero, List.getD_cons_succ]
    omega
  · have hb := (rlen4 r).1 hr
    rw [enc4 hb, hr, show (4 : Int).toNat = 4 from rfl, dec4]
    simp (disch := omega) only [ofI_toNat, List.cons_append, List.nil_append, List.getD_cons_zero, List.getD_cons_succ]
    omega
theorem one_of {s : List UInt8} {n : Nat} (hn : rlen (dec n s) = n) (h0 : 0 < n) (he : enc (dec n s) = s.take n) : one s = some (dec n s, n) := by
  have hr : right (dec n s) = true := by
    cases h : right (dec n s) with
    | true => rfl
    | false => have := (rlen0 _).2 h; omega
  have hl := enc_length (dec n s)
  have := one_enc hr (s.drop n)
  rw [he, List.take_append_drop] at this
  rw [this, ← he]
  congr 2
  omega
theorem one_not {s : List UInt8} (h : ∀ n, 0 < n → n ≤ 4 → n ≤ s.length → ¬ (rlen (dec n s) = n ∧ enc (dec n s) = s.take n)) : one s = none := by
  cases ho : one s with
  | none => rfl
  | some p =>
    obtain ⟨r, k⟩ := p
    obtain ⟨h1, h2, h3, h4⟩ := one_some ho
    exfalso
    have hr : right r = true := by
      cases h : right r with
      | true => rfl
      | false => have := (rlen0 _).2 h; omega
    have h5 := dec_enc hr (s.drop k)
    rw [h2, List.take_append_drop, h1, Int.toNat_natCast] at h5
    refine h k h4 ?_ h3 ?_
    · have := rlen_or r; omega
    · rw [h5]; exact ⟨h1, h2⟩
end Go.AE
end
section
/- Characters and their bytes: plain laws and contracts. -/
namespace Go.AE
open Go.Proofs
set_option maxRecDepth 10000
set_option linter.unusedSimpArgs false

theorem one_hit {s : List UInt8} {n : Nat} {x : Int} (hd : dec n s = x) (h1 : rlen x = n) (h2 : enc x = s.take n) (h0 : 1 ≤ n) :
    AV.tup [.v (.int .i32 x), .v (.int .i64 n)] = AV.tup [.v (.int .i32 ((one s).getD (0, 0)).1), .v (.int .i64 ((one s).getD (0, 0)).2)] := by
  subst hd
  rw [one_of h1 (by omega) h2]; rfl
theorem one_miss {s : List UInt8} {n : Nat} (hall : ∀ m : Nat, 0 < m → m < n → ¬ (rlen (dec m s) = m ∧ enc (dec m s) = s.take m)) (h : ¬ (rlen (dec n s) = n ∧ enc (dec n s) = s.take n)) :
    ∀ m : Nat, 0 < m → m < n + 1 → ¬ (rlen (dec m s) = m ∧ enc (dec m s) = s.take m) := by
  intro m h0 h1
  by_cases e : m = n
  · subst e; exact h
  · exact hall m h0 (by omega)
theorem one_miss_r {s : List UInt8} {n : Nat} {x : Int} (hb : ¬ rlen x = n) (hall : ∀ m : Nat, 0 < m → m < n → ¬ (rlen (dec m s) = m ∧ enc (dec m s) = s.take m)) (hd : dec n s = x) :
    ∀ m : Nat, 0 < m → m < n + 1 → ¬ (rlen (dec m s) = m ∧ enc (dec m s) = s.take m) := one_miss hall (by rw [hd]; exact fun h => hb h.1)
theorem one_miss_e {s : List UInt8} {n : Nat} {x : Int} (hb : ¬ enc x = s.take n) (hall : ∀ m : Nat, 0 < m → m < n → ¬ (rlen (dec m s) = m ∧ enc (dec m s) = s.take m)) (hd : dec n s = x) :
    ∀ m : Nat, 0 < m → m < n + 1 → ¬ (rlen (dec m s) = m ∧ enc (dec m s) = s.take m) := one_miss hall (by rw [hd]; exact fun h => hb h.2)

theorem refOne_spec (s : List UInt8) (hs : s.length ≤ 100000000) : Spec Tryz.prog 63 [Sv s] (.tup [I32 ((one s).getD (0, 0)).1, I64 ((one s).getD (0, 0)).2]) := by
  refine spec_mk (z := false) (ts := [.tmp 2, .tmp 3]) ok1 Tryz.func63 rfl rfl (by decide +kernel) (by simp [Tryz.ntmps63]) rfl ?_
  repeat' first | simp (maxSteps := 4000000) (disch := omega) only [bunL, bunD, bun, ↓WG_true, ↓WG_false, labelOf, findLabel, ↓reduceIte, imp, shift, killO, cond_true, cond_false, hasId, ne_eq, unown, names, plainR, below, noF, isF, lendObs, lendOb, kindOk, ren, givL, updM, backO, renO, belowM, seval, -Int.reduceToNat, B3, B4, B9, B21, B5, B100, bunN, and63_32, and63_8, and31_8, and15_8, and7_8, min6_32, min12_32, min18_32, wrap8, wrap32, wrap64, Int.tdiv_eq_ediv_of_nonneg, Int.tmod_eq_emod_of_nonneg, Int.fdiv_eq_ediv_of_nonneg, or192, or224, or240, or128, or64_32, andnot63_8] | refine DR_q _ ?_ | (refine Fk.fk ?_ ?_ <;> intro hg <;> (try simp only [hg]) <;> (try simp only [bunB, ne_eq, rlen0] at hg) <;> try (exfalso; first | omega | exact Bool.noConfusion hg | exact hg trivial)) | refine And.intro (by omega) ?_ | omega
  refine LP_intro (fun n : Nat => ⟨[(0, Sv s), (4, I64 n)], []⟩) (fun n => 1 ≤ n ∧ n ≤ 5 ∧ ∀ m, 0 < m → m < n → ¬ (rlen (dec m s) = m ∧ enc (dec m s) = s.take m)) (fun n => 5 - n) 1 (by simp; intro m h1 h2; omega) (by simp [wk, wkT, wkM, noF, isF, get, belowT, belowM, below, belows, I64, I32, Bv, U8, Sv] <;> try omega) ?_
  rintro n ⟨hn1, hn, hall⟩
  have hb0 := u8_lt (s.getD 0 0)
  have hb1 := u8_lt (s.getD 1 0)
  have hb2 := u8_lt (s.getD 2 0)
  have hb3 := u8_lt (s.getD 3 0)
  repeat' first | refine WE_fit (rlen_spec _) ?_ ?_ | refine WE_fit (bytes_spec _) ?_ ?_ | simp (maxSteps := 4000000) (disch := omega) only [bunL, bunD, bun, ↓WG_true, ↓WG_false, labelOf, findLabel, ↓reduceIte, imp, shift, killO, cond_true, cond_false, hasId, ne_eq, unown, names, plainR, below, noF, isF, lendObs, lendOb, kindOk, ren, givL, updM, backO, renO, belowM, seval, -Int.reduceToNat, Int.reduceToNat, B3, B4, B9, B21, B5, B100, bunN, and63_32, and63_8, and31_8, and15_8, and7_8, min6_32, min12_32, min18_32, wrap8, wrap32, wrap64, Int.tdiv_eq_ediv_of_nonneg, Int.tmod_eq_emod_of_nonneg, Int.fdiv_eq_ediv_of_nonneg, or192, or224, or240, or128, or64_32, andnot63_8] | exact NK_no _ | refine NK_cl _ _ ?_ | exact Cln.cl | refine clean_tup _ ?_ | refine cleans_cons _ _ ?_ ?_ | refine DR_q _ ?_ | (refine Fk.fk ?_ ?_ <;> intro hg <;> (try simp only [hg]) <;> (try simp only [bunB, ne_eq, rlen0] at hg) <;> try (exfalso; first | omega | exact Bool.noConfusion hg | exact hg trivial)) | refine And.intro (by omega) ?_ | omega
  all_goals first
    | exact one_hit (by first | ((have e : n = 2 := by omega); subst e; rfl) | ((have e : n = 3 := by omega); subst e; rfl) | ((have e : n = 4 := by omega); subst e; rfl) | ((have e : n = 1 := by omega); subst e; rfl)) (by assumption) (by assumption) (by omega)
    | exact ⟨n + 1, ⟨by omega, by omega, one_miss_r hg hall (by first | ((have e : n = 2 := by omega); subst e; rfl) | ((have e : n = 3 := by omega); subst e; rfl) | ((have e : n = 4 := by omega); subst e; rfl) | ((have e : n = 1 := by omega); subst e; rfl))⟩, by omega, (by simp [wk, wkT, wkM, noF, isF, get, belowT, belowM, below, belows, I64, I32, Bv, U8, Sv] <;> try omega)⟩
    | exact ⟨n + 1, ⟨by omega, by omega, one_miss_e hg hall (by first | ((have e : n = 2 := by omega); subst e; rfl) | ((have e : n = 3 := by omega); subst e; rfl) | ((have e : n = 4 := by omega); subst e; rfl) | ((have e : n = 1 := by omega); subst e; rfl))⟩, by omega, (by simp [wk, wkT, wkM, noF, isF, get, belowT, belowM, below, belows, I64, I32, Bv, U8, Sv] <;> try omega)⟩
    | (rw [one_not (s := s) (fun m h0 h1 h2 => hall m h0 (by omega))]; rfl)


theorem refRunes_spec (s : List UInt8) (hs : s.length ≤ 100000000) : Spec Tryz.prog 24 [Sv s] (.tup [.own 21 1 (runes s).1.length ((runes s).1.map I32), I64 (runes s).2]) := by
  refine spec_mk (z := false) (ts := [.tmp 2, .tmp 3]) ok1 Tryz.func24 rfl rfl (by decide +kernel) (by simp [Tryz.ntmps24]) rfl ?_
  repeat' first | simp (maxSteps := 4000000) (disch := omega) only [bunL, bunD, bun, ↓WG_true, ↓WG_false, labelOf, findLabel, ↓reduceIte, imp, shift, killO, cond_true, cond_false, hasId, ne_eq, unown, names, plainR, below, noF, isF, lendObs, lendOb, kindOk, ren, givL, updM, backO, renO, belowM, seval, -Int.reduceToNat, B3, B4, B9, B21, B53, bunN, and63_32, and63_8, and31_8, and15_8, and7_8, min6_32, min12_32, min18_32, wrap8, wrap32, wrap64, Int.tdiv_eq_ediv_of_nonneg, Int.tmod_eq_emod_of_nonneg, Int.fdiv_eq_ediv_of_nonneg, or192, or224, or240, or128, or64_32, andnot63_8] | refine DR_q _ ?_ | (refine Fk.fk ?_ ?_ <;> intro hg <;> (try simp only [hg]) <;> (try simp only [bunB, ne_eq, rlen0] at hg) <;> try (exfalso; first | omega | exact Bool.noConfusion hg | exact hg trivial)) | refine And.intro (by omega) ?_ | omega
  refine LP_intro (fun x : Nat × Nat × List Int => ⟨[(0, Sv s), (5, I64 x.1), (4, .ref 1 0 x.2.2.length)], [.dead, .arr 21 1 (x.2.2.map I32)]⟩)
    (fun x => x.1 ≤ s.length ∧ s.length + 1 ≤ x.1 + x.2.1 ∧ x.2.2.length ≤ x.1 ∧ runes s = (x.2.2 ++ (runesF x.2.1 x.1 (s.drop x.1)).1, (runesF x.2.1 x.1 (s.drop x.1)).2)) (fun x => s.length - x.1) (0, s.length + 1, []) (by simp [runes]) (by simp [wk, wkT, wkM, noF, isF, get, belowT, belowM, below, belows, I64, I32, Bv, U8, Sv] <;> try omega) ?_
  rintro ⟨a, f, acc⟩ ⟨ha, hf, hn, hr⟩
  dsimp only at ha hf hn hr
  have hone : one (s.drop a) = none ∨ ∃ r k, one (s.drop a) = some (r, k) ∧ rlen r = (k : Int) ∧ k ≤ s.length - a ∧ 0 < k := by
    cases ho : one (s.drop a) with
    | none => exact .inl rfl
    | some p => obtain ⟨h1, h2, h3, h4⟩ := one_some (r := p.1) (k := p.2) ho; exact .inr ⟨p.1, p.2, rfl, h1, by simpa using h3, h4⟩
  have hle : (s.drop a).length ≤ 100000000 := by simp; omega
  obtain ⟨f, rfl⟩ : ∃ g, f = g + 1 := ⟨f - 1, by omega⟩
  rcases hone with ho | ⟨r, k, ho, hk, hk1, hk0⟩
  · repeat' first | refine WE_fit (refOne_spec _ hle) ?_ ?_ | simp (maxSteps := 4000000) (disch := omega) only [bunL, bunD, bun, ↓WG_true, ↓WG_false, labelOf, findLabel, ↓reduceIte, imp, shift, killO, cond_true, cond_false, hasId, ne_eq, unown, names, plainR, below, noF, isF, lendObs, lendOb, kindOk, ren, givL, updM, backO, renO, belowM, seval, -Int.reduceToNat, ho, Option.getD_none, B3, B4, B9, B21, B53, bunN, and63_32, and63_8, and31_8, and15_8, and7_8, min6_32, min12_32, min18_32, wrap8, wrap32, wrap64, Int.tdiv_eq_ediv_of_nonneg, Int.tmod_eq_emod_of_nonneg, Int.fdiv_eq_ediv_of_nonneg, or192, or224, or240, or128, or64_32, andnot63_8] | exact NK_no _ | refine NK_cl _ _ ?_ | exact Cln.cl | refine clean_tup _ ?_ | refine cleans_cons _ _ ?_ ?_ | refine DR_q _ ?_ | (refine Fk.fk ?_ ?_ <;> intro hg <;> (try simp only [hg]) <;> (try simp only [bunB, ne_eq, rlen0] at hg) <;> try (exfalso; first | omega | exact Bool.noConfusion hg | exact hg trivial)) | refine And.intro (by omega) ?_ | omega
    · exact runes_fin hr (runesF_stop (by simp; omega) ho)
    · have : s.drop a = [] := List.drop_of_length_le (by omega)
      exact runes_fin hr (by rw [this, runesF_end])
  · repeat' first | refine WE_fit (refOne_spec _ hle) ?_ ?_ | simp (maxSteps := 4000000) (disch := omega) only [bunL, bunD, bun, ↓WG_true, ↓WG_false, labelOf, findLabel, ↓reduceIte, imp, shift, killO, cond_true, cond_false, hasId, ne_eq, unown, names, plainR, below, noF, isF, lendObs, lendOb, kindOk, ren, givL, updM, backO, renO, belowM, seval, -Int.reduceToNat, ho, B3, B4, B9, B21, B53, bunN, and63_32, and63_8, and31_8, and15_8, and7_8, min6_32, min12_32, min18_32, wrap8, wrap32, wrap64, Int.tdiv_eq_ediv_of_nonneg, Int.tmod_eq_emod_of_nonneg, Int.fdiv_eq_ediv_of_nonneg, or192, or224, or240, or128, or64_32, andnot63_8] | exact NK_no _ | refine NK_cl _ _ ?_ | exact Cln.cl | refine clean_tup _ ?_ | refine cleans_cons _ _ ?_ ?_ | refine DR_q _ ?_ | (refine Fk.fk ?_ ?_ <;> intro hg <;> (try simp only [hg]) <;> (try simp only [bunB, ne_eq, rlen0] at hg) <;> try (exfalso; first | omega | exact Bool.noConfusion hg | exact hg trivial)) | refine And.intro (by omega) ?_ | omega
    · have h2 := runesF_step (f := f) (a := (a : Int)) (by simp; omega) ho
      rw [List.drop_drop] at h2
      refine ⟨(a + k, f, acc ++ [r]), ⟨by dsimp only; omega, by dsimp only; omega, by simp; omega, ?_⟩, by dsimp only; omega, ?_⟩
      · rw [hr, h2]
        simp
      · (simp (disch := omega) [wk, wkT, wkM, noF, isF, get, belowT, belowM, below, belows, I64, I32, Bv, U8, Sv, hn] <;> try omega)

/-- The place of the first byte that is no ASCII. -/
def eightF : Nat → List UInt8 → Int
  | _, [] => -1
  | i, b :: l => if 128 ≤ b.toNat then i else eightF (i + 1) l
def eight (s : List UInt8) : Int := eightF 0 s
theorem eightF_hit {s : List UInt8} {i : Nat} (h : i < s.length) (hb : 128 ≤ (s.getD i 0).toNat) (ha : ∀ j, j < i → ¬ 128 ≤ (s.getD j 0).toNat) : eight s = i := by
  have key : ∀ (s : List UInt8) (i k : Nat), i < s.length → 128 ≤ (s.getD i 0).toNat → (∀ j, j < i → ¬ 128 ≤ (s.getD j 0).toNat) → eightF k s = (k + i : Nat) := by
    intro s
    induction s with
    | nil => intro i k h; simp at h
    | cons b l ih =>
      intro i k h hb ha
      cases i with
      | zero => simp only [eightF]; rw [if_pos (by simpa using hb)]; rfl
      | succ i =>
        simp only [eightF]
        rw [if_neg (by simpa using ha 0 (by omega)), ih i (k + 1) (by simpa using h) (by simpa using hb) (fun j hj => by simpa using ha (j + 1) (by omega))]
        congr 1; omega
  have := key s i 0 h hb ha
  simpa [eight] using this
theorem eightF_miss {s : List UInt8} (ha : ∀ j, j < s.length → ¬ 128 ≤ (s.getD j 0).toNat) : eight s = -1 := by
  have key : ∀ (s : List UInt8) (k : Nat), (∀ j, j < s.length → ¬ 128 ≤ (s.getD j 0).toNat) → eightF k s = -1 := by
    intro s
    induction s with
    | nil => intro k h; rfl
    | cons b l ih =>
      intro k ha
      simp only [eightF]
      rw [if_neg (by simpa using ha 0 (by simp)), ih (k + 1) (fun j hj => by simpa using ha (j + 1) (by simpa using hj))]
  exact key s 0 ha

theorem eight_next {s : List UInt8} {i : Nat} (ha : ∀ j, j < i → ¬ 128 ≤ (s.getD j 0).toNat) (h : ¬ 128 ≤ (s.getD i 0).toNat) : ∀ j, j < i + 1 → ¬ 128 ≤ (s.getD j 0).toNat := by
  intro j hj
  by_cases e : j = i
  · subst e; exact h
  · exact ha j (by omega)

theorem utfEight_spec (s : List UInt8) (hs : s.length ≤ 100000000) : Spec Tryz.prog 39 [Sv s] (I64 (eight s)) := by
  refine spec_mk (z := false) (ts := [.tmp 2]) ok1 Tryz.func39 rfl rfl (by decide +kernel) (by simp [Tryz.ntmps39]) rfl ?_
  repeat' first | simp (maxSteps := 4000000) (disch := omega) only [bunL, bunD, bun, ↓WG_true, ↓WG_false, labelOf, findLabel, ↓reduceIte, imp, shift, killO, cond_true, cond_false, hasId, ne_eq, unown, names, plainR, below, noF, isF, lendObs, lendOb, kindOk, ren, givL, updM, backO, renO, belowM, seval, -Int.reduceToNat, B3, B4, B5, B9, bunN, and63_32, and63_8, and31_8, and15_8, and7_8, min6_32, min12_32, min18_32, wrap8, wrap32, wrap64, Int.tdiv_eq_ediv_of_nonneg, Int.tmod_eq_emod_of_nonneg, Int.fdiv_eq_ediv_of_nonneg, or192, or224, or240, or128, or64_32, andnot63_8] | refine DR_q _ ?_ | (refine Fk.fk ?_ ?_ <;> intro hg <;> (try simp only [hg]) <;> (try simp only [bunB, ne_eq, rlen0] at hg) <;> try (exfalso; first | omega | exact Bool.noConfusion hg | exact hg trivial)) | refine And.intro (by omega) ?_ | omega
  refine LP_intro (fun i : Nat => ⟨[(0, Sv s), (4, Sv s), (5, I64 s.length), (6, I64 i)], []⟩) (fun i => i ≤ s.length ∧ ∀ j, j < i → ¬ 128 ≤ (s.getD j 0).toNat) (fun i => s.length - i) 0 (by simp) (by simp [wk, wkT, wkM, noF, isF, get, belowT, belowM, below, belows, I64, I32, Bv, U8, Sv] <;> try omega) ?_
  rintro i ⟨hi, ha⟩
  repeat' first | simp (maxSteps := 4000000) (disch := omega) only [bunL, bunD, bun, ↓WG_true, ↓WG_false, labelOf, findLabel, ↓reduceIte, imp, shift, killO, cond_true, cond_false, hasId, ne_eq, unown, names, plainR, below, noF, isF, lendObs, lendOb, kindOk, ren, givL, updM, backO, renO, belowM, seval, -Int.reduceToNat, B3, B4, B5, B9, bunN, and63_32, and63_8, and31_8, and15_8, and7_8, min6_32, min12_32, min18_32, wrap8, wrap32, wrap64, Int.tdiv_eq_ediv_of_nonneg, Int.tmod_eq_emod_of_nonneg, Int.fdiv_eq_ediv_of_nonneg, or192, or224, or240, or128, or64_32, andnot63_8] | refine DR_q _ ?_ | (refine Fk.fk ?_ ?_ <;> intro hg <;> (try simp only [hg]) <;> (try simp only [bunB, ne_eq, rlen0] at hg) <;> try (exfalso; first | omega | exact Bool.noConfusion hg | exact hg trivial)) | refine And.intro (by omega) ?_ | omega
  · rw [eightF_hit (by omega) (by omega) ha]
  · exact ⟨i + 1, ⟨by omega, eight_next ha (by omega)⟩, by omega, (by simp [wk, wkT, wkM, noF, isF, get, belowT, belowM, below, belows, I64, I32, Bv, U8, Sv] <;> try omega)⟩
  · rw [eightF_miss (fun j hj => ha j (by omega))]
end Go.AE
end
section
/- Characters and their bytes: plain laws and contracts. -/
namespace Go.AE
open Go.Proofs
set_option maxRecDepth 10000
set_option linter.unusedSimpArgs false

theorem runesF_len (f : Nat) : ∀ (a : Int) (s : List UInt8), (runesF f a s).1.length ≤ s.length := by
  induction f with
  | zero => intro a s; simp [runesF]
  | succ f ih =>
    intro a s
    rw [runesF_succ]
    split
    · simp
    · cases ho : one s with
      | none => simp [runesN]
      | some p =>
        obtain ⟨r, k⟩ := p
        obtain ⟨h1, h2, h3, h4⟩ := one_some ho
        have := ih (a + k) (s.drop k)
        simp only [List.length_drop] at this
        simp only [runesN, List.length_cons]
        omega
theorem runes_len (s : List UInt8) : (runes s).1.length ≤ s.length := runesF_len _ _ _

end Go.AE
end
/- Stable order by a key: it is told by its members of each key, and so has but one. -/
namespace Go.AE

/-- In order of a key. -/
def Up (f : Int → Int) : List Int → Prop
  | [] => True
  | x :: l => (∀ y ∈ l, f x ≤ f y) ∧ Up f l

theorem Up.append {f : Int → Int} : ∀ {A B : List Int}, Up f (A ++ B) ↔ Up f A ∧ Up f B ∧ ∀ x ∈ A, ∀ y ∈ B, f x ≤ f y
  | [], B => by simp [Up]
  | a :: A, B => by
    simp only [List.cons_append, Up, Up.append (A := A), List.mem_append, List.mem_cons]
    constructor
    · rintro ⟨h1, h2, h3, h4⟩
      refine ⟨⟨fun y hy => h1 y (.inl hy), h2⟩, h3, ?_⟩
      rintro x (rfl | hx) y hy
      · exact h1 y (.inr hy)
      · exact h4 x hx y hy
    · rintro ⟨⟨h1, h2⟩, h3, h4⟩
      refine ⟨?_, h2, h3, fun x hx => h4 x (.inr hx)⟩
      rintro y (hy | hy)
      · exact h1 y hy
      · exact h4 a (.inl rfl) y hy

def Kin (f : Int → Int) (A B : List Int) : Prop := ∀ c, A.filter (fun x => f x == c) = B.filter (fun x => f x == c)
theorem Kin.refl (f : Int → Int) (A : List Int) : Kin f A A := fun _ => rfl
theorem Kin.symm {f : Int → Int} {A B : List Int} (h : Kin f A B) : Kin f B A := fun c => (h c).symm
theorem Kin.trans {f : Int → Int} {A B C : List Int} (h : Kin f A B) (k : Kin f B C) : Kin f A C := fun c => (h c).trans (k c)
theorem Kin.app {f : Int → Int} {A B C D : List Int} (h : Kin f A B) (k : Kin f C D) : Kin f (A ++ C) (B ++ D) := fun c => by rw [List.filter_append, List.filter_append, h c, k c]
theorem Kin.mem {f : Int → Int} {A B : List Int} (h : Kin f A B) {x : Int} : x ∈ A ↔ x ∈ B := by
  have h1 := h (f x)
  constructor
  · intro hx
    have : x ∈ A.filter (fun y => f y == f x) := List.mem_filter.2 ⟨hx, by simp⟩
    rw [h1] at this
    exact (List.mem_filter.1 this).1
  · intro hx
    have : x ∈ B.filter (fun y => f y == f x) := List.mem_filter.2 ⟨hx, by simp⟩
    rw [← h1] at this
    exact (List.mem_filter.1 this).1
/-- Two parts of which no key is shared may be turned. -/
theorem Kin.turn {f : Int → Int} {A B : List Int} (h : ∀ x ∈ A, ∀ y ∈ B, f x ≠ f y) : Kin f (A ++ B) (B ++ A) := fun c => by
  rw [List.filter_append, List.filter_append]
  by_cases hA : A.filter (fun x => f x == c) = []
  · rw [hA]; simp
  · obtain ⟨x, hx⟩ := List.exists_mem_of_ne_nil _ hA
    have hx := List.mem_filter.1 hx
    have : B.filter (fun x => f x == c) = [] := List.filter_eq_nil_iff.2 fun y hy hc => by
      have h1 : f x = c := by simpa using hx.2
      have h2 : f y = c := by simpa using hc
      exact h x hx.1 y hy (by omega)
    rw [this]; simp

theorem up_ext {f : Int → Int} : ∀ {A B : List Int}, Up f A → Up f B → Kin f A B → A = B
  | [], [], _, _, _ => rfl
  | [], b :: B, _, _, h => by have := (h.mem (x := b)).2 (by simp); simp at this
  | a :: A, [], _, _, h => by have := (h.mem (x := a)).1 (by simp); simp at this
  | a :: A, b :: B, h1, h2, h => by
    have hab : f b ≤ f a := by
      rcases List.mem_cons.1 ((h.mem (x := a)).1 (by simp)) with e | hm
      · rw [e]; exact Int.le_refl _
      · exact h2.1 a hm
    have hba : f a ≤ f b := by
      rcases List.mem_cons.1 ((h.mem (x := b)).2 (by simp)) with e | hm
      · rw [e]; exact Int.le_refl _
      · exact h1.1 b hm
    have e : f a = f b := by omega
    have hh := h (f a)
    rw [List.filter_cons, if_pos (by simp), List.filter_cons, if_pos (by simp [e])] at hh
    have hh := (List.cons.inj hh).1
    subst hh
    have : Kin f A B := fun c => by
      have := h c
      rw [List.filter_cons, List.filter_cons] at this
      split at this
      · exact (List.cons.inj this).2
      · exact this
    rw [up_ext h1.2 h2.2 this]

/-- One put behind all that are not above it. -/
def insK (f : Int → Int) (W : List Int) (x : Int) : List Int := W.takeWhile (fun w => decide (f w ≤ f x)) ++ x :: W.dropWhile (fun w => decide (f w ≤ f x))
def ssort (f : Int → Int) (S : List Int) : List Int := S.foldl (insK f) []

theorem up_drop {f : Int → Int} {x : Int} : ∀ {W : List Int}, Up f W → ∀ w ∈ W.dropWhile (fun w => decide (f w ≤ f x)), f x < f w
  | [], _, w, hw => by simp at hw
  | a :: W, h, w, hw => by
    rw [List.dropWhile_cons] at hw
    split at hw
    · exact up_drop h.2 w hw
    · rename_i ha
      have ha : f x < f a := by simpa using ha
      rcases List.mem_cons.1 hw with rfl | hw
      · exact ha
      · have := h.1 w hw; omega

theorem put_up {f : Int → Int} {A B : List Int} {x : Int} (h : Up f (A ++ B)) (h1 : ∀ w ∈ A, f w ≤ f x) (h2 : ∀ w ∈ B, f x < f w) : Up f (A ++ x :: B) ∧ Kin f (A ++ x :: B) ((A ++ B) ++ [x]) := by
  obtain ⟨q1, q2, q3⟩ := Up.append.1 h
  refine ⟨Up.append.2 ⟨q1, ⟨fun y hy => Int.le_of_lt (h2 y hy), q2⟩, fun a ha y hy => ?_⟩, ?_⟩
  · rcases List.mem_cons.1 hy with rfl | hy
    · exact h1 a ha
    · exact q3 a ha y hy
  · rw [List.append_assoc]
    refine Kin.app (Kin.refl f A) ?_
    exact Kin.turn (A := [x]) (B := B) fun a ha y hy => by
      simp at ha
      subst ha
      have := h2 y hy
      omega

theorem insK_up {f : Int → Int} {W : List Int} {x : Int} (h : Up f W) : Up f (insK f W x) ∧ Kin f (insK f W x) (W ++ [x]) := by
  have e := List.takeWhile_append_dropWhile (p := fun w => decide (f w ≤ f x)) (l := W)
  have := put_up (f := f) (x := x) (A := W.takeWhile (fun w => decide (f w ≤ f x))) (B := W.dropWhile (fun w => decide (f w ≤ f x))) (by rw [e]; exact h) (fun w hw => by
    have := List.all_eq_true.1 (List.all_takeWhile (p := fun w => decide (f w ≤ f x)) (l := W)) w hw
    simpa using this) (up_drop h)
  rw [e] at this
  exact this

theorem ssort_snoc (f : Int → Int) (S : List Int) (x : Int) : ssort f (S ++ [x]) = insK f (ssort f S) x := by simp [ssort]
theorem ssort_up (f : Int → Int) (S : List Int) : Up f (ssort f S) ∧ Kin f (ssort f S) S := by
  have key : ∀ (n : Nat) (S : List Int), S.length = n → Up f (ssort f S) ∧ Kin f (ssort f S) S := by
    intro n
    induction n with
    | zero => intro S hS; rw [List.length_eq_zero_iff.1 hS]; exact ⟨trivial, Kin.refl f []⟩
    | succ n ih =>
      intro S hS
      obtain ⟨T, x, rfl⟩ : ∃ T x, S = T ++ [x] := ⟨S.dropLast, S.getLast (by intro hh; subst hh; simp at hS), (List.dropLast_concat_getLast _).symm⟩
      simp at hS
      obtain ⟨h1, h2⟩ := ih T hS
      rw [ssort_snoc]
      obtain ⟨q1, q2⟩ := insK_up (x := x) h1
      exact ⟨q1, q2.trans (h2.app (Kin.refl f [x]))⟩
  exact key S.length S rfl

/-- BUT ONE ORDER. -/
theorem ssort_uniq {f : Int → Int} {R S : List Int} (h : Up f R) (k : Kin f R S) : R = ssort f S := by
  obtain ⟨h1, h2⟩ := ssort_up f S
  exact up_ext h h1 (k.trans h2.symm)
theorem ssort_id {f : Int → Int} {S : List Int} (h : Up f S) : ssort f S = S := (ssort_uniq h (Kin.refl f S)).symm
theorem ssort_congr {f : Int → Int} {R S : List Int} (h : Kin f R S) : ssort f R = ssort f S := ssort_uniq (ssort_up f R).1 ((ssort_up f R).2.trans h)
theorem ssort_length (f : Int → Int) (S : List Int) : (ssort f S).length = S.length := by
  have key : ∀ (n : Nat) (S : List Int), S.length = n → (ssort f S).length = n := by
    intro n
    induction n with
    | zero => intro S hS; rw [List.length_eq_zero_iff.1 hS]; rfl
    | succ n ih =>
      intro S hS
      obtain ⟨T, x, rfl⟩ : ∃ T x, S = T ++ [x] := ⟨S.dropLast, S.getLast (by intro hh; subst hh; simp at hS), (List.dropLast_concat_getLast _).symm⟩
      simp at hS
      rw [ssort_snoc]
      have e := congrArg List.length (List.takeWhile_append_dropWhile (p := fun w => decide (f w ≤ f x)) (l := ssort f T))
      rw [List.length_append] at e
      simp only [insK, List.length_append, List.length_cons]
      have := ih T hS
      omega
  exact key S.length S rfl

/-- Two sorted rows, each cut in two, so that the first parts may stand ahead. -/
theorem ssort_quad {f : Int → Int} {X1 X2 Y1 Y2 : List Int} (hX : Up f (X1 ++ X2)) (hY : Up f (Y1 ++ Y2)) (h1 : ∀ x ∈ X1, ∀ y ∈ Y2, f x ≤ f y) (h2 : ∀ y ∈ Y1, ∀ x ∈ X2, f y < f x) :
    ssort f (X1 ++ Y1) ++ ssort f (X2 ++ Y2) = ssort f ((X1 ++ X2) ++ (Y1 ++ Y2)) := by
  obtain ⟨a1, a2, a3⟩ := Up.append.1 hX
  obtain ⟨b1, b2, b3⟩ := Up.append.1 hY
  obtain ⟨p1, p2⟩ := ssort_up f (X1 ++ Y1)
  obtain ⟨q1, q2⟩ := ssort_up f (X2 ++ Y2)
  refine ssort_uniq (Up.append.2 ⟨p1, q1, fun x hx y hy => ?_⟩) ((p2.app q2).trans ?_)
  · have hx := List.mem_append.1 (p2.mem.1 hx)
    have hy := List.mem_append.1 (q2.mem.1 hy)
    rcases hx with hx | hx <;> rcases hy with hy | hy
    · exact a3 x hx y hy
    · exact h1 x hx y hy
    · exact Int.le_of_lt (h2 x hx y hy)
    · exact b3 x hx y hy
  · rw [List.append_assoc, List.append_assoc]
    refine (Kin.refl f X1).app ?_
    rw [← List.append_assoc, ← List.append_assoc]
    refine Kin.app (Kin.turn fun y hy x hx => ?_) (Kin.refl f Y2)
    have := h2 y hy x hx
    omega

/-- One member into a row. -/
theorem ssort_put {f : Int → Int} {A B : List Int} {x : Int} (h : Up f (A ++ B)) (h1 : ∀ w ∈ A, f w ≤ f x) (h2 : ∀ w ∈ B, f x < f w) : A ++ x :: B = ssort f ((A ++ B) ++ [x]) := by
  obtain ⟨q1, q2⟩ := put_up h h1 h2
  exact ssort_uniq q1 q2
/-- One member, from ahead, into a row. -/
theorem ssort_pre {f : Int → Int} {A B : List Int} {x : Int} (h : Up f (A ++ B)) (h1 : ∀ w ∈ A, f w < f x) (h2 : ∀ w ∈ B, f x ≤ f w) : A ++ x :: B = ssort f (x :: (A ++ B)) := by
  obtain ⟨a1, a2, a3⟩ := Up.append.1 h
  refine ssort_uniq (Up.append.2 ⟨a1, ⟨h2, a2⟩, fun a ha y hy => ?_⟩) ?_
  · rcases List.mem_cons.1 hy with rfl | hy
    · exact Int.le_of_lt (h1 a ha)
    · exact a3 a ha y hy
  · rw [show A ++ x :: B = (A ++ [x]) ++ B by simp, show x :: (A ++ B) = ([x] ++ A) ++ B by simp]
    exact Kin.app (Kin.turn fun a ha y hy => by simp at hy; subst hy; have := h1 a ha; omega) (Kin.refl f B)
theorem up_last {f : Int → Int} {A : List Int} {x : Int} (h : Up f (A ++ [x])) : ∀ w ∈ A, f w ≤ f x := fun w hw => (Up.append.1 h).2.2 w hw x (by simp)

/-! ### Cells turned -/
def swR (L : List Int) (p q : Nat) : Nat → List Int
  | 0 => L
  | n + 1 => ((swR L p q n).set (p + n) ((swR L p q n).getD (q + n) 0)).set (q + n) ((swR L p q n).getD (p + n) 0)
theorem swR_length (L : List Int) (p q n : Nat) : (swR L p q n).length = L.length := by
  induction n with
  | zero => rfl
  | succ n ih => simp [swR, ih]
theorem set_mid {A B : List Int} {x y : Int} {k : Nat} (h : k = A.length) : (A ++ x :: B).set k y = A ++ y :: B := by
  subst h; simp
theorem getD_mid {A B : List Int} {x d : Int} {k : Nat} (h : k = A.length) : (A ++ x :: B).getD k d = x := by
  subst h; simp [List.getD]
theorem swR_seg : ∀ (n : Nat) (A X Y Z B : List Int), X.length = n → Z.length = n → swR (A ++ X ++ Y ++ Z ++ B) A.length (A.length + n + Y.length) n = A ++ Z ++ Y ++ X ++ B
  | 0, A, X, Y, Z, B, hX, hZ => by rw [List.length_eq_zero_iff.1 hX, List.length_eq_zero_iff.1 hZ]; rfl
  | n + 1, A, X, Y, Z, B, hX, hZ => by
    obtain ⟨X, x, rfl⟩ : ∃ T x, X = T ++ [x] := ⟨X.dropLast, X.getLast (by intro hh; subst hh; simp at hX), (List.dropLast_concat_getLast _).symm⟩
    obtain ⟨Z, z, rfl⟩ : ∃ T x, Z = T ++ [x] := ⟨Z.dropLast, Z.getLast (by intro hh; subst hh; simp at hZ), (List.dropLast_concat_getLast _).symm⟩
    simp at hX hZ
    have ih := swR_seg n A X (x :: Y) Z (z :: B) hX hZ
    have e1 : A ++ (X ++ [x]) ++ Y ++ (Z ++ [z]) ++ B = A ++ X ++ (x :: Y) ++ Z ++ (z :: B) := by simp
    have e2 : A.length + (n + 1) + Y.length = A.length + n + (x :: Y).length := by simp; omega
    rw [e1, e2, swR, ih]
    have f1 : A ++ Z ++ x :: Y ++ X ++ z :: B = (A ++ Z) ++ x :: (Y ++ X ++ z :: B) := by simp
    have f2 : A ++ Z ++ x :: Y ++ X ++ z :: B = (A ++ Z ++ x :: Y ++ X) ++ z :: B := by simp
    have g1 : (A ++ Z ++ x :: Y ++ X ++ z :: B).getD (A.length + n) 0 = x := by rw [f1]; exact getD_mid (by simp; omega)
    have g2 : (A ++ Z ++ x :: Y ++ X ++ z :: B).getD (A.length + n + (x :: Y).length + n) 0 = z := by rw [f2]; exact getD_mid (by simp; omega)
    rw [g1, g2, f1, set_mid (by simp; omega)]
    have f3 : (A ++ Z) ++ z :: (Y ++ X ++ z :: B) = (A ++ Z ++ z :: Y ++ X) ++ z :: B := by simp
    rw [f3, set_mid (by simp; omega)]
    simp

end Go.AE
/- What characters are split into, and what two make. -/
namespace Go.AE
def han (r : Int) : Bool := decide (44032 ≤ r) && decide (r ≤ 55203)
def syl (r : Int) : List Int := [4352 + (r - 44032) / 588, 4449 + (r - 44032) % 588 / 28] ++ (if (r - 44032) % 28 = 0 then [] else [4519 + (r - 44032) % 28])
/-- A character is not split. -/
def stop (soft : Bool) (r : Int) : Bool := !(spl r).2 || ((spl r).1.2.2.2.1 && !soft)
def oneF : Nat → Bool → Int → List Int
  | 0, _, r => [r]
  | f + 1, soft, r => if han r then syl r else if stop soft r then [r] else if (spl r).1.2.2.1 = 0 then oneF f soft (spl r).1.2.1 else oneF f soft (spl r).1.2.1 ++ oneF f soft (spl r).1.2.2.1
/-- How deep characters are split. -/
def Deep : Nat → Int → Prop
  | 0, r => (spl r).2 = false
  | n + 1, r => (spl r).2 = true → Deep n (spl r).1.2.1 ∧ ((spl r).1.2.2.1 ≠ 0 → Deep n (spl r).1.2.2.1)
def deepB : Nat → Int → Bool
  | 0, r => !(spl r).2
  | n + 1, r => !(spl r).2 || (deepB n (spl r).1.2.1 && ((spl r).1.2.2.1 == 0 || deepB n (spl r).1.2.2.1))
theorem deep_of : ∀ (n : Nat) (r : Int), deepB n r = true → Deep n r
  | 0, r, h => by simpa [deepB, Deep] using h
  | n + 1, r, h => by
    intro hs
    simp only [deepB, hs, Bool.not_true, Bool.false_or, Bool.and_eq_true, Bool.or_eq_true, beq_iff_eq] at h
    exact ⟨deep_of n _ h.1, fun h0 => deep_of n _ (h.2.resolve_left h0)⟩
theorem deep_all (r : Int) : Deep 4 r := by
  intro h
  have := spl_all (q := fun _ s => deepB 3 s.2.1 && (s.2.2.1 == 0 || deepB 3 s.2.2.1)) (by decide +kernel) (by decide +kernel) h
  simp only [Bool.and_eq_true, Bool.or_eq_true, beq_iff_eq] at this
  exact ⟨deep_of 3 _ this.1, fun h0 => deep_of 3 _ (this.2.resolve_left h0)⟩
theorem Deep.up : ∀ {n : Nat} {r : Int}, Deep n r → Deep (n + 1) r
  | 0, r, h => fun hs => by rw [show (spl r).2 = false from h] at hs; cases hs
  | n + 1, r, h => fun hs => ⟨(h hs).1.up, fun h0 => ((h hs).2 h0).up⟩
def one1 (soft : Bool) (r : Int) : List Int := oneF 5 soft r
def spltL (soft : Bool) (l : List Int) : List Int := l.flatMap (one1 soft)
theorem oneF_len : ∀ (f : Nat) (soft : Bool) (r : Int), (oneF f soft r).length ≤ 3 * 2 ^ f
  | 0, _, _ => by simp [oneF]
  | f + 1, soft, r => by
    have h1 := oneF_len f soft (spl r).1.2.1
    have h2 := oneF_len f soft (spl r).1.2.2.1
    have hp : 2 ^ (f + 1) = 2 ^ f * 2 := Nat.pow_succ _ _
    have hp0 : 0 < 2 ^ f := Nat.pow_pos (by decide)
    rw [oneF]
    split
    · unfold syl; split <;> simp <;> omega
    · split
      · simp; omega
      · split
        · omega
        · rw [List.length_append]; omega
theorem oneF_succ (f : Nat) (soft : Bool) (r : Int) : oneF (f + 1) soft r = if han r then syl r else if stop soft r then [r] else if (spl r).1.2.2.1 = 0 then oneF f soft (spl r).1.2.1 else oneF f soft (spl r).1.2.1 ++ oneF f soft (spl r).1.2.2.1 := rfl
theorem oneF_stable : ∀ (n : Nat) {r : Int} {soft : Bool}, Deep n r → oneF (n + 2) soft r = oneF (n + 1) soft r
  | 0, r, soft, h => by
    have : stop soft r = true := by simp [stop, show (spl r).2 = false from h]
    rw [oneF_succ 1 soft r, oneF_succ 0 soft r, this]
    simp
  | n + 1, r, soft, h => by
    rw [oneF_succ (n + 2) soft r, oneF_succ (n + 1) soft r]
    by_cases hst : stop soft r = true
    · rw [hst]; simp
    · have hs : (spl r).2 = true := by
        unfold stop at hst
        cases hq : (spl r).2
        · rw [hq] at hst; simp at hst
        · rfl
      rw [oneF_stable n (h hs).1]
      by_cases h0 : (spl r).1.2.2.1 = 0
      · simp only [h0, if_true]
      · rw [oneF_stable n ((h hs).2 h0)]
theorem one1_eq (soft : Bool) (r : Int) : one1 soft r = if han r then syl r else if stop soft r then [r] else if (spl r).1.2.2.1 = 0 then one1 soft (spl r).1.2.1 else one1 soft (spl r).1.2.1 ++ one1 soft (spl r).1.2.2.1 := by
  have e : one1 soft r = oneF 6 soft r := (oneF_stable 4 (deep_all r)).symm
  rw [e, oneF_succ]
  rfl

def mk2 (a b : Int) : Int × Bool := if 4352 ≤ a ∧ a ≤ 4370 ∧ 4449 ≤ b ∧ b ≤ 4469 then (44032 + (a - 4352) * 588 + (b - 4449) * 28, true)
  else if han a = true ∧ (a - 44032) % 28 = 0 ∧ 4520 ≤ b ∧ b ≤ 4546 then (a + b - 4519, true) else pr a b

/-! ### Order -/
def ordF : List Int → List Int → List Int
  | R, [] => ssort cls R
  | R, x :: l => if 0 < cls x then ordF (R ++ [x]) l else ssort cls R ++ x :: ordF [] l
def ordL (l : List Int) : List Int := ordF [] l
def turnX : Int → List Int → List Int
  | x, [] => [x]
  | x, y :: t => if 0 < cls y ∧ cls y < cls x then y :: turnX x t else x :: turnX y t
def turnP : List Int → List Int
  | [] => []
  | x :: t => turnX x t
theorem turnP_two (x y : Int) (t : List Int) : turnP (x :: y :: t) = if 0 < cls y ∧ cls y < cls x then y :: turnP (x :: t) else x :: turnP (y :: t) := rfl
end Go.AE
/- Neighbours turned till none is left to be: that is the order. -/
namespace Go.AE
def turnN : Nat → List Int → List Int
  | 0, l => l
  | k + 1, l => turnN k (turnP l)
theorem turnN_succ : ∀ (k : Nat) (l : List Int), turnN (k + 1) l = turnP (turnN k l)
  | 0, _ => rfl
  | k + 1, l => by rw [turnN, turnN_succ k (turnP l)]; rfl
theorem turnP_low {s : Int} (hs : cls s ≤ 0) : ∀ t : List Int, turnP (s :: t) = s :: turnP t
  | [] => rfl
  | y :: t => by rw [turnP_two, if_neg (by omega)]
theorem turnP_cut {s : Int} (hs : cls s ≤ 0) (t : List Int) : ∀ R : List Int, turnP (R ++ s :: t) = turnP R ++ s :: turnP t
  | [] => turnP_low hs t
  | [x] => by
    show turnP (x :: s :: t) = [x] ++ s :: turnP t
    rw [turnP_two, if_neg (by omega), turnP_low hs]; rfl
  | x :: y :: R => by
    have h1 := turnP_cut hs t (x :: R)
    have h2 := turnP_cut hs t (y :: R)
    show turnP (x :: y :: (R ++ s :: t)) = turnP (x :: y :: R) ++ s :: turnP t
    rw [turnP_two, turnP_two]
    split
    · rw [show x :: (R ++ s :: t) = x :: R ++ s :: t from rfl, h1]; rfl
    · rw [show y :: (R ++ s :: t) = y :: R ++ s :: t from rfl, h2]; rfl
theorem turnN_cut {s : Int} (hs : cls s ≤ 0) : ∀ (k : Nat) (R t : List Int), turnN k (R ++ s :: t) = turnN k R ++ s :: turnN k t
  | 0, _, _ => rfl
  | k + 1, R, t => by rw [turnN, turnP_cut hs, turnN_cut hs k]; rfl
theorem turnP_kin : ∀ l : List Int, Kin cls (turnP l) l ∧ (turnP l).length = l.length
  | [] => ⟨Kin.refl _ _, rfl⟩
  | [x] => ⟨Kin.refl _ _, rfl⟩
  | x :: y :: t => by
    have h1 := turnP_kin (x :: t)
    have h2 := turnP_kin (y :: t)
    rw [turnP_two]
    split
    · rename_i h
      refine ⟨(Kin.app (Kin.refl cls [y]) h1.1).trans ?_, by simp only [List.length_cons] at h1 ⊢; omega⟩
      exact Kin.app (A := [y] ++ [x]) (B := [x] ++ [y]) (C := t) (D := t) (Kin.turn fun a ha b hb => by simp at ha hb; subst ha; subst hb; omega) (Kin.refl cls t)
    · exact ⟨Kin.app (Kin.refl cls [x]) h2.1, by simp only [List.length_cons] at h2 ⊢; omega⟩
theorem turnN_kin : ∀ (k : Nat) (l : List Int), Kin cls (turnN k l) l ∧ (turnN k l).length = l.length
  | 0, _ => ⟨Kin.refl _ _, rfl⟩
  | k + 1, l => by
    have h1 := turnN_kin k (turnP l)
    have h2 := turnP_kin l
    exact ⟨h1.1.trans h2.1, h1.2.trans h2.2⟩
theorem turnP_tail {V : List Int} (hV : Up cls V) : ∀ U : List Int, (∀ u ∈ U, ∀ v ∈ V, cls u ≤ cls v) → turnP (U ++ V) = turnP U ++ V
  | [], _ => by
    have : ∀ V : List Int, Up cls V → turnP V = V := fun V => by
      induction V with
      | nil => intro _; rfl
      | cons x V ih =>
        intro h
        cases V with
        | nil => rfl
        | cons y V =>
          have := h.1 y (by simp)
          rw [turnP_two, if_neg (by omega), ih h.2]
    exact this V hV
  | [x], h => by
    cases V with
    | nil => rfl
    | cons v V =>
      have h1 := h x (by simp) v (by simp)
      have h2 := turnP_tail hV [] (by simp)
      show turnP (x :: v :: V) = _
      rw [turnP_two, if_neg (by omega)]
      rw [show turnP (v :: V) = v :: V from h2]; rfl
  | x :: y :: U, h => by
    have h1 := turnP_tail hV (x :: U) (fun u hu => h u (by rcases List.mem_cons.1 hu with rfl | hu <;> simp [*]))
    have h2 := turnP_tail hV (y :: U) (fun u hu => h u (List.mem_cons_of_mem _ hu))
    show turnP (x :: y :: (U ++ V)) = _
    rw [turnP_two, turnP_two]
    split
    · rw [show x :: (U ++ V) = x :: U ++ V from rfl, h1]; rfl
    · rw [show y :: (U ++ V) = y :: U ++ V from rfl, h2]; rfl
theorem turnP_last : ∀ (l : List Int), l ≠ [] → (∀ r ∈ l, 0 < cls r) → ∃ U m, turnP l = U ++ [m] ∧ ∀ u ∈ U, cls u ≤ cls m
  | [], h, _ => absurd rfl h
  | [x], _, _ => ⟨[], x, rfl, by simp⟩
  | x :: y :: t, _, hp => by
    rw [turnP_two]
    have hx := hp x (by simp)
    have hy := hp y (by simp)
    have top : ∀ {l U : List Int} {m : Int}, turnP l = U ++ [m] → (∀ u ∈ U, cls u ≤ cls m) → ∀ u ∈ l, cls u ≤ cls m := by
      intro l U m h1 h2 u hu
      have := ((turnP_kin l).1.mem (x := u)).2 hu
      rw [h1] at this
      rcases List.mem_append.1 this with h | h
      · exact h2 u h
      · simp at h; subst h; exact Int.le_refl _
    split
    · rename_i h
      obtain ⟨U, m, e1, e2⟩ := turnP_last (x :: t) (by simp) (fun r hr => hp r (by rcases List.mem_cons.1 hr with rfl | hr <;> simp [*]))
      refine ⟨y :: U, m, by rw [e1]; rfl, fun u hu => ?_⟩
      rcases List.mem_cons.1 hu with rfl | hu
      · have := top e1 e2 x (by simp); omega
      · exact e2 u hu
    · rename_i h
      obtain ⟨U, m, e1, e2⟩ := turnP_last (y :: t) (by simp) (fun r hr => hp r (List.mem_cons_of_mem _ hr))
      refine ⟨x :: U, m, by rw [e1]; rfl, fun u hu => ?_⟩
      rcases List.mem_cons.1 hu with rfl | hu
      · have := top e1 e2 y (by simp); omega
      · exact e2 u hu
theorem turnN_run {R : List Int} (hp : ∀ r ∈ R, 0 < cls r) : ∀ k, ∃ U V, turnN k R = U ++ V ∧ U.length = R.length - k ∧ Up cls V ∧ ∀ u ∈ U, ∀ v ∈ V, cls u ≤ cls v
  | 0 => ⟨R, [], by simp [turnN], by simp, trivial, by simp⟩
  | k + 1 => by
    obtain ⟨U, V, h1, h2, h3, h4⟩ := turnN_run hp k
    rw [turnN_succ, h1, turnP_tail h3 U h4]
    by_cases hU : U = []
    · subst hU
      refine ⟨[], V, rfl, ?_, h3, by simp⟩
      simp at h2 ⊢; omega
    · have hpU : ∀ r ∈ U, 0 < cls r := fun r hr => hp r ((turnN_kin k R).1.mem.1 (by rw [h1]; simp [hr]))
      obtain ⟨U', m, e1, e2⟩ := turnP_last U hU hpU
      have hk := turnP_kin U
      rw [e1] at hk
      refine ⟨U', m :: V, by rw [e1]; simp, ?_, ⟨fun v hv => h4 m (hk.1.mem.1 (by simp)) v hv, h3⟩, fun u hu v hv => ?_⟩
      · have := hk.2
        simp at this
        omega
      · rcases List.mem_cons.1 hv with rfl | hv
        · exact e2 u hu
        · exact h4 u (hk.1.mem.1 (by simp [hu])) v hv
theorem turnN_sort {R : List Int} (hp : ∀ r ∈ R, 0 < cls r) {k : Nat} (hk : R.length ≤ k) : turnN k R = ssort cls R := by
  obtain ⟨U, V, h1, h2, h3, h4⟩ := turnN_run hp k
  have : U = [] := List.length_eq_zero_iff.1 (by omega)
  subst this
  refine ssort_uniq ?_ (turnN_kin k R).1
  rw [h1]; exact h3
theorem turn_ord : ∀ (T R : List Int) (k : Nat), (∀ r ∈ R, 0 < cls r) → R.length + T.length ≤ k → turnN k (R ++ T) = ordF R T
  | [], R, k, hp, hk => by rw [List.append_nil, ordF]; exact turnN_sort hp (by simpa using hk)
  | x :: T, R, k, hp, hk => by
    simp only [List.length_cons] at hk
    rw [ordF]
    by_cases hx : 0 < cls x
    · rw [if_pos hx, ← turn_ord T (R ++ [x]) k (fun r hr => by
        rcases List.mem_append.1 hr with h | h
        · exact hp r h
        · simp at h; subst h; exact hx) (by simp; omega)]
      simp
    · rw [if_neg hx, turnN_cut (by omega), turnN_sort hp (by omega)]
      have := turn_ord T [] k (by simp) (by simp; omega)
      rw [List.nil_append] at this
      rw [this]
/-- TURNING IS ORDER. -/
theorem turn_ordL (l : List Int) : turnN l.length l = ordL l := turn_ord l [] l.length (by simp) (by simp)
end Go.AE
/- Characters of which some are made of two: what is computed. -/
namespace Go.AE
structure JS where
  pre : List Int
  st : Option Int
  ms : List Int
def JS.out (s : JS) : List Int := s.pre ++ s.st.toList ++ s.ms
def JS.put (s : JS) (x : Int) : JS := if cls x = 0 then ⟨s.out, some x, []⟩ else ⟨s.pre, s.st, s.ms ++ [x]⟩
def jStep (s : JS) (x : Int) : JS := match s.st with
  | none => s.put x
  | some b => if s.ms.all (fun m => decide (cls m < cls x)) then (if (mk2 b x).2 then ⟨s.pre, some (mk2 b x).1, s.ms⟩ else s.put x) else s.put x
def jRun (l : List Int) : JS := l.foldl jStep ⟨[], none, []⟩
def joinL (l : List Int) : List Int := (jRun l).out
theorem han_cls {r : Int} (h : 44032 ≤ r ∧ r ≤ 55203) : cls r = 0 := by
  by_cases h0 : cls r = 0
  · exact h0
  · have := List.all_eq_true.1 (show (clsAll.all fun r => decide (¬ (44032 ≤ r ∧ r ≤ 55203))) = true by decide +kernel) r (cls_all h0)
    simp at this
    omega
theorem mk2_cls {a b : Int} (h : (mk2 a b).2 = true) : cls (mk2 a b).1 = 0 ∧ 0 ≤ (mk2 a b).1 ∧ (mk2 a b).1 ≤ 1114111 := by
  unfold mk2 at h ⊢
  split
  · rename_i h1
    exact ⟨han_cls (by dsimp only; omega), by dsimp only; omega, by dsimp only; omega⟩
  · rename_i h1
    rw [if_neg h1] at h
    split
    · rename_i h2
      have : 44032 ≤ a ∧ a ≤ 55203 := by simpa [han] using h2.1
      exact ⟨han_cls (by dsimp only; omega), by dsimp only; omega, by dsimp only; omega⟩
    · rename_i h2
      rw [if_neg h2] at h
      obtain ⟨q1, q2, q3, q4⟩ := pairs_bwd h
      have hm := spl_marks q1
      refine ⟨hm.2.1, ?_⟩
      have := spl_all (q := fun r _ => decide (0 ≤ r ∧ r ≤ 1114111)) (by decide +kernel) (by decide +kernel) q1
      simpa using this
/-- What stands there: starters have no class, and what stands behind the last one has. -/
structure JI (s : JS) : Prop where
  st : ∀ b, s.st = some b → cls b = 0
  ms : ∀ m ∈ s.ms, 0 < cls m
  none : s.st = none → s.pre = []
theorem JI.put {s : JS} (h : JI s) (x : Int) : JI (s.put x) := by
  unfold JS.put
  split
  · rename_i hc
    exact ⟨fun b hb => by simp at hb; subst hb; exact hc, by simp, by simp⟩
  · rename_i hc
    have := cls_nonneg x
    exact ⟨h.st, fun m hm => by
      rcases List.mem_append.1 hm with hm | hm
      · exact h.ms m hm
      · simp at hm; subst hm; omega, h.none⟩
theorem JI.step {s : JS} (h : JI s) (x : Int) : JI (jStep s x) := by
  unfold jStep
  split
  · exact h.put x
  · rename_i b hb
    split
    · split
      · rename_i h2
        exact ⟨fun c hc => by simp at hc; subst hc; exact (mk2_cls h2).1, h.ms, by simp⟩
      · exact h.put x
    · exact h.put x
theorem JI.run (l : List Int) : JI (jRun l) := by
  have key : ∀ (l : List Int) (s : JS), JI s → JI (l.foldl jStep s) := fun l => by
    induction l with
    | nil => intro s h; exact h
    | cons x l ih => intro s h; exact ih _ (h.step x)
  exact key l _ ⟨by simp, by simp, fun _ => rfl⟩
theorem put_out (s : JS) (x : Int) : (s.put x).out = s.out ++ [x] := by
  unfold JS.put
  split
  · simp [JS.out]
  · simp [JS.out]
theorem jRun_take (l : List Int) (i : Nat) (h : i < l.length) : jRun (l.take (i + 1)) = jStep (jRun (l.take i)) (l.getD i 0) := by
  unfold jRun
  rw [take_snocD l i 0 h, List.foldl_append]; rfl
theorem jStep_len (s : JS) (x : Int) : (jStep s x).out.length ≤ s.out.length + 1 := by
  unfold jStep
  split
  · rw [put_out]; simp
  · rename_i b hb
    split
    · split
      · simp [JS.out, hb]
      · rw [put_out]; simp
    · rw [put_out]; simp
theorem jRun_len (l : List Int) : (jRun l).out.length ≤ l.length := by
  have key : ∀ (l : List Int) (s : JS), (l.foldl jStep s).out.length ≤ s.out.length + l.length := fun l => by
    induction l with
    | nil => intro s; simp
    | cons x l ih =>
      intro s
      have h1 := ih (jStep s x)
      have h2 := jStep_len s x
      simp only [List.foldl_cons, List.length_cons]; omega
  have := key l ⟨[], none, []⟩
  have e : (JS.out ⟨[], none, []⟩).length = 0 := rfl
  rw [e, Nat.zero_add] at this
  exact this
end Go.AE
