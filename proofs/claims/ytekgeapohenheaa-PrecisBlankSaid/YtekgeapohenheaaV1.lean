/- Contracts of functions that the laws of this seat reach, and plain laws of what they compute. No condition beyond each statement's own. -/
import Derived.Test.YtekgeapohenheaaK1
import Derived.Test.YtekgeapohenheaaAENum
import Derived.Test.YtekgeapohenheaaAEBun
set_option linter.unusedVariables false
set_option linter.unusedSimpArgs false
section
/- Characters and their bytes: plain laws and contracts. -/
namespace Go.AE
open Go.Proofs
set_option maxRecDepth 10000
set_option linter.unusedSimpArgs false
def right (r : Int) : Bool := decide (0 ≤ r) && decide (r ≤ 1114111) && !(decide (55296 ≤ r) && decide (r ≤ 57343))
def rlen (r : Int) : Int := if right r then (if r ≤ 127 then 1 else if r ≤ 2047 then 2 else if r ≤ 65535 then 3 else 4) else 0

theorem right_spec (r : Int) : Spec Try.prog 44 [I32 r] (Bv (right r)) := by
  refine spec_mk (z := false) (ts := [.tmp 2]) ok1 Try.func44 rfl rfl (by decide +kernel) (by simp [Try.ntmps44]) rfl ?_
  repeat' first | simp (maxSteps := 4000000) (disch := omega) only [bunD, bun, ↓WG_true, ↓WG_false, labelOf, findLabel, Nat.reduceEqDiff, ↓reduceIte, imp, shift, killO, cond_true, cond_false, Nat.reduceBEq, hasId, Nat.reduceAdd, Nat.reduceMul, Nat.reduceSub, Nat.reduceLeDiff, reduceCtorEq, Int.reduceNe, Int.reduceLE, Int.reduceEq, ne_eq, Int.reducePow, Int.reduceAdd, Int.reduceSub, Int.reduceMul, unown, names, plainR, Int.reduceBEq, Int.reduceLT, Int.reduceGT, Int.reduceGE, Int.reduceBNe, below, noF, isF, lendObs, lendOb, kindOk, ren, givL, updM, backO, renO, belowM, B4, B21, bunN] | refine DR_q _ ?_ | ((first | refine WG_mk ?_ ?_ | refine CD_mk ?_ ?_ | refine GD_mk ?_ ?_ | refine GQ_mk ?_ ?_ | refine PK_mk ?_ ?_) <;> intro hg <;> (try simp only [hg]) <;> (try simp only [bunB, ne_eq] at hg) <;> first | (exfalso; omega) | (exfalso; exact Bool.noConfusion hg) | (exfalso; exact hg trivial) | skip) | refine And.intro (by omega) ?_ | omega
  all_goals (congr 2; first | rfl | (first | rw [Bool.eq_iff_iff] | skip); simp_all [right, rlen] <;> omega)
theorem len_spec (r : Int) : Spec Try.prog 34 [I32 r] (I64 (rlen r)) := by
  refine spec_mk (z := false) (ts := [.tmp 2]) ok1 Try.func34 rfl rfl (by decide +kernel) (by simp [Try.ntmps34]) rfl ?_
  repeat' first | refine WE_fit (right_spec _) ?_ ?_ | simp (maxSteps := 4000000) (disch := omega) only [bunD, bun, ↓WG_true, ↓WG_false, labelOf, findLabel, Nat.reduceEqDiff, ↓reduceIte, imp, shift, killO, cond_true, cond_false, Nat.reduceBEq, hasId, Nat.reduceAdd, Nat.reduceMul, Nat.reduceSub, Nat.reduceLeDiff, reduceCtorEq, Int.reduceNe, Int.reduceLE, Int.reduceEq, ne_eq, Int.reducePow, Int.reduceAdd, Int.reduceSub, Int.reduceMul, unown, names, plainR, Int.reduceBEq, Int.reduceLT, Int.reduceGT, Int.reduceGE, Int.reduceBNe, below, noF, isF, lendObs, lendOb, kindOk, ren, givL, updM, backO, renO, belowM, B3, B4, B21, bunN] | exact NK_no _ | refine NK_cl _ _ ?_ | exact clean_v _ | exact clean_u8 _ _ _ _ | exact clean_i32 _ _ _ _ | exact clean_str _ _ _ _ | refine clean_tup _ ?_ | refine clean_ag _ ?_ | exact cleans_nil | refine cleans_cons _ _ ?_ ?_ | refine DR_q _ ?_ | ((first | refine WG_mk ?_ ?_ | refine CD_mk ?_ ?_ | refine GD_mk ?_ ?_ | refine GQ_mk ?_ ?_ | refine PK_mk ?_ ?_) <;> intro hg <;> (try simp only [hg]) <;> (try simp only [bunB, ne_eq] at hg) <;> first | (exfalso; omega) | (exfalso; exact Bool.noConfusion hg) | (exfalso; exact hg trivial) | skip) | refine And.intro (by omega) ?_ | omega

  all_goals (congr 2; first | rfl | (first | rw [Bool.eq_iff_iff] | skip); simp_all [right, rlen] <;> omega)
end Go.AE
end
section
/- Characters and their bytes: plain laws and contracts. -/
namespace Go.AE
open Go.Proofs
set_option maxRecDepth 10000
set_option linter.unusedSimpArgs false

def ofI (n : Int) : UInt8 := UInt8.ofNat n.toNat
theorem ofI_toNat {n : Int} (h : 0 ≤ n) (k : n < 256) : ((ofI n).toNat : Int) = n := by
  unfold ofI; simp; omega

/-- What a first byte tells. -/
def lead (c : Int) : Int × Int :=
  if c < 128 then (0, c) else if 194 ≤ c ∧ c < 224 then (1, c % 32) else if 224 ≤ c ∧ c < 240 then (2, c % 16) else if 240 ≤ c ∧ c < 245 then (3, c % 8) else (-1, 0)

def enc (r : Int) : List UInt8 :=
  if right r then (if r ≤ 127 then [ofI r] else if r ≤ 2047 then [ofI (192 + r / 64), ofI (128 + r % 64)] else if r ≤ 65535 then [ofI (224 + r / 4096), ofI (128 + r / 64 % 64), ofI (128 + r % 64)]
    else [ofI (240 + r / 262144), ofI (128 + r / 4096 % 64), ofI (128 + r / 64 % 64), ofI (128 + r % 64)]) else []

theorem lead_spec (b : UInt8) : Spec Try.prog 33 [U8 b] (.tup [I64 (lead b.toNat).1, I32 (lead b.toNat).2]) := by
  refine spec_mk (z := false) (ts := [.tmp 2, .tmp 3]) ok1 Try.func33 rfl rfl (by decide +kernel) (by simp [Try.ntmps33]) rfl ?_
  have hb := u8_lt b
  repeat' first | simp (maxSteps := 4000000) (disch := omega) only [bunD, bun, ↓WG_true, ↓WG_false, labelOf, findLabel, Nat.reduceEqDiff, ↓reduceIte, imp, shift, killO, cond_true, cond_false, Nat.reduceBEq, hasId, Nat.reduceAdd, Nat.reduceMul, Nat.reduceSub, Nat.reduceLeDiff, reduceCtorEq, Int.reduceNe, Int.reduceLE, Int.reduceEq, ne_eq, Int.reducePow, Int.reduceAdd, Int.reduceSub, Int.reduceMul, unown, names, plainR, Int.reduceBEq, Int.reduceLT, Int.reduceGT, Int.reduceGE, Int.reduceBNe, below, noF, isF, lendObs, lendOb, kindOk, ren, givL, updM, backO, renO, belowM, B3, B4, B5, B21, bunN, and63_32, and63_8, and31_8, and15_8, and7_8, min6_32, min12_32, min18_32, wrap8, wrap32, wrap64, Int.tdiv_eq_ediv_of_nonneg, Int.tmod_eq_emod_of_nonneg, Int.fdiv_eq_ediv_of_nonneg] | refine DR_q _ ?_ | ((first | refine WG_mk ?_ ?_ | refine CD_mk ?_ ?_ | refine GD_mk ?_ ?_ | refine GQ_mk ?_ ?_ | refine PK_mk ?_ ?_) <;> intro hg <;> (try simp only [hg]) <;> (try simp only [bunB, ne_eq] at hg) <;> first | (exfalso; omega) | (exfalso; exact Bool.noConfusion hg) | (exfalso; exact hg trivial) | skip) | refine And.intro (by omega) ?_ | omega
  all_goals
    congr 3 <;> first
    | rfl
    | (simp (disch := omega) only [lead, if_pos, if_neg]; first | done | (congr 2 <;> first | rfl | omega))


theorem right_iff (r : Int) : right r = true ↔ 0 ≤ r ∧ r ≤ 1114111 ∧ ¬ (55296 ≤ r ∧ r ≤ 57343) := by
  simp [right]; omega
theorem rlen_yes {r : Int} (h : right r = true) : rlen r = if r ≤ 127 then 1 else if r ≤ 2047 then 2 else if r ≤ 65535 then 3 else 4 := by simp [rlen, h]
theorem rlen_no {r : Int} (h : right r = false) : rlen r = 0 := by simp [rlen, h]
theorem rlen_all (r : Int) : (rlen r = 1 ↔ 0 ≤ r ∧ r ≤ 127) ∧ (rlen r = 2 ↔ 128 ≤ r ∧ r ≤ 2047) ∧ (rlen r = 3 ↔ 2048 ≤ r ∧ r ≤ 65535 ∧ ¬ (55296 ≤ r ∧ r ≤ 57343)) ∧ (rlen r = 4 ↔ 65536 ≤ r ∧ r ≤ 1114111) := by
  have h := right_iff r
  cases hr : right r with
  | true => rw [rlen_yes hr]; rw [hr] at h; simp only [true_iff] at h; repeat' split
            all_goals omega
  | false => rw [rlen_no hr]; rw [hr] at h; simp only [Bool.false_eq_true, false_iff] at h; omega
theorem rlen1 (r : Int) : rlen r = 1 ↔ 0 ≤ r ∧ r ≤ 127 := (rlen_all r).1
theorem rlen2 (r : Int) : rlen r = 2 ↔ 128 ≤ r ∧ r ≤ 2047 := (rlen_all r).2.1
theorem rlen3 (r : Int) : rlen r = 3 ↔ 2048 ≤ r ∧ r ≤ 65535 ∧ ¬ (55296 ≤ r ∧ r ≤ 57343) := (rlen_all r).2.2.1
theorem rlen4 (r : Int) : rlen r = 4 ↔ 65536 ≤ r ∧ r ≤ 1114111 := (rlen_all r).2.2.2
theorem rlen0 (r : Int) : rlen r = 0 ↔ right r = false := by
  cases hr : right r with
  | true => rw [rlen_yes hr]; simp; repeat' split
            all_goals omega
  | false => rw [rlen_no hr]; simp
theorem rlen_or (r : Int) : rlen r = 0 ∨ rlen r = 1 ∨ rlen r = 2 ∨ rlen r = 3 ∨ rlen r = 4 := by
  cases hr : right r with
  | true => rw [rlen_yes hr]; repeat' split
            all_goals simp
  | false => rw [rlen_no hr]; simp
theorem enc1 {r : Int} (h : 0 ≤ r ∧ r ≤ 127) : enc r = [ofI r] := by
  have hr : right r = true := by simp [right]; omega
  simp (disch := omega) only [enc, hr, if_true, if_pos, if_neg]
theorem enc2 {r : Int} (h : 128 ≤ r ∧ r ≤ 2047) : enc r = [ofI (192 + r / 64), ofI (128 + r % 64)] := by
  have hr : right r = true := by simp [right]; omega
  simp (disch := omega) only [enc, hr, if_true, if_pos, if_neg]
theorem enc3 {r : Int} (h : 2048 ≤ r ∧ r ≤ 65535 ∧ ¬ (55296 ≤ r ∧ r ≤ 57343)) : enc r = [ofI (224 + r / 4096), ofI (128 + r / 64 % 64), ofI (128 + r % 64)] := by
  have hr : right r = true := by simp [right]; omega
  simp (disch := omega) only [enc, hr, if_true, if_pos, if_neg]
theorem enc4 {r : Int} (h : 65536 ≤ r ∧ r ≤ 1114111) : enc r = [ofI (240 + r / 262144), ofI (128 + r / 4096 % 64), ofI (128 + r / 64 % 64), ofI (128 + r % 64)] := by
  have hr : right r = true := by simp [right]; omega
  simp (disch := omega) only [enc, hr, if_true, if_pos, if_neg]
theorem enc0 {r : Int} (h : right r = false) : enc r = [] := by simp [enc, h]
theorem enc_length (r : Int) : ((enc r).length : Int) = rlen r := by
  rcases rlen_or r with h | h | h | h | h
  · rw [enc0 ((rlen0 r).1 h), h]; rfl
  · rw [enc1 ((rlen1 r).1 h), h]; rfl
  · rw [enc2 ((rlen2 r).1 h), h]; rfl
  · rw [enc3 ((rlen3 r).1 h), h]; rfl
  · rw [enc4 ((rlen4 r).1 h), h]; rfl

theorem take_snocD {α : Type} (l : List α) (i : Nat) (d : α) (h : i < l.length) : l.take (i + 1) = l.take i ++ [l.getD i d] := by
  rw [List.take_add_one]
  simp [List.getD, h]

end Go.AE
end
section
/- Characters and their bytes: plain laws and contracts. -/
namespace Go.AE
open Go.Proofs
set_option maxRecDepth 10000
set_option linter.unusedSimpArgs false
theorem enc_le (r : Int) : (enc r).length ≤ 4 := by have := enc_length r; have := rlen_or r; omega

def strOk (l : List Int) : Bool := l.all right
def strS (l : List Int) : List UInt8 := if strOk l then l.flatMap enc else []

theorem strOk_bad {l : List Int} {i : Nat} (h : i < l.length) (hr : right (l.getD i 0) = false) : strOk l = false := by
  rw [strOk, List.all_eq_false]
  exact ⟨l.getD i 0, by simp [List.getD, h], by rw [hr]; simp⟩

theorem str_step {l : List Int} {i : Nat} {acc : List UInt8} (hi : i < l.length) (ha : acc = (l.take i).flatMap enc) (hn : acc.length ≤ 4 * i) (hr : (l.take i).all right = true) (hg : right (l.getD i 0) = true) :
    i + 1 ≤ l.length ∧ acc ++ enc (l.getD i 0) = (l.take (i + 1)).flatMap enc ∧ (acc ++ enc (l.getD i 0)).length ≤ 4 * (i + 1) ∧ (l.take (i + 1)).all right = true := by
  have hE := enc_le (l.getD i 0)
  refine ⟨by omega, ?_, by simp only [List.length_append]; omega, ?_⟩
  · rw [take_snocD _ _ 0 hi, List.flatMap_append, ha]; simp
  · rw [take_snocD _ _ 0 hi, List.all_append, hr]; simp only [List.all_cons, List.all_nil, hg]; rfl

theorem utfString_spec (l : List Int) (hl : l.length ≤ 100000) : Spec Try.prog 22 [.sl l.length (l.map I32)] (.tup [Sv (strS l), Bv (strOk l)]) := by
  refine spec_mk (z := false) (ts := [.tmp 2, .tmp 3]) ok1 Try.func22 rfl rfl (by decide +kernel) (by simp [Try.ntmps22]) rfl ?_
  repeat' first | simp (maxSteps := 4000000) (disch := omega) only [bunD, bun, ↓WG_true, ↓WG_false, labelOf, findLabel, Nat.reduceEqDiff, ↓reduceIte, imp, shift, killO, cond_true, cond_false, Nat.reduceBEq, hasId, Nat.reduceAdd, Nat.reduceMul, Nat.reduceSub, Nat.reduceLeDiff, reduceCtorEq, Int.reduceNe, Int.reduceLE, Int.reduceEq, ne_eq, Int.reducePow, Int.reduceAdd, Int.reduceSub, Int.reduceMul, unown, names, plainR, Int.reduceBEq, Int.reduceLT, Int.reduceGT, Int.reduceGE, Int.reduceBNe, below, noF, isF, lendObs, lendOb, kindOk, ren, givL, updM, backO, renO, belowM, B3, B4, B5, B9, B21, B39, B53, bunN, and63_32, and63_8, and31_8, and15_8, and7_8, min6_32, min12_32, min18_32, wrap8, wrap32, wrap64, Int.tdiv_eq_ediv_of_nonneg, Int.tmod_eq_emod_of_nonneg, Int.fdiv_eq_ediv_of_nonneg, or192, or224, or240, or128] | refine DR_q _ ?_ | ((first | refine WG_mk ?_ ?_ | refine CD_mk ?_ ?_ | refine GD_mk ?_ ?_ | refine GQ_mk ?_ ?_ | refine PK_mk ?_ ?_) <;> intro hg <;> (try simp only [hg]) <;> (try simp only [bunB, ne_eq, rlen1, rlen2, rlen3, rlen4, rlen0] at hg) <;> first | (exfalso; omega) | (exfalso; exact Bool.noConfusion hg) | (exfalso; exact hg trivial) | skip) | refine And.intro (by omega) ?_ | omega
  refine LP_intro (fun x : Nat × List UInt8 => ⟨[(7, .sl l.length (l.map I32)), (8, I64 l.length), (9, I64 x.1), (4, .ref 0 0 x.2.length)], [.arr 5 1 (x.2.map U8)]⟩)
    (fun x => x.1 ≤ l.length ∧ x.2 = (l.take x.1).flatMap enc ∧ x.2.length ≤ 4 * x.1 ∧ (l.take x.1).all right = true) (fun x => l.length - x.1) (0, []) (by simp) (by simp [wk, wkT, wkM, noF, isF, get, belowT, belowM, below, belows, I64, I32, Bv, U8, Sv] <;> try omega) ?_
  rintro ⟨i, acc⟩ ⟨hi, ha, hn, hr⟩
  dsimp only at hi ha hn hr
  repeat' first | refine WE_fit (len_spec _) ?_ ?_ | simp (maxSteps := 4000000) (disch := omega) only [bunD, bun, ↓WG_true, ↓WG_false, labelOf, findLabel, Nat.reduceEqDiff, ↓reduceIte, imp, shift, killO, cond_true, cond_false, Nat.reduceBEq, hasId, Nat.reduceAdd, Nat.reduceMul, Nat.reduceSub, Nat.reduceLeDiff, reduceCtorEq, Int.reduceNe, Int.reduceLE, Int.reduceEq, ne_eq, Int.reducePow, Int.reduceAdd, Int.reduceSub, Int.reduceMul, unown, names, plainR, Int.reduceBEq, Int.reduceLT, Int.reduceGT, Int.reduceGE, Int.reduceBNe, below, noF, isF, lendObs, lendOb, kindOk, ren, givL, updM, backO, renO, belowM, B3, B4, B5, B9, B21, B39, B53, bunN, and63_32, and63_8, and31_8, and15_8, and7_8, min6_32, min12_32, min18_32, wrap8, wrap32, wrap64, Int.tdiv_eq_ediv_of_nonneg, Int.tmod_eq_emod_of_nonneg, Int.fdiv_eq_ediv_of_nonneg, or192, or224, or240, or128] | exact NK_no _ | refine NK_cl _ _ ?_ | exact clean_v _ | exact clean_u8 _ _ _ _ | exact clean_i32 _ _ _ _ | exact clean_str _ _ _ _ | refine clean_tup _ ?_ | refine clean_ag _ ?_ | exact cleans_nil | refine cleans_cons _ _ ?_ ?_ | refine DR_q _ ?_ | ((first | refine WG_mk ?_ ?_ | refine CD_mk ?_ ?_ | refine GD_mk ?_ ?_ | refine GQ_mk ?_ ?_ | refine PK_mk ?_ ?_) <;> intro hg <;> (try simp only [hg]) <;> (try simp only [bunB, ne_eq, rlen1, rlen2, rlen3, rlen4, rlen0] at hg) <;> first | (exfalso; omega) | (exfalso; exact Bool.noConfusion hg) | (exfalso; exact hg trivial) | skip) | refine And.intro (by omega) ?_ | omega
  · rename_i hg
    have h := strOk_bad (by omega) hg
    simp [strS, h]
  · have hg' : right (l.getD i 0) = true := by assumption
    refine ⟨(i + 1, acc ++ enc (l.getD i 0)), str_step (by omega) ha hn hr hg', by dsimp only; omega, ?_⟩
    generalize l.getD i 0 = r at *
    rw [enc1 hg]
    (simp (disch := omega) [wk, wkT, wkM, noF, isF, get, belowT, belowM, below, belows, I64, I32, Bv, U8, Sv, ofI_toNat] <;> try omega)
  · have hg' : right (l.getD i 0) = true := by assumption
    refine ⟨(i + 1, acc ++ enc (l.getD i 0)), str_step (by omega) ha hn hr hg', by dsimp only; omega, ?_⟩
    generalize l.getD i 0 = r at *
    rw [enc2 hg]
    (simp (disch := omega) [wk, wkT, wkM, noF, isF, get, belowT, belowM, below, belows, I64, I32, Bv, U8, Sv, ofI_toNat] <;> try omega)
  · have hg' : right (l.getD i 0) = true := by assumption
    refine ⟨(i + 1, acc ++ enc (l.getD i 0)), str_step (by omega) ha hn hr hg', by dsimp only; omega, ?_⟩
    generalize l.getD i 0 = r at *
    rw [enc3 (by omega)]
    (simp (disch := omega) [wk, wkT, wkM, noF, isF, get, belowT, belowM, below, belows, I64, I32, Bv, U8, Sv, ofI_toNat] <;> try omega)
  · have hg' : right (l.getD i 0) = true := by assumption
    refine ⟨(i + 1, acc ++ enc (l.getD i 0)), str_step (by omega) ha hn hr hg', by dsimp only; omega, ?_⟩
    generalize l.getD i 0 = r at *
    rw [enc4 hg]
    (simp (disch := omega) [wk, wkT, wkM, noF, isF, get, belowT, belowM, below, belows, I64, I32, Bv, U8, Sv, ofI_toNat] <;> try omega)
  · exfalso
    have h := (right_iff _).1 (by assumption)
    omega
  · have e : i = l.length := by omega
    subst e
    rw [List.take_length] at ha hr
    have h : strOk l = true := hr
    simp [strS, h, ha]

end Go.AE
end
section
/- Characters and their bytes: plain laws and contracts. -/
namespace Go.AE
open Go.Proofs
set_option maxRecDepth 10000
set_option linter.unusedSimpArgs false

def isCont (b : UInt8) : Bool := decide (128 ≤ b.toNat) && decide (b.toNat < 192)
def foldB (r : Int) (bs : List UInt8) : Int := bs.foldl (fun r b => r * 64 + (b.toNat : Int) % 64) r
/-- The character that bytes begin with. -/
def one (s : List UInt8) : Option (Int × Nat) :=
  match s with
  | [] => none
  | c :: t =>
    if (lead c.toNat).1 < 0 ∨ (t.length : Int) < (lead c.toNat).1 then none
    else if (t.take (lead c.toNat).1.toNat).all isCont = true ∧ rlen (foldB (lead c.toNat).2 (t.take (lead c.toNat).1.toNat)) = (lead c.toNat).1 + 1 then
      some (foldB (lead c.toNat).2 (t.take (lead c.toNat).1.toNat), (lead c.toNat).1.toNat + 1)
    else none

def runesN (o : Option (Int × Nat)) (a : Int) (s : List UInt8) (R : Int → List UInt8 → List Int × Int) : List Int × Int :=
  match o with
  | none => ([], a)
  | some (r, k) => (r :: (R (a + k) (s.drop k)).1, (R (a + k) (s.drop k)).2)
def runesF : Nat → Int → List UInt8 → List Int × Int
  | 0, _, _ => ([], -1)
  | f + 1, a, s => if s.isEmpty then ([], -1) else runesN (one s) a s (runesF f)

def runes (s : List UInt8) : List Int × Int := runesF (s.length + 1) 0 s

theorem lead_or (c : Int) : (lead c).1 = -1 ∨ (lead c).1 = 0 ∨ (lead c).1 = 1 ∨ (lead c).1 = 2 ∨ (lead c).1 = 3 := by
  unfold lead; repeat' split
  all_goals simp
theorem lead_snd {c : Int} (h : 0 ≤ c) : 0 ≤ (lead c).2 ∧ (lead c).2 < 128 := by
  unfold lead; repeat' split
  all_goals (dsimp only; omega)
theorem foldB_snoc (r : Int) (bs : List UInt8) (b : UInt8) : foldB r (bs ++ [b]) = foldB r bs * 64 + (b.toNat : Int) % 64 := by
  simp [foldB]
theorem foldB_bound (bs : List UInt8) : ∀ {r : Int}, 0 ≤ r → 0 ≤ foldB r bs ∧ foldB r bs < (r + 1) * 64 ^ bs.length := by
  induction bs with
  | nil => intro r h; simp [foldB]; omega
  | cons b bs ih =>
    intro r h
    have := ih (r := r * 64 + (b.toNat : Int) % 64) (by omega)
    have e : foldB r (b :: bs) = foldB (r * 64 + (b.toNat : Int) % 64) bs := rfl
    rw [e]
    refine ⟨this.1, Int.lt_of_lt_of_le this.2 ?_⟩
    rw [List.length_cons, Int.pow_succ, Int.mul_comm (64 ^ bs.length) 64, ← Int.mul_assoc]
    exact Int.mul_le_mul_of_nonneg_right (by omega) (Int.le_of_lt (Int.pow_pos (by decide)))
theorem foldB_small {r : Int} (h : 0 ≤ r) (k : r < 128) {bs : List UInt8} (hl : bs.length ≤ 3) : 0 ≤ foldB r bs ∧ foldB r bs < 33554432 := by
  have h1 := foldB_bound bs h
  refine ⟨h1.1, Int.lt_of_lt_of_le h1.2 ?_⟩
  have : bs.length = 0 ∨ bs.length = 1 ∨ bs.length = 2 ∨ bs.length = 3 := by omega
  rcases this with e | e | e | e <;> rw [e] <;> simp <;> omega
theorem foldB_small2 {r : Int} (h : 0 ≤ r) (k : r < 128) {bs : List UInt8} (hl : bs.length ≤ 2) : 0 ≤ foldB r bs ∧ foldB r bs < 16777216 := by
  have h1 := foldB_bound bs h
  refine ⟨h1.1, Int.lt_of_lt_of_le h1.2 ?_⟩
  have : bs.length = 0 ∨ bs.length = 1 ∨ bs.length = 2 := by omega
  rcases this with e | e | e <;> rw [e] <;> simp <;> omega

theorem one_none {s : List UInt8} (h : 0 < s.length) (hc : (lead (s.getD 0 0).toNat).1 < 0 ∨ (s.length : Int) ≤ (lead (s.getD 0 0).toNat).1) : one s = none := by
  cases s with
  | nil => simp at h
  | cons c t =>
    simp only [List.getD_cons_zero, List.length_cons] at hc
    simp only [one]
    rw [if_pos (by omega)]
theorem one_bad {s : List UInt8} {j : Nat} (h : 0 < s.length) (hj : (j : Int) < (lead (s.getD 0 0).toNat).1) (hb : isCont (s.getD (j + 1) 0) = false) : one s = none := by
  cases s with
  | nil => simp at h
  | cons c t =>
    simp only [List.getD_cons_zero, List.getD_cons_succ] at hj hb
    simp only [one]
    split
    · rfl
    · rename_i hn
      rw [if_neg]
      intro h2
      have h3 := List.all_eq_true.1 h2.1 (t.getD j 0) (by
        have : j < t.length := by omega
        rw [List.mem_take_iff_getElem]
        exact ⟨j, by omega, by simp [List.getD, this]⟩)
      rw [h3] at hb
      simp at hb
theorem one_last {s : List UInt8} {n : Nat} (h : 0 < s.length) (hn : (lead (s.getD 0 0).toNat).1 = n) (hl : n < s.length) (ha : ((s.drop 1).take n).all isCont = true) :
    one s = if rlen (foldB (lead (s.getD 0 0).toNat).2 ((s.drop 1).take n)) = n + 1 then some (foldB (lead (s.getD 0 0).toNat).2 ((s.drop 1).take n), n + 1) else none := by
  cases s with
  | nil => simp at h
  | cons c t =>
    simp only [List.getD_cons_zero, List.drop_succ_cons, List.drop_zero, List.length_cons] at *
    simp only [one, hn, Int.toNat_natCast, ha, true_and]
    rw [if_neg (by omega)]

theorem runesF_succ (f : Nat) (a : Int) (s : List UInt8) : runesF (f + 1) a s = if s.isEmpty then ([], -1) else runesN (one s) a s (runesF f) := rfl
theorem runesF_stop {f : Nat} {a : Int} {s : List UInt8} (hs : 0 < s.length) (h : one s = none) : runesF (f + 1) a s = ([], a) := by
  rw [runesF_succ, h, if_neg]
  · rfl
  · cases s <;> simp_all
theorem runesF_step {f : Nat} {a : Int} {s : List UInt8} {r : Int} {k : Nat} (hs : 0 < s.length) (h : one s = some (r, k)) : runesF (f + 1) a s = (r :: (runesF f (a + k) (s.drop k)).1, (runesF f (a + k) (s.drop k)).2) := by
  rw [runesF_succ, h, if_neg]
  · rfl
  · cases s <;> simp_all
theorem runesF_end (f : Nat) (a : Int) : runesF f a [] = ([], -1) := by cases f <;> rfl
theorem isCont_iff (b : UInt8) : isCont b = true ↔ (b.toNat : Int) - b.toNat % 64 = 128 := by
  simp [isCont]; omega
end Go.AE
end
section
/- Characters and their bytes: plain laws and contracts. -/
namespace Go.AE
open Go.Proofs
set_option maxRecDepth 10000
set_option linter.unusedSimpArgs false

theorem getD_drop (s : List UInt8) (a j : Nat) : (s.drop a).getD j 0 = s.getD (a + j) 0 := by simp [List.getD]
theorem runes_fin {s : List UInt8} {acc : List Int} {f : Nat} {a : Nat} {e : Int} (hr : runes s = (acc ++ (runesF f (↑a) (List.drop a s)).fst, (runesF f (↑a) (List.drop a s)).snd)) (h : runesF f a (s.drop a) = ([], e)) :
    AV.tup [AV.own 21 1 acc.length (List.map I32 acc), AV.v (Value.int IntKind.i64 e)] = AV.tup [AV.own 21 1 (runes s).fst.length (List.map I32 (runes s).fst), AV.v (Value.int IntKind.i64 (runes s).snd)] := by
  rw [hr, h]; simp

theorem utfRunes_spec (s : List UInt8) (hs : s.length ≤ 100000000) : Spec Try.prog 19 [Sv s] (.tup [.own 21 1 (runes s).1.length ((runes s).1.map I32), I64 (runes s).2]) := by
  refine spec_mk (z := false) (ts := [.tmp 2, .tmp 3]) ok1 Try.func19 rfl rfl (by decide +kernel) (by simp [Try.ntmps19]) rfl ?_
  repeat' first | simp (maxSteps := 4000000) (disch := omega) only [bunD, bun, ↓WG_true, ↓WG_false, labelOf, findLabel, Nat.reduceEqDiff, ↓reduceIte, imp, shift, killO, cond_true, cond_false, Nat.reduceBEq, hasId, Nat.reduceAdd, Nat.reduceMul, Nat.reduceSub, Nat.reduceLeDiff, reduceCtorEq, Int.reduceNe, Int.reduceLE, Int.reduceEq, ne_eq, Int.reducePow, Int.reduceAdd, Int.reduceSub, Int.reduceMul, unown, names, plainR, Int.reduceBEq, Int.reduceLT, Int.reduceGT, Int.reduceGE, Int.reduceBNe, below, noF, isF, lendObs, lendOb, kindOk, ren, givL, updM, backO, renO, belowM, B3, B4, B5, B9, B21, B53, bunN, and63_32, and63_8, and31_8, and15_8, and7_8, min6_32, min12_32, min18_32, wrap8, wrap32, wrap64, Int.tdiv_eq_ediv_of_nonneg, Int.tmod_eq_emod_of_nonneg, Int.fdiv_eq_ediv_of_nonneg, or192, or224, or240, or128, or64_32, andnot63_8] | refine DR_q _ ?_ | ((first | refine WG_mk ?_ ?_ | refine CD_mk ?_ ?_ | refine GD_mk ?_ ?_ | refine GQ_mk ?_ ?_ | refine PK_mk ?_ ?_) <;> intro hg <;> (try simp only [hg]) <;> (try simp only [bunB, ne_eq, rlen0] at hg) <;> first | (exfalso; omega) | (exfalso; exact Bool.noConfusion hg) | (exfalso; exact hg trivial) | skip) | refine And.intro (by omega) ?_ | omega
  refine LP_intro (fun x : Nat × Nat × List Int => ⟨[(0, Sv s), (7, I64 x.1), (4, .ref 1 0 x.2.2.length)], [.dead, .arr 21 1 (x.2.2.map I32)]⟩)
    (fun x => x.1 ≤ s.length ∧ s.length + 1 ≤ x.1 + x.2.1 ∧ x.2.2.length ≤ x.1 ∧ runes s = (x.2.2 ++ (runesF x.2.1 x.1 (s.drop x.1)).1, (runesF x.2.1 x.1 (s.drop x.1)).2)) (fun x => s.length - x.1) (0, s.length + 1, []) (by simp [runes]) (by simp [wk, wkT, wkM, noF, isF, get, belowT, belowM, below, belows, I64, I32, Bv, U8, Sv] <;> try omega) ?_
  rintro ⟨a, f, acc⟩ ⟨ha, hf, hn, hr⟩
  dsimp only at ha hf hn hr
  have hb := u8_lt (s.getD a 0)
  repeat' first | refine WE_fit (lead_spec _) ?_ ?_ | simp (maxSteps := 4000000) (disch := omega) only [bunD, bun, ↓WG_true, ↓WG_false, labelOf, findLabel, Nat.reduceEqDiff, ↓reduceIte, imp, shift, killO, cond_true, cond_false, Nat.reduceBEq, hasId, Nat.reduceAdd, Nat.reduceMul, Nat.reduceSub, Nat.reduceLeDiff, reduceCtorEq, Int.reduceNe, Int.reduceLE, Int.reduceEq, ne_eq, Int.reducePow, Int.reduceAdd, Int.reduceSub, Int.reduceMul, unown, names, plainR, Int.reduceBEq, Int.reduceLT, Int.reduceGT, Int.reduceGE, Int.reduceBNe, below, noF, isF, lendObs, lendOb, kindOk, ren, givL, updM, backO, renO, belowM, B3, B4, B5, B9, B21, B53, bunN, and63_32, and63_8, and31_8, and15_8, and7_8, min6_32, min12_32, min18_32, wrap8, wrap32, wrap64, Int.tdiv_eq_ediv_of_nonneg, Int.tmod_eq_emod_of_nonneg, Int.fdiv_eq_ediv_of_nonneg, or192, or224, or240, or128, or64_32, andnot63_8] | exact NK_no _ | refine NK_cl _ _ ?_ | exact clean_v _ | exact clean_u8 _ _ _ _ | exact clean_i32 _ _ _ _ | exact clean_str _ _ _ _ | refine clean_tup _ ?_ | refine clean_ag _ ?_ | exact cleans_nil | refine cleans_cons _ _ ?_ ?_ | refine DR_q _ ?_ | ((first | refine WG_mk ?_ ?_ | refine CD_mk ?_ ?_ | refine GD_mk ?_ ?_ | refine GQ_mk ?_ ?_ | refine PK_mk ?_ ?_) <;> intro hg <;> (try simp only [hg]) <;> (try simp only [bunB, ne_eq, rlen0] at hg) <;> first | (exfalso; omega) | (exfalso; exact Bool.noConfusion hg) | (exfalso; exact hg trivial) | skip) | refine And.intro (by omega) ?_ | omega
  · obtain ⟨f, rfl⟩ : ∃ g, f = g + 1 := ⟨f - 1, by omega⟩
    exact runes_fin hr (runesF_stop (by simp; omega) (one_none (by simp; omega) (by rw [getD_drop]; simp only [List.length_drop, Nat.add_zero]; omega)))
  · obtain ⟨f, rfl⟩ : ∃ g, f = g + 1 := ⟨f - 1, by omega⟩
    exact runes_fin hr (runesF_stop (by simp; omega) (one_none (by simp; omega) (by rw [getD_drop]; simp only [List.length_drop, Nat.add_zero]; omega)))
  · obtain ⟨f, rfl⟩ : ∃ g, f = g + 1 := ⟨f - 1, by omega⟩
    have hlo := lead_or (s.getD a 0).toNat
    have hls := lead_snd (c := (s.getD a 0).toNat) (by omega)
    obtain ⟨n, hn0⟩ : ∃ n : Nat, (lead (s.getD a 0).toNat).1 = n := ⟨(lead (s.getD a 0).toNat).1.toNat, by omega⟩
    have g1 : (a : Int) < s.length := by omega
    have g2 : (n : Int) < s.length - a := by omega
    have g3 : (n : Int) ≤ 3 := by omega
    have hg0 : (s.drop a).getD 0 0 = s.getD a 0 := by rw [getD_drop]; rfl
    have hdd : (s.drop a).drop 1 = s.drop (a + 1) := by rw [List.drop_drop]
    simp only [hn0]
    refine LP_intro (fun j : Nat => ⟨[(0, Sv s), (7, I64 a), (4, .ref 1 0 acc.length), (5, I64 n), (6, I32 (foldB (lead (s.getD a 0).toNat).2 ((s.drop (a + 1)).take j))), (8, I64 (a + 1 + j))], [.dead, .arr 21 1 (acc.map I32)]⟩)
      (fun j => j ≤ n ∧ ((s.drop (a + 1)).take j).all isCont = true) (fun j => n - j) 0 (by simp) (by simp [wk, wkT, wkM, noF, isF, get, belowT, belowM, below, belows, I64, I32, Bv, U8, Sv, foldB]) ?_
    rintro j ⟨hj, hc⟩
    have hT : ((a : Int) + 1 + j).toNat = a + 1 + j := by omega
    have hb1 := u8_lt (s.getD (a + 1 + j) 0)
    have hF : j < n → 0 ≤ foldB (lead (s.getD a 0).toNat).2 ((s.drop (a + 1)).take j) ∧ foldB (lead (s.getD a 0).toNat).2 ((s.drop (a + 1)).take j) < 16777216 := fun h => foldB_small2 hls.1 hls.2 (by simp; omega)
    repeat' first | refine WE_fit (len_spec _) ?_ ?_ | simp (maxSteps := 4000000) (disch := omega) only [bunD, bun, ↓WG_true, ↓WG_false, labelOf, findLabel, Nat.reduceEqDiff, ↓reduceIte, imp, shift, killO, cond_true, cond_false, Nat.reduceBEq, hasId, Nat.reduceAdd, Nat.reduceMul, Nat.reduceSub, Nat.reduceLeDiff, reduceCtorEq, Int.reduceNe, Int.reduceLE, Int.reduceEq, ne_eq, Int.reducePow, Int.reduceAdd, Int.reduceSub, Int.reduceMul, unown, names, plainR, Int.reduceBEq, Int.reduceLT, Int.reduceGT, Int.reduceGE, Int.reduceBNe, below, noF, isF, lendObs, lendOb, kindOk, ren, givL, updM, backO, renO, belowM, hT, B3, B4, B5, B9, B21, B53, bunN, and63_32, and63_8, and31_8, and15_8, and7_8, min6_32, min12_32, min18_32, wrap8, wrap32, wrap64, Int.tdiv_eq_ediv_of_nonneg, Int.tmod_eq_emod_of_nonneg, Int.fdiv_eq_ediv_of_nonneg, or192, or224, or240, or128, or64_32, andnot63_8] | exact NK_no _ | refine NK_cl _ _ ?_ | exact clean_v _ | exact clean_u8 _ _ _ _ | exact clean_i32 _ _ _ _ | exact clean_str _ _ _ _ | refine clean_tup _ ?_ | refine clean_ag _ ?_ | exact cleans_nil | refine cleans_cons _ _ ?_ ?_ | refine DR_q _ ?_ | ((first | refine WG_mk ?_ ?_ | refine CD_mk ?_ ?_ | refine GD_mk ?_ ?_ | refine GQ_mk ?_ ?_ | refine PK_mk ?_ ?_) <;> intro hg <;> (try simp only [hg]) <;> (try simp only [bunB, ne_eq, rlen0] at hg) <;> first | (exfalso; omega) | (exfalso; exact Bool.noConfusion hg) | (exfalso; exact hg trivial) | skip) | refine And.intro (by omega) ?_ | omega
    · rename_i hg
      refine runes_fin hr (runesF_stop (by simp; omega) (one_bad (j := j) (by simp; omega) (by rw [hg0, hn0]; omega) ?_))
      rw [getD_drop, show a + (j + 1) = a + 1 + j by omega]
      exact Bool.eq_false_iff.2 fun h => hg ((isCont_iff _).1 h)
    · rename_i hg
      have e : (s.drop (a + 1)).take (j + 1) = (s.drop (a + 1)).take j ++ [s.getD (a + 1 + j) 0] := by rw [take_snocD _ _ 0 (by simp; omega), getD_drop]
      refine ⟨j + 1, ⟨by omega, ?_⟩, by omega, ?_⟩
      · rw [e, List.all_append, hc]; simp only [List.all_cons, List.all_nil, (isCont_iff _).2 hg]; rfl
      · rw [e, foldB_snoc]
        generalize s.getD (a + 1 + j) 0 = c at *
        generalize foldB (lead (s.getD a 0).toNat).2 ((s.drop (a + 1)).take j) = r at *
        (simp (disch := omega) [wk, wkT, wkM, noF, isF, get, belowT, belowM, below, belows, I64, I32, Bv, U8, Sv, hn] <;> try omega)
    · rename_i hg
      have e : j = n := by omega
      subst e
      refine runes_fin hr (runesF_stop (by simp; omega) ?_)
      rw [one_last (n := j) (by simp; omega) (by rw [hg0, hn0]) (by simp; omega) (by rw [hdd]; exact hc), hg0, hdd, if_neg hg]
    · rename_i hg
      have e : j = n := by omega
      subst e
      have h1 := one_last (s := s.drop a) (n := j) (by simp; omega) (by rw [hg0, hn0]) (by simp; omega) (by rw [hdd]; exact hc)
      rw [hg0, hdd, if_pos hg] at h1
      have h2 := runesF_step (f := f) (a := (a : Int)) (by simp; omega) h1
      rw [List.drop_drop] at h2
      refine ⟨(a + (j + 1), f, acc ++ [foldB (lead (s.getD a 0).toNat).2 ((s.drop (a + 1)).take j)]), ⟨by dsimp only; omega, by dsimp only; omega, by simp; omega, ?_⟩, by dsimp only; omega, ?_⟩
      · rw [hr, h2]
        simp [Int.add_assoc]
      · generalize foldB (lead (s.getD a 0).toNat).2 ((s.drop (a + 1)).take j) = r at *
        (simp (disch := omega) [wk, wkT, wkM, noF, isF, get, belowT, belowM, below, belows, I64, I32, Bv, U8, Sv, hn] <;> try omega)
  · have : s.drop a = [] := List.drop_of_length_le (by omega)
    exact runes_fin hr (by rw [this, runesF_end])
end Go.AE
end
section
/- Characters and their bytes: plain laws and contracts. -/
namespace Go.AE
open Go.Proofs
set_option maxRecDepth 10000
set_option linter.unusedSimpArgs false

theorem ofI_self (c : UInt8) : ofI (c.toNat : Int) = c := by simp [ofI]
theorem ofI_eq {n : Int} {c : UInt8} (h : n = c.toNat) : ofI n = c := by rw [h, ofI_self]

def dec (m : Nat) (s : List UInt8) : Int :=
  if m = 2 then ((s.getD 0 0).toNat : Int) % 32 * 64 + ((s.getD 1 0).toNat : Int) % 64
  else if m = 3 then ((s.getD 0 0).toNat : Int) % 16 * 4096 + ((s.getD 1 0).toNat : Int) % 64 * 64 + ((s.getD 2 0).toNat : Int) % 64
  else if m = 4 then ((s.getD 0 0).toNat : Int) % 8 * 262144 + ((s.getD 1 0).toNat : Int) % 64 * 4096 + ((s.getD 2 0).toNat : Int) % 64 * 64 + ((s.getD 3 0).toNat : Int) % 64
  else ((s.getD 0 0).toNat : Int)

theorem lead_inv {c : Int} {n : Nat} (h : (lead c).1 = n) : (n = 0 ∧ c < 128 ∧ (lead c).2 = c) ∨ (n = 1 ∧ 194 ≤ c ∧ c < 224 ∧ (lead c).2 = c % 32) ∨ (n = 2 ∧ 224 ≤ c ∧ c < 240 ∧ (lead c).2 = c % 16) ∨ (n = 3 ∧ 240 ≤ c ∧ c < 245 ∧ (lead c).2 = c % 8) := by
  unfold lead at h ⊢
  repeat' (split at h)
  all_goals (simp at h; try omega)
  all_goals (simp (disch := omega) only [if_pos, if_neg]; simp; omega)

theorem one_some {s : List UInt8} {r : Int} {k : Nat} (h : one s = some (r, k)) : rlen r = k ∧ enc r = s.take k ∧ k ≤ s.length ∧ 0 < k := by
  cases s with
  | nil => simp [one] at h
  | cons c t =>
    simp only [one] at h
    split at h
    · simp at h
    · rename_i h0
      split at h
      · rename_i h1
        obtain ⟨n, hn⟩ : ∃ n : Nat, (lead c.toNat).1 = n := ⟨(lead c.toNat).1.toNat, by omega⟩
        rw [hn] at h0 h1 h
        simp only [Int.toNat_natCast, Option.some.injEq, Prod.mk.injEq] at h h1
        obtain ⟨h2, h3⟩ := h
        obtain ⟨hc, hl⟩ := h1
        have hlt := u8_lt c
        rw [h2] at hl
        subst h3
        refine ⟨by omega, ?_, by simp; omega, by omega⟩
        rcases lead_inv hn with ⟨e, h4, h5⟩ | ⟨e, h4, h6, h5⟩ | ⟨e, h4, h6, h5⟩ | ⟨e, h4, h6, h5⟩
        · subst e
          rw [h5] at h2
          simp [foldB] at h2
          rw [enc1 (by omega), ← h2, ofI_self]; rfl
        · subst e
          match t, hc, h2, h0 with
          | b1 :: t, hc, h2, h0 =>
            have hb := u8_lt b1
            simp [isCont] at hc
            rw [h5] at h2
            simp [foldB] at h2
            rw [enc2 ((rlen2 r).1 (by omega)), ofI_eq (c := c) (by omega), ofI_eq (c := b1) (by omega)]; rfl
          | [], _, _, h0 => simp at h0; try omega
        · subst e
          match t, hc, h2, h0 with
          | b1 :: b2 :: t, hc, h2, h0 =>
            have hb := u8_lt b1
            have hb := u8_lt b2
            simp [isCont] at hc
            rw [h5] at h2
            simp [foldB] at h2
            rw [enc3 ((rlen3 r).1 (by omega)), ofI_eq (c := c) (by omega), ofI_eq (c := b1) (by omega), ofI_eq (c := b2) (by omega)]; rfl
          | [], _, _, h0 => simp at h0; try omega
          | [_], _, _, h0 => simp at h0; try omega
        · subst e
          match t, hc, h2, h0 with
          | b1 :: b2 :: b3 :: t, hc, h2, h0 =>
            have hb := u8_lt b1
            have hb := u8_lt b2
            have hb := u8_lt b3
            simp [isCont] at hc
            rw [h5] at h2
            simp [foldB] at h2
            rw [enc4 ((rlen4 r).1 (by omega)), ofI_eq (c := c) (by omega), ofI_eq (c := b1) (by omega), ofI_eq (c := b2) (by omega), ofI_eq (c := b3) (by omega)]; rfl
          | [], _, _, h0 => simp at h0; try omega
          | [_], _, _, h0 => simp at h0; try omega
          | [_, _], _, _, h0 => simp at h0; try omega
      · simp at h

theorem one_mk {c : UInt8} {t : List UInt8} {r : Int} {n : Nat} (h1 : (lead c.toNat).1 = n) (h2 : n ≤ t.length) (h3 : (t.take n).all isCont = true) (h4 : foldB (lead c.toNat).2 (t.take n) = r) (h5 : rlen r = n + 1) : one (c :: t) = some (r, n + 1) := by
  have := one_last (s := c :: t) (n := n) (by simp) h1 (by simp; omega) h3
  rw [this, if_pos]
  · simp only [List.getD_cons_zero, List.drop_succ_cons, List.drop_zero, h4]
  · simp only [List.getD_cons_zero, List.drop_succ_cons, List.drop_zero, h4, h5]

theorem isCont_ofI {n : Int} (h : 128 ≤ n) (k : n < 192) : isCont (ofI n) = true := by
  have := ofI_toNat (n := n) (by omega) (by omega)
  simp [isCont]; omega

theorem one_enc {r : Int} (h : right r = true) (t : List UInt8) : one (enc r ++ t) = some (r, (enc r).length) := by
  rcases rlen_or r with hr | hr | hr | hr | hr
  · rw [(rlen0 r).1 hr] at h; simp at h
  · have hb := (rlen1 r).1 hr
    rw [enc1 hb]; simp only [List.cons_append, List.nil_append]
    refine one_mk (n := 0) ?_ (by simp) (by simp) ?_ (by omega) <;> rw [ofI_toNat (by omega) (by omega)]
    · simp (disch := omega) only [lead, if_pos]; rfl
    · simp (disch := omega) only [lead, if_pos]; rfl
  · have hb := (rlen2 r).1 hr
    rw [enc2 hb]; simp only [List.cons_append, List.nil_append]
    refine one_mk (n := 1) ?_ (by simp) ?_ ?_ (by omega)
    · rw [ofI_toNat (by omega) (by omega)]; simp (disch := omega) only [lead, if_pos, if_neg]; rfl
    · simp only [List.nil_append, List.cons_append, List.take_succ_cons, List.take_zero, List.all_cons, List.all_nil]
      rw [isCont_ofI (by omega) (by omega)]; rfl
    · rw [ofI_toNat (by omega) (by omega)]
      simp (disch := omega) only [lead, if_pos, if_neg, List.nil_append, List.cons_append, List.take_succ_cons, List.take_zero, foldB, List.foldl_cons, List.foldl_nil, ofI_toNat]
      omega
  · have hb := (rlen3 r).1 hr
    rw [enc3 hb]; simp only [List.cons_append, List.nil_append]
    refine one_mk (n := 2) ?_ (by simp) ?_ ?_ (by omega)
    · rw [ofI_toNat (by omega) (by omega)]; simp (disch := omega) only [lead, if_pos, if_neg]; rfl
    · simp only [List.nil_append, List.cons_append, List.take_succ_cons, List.take_zero, List.all_cons, List.all_nil]
      rw [isCont_ofI (by omega) (by omega), isCont_ofI (by omega) (by omega)]; rfl
    · rw [ofI_toNat (by omega) (by omega)]
      simp (disch := omega) only [lead, if_pos, if_neg, List.nil_append, List.cons_append, List.take_succ_cons, List.take_zero, foldB, List.foldl_cons, List.foldl_nil, ofI_toNat]
      omega
  · have hb := (rlen4 r).1 hr
    rw [enc4 hb]; simp only [List.cons_append, List.nil_append]
    refine one_mk (n := 3) ?_ (by simp) ?_ ?_ (by omega)
    · rw [ofI_toNat (by omega) (by omega)]; simp (disch := omega) only [lead, if_pos, if_neg]; rfl
    · simp only [List.nil_append, List.cons_append, List.take_succ_cons, List.take_zero, List.all_cons, List.all_nil]
      rw [isCont_ofI (by omega) (by omega), isCont_ofI (by omega) (by omega), isCont_ofI (by omega) (by omega)]; rfl
    · rw [ofI_toNat (by omega) (by omega)]
      simp (disch := omega) only [lead, if_pos, if_neg, List.nil_append, List.cons_append, List.take_succ_cons, List.take_zero, foldB, List.foldl_cons, List.foldl_nil, ofI_toNat]
      omega

theorem dec2 (s : List UInt8) : dec 2 s = ((s.getD 0 0).toNat : Int) % 32 * 64 + ((s.getD 1 0).toNat : Int) % 64 := rfl
theorem dec3 (s : List UInt8) : dec 3 s = ((s.getD 0 0).toNat : Int) % 16 * 4096 + ((s.getD 1 0).toNat : Int) % 64 * 64 + ((s.getD 2 0).toNat : Int) % 64 := rfl
theorem dec4 (s : List UInt8) : dec 4 s = ((s.getD 0 0).toNat : Int) % 8 * 262144 + ((s.getD 1 0).toNat : Int) % 64 * 4096 + ((s.getD 2 0).toNat : Int) % 64 * 64 + ((s.getD 3 0).toNat : Int) % 64 := rfl
theorem dec1 (s : List UInt8) : dec 1 s = ((s.getD 0 0).toNat : Int) := rfl
theorem dec_enc {r : Int} (h : right r = true) (t : List UInt8) : dec (rlen r).toNat (enc r ++ t) = r := by
  rcases rlen_or r with hr | hr | hr | hr | hr
  · rw [(rlen0 r).1 hr] at h; simp at h
  · have hb := (rlen1 r).1 hr
    rw [enc1 hb, hr, show (1 : Int).toNat = 1 from rfl, dec1]
    simp (disch := omega) only [ofI_toNat, List.cons_append, List.nil_append, List.getD_cons_zero, List.getD_cons_succ]
  · have hb := (rlen2 r).1 hr
    rw [enc2 hb, hr, show (2 : Int).toNat = 2 from rfl, dec2]
    simp (disch := omega) only [ofI_toNat, List.cons_append, List.nil_append, List.getD_cons_zero, List.getD_cons_succ]
    omega
  · have hb := (rlen3 r).1 hr
    rw [enc3 hb, hr, show (3 : Int).toNat = 3 from rfl, dec3]
    simp (disch := omega) only [ofI_toNat, List.cons_append, List.nil_append, List.getD_cons_zero, List.getD_cons_succ]
    omega
  · have hb := (rlen4 r).1 hr
    rw [enc4 hb, hr, show (4 : Int).toNat = 4 from rfl, dec4]
    simp (disch := omega) only [ofI_toNat, List.cons_append, List.nil_append, List.getD_cons_zero, List.getD_cons_succ]
    omega
theorem one_of {s : List UInt8} {n : Nat} (hn : rlen (dec n s) = n) (h0 : 0 < n) (he : enc (dec n s) = s.take n) : one s = some (dec n s, n) := by
  have hr : right (dec n s) = true := by
    cases h : right (dec n s) with
    | true => rfl
    | false => have := (rlen0 _).2 h; omega
  have hl := enc_length (dec n s)
  have := one_enc hr (s.drop n)
  rw [he, List.take_append_drop] at this
  rw [this, ← he]
  congr 2
  omega
theorem one_not {s : List UInt8} (h : ∀ n, 0 < n → n ≤ 4 → n ≤ s.length → ¬ (rlen (dec n s) = n ∧ enc (dec n s) = s.take n)) : one s = none := by
  cases ho : one s with
  | none => rfl
  | some p =>
    obtain ⟨r, k⟩ := p
    obtain ⟨h1, h2, h3, h4⟩ := one_some ho
    exfalso
    have hr : right r = true := by
      cases h : right r with
      | true => rfl
      | false => have := (rlen0 _).2 h; omega
    have h5 := dec_enc hr (s.drop k)
    rw [h2, List.take_append_drop, h1, Int.toNat_natCast] at h5
    refine h k h4 ?_ h3 ?_
    · have := rlen_or r; omega
    · rw [h5]; exact ⟨h1, h2⟩
end Go.AE
end
section
/- Characters and their bytes: plain laws and contracts. -/
namespace Go.AE
open Go.Proofs
set_option maxRecDepth 10000
set_option linter.unusedSimpArgs false

theorem one_hit {s : List UInt8} {n : Nat} {x : Int} (hd : dec n s = x) (h1 : rlen x = n) (h2 : enc x = s.take n) (h0 : 1 ≤ n) :
    AV.tup [.v (.int .i32 x), .v (.int .i64 n)] = AV.tup [.v (.int .i32 ((one s).getD (0, 0)).1), .v (.int .i64 ((one s).getD (0, 0)).2)] := by
  subst hd
  rw [one_of h1 (by omega) h2]; rfl
theorem one_miss {s : List UInt8} {n : Nat} (hall : ∀ m : Nat, 0 < m → m < n → ¬ (rlen (dec m s) = m ∧ enc (dec m s) = s.take m)) (h : ¬ (rlen (dec n s) = n ∧ enc (dec n s) = s.take n)) :
    ∀ m : Nat, 0 < m → m < n + 1 → ¬ (rlen (dec m s) = m ∧ enc (dec m s) = s.take m) := by
  intro m h0 h1
  by_cases e : m = n
  · subst e; exact h
  · exact hall m h0 (by omega)
theorem one_miss_r {s : List UInt8} {n : Nat} {x : Int} (hb : ¬ rlen x = n) (hall : ∀ m : Nat, 0 < m → m < n → ¬ (rlen (dec m s) = m ∧ enc (dec m s) = s.take m)) (hd : dec n s = x) :
    ∀ m : Nat, 0 < m → m < n + 1 → ¬ (rlen (dec m s) = m ∧ enc (dec m s) = s.take m) := one_miss hall (by rw [hd]; exact fun h => hb h.1)
theorem one_miss_e {s : List UInt8} {n : Nat} {x : Int} (hb : ¬ enc x = s.take n) (hall : ∀ m : Nat, 0 < m → m < n → ¬ (rlen (dec m s) = m ∧ enc (dec m s) = s.take m)) (hd : dec n s = x) :
    ∀ m : Nat, 0 < m → m < n + 1 → ¬ (rlen (dec m s) = m ∧ enc (dec m s) = s.take m) := one_miss hall (by rw [hd]; exact fun h => hb h.2)

/-- The place of the first byte that is no ASCII. -/
def eightF : Nat → List UInt8 → Int
  | _, [] => -1
  | i, b :: l => if 128 ≤ b.toNat then i else eightF (i + 1) l
def eight (s : List UInt8) : Int := eightF 0 s
theorem eightF_hit {s : List UInt8} {i : Nat} (h : i < s.length) (hb : 128 ≤ (s.getD i 0).toNat) (ha : ∀ j, j < i → ¬ 128 ≤ (s.getD j 0).toNat) : eight s = i := by
  have key : ∀ (s : List UInt8) (i k : Nat), i < s.length → 128 ≤ (s.getD i 0).toNat → (∀ j, j < i → ¬ 128 ≤ (s.getD j 0).toNat) → eightF k s = (k + i : Nat) := by
    intro s
    induction s with
    | nil => intro i k h; simp at h
    | cons b l ih =>
      intro i k h hb ha
      cases i with
      | zero => simp only [eightF]; rw [if_pos (by simpa using hb)]; rfl
      | succ i =>
        simp only [eightF]
        rw [if_neg (by simpa using ha 0 (by omega)), ih i (k + 1) (by simpa using h) (by simpa using hb) (fun j hj => by simpa using ha (j + 1) (by omega))]
        congr 1; omega
  have := key s i 0 h hb ha
  simpa [eight] using this
theorem eightF_miss {s : List UInt8} (ha : ∀ j, j < s.length → ¬ 128 ≤ (s.getD j 0).toNat) : eight s = -1 := by
  have key : ∀ (s : List UInt8) (k : Nat), (∀ j, j < s.length → ¬ 128 ≤ (s.getD j 0).toNat) → eightF k s = -1 := by
    intro s
    induction s with
    | nil => intro k h; rfl
    | cons b l ih =>
      intro k ha
      simp only [eightF]
      rw [if_neg (by simpa using ha 0 (by simp)), ih (k + 1) (fun j hj => by simpa using ha (j + 1) (by simpa using hj))]
  exact key s 0 ha

theorem eight_next {s : List UInt8} {i : Nat} (ha : ∀ j, j < i → ¬ 128 ≤ (s.getD j 0).toNat) (h : ¬ 128 ≤ (s.getD i 0).toNat) : ∀ j, j < i + 1 → ¬ 128 ≤ (s.getD j 0).toNat := by
  intro j hj
  by_cases e : j = i
  · subst e; exact h
  · exact ha j (by omega)

theorem utfEight_spec (s : List UInt8) (hs : s.length ≤ 100000000) : Spec Try.prog 12 [Sv s] (I64 (eight s)) := by
  refine spec_mk (z := false) (ts := [.tmp 2]) ok1 Try.func12 rfl rfl (by decide +kernel) (by simp [Try.ntmps12]) rfl ?_
  repeat' first | simp (maxSteps := 4000000) (disch := omega) only [bunD, bun, ↓WG_true, ↓WG_false, labelOf, findLabel, Nat.reduceEqDiff, ↓reduceIte, imp, shift, killO, cond_true, cond_false, Nat.reduceBEq, hasId, Nat.reduceAdd, Nat.reduceMul, Nat.reduceSub, Nat.reduceLeDiff, reduceCtorEq, Int.reduceNe, Int.reduceLE, Int.reduceEq, ne_eq, Int.reducePow, Int.reduceAdd, Int.reduceSub, Int.reduceMul, unown, names, plainR, Int.reduceBEq, Int.reduceLT, Int.reduceGT, Int.reduceGE, Int.reduceBNe, below, noF, isF, lendObs, lendOb, kindOk, ren, givL, updM, backO, renO, belowM, B3, B4, B5, B9, bunN, and63_32, and63_8, and31_8, and15_8, and7_8, min6_32, min12_32, min18_32, wrap8, wrap32, wrap64, Int.tdiv_eq_ediv_of_nonneg, Int.tmod_eq_emod_of_nonneg, Int.fdiv_eq_ediv_of_nonneg, or192, or224, or240, or128, or64_32, andnot63_8] | refine DR_q _ ?_ | ((first | refine WG_mk ?_ ?_ | refine CD_mk ?_ ?_ | refine GD_mk ?_ ?_ | refine GQ_mk ?_ ?_ | refine PK_mk ?_ ?_) <;> intro hg <;> (try simp only [hg]) <;> (try simp only [bunB, ne_eq, rlen0] at hg) <;> first | (exfalso; omega) | (exfalso; exact Bool.noConfusion hg) | (exfalso; exact hg trivial) | skip) | refine And.intro (by omega) ?_ | omega
  refine LP_intro (fun i : Nat => ⟨[(0, Sv s), (4, Sv s), (5, I64 s.length), (6, I64 i)], []⟩) (fun i => i ≤ s.length ∧ ∀ j, j < i → ¬ 128 ≤ (s.getD j 0).toNat) (fun i => s.length - i) 0 (by simp) (by simp [wk, wkT, wkM, noF, isF, get, belowT, belowM, below, belows, I64, I32, Bv, U8, Sv] <;> try omega) ?_
  rintro i ⟨hi, ha⟩
  repeat' first | simp (maxSteps := 4000000) (disch := omega) only [bunD, bun, ↓WG_true, ↓WG_false, labelOf, findLabel, Nat.reduceEqDiff, ↓reduceIte, imp, shift, killO, cond_true, cond_false, Nat.reduceBEq, hasId, Nat.reduceAdd, Nat.reduceMul, Nat.reduceSub, Nat.reduceLeDiff, reduceCtorEq, Int.reduceNe, Int.reduceLE, Int.reduceEq, ne_eq, Int.reducePow, Int.reduceAdd, Int.reduceSub, Int.reduceMul, unown, names, plainR, Int.reduceBEq, Int.reduceLT, Int.reduceGT, Int.reduceGE, Int.reduceBNe, below, noF, isF, lendObs, lendOb, kindOk, ren, givL, updM, backO, renO, belowM, B3, B4, B5, B9, bunN, and63_32, and63_8, and31_8, and15_8, and7_8, min6_32, min12_32, min18_32, wrap8, wrap32, wrap64, Int.tdiv_eq_ediv_of_nonneg, Int.tmod_eq_emod_of_nonneg, Int.fdiv_eq_ediv_of_nonneg, or192, or224, or240, or128, or64_32, andnot63_8] | refine DR_q _ ?_ | ((first | refine WG_mk ?_ ?_ | refine CD_mk ?_ ?_ | refine GD_mk ?_ ?_ | refine GQ_mk ?_ ?_ | refine PK_mk ?_ ?_) <;> intro hg <;> (try simp only [hg]) <;> (try simp only [bunB, ne_eq, rlen0] at hg) <;> first | (exfalso; omega) | (exfalso; exact Bool.noConfusion hg) | (exfalso; exact hg trivial) | skip) | refine And.intro (by omega) ?_ | omega
  · rw [eightF_hit (by omega) (by omega) ha]
  · exact ⟨i + 1, ⟨by omega, eight_next ha (by omega)⟩, by omega, (by simp [wk, wkT, wkM, noF, isF, get, belowT, belowM, below, belows, I64, I32, Bv, U8, Sv] <;> try omega)⟩
  · rw [eightF_miss (fun j hj => ha j (by omega))]
end Go.AE
end
section
/- Characters and their bytes: plain laws and contracts. -/
namespace Go.AE
open Go.Proofs
set_option maxRecDepth 10000
set_option linter.unusedSimpArgs false

theorem runesF_len (f : Nat) : ∀ (a : Int) (s : List UInt8), (runesF f a s).1.length ≤ s.length := by
  induction f with
  | zero => intro a s; simp [runesF]
  | succ f ih =>
    intro a s
    rw [runesF_succ]
    split
    · simp
    · cases ho : one s with
      | none => simp [runesN]
      | some p =>
        obtain ⟨r, k⟩ := p
        obtain ⟨h1, h2, h3, h4⟩ := one_some ho
        have := ih (a + k) (s.drop k)
        simp only [List.length_drop] at this
        simp only [runesN, List.length_cons]
        omega
theorem runes_len (s : List UInt8) : (runes s).1.length ≤ s.length := runesF_len _ _ _

end Go.AE
end
