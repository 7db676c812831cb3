/- Contracts of functions that the laws of this seat reach, and plain laws of what they compute. No condition beyond each statement's own. -/
import Derived.Test.YtekgeapohenheaaGreatU1
set_option linter.unusedVariables false
set_option linter.unusedSimpArgs false
/- Chapter 7, plain: what characters need around them. -/
namespace Go.AE
def bn (L : List Int) (k d : Int) : Int := if 0 ≤ k ∧ k < L.length then L.getD k.toNat 0 else d
def jl : List Int → Int
  | [] => 0
  | c :: l => if join c = 3 then jl l else join c
def jb (L : List Int) : Nat → Int
  | 0 => 0
  | k + 1 => if join (L.getD k 0) = 3 then jb L k else join (L.getD k 0)
def arA (r : Int) : Bool := decide (1632 ≤ r) && decide (r ≤ 1641)
def arB (r : Int) : Bool := decide (1776 ≤ r) && decide (r ≤ 1785)
def asn (r : Int) : Bool := (script r == 7) || (script r == 8)
def deadB (L : List Int) (k : Int) : Bool := cls (bn L (k - 1) (-1)) == 9
def boundB (L : List Int) (k : Nat) : Bool := deadB L k || ((jb L k == 1) && ((jl (L.drop (k + 1)) == 1) || (jl (L.drop (k + 1)) == 2)))
def betwB (L : List Int) (k : Int) : Bool := (bn L (k - 1) (-1) == 108) && (bn L (k + 1) (-1) == 108)
def greekB (L : List Int) (k : Int) : Bool := script (bn L (k + 1) (-1)) == 2
def hebB (L : List Int) (k : Int) : Bool := script (bn L (k - 1) (-1)) == 4
inductive Rl where
  | no | a | b | de | bo | be | gr | he | as
  deriving DecidableEq
def rl (r : Int) : Rl := if arA r then .a else if arB r then .b else if r = 8205 then .de else if r = 8204 then .bo else if r = 183 then .be else if r = 885 then .gr else if r = 1523 then .he else if r = 1524 then .he else if r = 12539 then .as else .no
def mets (L : List Int) (k : Nat) : Rl → Bool
  | .no => true
  | .a => !L.any arB
  | .b => !L.any arA
  | .de => deadB L k
  | .bo => boundB L k
  | .be => betwB L k
  | .gr => greekB L k
  | .he => hebB L k
  | .as => L.any asn
def needN (L : List Int) (k : Nat) : Int := if rl (L.getD k 0) = .no then 0 else if mets L k (rl (L.getD k 0)) then 1 else 2
def need (L : List Int) (k : Int) : Int := if 0 ≤ k ∧ k < L.length then needN L k.toNat else 0
def allok (L : List Int) : Bool := (List.range L.length).all fun i => needN L i != 2
def needsB (r : Int) : Bool := rl r != .no

theorem rl_cases (r : Int) : (arA r = true ∧ rl r = .a) ∨ (arA r = false ∧ arB r = true ∧ rl r = .b) ∨ (r = 8205 ∧ rl r = .de) ∨ (r = 8204 ∧ rl r = .bo) ∨ (r = 183 ∧ rl r = .be) ∨ (r = 885 ∧ rl r = .gr) ∨
    (r = 1523 ∧ rl r = .he) ∨ (r = 1524 ∧ rl r = .he) ∨ (r = 12539 ∧ rl r = .as) ∨
    ((arA r = false ∧ arB r = false ∧ r ≠ 8205 ∧ r ≠ 8204 ∧ r ≠ 183 ∧ r ≠ 885 ∧ r ≠ 1523 ∧ r ≠ 1524 ∧ r ≠ 12539) ∧ rl r = .no) := by
  by_cases h : r = 8205
  · subst h; right; right; left; exact ⟨rfl, by decide⟩
  by_cases h : r = 8204
  · subst h; right; right; right; left; exact ⟨rfl, by decide⟩
  by_cases h : r = 183
  · subst h; iterate 4 right
    left; exact ⟨rfl, by decide⟩
  by_cases h : r = 885
  · subst h; iterate 5 right
    left; exact ⟨rfl, by decide⟩
  by_cases h : r = 1523
  · subst h; iterate 6 right
    left; exact ⟨rfl, by decide⟩
  by_cases h : r = 1524
  · subst h; iterate 7 right
    left; exact ⟨rfl, by decide⟩
  by_cases h : r = 12539
  · subst h; iterate 8 right
    left; exact ⟨rfl, by decide⟩
  cases ha : arA r with
  | true => left; exact ⟨rfl, by simp [rl, ha]⟩
  | false =>
    cases hb : arB r with
    | true => right; left; exact ⟨rfl, rfl, by simp [rl, ha, hb]⟩
    | false =>
      iterate 9 right
      refine ⟨⟨rfl, rfl, ?_⟩, ?_⟩
      · simp [*]
      · simp [rl, *]

theorem ran_pos : (ranges.all fun x => decide (0 ≤ x.1)) = true := by decide +kernel
theorem join_neg {c : Int} (h : c < 0) : join c = 0 := by
  have hf : ranges.find? (rangeP c) = none := by
    rw [List.find?_eq_none]
    intro x hx hp
    have := List.all_eq_true.1 ran_pos x hx
    simp only [rangeP, Bool.and_eq_true, decide_eq_true_eq] at hp this
    omega
  simp [join, ofR, hf, range0]
theorem cls_m1 : cls (-1) = 0 := by decide +kernel
theorem scr_m1 : script (-1) = 0 := by decide +kernel
theorem scr_0 : script 0 = 0 := by decide +kernel

theorem bn_in {L : List Int} {k : Nat} (d : Int) (h : k < L.length) : bn L k d = L.getD k 0 := by simp [bn, h]
theorem bn_lt {L : List Int} {k : Int} (d : Int) (h : k < 0) : bn L k d = d := by simp [bn]; omega
theorem bn_ge {L : List Int} {k : Int} (d : Int) (h : (L.length : Int) ≤ k) : bn L k d = d := by simp [bn]; omega

theorem drop_getD {L : List Int} {k : Nat} (h : k < L.length) : L.drop k = L.getD k 0 :: L.drop (k + 1) := by
  rw [List.drop_eq_getElem_cons h]; congr 1; simp [List.getD, h]
theorem jl_out {L : List Int} {k : Nat} (h : L.length ≤ k) : jl (L.drop k) = 0 := by rw [List.drop_eq_nil_of_le h]; rfl
theorem jl_skip {L : List Int} {k : Nat} (h : k < L.length) (hj : join (L.getD k 0) = 3) : jl (L.drop k) = jl (L.drop (k + 1)) := by rw [drop_getD h, jl, if_pos hj]
theorem jl_stop {L : List Int} {k : Nat} (h : k < L.length) (hj : join (L.getD k 0) ≠ 3) : jl (L.drop k) = join (L.getD k 0) := by rw [drop_getD h, jl, if_neg hj]
theorem jb_skip {L : List Int} {k : Nat} (hj : join (L.getD k 0) = 3) : jb L (k + 1) = jb L k := by rw [jb, if_pos hj]
theorem jb_stop {L : List Int} {k : Nat} (hj : join (L.getD k 0) ≠ 3) : jb L (k + 1) = join (L.getD k 0) := by rw [jb, if_neg hj]

theorem jb_skip' {L : List Int} {k : Nat} (h : 0 < k) (hj : join (L.getD (k - 1) 0) = 3) : jb L k = jb L (k - 1) := by
  cases k with
  | zero => omega
  | succ k => exact jb_skip hj
theorem jb_stop' {L : List Int} {k : Nat} (h : 0 < k) (hj : join (L.getD (k - 1) 0) ≠ 3) : jb L k = join (L.getD (k - 1) 0) := by
  cases k with
  | zero => omega
  | succ k => exact jb_stop hj
theorem any_at {L : List Int} {p : Int → Bool} {i : Nat} (h : i < L.length) (hp : p (L.getD i 0) = true) : L.any p = true := by
  rw [List.any_eq_true]
  exact ⟨L[i], List.getElem_mem h, by simpa [List.getD, h] using hp⟩
theorem any_no {L : List Int} {p : Int → Bool} {i : Nat} (hno : ∀ j, j < i → p (L.getD j 0) = false) (h : ¬ i < L.length) : L.any p = false := by
  rw [List.any_eq_false]
  intro x hx
  obtain ⟨j, hj, rfl⟩ := List.getElem_of_mem hx
  have := hno j (by omega)
  simpa [List.getD, hj] using this
theorem idx_any {L : List Int} {p : Int → Bool} {n : Nat} (hl : L.length = n) : (decide (idx n (L.findIdx p) ≥ 0)) = L.any p := by
  subst hl
  by_cases h : L.findIdx p < L.length
  · rw [idx_in h]
    have := List.findIdx_getElem (w := h)
    rw [any_at (i := L.findIdx p) h (by simpa [List.getD, h] using this)]
    simp
  · rw [idx_out h, any_no (i := L.length) (fun j hj => ?_) (by omega)]
    · rfl
    · have h1 : L.findIdx p = L.length := Nat.le_antisymm List.findIdx_le_length (by omega)
      have := List.not_of_lt_findIdx (p := p) (xs := L) (i := j) (by omega)
      simpa [List.getD, hj] using this

theorem allok_iff {L : List Int} : allok L = true ↔ ∀ i, i < L.length → needN L i ≠ 2 := by simp [allok]
theorem allok_no {L : List Int} {i : Nat} (h : i < L.length) (hn : needN L i = 2) : allok L = false := by
  rw [← Bool.not_eq_true, allok_iff]; intro ha; exact ha i h hn
theorem allok_yes {L : List Int} {i : Nat} (hno : ∀ j, j < i → (needN L j == 2) = false) (h : ¬ i < L.length) : allok L = true := by
  rw [allok_iff]; intro j hj; have := hno j (by omega); simpa using this
theorem need_in {L : List Int} {k : Nat} (h : k < L.length) : need L k = needN L k := by simp [need, h]
theorem need_out {L : List Int} {k : Int} (h : k < 0 ∨ (L.length : Int) ≤ k) : need L k = 0 := by simp [need]; omega

theorem needN_zero (L : List Int) (k : Nat) : (needN L k == 0) = !needsB (L.getD k 0) := by
  unfold needN needsB
  generalize rl (L.getD k 0) = x
  by_cases h : x = .no
  · subst h; simp
  · simp only [h, if_false]
    split <;> simp [h]

/-! ### The laws -/
theorem ends_head {L : List Int} (hl : 0 < L.length) (h : L.getD 0 0 = 8204 ∨ L.getD 0 0 = 8205 ∨ L.getD 0 0 = 183) : allok L = false := by
  refine allok_no hl ?_
  have hb : bn L (((0 : Nat) : Int) - 1) (-1) = -1 := bn_lt _ (by omega)
  have hd : deadB L ((0 : Nat) : Int) = false := by unfold deadB; rw [hb, cls_m1]; rfl
  rcases h with h | h | h
  · have hr : rl (L.getD 0 0) = .bo := by rw [h]; decide
    unfold needN; rw [hr]; simp only [mets, boundB, hd, jb]; rfl
  · have hr : rl (L.getD 0 0) = .de := by rw [h]; decide
    unfold needN; rw [hr]; simp only [mets, hd]; rfl
  · have hr : rl (L.getD 0 0) = .be := by rw [h]; decide
    unfold needN; rw [hr]; simp only [mets, betwB, hb]; rfl
theorem ends_tail {L : List Int} {k : Nat} (hl : k + 1 = L.length) (h : L.getD k 0 = 183 ∨ L.getD k 0 = 885 ∨ ((L.getD k 0 = 8204 ∨ L.getD k 0 = 8205) ∧ (k = 0 ∨ cls (L.getD (k - 1) 0) ≠ 9))) : allok L = false := by
  refine allok_no (i := k) (by omega) ?_
  have hb : bn L ((k : Int) + 1) (-1) = -1 := bn_ge _ (by omega)
  have hd : (k = 0 ∨ cls (L.getD (k - 1) 0) ≠ 9) → deadB L (k : Int) = false := by
    rintro (rfl | h)
    · unfold deadB; rw [bn_lt _ (by omega), cls_m1]; rfl
    · by_cases h0 : k = 0
      · subst h0; unfold deadB; rw [bn_lt _ (by omega), cls_m1]; rfl
      · unfold deadB
        rw [show (k : Int) - 1 = ((k - 1 : Nat) : Int) by omega, bn_in _ (by omega)]
        simpa using h
  rcases h with h | h | ⟨h | h, h'⟩
  · have hr : rl (L.getD k 0) = .be := by rw [h]; decide
    unfold needN; rw [hr]; simp [mets, betwB, hb]
  · have hr : rl (L.getD k 0) = .gr := by rw [h]; decide
    unfold needN; rw [hr]; simp [mets, greekB, hb, scr_m1]
  · have hr : rl (L.getD k 0) = .bo := by rw [h]; decide
    unfold needN; rw [hr]; simp [mets, boundB, hd h', jl_out (show L.length ≤ k + 1 by omega)]
  · have hr : rl (L.getD k 0) = .de := by rw [h]; decide
    unfold needN; rw [hr]; simp [mets, hd h']

/-- What stands behind changes nothing that is met. -/
theorem jl_append {a b : List Int} (h : jl a ≠ 0) : jl (a ++ b) = jl a := by
  induction a with
  | nil => exact absurd rfl h
  | cons c l ih =>
    simp only [List.cons_append, jl] at h ⊢
    split
    · rename_i hc; rw [if_pos hc] at h; exact ih h
    · rfl
theorem getD_append {L M : List Int} {k : Nat} (h : k < L.length) : (L ++ M).getD k 0 = L.getD k 0 := by simp [List.getD, List.getElem?_append_left h]
theorem jb_append {L M : List Int} {k : Nat} (h : k ≤ L.length) : jb (L ++ M) k = jb L k := by
  induction k with
  | zero => rfl
  | succ k ih => simp only [jb]; rw [ih (by omega), getD_append (by omega)]
theorem bn_append {L M : List Int} {k : Int} (h : k < L.length) (d : Int) : bn (L ++ M) k d = bn L k d := by
  unfold bn
  by_cases h0 : 0 ≤ k
  · rw [if_pos ⟨h0, by simp; omega⟩, if_pos ⟨h0, h⟩, getD_append (by omega)]
  · rw [if_neg (by omega), if_neg (by omega)]

def plainC (r : Int) : Bool := !arA r && !arB r
theorem mono_need {L M : List Int} (hA : M.any arA = false) (hB : M.any arB = false) {k : Nat} (hk : k < L.length) (h : needN L k ≠ 2) : needN (L ++ M) k ≠ 2 := by
  unfold needN at h ⊢
  rw [getD_append hk]
  by_cases hn : rl (L.getD k 0) = .no
  · rw [if_pos hn]; decide
  rw [if_neg hn] at h ⊢
  have hm : mets L k (rl (L.getD k 0)) = true := by
    cases he : mets L k (rl (L.getD k 0)) with
    | true => rfl
    | false => rw [he] at h; exact absurd rfl h
  suffices mets (L ++ M) k (rl (L.getD k 0)) = true by rw [this]; simp
  have hp : bn (L ++ M) ((k : Int) - 1) (-1) = bn L ((k : Int) - 1) (-1) := bn_append (by omega) _
  have hn1 : bn L ((k : Int) + 1) (-1) ≠ -1 → bn (L ++ M) ((k : Int) + 1) (-1) = bn L ((k : Int) + 1) (-1) := by
    intro hne
    refine bn_append ?_ _
    have : ¬ (L.length : Int) ≤ (k : Int) + 1 := fun hge => hne (bn_ge _ hge)
    omega
  revert hm
  cases rl (L.getD k 0) with
  | no => exact fun h => h
  | a => simp only [mets, List.any_append, hB, Bool.or_false]; exact fun h => h
  | b => simp only [mets, List.any_append, hA, Bool.or_false]; exact fun h => h
  | de => simp only [mets, deadB, hp]; exact fun h => h
  | bo =>
    simp only [mets, boundB, deadB, hp]
    rw [jb_append (by omega)]
    intro h
    rw [Bool.or_eq_true, Bool.and_eq_true, Bool.or_eq_true] at h ⊢
    refine h.imp id (fun ⟨h1, h2⟩ => ⟨h1, ?_⟩)
    have : jl ((L ++ M).drop (k + 1)) = jl (L.drop (k + 1)) := by
      rw [List.drop_append_of_le_length (by omega)]
      refine jl_append ?_
      rcases h2 with h2 | h2 <;> (simp at h2; omega)
    rw [this]; exact h2
  | be =>
    simp only [mets, betwB, hp]
    intro h
    rw [Bool.and_eq_true] at h ⊢
    refine ⟨h.1, ?_⟩
    rw [hn1 (by have := h.2; simp at this; omega)]; exact h.2
  | gr =>
    simp only [mets, greekB]
    intro h
    rw [hn1 (fun e => by rw [e, scr_m1] at h; simp at h)]; exact h
  | he => simp only [mets, hebB, hp]; exact fun h => h
  | as => simp only [mets, List.any_append]; intro h; rw [h]; rfl

theorem parts_law {L M : List Int} (hA : M.any arA = false) (hB : M.any arB = false) (hM : ∀ c ∈ M, rl c = .no) (h : allok L = true) : allok (L ++ M) = true := by
  rw [allok_iff] at h ⊢
  intro i hi
  by_cases hk : i < L.length
  · exact mono_need hA hB hk (h i hk)
  · have : (L ++ M).getD i 0 ∈ M := by
      simp only [List.length_append] at hi
      rw [List.getD, List.getElem?_append_right (by omega), List.getElem?_eq_getElem (by omega)]
      exact List.getElem_mem _
    unfold needN
    rw [hM _ this]; simp

theorem asn_dots : [108, 183, 108].any asn = false := by decide +kernel
theorem jl_dots (l : List Int) : jl l = 0 → jl (l ++ [108, 183, 108]) = 0 := by
  intro h
  induction l with
  | nil => decide +kernel
  | cons c l ih =>
    simp only [jl, List.cons_append] at h ⊢
    split
    · rename_i hc; rw [if_pos hc] at h; exact ih h
    · rename_i hc; rw [if_neg hc] at h; exact h
theorem dots_law {L : List Int} (hl : ∀ k, k + 1 = L.length → L.getD k 0 ≠ 183) : allok (L ++ [108, 183, 108]) = allok L ∧ needN (L ++ [108, 183, 108]) (L.length + 1) = 1 := by
  have hlen : (L ++ [108, 183, 108]).length = L.length + 3 := by simp
  have g0 : (L ++ [108, 183, 108]).getD L.length 0 = 108 := by simp [List.getD]
  have g1 : (L ++ [108, 183, 108]).getD (L.length + 1) 0 = 183 := by simp [List.getD]
  have g2 : (L ++ [108, 183, 108]).getD (L.length + 2) 0 = 108 := by simp [List.getD]
  have r0 : rl 108 = .no := by decide
  have r1 : rl 183 = .be := by decide
  have n1 : needN (L ++ [108, 183, 108]) (L.length + 1) = 1 := by
    unfold needN
    rw [g1, r1]
    have b1 : bn (L ++ [108, 183, 108]) (((L.length + 1 : Nat) : Int) - 1) (-1) = 108 := by
      rw [show ((L.length + 1 : Nat) : Int) - 1 = (L.length : Nat) by omega, bn_in _ (by omega), g0]
    have b2 : bn (L ++ [108, 183, 108]) (((L.length + 1 : Nat) : Int) + 1) (-1) = 108 := by
      rw [show ((L.length + 1 : Nat) : Int) + 1 = (L.length + 2 : Nat) by omega, bn_in _ (by omega), g2]
    simp only [mets, betwB, b1, b2]; rfl
  refine ⟨?_, n1⟩
  have n0 : needN (L ++ [108, 183, 108]) L.length = 0 := by unfold needN; rw [g0, r0]; simp
  have n2 : needN (L ++ [108, 183, 108]) (L.length + 2) = 0 := by unfold needN; rw [g2, r0]; simp
  have key : ∀ k, k < L.length → needN (L ++ [108, 183, 108]) k = needN L k := by
    intro k hk
    have hp : bn (L ++ [108, 183, 108]) ((k : Int) - 1) (-1) = bn L ((k : Int) - 1) (-1) := bn_append (by omega) _
    have hn : bn (L ++ [108, 183, 108]) ((k : Int) + 1) (-1) = if k + 1 = L.length then 108 else bn L ((k : Int) + 1) (-1) := by
      split
      · rename_i e
        rw [show (k : Int) + 1 = (L.length : Nat) by omega, bn_in _ (by omega), g0]
      · exact bn_append (by omega) _
    unfold needN
    rw [getD_append hk]
    suffices h : mets (L ++ [108, 183, 108]) k (rl (L.getD k 0)) = mets L k (rl (L.getD k 0)) by rw [h]
    cases hr : rl (L.getD k 0) with
    | no => rfl
    | a => simp only [mets, List.any_append]; rw [show [108, 183, 108].any arB = false by decide]; simp
    | b => simp only [mets, List.any_append]; rw [show [108, 183, 108].any arA = false by decide]; simp
    | de => simp only [mets, deadB, hp]
    | bo =>
      simp only [mets, boundB, deadB, hp]
      rw [jb_append (by omega), List.drop_append_of_le_length (by omega)]
      by_cases h0 : jl (L.drop (k + 1)) = 0
      · rw [jl_dots _ h0, h0]
      · rw [jl_append h0]
    | be =>
      simp only [mets, betwB, hp, hn]
      split
      · rename_i e
        exfalso
        have := hl k e
        rcases rl_cases (L.getD k 0) with ⟨_, h⟩ | ⟨_, _, h⟩ | ⟨_, h⟩ | ⟨_, h⟩ | ⟨h', h⟩ | ⟨_, h⟩ | ⟨_, h⟩ | ⟨_, h⟩ | ⟨_, h⟩ | ⟨_, h⟩ <;> first | exact this h' | (rw [h] at hr; cases hr)
      · rfl
    | gr =>
      simp only [mets, greekB, hn]
      split
      · rename_i e
        rw [bn_ge (L := L) _ (by omega), scr_m1, show script 108 = 1 by decide +kernel]; rfl
      · rfl
    | he => simp only [mets, hebB, hp]
    | as => simp only [mets, List.any_append, asn_dots, Bool.or_false]
  rw [Bool.eq_iff_iff, allok_iff, allok_iff, hlen]
  constructor
  · intro h i hi; rw [← key i hi]; exact h i (by omega)
  · intro h i hi
    by_cases h1 : i < L.length
    · rw [key i h1]; exact h i h1
    · have : i = L.length ∨ i = L.length + 1 ∨ i = L.length + 2 := by omega
      rcases this with rfl | rfl | rfl
      · rw [n0]; decide
      · rw [n1]; decide
      · rw [n2]; decide

theorem digits_law {L : List Int} (h : ∀ c ∈ L, (arA c = true ∧ arB c = false) ∨ (arB c = true ∧ arA c = false)) : allok L = !(L.any arA && L.any arB) := by
  have hn : ∀ k, k < L.length → needN L k = if (arA (L.getD k 0) && L.any arB) || (arB (L.getD k 0) && L.any arA) then 2 else 1 := by
    intro k hk
    have hm : L.getD k 0 ∈ L := by rw [List.getD, List.getElem?_eq_getElem hk]; exact List.getElem_mem hk
    unfold needN
    rcases h _ hm with ⟨h1, h2⟩ | ⟨h1, h2⟩
    · have hr : rl (L.getD k 0) = .a := by unfold rl; rw [if_pos h1]
      rw [hr, h1, h2, if_neg (by decide)]; simp only [mets]
      by_cases hx : L.any arB = true <;> simp [hx]
    · have hr : rl (L.getD k 0) = .b := by unfold rl; rw [h2, if_neg (by simp), if_pos h1]
      rw [hr, h1, h2, if_neg (by decide)]; simp only [mets]
      by_cases hx : L.any arA = true <;> simp [hx]
  cases ha : L.any arA with
  | false =>
    simp only [Bool.false_and, Bool.not_false]
    rw [allok_iff]
    intro i hi
    rw [hn i hi, ha]
    have : arA (L.getD i 0) = false := by
      rw [List.any_eq_false] at ha
      have := ha (L.getD i 0) (by rw [List.getD, List.getElem?_eq_getElem hi]; exact List.getElem_mem hi)
      simpa using this
    rw [this]; simp
  | true =>
    cases hb : L.any arB with
    | false =>
      simp only [Bool.and_false, Bool.not_false]
      rw [allok_iff]
      intro i hi
      rw [hn i hi, hb]
      have : arB (L.getD i 0) = false := by
        rw [List.any_eq_false] at hb
        have := hb (L.getD i 0) (by rw [List.getD, List.getElem?_eq_getElem hi]; exact List.getElem_mem hi)
        simpa using this
      rw [this]; simp
    | true =>
      simp only [Bool.and_self, Bool.not_true]
      obtain ⟨c, hc, hc'⟩ := List.any_eq_true.1 ha
      obtain ⟨i, hi, rfl⟩ := List.getElem_of_mem hc
      refine allok_no hi ?_
      rw [hn i hi, hb, show L.getD i 0 = L[i] by simp [List.getD, hi], hc']; simp
end Go.AE
