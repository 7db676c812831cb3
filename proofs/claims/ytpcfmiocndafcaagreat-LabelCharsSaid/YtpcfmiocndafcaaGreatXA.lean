/- Contracts of functions that the laws of this seat reach, and plain laws of what they compute. No condition beyond each statement's own. -/
import Derived.Test.YtpcfmiocndafcaaGreatU1
set_option linter.unusedVariables false
set_option linter.unusedSimpArgs false
namespace Go.AE
def bn (L : List Int) (k d : Int) : Int := if 0 ≤ k ∧ k < L.length then L.getD k.toNat 0 else d
def jl : List Int → Int
  | [] => 0
  | c :: l => if join c = 3 then jl l else join c
def jb (L : List Int) : Nat → Int
  | 0 => 0
  | k + 1 => if join (L.getD k 0) = 3 then jb L k else join (L.getD k 0)
def arA (r : Int) : Bool := decide (1632 ≤ r) && decide (r ≤ 1641)
def arB (r : Int) : Bool := decide (1776 ≤ r) && decide (r ≤ 1785)
def asn (r : Int) : Bool := (script r == 7) || (script r == 8)
def deadB (L : List Int) (k : Int) : Bool := cls (bn L (k - 1) (-1)) == 9
def boundB (L : List Int) (k : Nat) : Bool := deadB L k || ((jb L k == 1) && ((jl (L.drop (k + 1)) == 1) || (jl (L.drop (k + 1)) == 2)))
def betwB (L : List Int) (k : Int) : Bool := (bn L (k - 1) (-1) == 108) && (bn L (k + 1) (-1) == 108)
def greekB (L : List Int) (k : Int) : Bool := script (bn L (k + 1) (-1)) == 2
def hebB (L : List Int) (k : Int) : Bool := script (bn L (k - 1) (-1)) == 4
inductive Rl where
  | no | a | b | de | bo | be | gr | he | as
  deriving DecidableEq
def rl (r : Int) : Rl := if arA r then .a else if arB r then .b else if r = 8205 then .de else if r = 8204 then .bo else if r = 183 then .be else if r = 885 then .gr else if r = 1523 then .he else if r = 1524 then .he else if r = 12539 then .as else .no
def mets (L : List Int) (k : Nat) : Rl → Bool
  | .no => true
  | .a => !L.any arB
  | .b => !L.any arA
  | .de => deadB L k
  | .bo => boundB L k
  | .be => betwB L k
  | .gr => greekB L k
  | .he => hebB L k
  | .as => L.any asn
def z6x (L : List Int) (k : Nat) : Int := if rl (L.getD k 0) = .no then 0 else if mets L k (rl (L.getD k 0)) then 1 else 2
def need (L : List Int) (k : Int) : Int := if 0 ≤ k ∧ k < L.length then z6x L k.toNat else 0
theorem zkv (r : Int) : (arA r = true ∧ rl r = .a) ∨ (arA r = false ∧ arB r = true ∧ rl r = .b) ∨ (r = 8205 ∧ rl r = .de) ∨ (r = 8204 ∧ rl r = .bo) ∨ (r = 183 ∧ rl r = .be) ∨ (r = 885 ∧ rl r = .gr) ∨
    (r = 1523 ∧ rl r = .he) ∨ (r = 1524 ∧ rl r = .he) ∨ (r = 12539 ∧ rl r = .as) ∨
    ((arA r = false ∧ arB r = false ∧ r ≠ 8205 ∧ r ≠ 8204 ∧ r ≠ 183 ∧ r ≠ 885 ∧ r ≠ 1523 ∧ r ≠ 1524 ∧ r ≠ 12539) ∧ rl r = .no) := by
  by_cases h : r = 8205
  · subst h; right; right; left; exact ⟨rfl, by decide⟩
  by_cases h : r = 8204
  · subst h; right; right; right; left; exact ⟨rfl, by decide⟩
  by_cases h : r = 183
  · subst h; iterate 4 right
    left; exact ⟨rfl, by decide⟩
  by_cases h : r = 885
  · subst h; iterate 5 right
    left; exact ⟨rfl, by decide⟩
  by_cases h : r = 1523
  · subst h; iterate 6 right
    left; exact ⟨rfl, by decide⟩
  by_cases h : r = 1524
  · subst h; iterate 7 right
    left; exact ⟨rfl, by decide⟩
  by_cases h : r = 12539
  · subst h; iterate 8 right
    left; exact ⟨rfl, by decide⟩
  cases ha : arA r with
  | true => left; exact ⟨rfl, by simp [rl, ha]⟩
  | false =>
    cases hb : arB r with
    | true => right; left; exact ⟨rfl, rfl, by simp [rl, ha, hb]⟩
    | false =>
      iterate 9 right
      refine ⟨⟨rfl, rfl, ?_⟩, ?_⟩
      · simp [*]
      · simp [rl, *]
theorem ran_pos : (ranges.all fun x => decide (0 ≤ x.1)) = true := by decide +kernel
theorem zte {c : Int} (h : c < 0) : join c = 0 := by
  have hf : ranges.find? (z1j c) = none := by
    rw [List.find?_eq_none]
    intro x hx hp
    have := List.all_eq_true.1 ran_pos x hx
    simp only [z1j, Bool.and_eq_true, decide_eq_true_eq] at hp this
    omega
  simp [join, ofR, hf, z47]
theorem bn_in {L : List Int} {k : Nat} (d : Int) (h : k < L.length) : bn L k d = L.getD k 0 := by simp [bn, h]
theorem bn_lt {L : List Int} {k : Int} (d : Int) (h : k < 0) : bn L k d = d := by simp [bn]; omega
theorem bn_ge {L : List Int} {k : Int} (d : Int) (h : (L.length : Int) ≤ k) : bn L k d = d := by simp [bn]; omega
theorem zlt {L : List Int} {k : Nat} (h : k < L.length) : L.drop k = L.getD k 0 :: L.drop (k + 1) := by
  rw [List.drop_eq_getElem_cons h]; congr 1; simp [List.getD, h]
theorem jl_out {L : List Int} {k : Nat} (h : L.length ≤ k) : jl (L.drop k) = 0 := by rw [List.drop_eq_nil_of_le h]; rfl
theorem jl_skip {L : List Int} {k : Nat} (h : k < L.length) (hj : join (L.getD k 0) = 3) : jl (L.drop k) = jl (L.drop (k + 1)) := by rw [zlt h, jl, if_pos hj]
theorem jl_stop {L : List Int} {k : Nat} (h : k < L.length) (hj : join (L.getD k 0) ≠ 3) : jl (L.drop k) = join (L.getD k 0) := by rw [zlt h, jl, if_neg hj]
theorem jb_skip {L : List Int} {k : Nat} (hj : join (L.getD k 0) = 3) : jb L (k + 1) = jb L k := by rw [jb, if_pos hj]
theorem jb_stop {L : List Int} {k : Nat} (hj : join (L.getD k 0) ≠ 3) : jb L (k + 1) = join (L.getD k 0) := by rw [jb, if_neg hj]
theorem jb_skip' {L : List Int} {k : Nat} (h : 0 < k) (hj : join (L.getD (k - 1) 0) = 3) : jb L k = jb L (k - 1) := by
  cases k with
  | zero => omega
  | succ k => exact jb_skip hj
theorem ztd {L : List Int} {k : Nat} (h : 0 < k) (hj : join (L.getD (k - 1) 0) ≠ 3) : jb L k = join (L.getD (k - 1) 0) := by
  cases k with
  | zero => omega
  | succ k => exact jb_stop hj
theorem any_at {L : List Int} {p : Int → Bool} {i : Nat} (h : i < L.length) (hp : p (L.getD i 0) = true) : L.any p = true := by
  rw [List.any_eq_true]
  exact ⟨L[i], List.getElem_mem h, by simpa [List.getD, h] using hp⟩
theorem any_no {L : List Int} {p : Int → Bool} {i : Nat} (hno : ∀ j, j < i → p (L.getD j 0) = false) (h : ¬ i < L.length) : L.any p = false := by
  rw [List.any_eq_false]
  intro x hx
  obtain ⟨j, hj, rfl⟩ := List.getElem_of_mem hx
  have := hno j (by omega)
  simpa [List.getD, hj] using this
theorem zpd {L : List Int} {p : Int → Bool} {n : Nat} (hl : L.length = n) : (decide (idx n (L.findIdx p) ≥ 0)) = L.any p := by
  subst hl
  by_cases h : L.findIdx p < L.length
  · rw [ztb h]
    have := List.findIdx_getElem (w := h)
    rw [any_at (i := L.findIdx p) h (by simpa [List.getD, h] using this)]
    simp
  · rw [zkb h, any_no (i := L.length) (fun j hj => ?_) (by omega)]
    · rfl
    · have h1 : L.findIdx p = L.length := Nat.le_antisymm List.findIdx_le_length (by omega)
      have := List.not_of_lt_findIdx (p := p) (xs := L) (i := j) (by omega)
      simpa [List.getD, hj] using this
theorem need_in {L : List Int} {k : Nat} (h : k < L.length) : need L k = z6x L k := by simp [need, h]
theorem need_out {L : List Int} {k : Int} (h : k < 0 ∨ (L.length : Int) ≤ k) : need L k = 0 := by simp [need]; omega
end Go.AE
