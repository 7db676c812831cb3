/- Contracts of functions that the laws of this seat reach, and plain laws of what they compute. No condition beyond each statement's own. -/
import Derived.Test.YtkokdbkkiffjjaaL4
set_option linter.unusedVariables false
namespace Go.AE
open Go.Proofs
set_option maxRecDepth 10000
set_option linter.unusedSimpArgs false

def isCont (b : UInt8) : Bool := decide (128 ≤ b.toNat) && decide (b.toNat < 192)
def foldB (r : Int) (bs : List UInt8) : Int := bs.foldl (fun r b => r * 64 + (b.toNat : Int) % 64) r
/-- The character that bytes begin with. -/
def one (s : List UInt8) : Option (Int × Nat) :=
  match s with
  | [] => none
  | c :: t =>
    if (lead c.toNat).1 < 0 ∨ (t.length : Int) < (lead c.toNat).1 then none
    else if (t.take (lead c.toNat).1.toNat).all isCont = true ∧ rlen (foldB (lead c.toNat).2 (t.take (lead c.toNat).1.toNat)) = (lead c.toNat).1 + 1 then
      some (foldB (lead c.toNat).2 (t.take (lead c.toNat).1.toNat), (lead c.toNat).1.toNat + 1)
    else none

def runesN (o : Option (Int × Nat)) (a : Int) (s : List UInt8) (R : Int → List UInt8 → List Int × Int) : List Int × Int :=
  match o with
  | none => ([], a)
  | some (r, k) => (r :: (R (a + k) (s.drop k)).1, (R (a + k) (s.drop k)).2)
def runesF : Nat → Int → List UInt8 → List Int × Int
  | 0, _, _ => ([], -1)
  | f + 1, a, s => if s.isEmpty then ([], -1) else runesN (one s) a s (runesF f)

def runes (s : List UInt8) : List Int × Int := runesF (s.length + 1) 0 s

theorem lead_or (c : Int) : (lead c).1 = -1 ∨ (lead c).1 = 0 ∨ (lead c).1 = 1 ∨ (lead c).1 = 2 ∨ (lead c).1 = 3 := by
  unfold lead; repeat' split
  all_goals simp
theorem lead_snd {c : Int} (h : 0 ≤ c) : 0 ≤ (lead c).2 ∧ (lead c).2 < 128 := by
  unfold lead; repeat' split
  all_goals (dsimp only; omega)
theorem foldB_snoc (r : Int) (bs : List UInt8) (b : UInt8) : foldB r (bs ++ [b]) = foldB r bs * 64 + (b.toNat : Int) % 64 := by
  simp [foldB]
theorem foldB_bound (bs : List UInt8) : ∀ {r : Int}, 0 ≤ r → 0 ≤ foldB r bs ∧ foldB r bs < (r + 1) * 64 ^ bs.length := by
  induction bs with
  | nil => intro r h; simp [foldB]; omega
  | cons b bs ih =>
    intro r h
    have := ih (r := r * 64 + (b.toNat : Int) % 64) (by omega)
    have e : foldB r (b :: bs) = foldB (r * 64 + (b.toNat : Int) % 64) bs := rfl
    rw [e]
    refine ⟨this.1, Int.lt_of_lt_of_le this.2 ?_⟩
    rw [List.length_cons, Int.pow_succ, Int.mul_comm (64 ^ bs.length) 64, ← Int.mul_assoc]
    exact Int.mul_le_mul_of_nonneg_right (by omega) (Int.le_of_lt (Int.pow_pos (by decide)))
theorem foldB_small {r : Int} (h : 0 ≤ r) (k : r < 128) {bs : List UInt8} (hl : bs.length ≤ 3) : 0 ≤ foldB r bs ∧ foldB r bs < 33554432 := by
  have h1 := foldB_bound bs h
  refine ⟨h1.1, Int.lt_of_lt_of_le h1.2 ?_⟩
  have : bs.length = 0 ∨ bs.length = 1 ∨ bs.length = 2 ∨ bs.length = 3 := by omega
  rcases this with e | e | e | e <;> rw [e] <;> simp <;> omega
theorem foldB_small2 {r : Int} (h : 0 ≤ r) (k : r < 128) {bs : List UInt8} (hl : bs.length ≤ 2) : 0 ≤ foldB r bs ∧ foldB r bs < 16777216 := by
  have h1 := foldB_bound bs h
  refine ⟨h1.1, Int.lt_of_lt_of_le h1.2 ?_⟩
  have : bs.length = 0 ∨ bs.length = 1 ∨ bs.length = 2 := by omega
  rcases this with e | e | e <;> rw [e] <;> simp <;> omega

theorem one_none {s : List UInt8} (h : 0 < s.length) (hc : (lead (s.getD 0 0).toNat).1 < 0 ∨ (s.length : Int) ≤ (lead (s.getD 0 0).toNat).1) : one s = none := by
  cases s with
  | nil => simp at h
  | cons c t =>
    simp only [List.getD_cons_zero, List.length_cons] at hc
    simp only [one]
    rw [if_pos (by omega)]
theorem one_bad {s : List UInt8} {j : Nat} (h : 0 < s.length) (hj : (j : Int) < (lead (s.getD 0 0).toNat).1) (hb : isCont (s.getD (j + 1) 0) = false) : one s = none := by
  cases s with
  | nil => simp at h
  | cons c t =>
    simp only [List.getD_cons_zero, List.getD_cons_succ] at hj hb
    simp only [one]
    split
    · rfl
    · rename_i hn
      rw [if_neg]
      intro h2
      have h3 := List.all_eq_true.1 h2.1 (t.getD j 0) (by
        have : j < t.length := by omega
        rw [List.mem_take_iff_getElem]
        exact ⟨j, by omega, by simp [List.getD, this]⟩)
      rw [h3] at hb
      simp at hb
theorem one_last {s : List UInt8} {n : Nat} (h : 0 < s.length) (hn : (lead (s.getD 0 0).toNat).1 = n) (hl : n < s.length) (ha : ((s.drop 1).take n).all isCont = true) :
    one s = if rlen (foldB (lead (s.getD 0 0).toNat).2 ((s.drop 1).take n)) = n + 1 then some (foldB (lead (s.getD 0 0).toNat).2 ((s.drop 1).take n), n + 1) else none := by
  cases s with
  | nil => simp at h
  | cons c t =>
    simp only [List.getD_cons_zero, List.drop_succ_cons, List.drop_zero, List.length_cons] at *
    simp only [one, hn, Int.toNat_natCast, ha, true_and]
    rw [if_neg (by omega)]

theorem runesF_succ (f : Nat) (a : Int) (s : List UInt8) : runesF (f + 1) a s = if s.isEmpty then ([], -1) else runesN (one s) a s (runesF f) := rfl
theorem runesF_stop {f : Nat} {a : Int} {s : List UInt8} (hs : 0 < s.length) (h : one s = none) : runesF (f + 1) a s = ([], a) := by
  rw [runesF_succ, h, if_neg]
  · rfl
  · cases s <;> simp_all
theorem runesF_step {f : Nat} {a : Int} {s : List UInt8} {r : Int} {k : Nat} (hs : 0 < s.length) (h : one s = some (r, k)) : runesF (f + 1) a s = (r :: (runesF f (a + k) (s.drop k)).1, (runesF f (a + k) (s.drop k)).2) := by
  rw [runesF_succ, h, if_neg]
  · rfl
  · cases s <;> simp_all
theorem runesF_end (f : Nat) (a : Int) : runesF f a [] = ([], -1) := by cases f <;> rfl
theorem isCont_iff (b : UInt8) : isCont b = true ↔ (b.toNat : Int) - b.toNat % 64 = 128 := by
  simp [isCont]; omega
end Go.AE
