/- Contracts of functions that the laws of this seat reach, and plain laws of what they compute. No condition beyond each statement's own. -/
import Derived.Test.YtfafkcnoinnokaaU1
set_option linter.unusedVariables false
set_option linter.unusedSimpArgs false
/- Chapter 6, plain: directions. -/
namespace Go.AE
def endB : List Int → Int
  | [] => 0
  | c :: l => if bidi c = 6 then endB l else bidi c
/-- The last direction. -/
def lastB (L : List Int) : Int := endB L.reverse
theorem endB_skip {q : List Int} (h : ∀ c ∈ q, bidi c = 6) (l : List Int) : endB (q ++ l) = endB l := by
  induction q with
  | nil => rfl
  | cons c q ih => simp only [List.cons_append, endB]; rw [if_pos (h c (by simp)), ih fun c hc => h c (List.mem_cons_of_mem _ hc)]
end Go.AE
/- Chapter 6, plain: counts, sides, the rule. -/
namespace Go.AE
def cn (L : List Int) (k : Int) : Int := (L.countP fun c => bidi c == k : Nat)
def cntC (L : List Int) : List AV := [I64 (cn L 0), I64 (cn L 1), I64 (cn L 2), I64 (cn L 3), I64 (cn L 4), I64 (cn L 5), I64 (cn L 6), I64 (cn L 7)]
theorem ran_bidi : (ranges.all fun x => decide (0 ≤ x.2.2.2.1) && decide (x.2.2.2.1 ≤ 7)) = true := by decide +kernel
theorem bidi_rng (c : Int) : 0 ≤ bidi c ∧ bidi c ≤ 7 := by
  unfold bidi ofR
  cases h : ranges.find? (rangeP c) with
  | none => simp [range0]
  | some x =>
    have := List.all_eq_true.1 ran_bidi x (List.mem_of_find?_eq_some h)
    simpa using this
theorem bidi_cases (c : Int) : bidi c = 0 ∨ bidi c = 1 ∨ bidi c = 2 ∨ bidi c = 3 ∨ bidi c = 4 ∨ bidi c = 5 ∨ bidi c = 6 ∨ bidi c = 7 := by have := bidi_rng c; omega
theorem cn_nil (k : Int) : cn [] k = 0 := rfl
theorem cn_snoc (L : List Int) (c k : Int) : cn (L ++ [c]) k = cn L k + if bidi c = k then 1 else 0 := by
  unfold cn; rw [List.countP_append, List.countP_singleton]
  by_cases h : bidi c = k <;> simp [h]
theorem cn_bd (L : List Int) (k : Int) : 0 ≤ cn L k ∧ cn L k ≤ L.length := by
  unfold cn; exact ⟨by omega, by have := List.countP_le_length (p := fun c => bidi c == k) (l := L); omega⟩
theorem cn_pos (L : List Int) (k : Int) : (decide (cn L k > 0)) = L.any fun c => bidi c == k := by
  unfold cn
  rw [Bool.eq_iff_iff, decide_eq_true_eq, List.any_eq_true]
  constructor
  · intro h
    have : 0 < L.countP fun c => bidi c == k := by omega
    rw [List.countP_pos_iff] at this
    exact this
  · intro h
    have := List.countP_pos_iff.2 h
    omega
theorem cn_zero (L : List Int) (k : Int) : (cn L k == 0) = !L.any fun c => bidi c == k := by
  rw [← cn_pos]
  have := cn_bd L k
  rw [Bool.eq_iff_iff]; simp; omega
def rtl (c : Int) : Bool := bidi c == 2 || bidi c == 3 || bidi c == 5
def hasB (L : List Int) : Bool := L.any rtl
theorem hasB_cn (L : List Int) : (decide (cn L 2 + cn L 3 + cn L 5 > 0)) = hasB L := by
  have h2 := cn_bd L 2
  have h3 := cn_bd L 3
  have h5 := cn_bd L 5
  have e2 := cn_pos L 2
  have e3 := cn_pos L 3
  have e5 := cn_pos L 5
  have e : hasB L = ((L.any fun c => bidi c == 2) || (L.any fun c => bidi c == 3) || (L.any fun c => bidi c == 5)) := by
    unfold hasB
    rw [Bool.eq_iff_iff]
    simp only [List.any_eq_true, Bool.or_eq_true, rtl]
    constructor
    · rintro ⟨c, hc, (h | h) | h⟩
      · exact .inl (.inl ⟨c, hc, h⟩)
      · exact .inl (.inr ⟨c, hc, h⟩)
      · exact .inr ⟨c, hc, h⟩
    · rintro ((⟨c, hc, h⟩ | ⟨c, hc, h⟩) | ⟨c, hc, h⟩)
      · exact ⟨c, hc, .inl (.inl h)⟩
      · exact ⟨c, hc, .inl (.inr h)⟩
      · exact ⟨c, hc, .inr h⟩
  rw [e, ← e2, ← e3, ← e5, Bool.eq_iff_iff]
  simp; omega
def sideB (L : List Int) : Int := match L with
  | [] => 0
  | c :: _ => if bidi c = 2 ∨ bidi c = 3 then 2 else if bidi c = 1 then 1 else 0
def ruleB (L : List Int) : Bool :=
  if sideB L = 2 then (!L.any fun c => bidi c == 1) && ((lastB L == 2) || (lastB L == 3) || (lastB L == 4) || (lastB L == 5)) && !((L.any fun c => bidi c == 4) && (L.any fun c => bidi c == 5))
  else if sideB L = 1 then !hasB L && ((lastB L == 1) || (lastB L == 4))
  else L.isEmpty
theorem sideB_cases (L : List Int) : sideB L = 0 ∨ sideB L = 1 ∨ sideB L = 2 := by
  unfold sideB; split
  · simp
  · split
    · simp
    · split <;> simp
theorem sideB_cons {L : List Int} (h : 0 < L.length) : sideB L = if bidi (L.getD 0 0) = 2 ∨ bidi (L.getD 0 0) = 3 then 2 else if bidi (L.getD 0 0) = 1 then 1 else 0 := by
  cases L with
  | nil => simp at h
  | cons c l => rfl
theorem lastB_rng (L : List Int) : 0 ≤ lastB L ∧ lastB L ≤ 7 ∧ lastB L ≠ 6 := by
  unfold lastB
  induction L.reverse with
  | nil => simp [endB]
  | cons c l ih =>
    simp only [endB]
    split
    · exact ih
    · have := bidi_rng c; omega
theorem lastB_snoc (L : List Int) (c : Int) : lastB (L ++ [c]) = if bidi c = 6 then lastB L else bidi c := by
  unfold lastB; rw [List.reverse_append]; rfl
end Go.AE
