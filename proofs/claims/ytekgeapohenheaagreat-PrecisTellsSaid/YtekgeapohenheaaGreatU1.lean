/- Contracts of functions that the laws of this seat reach, and plain laws of what they compute. No condition beyond each statement's own. -/
import Derived.Test.YtekgeapohenheaaGreatAERule
set_option linter.unusedVariables false
set_option linter.unusedSimpArgs false
/- What the tables say, as plain lists, and what is read of them. -/
namespace Go.AE
abbrev RangeT := Int × Int × Int × Int × Int × Int
abbrev ClassT := Int × Int × Int × Int
abbrev LowerT := Int × Int × Int
abbrev SplitT := Int × Int × Int × Bool × Bool
def ranges : List RangeT := [(0, 31, 9, 0, 0, 0), (32, 32, 8, 0, 0, 0), (33, 44, 6, 0, 0, 0), (45, 47, 6, 7, 0, 0), (48, 57, 5, 4, 0, 0), (58, 64, 6, 0, 0, 0),
  (65, 90, 1, 1, 0, 1), (91, 96, 6, 0, 0, 0), (97, 122, 2, 1, 0, 1), (123, 126, 7, 0, 0, 0), (127, 127, 9, 0, 0, 0), (160, 160, 8, 0, 0, 0),
  (178, 179, 7, 4, 0, 0), (183, 183, 6, 0, 0, 0), (192, 214, 1, 1, 0, 1), (215, 215, 7, 0, 0, 0), (216, 222, 1, 1, 0, 1), (223, 246, 2, 1, 0, 1),
  (247, 247, 7, 0, 0, 0), (248, 255, 2, 1, 0, 1), (768, 772, 4, 6, 3, 0), (774, 776, 4, 6, 3, 0), (778, 778, 4, 6, 3, 0), (803, 803, 4, 6, 3, 0),
  (807, 807, 4, 6, 3, 0), (885, 885, 7, 0, 0, 2), (913, 929, 1, 1, 0, 2), (931, 937, 1, 1, 0, 2), (945, 969, 2, 1, 0, 2), (1040, 1071, 1, 1, 0, 3),
  (1072, 1103, 2, 1, 0, 3), (1456, 1465, 4, 6, 3, 4), (1488, 1514, 3, 2, 0, 4), (1523, 1524, 6, 2, 0, 4), (1575, 1575, 3, 3, 2, 5), (1576, 1576, 3, 3, 1, 5),
  (1577, 1577, 3, 3, 2, 5), (1578, 1582, 3, 3, 1, 5), (1583, 1586, 3, 3, 2, 5), (1587, 1594, 3, 3, 1, 5), (1601, 1607, 3, 3, 1, 5), (1608, 1608, 3, 3, 2, 5),
  (1610, 1610, 3, 3, 1, 5), (1611, 1618, 4, 6, 3, 0), (1632, 1641, 5, 5, 0, 5), (1776, 1785, 5, 4, 0, 5), (2325, 2361, 3, 1, 0, 6), (2364, 2364, 4, 6, 3, 6),
  (2381, 2381, 4, 6, 3, 6), (2392, 2392, 3, 1, 0, 6), (4352, 4370, 3, 1, 0, 9), (4449, 4469, 3, 1, 0, 9), (4520, 4546, 3, 1, 0, 9), (7844, 7844, 1, 1, 0, 1),
  (7845, 7845, 2, 1, 0, 1), (8204, 8205, 10, 0, 0, 0), (8490, 8491, 1, 1, 0, 1), (12290, 12290, 6, 0, 0, 0), (12353, 12438, 3, 1, 0, 7), (12441, 12441, 4, 6, 3, 0),
  (12449, 12538, 3, 1, 0, 7), (12539, 12539, 6, 0, 0, 0), (19968, 40959, 3, 1, 0, 8), (44032, 55203, 3, 1, 0, 9), (64257, 64258, 2, 1, 0, 1), (65281, 65295, 6, 0, 0, 0),
  (65296, 65305, 5, 4, 0, 0), (65306, 65312, 6, 0, 0, 0), (65313, 65338, 1, 1, 0, 1), (65339, 65344, 6, 0, 0, 0), (65345, 65370, 2, 1, 0, 1), (65371, 65374, 7, 0, 0, 0),
  (66560, 66599, 1, 1, 0, 10), (66600, 66639, 2, 1, 0, 10)]
def classes : List ClassT := [(768, 772, 230, 0), (774, 776, 230, 0), (778, 778, 230, 0), (803, 803, 220, 0), (807, 807, 202, 0), (1456, 1465, 10, 1),
  (1611, 1618, 27, 1), (2364, 2364, 7, 0), (2381, 2381, 9, 0), (12441, 12441, 8, 0)]
def lowers : List LowerT := [(65, 90, 32), (192, 214, 32), (216, 222, 32), (913, 929, 32), (931, 937, 32), (1040, 1071, 32),
  (7844, 7844, 1), (8490, 8490, (-8383)), (8491, 8491, (-8262)), (65313, 65338, 32), (66560, 66599, 40)]
def splits : List SplitT := [(160, 32, 0, true, true), (178, 50, 0, true, true), (179, 51, 0, true, true), (192, 65, 768, false, false), (193, 65, 769, false, false), (194, 65, 770, false, false),
  (195, 65, 771, false, false), (196, 65, 776, false, false), (197, 65, 778, false, false), (199, 67, 807, false, false), (200, 69, 768, false, false), (201, 69, 769, false, false),
  (202, 69, 770, false, false), (203, 69, 776, false, false), (209, 78, 771, false, false), (214, 79, 776, false, false), (220, 85, 776, false, false), (224, 97, 768, false, false),
  (225, 97, 769, false, false), (226, 97, 770, false, false), (227, 97, 771, false, false), (228, 97, 776, false, false), (229, 97, 778, false, false), (231, 99, 807, false, false),
  (232, 101, 768, false, false), (233, 101, 769, false, false), (234, 101, 770, false, false), (235, 101, 776, false, false), (241, 110, 771, false, false), (246, 111, 776, false, false),
  (252, 117, 776, false, false), (1049, 1048, 774, false, false), (1081, 1080, 774, false, false), (2392, 2325, 2364, false, true), (7844, 194, 769, false, false), (7845, 226, 769, false, false),
  (8490, 75, 0, false, true), (8491, 197, 0, false, true), (12460, 12459, 12441, false, false), (12468, 12467, 12441, false, false), (64257, 102, 105, true, true), (64258, 102, 108, true, true)]
def rangeC (x : RangeT) : List AV := [I32 x.1, I32 x.2.1, I64 x.2.2.1, I64 x.2.2.2.1, I64 x.2.2.2.2.1, I64 x.2.2.2.2.2]
def classC (x : ClassT) : List AV := [I32 x.1, I32 x.2.1, I64 x.2.2.1, I64 x.2.2.2]
def lowerC (x : LowerT) : List AV := [I32 x.1, I32 x.2.1, I32 x.2.2]
def splitC (x : SplitT) : List AV := [I32 x.1, I32 x.2.1, I32 x.2.2.1, Bv x.2.2.2.1, Bv x.2.2.2.2]

theorem take_succ_getD {α : Type} (l : List α) (i : Nat) (d : α) (h : i < l.length) : l.take (i + 1) = l.take i ++ [l.getD i d] := by
  rw [List.take_add_one]
  simp [List.getD, h]
/-! ### Rows of rows -/
section
variable {α : Type} {f : α → List AV} {k : Nat} (hk : ∀ x, (f x).length = k)
theorem rows_len (l : List α) (hk : ∀ x, (f x).length = k) : (l.flatMap f).length = l.length * k := by
  induction l with
  | nil => simp
  | cons a l ih => simp [ih, hk, Nat.add_mul]; omega
theorem rows_drop (hk : ∀ x, (f x).length = k) : ∀ (l : List α) (j : Nat), (l.flatMap f).drop (j * k) = (l.drop j).flatMap f
  | [], j => by simp
  | a :: l, 0 => by simp
  | a :: l, j + 1 => by
    rw [List.flatMap_cons, List.drop_succ_cons, ← rows_drop hk l j, show (j + 1) * k = (f a).length + j * k by rw [hk, Nat.add_mul]; omega]
    simp
theorem rows_take (hk : ∀ x, (f x).length = k) (l : List α) (j : Nat) (d : α) (hj : j < l.length) : ((l.flatMap f).drop (j * k)).take k = f (l.getD j d) := by
  rw [rows_drop hk]
  have : l.drop j = l.getD j d :: l.drop (j + 1) := by
    rw [List.drop_eq_getElem_cons hj]; simp [List.getD, hj]
  rw [this, List.flatMap_cons, List.take_append_of_le_length (by rw [hk]; exact Nat.le_refl _), List.take_of_length_le (by rw [hk]; exact Nat.le_refl _)]
theorem nth_append (a b : List AV) (i : Nat) (h : i < a.length) : nth (a ++ b) i = nth a i := by
  induction a generalizing i with
  | nil => simp at h
  | cons x a ih => cases i with
    | zero => rfl
    | succ i => simpa [nth] using ih i (by simpa using h)
theorem rows_nth (hk : ∀ x, (f x).length = k) (l : List α) (j i : Nat) (d : α) (hj : j < l.length) (hi : i < k) : nth (l.flatMap f) (j * k + i) = nth (f (l.getD j d)) i := by
  rw [← nth_drop, rows_drop hk]
  have : l.drop j = l.getD j d :: l.drop (j + 1) := by
    rw [List.drop_eq_getElem_cons hj]; simp [List.getD, hj]
  rw [this, List.flatMap_cons, nth_append _ _ _ (by rw [hk]; exact hi)]
end
end Go.AE
section
/- What is read of the tables, plainly. -/
namespace Go.AE
set_option maxRecDepth 20000
set_option linter.unusedVariables false

/-! ### The first of a list -/
section
variable {α : Type} {p : α → Bool} {l : List α} {d : α} {i : Nat}
theorem first_at (h : ∀ j, j < i → p (l.getD j d) = false) (hi : i < l.length) (hp : p (l.getD i d) = true) : l.findIdx p = i ∧ l.find? p = some (l.getD i d) := by
  induction l generalizing i with
  | nil => simp at hi
  | cons a l ih =>
    cases i with
    | zero => simp at hp; simp [List.findIdx_cons, hp]
    | succ i =>
      have h0 := h 0 (by omega)
      simp only [List.getD_cons_zero] at h0
      obtain ⟨h1, h2⟩ := ih (i := i) (fun j hj => by have := h (j + 1) (by omega); simpa using this) (by simpa using hi) (by simpa using hp)
      refine ⟨by simp [List.findIdx_cons, h0, h1], ?_⟩
      rw [List.find?_cons, h0, List.getD_cons_succ]; exact h2
theorem first_none (h : ∀ j, j < l.length → p (l.getD j d) = false) : l.findIdx p = l.length ∧ l.find? p = none := by
  induction l with
  | nil => simp
  | cons a l ih =>
    have h0 := h 0 (by simp)
    simp only [List.getD_cons_zero] at h0
    obtain ⟨h1, h2⟩ := ih (fun j hj => by have := h (j + 1) (by simpa using hj); simpa using this)
    refine ⟨by simp [List.findIdx_cons, h0, h1], ?_⟩
    rw [List.find?_cons, h0]; exact h2
/-- Of all in a list, by what is asked of a list's members. -/
theorem all_getD {q : α → Bool} (h : l.all q = true) (hi : i < l.length) : q (l.getD i d) = true := by
  have := List.all_eq_true.1 h (l.getD i d) (by simp [List.getD, hi])
  exact this
theorem find_idx (hd : l.findIdx p < l.length) : l.find? p = some (l.getD (l.findIdx p) d) ∧ p (l.getD (l.findIdx p) d) = true := by
  have h2 := List.findIdx_getElem (w := hd)
  have h3 : l.getD (l.findIdx p) d = l[l.findIdx p] := by simp [List.getD, hd]
  rw [h3]
  refine ⟨?_, h2⟩
  have := (first_at (l := l) (p := p) (d := d) (i := l.findIdx p) (fun j hj => by
    have hj' : j < l.length := by omega
    have := List.not_of_lt_findIdx hj
    simp [List.getD, hj']; simpa using this) hd (by rw [h3]; exact h2)).2
  rw [this, h3]
theorem find_not (hd : ¬ l.findIdx p < l.length) : l.find? p = none := by
  rw [List.find?_eq_none]
  intro x hx
  have := List.findIdx_lt_length_of_exists (p := p) (xs := l)
  simp only [Bool.not_eq_true]
  cases hp : p x with
  | false => rfl
  | true => exact absurd (this ⟨x, hx, hp⟩) hd
end

def range0 : RangeT := (0, 0, 0, 0, 0, 0)
def class0 : ClassT := (0, 0, 0, 0)
def lower0 : LowerT := (0, 0, 0)
def split0 : SplitT := (0, 0, 0, false, false)
def rangeP (r : Int) (x : RangeT) : Bool := decide (x.1 ≤ r) && decide (r ≤ x.2.1)
def classP (r : Int) (x : ClassT) : Bool := decide (x.1 ≤ r) && decide (r ≤ x.2.1)
def lowerP (r : Int) (x : LowerT) : Bool := decide (x.1 ≤ r) && decide (r ≤ x.2.1)
def splitP (r : Int) (x : SplitT) : Bool := x.1 == r
def pairP (a b : Int) (x : SplitT) : Bool := !x.2.2.2.1 && !x.2.2.2.2 && (x.2.1 == a) && (x.2.2.1 == b)
def ofR (r : Int) : RangeT := (ranges.find? (rangeP r)).getD range0
def inR (r : Int) : Bool := (ranges.find? (rangeP r)).isSome
def cat (r : Int) : Int := (ofR r).2.2.1
def bidi (r : Int) : Int := (ofR r).2.2.2.1
def join (r : Int) : Int := (ofR r).2.2.2.2.1
def script (r : Int) : Int := (ofR r).2.2.2.2.2
def clsV (r : Int) : Option ClassT → Int
  | some x => x.2.2.1 + x.2.2.2 * (r - x.1)
  | none => 0
def cls (r : Int) : Int := clsV r (classes.find? (classP r))
def lowV (r : Int) : Option LowerT → Int
  | some x => r + x.2.2
  | none => r
def low (r : Int) : Int := lowV r (lowers.find? (lowerP r))
def letter (r : Int) : Bool := decide (1 ≤ cat r) && decide (cat r ≤ 3)
def wide (r : Int) : Bool := decide (65281 ≤ r) && decide (r ≤ 65374)
def splV (r : Int) : Option SplitT → SplitT × Bool
  | some x => (x, true)
  | none => (split0, false)
def spl (r : Int) : SplitT × Bool := match wide r with
  | true => ((r, r - 65248, 0, true, true), true)
  | false => splV r (splits.find? (splitP r))
def prV : Option SplitT → Int × Bool
  | some x => (x.1, true)
  | none => (0, false)
def pr (a b : Int) : Int × Bool := prV (splits.find? (pairP a b))

theorem ran_len : ranges.length = 74 := rfl
theorem cla_len : classes.length = 10 := rfl
theorem low_len : lowers.length = 11 := rfl
theorem spl_len : splits.length = 42 := rfl
theorem ran_flen : (ranges.flatMap rangeC).length = 444 := rfl
theorem cla_flen : (classes.flatMap classC).length = 40 := rfl
theorem low_flen : (lowers.flatMap lowerC).length = 33 := rfl
theorem spl_flen : (splits.flatMap splitC).length = 210 := rfl
theorem ran_take {i : Nat} (h : i < 74) : ((ranges.flatMap rangeC).drop (i * 6)).take 6 = rangeC (ranges.getD i range0) := rows_take (k := 6) (fun _ => rfl) _ _ _ (by rw [ran_len]; exact h)
theorem cla_take {i : Nat} (h : i < 10) : ((classes.flatMap classC).drop (i * 4)).take 4 = classC (classes.getD i class0) := rows_take (k := 4) (fun _ => rfl) _ _ _ (by rw [cla_len]; exact h)
theorem low_take {i : Nat} (h : i < 11) : ((lowers.flatMap lowerC).drop (i * 3)).take 3 = lowerC (lowers.getD i lower0) := rows_take (k := 3) (fun _ => rfl) _ _ _ (by rw [low_len]; exact h)
theorem spl_take {i : Nat} (h : i < 42) : ((splits.flatMap splitC).drop (i * 5)).take 5 = splitC (splits.getD i split0) := rows_take (k := 5) (fun _ => rfl) _ _ _ (by rw [spl_len]; exact h)
section
variable {i : Nat}
theorem ran_n0 (h : i < 74) : nth (ranges.flatMap rangeC) (i * 6) = I32 (ranges.getD i range0).1 := rows_nth (k := 6) (fun _ => rfl) _ i 0 range0 (by rw [ran_len]; exact h) (by decide)
theorem ran_n1 (h : i < 74) : nth (ranges.flatMap rangeC) (i * 6 + 1) = I32 (ranges.getD i range0).2.1 := rows_nth (k := 6) (fun _ => rfl) _ i 1 range0 (by rw [ran_len]; exact h) (by decide)
theorem cla_n0 (h : i < 10) : nth (classes.flatMap classC) (i * 4) = I32 (classes.getD i class0).1 := rows_nth (k := 4) (fun _ => rfl) _ i 0 class0 (by rw [cla_len]; exact h) (by decide)
theorem cla_n1 (h : i < 10) : nth (classes.flatMap classC) (i * 4 + 1) = I32 (classes.getD i class0).2.1 := rows_nth (k := 4) (fun _ => rfl) _ i 1 class0 (by rw [cla_len]; exact h) (by decide)
theorem cla_n2 (h : i < 10) : nth (classes.flatMap classC) (i * 4 + 2) = I64 (classes.getD i class0).2.2.1 := rows_nth (k := 4) (fun _ => rfl) _ i 2 class0 (by rw [cla_len]; exact h) (by decide)
theorem cla_n3 (h : i < 10) : nth (classes.flatMap classC) (i * 4 + 3) = I64 (classes.getD i class0).2.2.2 := rows_nth (k := 4) (fun _ => rfl) _ i 3 class0 (by rw [cla_len]; exact h) (by decide)
theorem low_n0 (h : i < 11) : nth (lowers.flatMap lowerC) (i * 3) = I32 (lowers.getD i lower0).1 := rows_nth (k := 3) (fun _ => rfl) _ i 0 lower0 (by rw [low_len]; exact h) (by decide)
theorem low_n1 (h : i < 11) : nth (lowers.flatMap lowerC) (i * 3 + 1) = I32 (lowers.getD i lower0).2.1 := rows_nth (k := 3) (fun _ => rfl) _ i 1 lower0 (by rw [low_len]; exact h) (by decide)
theorem low_n2 (h : i < 11) : nth (lowers.flatMap lowerC) (i * 3 + 2) = I32 (lowers.getD i lower0).2.2 := rows_nth (k := 3) (fun _ => rfl) _ i 2 lower0 (by rw [low_len]; exact h) (by decide)
theorem spl_n0 (h : i < 42) : nth (splits.flatMap splitC) (i * 5) = I32 (splits.getD i split0).1 := rows_nth (k := 5) (fun _ => rfl) _ i 0 split0 (by rw [spl_len]; exact h) (by decide)
theorem spl_n1 (h : i < 42) : nth (splits.flatMap splitC) (i * 5 + 1) = I32 (splits.getD i split0).2.1 := rows_nth (k := 5) (fun _ => rfl) _ i 1 split0 (by rw [spl_len]; exact h) (by decide)
theorem spl_n2 (h : i < 42) : nth (splits.flatMap splitC) (i * 5 + 2) = I32 (splits.getD i split0).2.2.1 := rows_nth (k := 5) (fun _ => rfl) _ i 2 split0 (by rw [spl_len]; exact h) (by decide)
theorem spl_n3 (h : i < 42) : nth (splits.flatMap splitC) (i * 5 + 3) = Bv (splits.getD i split0).2.2.2.1 := rows_nth (k := 5) (fun _ => rfl) _ i 3 split0 (by rw [spl_len]; exact h) (by decide)
theorem spl_n4 (h : i < 42) : nth (splits.flatMap splitC) (i * 5 + 4) = Bv (splits.getD i split0).2.2.2.2 := rows_nth (k := 5) (fun _ => rfl) _ i 4 split0 (by rw [spl_len]; exact h) (by decide)
end

/-! ### The ranges in order -/
def rising : List RangeT → Bool
  | [] => true
  | [x] => decide (x.1 ≤ x.2.1)
  | x :: y :: l => decide (x.1 ≤ x.2.1) && decide (x.2.1 < y.1) && rising (y :: l)
theorem rising_tail {x : RangeT} {l : List RangeT} (h : rising (x :: l) = true) : rising l = true ∧ x.1 ≤ x.2.1 ∧ ∀ y ∈ l, x.2.1 < y.1 ∧ x.2.1 < y.2.1 := by
  induction l generalizing x with
  | nil => simp [rising] at h; simp [rising, h]
  | cons y l ih =>
    simp only [rising, Bool.and_eq_true, decide_eq_true_eq] at h
    obtain ⟨h1, h2, h3⟩ := ih h.2
    refine ⟨h.2, h.1.1, fun z hz => ?_⟩
    rcases List.mem_cons.1 hz with rfl | hz
    · omega
    · have := h3 z hz; omega
/-- How many ranges end ahead of a character. -/
def lb (r : Int) (l : List RangeT) : Nat := l.findIdx fun x => decide (r ≤ x.2.1)
theorem lb_le (r : Int) (l : List RangeT) : lb r l ≤ l.length := List.findIdx_le_length
theorem lb_spec (r : Int) : ∀ {l : List RangeT}, rising l = true → ∀ j, j < l.length → ((l.getD j range0).2.1 < r ↔ j < lb r l)
  | [], _, j, hj => by simp at hj
  | x :: l, h, j, hj => by
    obtain ⟨h1, h2, h3⟩ := rising_tail h
    unfold lb
    rw [List.findIdx_cons]
    cases hx : decide (r ≤ x.2.1) with
    | true =>
      simp only [decide_eq_true_eq] at hx
      simp only [cond_true, Nat.not_lt_zero, iff_false]
      cases j with
      | zero => simp; omega
      | succ j =>
        have := h3 ((x :: l).getD (j + 1) range0) (by
          have hj' : j < l.length := by simpa using hj
          simp [List.getD, hj'])
        omega
    | false =>
      simp only [decide_eq_false_iff_not] at hx
      simp only [cond_false]
      cases j with
      | zero => simp; omega
      | succ j =>
        have := lb_spec r h1 j (by simpa using hj)
        rw [List.getD_cons_succ, this]
        unfold lb
        omega
theorem find_lb (r : Int) : ∀ {l : List RangeT}, rising l = true → l.find? (rangeP r) = (if lb r l < l.length ∧ (l.getD (lb r l) range0).1 ≤ r then some (l.getD (lb r l) range0) else none)
  | [], _ => by simp
  | x :: l, h => by
    obtain ⟨h1, h2, h3⟩ := rising_tail h
    rw [List.find?_cons]
    have hlb : lb r (x :: l) = bif decide (r ≤ x.2.1) then 0 else lb r l + 1 := by unfold lb; rw [List.findIdx_cons]
    rw [hlb]
    cases hx : decide (r ≤ x.2.1) with
    | true =>
      simp only [decide_eq_true_eq] at hx
      simp only [cond_true, List.getD_cons_zero, List.length_cons, Nat.zero_lt_succ, true_and]
      by_cases h4 : x.1 ≤ r
      · rw [if_pos h4]; simp [rangeP, h4, hx]
      · rw [if_neg h4]
        have : rangeP r x = false := by simp [rangeP]; omega
        rw [this]
        simp only
        rw [List.find?_eq_none]
        intro y hy
        have := h3 y hy
        simp [rangeP]; omega
    | false =>
      simp only [decide_eq_false_iff_not] at hx
      have : rangeP r x = false := by simp [rangeP]; omega
      rw [this]
      simp only [cond_false, List.length_cons, List.getD_cons_succ, Nat.add_lt_add_iff_right]
      exact find_lb r h1
theorem ranges_rising : rising ranges = true := by decide +kernel
theorem ofR_lb (r : Int) : ofR r = if lb r ranges < 74 ∧ (ranges.getD (lb r ranges) range0).1 ≤ r then ranges.getD (lb r ranges) range0 else range0 := by
  unfold ofR
  rw [find_lb r ranges_rising, ran_len]
  split <;> rfl
theorem inR_lb (r : Int) : inR r = (decide (lb r ranges < 74) && decide ((ranges.getD (lb r ranges) range0).1 ≤ r)) := by
  unfold inR
  rw [find_lb r ranges_rising, ran_len]
  split
  · rename_i h; rw [Option.isSome_some, decide_eq_true h.1, decide_eq_true h.2]; rfl
  · rename_i h
    simp only [Option.isSome_none]
    symm
    simpa [Bool.and_eq_false_iff] using (fun h1 => Int.not_le.1 fun h2 => h ⟨h1, h2⟩)
end Go.AE
namespace Go.AE
set_option linter.unusedVariables false
theorem inR_no {r : Int} (h : inR r = false) : ofR r = range0 := by
  unfold inR at h; unfold ofR
  cases hf : ranges.find? (rangeP r) with
  | none => rfl
  | some x => rw [hf] at h; simp at h
theorem inR_yes {r : Int} (h : inR r = true) : lb r ranges < 74 ∧ ofR r = ranges.getD (lb r ranges) range0 := by
  rw [inR_lb, Bool.and_eq_true, decide_eq_true_eq, decide_eq_true_eq] at h
  exact ⟨h.1, by rw [ofR_lb, if_pos h]⟩
def idx (n k : Nat) : Int := if k < n then k else -1
theorem idx_in {n k : Nat} (h : k < n) : idx n k = k := by simp [idx, h]
theorem idx_out {n k : Nat} (h : ¬ k < n) : idx n k = -1 := by simp [idx, h]
end Go.AE
namespace Go.AE
theorem upto_succ {q : Nat → Bool} {i : Nat} (h : ∀ j, j < i → q j = false) (hi : q i = false) : ∀ j, j < i + 1 → q j = false := fun j hj => by
  rcases Nat.lt_or_ge j i with h1 | h1
  · exact h j h1
  · have : j = i := by omega
    subst this; exact hi
theorem idx_hit {α : Type} {p : α → Bool} {l : List α} {d : α} {n i : Nat} (hl : l.length = n) (h : ∀ j, j < i → p (l.getD j d) = false) (hi : i < n) (hp : p (l.getD i d) = true) : idx n (l.findIdx p) = i := by
  rw [(first_at h (by omega) hp).1, idx_in hi]
theorem idx_miss {α : Type} {p : α → Bool} {l : List α} {d : α} {n i : Nat} (hl : l.length = n) (h : ∀ j, j < i → p (l.getD j d) = false) (hi : ¬ i < n) : idx n (l.findIdx p) = -1 := by
  rw [(first_none (fun j hj => h j (by omega))).1, idx_out (by omega)]
theorem idx_lt {n k : Nat} : (idx n k < 0) = ¬ k < n := by
  unfold idx; split
  · rename_i h; simp [h]
  · rename_i h; simp [h]
theorem classP_eq {r : Int} {x : ClassT} : classP r x = (decide (x.1 ≤ r) && decide (r ≤ x.2.1)) := rfl
theorem cls_in {r : Int} (h : classes.findIdx (classP r) < 10) : cls r = (classes.getD (classes.findIdx (classP r)) class0).2.2.1 + (classes.getD (classes.findIdx (classP r)) class0).2.2.2 * (r - (classes.getD (classes.findIdx (classP r)) class0).1) ∧ (classes.getD (classes.findIdx (classP r)) class0).1 ≤ r ∧ r ≤ (classes.getD (classes.findIdx (classP r)) class0).2.1 := by
  obtain ⟨h1, h2⟩ := find_idx (d := class0) (by rw [cla_len]; exact h)
  unfold cls
  rw [h1]
  rw [classP_eq] at h2
  simp only [Bool.and_eq_true, decide_eq_true_eq] at h2
  exact ⟨rfl, h2⟩
theorem cls_out {r : Int} (h : ¬ classes.findIdx (classP r) < 10) : cls r = 0 := by
  unfold cls
  rw [find_not (by rw [cla_len]; exact h)]; rfl
theorem cla_ok {i : Nat} (h : i < 10) : 0 ≤ (classes.getD i class0).1 ∧ (classes.getD i class0).2.1 ≤ 70000 ∧ 0 ≤ (classes.getD i class0).2.2.1 ∧ (classes.getD i class0).2.2.1 ≤ 300 ∧ ((classes.getD i class0).2.2.2 = 0 ∨ (classes.getD i class0).2.2.2 = 1) := by
  have := all_getD (l := classes) (d := class0) (i := i) (q := fun x => decide (0 ≤ x.1 ∧ x.2.1 ≤ 70000 ∧ 0 ≤ x.2.2.1 ∧ x.2.2.1 ≤ 300 ∧ (x.2.2.2 = 0 ∨ x.2.2.2 = 1))) (by decide +kernel) (by rw [cla_len]; exact h)
  simpa using this
theorem low_in {r : Int} (h : lowers.findIdx (lowerP r) < 11) : low r = r + (lowers.getD (lowers.findIdx (lowerP r)) lower0).2.2 ∧ (lowers.getD (lowers.findIdx (lowerP r)) lower0).1 ≤ r ∧ r ≤ (lowers.getD (lowers.findIdx (lowerP r)) lower0).2.1 := by
  obtain ⟨h1, h2⟩ := find_idx (d := lower0) (by rw [low_len]; exact h)
  unfold low
  rw [h1]
  unfold lowerP at h2
  simp only [Bool.and_eq_true, decide_eq_true_eq] at h2
  exact ⟨rfl, h2⟩
theorem low_out {r : Int} (h : ¬ lowers.findIdx (lowerP r) < 11) : low r = r := by
  unfold low
  rw [find_not (by rw [low_len]; exact h)]; rfl
theorem low_ok {i : Nat} (h : i < 11) : 0 ≤ (lowers.getD i lower0).1 ∧ (lowers.getD i lower0).2.1 ≤ 70000 ∧ -9000 ≤ (lowers.getD i lower0).2.2 ∧ (lowers.getD i lower0).2.2 ≤ 100 := by
  have := all_getD (l := lowers) (d := lower0) (i := i) (q := fun x => decide (0 ≤ x.1 ∧ x.2.1 ≤ 70000 ∧ -9000 ≤ x.2.2 ∧ x.2.2 ≤ 100)) (by decide +kernel) (by rw [low_len]; exact h)
  simpa using this
/-- A key looked up in a map that was made of a list. -/
theorem mget_map {α : Type} (key : α → Value) (val : α → AV) (k : Value) : ∀ l : List α, mget k (l.map fun a => (key a, val a)) = (l.find? fun a => eqK k (key a)).map val
  | [] => rfl
  | a :: l => by
    simp only [List.map_cons, mget, List.find?_cons]
    cases eqK k (key a) with
    | true => rfl
    | false => exact mget_map key val k l
def MGo {α : Type} (o : Option α) (val : α → AV) (A : AV → Prop) (B : Prop) : Prop := match o with | some a => A (val a) | none => B
theorem MG_map {α : Type} (o : Option α) (val : α → AV) (A : AV → Prop) (B : Prop) : MG (o.map val) A B = MGo o val A B := by cases o <;> rfl
end Go.AE
end
section
/- Plain laws of what the tables say. -/
namespace Go.AE
set_option maxRecDepth 20000
set_option linter.unusedVariables false

def expand (lo hi : Int) : List Int := (List.range (hi - lo + 1).toNat).map fun n : Nat => lo + (n : Int)
theorem mem_expand {lo hi r : Int} (h1 : lo ≤ r) (h2 : r ≤ hi) : r ∈ expand lo hi := by
  unfold expand
  rw [List.mem_map]
  exact ⟨(r - lo).toNat, by rw [List.mem_range]; omega, by omega⟩

theorem find_mem {α : Type} {p : α → Bool} {l : List α} {x : α} (h : l.find? p = some x) : x ∈ l ∧ p x = true := ⟨List.mem_of_find?_eq_some h, List.find?_some h⟩

/-! ### Pairs -/
theorem pairs_fwd {r : Int} (h1 : (spl r).2 = true) (h2 : (spl r).1.2.2.2.2 = false) : pr (spl r).1.2.1 (spl r).1.2.2.1 = (r, true) ∧ (spl r).1.2.2.1 ≠ 0 ∧ (spl r).1.2.2.2.1 = false := by
  cases hw : wide r with
  | true => simp only [spl, hw] at h2; simp at h2
  | false =>
    cases hf : splits.find? (splitP r) with
    | none => simp only [spl, hw, hf, splV] at h1; simp at h1
    | some s =>
      obtain ⟨hm, hp⟩ := find_mem hf
      simp only [spl, hw, hf, splV] at h2 ⊢
      have hall : (splits.all fun s => s.2.2.2.2 || (decide (pr s.2.1 s.2.2.1 = (s.1, true)) && decide (s.2.2.1 ≠ 0) && !s.2.2.2.1)) = true := by decide +kernel
      have := List.all_eq_true.1 hall s hm
      rw [h2] at this
      simp only [Bool.false_or, Bool.and_eq_true, decide_eq_true_eq, Bool.not_eq_true'] at this
      simp only [splitP, beq_iff_eq] at hp
      rw [hp] at this
      exact ⟨this.1.1, this.1.2, this.2⟩
theorem pairs_no {a b : Int} (h : (pr a b).2 = false) : (pr a b).1 = 0 := by
  unfold pr at h ⊢
  cases hf : splits.find? (pairP a b) with
  | none => rfl
  | some s => rw [hf] at h; simp [prV] at h
theorem pairs_bwd {a b : Int} (h : (pr a b).2 = true) : (spl (pr a b).1).2 = true ∧ (spl (pr a b).1).1.2.1 = a ∧ (spl (pr a b).1).1.2.2.1 = b ∧ (spl (pr a b).1).1.2.2.2.2 = false := by
  unfold pr at h ⊢
  cases hf : splits.find? (pairP a b) with
  | none => rw [hf] at h; simp [prV] at h
  | some s =>
    obtain ⟨hm, hp⟩ := find_mem hf
    have hall : (splits.all fun s => decide (spl s.1 = (s, true))) = true := by decide +kernel
    have := List.all_eq_true.1 hall s hm
    simp only [decide_eq_true_eq] at this
    simp only [prV, this]
    simp only [pairP, Bool.and_eq_true, Bool.not_eq_true', beq_iff_eq] at hp
    exact ⟨trivial, hp.1.2, hp.2, hp.1.1.2⟩

/-! ### Small letters -/
def lowAll : List Int := lowers.flatMap fun x => expand x.1 x.2.1
theorem low_all {r : Int} (h : low r ≠ r) : r ∈ lowAll := by
  unfold low at h
  cases hf : lowers.find? (lowerP r) with
  | none => rw [hf] at h; exact absurd rfl h
  | some x =>
    obtain ⟨hm, hp⟩ := find_mem hf
    simp only [lowerP, Bool.and_eq_true, decide_eq_true_eq] at hp
    exact List.mem_flatMap.2 ⟨x, hm, mem_expand hp.1 hp.2⟩
theorem low_chk : (lowAll.all fun r => decide (low (low r) = low r) && decide (cat r = 1) && decide (cat (low r) = 2) && decide (bidi (low r) = bidi r) && decide (cls (low r) = 0) && decide (script (low r) = script r)) = true := by decide +kernel
theorem low_low (r : Int) : low (low r) = low r := by
  by_cases h : low r = r
  · rw [h, h]
  · have := List.all_eq_true.1 low_chk r (low_all h)
    simp only [Bool.and_eq_true, decide_eq_true_eq] at this
    exact this.1.1.1.1.1
theorem low_ne {r : Int} (h : low r ≠ r) : cat r = 1 ∧ cat (low r) = 2 ∧ bidi (low r) = bidi r ∧ cls (low r) = 0 ∧ script (low r) = script r := by
  have := List.all_eq_true.1 low_chk r (low_all h)
  simp only [Bool.and_eq_true, decide_eq_true_eq] at this
  exact ⟨this.1.1.1.1.2, this.1.1.1.2, this.1.1.2, this.1.2, this.2⟩

/-! ### Marks -/
theorem of_mem {r : Int} (h : ofR r ≠ range0) : ofR r ∈ ranges ∧ (ofR r).1 ≤ r ∧ r ≤ (ofR r).2.1 := by
  unfold ofR at h ⊢
  cases hf : ranges.find? (rangeP r) with
  | none => rw [hf] at h; exact absurd rfl h
  | some x =>
    obtain ⟨hm, hp⟩ := find_mem hf
    simp only [rangeP, Bool.and_eq_true, decide_eq_true_eq] at hp
    exact ⟨hm, hp⟩
def withCat (c : Int) : List Int := (ranges.filter fun x => x.2.2.1 == c).flatMap fun x => expand x.1 x.2.1
theorem cat_mem {r c : Int} (hc : c ≠ 0) (h : cat r = c) : r ∈ withCat c := by
  have hne : ofR r ≠ range0 := fun e => by unfold cat at h; rw [e] at h; exact hc h.symm
  obtain ⟨h1, h2, h3⟩ := of_mem hne
  refine List.mem_flatMap.2 ⟨ofR r, List.mem_filter.2 ⟨h1, ?_⟩, mem_expand h2 h3⟩
  simpa [cat] using h
def clsAll : List Int := classes.flatMap fun x => expand x.1 x.2.1
theorem cls_all {r : Int} (h : cls r ≠ 0) : r ∈ clsAll := by
  unfold cls at h
  cases hf : classes.find? (classP r) with
  | none => rw [hf] at h; exact absurd rfl h
  | some x =>
    obtain ⟨hm, hp⟩ := find_mem hf
    simp only [classP, Bool.and_eq_true, decide_eq_true_eq] at hp
    exact List.mem_flatMap.2 ⟨x, hm, mem_expand hp.1 hp.2⟩
theorem cls_chk : (clsAll.all fun r => decide (cat r = 4) && decide (0 < cls r)) = true := by decide +kernel
theorem mark_chk : ((withCat 4).all fun r => decide (0 < cls r) && decide (bidi r = 6) && decide (join r = 3)) = true := by decide +kernel
theorem cls_nonneg (r : Int) : 0 ≤ cls r := by
  by_cases h : cls r = 0
  · omega
  · have := List.all_eq_true.1 cls_chk r (cls_all h)
    simp only [Bool.and_eq_true, decide_eq_true_eq] at this
    omega
theorem mark_iff (r : Int) : 0 < cls r ↔ cat r = 4 := by
  constructor
  · intro h
    have := List.all_eq_true.1 cls_chk r (cls_all (by omega))
    simp only [Bool.and_eq_true, decide_eq_true_eq] at this
    exact this.1
  · intro h
    have := List.all_eq_true.1 mark_chk r (cat_mem (by decide) h)
    simp only [Bool.and_eq_true, decide_eq_true_eq] at this
    exact this.1.1
theorem mark_bidi {r : Int} (h : cat r = 4) : bidi r = 6 ∧ join r = 3 := by
  have := List.all_eq_true.1 mark_chk r (cat_mem (by decide) h)
  simp only [Bool.and_eq_true, decide_eq_true_eq] at this
  exact ⟨this.1.2, this.2⟩

/-! ### What characters are made of -/
theorem spl_no {r : Int} (h : (spl r).2 = false) : (spl r).1 = split0 := by
  cases hw : wide r with
  | true => simp only [spl, hw] at h; simp at h
  | false =>
    simp only [spl, hw] at h ⊢
    cases hf : splits.find? (splitP r) with
    | none => rfl
    | some s => rw [hf] at h; simp [splV] at h
/-- A property of all that is made of others: of the table's rows, and of wide characters. -/
theorem spl_all {q : Int → SplitT → Bool} (h1 : (splits.all fun s => q s.1 s) = true) (h2 : ((expand 65281 65374).all fun r => q r (r, r - 65248, 0, true, true)) = true) {r : Int} (h : (spl r).2 = true) : q r (spl r).1 = true := by
  cases hw : wide r with
  | true =>
    have hb : 65281 ≤ r ∧ r ≤ 65374 := by simpa [wide] using hw
    simp only [spl, hw]
    exact List.all_eq_true.1 h2 r (mem_expand hb.1 hb.2)
  | false =>
    simp only [spl, hw] at h ⊢
    cases hf : splits.find? (splitP r) with
    | none => rw [hf] at h; simp [splV] at h
    | some s =>
      obtain ⟨hm, hp⟩ := find_mem hf
      simp only [splitP, beq_iff_eq] at hp
      have := List.all_eq_true.1 h1 s hm
      rw [hp] at this
      exact this
theorem spl_marks {r : Int} (h : (spl r).2 = true) : cls (spl r).1.2.1 = 0 ∧ cls r = 0 ∧ ((spl r).1.2.2.1 = 0 ∨ (spl r).1.2.2.2.1 = true ∨ 0 < cls (spl r).1.2.2.1) ∧ cat (spl r).1.2.1 ≠ 0 := by
  have := spl_all (q := fun r s => decide (cls s.2.1 = 0) && decide (cls r = 0) && (decide (s.2.2.1 = 0) || s.2.2.2.1 || decide (0 < cls s.2.2.1)) && decide (cat s.2.1 ≠ 0)) (by decide +kernel) (by decide +kernel) h
  simp only [Bool.and_eq_true, Bool.or_eq_true, decide_eq_true_eq] at this
  exact ⟨this.1.1.1, this.1.1.2, or_assoc.1 this.1.2, this.2⟩
theorem spl_self {r : Int} (h : (spl r).2 = true) : (spl r).1.2.1 ≠ r := by
  have := spl_all (q := fun r s => decide (s.2.1 ≠ r)) (by decide +kernel) (by decide +kernel) h
  simpa using this
theorem wide_spl {r : Int} (h : wide r = true) : spl r = ((r, r - 65248, 0, true, true), true) := by simp only [spl, h]
theorem wide_low {r : Int} (h : wide r = true) : 33 ≤ r - 65248 ∧ r - 65248 ≤ 126 ∧ (spl (low r)).2 = true ∧ (spl (low r)).1.2.1 = low (r - 65248) := by
  have hb : 65281 ≤ r ∧ r ≤ 65374 := by simpa [wide] using h
  have hc : ((expand 65281 65374).all fun r => (spl (low r)).2 && decide ((spl (low r)).1.2.1 = low (r - 65248))) = true := by decide +kernel
  have := List.all_eq_true.1 hc r (mem_expand hb.1 hb.2)
  simp only [Bool.and_eq_true, decide_eq_true_eq] at this
  exact ⟨by omega, by omega, this.1, this.2⟩
end Go.AE
namespace Go.AE
theorem spl_bounds {r : Int} (h : (spl r).2 = true) : 0 ≤ (spl r).1.2.1 ∧ (spl r).1.2.1 ≤ 70000 ∧ 0 ≤ (spl r).1.2.2.1 ∧ (spl r).1.2.2.1 ≤ 70000 := by
  have := spl_all (q := fun r s => decide (0 ≤ s.2.1) && decide (s.2.1 ≤ 70000) && decide (0 ≤ s.2.2.1) && decide (s.2.2.1 ≤ 70000)) (by decide +kernel) (by decide +kernel) h
  simp only [Bool.and_eq_true, decide_eq_true_eq] at this
  exact ⟨this.1.1.1, this.1.1.2, this.1.2, this.2⟩
theorem wide_small {r : Int} (h : wide r = true) : (spl r).1.2.1 = r - 65248 ∧ (spl r).2 = true ∧ (spl r).1.2.2.1 = 0 ∧ (spl r).1.2.2.2.1 = true ∧ (spl r).1.2.2.2.2 = true := by rw [wide_spl h]; exact ⟨rfl, rfl, rfl, rfl, rfl⟩
theorem low_bounds {r : Int} (h0 : -2147483648 ≤ r) (h1 : r ≤ 2147483647) : -2147483648 ≤ low r ∧ low r ≤ 2147483647 := by
  by_cases h : low r = r
  · rw [h]; exact ⟨h0, h1⟩
  · have hc : (lowAll.all fun r => decide (-2147483648 ≤ low r) && decide (low r ≤ 2147483647)) = true := by decide +kernel
    have := List.all_eq_true.1 hc r (low_all h)
    simpa using this
end Go.AE
end
