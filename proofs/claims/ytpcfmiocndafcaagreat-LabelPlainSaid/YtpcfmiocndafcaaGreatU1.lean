/- Contracts of functions that the laws of this seat reach, and plain laws of what they compute. No condition beyond each statement's own. -/
import Derived.Test.YtpcfmiocndafcaaGreatAERule
set_option linter.unusedVariables false
set_option linter.unusedSimpArgs false
namespace Go.AE
abbrev RangeT := Int × Int × Int × Int × Int × Int
abbrev ClassT := Int × Int × Int × Int
abbrev LowerT := Int × Int × Int
abbrev SplitT := Int × Int × Int × Bool × Bool
def ranges : List RangeT := [(0, 31, 9, 0, 0, 0), (32, 32, 8, 0, 0, 0), (33, 44, 6, 0, 0, 0), (45, 47, 6, 7, 0, 0), (48, 57, 5, 4, 0, 0), (58, 64, 6, 0, 0, 0),
  (65, 90, 1, 1, 0, 1), (91, 96, 6, 0, 0, 0), (97, 122, 2, 1, 0, 1), (123, 126, 7, 0, 0, 0), (127, 127, 9, 0, 0, 0), (160, 160, 8, 0, 0, 0),
  (178, 179, 7, 4, 0, 0), (183, 183, 6, 0, 0, 0), (192, 214, 1, 1, 0, 1), (215, 215, 7, 0, 0, 0), (216, 222, 1, 1, 0, 1), (223, 246, 2, 1, 0, 1),
  (247, 247, 7, 0, 0, 0), (248, 255, 2, 1, 0, 1), (768, 772, 4, 6, 3, 0), (774, 776, 4, 6, 3, 0), (778, 778, 4, 6, 3, 0), (803, 803, 4, 6, 3, 0),
  (807, 807, 4, 6, 3, 0), (885, 885, 7, 0, 0, 2), (913, 929, 1, 1, 0, 2), (931, 937, 1, 1, 0, 2), (945, 969, 2, 1, 0, 2), (1040, 1071, 1, 1, 0, 3),
  (1072, 1103, 2, 1, 0, 3), (1456, 1465, 4, 6, 3, 4), (1488, 1514, 3, 2, 0, 4), (1523, 1524, 6, 2, 0, 4), (1575, 1575, 3, 3, 2, 5), (1576, 1576, 3, 3, 1, 5),
  (1577, 1577, 3, 3, 2, 5), (1578, 1582, 3, 3, 1, 5), (1583, 1586, 3, 3, 2, 5), (1587, 1594, 3, 3, 1, 5), (1601, 1607, 3, 3, 1, 5), (1608, 1608, 3, 3, 2, 5),
  (1610, 1610, 3, 3, 1, 5), (1611, 1618, 4, 6, 3, 0), (1632, 1641, 5, 5, 0, 5), (1776, 1785, 5, 4, 0, 5), (2325, 2361, 3, 1, 0, 6), (2364, 2364, 4, 6, 3, 6),
  (2381, 2381, 4, 6, 3, 6), (2392, 2392, 3, 1, 0, 6), (4352, 4370, 3, 1, 0, 9), (4449, 4469, 3, 1, 0, 9), (4520, 4546, 3, 1, 0, 9), (7844, 7844, 1, 1, 0, 1),
  (7845, 7845, 2, 1, 0, 1), (8204, 8205, 10, 0, 0, 0), (8490, 8491, 1, 1, 0, 1), (12290, 12290, 6, 0, 0, 0), (12353, 12438, 3, 1, 0, 7), (12441, 12441, 4, 6, 3, 0),
  (12449, 12538, 3, 1, 0, 7), (12539, 12539, 6, 0, 0, 0), (19968, 40959, 3, 1, 0, 8), (44032, 55203, 3, 1, 0, 9), (64257, 64258, 2, 1, 0, 1), (65281, 65295, 6, 0, 0, 0),
  (65296, 65305, 5, 4, 0, 0), (65306, 65312, 6, 0, 0, 0), (65313, 65338, 1, 1, 0, 1), (65339, 65344, 6, 0, 0, 0), (65345, 65370, 2, 1, 0, 1), (65371, 65374, 7, 0, 0, 0),
  (66560, 66599, 1, 1, 0, 10), (66600, 66639, 2, 1, 0, 10)]
def classes : List ClassT := [(768, 772, 230, 0), (774, 776, 230, 0), (778, 778, 230, 0), (803, 803, 220, 0), (807, 807, 202, 0), (1456, 1465, 10, 1),
  (1611, 1618, 27, 1), (2364, 2364, 7, 0), (2381, 2381, 9, 0), (12441, 12441, 8, 0)]
def lowers : List LowerT := [(65, 90, 32), (192, 214, 32), (216, 222, 32), (913, 929, 32), (931, 937, 32), (1040, 1071, 32),
  (7844, 7844, 1), (8490, 8490, (-8383)), (8491, 8491, (-8262)), (65313, 65338, 32), (66560, 66599, 40)]
def splits : List SplitT := [(160, 32, 0, true, true), (178, 50, 0, true, true), (179, 51, 0, true, true), (192, 65, 768, false, false), (193, 65, 769, false, false), (194, 65, 770, false, false),
  (195, 65, 771, false, false), (196, 65, 776, false, false), (197, 65, 778, false, false), (199, 67, 807, false, false), (200, 69, 768, false, false), (201, 69, 769, false, false),
  (202, 69, 770, false, false), (203, 69, 776, false, false), (209, 78, 771, false, false), (214, 79, 776, false, false), (220, 85, 776, false, false), (224, 97, 768, false, false),
  (225, 97, 769, false, false), (226, 97, 770, false, false), (227, 97, 771, false, false), (228, 97, 776, false, false), (229, 97, 778, false, false), (231, 99, 807, false, false),
  (232, 101, 768, false, false), (233, 101, 769, false, false), (234, 101, 770, false, false), (235, 101, 776, false, false), (241, 110, 771, false, false), (246, 111, 776, false, false),
  (252, 117, 776, false, false), (1049, 1048, 774, false, false), (1081, 1080, 774, false, false), (2392, 2325, 2364, false, true), (7844, 194, 769, false, false), (7845, 226, 769, false, false),
  (8490, 75, 0, false, true), (8491, 197, 0, false, true), (12460, 12459, 12441, false, false), (12468, 12467, 12441, false, false), (64257, 102, 105, true, true), (64258, 102, 108, true, true)]
def z1s (x : RangeT) : List AV := [I32 x.1, I32 x.2.1, I64 x.2.2.1, I64 x.2.2.2.1, I64 x.2.2.2.2.1, I64 x.2.2.2.2.2]
def z1q (x : ClassT) : List AV := [I32 x.1, I32 x.2.1, I64 x.2.2.1, I64 x.2.2.2]
def z1r (x : LowerT) : List AV := [I32 x.1, I32 x.2.1, I32 x.2.2]
def z0d (x : SplitT) : List AV := [I32 x.1, I32 x.2.1, I32 x.2.2.1, Bv x.2.2.2.1, Bv x.2.2.2.2]
theorem z9o {α : Type} (l : List α) (i : Nat) (d : α) (h : i < l.length) : l.take (i + 1) = l.take i ++ [l.getD i d] := by
  rw [List.take_add_one]
  simp [List.getD, h]
section
variable {α : Type} {f : α → List AV} {k : Nat} (hk : ∀ x, (f x).length = k)
theorem zkx (l : List α) (hk : ∀ x, (f x).length = k) : (l.flatMap f).length = l.length * k := by
  induction l with
  | nil => simp
  | cons a l ih => simp [ih, hk, Nat.add_mul]; omega
theorem zfp (hk : ∀ x, (f x).length = k) : ∀ (l : List α) (j : Nat), (l.flatMap f).drop (j * k) = (l.drop j).flatMap f
  | [], j => by simp
  | a :: l, 0 => by simp
  | a :: l, j + 1 => by
    rw [List.flatMap_cons, List.drop_succ_cons, ← zfp hk l j, show (j + 1) * k = (f a).length + j * k by rw [hk, Nat.add_mul]; omega]
    simp
theorem zb4 (hk : ∀ x, (f x).length = k) (l : List α) (j : Nat) (d : α) (hj : j < l.length) : ((l.flatMap f).drop (j * k)).take k = f (l.getD j d) := by
  rw [zfp hk]
  have : l.drop j = l.getD j d :: l.drop (j + 1) := by
    rw [List.drop_eq_getElem_cons hj]; simp [List.getD, hj]
  rw [this, List.flatMap_cons, List.take_append_of_le_length (by rw [hk]; exact Nat.le_refl _), List.take_of_length_le (by rw [hk]; exact Nat.le_refl _)]
theorem zwc (a b : List AV) (i : Nat) (h : i < a.length) : nth (a ++ b) i = nth a i := by
  induction a generalizing i with
  | nil => simp at h
  | cons x a ih => cases i with
    | zero => rfl
    | succ i => simpa [nth] using ih i (by simpa using h)
theorem z35 (hk : ∀ x, (f x).length = k) (l : List α) (j i : Nat) (d : α) (hj : j < l.length) (hi : i < k) : nth (l.flatMap f) (j * k + i) = nth (f (l.getD j d)) i := by
  rw [← z0k, zfp hk]
  have : l.drop j = l.getD j d :: l.drop (j + 1) := by
    rw [List.drop_eq_getElem_cons hj]; simp [List.getD, hj]
  rw [this, List.flatMap_cons, zwc _ _ _ (by rw [hk]; exact hi)]
end
end Go.AE
section
namespace Go.AE
set_option maxRecDepth 20000
set_option linter.unusedVariables false
section
variable {α : Type} {p : α → Bool} {l : List α} {d : α} {i : Nat}
theorem zk5 (h : ∀ j, j < i → p (l.getD j d) = false) (hi : i < l.length) (hp : p (l.getD i d) = true) : l.findIdx p = i ∧ l.find? p = some (l.getD i d) := by
  induction l generalizing i with
  | nil => simp at hi
  | cons a l ih =>
    cases i with
    | zero => simp at hp; simp [List.findIdx_cons, hp]
    | succ i =>
      have h0 := h 0 (by omega)
      simp only [List.getD_cons_zero] at h0
      obtain ⟨h1, h2⟩ := ih (i := i) (fun j hj => by have := h (j + 1) (by omega); simpa using this) (by simpa using hi) (by simpa using hp)
      refine ⟨by simp [List.findIdx_cons, h0, h1], ?_⟩
      rw [List.find?_cons, h0, List.getD_cons_succ]; exact h2
theorem zvh (h : ∀ j, j < l.length → p (l.getD j d) = false) : l.findIdx p = l.length ∧ l.find? p = none := by
  induction l with
  | nil => simp
  | cons a l ih =>
    have h0 := h 0 (by simp)
    simp only [List.getD_cons_zero] at h0
    obtain ⟨h1, h2⟩ := ih (fun j hj => by have := h (j + 1) (by simpa using hj); simpa using this)
    refine ⟨by simp [List.findIdx_cons, h0, h1], ?_⟩
    rw [List.find?_cons, h0]; exact h2
theorem zso {q : α → Bool} (h : l.all q = true) (hi : i < l.length) : q (l.getD i d) = true := by
  have := List.all_eq_true.1 h (l.getD i d) (by simp [List.getD, hi])
  exact this
theorem zt6 (hd : l.findIdx p < l.length) : l.find? p = some (l.getD (l.findIdx p) d) ∧ p (l.getD (l.findIdx p) d) = true := by
  have h2 := List.findIdx_getElem (w := hd)
  have h3 : l.getD (l.findIdx p) d = l[l.findIdx p] := by simp [List.getD, hd]
  rw [h3]
  refine ⟨?_, h2⟩
  have := (zk5 (l := l) (p := p) (d := d) (i := l.findIdx p) (fun j hj => by
    have hj' : j < l.length := by omega
    have := List.not_of_lt_findIdx hj
    simp [List.getD, hj']; simpa using this) hd (by rw [h3]; exact h2)).2
  rw [this, h3]
theorem zt7 (hd : ¬ l.findIdx p < l.length) : l.find? p = none := by
  rw [List.find?_eq_none]
  intro x hx
  have := List.findIdx_lt_length_of_exists (p := p) (xs := l)
  simp only [Bool.not_eq_true]
  cases hp : p x with
  | false => rfl
  | true => exact absurd (this ⟨x, hx, hp⟩) hd
end
def z47 : RangeT := (0, 0, 0, 0, 0, 0)
def z3e : ClassT := (0, 0, 0, 0)
def z57 : LowerT := (0, 0, 0)
def z2b : SplitT := (0, 0, 0, false, false)
def z1j (r : Int) (x : RangeT) : Bool := decide (x.1 ≤ r) && decide (r ≤ x.2.1)
def z14 (r : Int) (x : ClassT) : Bool := decide (x.1 ≤ r) && decide (r ≤ x.2.1)
def z18 (r : Int) (x : LowerT) : Bool := decide (x.1 ≤ r) && decide (r ≤ x.2.1)
def z1z (r : Int) (x : SplitT) : Bool := x.1 == r
def z3o (a b : Int) (x : SplitT) : Bool := !x.2.2.2.1 && !x.2.2.2.2 && (x.2.1 == a) && (x.2.2.1 == b)
def ofR (r : Int) : RangeT := (ranges.find? (z1j r)).getD z47
def inR (r : Int) : Bool := (ranges.find? (z1j r)).isSome
def cat (r : Int) : Int := (ofR r).2.2.1
def bidi (r : Int) : Int := (ofR r).2.2.2.1
def join (r : Int) : Int := (ofR r).2.2.2.2.1
def script (r : Int) : Int := (ofR r).2.2.2.2.2
def clsV (r : Int) : Option ClassT → Int
  | some x => x.2.2.1 + x.2.2.2 * (r - x.1)
  | none => 0
def cls (r : Int) : Int := clsV r (classes.find? (z14 r))
def lowV (r : Int) : Option LowerT → Int
  | some x => r + x.2.2
  | none => r
def low (r : Int) : Int := lowV r (lowers.find? (z18 r))
def wide (r : Int) : Bool := decide (65281 ≤ r) && decide (r ≤ 65374)
def splV (r : Int) : Option SplitT → SplitT × Bool
  | some x => (x, true)
  | none => (z2b, false)
def spl (r : Int) : SplitT × Bool := match wide r with
  | true => ((r, r - 65248, 0, true, true), true)
  | false => splV r (splits.find? (z1z r))
def prV : Option SplitT → Int × Bool
  | some x => (x.1, true)
  | none => (0, false)
def pr (a b : Int) : Int × Bool := prV (splits.find? (z3o a b))
theorem z7f : ranges.length = 74 := rfl
theorem z6f : classes.length = 10 := rfl
theorem z7b : lowers.length = 11 := rfl
theorem z8l : splits.length = 42 := rfl
theorem z1d : (ranges.flatMap z1s).length = 444 := rfl
theorem z19 : (classes.flatMap z1q).length = 40 := rfl
theorem z1b : (lowers.flatMap z1r).length = 33 := rfl
theorem z15 : (splits.flatMap z0d).length = 210 := rfl
theorem z1e {i : Nat} (h : i < 74) : ((ranges.flatMap z1s).drop (i * 6)).take 6 = z1s (ranges.getD i z47) := zb4 (k := 6) (fun _ => rfl) _ _ _ (by rw [z7f]; exact h)
theorem z1a {i : Nat} (h : i < 10) : ((classes.flatMap z1q).drop (i * 4)).take 4 = z1q (classes.getD i z3e) := zb4 (k := 4) (fun _ => rfl) _ _ _ (by rw [z6f]; exact h)
theorem z1c {i : Nat} (h : i < 11) : ((lowers.flatMap z1r).drop (i * 3)).take 3 = z1r (lowers.getD i z57) := zb4 (k := 3) (fun _ => rfl) _ _ _ (by rw [z7b]; exact h)
theorem z13 {i : Nat} (h : i < 42) : ((splits.flatMap z0d).drop (i * 5)).take 5 = z0d (splits.getD i z2b) := zb4 (k := 5) (fun _ => rfl) _ _ _ (by rw [z8l]; exact h)
section
variable {i : Nat}
theorem z33 (h : i < 74) : nth (ranges.flatMap z1s) (i * 6) = I32 (ranges.getD i z47).1 := z35 (k := 6) (fun _ => rfl) _ i 0 z47 (by rw [z7f]; exact h) (by decide)
theorem z34 (h : i < 74) : nth (ranges.flatMap z1s) (i * 6 + 1) = I32 (ranges.getD i z47).2.1 := z35 (k := 6) (fun _ => rfl) _ i 1 z47 (by rw [z7f]; exact h) (by decide)
theorem z2w (h : i < 10) : nth (classes.flatMap z1q) (i * 4) = I32 (classes.getD i z3e).1 := z35 (k := 4) (fun _ => rfl) _ i 0 z3e (by rw [z6f]; exact h) (by decide)
theorem z2x (h : i < 10) : nth (classes.flatMap z1q) (i * 4 + 1) = I32 (classes.getD i z3e).2.1 := z35 (k := 4) (fun _ => rfl) _ i 1 z3e (by rw [z6f]; exact h) (by decide)
theorem z2y (h : i < 10) : nth (classes.flatMap z1q) (i * 4 + 2) = I64 (classes.getD i z3e).2.2.1 := z35 (k := 4) (fun _ => rfl) _ i 2 z3e (by rw [z6f]; exact h) (by decide)
theorem z2z (h : i < 10) : nth (classes.flatMap z1q) (i * 4 + 3) = I64 (classes.getD i z3e).2.2.2 := z35 (k := 4) (fun _ => rfl) _ i 3 z3e (by rw [z6f]; exact h) (by decide)
theorem z30 (h : i < 11) : nth (lowers.flatMap z1r) (i * 3) = I32 (lowers.getD i z57).1 := z35 (k := 3) (fun _ => rfl) _ i 0 z57 (by rw [z7b]; exact h) (by decide)
theorem z31 (h : i < 11) : nth (lowers.flatMap z1r) (i * 3 + 1) = I32 (lowers.getD i z57).2.1 := z35 (k := 3) (fun _ => rfl) _ i 1 z57 (by rw [z7b]; exact h) (by decide)
theorem z32 (h : i < 11) : nth (lowers.flatMap z1r) (i * 3 + 2) = I32 (lowers.getD i z57).2.2 := z35 (k := 3) (fun _ => rfl) _ i 2 z57 (by rw [z7b]; exact h) (by decide)
theorem z36 (h : i < 42) : nth (splits.flatMap z0d) (i * 5) = I32 (splits.getD i z2b).1 := z35 (k := 5) (fun _ => rfl) _ i 0 z2b (by rw [z8l]; exact h) (by decide)
theorem z37 (h : i < 42) : nth (splits.flatMap z0d) (i * 5 + 1) = I32 (splits.getD i z2b).2.1 := z35 (k := 5) (fun _ => rfl) _ i 1 z2b (by rw [z8l]; exact h) (by decide)
theorem z38 (h : i < 42) : nth (splits.flatMap z0d) (i * 5 + 2) = I32 (splits.getD i z2b).2.2.1 := z35 (k := 5) (fun _ => rfl) _ i 2 z2b (by rw [z8l]; exact h) (by decide)
theorem z39 (h : i < 42) : nth (splits.flatMap z0d) (i * 5 + 3) = Bv (splits.getD i z2b).2.2.2.1 := z35 (k := 5) (fun _ => rfl) _ i 3 z2b (by rw [z8l]; exact h) (by decide)
theorem z3a (h : i < 42) : nth (splits.flatMap z0d) (i * 5 + 4) = Bv (splits.getD i z2b).2.2.2.2 := z35 (k := 5) (fun _ => rfl) _ i 4 z2b (by rw [z8l]; exact h) (by decide)
end
def rising : List RangeT → Bool
  | [] => true
  | [x] => decide (x.1 ≤ x.2.1)
  | x :: y :: l => decide (x.1 ≤ x.2.1) && decide (x.2.1 < y.1) && rising (y :: l)
theorem zfm {x : RangeT} {l : List RangeT} (h : rising (x :: l) = true) : rising l = true ∧ x.1 ≤ x.2.1 ∧ ∀ y ∈ l, x.2.1 < y.1 ∧ x.2.1 < y.2.1 := by
  induction l generalizing x with
  | nil => simp [rising] at h; simp [rising, h]
  | cons y l ih =>
    simp only [rising, Bool.and_eq_true, decide_eq_true_eq] at h
    obtain ⟨h1, h2, h3⟩ := ih h.2
    refine ⟨h.2, h.1.1, fun z hz => ?_⟩
    rcases List.mem_cons.1 hz with rfl | hz
    · omega
    · have := h3 z hz; omega
def lb (r : Int) (l : List RangeT) : Nat := l.findIdx fun x => decide (r ≤ x.2.1)
theorem lb_le (r : Int) (l : List RangeT) : lb r l ≤ l.length := List.findIdx_le_length
theorem zke (r : Int) : ∀ {l : List RangeT}, rising l = true → ∀ j, j < l.length → ((l.getD j z47).2.1 < r ↔ j < lb r l)
  | [], _, j, hj => by simp at hj
  | x :: l, h, j, hj => by
    obtain ⟨h1, h2, h3⟩ := zfm h
    unfold lb
    rw [List.findIdx_cons]
    cases hx : decide (r ≤ x.2.1) with
    | true =>
      simp only [decide_eq_true_eq] at hx
      simp only [cond_true, Nat.not_lt_zero, iff_false]
      cases j with
      | zero => simp; omega
      | succ j =>
        have := h3 ((x :: l).getD (j + 1) z47) (by
          have hj' : j < l.length := by simpa using hj
          simp [List.getD, hj'])
        omega
    | false =>
      simp only [decide_eq_false_iff_not] at hx
      simp only [cond_false]
      cases j with
      | zero => simp; omega
      | succ j =>
        have := zke r h1 j (by simpa using hj)
        rw [List.getD_cons_succ, this]
        unfold lb
        omega
theorem zoz (r : Int) : ∀ {l : List RangeT}, rising l = true → l.find? (z1j r) = (if lb r l < l.length ∧ (l.getD (lb r l) z47).1 ≤ r then some (l.getD (lb r l) z47) else none)
  | [], _ => by simp
  | x :: l, h => by
    obtain ⟨h1, h2, h3⟩ := zfm h
    rw [List.find?_cons]
    have hlb : lb r (x :: l) = bif decide (r ≤ x.2.1) then 0 else lb r l + 1 := by unfold lb; rw [List.findIdx_cons]
    rw [hlb]
    cases hx : decide (r ≤ x.2.1) with
    | true =>
      simp only [decide_eq_true_eq] at hx
      simp only [cond_true, List.getD_cons_zero, List.length_cons, Nat.zero_lt_succ, true_and]
      by_cases h4 : x.1 ≤ r
      · rw [if_pos h4]; simp [z1j, h4, hx]
      · rw [if_neg h4]
        have : z1j r x = false := by simp [z1j]; omega
        rw [this]
        simp only
        rw [List.find?_eq_none]
        intro y hy
        have := h3 y hy
        simp [z1j]; omega
    | false =>
      simp only [decide_eq_false_iff_not] at hx
      have : z1j r x = false := by simp [z1j]; omega
      rw [this]
      simp only [cond_false, List.length_cons, List.getD_cons_succ, Nat.add_lt_add_iff_right]
      exact zoz r h1
theorem z4i : rising ranges = true := by decide +kernel
theorem ofR_lb (r : Int) : ofR r = if lb r ranges < 74 ∧ (ranges.getD (lb r ranges) z47).1 ≤ r then ranges.getD (lb r ranges) z47 else z47 := by
  unfold ofR
  rw [zoz r z4i, z7f]
  split <;> rfl
theorem inR_lb (r : Int) : inR r = (decide (lb r ranges < 74) && decide ((ranges.getD (lb r ranges) z47).1 ≤ r)) := by
  unfold inR
  rw [zoz r z4i, z7f]
  split
  · rename_i h; rw [Option.isSome_some, decide_eq_true h.1, decide_eq_true h.2]; rfl
  · rename_i h
    simp only [Option.isSome_none]
    symm
    simpa [Bool.and_eq_false_iff] using (fun h1 => Int.not_le.1 fun h2 => h ⟨h1, h2⟩)
end Go.AE
namespace Go.AE
set_option linter.unusedVariables false
theorem inR_no {r : Int} (h : inR r = false) : ofR r = z47 := by
  unfold inR at h; unfold ofR
  cases hf : ranges.find? (z1j r) with
  | none => rfl
  | some x => rw [hf] at h; simp at h
theorem inR_yes {r : Int} (h : inR r = true) : lb r ranges < 74 ∧ ofR r = ranges.getD (lb r ranges) z47 := by
  rw [inR_lb, Bool.and_eq_true, decide_eq_true_eq, decide_eq_true_eq] at h
  exact ⟨h.1, by rw [ofR_lb, if_pos h]⟩
def idx (n k : Nat) : Int := if k < n then k else -1
theorem ztb {n k : Nat} (h : k < n) : idx n k = k := by simp [idx, h]
theorem zkb {n k : Nat} (h : ¬ k < n) : idx n k = -1 := by simp [idx, h]
end Go.AE
namespace Go.AE
theorem z8p {q : Nat → Bool} {i : Nat} (h : ∀ j, j < i → q j = false) (hi : q i = false) : ∀ j, j < i + 1 → q j = false := fun j hj => by
  rcases Nat.lt_or_ge j i with h1 | h1
  · exact h j h1
  · have : j = i := by omega
    subst this; exact hi
theorem zeg {α : Type} {p : α → Bool} {l : List α} {d : α} {n i : Nat} (hl : l.length = n) (h : ∀ j, j < i → p (l.getD j d) = false) (hi : i < n) (hp : p (l.getD i d) = true) : idx n (l.findIdx p) = i := by
  rw [(zk5 h (by omega) hp).1, ztb hi]
theorem zag {α : Type} {p : α → Bool} {l : List α} {d : α} {n i : Nat} (hl : l.length = n) (h : ∀ j, j < i → p (l.getD j d) = false) (hi : ¬ i < n) : idx n (l.findIdx p) = -1 := by
  rw [(zvh (fun j hj => h j (by omega))).1, zkb (by omega)]
theorem classP_eq {r : Int} {x : ClassT} : z14 r x = (decide (x.1 ≤ r) && decide (r ≤ x.2.1)) := rfl
theorem cls_in {r : Int} (h : classes.findIdx (z14 r) < 10) : cls r = (classes.getD (classes.findIdx (z14 r)) z3e).2.2.1 + (classes.getD (classes.findIdx (z14 r)) z3e).2.2.2 * (r - (classes.getD (classes.findIdx (z14 r)) z3e).1) ∧ (classes.getD (classes.findIdx (z14 r)) z3e).1 ≤ r ∧ r ≤ (classes.getD (classes.findIdx (z14 r)) z3e).2.1 := by
  obtain ⟨h1, h2⟩ := zt6 (d := z3e) (by rw [z6f]; exact h)
  unfold cls
  rw [h1]
  rw [classP_eq] at h2
  simp only [Bool.and_eq_true, decide_eq_true_eq] at h2
  exact ⟨rfl, h2⟩
theorem cls_out {r : Int} (h : ¬ classes.findIdx (z14 r) < 10) : cls r = 0 := by
  unfold cls
  rw [zt7 (by rw [z6f]; exact h)]; rfl
theorem cla_ok {i : Nat} (h : i < 10) : 0 ≤ (classes.getD i z3e).1 ∧ (classes.getD i z3e).2.1 ≤ 70000 ∧ 0 ≤ (classes.getD i z3e).2.2.1 ∧ (classes.getD i z3e).2.2.1 ≤ 300 ∧ ((classes.getD i z3e).2.2.2 = 0 ∨ (classes.getD i z3e).2.2.2 = 1) := by
  have := zso (l := classes) (d := z3e) (i := i) (q := fun x => decide (0 ≤ x.1 ∧ x.2.1 ≤ 70000 ∧ 0 ≤ x.2.2.1 ∧ x.2.2.1 ≤ 300 ∧ (x.2.2.2 = 0 ∨ x.2.2.2 = 1))) (by decide +kernel) (by rw [z6f]; exact h)
  simpa using this
theorem low_in {r : Int} (h : lowers.findIdx (z18 r) < 11) : low r = r + (lowers.getD (lowers.findIdx (z18 r)) z57).2.2 ∧ (lowers.getD (lowers.findIdx (z18 r)) z57).1 ≤ r ∧ r ≤ (lowers.getD (lowers.findIdx (z18 r)) z57).2.1 := by
  obtain ⟨h1, h2⟩ := zt6 (d := z57) (by rw [z7b]; exact h)
  unfold low
  rw [h1]
  unfold z18 at h2
  simp only [Bool.and_eq_true, decide_eq_true_eq] at h2
  exact ⟨rfl, h2⟩
theorem low_out {r : Int} (h : ¬ lowers.findIdx (z18 r) < 11) : low r = r := by
  unfold low
  rw [zt7 (by rw [z7b]; exact h)]; rfl
theorem low_ok {i : Nat} (h : i < 11) : 0 ≤ (lowers.getD i z57).1 ∧ (lowers.getD i z57).2.1 ≤ 70000 ∧ -9000 ≤ (lowers.getD i z57).2.2 ∧ (lowers.getD i z57).2.2 ≤ 100 := by
  have := zso (l := lowers) (d := z57) (i := i) (q := fun x => decide (0 ≤ x.1 ∧ x.2.1 ≤ 70000 ∧ -9000 ≤ x.2.2 ∧ x.2.2 ≤ 100)) (by decide +kernel) (by rw [z7b]; exact h)
  simpa using this
theorem zkk {α : Type} (key : α → Value) (val : α → AV) (k : Value) : ∀ l : List α, mget k (l.map fun a => (key a, val a)) = (l.find? fun a => eqK k (key a)).map val
  | [] => rfl
  | a :: l => by
    simp only [List.map_cons, mget, List.find?_cons]
    cases eqK k (key a) with
    | true => rfl
    | false => exact zkk key val k l
end Go.AE
end
section
namespace Go.AE
set_option maxRecDepth 20000
set_option linter.unusedVariables false
def expand (lo hi : Int) : List Int := (List.range (hi - lo + 1).toNat).map fun n : Nat => lo + (n : Int)
theorem z3m {lo hi r : Int} (h1 : lo ≤ r) (h2 : r ≤ hi) : r ∈ expand lo hi := by
  unfold expand
  rw [List.mem_map]
  exact ⟨(r - lo).toNat, by rw [List.mem_range]; omega, by omega⟩
theorem z8y {α : Type} {p : α → Bool} {l : List α} {x : α} (h : l.find? p = some x) : x ∈ l ∧ p x = true := ⟨List.mem_of_find?_eq_some h, List.find?_some h⟩
theorem pairs_fwd {r : Int} (h1 : (spl r).2 = true) (h2 : (spl r).1.2.2.2.2 = false) : pr (spl r).1.2.1 (spl r).1.2.2.1 = (r, true) ∧ (spl r).1.2.2.1 ≠ 0 ∧ (spl r).1.2.2.2.1 = false := by
  cases hw : wide r with
  | true => simp only [spl, hw] at h2; simp at h2
  | false =>
    cases hf : splits.find? (z1z r) with
    | none => simp only [spl, hw, hf, splV] at h1; simp at h1
    | some s =>
      obtain ⟨hm, hp⟩ := z8y hf
      simp only [spl, hw, hf, splV] at h2 ⊢
      have hall : (splits.all fun s => s.2.2.2.2 || (decide (pr s.2.1 s.2.2.1 = (s.1, true)) && decide (s.2.2.1 ≠ 0) && !s.2.2.2.1)) = true := by decide +kernel
      have := List.all_eq_true.1 hall s hm
      rw [h2] at this
      simp only [Bool.false_or, Bool.and_eq_true, decide_eq_true_eq, Bool.not_eq_true'] at this
      simp only [z1z, beq_iff_eq] at hp
      rw [hp] at this
      exact ⟨this.1.1, this.1.2, this.2⟩
theorem zax {a b : Int} (h : (pr a b).2 = true) : (spl (pr a b).1).2 = true ∧ (spl (pr a b).1).1.2.1 = a ∧ (spl (pr a b).1).1.2.2.1 = b ∧ (spl (pr a b).1).1.2.2.2.2 = false := by
  unfold pr at h ⊢
  cases hf : splits.find? (z3o a b) with
  | none => rw [hf] at h; simp [prV] at h
  | some s =>
    obtain ⟨hm, hp⟩ := z8y hf
    have hall : (splits.all fun s => decide (spl s.1 = (s, true))) = true := by decide +kernel
    have := List.all_eq_true.1 hall s hm
    simp only [decide_eq_true_eq] at this
    simp only [prV, this]
    simp only [z3o, Bool.and_eq_true, Bool.not_eq_true', beq_iff_eq] at hp
    exact ⟨trivial, hp.1.2, hp.2, hp.1.1.2⟩
def zev : List Int := lowers.flatMap fun x => expand x.1 x.2.1
theorem zbs {r : Int} (h : low r ≠ r) : r ∈ zev := by
  unfold low at h
  cases hf : lowers.find? (z18 r) with
  | none => rw [hf] at h; exact absurd rfl h
  | some x =>
    obtain ⟨hm, hp⟩ := z8y hf
    simp only [z18, Bool.and_eq_true, decide_eq_true_eq] at hp
    exact List.mem_flatMap.2 ⟨x, hm, z3m hp.1 hp.2⟩
theorem low_chk : (zev.all fun r => decide (low (low r) = low r) && decide (cat r = 1) && decide (cat (low r) = 2) && decide (bidi (low r) = bidi r) && decide (cls (low r) = 0) && decide (script (low r) = script r)) = true := by decide +kernel
theorem low_low (r : Int) : low (low r) = low r := by
  by_cases h : low r = r
  · rw [h, h]
  · have := List.all_eq_true.1 low_chk r (zbs h)
    simp only [Bool.and_eq_true, decide_eq_true_eq] at this
    exact this.1.1.1.1.1
theorem low_ne {r : Int} (h : low r ≠ r) : cat r = 1 ∧ cat (low r) = 2 ∧ bidi (low r) = bidi r ∧ cls (low r) = 0 ∧ script (low r) = script r := by
  have := List.all_eq_true.1 low_chk r (zbs h)
  simp only [Bool.and_eq_true, decide_eq_true_eq] at this
  exact ⟨this.1.1.1.1.2, this.1.1.1.2, this.1.1.2, this.1.2, this.2⟩
theorem of_mem {r : Int} (h : ofR r ≠ z47) : ofR r ∈ ranges ∧ (ofR r).1 ≤ r ∧ r ≤ (ofR r).2.1 := by
  unfold ofR at h ⊢
  cases hf : ranges.find? (z1j r) with
  | none => rw [hf] at h; exact absurd rfl h
  | some x =>
    obtain ⟨hm, hp⟩ := z8y hf
    simp only [z1j, Bool.and_eq_true, decide_eq_true_eq] at hp
    exact ⟨hm, hp⟩
def withCat (c : Int) : List Int := (ranges.filter fun x => x.2.2.1 == c).flatMap fun x => expand x.1 x.2.1
theorem cat_mem {r c : Int} (hc : c ≠ 0) (h : cat r = c) : r ∈ withCat c := by
  have hne : ofR r ≠ z47 := fun e => by unfold cat at h; rw [e] at h; exact hc h.symm
  obtain ⟨h1, h2, h3⟩ := of_mem hne
  refine List.mem_flatMap.2 ⟨ofR r, List.mem_filter.2 ⟨h1, ?_⟩, z3m h2 h3⟩
  simpa [cat] using h
def zsp : List Int := classes.flatMap fun x => expand x.1 x.2.1
theorem zk1 {r : Int} (h : cls r ≠ 0) : r ∈ zsp := by
  unfold cls at h
  cases hf : classes.find? (z14 r) with
  | none => rw [hf] at h; exact absurd rfl h
  | some x =>
    obtain ⟨hm, hp⟩ := z8y hf
    simp only [z14, Bool.and_eq_true, decide_eq_true_eq] at hp
    exact List.mem_flatMap.2 ⟨x, hm, z3m hp.1 hp.2⟩
theorem cls_chk : (zsp.all fun r => decide (cat r = 4) && decide (0 < cls r)) = true := by decide +kernel
theorem mark_chk : ((withCat 4).all fun r => decide (0 < cls r) && decide (bidi r = 6) && decide (join r = 3)) = true := by decide +kernel
theorem z6q (r : Int) : 0 ≤ cls r := by
  by_cases h : cls r = 0
  · omega
  · have := List.all_eq_true.1 cls_chk r (zk1 h)
    simp only [Bool.and_eq_true, decide_eq_true_eq] at this
    omega
theorem ztq (r : Int) : 0 < cls r ↔ cat r = 4 := by
  constructor
  · intro h
    have := List.all_eq_true.1 cls_chk r (zk1 (by omega))
    simp only [Bool.and_eq_true, decide_eq_true_eq] at this
    exact this.1
  · intro h
    have := List.all_eq_true.1 mark_chk r (cat_mem (by decide) h)
    simp only [Bool.and_eq_true, decide_eq_true_eq] at this
    exact this.1.1
theorem z4w {q : Int → SplitT → Bool} (h1 : (splits.all fun s => q s.1 s) = true) (h2 : ((expand 65281 65374).all fun r => q r (r, r - 65248, 0, true, true)) = true) {r : Int} (h : (spl r).2 = true) : q r (spl r).1 = true := by
  cases hw : wide r with
  | true =>
    have hb : 65281 ≤ r ∧ r ≤ 65374 := by simpa [wide] using hw
    simp only [spl, hw]
    exact List.all_eq_true.1 h2 r (z3m hb.1 hb.2)
  | false =>
    simp only [spl, hw] at h ⊢
    cases hf : splits.find? (z1z r) with
    | none => rw [hf] at h; simp [splV] at h
    | some s =>
      obtain ⟨hm, hp⟩ := z8y hf
      simp only [z1z, beq_iff_eq] at hp
      have := List.all_eq_true.1 h1 s hm
      rw [hp] at this
      exact this
theorem zfw {r : Int} (h : (spl r).2 = true) : cls (spl r).1.2.1 = 0 ∧ cls r = 0 ∧ ((spl r).1.2.2.1 = 0 ∨ (spl r).1.2.2.2.1 = true ∨ 0 < cls (spl r).1.2.2.1) ∧ cat (spl r).1.2.1 ≠ 0 := by
  have := z4w (q := fun r s => decide (cls s.2.1 = 0) && decide (cls r = 0) && (decide (s.2.2.1 = 0) || s.2.2.2.1 || decide (0 < cls s.2.2.1)) && decide (cat s.2.1 ≠ 0)) (by decide +kernel) (by decide +kernel) h
  simp only [Bool.and_eq_true, Bool.or_eq_true, decide_eq_true_eq] at this
  exact ⟨this.1.1.1, this.1.1.2, or_assoc.1 this.1.2, this.2⟩
theorem wide_spl {r : Int} (h : wide r = true) : spl r = ((r, r - 65248, 0, true, true), true) := by simp only [spl, h]
theorem wide_low {r : Int} (h : wide r = true) : 33 ≤ r - 65248 ∧ r - 65248 ≤ 126 ∧ (spl (low r)).2 = true ∧ (spl (low r)).1.2.1 = low (r - 65248) := by
  have hb : 65281 ≤ r ∧ r ≤ 65374 := by simpa [wide] using h
  have hc : ((expand 65281 65374).all fun r => (spl (low r)).2 && decide ((spl (low r)).1.2.1 = low (r - 65248))) = true := by decide +kernel
  have := List.all_eq_true.1 hc r (z3m hb.1 hb.2)
  simp only [Bool.and_eq_true, decide_eq_true_eq] at this
  exact ⟨by omega, by omega, this.1, this.2⟩
end Go.AE
namespace Go.AE
theorem zjb {r : Int} (h : (spl r).2 = true) : 0 ≤ (spl r).1.2.1 ∧ (spl r).1.2.1 ≤ 70000 ∧ 0 ≤ (spl r).1.2.2.1 ∧ (spl r).1.2.2.1 ≤ 70000 := by
  have := z4w (q := fun r s => decide (0 ≤ s.2.1) && decide (s.2.1 ≤ 70000) && decide (0 ≤ s.2.2.1) && decide (s.2.2.1 ≤ 70000)) (by decide +kernel) (by decide +kernel) h
  simp only [Bool.and_eq_true, decide_eq_true_eq] at this
  exact ⟨this.1.1.1, this.1.1.2, this.1.2, this.2⟩
theorem zby {r : Int} (h : wide r = true) : (spl r).1.2.1 = r - 65248 ∧ (spl r).2 = true ∧ (spl r).1.2.2.1 = 0 ∧ (spl r).1.2.2.2.1 = true ∧ (spl r).1.2.2.2.2 = true := by rw [wide_spl h]; exact ⟨rfl, rfl, rfl, rfl, rfl⟩
end Go.AE
end
