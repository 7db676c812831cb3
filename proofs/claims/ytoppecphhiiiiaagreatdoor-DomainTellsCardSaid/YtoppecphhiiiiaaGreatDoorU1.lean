/- Contracts of functions that the laws of this seat reach, and plain laws of what they compute. No condition beyond each statement's own. -/
import Derived.Test.YtoppecphhiiiiaaGreatDoorAERule
set_option linter.unusedVariables false
set_option linter.unusedSimpArgs false
namespace Go.AE
abbrev RangeT := Int × Int × Int × Int × Int × Int
abbrev ClassT := Int × Int × Int × Int
abbrev LowerT := Int × Int × Int
abbrev SplitT := Int × Int × Int × Bool × Bool
def ranges : List RangeT := [(0, 31, 9, 0, 0, 0), (32, 32, 8, 0, 0, 0), (33, 44, 6, 0, 0, 0), (45, 47, 6, 7, 0, 0), (48, 57, 5, 4, 0, 0), (58, 64, 6, 0, 0, 0),
 (65, 90, 1, 1, 0, 1), (91, 96, 6, 0, 0, 0), (97, 122, 2, 1, 0, 1), (123, 126, 7, 0, 0, 0), (127, 127, 9, 0, 0, 0), (160, 160, 8, 0, 0, 0),
 (178, 179, 7, 4, 0, 0), (183, 183, 6, 0, 0, 0), (192, 214, 1, 1, 0, 1), (215, 215, 7, 0, 0, 0), (216, 222, 1, 1, 0, 1), (223, 246, 2, 1, 0, 1),
 (247, 247, 7, 0, 0, 0), (248, 255, 2, 1, 0, 1), (768, 772, 4, 6, 3, 0), (774, 776, 4, 6, 3, 0), (778, 778, 4, 6, 3, 0), (803, 803, 4, 6, 3, 0),
 (807, 807, 4, 6, 3, 0), (885, 885, 7, 0, 0, 2), (913, 929, 1, 1, 0, 2), (931, 937, 1, 1, 0, 2), (945, 969, 2, 1, 0, 2), (1040, 1071, 1, 1, 0, 3),
 (1072, 1103, 2, 1, 0, 3), (1456, 1465, 4, 6, 3, 4), (1488, 1514, 3, 2, 0, 4), (1523, 1524, 6, 2, 0, 4), (1575, 1575, 3, 3, 2, 5), (1576, 1576, 3, 3, 1, 5),
 (1577, 1577, 3, 3, 2, 5), (1578, 1582, 3, 3, 1, 5), (1583, 1586, 3, 3, 2, 5), (1587, 1594, 3, 3, 1, 5), (1601, 1607, 3, 3, 1, 5), (1608, 1608, 3, 3, 2, 5),
 (1610, 1610, 3, 3, 1, 5), (1611, 1618, 4, 6, 3, 0), (1632, 1641, 5, 5, 0, 5), (1776, 1785, 5, 4, 0, 5), (2325, 2361, 3, 1, 0, 6), (2364, 2364, 4, 6, 3, 6),
 (2381, 2381, 4, 6, 3, 6), (2392, 2392, 3, 1, 0, 6), (4352, 4370, 3, 1, 0, 9), (4449, 4469, 3, 1, 0, 9), (4520, 4546, 3, 1, 0, 9), (7844, 7844, 1, 1, 0, 1),
 (7845, 7845, 2, 1, 0, 1), (8204, 8205, 10, 0, 0, 0), (8490, 8491, 1, 1, 0, 1), (12290, 12290, 6, 0, 0, 0), (12353, 12438, 3, 1, 0, 7), (12441, 12441, 4, 6, 3, 0),
 (12449, 12538, 3, 1, 0, 7), (12539, 12539, 6, 0, 0, 0), (19968, 40959, 3, 1, 0, 8), (44032, 55203, 3, 1, 0, 9), (64257, 64258, 2, 1, 0, 1), (65281, 65295, 6, 0, 0, 0),
 (65296, 65305, 5, 4, 0, 0), (65306, 65312, 6, 0, 0, 0), (65313, 65338, 1, 1, 0, 1), (65339, 65344, 6, 0, 0, 0), (65345, 65370, 2, 1, 0, 1), (65371, 65374, 7, 0, 0, 0),
 (66560, 66599, 1, 1, 0, 10), (66600, 66639, 2, 1, 0, 10)]
def classes : List ClassT := [(768, 772, 230, 0), (774, 776, 230, 0), (778, 778, 230, 0), (803, 803, 220, 0), (807, 807, 202, 0), (1456, 1465, 10, 1),
 (1611, 1618, 27, 1), (2364, 2364, 7, 0), (2381, 2381, 9, 0), (12441, 12441, 8, 0)]
def lowers : List LowerT := [(65, 90, 32), (192, 214, 32), (216, 222, 32), (913, 929, 32), (931, 937, 32), (1040, 1071, 32),
 (7844, 7844, 1), (8490, 8490, (-8383)), (8491, 8491, (-8262)), (65313, 65338, 32), (66560, 66599, 40)]
def splits : List SplitT := [(160, 32, 0, true, true), (178, 50, 0, true, true), (179, 51, 0, true, true), (192, 65, 768, false, false), (193, 65, 769, false, false), (194, 65, 770, false, false),
 (195, 65, 771, false, false), (196, 65, 776, false, false), (197, 65, 778, false, false), (199, 67, 807, false, false), (200, 69, 768, false, false), (201, 69, 769, false, false),
 (202, 69, 770, false, false), (203, 69, 776, false, false), (209, 78, 771, false, false), (214, 79, 776, false, false), (220, 85, 776, false, false), (224, 97, 768, false, false),
 (225, 97, 769, false, false), (226, 97, 770, false, false), (227, 97, 771, false, false), (228, 97, 776, false, false), (229, 97, 778, false, false), (231, 99, 807, false, false),
 (232, 101, 768, false, false), (233, 101, 769, false, false), (234, 101, 770, false, false), (235, 101, 776, false, false), (241, 110, 771, false, false), (246, 111, 776, false, false),
 (252, 117, 776, false, false), (1049, 1048, 774, false, false), (1081, 1080, 774, false, false), (2392, 2325, 2364, false, true), (7844, 194, 769, false, false), (7845, 226, 769, false, false),
 (8490, 75, 0, false, true), (8491, 197, 0, false, true), (12460, 12459, 12441, false, false), (12468, 12467, 12441, false, false), (64257, 102, 105, true, true), (64258, 102, 108, true, true)]
def eO (x : RangeT) : List AV := [aB x.1, aB x.2.1, aA x.2.2.1, aA x.2.2.2.1, aA x.2.2.2.2.1, aA x.2.2.2.2.2]
def eP (x : ClassT) : List AV := [aB x.1, aB x.2.1, aA x.2.2.1, aA x.2.2.2]
def fA (x : LowerT) : List AV := [aB x.1, aB x.2.1, aB x.2.2]
def bR (x : SplitT) : List AV := [aB x.1, aB x.2.1, aB x.2.2.1, Bv x.2.2.2.1, Bv x.2.2.2.2]
theorem z2l {α : Type} (l : List α) (i : Nat) (d : α) (h : i < l.length) : l.take (i + 1) = l.take i ++ [l.getD i d] := by
 rw [List.take_add_one]
 simp [List.getD, h]
section
variable {α : Type} {f : α → List AV} {k : Nat} (hk : ∀ x, (f x).length = k)
theorem EF (l : List α) (hk : ∀ x, (f x).length = k) : (l.flatMap f).length = l.length * k := by
 induction l with
 | nil => simp
 | cons a l ih => simp [ih, hk, Nat.add_mul]; omega
theorem EE (hk : ∀ x, (f x).length = k) : ∀ (l : List α) (j : Nat), (l.flatMap f).drop (j * k) = (l.drop j).flatMap f
 | [], j => by simp
 | a :: l, 0 => by simp
 | a :: l, j + 1 => by
  rw [List.flatMap_cons, List.drop_succ_cons, ← EE hk l j, show (j + 1) * k = (f a).length + j * k by rw [hk, Nat.add_mul]; omega]
  simp
theorem A1 (hk : ∀ x, (f x).length = k) (l : List α) (j : Nat) (d : α) (hj : j < l.length) : ((l.flatMap f).drop (j * k)).take k = f (l.getD j d) := by
 rw [EE hk]
 have : l.drop j = l.getD j d :: l.drop (j + 1) := by
  rw [List.drop_eq_getElem_cons hj]; simp [List.getD, hj]
 rw [this, List.flatMap_cons, List.take_append_of_le_length (by rw [hk]; exact Nat.le_refl _), List.take_of_length_le (by rw [hk]; exact Nat.le_refl _)]
theorem zhe (a b : List AV) (i : Nat) (h : i < a.length) : nth (a ++ b) i = nth a i := by
 induction a generalizing i with
 | nil => simp at h
 | cons x a ih => cases i with
  | zero => rfl
  | succ i => simpa [nth] using ih i (by simpa using h)
theorem kH (hk : ∀ x, (f x).length = k) (l : List α) (j i : Nat) (d : α) (hj : j < l.length) (hi : i < k) : nth (l.flatMap f) (j * k + i) = nth (f (l.getD j d)) i := by
 rw [← eL, EE hk]
 have : l.drop j = l.getD j d :: l.drop (j + 1) := by
  rw [List.drop_eq_getElem_cons hj]; simp [List.getD, hj]
 rw [this, List.flatMap_cons, zhe _ _ _ (by rw [hk]; exact hi)]
end
end Go.AE
section
namespace Go.AE
set_option maxRecDepth 20000
set_option linter.unusedVariables false
section
variable {α : Type} {p : α → Bool} {l : List α} {d : α} {i : Nat}
theorem pF (h : ∀ j, j < i → p (l.getD j d) = false) (hi : i < l.length) (hp : p (l.getD i d) = true) : l.findIdx p = i ∧ l.find? p = some (l.getD i d) := by
 induction l generalizing i with
 | nil => simp at hi
 | cons a l ih =>
  cases i with
  | zero => simp at hp; simp [List.findIdx_cons, hp]
  | succ i =>
   have h0 := h 0 (by omega)
   simp only [List.getD_cons_zero] at h0
   obtain ⟨h1, h2⟩ := ih (i := i) (fun j hj => by have := h (j + 1) (by omega); simpa using this) (by simpa using hi) (by simpa using hp)
   refine ⟨by simp [List.findIdx_cons, h0, h1], ?_⟩
   rw [List.find?_cons, h0, List.getD_cons_succ]; exact h2
theorem t6 (h : ∀ j, j < l.length → p (l.getD j d) = false) : l.findIdx p = l.length ∧ l.find? p = none := by
 induction l with
 | nil => simp
 | cons a l ih =>
  have h0 := h 0 (by simp)
  simp only [List.getD_cons_zero] at h0
  obtain ⟨h1, h2⟩ := ih (fun j hj => by have := h (j + 1) (by simpa using hj); simpa using this)
  refine ⟨by simp [List.findIdx_cons, h0, h1], ?_⟩
  rw [List.find?_cons, h0]; exact h2
theorem NM {q : α → Bool} (h : l.all q = true) (hi : i < l.length) : q (l.getD i d) = true := by
 have := List.all_eq_true.1 h (l.getD i d) (by simp [List.getD, hi])
 exact this
theorem RO (hd : l.findIdx p < l.length) : l.find? p = some (l.getD (l.findIdx p) d) ∧ p (l.getD (l.findIdx p) d) = true := by
 have h2 := List.findIdx_getElem (w := hd)
 have h3 : l.getD (l.findIdx p) d = l[l.findIdx p] := by simp [List.getD, hd]
 rw [h3]
 refine ⟨?_, h2⟩
 have := (pF (l := l) (p := p) (d := d) (i := l.findIdx p) (fun j hj => by
  have hj' : j < l.length := by omega
  have := List.not_of_lt_findIdx hj
  simp [List.getD, hj']; simpa using this) hd (by rw [h3]; exact h2)).2
 rw [this, h3]
theorem RP (hd : ¬ l.findIdx p < l.length) : l.find? p = none := by
 rw [List.find?_eq_none]
 intro x hx
 have := List.findIdx_lt_length_of_exists (p := p) (xs := l)
 simp only [Bool.not_eq_true]
 cases hp : p x with
 | false => rfl
 | true => exact absurd (this ⟨x, hx, hp⟩) hd
end
def eN : RangeT := (0, 0, 0, 0, 0, 0)
def dP : ClassT := (0, 0, 0, 0)
def fH : LowerT := (0, 0, 0)
def dE : SplitT := (0, 0, 0, false, false)
def fB (r : Int) (x : RangeT) : Bool := decide (x.1 ≤ r) && decide (r ≤ x.2.1)
def dU (r : Int) (x : ClassT) : Bool := decide (x.1 ≤ r) && decide (r ≤ x.2.1)
def eK (r : Int) (x : LowerT) : Bool := decide (x.1 ≤ r) && decide (r ≤ x.2.1)
def iN (r : Int) (x : SplitT) : Bool := x.1 == r
def iC (a b : Int) (x : SplitT) : Bool := !x.2.2.2.1 && !x.2.2.2.2 && (x.2.1 == a) && (x.2.2.1 == b)
def iW (r : Int) : RangeT := (ranges.find? (fB r)).getD eN
def lO (r : Int) : Bool := (ranges.find? (fB r)).isSome
def cat (r : Int) : Int := (iW r).2.2.1
def bidi (r : Int) : Int := (iW r).2.2.2.1
def join (r : Int) : Int := (iW r).2.2.2.2.1
def script (r : Int) : Int := (iW r).2.2.2.2.2
def clsV (r : Int) : Option ClassT → Int
 | some x => x.2.2.1 + x.2.2.2 * (r - x.1)
 | none => 0
def cls (r : Int) : Int := clsV r (classes.find? (dU r))
def lowV (r : Int) : Option LowerT → Int
 | some x => r + x.2.2
 | none => r
def low (r : Int) : Int := lowV r (lowers.find? (eK r))
def wide (r : Int) : Bool := decide (65281 ≤ r) && decide (r ≤ 65374)
def tU (r : Int) : Option SplitT → SplitT × Bool
 | some x => (x, true)
 | none => (dE, false)
def spl (r : Int) : SplitT × Bool := match wide r with
 | true => ((r, r - 65248, 0, true, true), true)
 | false => tU r (splits.find? (iN r))
def wB : Option SplitT → Int × Bool
 | some x => (x.1, true)
 | none => (0, false)
def pr (a b : Int) : Int × Bool := wB (splits.find? (iC a b))
theorem mQ : ranges.length = 74 := rfl
theorem lG : classes.length = 10 := rfl
theorem mI : lowers.length = 11 := rfl
theorem lY : splits.length = 42 := rfl
theorem mP : (ranges.flatMap eO).length = 444 := rfl
theorem m6 : (classes.flatMap eP).length = 40 := rfl
theorem mH : (lowers.flatMap fA).length = 33 := rfl
theorem lX : (splits.flatMap bR).length = 210 := rfl
theorem mT {i : Nat} (h : i < 74) : ((ranges.flatMap eO).drop (i * 6)).take 6 = eO (ranges.getD i eN) := A1 (k := 6) (fun _ => rfl) _ _ _ (by rw [mQ]; exact h)
theorem mB {i : Nat} (h : i < 10) : ((classes.flatMap eP).drop (i * 4)).take 4 = eP (classes.getD i dP) := A1 (k := 4) (fun _ => rfl) _ _ _ (by rw [lG]; exact h)
theorem mM {i : Nat} (h : i < 11) : ((lowers.flatMap fA).drop (i * 3)).take 3 = fA (lowers.getD i fH) := A1 (k := 3) (fun _ => rfl) _ _ _ (by rw [mI]; exact h)
theorem l6 {i : Nat} (h : i < 42) : ((splits.flatMap bR).drop (i * 5)).take 5 = bR (splits.getD i dE) := A1 (k := 5) (fun _ => rfl) _ _ _ (by rw [lY]; exact h)
section
variable {i : Nat}
theorem mR (h : i < 74) : nth (ranges.flatMap eO) (i * 6) = aB (ranges.getD i eN).1 := kH (k := 6) (fun _ => rfl) _ i 0 eN (by rw [mQ]; exact h) (by decide)
theorem mS (h : i < 74) : nth (ranges.flatMap eO) (i * 6 + 1) = aB (ranges.getD i eN).2.1 := kH (k := 6) (fun _ => rfl) _ i 1 eN (by rw [mQ]; exact h) (by decide)
theorem m7 (h : i < 10) : nth (classes.flatMap eP) (i * 4) = aB (classes.getD i dP).1 := kH (k := 4) (fun _ => rfl) _ i 0 dP (by rw [lG]; exact h) (by decide)
theorem m8 (h : i < 10) : nth (classes.flatMap eP) (i * 4 + 1) = aB (classes.getD i dP).2.1 := kH (k := 4) (fun _ => rfl) _ i 1 dP (by rw [lG]; exact h) (by decide)
theorem m9 (h : i < 10) : nth (classes.flatMap eP) (i * 4 + 2) = aA (classes.getD i dP).2.2.1 := kH (k := 4) (fun _ => rfl) _ i 2 dP (by rw [lG]; exact h) (by decide)
theorem mA (h : i < 10) : nth (classes.flatMap eP) (i * 4 + 3) = aA (classes.getD i dP).2.2.2 := kH (k := 4) (fun _ => rfl) _ i 3 dP (by rw [lG]; exact h) (by decide)
theorem mJ (h : i < 11) : nth (lowers.flatMap fA) (i * 3) = aB (lowers.getD i fH).1 := kH (k := 3) (fun _ => rfl) _ i 0 fH (by rw [mI]; exact h) (by decide)
theorem mK (h : i < 11) : nth (lowers.flatMap fA) (i * 3 + 1) = aB (lowers.getD i fH).2.1 := kH (k := 3) (fun _ => rfl) _ i 1 fH (by rw [mI]; exact h) (by decide)
theorem mL (h : i < 11) : nth (lowers.flatMap fA) (i * 3 + 2) = aB (lowers.getD i fH).2.2 := kH (k := 3) (fun _ => rfl) _ i 2 fH (by rw [mI]; exact h) (by decide)
theorem mV (h : i < 42) : nth (splits.flatMap bR) (i * 5) = aB (splits.getD i dE).1 := kH (k := 5) (fun _ => rfl) _ i 0 dE (by rw [lY]; exact h) (by decide)
theorem mW (h : i < 42) : nth (splits.flatMap bR) (i * 5 + 1) = aB (splits.getD i dE).2.1 := kH (k := 5) (fun _ => rfl) _ i 1 dE (by rw [lY]; exact h) (by decide)
theorem mX (h : i < 42) : nth (splits.flatMap bR) (i * 5 + 2) = aB (splits.getD i dE).2.2.1 := kH (k := 5) (fun _ => rfl) _ i 2 dE (by rw [lY]; exact h) (by decide)
theorem mY (h : i < 42) : nth (splits.flatMap bR) (i * 5 + 3) = Bv (splits.getD i dE).2.2.2.1 := kH (k := 5) (fun _ => rfl) _ i 3 dE (by rw [lY]; exact h) (by decide)
theorem mZ (h : i < 42) : nth (splits.flatMap bR) (i * 5 + 4) = Bv (splits.getD i dE).2.2.2.2 := kH (k := 5) (fun _ => rfl) _ i 4 dE (by rw [lY]; exact h) (by decide)
end
def rising : List RangeT → Bool
 | [] => true
 | [x] => decide (x.1 ≤ x.2.1)
 | x :: y :: l => decide (x.1 ≤ x.2.1) && decide (x.2.1 < y.1) && rising (y :: l)
theorem z06 {x : RangeT} {l : List RangeT} (h : rising (x :: l) = true) : rising l = true ∧ x.1 ≤ x.2.1 ∧ ∀ y ∈ l, x.2.1 < y.1 ∧ x.2.1 < y.2.1 := by
 induction l generalizing x with
 | nil => simp [rising] at h; simp [rising, h]
 | cons y l ih =>
  simp only [rising, Bool.and_eq_true, decide_eq_true_eq] at h
  obtain ⟨h1, h2, h3⟩ := ih h.2
  refine ⟨h.2, h.1.1, fun z hz => ?_⟩
  rcases List.mem_cons.1 hz with rfl | hz
  ·omega
  ·have := h3 z hz; omega
def lb (r : Int) (l : List RangeT) : Nat := l.findIdx fun x => decide (r ≤ x.2.1)
theorem zfn (r : Int) (l : List RangeT) : lb r l ≤ l.length := List.findIdx_le_length
theorem yQ (r : Int) : ∀ {l : List RangeT}, rising l = true → ∀ j, j < l.length → ((l.getD j eN).2.1 < r ↔ j < lb r l)
 | [], _, j, hj => by simp at hj
 | x :: l, h, j, hj => by
  obtain ⟨h1, h2, h3⟩ := z06 h
  unfold lb
  rw [List.findIdx_cons]
  cases hx : decide (r ≤ x.2.1) with
  | true =>
   simp only [decide_eq_true_eq] at hx
   simp only [cond_true, Nat.not_lt_zero, iff_false]
   cases j with
   | zero => simp; omega
   | succ j =>
    have := h3 ((x :: l).getD (j + 1) eN) (by
     have hj' : j < l.length := by simpa using hj
     simp [List.getD, hj'])
    omega
  | false =>
   simp only [decide_eq_false_iff_not] at hx
   simp only [cond_false]
   cases j with
   | zero => simp; omega
   | succ j =>
    have := yQ r h1 j (by simpa using hj)
    rw [List.getD_cons_succ, this]
    unfold lb
    omega
theorem C7 (r : Int) : ∀ {l : List RangeT}, rising l = true → l.find? (fB r) = (if lb r l < l.length ∧ (l.getD (lb r l) eN).1 ≤ r then some (l.getD (lb r l) eN) else none)
 | [], _ => by simp
 | x :: l, h => by
  obtain ⟨h1, h2, h3⟩ := z06 h
  rw [List.find?_cons]
  have hlb : lb r (x :: l) = bif decide (r ≤ x.2.1) then 0 else lb r l + 1 := by unfold lb; rw [List.findIdx_cons]
  rw [hlb]
  cases hx : decide (r ≤ x.2.1) with
  | true =>
   simp only [decide_eq_true_eq] at hx
   simp only [cond_true, List.getD_cons_zero, List.length_cons, Nat.zero_lt_succ, true_and]
   by_cases h4 : x.1 ≤ r
   ·rw [if_pos h4]; simp [fB, h4, hx]
   ·rw [if_neg h4]
    have : fB r x = false := by simp [fB]; omega
    rw [this]
    simp only
    rw [List.find?_eq_none]
    intro y hy
    have := h3 y hy
    simp [fB]; omega
  | false =>
   simp only [decide_eq_false_iff_not] at hx
   have : fB r x = false := by simp [fB]; omega
   rw [this]
   simp only [cond_false, List.length_cons, List.getD_cons_succ, Nat.add_lt_add_iff_right]
   exact C7 r h1
theorem wD : rising ranges = true := by decide +kernel
theorem zhm (r : Int) : iW r = if lb r ranges < 74 ∧ (ranges.getD (lb r ranges) eN).1 ≤ r then ranges.getD (lb r ranges) eN else eN := by
 unfold iW
 rw [C7 r wD, mQ]
 split <;> rfl
theorem CP (r : Int) : lO r = (decide (lb r ranges < 74) && decide ((ranges.getD (lb r ranges) eN).1 ≤ r)) := by
 unfold lO
 rw [C7 r wD, mQ]
 split
 ·rename_i h; rw [Option.isSome_some, decide_eq_true h.1, decide_eq_true h.2]; rfl
 ·rename_i h
  simp only [Option.isSome_none]
  symm
  simpa [Bool.and_eq_false_iff] using (fun h1 => Int.not_le.1 fun h2 => h ⟨h1, h2⟩)
end Go.AE
namespace Go.AE
set_option linter.unusedVariables false
theorem zer {r : Int} (h : lO r = false) : iW r = eN := by
 unfold lO at h; unfold iW
 cases hf : ranges.find? (fB r) with
 | none => rfl
 | some x => rw [hf] at h; simp at h
theorem zes {r : Int} (h : lO r = true) : lb r ranges < 74 ∧ iW r = ranges.getD (lb r ranges) eN := by
 rw [CP, Bool.and_eq_true, decide_eq_true_eq, decide_eq_true_eq] at h
 exact ⟨h.1, by rw [zhm, if_pos h]⟩
def idx (n k : Nat) : Int := if k < n then k else -1
theorem yG {n k : Nat} (h : k < n) : idx n k = k := by simp [idx, h]
theorem yH {n k : Nat} (h : ¬ k < n) : idx n k = -1 := by simp [idx, h]
end Go.AE
namespace Go.AE
theorem iX {q : Nat → Bool} {i : Nat} (h : ∀ j, j < i → q j = false) (hi : q i = false) : ∀ j, j < i + 1 → q j = false := fun j hj => by
 rcases Nat.lt_or_ge j i with h1 | h1
 ·exact h j h1
 ·have : j = i := by omega
  subst this; exact hi
theorem vD {α : Type} {p : α → Bool} {l : List α} {d : α} {n i : Nat} (hl : l.length = n) (h : ∀ j, j < i → p (l.getD j d) = false) (hi : i < n) (hp : p (l.getD i d) = true) : idx n (l.findIdx p) = i := by
 rw [(pF h (by omega) hp).1, yG hi]
theorem vE {α : Type} {p : α → Bool} {l : List α} {d : α} {n i : Nat} (hl : l.length = n) (h : ∀ j, j < i → p (l.getD j d) = false) (hi : ¬ i < n) : idx n (l.findIdx p) = -1 := by
 rw [(t6 (fun j hj => h j (by omega))).1, yH (by omega)]
theorem zan {r : Int} {x : ClassT} : dU r x = (decide (x.1 ≤ r) && decide (r ≤ x.2.1)) := rfl
theorem zax {r : Int} (h : classes.findIdx (dU r) < 10) : cls r = (classes.getD (classes.findIdx (dU r)) dP).2.2.1 + (classes.getD (classes.findIdx (dU r)) dP).2.2.2 * (r - (classes.getD (classes.findIdx (dU r)) dP).1) ∧ (classes.getD (classes.findIdx (dU r)) dP).1 ≤ r ∧ r ≤ (classes.getD (classes.findIdx (dU r)) dP).2.1 := by
 obtain ⟨h1, h2⟩ := RO (d := dP) (by rw [lG]; exact h)
 unfold cls
 rw [h1]
 rw [zan] at h2
 simp only [Bool.and_eq_true, decide_eq_true_eq] at h2
 exact ⟨rfl, h2⟩
theorem zb0 {r : Int} (h : ¬ classes.findIdx (dU r) < 10) : cls r = 0 := by
 unfold cls
 rw [RP (by rw [lG]; exact h)]; rfl
theorem P3 {i : Nat} (h : i < 10) : 0 ≤ (classes.getD i dP).1 ∧ (classes.getD i dP).2.1 ≤ 70000 ∧ 0 ≤ (classes.getD i dP).2.2.1 ∧ (classes.getD i dP).2.2.1 ≤ 300 ∧ ((classes.getD i dP).2.2.2 = 0 ∨ (classes.getD i dP).2.2.2 = 1) := by
 have := NM (l := classes) (d := dP) (i := i) (q := fun x => decide (0 ≤ x.1 ∧ x.2.1 ≤ 70000 ∧ 0 ≤ x.2.2.1 ∧ x.2.2.1 ≤ 300 ∧ (x.2.2.2 = 0 ∨ x.2.2.2 = 1))) (by decide +kernel) (by rw [lG]; exact h)
 simpa using this
theorem zgd {r : Int} (h : lowers.findIdx (eK r) < 11) : low r = r + (lowers.getD (lowers.findIdx (eK r)) fH).2.2 ∧ (lowers.getD (lowers.findIdx (eK r)) fH).1 ≤ r ∧ r ≤ (lowers.getD (lowers.findIdx (eK r)) fH).2.1 := by
 obtain ⟨h1, h2⟩ := RO (d := fH) (by rw [mI]; exact h)
 unfold low
 rw [h1]
 unfold eK at h2
 simp only [Bool.and_eq_true, decide_eq_true_eq] at h2
 exact ⟨rfl, h2⟩
theorem zgh {r : Int} (h : ¬ lowers.findIdx (eK r) < 11) : low r = r := by
 unfold low
 rw [RP (by rw [mI]; exact h)]; rfl
theorem VT {i : Nat} (h : i < 11) : 0 ≤ (lowers.getD i fH).1 ∧ (lowers.getD i fH).2.1 ≤ 70000 ∧ -9000 ≤ (lowers.getD i fH).2.2 ∧ (lowers.getD i fH).2.2 ≤ 100 := by
 have := NM (l := lowers) (d := fH) (i := i) (q := fun x => decide (0 ≤ x.1 ∧ x.2.1 ≤ 70000 ∧ -9000 ≤ x.2.2 ∧ x.2.2 ≤ 100)) (by decide +kernel) (by rw [mI]; exact h)
 simpa using this
theorem D7 {α : Type} (key : α → Value) (val : α → AV) (k : Value) : ∀ l : List α, mget k (l.map fun a => (key a, val a)) = (l.find? fun a => gM k (key a)).map val
 | [] => rfl
 | a :: l => by
  simp only [List.map_cons, mget, List.find?_cons]
  cases gM k (key a) with
  | true => rfl
  | false => exact D7 key val k l
end Go.AE
end
section
namespace Go.AE
set_option maxRecDepth 20000
def expand (lo hi : Int) : List Int := (List.range (hi - lo + 1).toNat).map fun n : Nat => lo + (n : Int)
theorem z1 {lo hi r : Int} (h1 : lo ≤ r) (h2 : r ≤ hi) : r ∈ expand lo hi := by
 unfold expand
 rw [List.mem_map]
 exact ⟨(r - lo).toNat, by rw [List.mem_range]; omega, by omega⟩
theorem uW {α : Type} {p : α → Bool} {l : List α} {x : α} (h : l.find? p = some x) : x ∈ l ∧ p x = true := ⟨List.mem_of_find?_eq_some h, List.find?_some h⟩
theorem zi7 {r : Int} (h1 : (spl r).2 = true) (h2 : (spl r).1.2.2.2.2 = false) : pr (spl r).1.2.1 (spl r).1.2.2.1 = (r, true) ∧ (spl r).1.2.2.1 ≠ 0 ∧ (spl r).1.2.2.2.1 = false := by
 cases hw : wide r with
 | true => simp only [spl, hw] at h2; simp at h2
 | false =>
  cases hf : splits.find? (iN r) with
  | none => simp only [spl, hw, hf, tU] at h1; simp at h1
  | some s =>
   obtain ⟨hm, hp⟩ := uW hf
   simp only [spl, hw, hf, tU] at h2 ⊢
   have hall : (splits.all fun s => s.2.2.2.2 || (decide (pr s.2.1 s.2.2.1 = (s.1, true)) && decide (s.2.2.1 ≠ 0) && !s.2.2.2.1)) = true := by decide +kernel
   have := List.all_eq_true.1 hall s hm
   rw [h2] at this
   simp only [Bool.false_or, Bool.and_eq_true, decide_eq_true_eq, Bool.not_eq_true'] at this
   simp only [iN, beq_iff_eq] at hp
   rw [hp] at this
   exact ⟨this.1.1, this.1.2, this.2⟩
theorem vY {a b : Int} (h : (pr a b).2 = true) : (spl (pr a b).1).2 = true ∧ (spl (pr a b).1).1.2.1 = a ∧ (spl (pr a b).1).1.2.2.1 = b ∧ (spl (pr a b).1).1.2.2.2.2 = false := by
 unfold pr at h ⊢
 cases hf : splits.find? (iC a b) with
 | none => rw [hf] at h; simp [wB] at h
 | some s =>
  obtain ⟨hm, hp⟩ := uW hf
  have hall : (splits.all fun s => decide (spl s.1 = (s, true))) = true := by decide +kernel
  have := List.all_eq_true.1 hall s hm
  simp only [decide_eq_true_eq] at this
  simp only [wB, this]
  simp only [iC, Bool.and_eq_true, Bool.not_eq_true', beq_iff_eq] at hp
  exact ⟨trivial, hp.1.2, hp.2, hp.1.1.2⟩
def r9 : List Int := lowers.flatMap fun x => expand x.1 x.2.1
theorem vR {r : Int} (h : low r ≠ r) : r ∈ r9 := by
 unfold low at h
 cases hf : lowers.find? (eK r) with
 | none => rw [hf] at h; exact absurd rfl h
 | some x =>
  obtain ⟨hm, hp⟩ := uW hf
  simp only [eK, Bool.and_eq_true, decide_eq_true_eq] at hp
  exact List.mem_flatMap.2 ⟨x, hm, z1 hp.1 hp.2⟩
theorem zgc : (r9.all fun r => decide (low (low r) = low r) && decide (cat r = 1) && decide (cat (low r) = 2) && decide (bidi (low r) = bidi r) && decide (cls (low r) = 0) && decide (script (low r) = script r)) = true := by decide +kernel
theorem zge (r : Int) : low (low r) = low r := by
 by_cases h : low r = r
 ·rw [h, h]
 ·have := List.all_eq_true.1 zgc r (vR h)
  simp only [Bool.and_eq_true, decide_eq_true_eq] at this
  exact this.1.1.1.1.1
def xQ : List Int := classes.flatMap fun x => expand x.1 x.2.1
theorem BO {r : Int} (h : cls r ≠ 0) : r ∈ xQ := by
 unfold cls at h
 cases hf : classes.find? (dU r) with
 | none => rw [hf] at h; exact absurd rfl h
 | some x =>
  obtain ⟨hm, hp⟩ := uW hf
  simp only [dU, Bool.and_eq_true, decide_eq_true_eq] at hp
  exact List.mem_flatMap.2 ⟨x, hm, z1 hp.1 hp.2⟩
theorem zaw : (xQ.all fun r => decide (cat r = 4) && decide (0 < cls r)) = true := by decide +kernel
theorem uP (r : Int) : 0 ≤ cls r := by
 by_cases h : cls r = 0
 ·omega
 ·have := List.all_eq_true.1 zaw r (BO h)
  simp only [Bool.and_eq_true, decide_eq_true_eq] at this
  omega
theorem l5 {q : Int → SplitT → Bool} (h1 : (splits.all fun s => q s.1 s) = true) (h2 : ((expand 65281 65374).all fun r => q r (r, r - 65248, 0, true, true)) = true) {r : Int} (h : (spl r).2 = true) : q r (spl r).1 = true := by
 cases hw : wide r with
 | true =>
  have hb : 65281 ≤ r ∧ r ≤ 65374 := by simpa [wide] using hw
  simp only [spl, hw]
  exact List.all_eq_true.1 h2 r (z1 hb.1 hb.2)
 | false =>
  simp only [spl, hw] at h ⊢
  cases hf : splits.find? (iN r) with
  | none => rw [hf] at h; simp [tU] at h
  | some s =>
   obtain ⟨hm, hp⟩ := uW hf
   simp only [iN, beq_iff_eq] at hp
   have := List.all_eq_true.1 h1 s hm
   rw [hp] at this
   exact this
theorem z1p {r : Int} (h : (spl r).2 = true) : cls (spl r).1.2.1 = 0 ∧ cls r = 0 ∧ ((spl r).1.2.2.1 = 0 ∨ (spl r).1.2.2.2.1 = true ∨ 0 < cls (spl r).1.2.2.1) ∧ cat (spl r).1.2.1 ≠ 0 := by
 have := l5 (q := fun r s => decide (cls s.2.1 = 0) && decide (cls r = 0) && (decide (s.2.2.1 = 0) || s.2.2.2.1 || decide (0 < cls s.2.2.1)) && decide (cat s.2.1 ≠ 0)) (by decide +kernel) (by decide +kernel) h
 simp only [Bool.and_eq_true, Bool.or_eq_true, decide_eq_true_eq] at this
 exact ⟨this.1.1.1, this.1.1.2, or_assoc.1 this.1.2, this.2⟩
theorem zll {r : Int} (h : wide r = true) : spl r = ((r, r - 65248, 0, true, true), true) := by simp only [spl, h]
theorem zli {r : Int} (h : wide r = true) : 33 ≤ r - 65248 ∧ r - 65248 ≤ 126 ∧ (spl (low r)).2 = true ∧ (spl (low r)).1.2.1 = low (r - 65248) := by
 have hb : 65281 ≤ r ∧ r ≤ 65374 := by simpa [wide] using h
 have hc : ((expand 65281 65374).all fun r => (spl (low r)).2 && decide ((spl (low r)).1.2.1 = low (r - 65248))) = true := by decide +kernel
 have := List.all_eq_true.1 hc r (z1 hb.1 hb.2)
 simp only [Bool.and_eq_true, decide_eq_true_eq] at this
 exact ⟨by omega, by omega, this.1, this.2⟩
end Go.AE
namespace Go.AE
theorem ER {r : Int} (h : (spl r).2 = true) : 0 ≤ (spl r).1.2.1 ∧ (spl r).1.2.1 ≤ 70000 ∧ 0 ≤ (spl r).1.2.2.1 ∧ (spl r).1.2.2.1 ≤ 70000 := by
 have := l5 (q := fun r s => decide (0 ≤ s.2.1) && decide (s.2.1 ≤ 70000) && decide (0 ≤ s.2.2.1) && decide (s.2.2.1 ≤ 70000)) (by decide +kernel) (by decide +kernel) h
 simp only [Bool.and_eq_true, decide_eq_true_eq] at this
 exact ⟨this.1.1.1, this.1.1.2, this.1.2, this.2⟩
theorem zlk {r : Int} (h : wide r = true) : (spl r).1.2.1 = r - 65248 ∧ (spl r).2 = true ∧ (spl r).1.2.2.1 = 0 ∧ (spl r).1.2.2.2.1 = true ∧ (spl r).1.2.2.2.2 = true := by rw [zll h]; exact ⟨rfl, rfl, rfl, rfl, rfl⟩
def bn (L : List Int) (k d : Int) : Int := if 0 ≤ k ∧ k < L.length then L.getD k.toNat 0 else d
def jl : List Int → Int
 | [] => 0
 | c :: l => if join c = 3 then jl l else join c
def jb (L : List Int) : Nat → Int
 | 0 => 0
 | k + 1 => if join (L.getD k 0) = 3 then jb L k else join (L.getD k 0)
def d8 (r : Int) : Bool := decide (1632 ≤ r) && decide (r ≤ 1641)
def dB (r : Int) : Bool := decide (1776 ≤ r) && decide (r ≤ 1785)
def asn (r : Int) : Bool := (script r == 7) || (script r == 8)
def uS (L : List Int) (k : Int) : Bool := cls (bn L (k - 1) (-1)) == 9
def xP (L : List Int) (k : Nat) : Bool := uS L k || ((jb L k == 1) && ((jl (L.drop (k + 1)) == 1) || (jl (L.drop (k + 1)) == 2)))
def uJ (L : List Int) (k : Int) : Bool := (bn L (k - 1) (-1) == 108) && (bn L (k + 1) (-1) == 108)
def yE (L : List Int) (k : Int) : Bool := script (bn L (k + 1) (-1)) == 2
def yF (L : List Int) (k : Int) : Bool := script (bn L (k - 1) (-1)) == 4
inductive Rl where
 | no | a | b | de | bo | be | gr | he | as
 deriving DecidableEq
def rl (r : Int) : Rl := if d8 r then .a else if dB r then .b else if r = 8205 then .de else if r = 8204 then .bo else if r = 183 then .be else if r = 885 then .gr else if r = 1523 then .he else if r = 1524 then .he else if r = 12539 then .as else .no
def mets (L : List Int) (k : Nat) : Rl → Bool
 | .no => true
 | .a => !L.any dB
 | .b => !L.any d8
 | .de => uS L k
 | .bo => xP L k
 | .be => uJ L k
 | .gr => yE L k
 | .he => yF L k
 | .as => L.any asn
def fI (L : List Int) (k : Nat) : Int := if rl (L.getD k 0) = .no then 0 else if mets L k (rl (L.getD k 0)) then 1 else 2
def need (L : List Int) (k : Int) : Int := if 0 ≤ k ∧ k < L.length then fI L k.toNat else 0
def tH (r : Int) : Bool := rl r != .no
theorem E9 (r : Int) : (d8 r = true ∧ rl r = .a) ∨ (d8 r = false ∧ dB r = true ∧ rl r = .b) ∨ (r = 8205 ∧ rl r = .de) ∨ (r = 8204 ∧ rl r = .bo) ∨ (r = 183 ∧ rl r = .be) ∨ (r = 885 ∧ rl r = .gr) ∨
  (r = 1523 ∧ rl r = .he) ∨ (r = 1524 ∧ rl r = .he) ∨ (r = 12539 ∧ rl r = .as) ∨
  ((d8 r = false ∧ dB r = false ∧ r ≠ 8205 ∧ r ≠ 8204 ∧ r ≠ 183 ∧ r ≠ 885 ∧ r ≠ 1523 ∧ r ≠ 1524 ∧ r ≠ 12539) ∧ rl r = .no) := by
 by_cases h : r = 8205
 ·subst h; right; right; left; exact ⟨rfl, by decide⟩
 by_cases h : r = 8204
 ·subst h; right; right; right; left; exact ⟨rfl, by decide⟩
 by_cases h : r = 183
 ·subst h; iterate 4 right
  left; exact ⟨rfl, by decide⟩
 by_cases h : r = 885
 ·subst h; iterate 5 right
  left; exact ⟨rfl, by decide⟩
 by_cases h : r = 1523
 ·subst h; iterate 6 right
  left; exact ⟨rfl, by decide⟩
 by_cases h : r = 1524
 ·subst h; iterate 7 right
  left; exact ⟨rfl, by decide⟩
 by_cases h : r = 12539
 ·subst h; iterate 8 right
  left; exact ⟨rfl, by decide⟩
 cases ha : d8 r with
 | true => left; exact ⟨rfl, by simp [rl, ha]⟩
 | false =>
  cases hb : dB r with
  | true => right; left; exact ⟨rfl, rfl, by simp [rl, ha, hb]⟩
  | false =>
   iterate 9 right
   refine ⟨⟨rfl, rfl, ?_⟩, ?_⟩
   ·simp [*]
   ·simp [rl, *]
theorem zim : (ranges.all fun x => decide (0 ≤ x.1)) = true := by decide +kernel
theorem TH {c : Int} (h : c < 0) : join c = 0 := by
 have hf : ranges.find? (fB c) = none := by
  rw [List.find?_eq_none]
  intro x hx hp
  have := List.all_eq_true.1 zim x hx
  simp only [fB, Bool.and_eq_true, decide_eq_true_eq] at hp this
  omega
 simp [join, iW, hf, eN]
theorem zay : cls (-1) = 0 := by decide +kernel
theorem z12 : script (-1) = 0 := by decide +kernel
theorem z11 : script 0 = 0 := by decide +kernel
theorem xN {L : List Int} {k : Nat} (d : Int) (h : k < L.length) : bn L k d = L.getD k 0 := by simp [bn, h]
theorem xO {L : List Int} {k : Int} (d : Int) (h : k < 0) : bn L k d = d := by simp [bn]; omega
theorem BH {L : List Int} {k : Int} (d : Int) (h : (L.length : Int) ≤ k) : bn L k d = d := by simp [bn]; omega
theorem PW {L : List Int} {k : Nat} (h : k < L.length) : L.drop k = L.getD k 0 :: L.drop (k + 1) := by
 rw [List.drop_eq_getElem_cons h]; congr 1; simp [List.getD, h]
theorem TE {L : List Int} {k : Nat} (h : L.length ≤ k) : jl (L.drop k) = 0 := by rw [List.drop_eq_nil_of_le h]; rfl
theorem CX {L : List Int} {k : Nat} (h : k < L.length) (hj : join (L.getD k 0) = 3) : jl (L.drop k) = jl (L.drop (k + 1)) := by rw [PW h, jl, if_pos hj]
theorem CY {L : List Int} {k : Nat} (h : k < L.length) (hj : join (L.getD k 0) ≠ 3) : jl (L.drop k) = join (L.getD k 0) := by rw [PW h, jl, if_neg hj]
theorem zf6 {L : List Int} {k : Nat} (hj : join (L.getD k 0) = 3) : jb L (k + 1) = jb L k := by rw [jb, if_pos hj]
theorem zf7 {L : List Int} {k : Nat} (hj : join (L.getD k 0) ≠ 3) : jb L (k + 1) = join (L.getD k 0) := by rw [jb, if_neg hj]
theorem TD {L : List Int} {k : Nat} (h : 0 < k) (hj : join (L.getD (k - 1) 0) = 3) : jb L k = jb L (k - 1) := by
 cases k with
 | zero => omega
 | succ k => exact zf6 hj
theorem CU {L : List Int} {k : Nat} (h : 0 < k) (hj : join (L.getD (k - 1) 0) ≠ 3) : jb L k = join (L.getD (k - 1) 0) := by
 cases k with
 | zero => omega
 | succ k => exact zf7 hj
theorem o9 {L : List Int} {p : Int → Bool} {i : Nat} (h : i < L.length) (hp : p (L.getD i 0) = true) : L.any p = true := by
 rw [List.any_eq_true]
 exact ⟨L[i], List.getElem_mem h, by simpa [List.getD, h] using hp⟩
theorem sB {L : List Int} {p : Int → Bool} {i : Nat} (hno : ∀ j, j < i → p (L.getD j 0) = false) (h : ¬ i < L.length) : L.any p = false := by
 rw [List.any_eq_false]
 intro x hx
 obtain ⟨j, hj, rfl⟩ := List.getElem_of_mem hx
 have := hno j (by omega)
 simpa [List.getD, hj] using this
theorem CN {L : List Int} {p : Int → Bool} {n : Nat} (hl : L.length = n) : (decide (idx n (L.findIdx p) ≥ 0)) = L.any p := by
 subst hl
 by_cases h : L.findIdx p < L.length
 ·rw [yG h]
  have := List.findIdx_getElem (w := h)
  rw [o9 (i := L.findIdx p) h (by simpa [List.getD, h] using this)]
  simp
 ·rw [yH h, sB (i := L.length) (fun j hj => ?_) (by omega)]
  ·rfl
  ·have h1 : L.findIdx p = L.length := Nat.le_antisymm List.findIdx_le_length (by omega)
   have := List.not_of_lt_findIdx (p := p) (xs := L) (i := j) (by omega)
   simpa [List.getD, hj] using this
theorem W8 {L : List Int} {k : Nat} (h : k < L.length) : need L k = fI L k := by simp [need, h]
theorem W9 {L : List Int} {k : Int} (h : k < 0 ∨ (L.length : Int) ≤ k) : need L k = 0 := by simp [need]; omega
end Go.AE
end
