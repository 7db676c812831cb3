/- Contracts of functions that the laws of this seat reach, and plain laws of what they compute. No condition beyond each statement's own. -/
import Derived.Test.YteidmpcdcfoncaaDoorAERule
import Derived.Lib.IndexMore
import Derived.Lib.CountLaws
import Derived.Lib.ItoaNum
set_option linter.unusedVariables false
set_option linter.unusedSimpArgs false
section
/- Floats: quarters of whole numbers are exact: sums, differences, order, and the way from and to whole numbers. -/
namespace Go.AE
open Ieee
set_option maxRecDepth 20000
/-- The word of a quarter. -/
def fw (q : Int) : Nat := double.nearest (decide (q < 0)) q.natAbs (-2)
theorem shl (m k : Nat) : m <<< k = m * 2 ^ k := Nat.shiftLeft_eq m k
theorem log_mul (n k : Nat) (h : 0 < n) : (n * 2 ^ k).log2 = n.log2 + k := by
  have h2 : 0 < n * 2 ^ k := Nat.mul_pos h (Nat.two_pow_pos k)
  rw [Nat.log2_eq_iff (by omega)]
  have h3 := (Nat.log2_eq_iff (n := n) (k := n.log2) (by omega)).1 rfl
  constructor
  · rw [Nat.pow_add]; exact Nat.mul_le_mul_right _ h3.1
  · rw [show n.log2 + k + 1 = (n.log2 + 1) + k by omega, Nat.pow_add]
    exact (Nat.mul_lt_mul_right (Nat.two_pow_pos k)).2 h3.2
theorem log_lt {n : Nat} (h0 : 0 < n) (h : n < 2 ^ 53) : n.log2 ≤ 52 := by
  have := (Nat.log2_lt (n := n) (k := 53) (by omega)).2 h
  omega
/-- The rung of a number that has no more digits than a word. -/
def rung (n : Nat) (e : Nat) : Nat := e * 2 ^ 52 + n * 2 ^ (52 - n.log2)
theorem cut_none (way : Toward) (neg : Bool) (N d : Nat) : way.cut neg (N * 2 ^ d) d = N := by
  have hpos : 0 < 2 ^ d := Nat.two_pow_pos d
  unfold Toward.cut
  by_cases hN : N = 0
  · subst hN
    simp only [Nat.zero_mul]
    have e : ∀ gap : Nat, 0 < gap → 0 / gap + Bool.toNat (match way with | .even => gap < 2 * (0 % gap) || (gap == 2 * (0 % gap) && (0 / gap) % 2 == 1) | .down => neg && 0 % gap != 0 | .up => !neg && 0 % gap != 0 | .zero => false) = 0 := fun gap hg => by
      rw [Nat.zero_div, Nat.zero_mod]
      cases way <;> simp; try omega
    exact e _ (by rw [shl]; exact Nat.mul_pos (by omega) (Nat.two_pow_pos _))
  · have hl : d ≤ (N * 2 ^ d).log2 + 2 := by rw [log_mul N d (by omega)]; omega
    rw [Nat.min_eq_left hl, shl, Nat.one_mul]
    have h1 : N * 2 ^ d / 2 ^ d = N := Nat.mul_div_cancel _ hpos
    have h2 : N * 2 ^ d % 2 ^ d = 0 := Nat.mul_mod_left _ _
    simp only [h1, h2]
    cases way <;> simp
theorem nearest_word (neg : Bool) (n k : Nat) (e : Int) (h0 : 0 < n) (h : n < 2 ^ 53) (he : -1074 ≤ e + n.log2 - 52) (he2 : e + n.log2 ≤ 900) : double.nearest neg (n * 2 ^ k) (e - k) = double.word neg (rung n (e + n.log2 + 1022).toNat) := by
  have hl := log_lt h0 h
  have hk : 0 < n * 2 ^ k := Nat.mul_pos h0 (Nat.two_pow_pos k)
  unfold Format.nearest
  rw [if_neg (by omega), log_mul n k h0]
  have e1 : max (e - (k : Int) + ((n.log2 + k : Nat) : Int) - ((double.fractionBits : Nat) : Int)) (-1074) = e + n.log2 - 52 := by
    have a1 : ((double.fractionBits : Nat) : Int) = 52 := rfl
    rw [a1]; omega
  have a3 : double.leastPlace = -1074 := by decide
  have a4 : double.binade = 2 ^ 52 := rfl
  have a5 : double.infRung = 2047 * 2 ^ 52 := by decide
  simp only [a3, a4, a5]
  simp only [e1]
  have e2 : Toward.even.cut neg ((n * 2 ^ k) <<< (e - (k : Int) - (e + (n.log2 : Int) - 52)).toNat) (e + (n.log2 : Int) - 52 - (e - (k : Int))).toNat = n * 2 ^ (52 - n.log2) := by
    by_cases hkl : k ≤ 52 - n.log2
    · have b1 : (e - (k : Int) - (e + (n.log2 : Int) - 52)).toNat = 52 - n.log2 - k := by omega
      have b2 : (e + (n.log2 : Int) - 52 - (e - (k : Int))).toNat = 0 := by omega
      rw [b1, b2, shl]
      have b3 : n * 2 ^ k * 2 ^ (52 - n.log2 - k) = n * 2 ^ (52 - n.log2) * 2 ^ 0 := by
        rw [Nat.mul_assoc, ← Nat.pow_add, Nat.pow_zero, Nat.mul_one, show k + (52 - n.log2 - k) = 52 - n.log2 by omega]
      rw [b3, cut_none]
    · have b1 : (e - (k : Int) - (e + (n.log2 : Int) - 52)).toNat = 0 := by omega
      have b2 : (e + (n.log2 : Int) - 52 - (e - (k : Int))).toNat = k - (52 - n.log2) := by omega
      rw [b1, b2, shl, Nat.pow_zero, Nat.mul_one]
      have b3 : n * 2 ^ k = n * 2 ^ (52 - n.log2) * 2 ^ (k - (52 - n.log2)) := by
        rw [Nat.mul_assoc, ← Nat.pow_add, show 52 - n.log2 + (k - (52 - n.log2)) = k by omega]
      rw [b3, cut_none]
  rw [e2]
  have e3 : (e + (n.log2 : Int) - 52 - -1074).toNat = (e + n.log2 + 1022).toNat := by omega
  rw [e3]
  unfold rung
  have hn2 : n * 2 ^ (52 - n.log2) < 2 ^ 53 := by
    have h3 := ((Nat.log2_eq_iff (n := n) (k := n.log2) (by omega)).1 rfl).2
    calc n * 2 ^ (52 - n.log2) < 2 ^ (n.log2 + 1) * 2 ^ (52 - n.log2) := (Nat.mul_lt_mul_right (Nat.two_pow_pos _)).2 h3
      _ = 2 ^ 53 := by rw [← Nat.pow_add, show n.log2 + 1 + (52 - n.log2) = 53 by omega]
  rw [Nat.min_eq_left]
  have : (e + n.log2 + 1022).toNat ≤ 1922 := by omega
  calc (e + n.log2 + 1022).toNat * 2 ^ 52 + n * 2 ^ (52 - n.log2) ≤ 1922 * 2 ^ 52 + 2 ^ 53 := Nat.add_le_add (Nat.mul_le_mul_right _ this) (Nat.le_of_lt hn2)
    _ ≤ 2047 * 2 ^ 52 := by decide
theorem sig_bounds {n : Nat} (h0 : 0 < n) (h : n < 2 ^ 53) : 2 ^ 52 ≤ n * 2 ^ (52 - n.log2) ∧ n * 2 ^ (52 - n.log2) < 2 ^ 53 := by
  have hl := log_lt h0 h
  have h3 := (Nat.log2_eq_iff (n := n) (k := n.log2) (by omega)).1 rfl
  constructor
  · calc 2 ^ 52 = 2 ^ n.log2 * 2 ^ (52 - n.log2) := by rw [← Nat.pow_add, show n.log2 + (52 - n.log2) = 52 by omega]
      _ ≤ n * 2 ^ (52 - n.log2) := Nat.mul_le_mul_right _ h3.1
  · calc n * 2 ^ (52 - n.log2) < 2 ^ (n.log2 + 1) * 2 ^ (52 - n.log2) := (Nat.mul_lt_mul_right (Nat.two_pow_pos _)).2 h3.2
      _ = 2 ^ 53 := by rw [← Nat.pow_add, show n.log2 + 1 + (52 - n.log2) = 53 by omega]
theorem read_word (neg : Bool) (n E : Nat) (h0 : 0 < n) (h : n < 2 ^ 53) (hE : E ≤ 1922) : double.read (double.word neg (rung n E)) = .number neg (n * 2 ^ (52 - n.log2)) ((E : Int) - 1074) := by
  obtain ⟨s1, s2⟩ := sig_bounds h0 h
  generalize hN : n * 2 ^ (52 - n.log2) = N at *
  have hr : rung n E = E * 2 ^ 52 + N := by unfold rung; rw [hN]
  rw [hr]
  have a1 : double.signWeight = 2 ^ 63 := rfl
  have a2 : double.binade = 2 ^ 52 := rfl
  have a3 : double.leastPlace = -1074 := by decide
  have a5 : double.infRung = 2047 * 2 ^ 52 := by decide
  have e53 : (2 : Nat) ^ 53 = 9007199254740992 := by decide
  have e52 : (2 : Nat) ^ 52 = 4503599627370496 := by decide
  have e63 : (2 : Nat) ^ 63 = 9223372036854775808 := by decide
  rw [e53] at s2
  rw [e52] at s1
  have hw : double.word neg (E * 2 ^ 52 + N) / 2 ^ 63 % 2 = neg.toNat ∧ double.word neg (E * 2 ^ 52 + N) % 2 ^ 63 = E * 2 ^ 52 + N := by
    unfold Format.word
    rw [a1, e52, e63]
    cases neg
    · simp only [Bool.false_eq_true, if_false, Bool.toNat_false]; omega
    · simp only [if_true, Bool.toNat_true]; omega
  unfold Format.read
  simp only [a1, a2, a3, a5, hw.1, hw.2]
  rw [if_neg (by rw [e52]; omega), if_pos (by rw [e52]; omega)]
  have e1 : (E * 2 ^ 52 + N) % 2 ^ 52 = N - 2 ^ 52 := by rw [e52]; omega
  have e2 : (E * 2 ^ 52 + N) / 2 ^ 52 = E + 1 := by rw [e52]; omega
  rw [e1, e2]
  have e3 : 2 ^ 52 + (N - 2 ^ 52) = N := by rw [e52]; omega
  have e4 : (neg.toNat == 1) = neg := by cases neg <;> rfl
  rw [e3, e4]
  congr 1
/-- A quarter, as it is read. -/
theorem read_fw (q : Int) (h : q.natAbs < 2 ^ 53) : ∃ k : Nat, k ≤ 1072 ∧ double.read (fw q) = .number (decide (q < 0)) (q.natAbs * 2 ^ k) (-2 - (k : Int)) := by
  by_cases h0 : q = 0
  · subst h0
    have e : ∀ j : Nat, (0 : Int).natAbs * 2 ^ j = 0 := fun j => by simp
    obtain ⟨k, hk⟩ : ∃ k : Nat, k = 1072 := ⟨_, rfl⟩
    refine ⟨k, by omega, ?_⟩
    rw [e k, hk]; decide
  · have hn : 0 < q.natAbs := Int.natAbs_pos.2 h0
    have hl := log_lt hn h
    refine ⟨52 - q.natAbs.log2, by omega, ?_⟩
    have := nearest_word (decide (q < 0)) q.natAbs 0 (-2) hn h (by omega) (by omega)
    rw [Nat.pow_zero, Nat.mul_one] at this
    unfold fw
    rw [show ((-2 : Int) - ((0 : Nat) : Int)) = -2 by omega] at this
    rw [this, read_word _ _ _ hn h (by omega)]
    congr 1
    omega
theorem fw_scale (q : Int) (h : q.natAbs < 2 ^ 53) (k : Nat) : double.nearest (decide (q < 0)) (q.natAbs * 2 ^ k) (-2 - (k : Int)) = fw q := by
  unfold fw
  by_cases h0 : q = 0
  · subst h0
    unfold Format.nearest
    rw [if_pos (by simp), if_pos (by simp)]
  · have hn : 0 < q.natAbs := Int.natAbs_pos.2 h0
    have hl := log_lt hn h
    have h1 := nearest_word (decide (q < 0)) q.natAbs 0 (-2) hn h (by omega) (by omega)
    rw [Nat.pow_zero, Nat.mul_one, show ((-2 : Int) - ((0 : Nat) : Int)) = -2 by omega] at h1
    rw [nearest_word _ _ k (-2) hn h (by omega) (by omega), h1]
theorem signed_abs (q : Int) (k j : Nat) : signed (decide (q < 0)) (q.natAbs * 2 ^ k) j = q * 2 ^ (k + j) := by
  unfold signed
  rw [shl, Nat.mul_assoc, ← Nat.pow_add]
  by_cases h : q < 0
  · rw [decide_eq_true h, if_pos rfl, Int.natCast_mul, Int.natCast_pow, show ((q.natAbs : Nat) : Int) = -q by omega, Int.neg_mul, Int.neg_neg]; rfl
  · rw [decide_eq_false h, if_neg (by simp), Int.natCast_mul, Int.natCast_pow, show ((q.natAbs : Nat) : Int) = q by omega]; rfl
theorem pow_pos' (k : Nat) : (0 : Int) < 2 ^ k := Int.pow_pos (by decide)
theorem mul_lt0 (q : Int) (k : Nat) : (q * 2 ^ k < 0) ↔ q < 0 := by
  have := pow_pos' k
  constructor
  · intro h; exact Int.not_le.1 fun h2 => absurd (Int.mul_nonneg h2 (Int.le_of_lt this)) (by omega)
  · intro h; exact Int.mul_neg_of_neg_of_pos h this
theorem mul_eq0 (q : Int) (k : Nat) : (q * 2 ^ k = 0) ↔ q = 0 := by
  have := pow_pos' k
  rw [Int.mul_eq_zero]; omega
theorem abs_mul2 (q : Int) (k : Nat) : (q * 2 ^ k).natAbs = q.natAbs * 2 ^ k := by
  rw [Int.natAbs_mul, Int.natAbs_pow]; rfl
theorem sum_fw (a b : Int) (s t : Bool) (ka kb : Nat) (hs : a ≠ 0 → s = decide (a < 0)) (ht : b ≠ 0 → t = decide (b < 0)) (hz : a = 0 → b = 0 → (s && t) = false) (h : (a + b).natAbs < 2 ^ 53) :
    ((Datum.number s (a.natAbs * 2 ^ ka) (-2 - (ka : Int))).sum (.number t (b.natAbs * 2 ^ kb) (-2 - (kb : Int)))).map double.write = some (fw (a + b)) := by
  have sg : ∀ (q : Int) (u : Bool) (k j : Nat), (q ≠ 0 → u = decide (q < 0)) → signed u (q.natAbs * 2 ^ k) j = q * 2 ^ (k + j) := fun q u k j hu => by
    by_cases h0 : q = 0
    · subst h0; unfold signed; rw [shl]; simp
    · rw [hu h0]; exact signed_abs q k j
  unfold Datum.sum
  simp only [Option.map_some]
  obtain ⟨K, hK⟩ : ∃ K, K = max ka kb := ⟨_, rfl⟩
  have hb : min (-2 - (ka : Int)) (-2 - (kb : Int)) = -2 - (K : Int) := by omega
  rw [hb, sg a s _ _ hs, sg b t _ _ ht]
  have e1 : ka + (-2 - (ka : Int) - (-2 - (K : Int))).toNat = K := by omega
  have e2 : kb + (-2 - (kb : Int) - (-2 - (K : Int))).toNat = K := by omega
  rw [e1, e2, ← Int.add_mul, abs_mul2]
  have e3 : (if (a + b) * 2 ^ K = 0 then s && t else decide ((a + b) * 2 ^ K < 0)) = decide (a + b < 0) := by
    by_cases h0 : a + b = 0
    · rw [if_pos ((mul_eq0 _ _).2 h0), h0]
      by_cases ha : a = 0
      · exact hz ha (by omega)
      · rw [hs ha, ht (by omega)]
        by_cases h1 : a < 0
        · rw [decide_eq_false (show ¬ b < 0 by omega)]; simp
        · rw [decide_eq_false h1]; simp
    · rw [if_neg (fun h => h0 ((mul_eq0 _ _).1 h))]
      exact decide_eq_decide.2 (mul_lt0 _ _)
  rw [e3]
  show some (double.nearest _ _ _) = _
  rw [fw_scale _ h]
theorem fadd_fw (a b : Int) (ha : a.natAbs < 2 ^ 53) (hb : b.natAbs < 2 ^ 53) (h : (a + b).natAbs < 2 ^ 53) : fadd (fw a) (fw b) = some (fw (a + b)) := by
  obtain ⟨ka, _, ea⟩ := read_fw a ha
  obtain ⟨kb, _, eb⟩ := read_fw b hb
  show ((double.read (fw a)).sum (double.read (fw b))).map double.write = _
  rw [ea, eb]
  exact sum_fw a b _ _ ka kb (fun _ => rfl) (fun _ => rfl) (fun h1 h2 => by subst h1; rfl) h
theorem fsub_fw (a b : Int) (ha : a.natAbs < 2 ^ 53) (hb : b.natAbs < 2 ^ 53) (h : (a - b).natAbs < 2 ^ 53) : fsub (fw a) (fw b) = some (fw (a - b)) := by
  obtain ⟨ka, _, ea⟩ := read_fw a ha
  obtain ⟨kb, _, eb⟩ := read_fw b hb
  show ((double.read (fw a)).sum (double.read (fw b)).opposite).map double.write = _
  rw [ea, eb]
  have := sum_fw a (-b) (decide (a < 0)) (!decide (b < 0)) ka kb (fun _ => rfl) (fun h0 => by
    by_cases h1 : b < 0
    · rw [decide_eq_true h1, decide_eq_false (by omega)]; rfl
    · rw [decide_eq_false h1, decide_eq_true (by omega)]; rfl) (fun h1 h2 => by subst h1; rfl) (by rw [← Int.sub_eq_add_neg]; exact h)
  rw [Int.natAbs_neg, ← Int.sub_eq_add_neg] at this
  exact this
theorem cmp_mul (a b : Int) (k : Nat) : compare (a * 2 ^ k) (b * 2 ^ k) = compare a b := by
  have hp := pow_pos' k
  rcases Int.lt_trichotomy a b with h | h | h
  · rw [Int.compare_eq_lt.2 h, Int.compare_eq_lt.2 ((Int.mul_lt_mul_right hp).2 h)]
  · subst h; rw [Int.compare_eq_eq.2 rfl, Int.compare_eq_eq.2 rfl]
  · rw [Int.compare_eq_gt.2 h, Int.compare_eq_gt.2 ((Int.mul_lt_mul_right hp).2 h)]
theorem ford_fw (a b : Int) (ha : a.natAbs < 2 ^ 53) (hb : b.natAbs < 2 ^ 53) : ford (fw a) (fw b) = some (compare a b) := by
  obtain ⟨ka, _, ea⟩ := read_fw a ha
  obtain ⟨kb, _, eb⟩ := read_fw b hb
  show (double.read (fw a)).order (double.read (fw b)) = _
  rw [ea, eb]
  unfold Datum.order
  simp only
  obtain ⟨K, hK⟩ : ∃ K, K = max ka kb := ⟨_, rfl⟩
  have hm : min (-2 - (ka : Int)) (-2 - (kb : Int)) = -2 - (K : Int) := by omega
  rw [hm, signed_abs, signed_abs]
  have e1 : ka + (-2 - (ka : Int) - (-2 - (K : Int))).toNat = K := by omega
  have e2 : kb + (-2 - (kb : Int) - (-2 - (K : Int))).toNat = K := by omega
  rw [e1, e2, cmp_mul]
theorem i2f_fw (n : Int) (h : n.natAbs < 2 ^ 51) : i2f n = fw (4 * n) := by
  show double.nearest (decide (n < 0)) n.natAbs 0 = double.nearest (decide (4 * n < 0)) (4 * n).natAbs (-2)
  have e1 : decide (4 * n < 0) = decide (n < 0) := decide_eq_decide.2 (by omega)
  have e2 : (4 * n).natAbs = n.natAbs * 2 ^ 2 := by omega
  rw [e1, e2]
  have e53 : (2 : Nat) ^ 53 = 9007199254740992 := by decide
  have e51 : (2 : Nat) ^ 51 = 2251799813685248 := by decide
  rw [e51] at h
  by_cases h0 : n = 0
  · subst h0; rfl
  · have hn : 0 < n.natAbs := Int.natAbs_pos.2 h0
    have hl := log_lt hn (by rw [e53]; omega)
    have a1 := nearest_word (decide (n < 0)) n.natAbs 0 0 hn (by rw [e53]; omega) (by omega) (by omega)
    have a2 := nearest_word (decide (n < 0)) n.natAbs 2 0 hn (by rw [e53]; omega) (by omega) (by omega)
    rw [Nat.pow_zero, Nat.mul_one] at a1
    exact a1.trans a2.symm
theorem cut_zero (neg : Bool) (n d : Nat) : Toward.zero.cut neg n d = n / 2 ^ d := by
  unfold Toward.cut
  simp only [Bool.toNat_false, Nat.add_zero]
  rw [shl, Nat.one_mul]
  by_cases h : d ≤ n.log2 + 2
  · rw [Nat.min_eq_left h]
  · rw [Nat.min_eq_right (by omega)]
    have h1 : n < 2 ^ (n.log2 + 1) := Nat.lt_log2_self
    have h2 : 2 ^ (n.log2 + 1) ≤ 2 ^ (n.log2 + 2) := Nat.pow_le_pow_right (by decide) (by omega)
    have h3 : 2 ^ (n.log2 + 2) ≤ 2 ^ d := Nat.pow_le_pow_right (by decide) (by omega)
    rw [Nat.div_eq_of_lt (by omega), Nat.div_eq_of_lt (by omega)]
theorem f2t_fw (q : Int) (h : q.natAbs < 2 ^ 53) : f2t (fw q) = some (q.tdiv 4) := by
  obtain ⟨k, _, e⟩ := read_fw q h
  show (double.read (fw q)).toInt .zero = _
  rw [e]
  unfold Datum.toInt Datum.integral
  simp only
  have e1 : (-2 - (k : Int)).toNat = 0 := by omega
  have e2 : (-(-2 - (k : Int))).toNat = 2 + k := by omega
  rw [e1, e2, cut_zero, shl, Nat.pow_zero, Nat.mul_one]
  have e3 : q.natAbs * 2 ^ k / 2 ^ (2 + k) = q.natAbs / 4 := by
    rw [Nat.pow_add]
    exact Nat.mul_div_mul_right _ _ (Nat.two_pow_pos k)
  rw [e3]
  unfold signed
  rw [shl, Nat.pow_zero, Nat.mul_one]
  congr 1
  by_cases h0 : q < 0
  · rw [decide_eq_true h0, if_pos rfl]
    have : q.tdiv 4 = -((-q).tdiv 4) := by rw [Int.neg_tdiv, Int.neg_neg]
    rw [this, Int.tdiv_eq_ediv_of_nonneg (by omega)]
    omega
  · rw [decide_eq_false h0, if_neg (by simp), Int.tdiv_eq_ediv_of_nonneg (by omega)]
    omega
end Go.AE
end
/- Lines and columns: stepping over a text; where lines end; digits. -/
namespace Go.AE
def crlf : List UInt8 := [13, 10]
def stp : List UInt8 → Nat → Nat → Nat × Nat
  | [], l, c => (l, c)
  | [_], l, c => (l, c + 1)
  | x :: y :: s, l, c => if x = 13 ∧ y = 10 then stp s (l + 1) 0 else stp (y :: s) l (c + 1)
def pairB (x : UInt8) (s : List UInt8) : Prop := x = 13 ∧ s.head? = some 10
instance (x : UInt8) (s : List UInt8) : Decidable (pairB x s) := inferInstanceAs (Decidable (_ ∧ _))
theorem stp_cons (x : UInt8) (s : List UInt8) (l c : Nat) : stp (x :: s) l c = if pairB x s then stp s.tail (l + 1) 0 else stp s l (c + 1) := by
  cases s with
  | nil => simp [stp, pairB]
  | cons y s => simp [stp, pairB]
theorem stp_bound : ∀ (s : List UInt8) (l c : Nat), (stp s l c).1 ≤ l + s.length ∧ (stp s l c).2 ≤ c + s.length := by
  intro s l c
  induction s, l, c using stp.induct with
  | case1 l c => simp [stp]
  | case2 x l c => simp [stp]
  | case3 x y s l c h ih => unfold stp; rw [if_pos h]; simp only [List.length_cons]; omega
  | case4 x y s l c h ih => unfold stp; rw [if_neg h]; simp only [List.length_cons] at ih ⊢; omega
theorem stp_shift : ∀ (s : List UInt8) (l c a : Nat), stp s (l + a) c = ((stp s l c).1 + a, (stp s l c).2) := by
  intro s l c
  induction s, l, c using stp.induct with
  | case1 l c => intro a; simp [stp]
  | case2 x l c => intro a; simp [stp]
  | case3 x y s l c h ih => intro a; unfold stp; rw [if_pos h, if_pos h, ← ih a]; congr 1; omega
  | case4 x y s l c h ih => intro a; unfold stp; rw [if_neg h, if_neg h, ih a]
theorem stp_line : ∀ (s : List UInt8) (l c c' : Nat), (stp s l c).1 = (stp s l c').1 := by
  intro s l c
  induction s, l, c using stp.induct with
  | case1 l c => intro c'; simp [stp]
  | case2 x l c => intro c'; simp [stp]
  | case3 x y s l c h ih => intro c'; unfold stp; rw [if_pos h, if_pos h]
  | case4 x y s l c h ih => intro c'; unfold stp; rw [if_neg h, if_neg h]; exact ih (c' + 1)
def lines (s : List UInt8) : Nat := (stp s 0 0).1
theorem stp_lines (s : List UInt8) (l c : Nat) : (stp s l c).1 = l + lines s := by
  have := stp_shift s 0 c l
  rw [Nat.zero_add] at this
  rw [this, stp_line s 0 c 0]
  show lines s + l = _
  omega
theorem lines_cons (x : UInt8) (s : List UInt8) : lines (x :: s) = if pairB x s then lines s.tail + 1 else lines s := by
  unfold lines
  rw [stp_cons]
  split
  · rw [stp_lines]; unfold lines; omega
  · rw [stp_line s 0 (0 + 1) 0]
theorem stp_append : ∀ (a : List UInt8) (l c : Nat) (b : List UInt8), (∀ t u, a = t ++ [13] → b = 10 :: u → False) → stp (a ++ b) l c = stp b (stp a l c).1 (stp a l c).2 := by
  intro a l c
  induction a, l, c using stp.induct with
  | case1 l c => intro b _; simp [stp]
  | case2 x l c =>
    intro b hb
    show stp (x :: b) l c = stp b l (c + 1)
    rw [stp_cons, if_neg]
    rintro ⟨rfl, h2⟩
    cases b with
    | nil => cases h2
    | cons y u =>
      simp only [List.head?_cons, Option.some.injEq] at h2
      subst h2
      exact hb [] u rfl rfl
  | case3 x y s l c h ih =>
    intro b hb
    show stp (x :: y :: (s ++ b)) l c = _
    have e : stp (x :: y :: s) l c = stp s (l + 1) 0 := by rw [stp]; rw [if_pos h]
    rw [e]
    rw [stp]
    rw [if_pos h]
    exact ih b fun t u h1 h2 => hb (x :: y :: t) u (by rw [h1]; rfl) h2
  | case4 x y s l c h ih =>
    intro b hb
    show stp (x :: y :: (s ++ b)) l c = _
    have e : stp (x :: y :: s) l c = stp (y :: s) l (c + 1) := by rw [stp]; rw [if_neg h]
    rw [e]
    rw [stp]
    rw [if_neg h]
    exact ih b fun t u h1 h2 => hb (x :: t) u (by rw [h1]; rfl) h2
theorem stp_snoc_pair (u : List UInt8) (l c : Nat) : stp (u ++ [13] ++ [10]) l c = ((stp (u ++ [13]) l c).1 + 1, 0) := by
  rw [List.append_assoc, stp_append u l c ([13] ++ [10]) (fun t v _ h => by simp at h), stp_append u l c [13] (fun t v _ h => by simp at h)]
  rfl
theorem stp_snoc (t : List UInt8) (x : UInt8) (l c : Nat) (h : ¬ (x = 10 ∧ ∃ u, t = u ++ [13])) : stp (t ++ [x]) l c = ((stp t l c).1, (stp t l c).2 + 1) := by
  rw [stp_append t l c [x] (fun u v h1 h2 => h ⟨by simpa using (List.cons.inj h2).1, u, h1⟩)]
  rfl
/-! ### The place behind k bytes -/
def spot (s : List UInt8) (k : Nat) : Nat × Nat := stp (s.take k) 0 0
theorem take_sn (s : List UInt8) (k : Nat) (h : k < s.length) : s.take (k + 1) = s.take k ++ [s.getD k 0] := by
  rw [List.take_add_one]; simp [List.getD, h]
def endB (s : List UInt8) (k : Nat) : Prop := s.getD k 0 = 10 ∧ 0 < k ∧ s.getD (k - 1) 0 = 13
instance (s : List UInt8) (k : Nat) : Decidable (endB s k) := inferInstanceAs (Decidable (_ ∧ _ ∧ _))
theorem spot_end {s : List UInt8} {k : Nat} (hk : k < s.length) (h : endB s k) : spot s (k + 1) = ((spot s k).1 + 1, 0) := by
  unfold spot
  obtain ⟨k, rfl⟩ : ∃ j, k = j + 1 := ⟨k - 1, by have := h.2.1; omega⟩
  have h2 := h.2.2
  rw [Nat.add_sub_cancel] at h2
  rw [take_sn s (k + 1) hk, take_sn s k (by omega), h.1, h2]
  exact stp_snoc_pair _ _ _
theorem spot_next {s : List UInt8} {k : Nat} (hk : k < s.length) (h : ¬ endB s k) : spot s (k + 1) = ((spot s k).1, (spot s k).2 + 1) := by
  unfold spot
  rw [take_sn s k hk]
  refine stp_snoc _ _ _ _ fun ⟨h1, u, h2⟩ => h ⟨h1, ?_⟩
  have hl := congrArg List.length h2
  simp only [List.length_take, List.length_append, List.length_cons, List.length_nil] at hl
  refine ⟨by omega, ?_⟩
  have := congrArg (fun l : List UInt8 => l.getD (k - 1) 0) h2
  simp only [List.getD, List.getElem?_take, show k - 1 < k by omega, if_true] at this
  rw [List.getElem?_append_right (by omega), show k - 1 - u.length = 0 by omega] at this
  simpa [List.getD] using this
theorem spot_zero (s : List UInt8) : spot s 0 = (0, 0) := rfl
theorem spot_bound (s : List UInt8) (k : Nat) : (spot s k).1 ≤ s.length ∧ (spot s k).2 ≤ s.length := by
  have := stp_bound (s.take k) 0 0
  have hl : (s.take k).length ≤ s.length := by simp; omega
  unfold spot; omega
def ltP (p q : Nat × Nat) : Prop := p.1 < q.1 ∨ p.1 = q.1 ∧ p.2 < q.2
theorem spot_step {s : List UInt8} {k : Nat} (hk : k < s.length) : ltP (spot s k) (spot s (k + 1)) := by
  by_cases h : endB s k
  · rw [spot_end hk h]; left; show _ < _ + 1; omega
  · rw [spot_next hk h]; right; exact ⟨rfl, by show _ < _ + 1; omega⟩
theorem spot_lt {s : List UInt8} {j k : Nat} (hj : j < k) (hk : k ≤ s.length) : ltP (spot s j) (spot s k) := by
  induction k with
  | zero => omega
  | succ k ih =>
    have h1 := spot_step (s := s) (k := k) (by omega)
    by_cases e : j = k
    · subst e; exact h1
    · have h2 := ih (by omega) (by omega)
      unfold ltP at *; omega
theorem spot_ne {s : List UInt8} {j k : Nat} (hj : j ≠ k) (h1 : j ≤ s.length) (h2 : k ≤ s.length) : spot s j ≠ spot s k := by
  intro e
  rcases Nat.lt_or_gt_of_ne hj with h | h
  · have := spot_lt h h2; rw [e] at this; unfold ltP at this; omega
  · have := spot_lt h h1; rw [e] at this; unfold ltP at this; omega
theorem lines_take {s : List UInt8} : ∀ (k : Nat), k ≤ s.length → lines (s.take k) ≤ lines s := fun k hk => by
  have := stp_bound s 0 0
  have h : ∀ j, j ≤ s.length → ∀ i, i ≤ j → (spot s i).1 ≤ (spot s j).1 := fun j hj i hi => by
    by_cases e : i = j
    · subst e; omega
    · have := spot_lt (s := s) (j := i) (k := j) (by omega) hj; unfold ltP at this; omega
  have h2 := h s.length (Nat.le_refl _) k hk
  unfold spot at h2
  rw [List.take_length] at h2
  exact h2
theorem plain_spot {s : List UInt8} (h : lines s = 0) {k : Nat} (hk : k ≤ s.length) : spot s k = (0, k) := by
  induction k with
  | zero => rfl
  | succ k ih =>
    have hi := ih (by omega)
    by_cases he : endB s k
    · have h1 := spot_end (by omega) he
      have h2 : lines (s.take (k + 1)) ≤ lines s := lines_take (k + 1) hk
      have h3 : lines (s.take (k + 1)) = (spot s k).1 + 1 := congrArg Prod.fst h1
      omega
    · rw [spot_next (by omega) he, hi]
/-! ### The ends of lines, found -/
theorem idx_cons (x : UInt8) (s : List UInt8) : Lib.index (x :: s) crlf = if pairB x s then 0 else if Lib.index s crlf = -1 then -1 else Lib.index s crlf + 1 := by
  have e : (crlf.isPrefixOf (x :: s) = true) ↔ pairB x s := by
    unfold crlf pairB
    cases s with
    | nil => simp [List.isPrefixOf]
    | cons y s => simp [List.isPrefixOf]; constructor <;> rintro ⟨h1, h2⟩ <;> exact ⟨h1.symm, h2.symm⟩
  rw [Lib.index]
  by_cases h : pairB x s
  · rw [if_pos (e.2 h), if_pos h]
  · rw [if_neg (fun h2 => h (e.1 h2)), if_neg h]
    by_cases h3 : Lib.index s crlf = -1
    · rw [if_pos (by rw [h3]; rfl), if_pos h3]
    · rw [if_neg (by simpa using h3), if_neg h3]
theorem stp_none : ∀ (s : List UInt8) (l c : Nat), Lib.index s crlf = -1 → stp s l c = (l, c + s.length) := by
  intro s
  induction s with
  | nil => intro l c _; rfl
  | cons x s ih =>
    intro l c h
    rw [idx_cons] at h
    rw [stp_cons]
    by_cases hp : pairB x s
    · rw [if_pos hp] at h; cases h
    · rw [if_neg hp] at h ⊢
      by_cases h3 : Lib.index s crlf = -1
      · rw [ih l (c + 1) h3, List.length_cons]; congr 1; omega
      · rw [if_neg h3] at h
        have := Lib.index_ge s crlf
        omega
theorem stp_found : ∀ (s : List UInt8) (l c i : Nat), Lib.index s crlf = i → stp s l c = stp (s.drop (i + 2)) (l + 1) 0 := by
  intro s
  induction s with
  | nil => intro l c i h; simp [Lib.index, crlf] at h
  | cons x s ih =>
    intro l c i h
    rw [idx_cons] at h
    rw [stp_cons]
    by_cases hp : pairB x s
    · rw [if_pos hp] at h ⊢
      obtain rfl : i = 0 := by omega
      cases s with
      | nil => exact absurd hp.2 (by simp)
      | cons y s => rfl
    · rw [if_neg hp] at h ⊢
      by_cases h3 : Lib.index s crlf = -1
      · rw [if_pos h3] at h; omega
      · rw [if_neg h3] at h
        have hg := Lib.index_ge s crlf
        obtain ⟨j, rfl⟩ : ∃ j, i = j + 1 := ⟨i - 1, by omega⟩
        rw [ih l (c + 1) j (by omega)]
        rfl
theorem count_lines : ∀ (fuel : Nat) (s : List UInt8), s.length < fuel → Lib.countFrom crlf fuel s = lines s := by
  intro fuel
  induction fuel with
  | zero => intro s h; omega
  | succ fuel ih =>
    intro s h
    rw [Lib.countFrom]
    by_cases h3 : Lib.index s crlf = -1
    · rw [if_pos (by rw [h3]; rfl)]
      have := congrArg Prod.fst (stp_none s 0 0 h3)
      exact this.symm
    · rw [if_neg (by simpa using h3)]
      have hg := Lib.index_ge s crlf
      have hr := Lib.index_room s crlf (by omega)
      obtain ⟨i, hi⟩ : ∃ i : Nat, Lib.index s crlf = i := ⟨(Lib.index s crlf).toNat, by omega⟩
      have h4 : lines s = (stp (s.drop (i + 2)) (0 + 1) 0).1 := congrArg Prod.fst (stp_found s 0 0 i hi)
      rw [stp_lines] at h4
      rw [hi] at hr ⊢
      have hcl : crlf.length = 2 := rfl
      rw [hcl] at hr ⊢
      rw [Int.toNat_natCast, ih _ (by rw [List.length_drop]; omega)]
      rw [h4, Nat.zero_add]
/-! ### Digits -/
def dgv (l : List UInt8) : Nat := l.foldl (fun v c => 10 * v + (c.toNat - 48)) 0
theorem ofN' (m : Nat) (h : m < 256) : (UInt8.ofNat m).toNat = m := by
  rw [UInt8.toNat_ofNat']; exact Nat.mod_eq_of_lt h
theorem dgv_dec : ∀ n : Nat, dgv (Lib.decDigits n) = n := by
  intro n
  induction n using Nat.strongRecOn with
  | _ n ih =>
    rw [Lib.decDigits]
    by_cases h : n < 10
    · rw [dif_pos h]
      show 10 * 0 + ((UInt8.ofNat (48 + n)).toNat - 48) = n
      rw [ofN' _ (by omega)]; omega
    · rw [dif_neg h]
      unfold dgv at ih ⊢
      rw [List.foldl_append, ih (n / 10) (by omega)]
      show 10 * (n / 10) + ((UInt8.ofNat (48 + n % 10)).toNat - 48) = n
      rw [ofN' _ (by omega)]; omega
theorem dec_no : ∀ (n : Nat), ∀ c ∈ Lib.decDigits n, c ≠ 58 := by
  intro n
  induction n using Nat.strongRecOn with
  | _ n ih =>
    have one : ∀ m, m < 10 → UInt8.ofNat (48 + m) ≠ 58 := fun m hm e => by
      have := congrArg UInt8.toNat e
      rw [ofN' _ (by omega)] at this
      have e2 : (58 : UInt8).toNat = 58 := rfl
      omega
    rw [Lib.decDigits]
    by_cases h : n < 10
    · rw [dif_pos h]
      intro c hc
      simp only [List.mem_singleton] at hc
      subst hc; exact one n h
    · rw [dif_neg h]
      intro c hc
      rcases List.mem_append.1 hc with hc | hc
      · exact ih (n / 10) (by omega) c hc
      · simp only [List.mem_singleton] at hc
        subst hc; exact one _ (by omega)
theorem dec_len : ∀ (k n : Nat), n < 10 ^ (k + 1) → (Lib.decDigits n).length ≤ k + 1 := by
  intro k
  induction k with
  | zero => intro n h; rw [Lib.decDigits, dif_pos (by simpa using h)]; simp
  | succ k ih =>
    intro n h
    rw [Lib.decDigits]
    by_cases h10 : n < 10
    · rw [dif_pos h10]; simp
    · rw [dif_neg h10, List.length_append]
      have := ih (n / 10) (by rw [Nat.pow_succ] at h; omega)
      simp only [List.length_cons, List.length_nil]; omega
/-- A spot, told. -/
def txt (a b : Nat) : List UInt8 := Lib.decDigits a ++ [58] ++ Lib.decDigits b
theorem split58 : ∀ (x y u v : List UInt8), (∀ c ∈ x, c ≠ 58) → (∀ c ∈ u, c ≠ 58) → x ++ 58 :: y = u ++ 58 :: v → x = u ∧ y = v := by
  intro x
  induction x with
  | nil =>
    intro y u v _ hu h
    cases u with
    | nil => exact ⟨rfl, by simpa using h⟩
    | cons a u =>
      simp only [List.nil_append, List.cons_append, List.cons.injEq] at h
      exact absurd h.1.symm (hu a (by simp))
  | cons a x ih =>
    intro y u v hx hu h
    cases u with
    | nil =>
      simp only [List.nil_append, List.cons_append, List.cons.injEq] at h
      exact absurd h.1 (hx a (by simp))
    | cons b u =>
      simp only [List.cons_append, List.cons.injEq] at h
      obtain ⟨h1, h2⟩ := ih y u v (fun c hc => hx c (by simp [hc])) (fun c hc => hu c (by simp [hc])) h.2
      exact ⟨by rw [h.1, h1], h2⟩
theorem txt_inj {a b c d : Nat} (h : txt a b = txt c d) : a = c ∧ b = d := by
  unfold txt at h
  rw [List.append_assoc, List.append_assoc] at h
  obtain ⟨h1, h2⟩ := split58 _ _ _ _ (dec_no a) (dec_no c) h
  have e1 := congrArg dgv h1
  have e2 : dgv (Lib.decDigits b) = dgv (Lib.decDigits d) := congrArg dgv h2
  rw [dgv_dec, dgv_dec] at e1 e2
  exact ⟨e1, e2⟩
theorem itoa_nat (n : Nat) : Lib.itoa (n : Int) = Lib.decDigits n := by
  unfold Lib.itoa
  rw [if_neg (by omega), Int.toNat_natCast]
theorem count_eq (s : List UInt8) : Lib.count s crlf = lines s := count_lines _ s (by omega)
end Go.AE
