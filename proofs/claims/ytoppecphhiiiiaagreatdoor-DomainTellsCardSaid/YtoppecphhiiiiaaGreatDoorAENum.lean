/- A part of the abstract evaluator: no condition. -/
import Derived.Test.YtoppecphhiiiiaaGreatDoorAETac
set_option linter.unusedVariables false
set_option linter.unusedSimpArgs false
namespace Go.AE
theorem z2w (w : Nat) (a : Int) (h : 0 ≤ a) (k : a < 2 ^ w) : (BitVec.ofInt w a).toNat = a.toNat := by
 rw [BitVec.toNat_ofInt, Int.emod_eq_of_lt h (by exact_mod_cast k)]
theorem uI (w : Nat) (a : Int) (k : Nat) (hk : k ≤ w) : (BitVec.ofInt w a &&& BitVec.ofInt w ((2 ^ k - 1 : Nat) : Int)).toNat = (a % (2 ^ k : Nat)).toNat := by
 rw [BitVec.toNat_and, BitVec.toNat_ofInt, BitVec.toNat_ofInt]
 have h1 : (((2 ^ k - 1 : Nat) : Int) % ((2 ^ w : Nat) : Int)).toNat = 2 ^ k - 1 := by
  rw [← Int.natCast_emod, Int.toNat_natCast]
  refine Nat.mod_eq_of_lt ?_
  have := Nat.pow_le_pow_right (n := 2) (by omega) hk
  have := Nat.pow_pos (n := k) (a := 2) (by omega)
  omega
 rw [h1, Nat.and_two_pow_sub_one_eq_mod]
 have h2 : (0 : Int) < ((2 ^ w : Nat) : Int) := by exact_mod_cast Nat.pow_pos (n := w) (a := 2) (by omega)
 have h3 := Int.emod_nonneg a (b := ((2 ^ w : Nat) : Int)) (by omega)
 have h4 : (0 : Int) < ((2 ^ k : Nat) : Int) := by exact_mod_cast Nat.pow_pos (n := k) (a := 2) (by omega)
 have h5 : a % ((2 ^ w : Nat) : Int) % ((2 ^ k : Nat) : Int) = a % ((2 ^ k : Nat) : Int) := by
  apply Int.emod_emod_of_dvd
  exact_mod_cast Nat.pow_dvd_pow 2 hk
 rw [← h5]
 generalize a % ((2 ^ w : Nat) : Int) = m at *
 obtain ⟨m, rfl⟩ := Int.eq_ofNat_of_zero_le h3
 rw [Int.toNat_natCast, ← Int.natCast_emod, Int.toNat_natCast]
theorem vV (w k : Nat) (a x : Int) (ha : 0 ≤ a) (hx : 0 ≤ x) (hk : x < 2 ^ k) (hw : a * 2 ^ k + x < 2 ^ w) : (BitVec.ofInt w (a * 2 ^ k) ||| BitVec.ofInt w x).toNat = (a * 2 ^ k + x).toNat := by
 have hp : (0 : Int) < 2 ^ k := by exact_mod_cast Nat.pow_pos (n := k) (a := 2) (by omega)
 have h0 : 0 ≤ a * 2 ^ k := Int.mul_nonneg ha (by omega)
 rw [BitVec.toNat_or, z2w w _ h0 (by omega), z2w w _ hx (by omega)]
 obtain ⟨a, rfl⟩ := Int.eq_ofNat_of_zero_le ha
 obtain ⟨x, rfl⟩ := Int.eq_ofNat_of_zero_le hx
 have e : ((a : Int) * 2 ^ k) = ((a * 2 ^ k : Nat) : Int) := by push_cast; rfl
 rw [e, Int.toNat_natCast, Int.toNat_natCast, ← Int.natCast_add, Int.toNat_natCast, Nat.mul_comm, Nat.two_pow_add_eq_or_of_lt]
 exact_mod_cast hk
theorem jG (a : Int) : (BitVec.ofInt IntKind.i32.bits a &&& BitVec.ofInt IntKind.i32.bits 63).toNat = (a % 64).toNat := uI 32 a 6 (by decide)
theorem jH (a : Int) : (BitVec.ofInt IntKind.u8.bits a &&& BitVec.ofInt IntKind.u8.bits 63).toNat = (a % 64).toNat := uI 8 a 6 (by decide)
theorem jF (a : Int) : (BitVec.ofInt IntKind.u8.bits a &&& BitVec.ofInt IntKind.u8.bits 31).toNat = (a % 32).toNat := uI 8 a 5 (by decide)
theorem jE (a : Int) : (BitVec.ofInt IntKind.u8.bits a &&& BitVec.ofInt IntKind.u8.bits 15).toNat = (a % 16).toNat := uI 8 a 4 (by decide)
theorem jI (a : Int) : (BitVec.ofInt IntKind.u8.bits a &&& BitVec.ofInt IntKind.u8.bits 7).toNat = (a % 8).toNat := uI 8 a 3 (by decide)
theorem oI (x : Int) (h : 0 ≤ x) (k : x < 32) : (BitVec.ofInt IntKind.u8.bits 192 ||| BitVec.ofInt IntKind.u8.bits x).toNat = (192 + x).toNat := vV 8 5 6 x (by decide) h k (by omega)
theorem oJ (x : Int) (h : 0 ≤ x) (k : x < 16) : (BitVec.ofInt IntKind.u8.bits 224 ||| BitVec.ofInt IntKind.u8.bits x).toNat = (224 + x).toNat := vV 8 4 14 x (by decide) h k (by omega)
theorem oK (x : Int) (h : 0 ≤ x) (k : x < 8) : (BitVec.ofInt IntKind.u8.bits 240 ||| BitVec.ofInt IntKind.u8.bits x).toNat = (240 + x).toNat := vV 8 3 30 x (by decide) h k (by omega)
theorem oH (x : Int) (h : 0 ≤ x) (k : x < 64) : (BitVec.ofInt IntKind.u8.bits 128 ||| BitVec.ofInt IntKind.u8.bits x).toNat = (128 + x).toNat := vV 8 6 2 x (by decide) h k (by omega)
theorem rD (a x : Int) (ha : 0 ≤ a) (hb : a < 16777216) (h : 0 ≤ x) (k : x < 64) : (BitVec.ofInt IntKind.i32.bits (a * 64) ||| BitVec.ofInt IntKind.i32.bits x).toNat = (a * 64 + x).toNat := vV 32 6 a x ha h k (by omega)
theorem qN (a : Int) (h : 0 ≤ a) (k : a < 256) : (BitVec.ofInt IntKind.u8.bits a &&& ~~~ BitVec.ofInt IntKind.u8.bits 63).toNat = (a - a % 64).toNat := by
 obtain ⟨n, rfl⟩ := Int.eq_ofNat_of_zero_le h
 have hn : n < 256 := by omega
 have key : ∀ m : Fin 256, (BitVec.ofInt 8 (m.val : Int) &&& ~~~ BitVec.ofInt 8 63).toNat = ((m.val : Int) - (m.val : Int) % 64).toNat := by decide +kernel
 exact key ⟨n, hn⟩
theorem jQ : min (Int.toNat 6) IntKind.i32.bits = 6 := rfl
theorem jO : min (Int.toNat 12) IntKind.i32.bits = 12 := rfl
theorem jP : min (Int.toNat 18) IntKind.i32.bits = 18 := rfl
theorem z4r {n : Int} (h : 0 ≤ n) (k : n ≤ 18446744073709551615) : IntKind.u64.wrap n = n := by simp [IntKind.wrap, IntKind.bits, IntKind.signed]; omega
theorem W4 : min 1 IntKind.u64.bits = 1 := rfl
theorem XZ : (2 : Int) ^ 1 = 2 := rfl
theorem iO (b : UInt8) : (b.toNat : Int) < 256 := by have := b.toNat_lt; omega
end Go.AE
