/- Numbers: masks of whole numbers of 64 bits, sums that do not wrap. No program in sight. -/
import Derived.WalkKit
namespace Go.Proofs.YtpjcfelknkddfaaDoor
open Go.RowKit

/-- a whole number of 64 bits -/
def wfI (x : Int) : Prop := -9223372036854775808 ≤ x ∧ x < 9223372036854775808

theorem i64_mask (m : Int) (j : Nat) (hj : j < 64) : bits .and .i64 m (2 ^ j - 1) = m % 2 ^ j := by
  have hb : ((2 : Int) ^ j - 1) = ((2 ^ j - 1 : Nat) : Int) := by
    have h1 : 1 ≤ 2 ^ j := Nat.one_le_two_pow
    have h2 : ((2 ^ j - 1 : Nat) : Int) = ((2 ^ j : Nat) : Int) - 1 := by omega
    rw [h2, Int.natCast_pow]
    rfl
  have hlt : 2 ^ j - 1 < 2 ^ 64 := by
    have : 2 ^ j < 2 ^ 64 := Nat.pow_lt_pow_right (by decide) hj
    omega
  have h2 : (BitVec.ofInt 64 (((2 ^ j - 1 : Nat) : Int))).toNat = 2 ^ j - 1 := by
    rw [BitVec.toNat_ofInt]
    have : ((2 ^ j - 1 : Nat) : Int) % ((2 ^ 64 : Nat) : Int) = ((2 ^ j - 1 : Nat) : Int) := Int.emod_eq_of_lt (by omega) (by exact_mod_cast hlt)
    rw [this]
    rfl
  rw [hb]
  show IntKind.i64.wrap ((BitVec.ofInt 64 m &&& BitVec.ofInt 64 ((2 ^ j - 1 : Nat) : Int)).toNat : Int) = _
  rw [BitVec.toNat_and, h2, Nat.and_two_pow_sub_one_eq_mod]
  rw [BitVec.toNat_ofInt]
  have hd : ((2 : Int) ^ j) ∣ ((2 ^ 64 : Nat) : Int) := by
    have : ((2 ^ 64 : Nat) : Int) = (2 : Int) ^ j * 2 ^ (64 - j) := by
      rw [← Int.pow_add]
      have : j + (64 - j) = 64 := by omega
      rw [this]
      rfl
    exact ⟨_, this⟩
  have hnn : 0 ≤ m % ((2 ^ 64 : Nat) : Int) := Int.emod_nonneg _ (by decide)
  have hc : (((m % ((2 ^ 64 : Nat) : Int)).toNat % 2 ^ j : Nat) : Int) = m % 2 ^ j := by
    rw [Int.natCast_emod, Int.toNat_of_nonneg hnn, Int.natCast_pow]
    exact Int.emod_emod_of_dvd m hd
  rw [hc]
  have h0 : 0 ≤ m % 2 ^ j := Int.emod_nonneg _ (by have : (0 : Int) < 2 ^ j := Int.pow_pos (by decide); omega)
  have h1 : m % 2 ^ j < 2 ^ j := Int.emod_lt_of_pos _ (Int.pow_pos (by decide))
  have h3 : (2 : Int) ^ j ≤ 2 ^ 63 := by exact_mod_cast Nat.pow_le_pow_right (by decide) (by omega)
  rw [IntKind.wrap_i64]
  omega

/-- a count of bits within its bounds -/
def hld (b : Int) : Nat := (min (max b 0) 64).toNat
theorem hld_le (b : Int) : hld b ≤ 64 := by unfold hld; omega

/-- the lowest bits -/
def lowB (n : Nat) (b : Int) : Nat := n % 2 ^ hld b
/-- a bit of a number -/
def bitAt (n i : Nat) : Nat := n / 2 ^ i % 2
/-- a power of two -/
def pow2 (i : Nat) : Nat := 2 ^ i
theorem bitAt_test (n i : Nat) : (bitAt n i == 1) = n.testBit i := by
  rw [Nat.testBit_eq_decide_div_mod_eq]
  unfold bitAt
  rw [Bool.eq_iff_iff]
  simp
theorem bitAt_le (n i : Nat) : bitAt n i ≤ 1 := by unfold bitAt; omega
theorem u64_low (n h : Nat) (hn : n < 2 ^ 64) (hh : h ≤ 64) : bits .andNot .u64 (n : Int) (IntKind.u64.wrap (18446744073709551615 * 2 ^ h)) = ((n % 2 ^ h : Nat) : Int) := by
  have p1 : 2 ^ h ≤ 2 ^ 64 := Nat.pow_le_pow_right (by decide) hh
  have p2 : 0 < 2 ^ h := Nat.two_pow_pos h
  have e2 : IntKind.u64.wrap (18446744073709551615 * 2 ^ h) = ((2 ^ 64 - 2 ^ h : Nat) : Int) := by
    rw [show IntKind.u64.wrap (18446744073709551615 * 2 ^ h) = (18446744073709551615 * 2 ^ h : Int) % 18446744073709551616 from by simp [IntKind.wrap, IntKind.bits, IntKind.signed]]
    have e3 : (18446744073709551615 * 2 ^ h : Int) = ((2 ^ 64 - 2 ^ h : Nat) : Int) + 18446744073709551616 * ((2 : Int) ^ h - 1) := by
      have : ((2 ^ h : Nat) : Int) = (2 : Int) ^ h := Int.natCast_pow 2 h
      have q : ((2 ^ 64 - 2 ^ h : Nat) : Int) = 18446744073709551616 - ((2 ^ h : Nat) : Int) := by omega
      rw [q, this]
      omega
    rw [e3, Int.add_mul_emod_self_left]
    exact Int.emod_eq_of_lt (by omega) (by omega)
  rw [e2, u64_andNot_nat n _ hn (by omega)]
  have e4 : 18446744073709551615 - (2 ^ 64 - 2 ^ h) = 2 ^ h - 1 := by omega
  rw [e4, Nat.and_two_pow_sub_one_eq_mod]
end Go.Proofs.YtpjcfelknkddfaaDoor
