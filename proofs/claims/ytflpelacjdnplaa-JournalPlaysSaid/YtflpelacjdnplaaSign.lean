/- fit.Sign: what it comes to. -/
import Derived.Test.YtflpelacjdnplaaFitLow
namespace Go.Proofs.Ytflpelacjdnplaa
open Go.RowKit

/-- the number that the lowest h bits are, in two's complement -/
def sgn (n h : Nat) : Int := if h = 0 then 0 else if 2 ^ (h - 1) ≤ n % 2 ^ h then ((n % 2 ^ h : Nat) : Int) - 2 ^ h else ((n % 2 ^ h : Nat) : Int)

theorem sgn_eq (n h : Nat) (hh : h ≤ 64) : wrap64 (IntKind.u64.wrap ((n : Int) * 2 ^ (64 - h))) / 2 ^ (64 - h) = sgn n h := by
  have e64 : 2 ^ h * 2 ^ (64 - h) = 18446744073709551616 := by
    rw [← Nat.pow_add, show h + (64 - h) = 64 from by omega]
  have hq0 : 0 < 2 ^ (64 - h) := Nat.two_pow_pos _
  have e1 : IntKind.u64.wrap ((n : Int) * 2 ^ (64 - h)) = ((n % 2 ^ h * 2 ^ (64 - h) : Nat) : Int) := by
    have e2 : ((n : Int) * 2 ^ (64 - h)) = ((n * 2 ^ (64 - h) : Nat) : Int) := by rw [Int.natCast_mul, Int.natCast_pow]; rfl
    have e3 : n * 2 ^ (64 - h) % 18446744073709551616 = n % 2 ^ h * 2 ^ (64 - h) := by rw [← e64, Nat.mul_mod_mul_right]
    rw [e2, ← e3]
    simp [IntKind.wrap, IntKind.bits, IntKind.signed]
  have e2 : ((2 : Int) ^ (64 - h)) = ((2 ^ (64 - h) : Nat) : Int) := by rw [Int.natCast_pow]; rfl
  have e3 : ((2 : Int) ^ h) = ((2 ^ h : Nat) : Int) := by rw [Int.natCast_pow]; rfl
  rw [e1, e2]
  unfold sgn
  rw [e3]
  have hm : n % 2 ^ h < 2 ^ h := Nat.mod_lt _ (Nat.two_pow_pos _)
  generalize n % 2 ^ h = m at *
  by_cases h0 : h = 0
  · subst h0
    have : m = 0 := by simpa using hm
    subst this
    simp [wrap64]
  · rw [if_neg h0]
    have hp : 2 ^ h = 2 * 2 ^ (h - 1) := by rw [← Nat.pow_succ', show (h - 1).succ = h from by omega]
    generalize 2 ^ (64 - h) = q at *
    generalize 2 ^ (h - 1) = r at *
    rw [hp] at e64 hm ⊢
    have hrq : r * q = 9223372036854775808 := by
      have : 2 * (r * q) = 18446744073709551616 := by rw [← Nat.mul_assoc]; exact e64
      omega
    by_cases hr : r ≤ m
    · rw [if_pos hr]
      have h1 : 9223372036854775808 ≤ m * q := by rw [← hrq]; exact Nat.mul_le_mul_right q hr
      have h2 : m * q < 18446744073709551616 := by rw [← e64]; exact Nat.mul_lt_mul_of_pos_right hm hq0
      have e4 : wrap64 ((m * q : Nat) : Int) = ((m : Int) - ((2 * r : Nat) : Int)) * (q : Int) := by
        rw [Int.sub_mul, ← Int.natCast_mul, ← Int.natCast_mul, e64]
        unfold wrap64
        omega
      rw [e4, Int.mul_ediv_cancel _ (by omega)]
    · rw [if_neg hr]
      have h1 : m * q < 9223372036854775808 := by rw [← hrq]; exact Nat.mul_lt_mul_of_pos_right (by omega) hq0
      have e4 : wrap64 ((m * q : Nat) : Int) = (m : Int) * (q : Int) := by
        rw [← Int.natCast_mul]
        unfold wrap64
        omega
      rw [e4, Int.mul_ediv_cancel _ (by omega)]

theorem Sign_any (n : Nat) (b : Int) (w : World) : Calls Try.prog 62 #[.int .u64 n, .int .i64 b] w fun e w' => e = .returned (.int .i64 (sgn n (hld b))) ∧ w = w' := by
  have hl := hld_le b
  have hh := fun w => held_any b w
  generalize hld b = h at *
  have hx : IntKind.i64.wrap (64 - (h : Int)) = ((64 - h : Nat) : Int) := by rw [IntKind.wrap_i64]; omega
  go_enter Try.func62, Try.ntmps62
  go_wp2_with fail
  refine (hh _).mono ?_
  rintro e w' ⟨rfl, rfl⟩
  clear hh
  go_wp2_with fail
  go_ret
  exact ⟨ret_i64 (sgn_eq n h hl), rfl⟩
end Go.Proofs.Ytflpelacjdnplaa
