/- Bytes and numbers, in plain Lean: what is put is got again. -/
import Derived.Test.YtpjcfelknkddfaaOctRInt
namespace Go.Proofs.Ytpjcfelknkddfaa
open Go.RowKit

theorem putB_snoc (n s : Nat) : putB n (s + 1) = putB (n / 256) s ++ [((n % 256 : Nat) : Int)] := by
  induction s with
  | zero => simp [putB]
  | succ s ih =>
    rw [putB, ih, putB]
    simp only [List.cons_append, Nat.pow_succ, Nat.div_div_eq_div_mul]
    rw [Nat.mul_comm (256 ^ s)]
theorem getN_putB (n s : Nat) : getN (putB n s) = n % 256 ^ s := by
  induction s generalizing n with
  | zero => simp [putB, getN, Nat.mod_one]
  | succ s ih =>
    rw [putB_snoc, getN_snoc, ih]
    rw [Int.toNat_natCast, Nat.pow_succ, Nat.mul_comm (256 ^ s), Nat.mod_mul]
    omega
theorem put_getN (xs : List Int) (h : ∀ x ∈ xs, isB x) : putB (getN xs) xs.length = xs := by
  have H : ∀ ys : List Int, (∀ x ∈ ys, isB x) → putB (getN ys.reverse) ys.length = ys.reverse := by
    intro ys
    induction ys with
    | nil => intro _; rfl
    | cons y ys ih =>
      intro hy
      have h0 := hy y (by simp)
      unfold isB at h0
      rw [List.reverse_cons, getN_snoc, List.length_cons, putB_snoc]
      rw [show (256 * getN ys.reverse + y.toNat) / 256 = getN ys.reverse from by omega, show (256 * getN ys.reverse + y.toNat) % 256 = y.toNat from by omega, ih (fun x hx => hy x (List.mem_cons_of_mem _ hx)), Int.toNat_of_nonneg h0.1]
  have := H xs.reverse (fun x hx => h x (by simpa using hx))
  simpa using this
theorem sgn_back (n : Int) (s : Nat) (hs : 1 ≤ s ∧ s ≤ 8) (h : -(2 ^ (8 * s - 1) : Int) ≤ n ∧ n < 2 ^ (8 * s - 1)) : sgn (toU n % 256 ^ s) (8 * s) = n := by
  have e1 : (256 : Nat) ^ s = 2 ^ (8 * s) := by rw [Nat.pow_mul]
  have hp : 2 ^ (8 * s) = 2 * 2 ^ (8 * s - 1) := by rw [← Nat.pow_succ', show (8 * s - 1).succ = 8 * s from by omega]
  have e64 : 2 ^ (8 * s) * 2 ^ (64 - 8 * s) = 18446744073709551616 := by rw [← Nat.pow_add, show 8 * s + (64 - 8 * s) = 64 from by omega]
  have e2 : ((2 : Int) ^ (8 * s)) = ((2 ^ (8 * s) : Nat) : Int) := by rw [Int.natCast_pow]; rfl
  have e3 : ((2 : Int) ^ (8 * s - 1)) = ((2 ^ (8 * s - 1) : Nat) : Int) := by rw [Int.natCast_pow]; rfl
  rw [e3] at h
  have key : ((toU n % 256 ^ s : Nat) : Int) = n % ((2 ^ (8 * s) : Nat) : Int) := by
    rw [e1, Int.natCast_emod]
    unfold toU
    rw [Int.toNat_of_nonneg (Int.emod_nonneg _ (by decide))]
    exact Int.emod_emod_of_dvd _ ⟨((2 ^ (64 - 8 * s) : Nat) : Int), by rw [← Int.natCast_mul, e64]; rfl⟩
  unfold sgn
  rw [if_neg (by omega), e1, Nat.mod_mod, ← e1, e2]
  have hm : toU n % 256 ^ s < 2 ^ (8 * s) := by rw [e1]; exact Nat.mod_lt _ (Nat.two_pow_pos _)
  generalize toU n % 256 ^ s = m at *
  rw [hp] at key hm ⊢
  generalize 2 ^ (8 * s - 1) = q at *
  by_cases hn : 0 ≤ n
  · rw [Int.emod_eq_of_lt hn (by omega)] at key
    rw [if_neg (by omega)]
    omega
  · have : n % ((2 * q : Nat) : Int) = n + ((2 * q : Nat) : Int) := by
      rw [← Int.add_emod_right]
      exact Int.emod_eq_of_lt (by omega) (by omega)
    rw [this] at key
    rw [if_pos (by omega)]
    omega
theorem sgn_u (m s : Nat) (hs : 1 ≤ s ∧ s ≤ 8) (hm : m < 256 ^ s) : toU (sgn m (8 * s)) % 256 ^ s = m := by
  have e1 : (256 : Nat) ^ s = 2 ^ (8 * s) := by rw [Nat.pow_mul]
  have e64 : 2 ^ (8 * s) * 2 ^ (64 - 8 * s) = 18446744073709551616 := by rw [← Nat.pow_add, show 8 * s + (64 - 8 * s) = 64 from by omega]
  have e2 : ((2 : Int) ^ (8 * s)) = ((2 ^ (8 * s) : Nat) : Int) := by rw [Int.natCast_pow]; rfl
  have key : ((toU (sgn m (8 * s)) % 256 ^ s : Nat) : Int) = (m : Int) := by
    rw [Int.natCast_emod]
    unfold toU
    rw [Int.toNat_of_nonneg (Int.emod_nonneg _ (by decide)), e1, Int.emod_emod_of_dvd _ ⟨((2 ^ (64 - 8 * s) : Nat) : Int), by rw [← Int.natCast_mul, e64]; rfl⟩]
    rw [e1] at hm
    unfold sgn
    rw [if_neg (by omega), Nat.mod_eq_of_lt hm, e2]
    split
    · rw [Int.sub_emod_right]
      exact Int.emod_eq_of_lt (by omega) (by omega)
    · exact Int.emod_eq_of_lt (by omega) (by omega)
  exact_mod_cast key
theorem putB_mod (n s : Nat) : putB (n % 256 ^ s) s = putB n s := by
  have h1 := put_getN (putB n s) (putB_isB n s)
  rw [getN_putB, putB_length] at h1
  exact h1
end Go.Proofs.Ytpjcfelknkddfaa
