/- The references' Bit and Power: what each comes to. -/
import Derived.Test.YtpjcfelknkddfaaDoorProg
import Derived.Test.YtpjcfelknkddfaaDoorMem
import Derived.Test.YtpjcfelknkddfaaDoorNum
import Derived.Deep.LoopGhost
namespace Go.Proofs.YtpjcfelknkddfaaDoor
open Go.RowKit

theorem Bit_any (n i : Nat) (w : World) (hn : n < 2 ^ 64) (hi : i ≤ 1000000) : Calls Tryd.prog 33 #[.int .u64 n, .int .i64 i] w fun e w' => e = .returned (.int .u64 (bitAt n i : Int)) ∧ w = w' := by
  go_enter Tryd.func33, Tryd.ntmps33
  go_wp2
  go_loop [0, 5] (fun m k => ∃ j : Nat, j ≤ i ∧ k = .int .i64 j ∧ m = .int .u64 ((n / 2 ^ j : Nat) : Int)) (fun _ k => i - (intOf k).toNat)
  case atStart => exact ⟨0, by omega, rfl, by simp⟩
  case round =>
    obtain ⟨j, hj, rfl, rfl⟩ := hrel
    have hle : n / 2 ^ j < 18446744073709551616 := Nat.lt_of_le_of_lt (Nat.div_le_self _ _) hn
    have hs : n / 2 ^ (j + 1) = n / 2 ^ j / 2 := by rw [Nat.pow_succ, Nat.div_div_eq_div_mul]
    have HS := Lib.hid hs
    clear hs
    generalize hq : n / 2 ^ j = q at *
    have HQ := Lib.hid hq
    clear hq
    by_cases hlt : j < i
    · go_wp2
      go_round
      case rel => exact ⟨j + 1, by omega, by go_num, by rw [HS.out]; simp⟩
      case measure => simp [intOf]; omega
    · obtain rfl : j = i := by omega
      go_wp2
      go_ret
      exact ⟨ret_int (by unfold bitAt; rw [HQ.out]; rfl), rfl⟩

theorem Power_any (i : Nat) (w : World) (hi : i ≤ 63) : Calls Tryd.prog 27 #[.int .i64 i] w fun e w' => e = .returned (.int .u64 (pow2 i : Int)) ∧ w = w' := by
  go_enter Tryd.func27, Tryd.ntmps27
  go_wp2
  go_loop [3, 4] (fun m k => ∃ j : Nat, j ≤ i ∧ k = .int .i64 j ∧ m = .int .u64 ((2 ^ j : Nat) : Int)) (fun _ k => i - (intOf k).toNat)
  case atStart => exact ⟨0, by omega, rfl, by simp⟩
  case round =>
    obtain ⟨j, hj, rfl, rfl⟩ := hrel
    have hs : 2 ^ (j + 1) = 2 * 2 ^ j := by rw [Nat.pow_succ, Nat.mul_comm]
    have HS := Lib.hid hs
    by_cases hlt : j < i
    · have hle : 2 * 2 ^ j < 18446744073709551616 := by rw [← hs]; exact Nat.pow_lt_pow_right (by decide) (by omega : j + 1 < 64)
      clear hs
      generalize hq : 2 ^ j = q at *
      clear hq
      go_wp2
      go_round
      case rel => exact ⟨j + 1, by omega, by go_num, by rw [HS.out]; simp⟩
      case measure => simp [intOf]; omega
    · obtain rfl : j = i := by omega
      clear hs
      generalize hq : 2 ^ j = q at *
      have HQ := Lib.hid hq
      clear hq
      go_wp2
      go_ret
      exact ⟨ret_int (by unfold pow2; rw [HQ.out]), rfl⟩
end Go.Proofs.YtpjcfelknkddfaaDoor
