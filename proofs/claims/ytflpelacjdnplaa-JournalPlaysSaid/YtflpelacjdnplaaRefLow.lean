/- The reference's Low: what it comes to. -/
import Derived.Test.YtflpelacjdnplaaRefs
namespace Go.Proofs.Ytflpelacjdnplaa
open Go.RowKit

theorem low_step (n i : Nat) : n % 2 ^ (i + 1) = n % 2 ^ i + bitAt n i * 2 ^ i := by
  unfold bitAt
  rw [Nat.pow_succ, Nat.mod_mul, Nat.mul_comm]

set_option maxHeartbeats 1000000 in
theorem RLow_any (n : Nat) (b : Int) (w : World) (hn : n < 2 ^ 64) : Calls Try.prog 71 #[.int .u64 n, .int .i64 b] w fun e w' => e = .returned (.int .u64 (lowB n b : Nat)) ∧ w = w' := by
  have hl := hld_le b
  have hh := fun w => RHeld_64 b w
  have hdef : lowB n b = n % 2 ^ hld b := rfl
  rw [hdef]
  generalize hld b = h at *
  go_enter Try.func71, Try.ntmps71
  go_wp2_with fail
  go_loop [5, 6] (fun o i => ∃ j : Nat, j ≤ h ∧ i = .int .i64 j ∧ o = .int .u64 ((n % 2 ^ j : Nat) : Int)) (fun _ i => h - (intOf i).toNat)
  case atStart => exact ⟨0, by omega, rfl, by simp [Nat.mod_one]⟩
  case round =>
    obtain ⟨j, hj, rfl, rfl⟩ := hrel
    have hs := low_step n j
    have hlt : n % 2 ^ (j + 1) ≤ n := Nat.mod_le _ _
    have hb := bitAt_le n j
    have HS := Lib.hid hs
    by_cases hjh : j < h
    · have hbt := fun w => Bit_any n j w hn (by omega)
      have hpw := fun w => Power_any j w (by omega)
      have hp2 : pow2 j = 2 ^ j := rfl
      obtain ⟨q, hq⟩ : ∃ q, pow2 j = q := ⟨_, rfl⟩
      obtain ⟨o, ho⟩ : ∃ o, n % 2 ^ j = o := ⟨_, rfl⟩
      obtain ⟨bt, hbt2⟩ : ∃ x, bitAt n j = x := ⟨_, rfl⟩
      obtain ⟨t, ht⟩ : ∃ t, bt * q = t := ⟨_, rfl⟩
      rw [hbt2, ho, ← hp2, hq, ht] at hs
      rw [hbt2] at hbt hb
      rw [hq] at hpw
      rw [ho]
      have hm : IntKind.u64.wrap ((bt : Int) * (q : Int)) = (t : Int) := by
        rw [← Int.natCast_mul, ht]
        have : t < 18446744073709551616 := by omega
        simp [IntKind.wrap, IntKind.bits, IntKind.signed]
        omega
      have htot : o + t < 18446744073709551616 := by omega
      have HT : Hid (n % 2 ^ (j + 1) = o + t) := Lib.hid hs
      clear hs HS hp2 hq ho hbt2 ht hlt
      go_wp2_with fail
      refine (hh _).mono ?_
      rintro e w1 ⟨rfl, rfl⟩
      go_wp2_with fail
      refine (hbt _).mono ?_
      rintro e w1 ⟨rfl, rfl⟩
      go_wp2_with fail
      refine (hpw _).mono ?_
      rintro e w1 ⟨rfl, rfl⟩
      go_wp2_with fail
      go_round
      case rel => exact ⟨j + 1, by omega, by go_num, by rw [HT.out]; simp⟩
      case measure => simp [intOf]; omega
    · obtain rfl : j = h := by omega
      clear hs
      generalize hq : n % 2 ^ j = q at *
      have HQ := Lib.hid hq
      clear hq
      go_wp2_with fail
      refine (hh _).mono ?_
      rintro e w1 ⟨rfl, rfl⟩
      go_wp2_with fail
      go_ret
      exact ⟨ret_int (by rw [HQ.out]), rfl⟩
end Go.Proofs.Ytflpelacjdnplaa
