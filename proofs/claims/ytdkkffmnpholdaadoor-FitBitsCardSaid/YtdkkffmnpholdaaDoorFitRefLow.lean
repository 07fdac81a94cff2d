/- The references' helpers of chapter 1 with no bytes in sight: Held, Low, Sign. -/
import Derived.Test.YtdkkffmnpholdaaDoorRefBit
import Derived.Test.YtdkkffmnpholdaaDoorFitPlain
namespace Go.Proofs.YtdkkffmnpholdaaDoor
open Go.RowKit

theorem RHeld_any (n lo hi : Int) (w : World) (hlh : lo ≤ hi) : Calls Tryd.prog 33 #[.int .i64 n, .int .i64 lo, .int .i64 hi] w fun e w' => e = .returned (.int .i64 (max lo (min n hi))) ∧ w = w' := by
  by_cases h1 : hi < n
  · go_enter Tryd.func33, Tryd.ntmps33
    go_wp2
    go_ret
    exact ⟨ret_i64 (by omega), rfl⟩
  · by_cases h2 : n < lo
    · go_enter Tryd.func33, Tryd.ntmps33
      go_wp2
      go_ret
      exact ⟨ret_i64 (by omega), rfl⟩
    · go_enter Tryd.func33, Tryd.ntmps33
      go_wp2
      go_ret
      exact ⟨ret_i64 (by omega), rfl⟩
theorem RHeld_64 (n : Int) (w : World) : Calls Tryd.prog 33 #[.int .i64 n, .int .i64 0, .int .i64 64] w fun e w' => e = .returned (.int .i64 (hld n)) ∧ w = w' := by
  have e : ((hld n : Nat) : Int) = max 0 (min n 64) := by unfold hld; omega
  rw [e]
  exact RHeld_any n 0 64 w (by omega)

theorem low_step (n i : Nat) : n % 2 ^ (i + 1) = n % 2 ^ i + bitAt n i * 2 ^ i := by
  unfold bitAt
  rw [Nat.pow_succ, Nat.mod_mul, Nat.mul_comm]

set_option maxHeartbeats 1000000 in
theorem RLow_any (n : Nat) (b : Int) (w : World) (hn : n < 2 ^ 64) : Calls Tryd.prog 19 #[.int .u64 n, .int .i64 b] w fun e w' => e = .returned (.int .u64 (lowB n b : Nat)) ∧ w = w' := by
  have hl := hld_le b
  have hh := fun w => RHeld_64 b w
  have hdef : lowB n b = n % 2 ^ hld b := rfl
  rw [hdef]
  generalize hld b = h at *
  go_enter Tryd.func19, Tryd.ntmps19
  go_wp2_with fail
  go_loop [5, 6] (fun o i => ∃ j : Nat, j ≤ h ∧ i = .int .i64 j ∧ o = .int .u64 ((n % 2 ^ j : Nat) : Int)) (fun _ i => h - (intOf i).toNat)
  case atStart => exact ⟨0, by omega, rfl, by simp [Nat.mod_one]⟩
  case round =>
    obtain ⟨j, hj, rfl, rfl⟩ := hrel
    have hs := low_step n j
    have hlt : n % 2 ^ (j + 1) ≤ n := Nat.mod_le _ _
    have hb := bitAt_le n j
    have HS := Lib.hid hs
    by_cases hjh : j < h
    · have hbt := fun w => Bit_any n j w hn (by omega)
      have hpw := fun w => Power_any j w (by omega)
      have hp2 : pow2 j = 2 ^ j := rfl
      obtain ⟨q, hq⟩ : ∃ q, pow2 j = q := ⟨_, rfl⟩
      obtain ⟨o, ho⟩ : ∃ o, n % 2 ^ j = o := ⟨_, rfl⟩
      obtain ⟨bt, hbt2⟩ : ∃ x, bitAt n j = x := ⟨_, rfl⟩
      obtain ⟨t, ht⟩ : ∃ t, bt * q = t := ⟨_, rfl⟩
      rw [hbt2, ho, ← hp2, hq, ht] at hs
      rw [hbt2] at hbt hb
      rw [hq] at hpw
      rw [ho]
      have hm : IntKind.u64.wrap ((bt : Int) * (q : Int)) = (t : Int) := by
        rw [← Int.natCast_mul, ht]
        have : t < 18446744073709551616 := by omega
        simp [IntKind.wrap, IntKind.bits, IntKind.signed]
        omega
      have htot : o + t < 18446744073709551616 := by omega
      have HT : Hid (n % 2 ^ (j + 1) = o + t) := Lib.hid hs
      clear hs HS hp2 hq ho hbt2 ht hlt
      go_wp2_with fail
      refine (hh _).mono ?_
      rintro e w1 ⟨rfl, rfl⟩
      go_wp2_with fail
      refine (hbt _).mono ?_
      rintro e w1 ⟨rfl, rfl⟩
      go_wp2_with fail
      refine (hpw _).mono ?_
      rintro e w1 ⟨rfl, rfl⟩
      go_wp2_with fail
      go_round
      case rel => exact ⟨j + 1, by omega, by go_num, by rw [HT.out]; simp⟩
      case measure => simp [intOf]; omega
    · obtain rfl : j = h := by omega
      clear hs
      generalize hq : n % 2 ^ j = q at *
      have HQ := Lib.hid hq
      clear hq
      go_wp2_with fail
      refine (hh _).mono ?_
      rintro e w1 ⟨rfl, rfl⟩
      go_wp2_with fail
      go_ret
      exact ⟨ret_int (by rw [HQ.out]), rfl⟩
theorem sgn_split (n r : Nat) : sgn n (r + 1) = ((n % 2 ^ r : Nat) : Int) - ((bitAt n r * 2 ^ r : Nat) : Int) := by
  have h1 := low_step n r
  have h2 := bitAt_le n r
  have h3 : n % 2 ^ r < 2 ^ r := Nat.mod_lt _ (Nat.two_pow_pos r)
  have h4 : (2 : Nat) ^ (r + 1) = 2 ^ r + 2 ^ r := by rw [Nat.pow_succ]; omega
  unfold sgn
  rw [if_neg (by omega), Nat.add_sub_cancel, h1]
  have h5 : ((2 : Int) ^ (r + 1)) = ((2 ^ (r + 1) : Nat) : Int) := by simp
  rw [h5, h4]
  generalize (2 : Nat) ^ r = p at *
  have h6 : bitAt n r = 0 ∨ bitAt n r = 1 := by omega
  rcases h6 with h6 | h6 <;> rw [h6] <;> split <;> omega

set_option maxHeartbeats 2000000 in
theorem RSign_any (n : Nat) (b : Int) (w : World) (hn : n < 2 ^ 64) : Calls Tryd.prog 21 #[.int .u64 n, .int .i64 b] w fun e w' => e = .returned (.int .i64 (sgn n (hld b))) ∧ w = w' := by
  have hl := hld_le b
  have hh := fun w => RHeld_64 b w
  generalize hld b = h at *
  cases h with
  | zero =>
    go_enter Tryd.func21, Tryd.ntmps21
    go_wp2_with fail
    refine (hh _).mono ?_
    rintro e w1 ⟨rfl, rfl⟩
    go_wp2_with fail
    go_ret
    exact ⟨rfl, rfl⟩
  | succ r =>
    have hlow := fun w => RLow_any n ((r : Int)) w hn
    have hlo : lowB n (r : Int) = n % 2 ^ r := by
      unfold lowB
      rw [show hld (r : Int) = r from by unfold hld; omega]
    rw [hlo] at hlow
    have hbt := fun w => Bit_any n r w hn (by omega)
    have hpw := fun w => Power_any r w (by omega)
    have hp2 : pow2 r = 2 ^ r := rfl
    have hb := bitAt_le n r
    have hsg := sgn_split n r
    have hlt : n % 2 ^ r < 2 ^ r := Nat.mod_lt _ (Nat.two_pow_pos r)
    have hq63 : 2 ^ r ≤ 2 ^ 63 := Nat.pow_le_pow_right (by omega) (by omega)
    have hr0 : r = 0 → 2 ^ r = 1 := fun h => by simp [h]
    have hr1 : r ≠ 0 → 2 ^ r % 2 = 0 := fun h => by
      obtain ⟨k, rfl⟩ : ∃ k, r = k + 1 := ⟨r - 1, by omega⟩
      rw [Nat.pow_succ, Nat.mul_mod_left]
    rw [hp2] at hpw
    clear hp2 hlo
    generalize sgn n (r + 1) = v at *
    generalize n % 2 ^ r = l at *
    generalize 2 ^ r = q at *
    rcases (by omega : bitAt n r = 0 ∨ bitAt n r = 1) with h6 | h6
    · rw [h6] at hbt hsg
      obtain rfl : v = (l : Int) := by simpa using hsg
      clear hsg hb h6 hr0 hr1
      have HH := Lib.hid (And.intro hh (And.intro hlow hbt))
      clear hh hlow hbt hpw
      go_enter Tryd.func21, Tryd.ntmps21
      go_wp2_with fail
      refine (HH.out.1 _).mono ?_
      rintro e w1 ⟨rfl, rfl⟩
      go_wp2_with fail
      refine (HH.out.2.1 _).mono ?_
      rintro e w1 ⟨rfl, rfl⟩
      go_wp2_with fail
      refine (HH.out.2.2 _).mono ?_
      rintro e w1 ⟨rfl, rfl⟩
      go_wp2_with fail
      go_ret
      exact ⟨rfl, rfl⟩
    · rw [h6] at hbt hsg
      have hv : v = (l : Int) - (q : Int) := by rw [hsg]; omega
      have HV := Lib.hid (And.intro hv (And.intro hr0 hr1))
      clear hsg hb h6 hv hr0 hr1
      have HH := Lib.hid (And.intro hh (And.intro hlow (And.intro hbt hpw)))
      clear hh hlow hbt hpw
      go_enter Tryd.func21, Tryd.ntmps21
      go_wp2_with fail
      refine (HH.out.1 _).mono ?_
      rintro e w1 ⟨rfl, rfl⟩
      go_wp2_with fail
      refine (HH.out.2.1 _).mono ?_
      rintro e w1 ⟨rfl, rfl⟩
      go_wp2_with fail
      refine (HH.out.2.2.1 _).mono ?_
      rintro e w1 ⟨rfl, rfl⟩
      go_wp2_with fail
      go_loop [5, 6] (fun o k => (k = .int .i64 0 ∧ o = .int .i64 l) ∨ (k = .int .i64 1 ∧ o = .int .i64 ((l : Int) - (q / 2 : Nat))) ∨ (k = .int .i64 2 ∧ o = .int .i64 ((l : Int) - (q / 2 : Nat) - (q / 2 : Nat)))) (fun _ k => 2 - (intOf k).toNat)
      case atStart => exact .inl ⟨rfl, rfl⟩
      case round =>
        obtain ⟨p, hp⟩ : ∃ p, q / 2 = p := ⟨_, rfl⟩
        have hpq : p ≤ 2 ^ 62 := by omega
        have HPQ := Lib.hid hp
        have hqp : ((q : Int) / 2) = (p : Int) := by omega
        rw [hp] at hrel
        clear hp
        rcases hrel with ⟨rfl, rfl⟩ | ⟨rfl, rfl⟩ | ⟨rfl, rfl⟩
        · go_wp2_with fail
          refine (HH.out.2.2.2 _).mono ?_
          rintro e w1 ⟨rfl, rfl⟩
          go_wp2_with fail
          go_round
          case rel => exact .inr (.inl ⟨rfl, by rw [HPQ.out]⟩)
          case measure => simp [intOf]
        · go_wp2_with fail
          refine (HH.out.2.2.2 _).mono ?_
          rintro e w1 ⟨rfl, rfl⟩
          go_wp2_with fail
          go_round
          case rel => exact .inr (.inr ⟨rfl, by rw [HPQ.out]⟩)
          case measure => simp [intOf]
        · by_cases hr : r = 0
          · have hq1 := HV.out.2.1 hr
            subst hr
            go_wp2_with fail
            go_ret
            have := HV.out.1
            exact ⟨by rw [this]; simp; omega, rfl⟩
          · have hq2 := HV.out.2.2 hr
            go_wp2_with fail
            go_ret
            have := HV.out.1
            have := HPQ.out
            exact ⟨by rw [HV.out.1]; simp; omega, rfl⟩

end Go.Proofs.YtdkkffmnpholdaaDoor
