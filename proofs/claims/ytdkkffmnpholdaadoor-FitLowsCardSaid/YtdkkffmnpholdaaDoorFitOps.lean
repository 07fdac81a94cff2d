/- fit's small functions: what each comes to. -/
import Derived.Test.YtdkkffmnpholdaaDoorFitBits
import Derived.Test.YtdkkffmnpholdaaDoorSign
namespace Go.Proofs.YtdkkffmnpholdaaDoor
open Go.RowKit

theorem wrp_i8 (n : Int) : IntKind.i8.wrap n = (n + 128) % 256 - 128 := by
  simp [IntKind.wrap, IntKind.bits, IntKind.signed]
  try (split <;> omega)
theorem back_i8 (n : Int) (h : ¬ (-128 ≤ n ∧ n ≤ 127)) : (wrap64 (IntKind.i8.wrap n) == n) = false := by
  have b : -128 ≤ IntKind.i8.wrap n ∧ IntKind.i8.wrap n ≤ 127 := by rw [wrp_i8]; omega
  generalize IntKind.i8.wrap n = v at *
  have e : wrap64 v = v := by unfold wrap64; omega
  rw [e]
  simp
  omega
theorem To_i8 (n : Int) (w : World) : Calls Tryd.prog 10 #[.int .i64 n] w fun e w' => e = .returned (.tuple #[.int .i8 (if -128 ≤ n ∧ n ≤ 127 then n else 0), .bool (decide (-128 ≤ n ∧ n ≤ 127))]) ∧ w = w' := by
  by_cases h : -128 ≤ n ∧ n ≤ 127
  · rw [if_pos h, decide_eq_true h]
    obtain ⟨h1, h2⟩ := h
    go_enter Tryd.func10, Tryd.ntmps10
    go_wp2_with fail
    go_ret2
    exact ⟨rfl, rfl⟩
  · rw [if_neg h, decide_eq_false h]
    have hb := back_i8 n h
    have hb2 : True := trivial
    have hc : n < -128 ∨ 127 < n := by omega
    clear h
    rcases hc with hc | hc
    · go_enter Tryd.func10, Tryd.ntmps10
      go_wp2_with fail
      go_ret2
      exact ⟨rfl, rfl⟩
    · go_enter Tryd.func10, Tryd.ntmps10
      go_wp2_with fail
      go_ret2
      exact ⟨rfl, rfl⟩

theorem wrp_i16 (n : Int) : IntKind.i16.wrap n = (n + 32768) % 65536 - 32768 := by
  simp [IntKind.wrap, IntKind.bits, IntKind.signed]
  try (split <;> omega)
theorem back_i16 (n : Int) (h : ¬ (-32768 ≤ n ∧ n ≤ 32767)) : (wrap64 (IntKind.i16.wrap n) == n) = false := by
  have b : -32768 ≤ IntKind.i16.wrap n ∧ IntKind.i16.wrap n ≤ 32767 := by rw [wrp_i16]; omega
  generalize IntKind.i16.wrap n = v at *
  have e : wrap64 v = v := by unfold wrap64; omega
  rw [e]
  simp
  omega
theorem To_i16 (n : Int) (w : World) : Calls Tryd.prog 11 #[.int .i64 n] w fun e w' => e = .returned (.tuple #[.int .i16 (if -32768 ≤ n ∧ n ≤ 32767 then n else 0), .bool (decide (-32768 ≤ n ∧ n ≤ 32767))]) ∧ w = w' := by
  by_cases h : -32768 ≤ n ∧ n ≤ 32767
  · rw [if_pos h, decide_eq_true h]
    obtain ⟨h1, h2⟩ := h
    go_enter Tryd.func11, Tryd.ntmps11
    go_wp2_with fail
    go_ret2
    exact ⟨rfl, rfl⟩
  · rw [if_neg h, decide_eq_false h]
    have hb := back_i16 n h
    have hb2 : True := trivial
    have hc : n < -32768 ∨ 32767 < n := by omega
    clear h
    rcases hc with hc | hc
    · go_enter Tryd.func11, Tryd.ntmps11
      go_wp2_with fail
      go_ret2
      exact ⟨rfl, rfl⟩
    · go_enter Tryd.func11, Tryd.ntmps11
      go_wp2_with fail
      go_ret2
      exact ⟨rfl, rfl⟩

theorem wrp_i32 (n : Int) : IntKind.i32.wrap n = (n + 2147483648) % 4294967296 - 2147483648 := by
  simp [IntKind.wrap, IntKind.bits, IntKind.signed]
  try (split <;> omega)
theorem back_i32 (n : Int) (h : ¬ (-2147483648 ≤ n ∧ n ≤ 2147483647)) : (wrap64 (IntKind.i32.wrap n) == n) = false := by
  have b : -2147483648 ≤ IntKind.i32.wrap n ∧ IntKind.i32.wrap n ≤ 2147483647 := by rw [wrp_i32]; omega
  generalize IntKind.i32.wrap n = v at *
  have e : wrap64 v = v := by unfold wrap64; omega
  rw [e]
  simp
  omega
theorem To_i32 (n : Int) (w : World) : Calls Tryd.prog 12 #[.int .i64 n] w fun e w' => e = .returned (.tuple #[.int .i32 (if -2147483648 ≤ n ∧ n ≤ 2147483647 then n else 0), .bool (decide (-2147483648 ≤ n ∧ n ≤ 2147483647))]) ∧ w = w' := by
  by_cases h : -2147483648 ≤ n ∧ n ≤ 2147483647
  · rw [if_pos h, decide_eq_true h]
    obtain ⟨h1, h2⟩ := h
    go_enter Tryd.func12, Tryd.ntmps12
    go_wp2_with fail
    go_ret2
    exact ⟨rfl, rfl⟩
  · rw [if_neg h, decide_eq_false h]
    have hb := back_i32 n h
    have hb2 : (wrap64 (wrap32 n) == n) = false := by
      have e1 : IntKind.i32.wrap n = wrap32 n := by rw [wrp_i32]; unfold wrap32; omega
      rw [e1] at hb
      exact hb
    have hc : n < -2147483648 ∨ 2147483647 < n := by omega
    clear h
    rcases hc with hc | hc
    · go_enter Tryd.func12, Tryd.ntmps12
      go_wp2_with fail
      go_ret2
      exact ⟨rfl, rfl⟩
    · go_enter Tryd.func12, Tryd.ntmps12
      go_wp2_with fail
      go_ret2
      exact ⟨rfl, rfl⟩

theorem wrp_u8 (n : Int) : IntKind.u8.wrap n = n % 256 := by
  simp [IntKind.wrap, IntKind.bits, IntKind.signed]

theorem back_u8 (n : Int) (h : ¬ (0 ≤ n ∧ n ≤ 255)) : (wrap64 (IntKind.u8.wrap n) == n) = false := by
  have b : 0 ≤ IntKind.u8.wrap n ∧ IntKind.u8.wrap n ≤ 255 := by rw [wrp_u8]; omega
  generalize IntKind.u8.wrap n = v at *
  have e : wrap64 v = v := by unfold wrap64; omega
  rw [e]
  simp
  omega
theorem To_u8 (n : Int) (w : World) : Calls Tryd.prog 13 #[.int .i64 n] w fun e w' => e = .returned (.tuple #[.int .u8 (if 0 ≤ n ∧ n ≤ 255 then n else 0), .bool (decide (0 ≤ n ∧ n ≤ 255))]) ∧ w = w' := by
  by_cases h : 0 ≤ n ∧ n ≤ 255
  · rw [if_pos h, decide_eq_true h]
    obtain ⟨h1, h2⟩ := h
    go_enter Tryd.func13, Tryd.ntmps13
    go_wp2_with fail
    go_ret2
    exact ⟨rfl, rfl⟩
  · rw [if_neg h, decide_eq_false h]
    have hb := back_u8 n h
    have hb2 : (n % 256 == n) = false := by simp; omega
    have hc : n < 0 ∨ 255 < n := by omega
    clear h
    rcases hc with hc | hc
    · go_enter Tryd.func13, Tryd.ntmps13
      go_wp2_with fail
      go_ret2
      exact ⟨rfl, rfl⟩
    · go_enter Tryd.func13, Tryd.ntmps13
      go_wp2_with fail
      go_ret2
      exact ⟨rfl, rfl⟩

theorem wrp_u16 (n : Int) : IntKind.u16.wrap n = n % 65536 := by
  simp [IntKind.wrap, IntKind.bits, IntKind.signed]

theorem back_u16 (n : Int) (h : ¬ (0 ≤ n ∧ n ≤ 65535)) : (wrap64 (IntKind.u16.wrap n) == n) = false := by
  have b : 0 ≤ IntKind.u16.wrap n ∧ IntKind.u16.wrap n ≤ 65535 := by rw [wrp_u16]; omega
  generalize IntKind.u16.wrap n = v at *
  have e : wrap64 v = v := by unfold wrap64; omega
  rw [e]
  simp
  omega
theorem To_u16 (n : Int) (w : World) : Calls Tryd.prog 14 #[.int .i64 n] w fun e w' => e = .returned (.tuple #[.int .u16 (if 0 ≤ n ∧ n ≤ 65535 then n else 0), .bool (decide (0 ≤ n ∧ n ≤ 65535))]) ∧ w = w' := by
  by_cases h : 0 ≤ n ∧ n ≤ 65535
  · rw [if_pos h, decide_eq_true h]
    obtain ⟨h1, h2⟩ := h
    go_enter Tryd.func14, Tryd.ntmps14
    go_wp2_with fail
    go_ret2
    exact ⟨rfl, rfl⟩
  · rw [if_neg h, decide_eq_false h]
    have hb := back_u16 n h
    have hb2 : True := trivial
    have hc : n < 0 ∨ 65535 < n := by omega
    clear h
    rcases hc with hc | hc
    · go_enter Tryd.func14, Tryd.ntmps14
      go_wp2_with fail
      go_ret2
      exact ⟨rfl, rfl⟩
    · go_enter Tryd.func14, Tryd.ntmps14
      go_wp2_with fail
      go_ret2
      exact ⟨rfl, rfl⟩

theorem wrp_u32 (n : Int) : IntKind.u32.wrap n = n % 4294967296 := by
  simp [IntKind.wrap, IntKind.bits, IntKind.signed]

theorem back_u32 (n : Int) (h : ¬ (0 ≤ n ∧ n ≤ 4294967295)) : (wrap64 (IntKind.u32.wrap n) == n) = false := by
  have b : 0 ≤ IntKind.u32.wrap n ∧ IntKind.u32.wrap n ≤ 4294967295 := by rw [wrp_u32]; omega
  generalize IntKind.u32.wrap n = v at *
  have e : wrap64 v = v := by unfold wrap64; omega
  rw [e]
  simp
  omega
theorem To_u32 (n : Int) (w : World) : Calls Tryd.prog 15 #[.int .i64 n] w fun e w' => e = .returned (.tuple #[.int .u32 (if 0 ≤ n ∧ n ≤ 4294967295 then n else 0), .bool (decide (0 ≤ n ∧ n ≤ 4294967295))]) ∧ w = w' := by
  by_cases h : 0 ≤ n ∧ n ≤ 4294967295
  · rw [if_pos h, decide_eq_true h]
    obtain ⟨h1, h2⟩ := h
    go_enter Tryd.func15, Tryd.ntmps15
    go_wp2_with fail
    go_ret2
    exact ⟨rfl, rfl⟩
  · rw [if_neg h, decide_eq_false h]
    have hb := back_u32 n h
    have hb2 : (n % 4294967296 == n) = false := by simp; omega
    have hc : n < 0 ∨ 4294967295 < n := by omega
    clear h
    rcases hc with hc | hc
    · go_enter Tryd.func15, Tryd.ntmps15
      go_wp2_with fail
      go_ret2
      exact ⟨rfl, rfl⟩
    · go_enter Tryd.func15, Tryd.ntmps15
      go_wp2_with fail
      go_ret2
      exact ⟨rfl, rfl⟩

theorem Halves_any (n : Nat) (hn : n < 18446744073709551616) (w : World) : Calls Tryd.prog 28 #[.int .u64 n] w fun e w' => e = .returned (.tuple #[.int .u32 (n / 4294967296 : Nat), .int .u32 (n % 4294967296 : Nat)]) ∧ w = w' := by
  go_enter Tryd.func28, Tryd.ntmps28
  go_wp2_with fail
  refine bodyPost_ret (v := .tuple #[.int .u32 (n / 4294967296 : Nat), .int .u32 (n % 4294967296 : Nat)]) (by simp [results, Tryd.results28, go_sem]) rfl ⟨rfl, rfl⟩
theorem Join_any (h l : Nat) (hh : h < 4294967296) (hl : l < 4294967296) (w : World) : Calls Tryd.prog 29 #[.int .u32 h, .int .u32 l] w fun e w' => e = .returned (.int .u64 (h * 4294967296 + l : Nat)) ∧ w = w' := by
  have e : bits BinOp.or IntKind.u64 ((h : Int) * 4294967296) (l : Int) = ((h * 4294967296 + l : Nat) : Int) := by
    have e1 : (h : Int) * 4294967296 = ((h * 4294967296 : Nat) : Int) := by rw [Int.natCast_mul]; rfl
    rw [e1, bits_or_u64_nat _ l (by omega) (by omega)]
    have := Nat.two_pow_add_eq_or_of_lt (i := 32) hl h
    rw [Nat.mul_comm h, show (4294967296 : Nat) = 2 ^ 32 from rfl, ← this]
  go_enter Tryd.func29, Tryd.ntmps29
  go_wp2_with fail
  go_ret
  exact ⟨ret_int (by first | rfl | exact e | (simp; done)), rfl⟩
/-- the bits, turned round by k -/
def rotl (n k : Nat) : Nat := (n * 2 ^ k) % 18446744073709551616 + n / 2 ^ (64 - k)
theorem rotl_or (n k : Nat) (hn : n < 18446744073709551616) (hk : k < 64) : ((n * 2 ^ k) % 18446744073709551616) ||| (n / 2 ^ (64 - k)) = rotl n k ∧ n / 2 ^ (64 - k) < 2 ^ k := by
  have e64 : 2 ^ k * 2 ^ (64 - k) = 18446744073709551616 := by rw [← Nat.pow_add, show k + (64 - k) = 64 from by omega]
  have h1 : n / 2 ^ (64 - k) < 2 ^ k := by
    rw [Nat.div_lt_iff_lt_mul (Nat.two_pow_pos _), e64]
    exact hn
  have h2 : n * 2 ^ k % 18446744073709551616 = 2 ^ k * (n % 2 ^ (64 - k)) := by
    rw [← e64, Nat.mul_comm n, Nat.mul_mod_mul_left]
  unfold rotl
  rw [h2]
  exact ⟨(Nat.two_pow_add_eq_or_of_lt h1 _).symm, h1⟩
theorem rotl_lt (n k : Nat) (hn : n < 18446744073709551616) (hk : k < 64) : rotl n k < 18446744073709551616 := by
  obtain ⟨h1, h2⟩ := rotl_or n k hn hk
  rw [← h1]
  have h3 : 2 ^ k ≤ 2 ^ 64 := Nat.pow_le_pow_right (by decide) (by omega)
  exact Nat.or_lt_two_pow (n := 64) (Nat.mod_lt _ (by decide)) (by omega)
theorem RotL_any (n : Nat) (k : Nat) (hk : k < 64) (hn : n < 18446744073709551616) (w : World) : Calls Tryd.prog 35 #[.int .u64 n, .int .i64 k] w fun e w' => e = .returned (.int .u64 (rotl n k : Nat)) ∧ w = w' := by
  have ha : bits BinOp.and IntKind.u64 (k : Int) 63 = (k : Int) := by
    rw [show (63 : Int) = ((63 : Nat) : Int) from rfl, bits_and_u64_nat k 63 (by omega) (by decide), show 63 = 2 ^ 6 - 1 from rfl, Nat.and_two_pow_sub_one_eq_mod, Nat.mod_eq_of_lt hk]
  go_enter Tryd.func35, Tryd.ntmps35
  go_wp2_with fail
  go_ret
  refine ⟨ret_int ?_, rfl⟩
  have e1 : IntKind.u64.wrap ((n : Int) * 2 ^ k) = ((n * 2 ^ k % 18446744073709551616 : Nat) : Int) := by rw [IntKind.wrap_u64, Int.natCast_emod, Int.natCast_mul, Int.natCast_pow]; rfl
  have e2 : (n : Int) / 2 ^ (64 - k) = ((n / 2 ^ (64 - k) : Nat) : Int) := by rw [Int.natCast_ediv, Int.natCast_pow]; rfl
  have hlt : n / 2 ^ (64 - k) < 18446744073709551616 := Nat.lt_of_le_of_lt (Nat.div_le_self _ _) hn
  have e3 := bits_or_u64_nat (n * 2 ^ k % 18446744073709551616) (n / 2 ^ (64 - k)) (Nat.mod_lt _ (by decide)) hlt
  rw [(rotl_or n k hn hk).1] at e3
  rw [← e3, ← e1, ← e2]
theorem and63 (n : Int) : ∃ r : Nat, r < 64 ∧ bits .and .i64 n 63 = r ∧ (r : Int) = n % 64 := by
  have h := i64_mask n 6 (by decide)
  have e : ((2 : Int) ^ 6 - 1) = 63 := rfl
  rw [e] at h
  refine ⟨(n % 64).toNat, by omega, ?_, by omega⟩
  rw [h]
  omega
theorem Rot_any (n : Nat) (k : Int) (hn : n < 18446744073709551616) (w : World) : Calls Tryd.prog 22 #[.int .u64 n, .int .i64 k] w fun e w' => e = .returned (.int .u64 (rotl n (k % 64).toNat : Nat)) ∧ w = w' := by
  obtain ⟨r, hr, h1, h2⟩ := and63 k
  have e : (k % 64).toNat = r := by omega
  rw [e]
  have q := RotL_any n r hr hn w
  clear e h2
  go_enter Tryd.func22, Tryd.ntmps22
  go_wp2_with fail
  refine q.mono ?_
  rintro e w' ⟨rfl, rfl⟩
  go_wp2_with fail
  go_ret
  exact ⟨rfl, rfl⟩

/-- the number with bits at places -/
def ofB (xs : List Int) : Nat := xs.foldl (fun n i => if 0 ≤ i ∧ i < 64 then n ||| 2 ^ i.toNat else n) 0
theorem ofB_snoc (xs : List Int) (i : Int) : ofB (xs ++ [i]) = if 0 ≤ i ∧ i < 64 then ofB xs ||| 2 ^ i.toNat else ofB xs := by simp [ofB]
theorem ofB_lt (xs : List Int) : ofB xs < 18446744073709551616 := by
  have h : ∀ (n : Nat), n < 2 ^ 64 → xs.foldl (fun n i => if 0 ≤ i ∧ i < 64 then n ||| 2 ^ i.toNat else n) n < 2 ^ 64 := by
    induction xs with
    | nil => exact fun n h => h
    | cons x xs ih =>
      intro n hn
      simp only [List.foldl_cons]
      refine ih _ ?_
      split
      · exact Nat.or_lt_two_pow hn (Nat.pow_lt_pow_right (by decide) (by omega))
      · exact hn
  exact h 0 (by decide)
set_option maxHeartbeats 1000000 in
theorem Of_any (w : World) (A : Option Addr) (c : Nat) (xs : List Int) (h : Cls w A (ints .i64 xs)) (hl : xs.length ≤ 100000000000000) :
    Calls Tryd.prog 26 #[.slice A xs.length c] w fun e w' => e = .returned (.int .u64 (ofB xs : Nat)) ∧ w = w' := by
  have HC := Lib.hid h
  clear h
  go_enter Tryd.func26, Tryd.ntmps26
  go_wp2_with fail
  go_loop [3, 5, 8] (fun v _ i => ∃ pre post : List Int, Hid (xs = pre ++ post) ∧ i = .int .i64 pre.length ∧ v = .int .u64 (ofB pre : Nat)) (fun _ _ i => xs.length - (intOf i).toNat)
  case atStart => exact ⟨[], xs, rfl, rfl, rfl⟩
  case round =>
    obtain ⟨pre, post, hx, rfl, rfl⟩ := hrel
    cases post with
    | nil =>
      obtain rfl : pre = xs := by have := hx.out; simpa using this.symm
      go_wp2_with fail
      go_ret
      exact ⟨rfl, rfl⟩
    | cons x post =>
      have hlen : pre.length < xs.length := by rw [hx.out]; simp
      obtain ⟨b, off, rfl, hcx⟩ := HC.out.at hx.out
      have hs := ofB_snoc pre x
      have hb := ofB_lt pre
      generalize ofB pre = v at *
      by_cases h1 : x < 0
      · rw [if_neg (by omega)] at hs
        have HS := Lib.hid hs
        clear hs
        go_wp2_with fail
        go_round
        case rel => exact ⟨pre ++ [x], post, by rw [hx.out]; simp [Hid], by simp, by rw [HS.out]⟩
        case measure => simp [intOf]; omega
      by_cases h2 : 64 ≤ x
      · rw [if_neg (by omega)] at hs
        have HS := Lib.hid hs
        clear hs
        go_wp2_with fail
        go_round
        case rel => exact ⟨pre ++ [x], post, by rw [hx.out]; simp [Hid], by simp, by rw [HS.out]⟩
        case measure => simp [intOf]; omega
      · rw [if_pos (by omega)] at hs
        obtain ⟨p, rfl⟩ : ∃ p : Nat, x = p := ⟨x.toNat, by omega⟩
        rw [Int.toNat_natCast] at hs
        have hp : 2 ^ p < 18446744073709551616 := by rw [show (18446744073709551616 : Nat) = 2 ^ 64 from rfl]; exact Nat.pow_lt_pow_right (by decide) (by omega)
        have e1 := bits_or_u64_nat v (2 ^ p) hb hp
        rw [← hs] at e1
        have HS := Lib.hid e1
        clear hs e1
        have e0 : IntKind.u64.wrap ((2 : Int) ^ p) = ((2 ^ p : Nat) : Int) := by
          have e2 : (2 : Int) ^ p = ((2 ^ p : Nat) : Int) := by rw [Int.natCast_pow]; rfl
          rw [e2, IntKind.wrap_u64]
          generalize 2 ^ p = q at hp
          omega
        have H0 := Lib.hid e0
        clear e0 hp
        go_wp2_with fail
        go_round
        case rel => exact ⟨pre ++ [(p : Int)], post, by rw [hx.out]; simp [Hid], by simp, by rw [H0.out, HS.out]⟩
        case measure => simp [intOf]; omega
end Go.Proofs.YtdkkffmnpholdaaDoor
