/- fit.To for one byte: what it comes to. -/
import Derived.Test.YtflpelacjdnplaaFitLow
namespace Go.Proofs.Ytflpelacjdnplaa
open Go.RowKit

theorem wrp_u8 (n : Int) : IntKind.u8.wrap n = n % 256 := by
  simp [IntKind.wrap, IntKind.bits, IntKind.signed]

theorem back_u8 (n : Int) (h : ¬ (0 ≤ n ∧ n ≤ 255)) : (wrap64 (IntKind.u8.wrap n) == n) = false := by
  have b : 0 ≤ IntKind.u8.wrap n ∧ IntKind.u8.wrap n ≤ 255 := by rw [wrp_u8]; omega
  generalize IntKind.u8.wrap n = v at *
  have e : wrap64 v = v := by unfold wrap64; omega
  rw [e]
  simp
  omega
theorem To_u8 (n : Int) (w : World) : Calls Try.prog 52 #[.int .i64 n] w fun e w' => e = .returned (.tuple #[.int .u8 (if 0 ≤ n ∧ n ≤ 255 then n else 0), .bool (decide (0 ≤ n ∧ n ≤ 255))]) ∧ w = w' := by
  by_cases h : 0 ≤ n ∧ n ≤ 255
  · rw [if_pos h, decide_eq_true h]
    obtain ⟨h1, h2⟩ := h
    go_enter Try.func52, Try.ntmps52
    go_wp2_with fail
    go_ret2
    exact ⟨rfl, rfl⟩
  · rw [if_neg h, decide_eq_false h]
    have hb := back_u8 n h
    have hb2 : (n % 256 == n) = false := by simp; omega
    have hc : n < 0 ∨ 255 < n := by omega
    clear h
    rcases hc with hc | hc
    · go_enter Try.func52, Try.ntmps52
      go_wp2_with fail
      go_ret2
      exact ⟨rfl, rfl⟩
    · go_enter Try.func52, Try.ntmps52
      go_wp2_with fail
      go_ret2
      exact ⟨rfl, rfl⟩
end Go.Proofs.Ytflpelacjdnplaa
