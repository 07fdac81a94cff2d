/- fit.held, fit.Low, and the references' Bit and Power: what each comes to. -/
import Derived.Test.YtjjeafedlnfhfaaProg
import Derived.Test.YtjjeafedlnfhfaaMem
import Derived.Test.YtjjeafedlnfhfaaNum
import Derived.Deep.QuietTactic
import Derived.BigQuiet
import Derived.Deep.LoopGhost
namespace Go.Proofs.Ytjjeafedlnfhfaa
open Go.RowKit

theorem held_any (b : Int) (w : World) : Calls Try.prog 37 #[.int .i64 b] w fun e w' => e = .returned (.int .i64 (hld b)) ∧ w = w' := by
  by_cases h1 : b < 0
  · go_enter Try.func37, Try.ntmps37
    go_wp2
    go_ret
    exact ⟨ret_i64 (by unfold hld; omega), rfl⟩
  · by_cases h2 : 64 < b
    · go_enter Try.func37, Try.ntmps37
      go_wp2
      go_ret
      exact ⟨ret_i64 (by unfold hld; omega), rfl⟩
    · go_enter Try.func37, Try.ntmps37
      go_wp2
      go_ret
      exact ⟨ret_i64 (by unfold hld; omega), rfl⟩

theorem Low_any (n : Nat) (b : Int) (w : World) (hn : n < 2 ^ 64) : Calls Try.prog 34 #[.int .u64 n, .int .i64 b] w fun e w' => e = .returned (.int .u64 (lowB n b : Int)) ∧ w = w' := by
  have hl := hld_le b
  go_enter Try.func34, Try.ntmps34
  go_wp2_with fail
  refine (held_any _ _).mono ?_
  rintro e w' ⟨rfl, rfl⟩
  generalize hh : hld b = h at *
  have HH := Lib.hid hh
  clear hh
  go_wp2_with fail
  go_ret
  exact ⟨ret_int (by unfold lowB; rw [HH.out]; exact u64_low n h hn hl), rfl⟩
end Go.Proofs.Ytjjeafedlnfhfaa
