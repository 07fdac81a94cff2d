/- fit.held, fit.Low, and the references' Bit and Power: what each comes to. -/
import Derived.Test.YtflpelacjdnplaaProg
import Derived.Test.YtflpelacjdnplaaMem
import Derived.Test.YtflpelacjdnplaaNum
import Derived.Deep.QuietTactic
import Derived.BigQuiet
import Derived.Deep.LoopGhost
namespace Go.Proofs.Ytflpelacjdnplaa
open Go.RowKit

theorem held_any (b : Int) (w : World) : Calls Try.prog 70 #[.int .i64 b] w fun e w' => e = .returned (.int .i64 (hld b)) ∧ w = w' := by
  by_cases h1 : b < 0
  · go_enter Try.func70, Try.ntmps70
    go_wp2
    go_ret
    exact ⟨ret_i64 (by unfold hld; omega), rfl⟩
  · by_cases h2 : 64 < b
    · go_enter Try.func70, Try.ntmps70
      go_wp2
      go_ret
      exact ⟨ret_i64 (by unfold hld; omega), rfl⟩
    · go_enter Try.func70, Try.ntmps70
      go_wp2
      go_ret
      exact ⟨ret_i64 (by unfold hld; omega), rfl⟩

end Go.Proofs.Ytflpelacjdnplaa
