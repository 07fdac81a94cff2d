/- the table that math/bits.TrailingZeros64 reads: what the row's condition gives; a world in which it lies; the function's contract. -/
import Derived.Test.YtpjcfelknkddfaaDoorRows
import Derived.Test.YtpjcfelknkddfaaDoorMem
import Derived.LaidLaws
import Derived.Lib.LaidTab
import Derived.Lib.LaidIn
import Derived.Shelf.Spec.TrailingZeros
namespace Go.Proofs.YtpjcfelknkddfaaDoor
open Go.RowKit

theorem gTab : Tryd.prog.globalNamed "math/bits.deBruijn64tab" = some 0 := by kernel_rfl
theorem gTabType : (Tryd.prog.globals[0]?).map (·.type) = some 71 := by kernel_rfl
/-- what a walk reads -/
theorem tab_at {W : World} (h : laidMet Tryd.prog [("math/bits.deBruijn64tab", Rows.laid_math_bits_deBruijn64tab)] W) : TabAt 0 Lib.deBruijn64tab W := by
  have h' : laidMet Tryd.prog [("math/bits.deBruijn64tab", Lib.tabData .u8 (Lib.deBruijn64tab.map fun (n : Nat) => (n : Int)))] W := h
  have q := Lib.tabIs_of_head gTab gTabType Tryd.underlying71 Tryd.underlying5 (by kernel_rfl) (by kernel_rfl) h'
  intro j hj
  have e := q.cell gTab j (by simpa using hj)
  rw [e]
  simp [List.getD, hj]
theorem tab_ch {g : Nat} {tab : List Nat} {w w' : World} (h : TabAt g tab w) (hc : Ch No w w') : TabAt g tab w' := fun j hj => hc.cell (h j hj) (fun h => h)
/-- a world in which it lies -/
noncomputable def laidWorld (os : Os) : World :=
  { World.holding Tryd.prog os ⟨#[], #[], []⟩ with heap := (World.holding Tryd.prog os ⟨#[], #[], []⟩).heap.modify 0 fun
      | .cells _ t frozen => .cells (Lib.deBruijn64tab.map fun (z : Nat) => Value.int .u8 z).toArray t frozen
      | o => o }
theorem laidWorld_met (os : Os) (args : Array Value) : laidMet Tryd.prog [("math/bits.deBruijn64tab", Rows.laid_math_bits_deBruijn64tab)] ((laidWorld os).forCall (fun _ _ => 0) ⟨#[], args, []⟩).memory :=
  (LaidIn.of_run [0] 8 (by kernel_rfl) (by kernel_rfl) (by kernel_rfl) (by kernel_rfl)).met

set_option maxHeartbeats 1000000 in
theorem TZ_core (x k idx : Nat) (w : World) (hx0 : ((x : Int) == 0) = false)
    (key : IntKind.u64.wrap (bits BinOp.and IntKind.u64 (x : Int) (IntKind.u64.wrap (-(x : Int))) * 285870213051353865) / 288230376151711744 = (idx : Int))
    (hi : idx < 64) (hk : k < 64) (hcell : w.cell? ⟨0, idx, none⟩ = some (.int .u8 k)) :
    Calls Tryd.prog 35 #[.int .u64 x] w fun e w' => e = .returned (.int .i64 k) ∧ w' = w := by
  go_enter Tryd.func35, Tryd.ntmps35
  go_wp2_with (simp only [key])
  go_ret
  exact ⟨rfl, rfl⟩
/-- the number of trailing noughts -/
theorem TZ_any (x : Nat) (hx : x < 18446744073709551616) (hx0 : x ≠ 0) (w : World) (hT : TabAt 0 Lib.deBruijn64tab w) :
    Calls Tryd.prog 35 #[.int .u64 x] w fun e w' => e = .returned (.int .i64 (Lib.ctz 64 x)) ∧ w' = w := by
  obtain ⟨hlow, hk⟩ := Lib.lowest_bit 64 x hx0 hx
  obtain ⟨hi, htab⟩ := Lib.deBruijn64_at _ hk
  have hcell := hT _ hi
  rw [htab] at hcell
  exact TZ_core x _ _ w (by simp; omega) (tz64_key x _ hx hx0 hlow) hi hk hcell
end Go.Proofs.YtpjcfelknkddfaaDoor
