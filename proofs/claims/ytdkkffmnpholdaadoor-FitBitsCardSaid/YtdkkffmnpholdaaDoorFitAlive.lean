/- The example of fit's chapter holds. -/
import Derived.Test.YtdkkffmnpholdaaDoorFitOps
namespace Go.Proofs.YtdkkffmnpholdaaDoor
open Go.RowKit

set_option maxHeartbeats 2000000 in
set_option maxRecDepth 100000 in
theorem fitAlive_any (W : World) (hT : TabAt 0 Lib.deBruijn64tab W) : Calls Tryd.prog 9 #[] W fun e w' => e = .returned (.bool true) ∧ Ch No W w' := by
  have s1 : ∀ w, Calls Tryd.prog 20 #[.int .u64 255, .int .i64 8] w fun e w' => e = .returned (.int .i64 (-1)) ∧ w = w' := fun w => by
    have q := Sign_any 255 8 w
    rw [show sgn 255 (hld 8) = -1 from by decide] at q
    exact q
  have s2 : ∀ w, Calls Tryd.prog 18 #[.int .u64 4660, .int .i64 8] w fun e w' => e = .returned (.int .u64 52) ∧ w = w' := fun w => by
    have q := Low_any 4660 8 w (by decide)
    rw [show lowB 4660 8 = 52 from by decide] at q
    exact q
  have s3 : ∀ w, Calls Tryd.prog 13 #[.int .i64 256] w fun e w' => e = .returned (.tuple #[.int .u8 0, .bool false]) ∧ w = w' := fun w => To_u8 256 w
  have s4 : ∀ w, Calls Tryd.prog 10 #[.int .i64 (-128)] w fun e w' => e = .returned (.tuple #[.int .i8 (-128), .bool true]) ∧ w = w' := fun w => To_i8 (-128) w
  have s5 : ∀ w, Calls Tryd.prog 28 #[.int .u64 4294967303] w fun e w' => e = .returned (.tuple #[.int .u32 1, .int .u32 7]) ∧ w = w' := fun w => Halves_any 4294967303 (by decide) w
  have s6 : ∀ w, Calls Tryd.prog 29 #[.int .u32 1, .int .u32 7] w fun e w' => e = .returned (.int .u64 4294967303) ∧ w = w' := fun w => Join_any 1 7 (by decide) (by decide) w
  have s7 : ∀ w, Calls Tryd.prog 22 #[.int .u64 1, .int .i64 (-1)] w fun e w' => e = .returned (.int .u64 9223372036854775808) ∧ w = w' := fun w => by
    have q := Rot_any 1 (-1) (by decide) w
    rw [show rotl 1 ((-1 : Int) % 64).toNat = 9223372036854775808 from by decide] at q
    exact q
  have s8 : ∀ w : World, Calls Tryd.prog 26 #[.slice (some ⟨w.heap.size, 0, none⟩) 2 2] (w.alloc (.cells #[.int .i64 0, .int .i64 5] 3)) fun e w' => e = .returned (.int .u64 33) ∧ w.alloc (.cells #[.int .i64 0, .int .i64 5] 3) = w' := fun w => by
    have q := Of_any (w.alloc (.cells #[.int .i64 0, .int .i64 5] 3)) (some ⟨w.heap.size, 0, none⟩) 2 [0, 5] (by
      obtain ⟨A, c, h1, h2, _⟩ := (OwnS.lit w w.heap.size 3 [.int .i64 0, .int .i64 5] (Nat.le_refl _) (by simp [maxLen])).slice
      cases h1
      exact h2) (by simp)
    rw [show ofB [0, 5] = 33 from by decide] at q
    exact q
  have s9 : ∀ w : World, Ch No W w → Calls Tryd.prog 25 #[.int .u64 33, .int .i64 9] w fun e w' => ∃ A c, e = .returned (.slice A 2 c) ∧ Ch No w w' := fun w hc => by
    refine (places_any w 33 (by decide) (tab_ch hT hc) 9).mono ?_
    rintro e w' ⟨v, rfl, hv, h⟩
    obtain ⟨A, c, rfl, _, _⟩ := hv.slice_ints
    rw [show ((plc 33).take (9 : Int).toNat) = [0, 5] from by decide]
    exact ⟨A, c, rfl, h⟩
  have HS := Lib.hid (And.intro s1 (And.intro s2 (And.intro s3 (And.intro s4 (And.intro s5 (And.intro s6 (And.intro s7 (And.intro s8 s9))))))))
  clear s1 s2 s3 s4 s5 s6 s7 s8 s9 hT
  go_enter Tryd.func9, Tryd.ntmps9
  go_wp2_with fail
  refine (HS.out.1 _).mono ?_
  rintro e w1 ⟨rfl, rfl⟩
  go_wp2_with fail
  refine (HS.out.2.1 _).mono ?_
  rintro e w1 ⟨rfl, rfl⟩
  go_wp2_with fail
  refine (HS.out.2.2.1 _).mono ?_
  rintro e w1 ⟨rfl, rfl⟩
  go_wp2_with fail
  refine (HS.out.2.2.2.1 _).mono ?_
  rintro e w1 ⟨rfl, rfl⟩
  go_wp2_with fail
  refine (HS.out.2.2.2.2.1 _).mono ?_
  rintro e w1 ⟨rfl, rfl⟩
  go_wp2_with fail
  refine (HS.out.2.2.2.2.2.1 _).mono ?_
  rintro e w1 ⟨rfl, rfl⟩
  go_wp2_with fail
  refine (HS.out.2.2.2.2.2.2.1 _).mono ?_
  rintro e w1 ⟨rfl, rfl⟩
  go_wp2_with fail
  refine (HS.out.2.2.2.2.2.2.2.1 _).mono ?_
  rintro e w1 ⟨rfl, rfl⟩
  go_wp2_with fail
  refine (HS.out.2.2.2.2.2.2.2.2 _ ((Ch.refl No W).alloc _)).mono ?_
  rintro e w1 ⟨A, c, rfl, h1⟩
  have H1 := Lib.hid (((Ch.refl No W).alloc (.cells #[.int .i64 0, .int .i64 5] 3)).trans h1)
  clear h1
  go_wp2_with fail
  go_ret
  exact ⟨rfl, H1.out⟩
end Go.Proofs.YtdkkffmnpholdaaDoor
