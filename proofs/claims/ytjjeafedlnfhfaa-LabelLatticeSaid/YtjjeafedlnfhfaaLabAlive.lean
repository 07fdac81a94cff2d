/- The example of the labels' chapter holds. -/
import Derived.Test.YtjjeafedlnfhfaaLabWalk
namespace Go.Proofs.Ytjjeafedlnfhfaa
open Go.RowKit

set_option maxHeartbeats 2000000 in
set_option maxRecDepth 100000 in
theorem labAlive_any (w : World) : Calls Try.prog 21 #[] w fun e w' => e = .returned (.bool true) ∧ Ch No w w' := by
  have n1 : ∀ w, Calls Try.prog 31 #[.agg #[.int .u8 2, .int .u16 1]] w (fun e w' => e = .returned (.int .u64 131073) ∧ Ch No w w') := fun w => LNumber_any 2 1 w (by decide) (by decide)
  have f1 : ∀ w, Calls Try.prog 22 #[.int .u64 131073] w (fun e w' => e = .returned (.tuple #[.agg #[.int .u8 2, .int .u16 1], .int .i64 0]) ∧ Ch No w w') := fun w => LFrom_any 131073 w (by decide)
  have f2 : ∀ w, Calls Try.prog 22 #[.int .u64 1048576] w (fun e w' => e = .returned (.tuple #[.agg #[.int .u8 0, .int .u16 0], .int .i64 23]) ∧ Ch No w w') := fun w => LFrom_any 1048576 w (by decide)
  have d1 : ∀ w, Calls Try.prog 24 #[.agg #[.int .u8 2, .int .u16 1], .agg #[.int .u8 1, .int .u16 0]] w (fun e w' => e = .returned (.bool true) ∧ Ch No w w') := fun w => LDominates_any 2 1 1 0 w (by decide) (by decide)
  have d2 : ∀ w, Calls Try.prog 24 #[.agg #[.int .u8 1, .int .u16 0], .agg #[.int .u8 2, .int .u16 1]] w (fun e w' => e = .returned (.bool false) ∧ Ch No w w') := fun w => LDominates_any 1 0 2 1 w (by decide) (by decide)
  have j1 : ∀ w, Calls Try.prog 26 #[.agg #[.int .u8 2, .int .u16 1], .agg #[.int .u8 1, .int .u16 0]] w (fun e w' => e = .returned (.agg #[.int .u8 2, .int .u16 1]) ∧ Ch No w w') := fun w => LJoin_any 2 1 1 0 w (by decide) (by decide)
  have m1 : ∀ w, Calls Try.prog 28 #[.agg #[.int .u8 2, .int .u16 1], .agg #[.int .u8 1, .int .u16 0]] w (fun e w' => e = .returned (.agg #[.int .u8 1, .int .u16 0]) ∧ Ch No w w') := fun w => LMeet_any 2 1 1 0 w (by decide) (by decide)
  have c1 : ∀ w, Calls Try.prog 30 #[.agg #[.int .u8 2, .int .u16 1]] w (fun e w' => e = .returned (.int .i64 0) ∧ Ch No w w') := fun w => LCheck_any 2 1 w (by decide)
  have c2 : ∀ w, Calls Try.prog 30 #[.agg #[.int .u8 16, .int .u16 0]] w (fun e w' => e = .returned (.int .i64 23) ∧ Ch No w w') := fun w => LCheck_any 16 0 w (by decide)
  have l1 : ∀ w, Calls Try.prog 33 #[.agg #[.int .u8 1, .int .u16 0], .agg #[.int .u8 2, .int .u16 1]] w (fun e w' => e = .returned (.bool true) ∧ Ch No w w') := fun w => LLess_any 1 0 2 1 w (by decide) (by decide) (by decide) (by decide)
  go_enter Try.func21, Try.ntmps21
  go_wp2_with fail
  refine (n1 _).mono ?_
  rintro e w1 ⟨rfl, hw1⟩
  go_wp2_with fail
  refine (f1 _).mono ?_
  rintro e w2 ⟨rfl, hw2⟩
  go_wp2_with fail
  refine (f2 _).mono ?_
  rintro e w3 ⟨rfl, hw3⟩
  go_wp2_with fail
  have a0 : w2.cell? ⟨w.heap.size, 0, none⟩ = some (.int .u8 2) := hw2.cell (hw1.cell (by simp) (fun h => h)) (fun h => h)
  have a1 : w2.cell? ⟨w.heap.size, 1, none⟩ = some (.int .u16 1) := hw2.cell (hw1.cell (by simp) (fun h => h)) (fun h => h)
  have b0 : w2.cell? ⟨w.heap.size + 1, 0, none⟩ = some (.int .u8 1) := hw2.cell (hw1.cell (by simp) (fun h => h)) (fun h => h)
  have b1 : w2.cell? ⟨w.heap.size + 1, 1, none⟩ = some (.int .u16 0) := hw2.cell (hw1.cell (by simp) (fun h => h)) (fun h => h)
  have s2 : w.heap.size + 1 < w2.heap.size := by have := hw1.size; have := hw2.size; simp at *; omega
  have C2 : Ch No w w2 := Ch.trans (Ch.trans (((Ch.refl No w).alloc _).alloc _) hw1) hw2
  obtain ⟨w4, hw4⟩ : ∃ w4, w3.alloc (.cells #[.int .u8 0, .int .u16 0] 38) = w4 := ⟨_, rfl⟩
  have H3 : Ch No (w2.alloc (.cells #[.int .u8 2, .int .u16 1] 38)) w4 := by rw [← hw4]; exact hw3.alloc _
  rw [hw4]
  have a2 : w4.cell? ⟨w.heap.size, 0, none⟩ = some (.int .u8 2) := H3.cell (((Ch.refl No w2).alloc _).cell a0 (fun h => h)) (fun h => h)
  have a3 : w4.cell? ⟨w.heap.size, 1, none⟩ = some (.int .u16 1) := H3.cell (((Ch.refl No w2).alloc _).cell a1 (fun h => h)) (fun h => h)
  have b2 : w4.cell? ⟨w.heap.size + 1, 0, none⟩ = some (.int .u8 1) := H3.cell (((Ch.refl No w2).alloc _).cell b0 (fun h => h)) (fun h => h)
  have b3 : w4.cell? ⟨w.heap.size + 1, 1, none⟩ = some (.int .u16 0) := H3.cell (((Ch.refl No w2).alloc _).cell b1 (fun h => h)) (fun h => h)
  have e2 : w4.cell? ⟨w2.heap.size, 0, none⟩ = some (.int .u8 2) := H3.cell (by simp) (fun h => h)
  have e3 : w4.cell? ⟨w2.heap.size, 1, none⟩ = some (.int .u16 1) := H3.cell (by simp) (fun h => h)
  have C4 : Ch No w w4 := (C2.alloc _).trans H3
  clear hw1 hw2 hw3 hw4 H3 C2 a0 a1 b0 b1
  go_region_held3 (fun w' => w'.cell? ⟨w.heap.size, 0, none⟩ = some (.int .u8 2) ∧ w'.cell? ⟨w.heap.size, 1, none⟩ = some (.int .u16 1) ∧ w'.cell? ⟨w.heap.size + 1, 0, none⟩ = some (.int .u8 1) ∧ w'.cell? ⟨w.heap.size + 1, 1, none⟩ = some (.int .u16 0) ∧ w'.cell? ⟨w2.heap.size, 0, none⟩ = some (.int .u8 2) ∧ w'.cell? ⟨w2.heap.size, 1, none⟩ = some (.int .u16 1) ∧ Ch No w w') (first | (refine ⟨?_, ?_, ?_, ?_, ?_, ?_, ?_⟩ <;> (first | assumption | (simp [*]; done) | (refine Ch.trans ?_ (by assumption); simp [*]; done) | (refine Ch.cell (by assumption) ?_ (fun h => h); simp [*]; done) | (repeat (first | assumption | apply Ch.drew))))) (first | (go_at_call 24; (with_reducible refine (d1 _).mono ?_); rintro e w' ⟨rfl, hw'⟩) | (go_at_call 24; (with_reducible refine (d2 _).mono ?_); rintro e w' ⟨rfl, hw'⟩) | (go_at_call 26; (with_reducible refine (j1 _).mono ?_); rintro e w' ⟨rfl, hw'⟩) | (go_at_call 28; (with_reducible refine (m1 _).mono ?_); rintro e w' ⟨rfl, hw'⟩) | (go_at_call 30; (with_reducible refine (c1 _).mono ?_); rintro e w' ⟨rfl, hw'⟩) | (go_at_call 30; (with_reducible refine (c2 _).mono ?_); rintro e w' ⟨rfl, hw'⟩) | (go_at_call 31; (with_reducible refine (n1 _).mono ?_); rintro e w' ⟨rfl, hw'⟩) | (go_at_call 33; (with_reducible refine (l1 _).mono ?_); rintro e w' ⟨rfl, hw'⟩))
  go_wp2
  go_ret
  exact ⟨rfl, by simp [*]⟩
end Go.Proofs.Ytjjeafedlnfhfaa
