/- LabelBits: a label dominates another one just if joining turns nothing, and just if meeting is the other one: the walk. -/
import Derived.Test.YtjjeafedlnfhfaaLabEq
import Derived.Test.YtjjeafedlnfhfaaLabAlive
import Derived.Test.YtjjeafedlnfhfaaQuiet
namespace Go.Proofs.Ytjjeafedlnfhfaa
open Go.RowKit

theorem or_and_nat (c k : Nat) : c ||| k = c ↔ c &&& k = k := by
  constructor
  · intro h; apply Nat.eq_of_testBit_eq; intro i
    have := congrArg (·.testBit i) h
    simp only [Nat.testBit_or, Nat.testBit_and] at *
    cases hc : c.testBit i <;> cases hk : k.testBit i <;> simp_all
  · intro h; apply Nat.eq_of_testBit_eq; intro i
    have := congrArg (·.testBit i) h
    simp only [Nat.testBit_or, Nat.testBit_and] at *
    cases hc : c.testBit i <;> cases hk : k.testBit i <;> simp_all
theorem dom_meet (l c m k : Nat) : (((mnN l m : Nat) : Int) == (m : Int) && ((anN c k : Nat) : Int) == (k : Int)) = domB l c m k := by
  unfold mnN anN domB
  rw [Bool.eq_iff_iff]
  simp [or_and_nat]
  omega
theorem dom_none (l c : Nat) : domB l c 0 0 = true := by simp [domB]
theorem dom_top {l c : Nat} (hl : l ≤ 15) (hc : c < 65536) : domB 15 65535 l c = true := by
  simp [domB, hl]
  apply Nat.eq_of_testBit_eq; intro i
  rw [Nat.testBit_or]
  by_cases hi : i < 16
  · have : Nat.testBit 65535 i = true := by rw [show 65535 = 2 ^ 16 - 1 from rfl, Nat.testBit_two_pow_sub_one]; simpa using hi
    simp [this]
  · have : c.testBit i = false := Nat.testBit_lt_two_pow (Nat.lt_of_lt_of_le hc (Nat.pow_le_pow_right (n := 2) (by omega) (show 16 ≤ i by omega)))
    simp [this]
theorem num_eq {l c m k : Nat} (hc : c < 65536) (hk : k < 65536) : (((labN l c : Nat) : Int) == ((labN m k : Nat) : Int)) = (((l : Nat) : Int) == (m : Int) && ((c : Nat) : Int) == (k : Int)) := by
  unfold labN
  rw [Bool.eq_iff_iff]
  simp
  omega

theorem lt_and (a b : Nat) : (decide (a < b) && decide (b < a)) = false := by
  by_cases h : a < b
  · have : ¬ b < a := by omega
    simp [h, this]
  · simp [h]

set_option maxHeartbeats 4000000 in
set_option maxRecDepth 100000 in
theorem labelBits_core (W : World) (l c m k : Nat) (hl : l < 256) (hc : c < 65536) (hm : m < 256) (hk : k < 65536) :
    Calls Try.prog 12 #[.agg #[.int .u8 l, .int .u16 c], .agg #[.int .u8 m, .int .u16 k]] W fun e w' => e = .returned (.bool true) ∧ Ch No W w' := by
  have he := eqlLab
  have e1 := dom_eq l c m k
  have e2 := dom_meet l c m k
  have e3 := num_eq (l := l) (m := m) hc hk
  have e4 := lt_and (labN l c) (labN m k)
  have e5 := dom_none l c
  have e6 : l ≤ 15 → domB 15 65535 l c = true := fun h => dom_top h hc
  obtain ⟨d, hd⟩ : ∃ d, domB l c m k = d := ⟨_, rfl⟩
  obtain ⟨x, hx⟩ : ∃ x, decide (labN l c < labN m k) = x := ⟨_, rfl⟩
  obtain ⟨y, hy⟩ : ∃ y, decide (labN m k < labN l c) = y := ⟨_, rfl⟩
  have hDom : ∀ w, Calls Try.prog 24 #[.agg #[.int .u8 l, .int .u16 c], .agg #[.int .u8 m, .int .u16 k]] w fun e w' => e = .returned (.bool d) ∧ Ch No w w' := fun w => by rw [← hd]; exact LDominates_any _ _ _ _ w hc hk
  have hTop : l ≤ 15 → ∀ w, Calls Try.prog 24 #[.agg #[.int .u8 15, .int .u16 65535], .agg #[.int .u8 l, .int .u16 c]] w fun e w' => e = .returned (.bool true) ∧ Ch No w w' := fun h w => by rw [← e6 h]; exact LDominates_any 15 65535 _ _ w (by omega) hc
  have hNone : ∀ w, Calls Try.prog 24 #[.agg #[.int .u8 l, .int .u16 c], .agg #[.int .u8 0, .int .u16 0]] w fun e w' => e = .returned (.bool true) ∧ Ch No w w' := fun w => by rw [← e5]; exact LDominates_any _ _ 0 0 w hc (by omega)
  have hLx : ∀ w, Calls Try.prog 33 #[.agg #[.int .u8 l, .int .u16 c], .agg #[.int .u8 m, .int .u16 k]] w fun e w' => e = .returned (.bool x) ∧ Ch No w w' := fun w => by rw [← hx]; exact LLess_any _ _ _ _ w hl hc hm hk
  have hLy : ∀ w, Calls Try.prog 33 #[.agg #[.int .u8 m, .int .u16 k], .agg #[.int .u8 l, .int .u16 c]] w fun e w' => e = .returned (.bool y) ∧ Ch No w w' := fun w => by rw [← hy]; exact LLess_any _ _ _ _ w hm hk hl hc
  have hN1 := fun w => LNumber_any l c w hl hc
  have hN2 := fun w => LNumber_any m k w hm hk
  have hJ := fun w => LJoin_any l c m k w hc hk
  have hM := fun w => LMeet_any l c m k w hc hk
  have hK : ∀ w, Calls Try.prog 30 #[.agg #[.int .u8 l, .int .u16 c]] w fun e w' => e = .returned (.int .i64 (if 15 < l then 23 else 0)) ∧ Ch No w w' := fun w => LCheck_any l c w hl
  rw [hd] at e1 e2
  rw [hx, hy] at e4
  clear hd hx hy e5 e6
  go_enter Try.func12, Try.ntmps12
  go_wp2_with fail
  refine (labAlive_any _).mono ?_
  rintro e w1 ⟨rfl, hw1⟩
  have a0' : ∀ o, (w1.alloc o).cell? ⟨W.heap.size, 0, none⟩ = some (.int .u8 l) := fun o => ((Ch.refl No w1).alloc o).cell (hw1.cell (by simp) (fun h => h)) (fun h => h)
  have a1' : ∀ o, (w1.alloc o).cell? ⟨W.heap.size, 1, none⟩ = some (.int .u16 c) := fun o => ((Ch.refl No w1).alloc o).cell (hw1.cell (by simp) (fun h => h)) (fun h => h)
  have b0' : ∀ o, (w1.alloc o).cell? ⟨W.heap.size + 1, 0, none⟩ = some (.int .u8 m) := fun o => ((Ch.refl No w1).alloc o).cell (hw1.cell (by simp) (fun h => h)) (fun h => h)
  have b1' : ∀ o, (w1.alloc o).cell? ⟨W.heap.size + 1, 1, none⟩ = some (.int .u16 k) := fun o => ((Ch.refl No w1).alloc o).cell (hw1.cell (by simp) (fun h => h)) (fun h => h)
  go_wp2_with fail
  refine (hDom _).mono ?_
  rintro e w2 ⟨rfl, hw2⟩
  go_wp2_with fail
  have a0 : w2.cell? ⟨W.heap.size, 0, none⟩ = some (.int .u8 l) := hw2.cell (((Ch.refl No w1).alloc _).cell (hw1.cell (by simp) (fun h => h)) (fun h => h)) (fun h => h)
  have a1 : w2.cell? ⟨W.heap.size, 1, none⟩ = some (.int .u16 c) := hw2.cell (((Ch.refl No w1).alloc _).cell (hw1.cell (by simp) (fun h => h)) (fun h => h)) (fun h => h)
  have b0 : w2.cell? ⟨W.heap.size + 1, 0, none⟩ = some (.int .u8 m) := hw2.cell (((Ch.refl No w1).alloc _).cell (hw1.cell (by simp) (fun h => h)) (fun h => h)) (fun h => h)
  have b1 : w2.cell? ⟨W.heap.size + 1, 1, none⟩ = some (.int .u16 k) := hw2.cell (((Ch.refl No w1).alloc _).cell (hw1.cell (by simp) (fun h => h)) (fun h => h)) (fun h => h)
  have t0 : w2.cell? ⟨w1.heap.size, 0, none⟩ = some (.int .u8 15) := hw2.cell (by simp) (fun h => h)
  have t1 : w2.cell? ⟨w1.heap.size, 1, none⟩ = some (.int .u16 65535) := hw2.cell (by simp) (fun h => h)
  have C2 : Ch No W w2 := Ch.trans ((Ch.trans (((Ch.refl No W).alloc _).alloc _) hw1).alloc _) hw2
  generalize W.heap.size = g0 at *
  generalize w1.heap.size = g1 at *
  clear hw1 hw2 a0' a1' b0' b1'
  replace a0 := in_cell a0
  replace a1 := in_cell a1
  replace b0 := in_cell b0
  replace b1 := in_cell b1
  replace t0 := in_cell t0
  replace t1 := in_cell t1
  by_cases h15 : 15 < l
  · have hK' : ∀ w, Calls Try.prog 30 #[.agg #[.int .u8 l, .int .u16 c]] w fun e w' => e = .returned (.int .i64 23) ∧ Ch No w w' := by simpa [h15] using hK
    (refine wp_region_in (Ch No _) (by kernel_rfl) (by kernel_rfl) (Ch.refl _ _) (fun _ h => ch_drawn h) ?_)
    repeat (go_big_quiet_step (exact in_ch (by with_reducible first | exact hDom _ | exact hNone _ | exact hLx _ | exact hLy _ | exact hN1 _ | exact hN2 _ | exact hJ _ | exact hM _ | exact hK' _)))
    cases x <;> cases y <;> cases e4
    all_goals
      repeat (go_big_quiet_step (exact in_ch (by with_reducible first | exact hDom _ | exact hNone _ | exact hLx _ | exact hLy _ | exact hN1 _ | exact hN2 _ | exact hJ _ | exact hM _ | exact hK' _)))
      (refine wpQuiet_nil ?_; intro wq0 hw'; obtain ⟨pw, hw''⟩ := hw'; subst hw'')
      go_wp2
      go_ret
      exact ⟨rfl, Ch.trans C2 pw.h⟩
  · have hK' : ∀ w, Calls Try.prog 30 #[.agg #[.int .u8 l, .int .u16 c]] w fun e w' => e = .returned (.int .i64 0) ∧ Ch No w w' := by simpa [h15] using hK
    have hT' := hTop (by omega)
    (refine wp_region_in (Ch No _) (by kernel_rfl) (by kernel_rfl) (Ch.refl _ _) (fun _ h => ch_drawn h) ?_)
    repeat (go_big_quiet_step (exact in_ch (by with_reducible first | exact hDom _ | exact hT' _ | exact hNone _ | exact hLx _ | exact hLy _ | exact hN1 _ | exact hN2 _ | exact hJ _ | exact hM _ | exact hK' _)))
    cases x <;> cases y <;> cases e4
    all_goals
      repeat (go_big_quiet_step (exact in_ch (by with_reducible first | exact hDom _ | exact hT' _ | exact hNone _ | exact hLx _ | exact hLy _ | exact hN1 _ | exact hN2 _ | exact hJ _ | exact hM _ | exact hK' _)))
      (refine wpQuiet_nil ?_; intro wq0 hw'; obtain ⟨pw, hw''⟩ := hw'; subst hw'')
      go_wp2
      go_ret
      exact ⟨rfl, Ch.trans C2 pw.h⟩

theorem labelBits_walk (W : World) (cs0 cs1 : Array Value) (r0 : Rd Try.prog W 8 38 cs0.toList) (r1 : Rd Try.prog W 8 38 cs1.toList) :
    Calls Try.prog 12 #[.agg cs0, .agg cs1] W fun e w' => e = .returned (.bool true) ∧ Below W.heap.size W w' := by
  obtain ⟨l, c, rfl, hl, hc⟩ := label_arg r0
  obtain ⟨m, d, rfl, hm, hd⟩ := label_arg r1
  exact (labelBits_core W l c m d hl hc hm hd).mono fun e w' ⟨h1, h2⟩ => ⟨h1, h2.same⟩
end Go.Proofs.Ytjjeafedlnfhfaa
