/- ClockEnds: at its end the time stands: the walk. -/
import Derived.Test.YtjjeafedlnfhfaaClkWalk
import Derived.Test.YtjjeafedlnfhfaaNum
namespace Go.Proofs.Ytjjeafedlnfhfaa
open Go.RowKit

theorem later_first (a : Int) (h0 : 0 ≤ a) (h1 : a ≤ 1125899906842624) : later 0 a = a := by
  unfold later
  grind
theorem later_one (a : Int) (h1 : a < 1125899906842624) : later a 1 = 1 + a := by
  unfold later
  grind
theorem later_end (a : Int) (h0 : 0 < a) : later a 1125899906842624 = 1125899906842624 := by
  unfold later
  grind
theorem later_stand (x : Int) : later 1125899906842624 x = 1125899906842624 := by
  unfold later
  grind

set_option maxHeartbeats 1000000 in
theorem clockEnds_walk (W : World) (A : Option Addr) (c : Nat) (xs : List Int) (at_ : Int) (h : Cls W A (ints .i64 xs))
    (_hcap : xs.length ≤ c) (hbytes : xs.length * 8 ≤ 140737488351232) (_hw : ∀ x ∈ xs, (Lit.int .i64 x).wf = true) (_ha : (Lit.int .i64 at_).wf = true) :
    Calls Try.prog 6 #[.slice A xs.length c, .int .i64 at_] W fun e w' => e = .returned (.bool true) ∧ Below W.heap.size W w' := by
  have hl : xs.length ≤ 9223372036854775807 := by omega
  have q1 : bits .and .i64 at_ 1125899906842623 = at_ % 1125899906842624 := i64_mask at_ 50 (by decide)
  have m0 : 0 ≤ at_ % 1125899906842624 := Int.emod_nonneg _ (by decide)
  have m1 : at_ % 1125899906842624 < 1125899906842624 := Int.emod_lt_of_pos _ (by decide)
  go_enter Try.func6, Try.ntmps6
  go_wp2_with fail
  refine (clkAlive_any _).mono ?_
  rintro e w1 ⟨rfl, hb1⟩
  by_cases hlen : 100 < xs.length
  · go_wp2_with fail
    go_ret
    exact ⟨rfl, hb1⟩
  · go_wp2_with fail
    clear q1
    generalize at_ % 1125899906842624 = a at *
    rw [show 1 + a - 1 = a from by omega]
    refine (Tick_any _ 0 a _ (Clk.new _)).mono ?_
    rintro e w2 ⟨rfl, hc2, hw2⟩
    rw [later_first a m0 (by omega)] at hc2 ⊢
    have B2 := Ch.to_below1 (hb1.alloc hb1.size (.cells #[.int .i64 0] 25)) hw2 (by have := hb1.size; simp; omega) hb1.size
    have HB2 := Lib.hid B2
    have hz := hb1.size
    clear B2 hw2 hb1
    have d1 : decide (1 + a ≤ a) = false := by simp; omega
    have d2 : (a != 1 + a - 1) = false := by simp; omega
    go_wp2_with fail
    refine (Past_any _ _ (1 + a) _ hc2).mono ?_
    rintro e w3 ⟨rfl, rfl⟩
    go_wp2_with fail
    refine (Now_any _ _ _ hc2).mono ?_
    rintro e w3 ⟨rfl, rfl⟩
    go_wp2_with fail
    refine (Tick_any _ a 1 _ hc2).mono ?_
    rintro e w3 ⟨rfl, hc3, hw3⟩
    rw [later_one a m1] at hc3 ⊢
    clear d1 d2
    go_wp2_with fail
    refine (Past_any _ _ (1 + a) _ hc3).mono ?_
    rintro e w4 ⟨rfl, rfl⟩
    go_wp2_with fail
    refine (Tick_any _ (1 + a) 1125899906842624 _ hc3).mono ?_
    rintro e w4 ⟨rfl, hc4, hw4⟩
    rw [later_end (1 + a) (by omega)] at hc4 ⊢
    have B3 := Ch.to_below1 HB2.out hw3 HB2.out.size hz
    have B4 := Ch.to_below1 B3 hw4 B3.size hz
    clear B3 hw3 hw4 HB2 hc2 hc3
    go_wp2_with fail
    go_loopw [38] (fun i wr => ∃ (pre post : List Int), Hid (xs = pre ++ post) ∧ pre.length ≤ xs.length ∧ i = .int .i64 pre.length ∧ Clk wr w1.heap.size 1125899906842624 ∧ Below W.heap.size W wr) (fun i _ => xs.length - (intOf i).toNat)
    case atStart => exact ⟨[], xs, rfl, by simp, rfl, hc4, B4⟩
    case round =>
      obtain ⟨pre, post, hx, hle, rfl, hc, hb⟩ := hrel
      clear B4 hc4
      cases post with
      | nil =>
        have hlt : ¬ pre.length < xs.length := by have := hx.out; subst this; simp
        go_wp2_with fail
        refine (Now_any _ _ _ hc).mono ?_
        rintro e w5 ⟨rfl, rfl⟩
        go_wp2_with fail
        go_ret
        exact ⟨rfl, hb⟩
      | cons x post =>
        have hlt : pre.length < xs.length := by have := hx.out; subst this; simp
        obtain ⟨b, off, rfl, hcx⟩ := (h.below hb).at hx.out
        go_wp2_with fail
        refine (Tick_any _ _ x _ hc).mono ?_
        rintro e w5 ⟨rfl, hc5, hw5⟩
        rw [later_stand] at hc5 ⊢
        go_wp2_with fail
        refine (After_any _ _ x _ hc5).mono ?_
        rintro e w6 ⟨rfl, k, rfl⟩
        rw [later_stand]
        go_wp2_with fail
        all_goals
          go_roundw
          case rel => exact ⟨pre ++ [x], post, by rw [Hid, hx.out]; simp, by simp; omega, by simp, hc5.drewN k, below_drewN (Ch.to_below1 hb hw5 hb.size hz) k⟩
          case measure => simp [intOf]; omega
end Go.Proofs.Ytjjeafedlnfhfaa
