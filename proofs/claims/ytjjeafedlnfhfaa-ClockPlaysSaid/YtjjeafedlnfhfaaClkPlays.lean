/- ClockPlays: of all rows of ticks every time is as said: the walk. -/
import Derived.Test.YtjjeafedlnfhfaaClkWalk
namespace Go.Proofs.Ytjjeafedlnfhfaa
open Go.RowKit

set_option maxHeartbeats 1000000 in
theorem clockPlays_walk (W : World) (A : Option Addr) (c : Nat) (xs : List Int) (n at_ : Int) (h : Cls W A (ints .i64 xs))
    (_hcap : xs.length ≤ c) (hbytes : xs.length * 8 ≤ 140737488351232) (_hw : ∀ x ∈ xs, (Lit.int .i64 x).wf = true) (_hn : (Lit.int .i64 n).wf = true) (_ha : (Lit.int .i64 at_).wf = true) :
    Calls Try.prog 3 #[.slice A xs.length c, .int .i64 n, .int .i64 at_] W fun e w' => e = .returned (.bool true) ∧ Below W.heap.size W w' := by
  have hl : xs.length ≤ 9223372036854775807 := by omega
  go_enter Try.func3, Try.ntmps3
  go_wp2_with fail
  refine (clkAlive_any _).mono ?_
  rintro e w1 ⟨rfl, hb1⟩
  by_cases hlen : 100 < xs.length
  · go_wp2_with fail
    go_ret
    exact ⟨rfl, hb1⟩
  · go_wp2_with fail
    go_loopw [8, 18] (fun o i wr => ∃ (pre post : List Int) (now : Int), Hid (xs = pre ++ post) ∧ pre.length ≤ xs.length ∧ o = .int .i64 now ∧ i = .int .i64 pre.length ∧ Clk wr w1.heap.size now ∧ Below W.heap.size W wr) (fun _ i _ => xs.length - (intOf i).toNat)
    case atStart => exact ⟨[], xs, 0, rfl, by simp, rfl, rfl, Clk.new _, hb1.alloc hb1.size _⟩
    case round =>
      obtain ⟨pre, post, now, hx, hle, rfl, rfl, hc, hb⟩ := hrel
      cases post with
      | nil =>
        have hlt : ¬ pre.length < xs.length := by have := hx.out; subst this; simp
        go_wp2_with fail
        refine (Least_any _ _ xs _ (h.below hb) hl).mono ?_
        rintro e w2 ⟨rfl, rfl⟩
        go_wp2_with fail
        refine (refLeast_any _ _ xs _ (h.below hb) hl).mono ?_
        rintro e w2 ⟨rfl, rfl⟩
        go_wp2_with fail
        go_ret
        exact ⟨by simp, hb⟩
      | cons x post =>
        have hlt : pre.length < xs.length := by have := hx.out; subst this; simp
        obtain ⟨b, off, rfl, hcx⟩ := (h.below hb).at hx.out
        go_wp2_with fail
        refine (Later_any now x _ hc.lo hc.hi).mono ?_
        rintro e w2 ⟨rfl, rfl⟩
        go_wp2_with fail
        refine (After_any _ now x _ hc).mono ?_
        rintro e w2 ⟨rfl, k1, rfl⟩
        go_wp2_with fail
        refine (Tick_any _ now x _ (hc.drewN _)).mono ?_
        rintro e w2 ⟨rfl, hc2, hw2⟩
        go_wp2_with fail
        refine (Now_any _ _ _ hc2).mono ?_
        rintro e w3 ⟨rfl, rfl⟩
        go_wp2_with fail
        refine (After_any _ _ n _ hc2).mono ?_
        rintro e w3 ⟨rfl, k2, rfl⟩
        go_wp2_with fail
        refine (Later_any _ n _ hc2.lo hc2.hi).mono ?_
        rintro e w3 ⟨rfl, rfl⟩
        go_wp2_with fail
        refine (Past_any _ _ at_ _ (hc2.drewN _)).mono ?_
        rintro e w3 ⟨rfl, rfl⟩
        go_wp2_with fail
        all_goals
          go_roundw
          case rel => exact ⟨pre ++ [x], post, _, by rw [Hid, hx.out]; simp, by simp; omega, rfl, by simp, hc2.drewN _, below_drewN (Ch.to_below1 (below_drewN hb k1) hw2 hb.size hb1.size) k2⟩
          case measure => simp [intOf]; omega
end Go.Proofs.Ytjjeafedlnfhfaa
