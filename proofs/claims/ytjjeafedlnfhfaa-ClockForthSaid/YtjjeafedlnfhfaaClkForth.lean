/- ClockForth: time never goes back, nor beyond its end: the walk. -/
import Derived.Test.YtjjeafedlnfhfaaClkWalk
import Derived.Test.YtjjeafedlnfhfaaNum
namespace Go.Proofs.Ytjjeafedlnfhfaa
open Go.RowKit

theorem later_two (now x y : Int) (hx : 0 ≤ x) (hy : 0 ≤ y) : later (later now x) y = later now (x + y) := by
  unfold later
  grind

set_option maxHeartbeats 1000000 in
theorem clockForth_walk (W : World) (A : Option Addr) (c : Nat) (xs : List Int) (at_ m n : Int) (h : Cls W A (ints .i64 xs))
    (_hcap : xs.length ≤ c) (hbytes : xs.length * 8 ≤ 140737488351232) (_hw : ∀ x ∈ xs, (Lit.int .i64 x).wf = true) (_ha : (Lit.int .i64 at_).wf = true) (_hm : (Lit.int .i64 m).wf = true) (_hn : (Lit.int .i64 n).wf = true) :
    Calls Try.prog 4 #[.slice A xs.length c, .int .i64 at_, .int .i64 m, .int .i64 n] W fun e w' => e = .returned (.bool true) ∧ Below W.heap.size W w' := by
  have hl : xs.length ≤ 9223372036854775807 := by omega
  go_enter Try.func4, Try.ntmps4
  go_wp2_with fail
  refine (clkAlive_any _).mono ?_
  rintro e w1 ⟨rfl, hb1⟩
  by_cases hlen : 100 < xs.length
  · go_wp2_with fail
    go_ret
    exact ⟨rfl, hb1⟩
  · go_wp2_with fail
    go_loopw [10, 11, 27] (fun o u i wr => ∃ (pre post : List Int) (now : Int) (b : Bool), Hid (xs = pre ++ post) ∧ pre.length ≤ xs.length ∧ o = .int .i64 now ∧ u = .bool b ∧ (b = true → at_ ≤ now) ∧ i = .int .i64 pre.length ∧ Clk wr w1.heap.size now ∧ Below W.heap.size W wr) (fun _ _ i _ => xs.length - (intOf i).toNat)
    case atStart => exact ⟨[], xs, 0, false, rfl, by simp, rfl, rfl, by simp, rfl, Clk.new _, hb1.alloc hb1.size _⟩
    case round =>
      obtain ⟨pre, post, now, b, hx, hle, rfl, rfl, hbt, rfl, hc, hb⟩ := hrel
      cases post with
      | nil =>
        have hlt : ¬ pre.length < xs.length := by have := hx.out; subst this; simp
        clear hbt
        have hcl := hc.cell
        have q1 : bits .and .i64 m 16777215 = m % 16777216 := i64_mask m 24 (by decide)
        have q2 : bits .and .i64 n 16777215 = n % 16777216 := i64_mask n 24 (by decide)
        have m0 : 0 ≤ m % 16777216 := Int.emod_nonneg _ (by decide)
        have m1 : m % 16777216 < 16777216 := Int.emod_lt_of_pos _ (by decide)
        have n0 : 0 ≤ n % 16777216 := Int.emod_nonneg _ (by decide)
        have n1 : n % 16777216 < 16777216 := Int.emod_lt_of_pos _ (by decide)
        go_wp2_with fail
        clear q1 q2
        generalize m % 16777216 = x at *
        generalize n % 16777216 = y at *
        refine (Tick_any _ now x _ ((Clk.copy _ hc.lo hc.hi).alloc _)).mono ?_
        rintro e w2 ⟨rfl, hc2, hw2⟩
        have ht := later_two now x y m0 n0
        have hz := hc.lt
        have hcb : Clk w2 (wr.heap.size + 1) now := (show Clk _ (wr.heap.size + 1) now from by simpa using Clk.copy (wr.alloc (.cells #[.int .i64 now] 25)) hc.lo hc.hi).ch hw2 (by simp [Only])
        have hcc := ((hc.alloc (.cells #[.int .i64 now] 25)).alloc (.cells #[.int .i64 now] 25)).ch hw2 (by simp [Only]; omega)
        go_wp2_with fail
        refine (Tick_any _ _ y _ hc2).mono ?_
        rintro e w3 ⟨rfl, hc3, hw3⟩
        go_wp2_with fail
        refine (Tick_any _ now (x + y) _ (hcb.ch hw3 (by simp [Only]))).mono ?_
        rintro e w4 ⟨rfl, hc4, hw4⟩
        have hcc4 := (hcc.ch hw3 (by simp [Only]; omega)).ch hw4 (by simp [Only]; omega)
        have B0 : Below W.heap.size W ((wr.alloc (.cells #[.int .i64 now] 25)).alloc (.cells #[.int .i64 now] 25)) := (hb.alloc hb.size _).alloc (by have := hb.size; simp; omega) _
        have B2 := Ch.to_below1 B0 hw2 B0.size hb.size
        have B3 := Ch.to_below1 B2 hw3 B2.size hb.size
        have B4 := Ch.to_below1 B3 hw4 B3.size (by have := hb.size; omega)
        have HB := Lib.hid B4
        clear B4 B3 B2 B0 hw2 hw3 hw4 hb hb1
        go_wp2_with fail
        refine (Now_any _ _ _ hcc4).mono ?_
        rintro e w5 ⟨rfl, rfl⟩
        go_wp2_with fail
        go_ret
        exact ⟨rfl, HB.out⟩
      | cons x post =>
        have hlt : pre.length < xs.length := by have := hx.out; subst this; simp
        obtain ⟨blk, off, rfl, hcx⟩ := (h.below hb).at hx.out
        go_wp2_with fail
        refine (Tick_any _ now x _ hc).mono ?_
        rintro e w2 ⟨rfl, hc2, hw2⟩
        have l0 := later_ge now x hc.hi
        have l1 := hc2.hi
        generalize later now x = nw at *
        go_wp2_with fail
        refine (Past_any _ _ at_ _ hc2).mono ?_
        rintro e w3 ⟨rfl, rfl⟩
        have hat : b = true → at_ ≤ nw := fun e => by have := hbt e; omega
        clear hbt
        have HA := Lib.hid hat
        cases b
        · clear hat
          go_wp2_with fail
          all_goals
            go_roundw
            case rel => exact ⟨pre ++ [x], post, nw, _, by rw [Hid, hx.out]; simp, by simp; omega, rfl, rfl, by simp, by simp, hc2, Ch.to_below1 hb hw2 hb.size hb1.size⟩
            case measure => simp [intOf]; omega
        · replace hat := hat rfl
          go_wp2_with fail
          all_goals
            go_roundw
            case rel => exact ⟨pre ++ [x], post, nw, _, by rw [Hid, hx.out]; simp, by simp; omega, rfl, rfl, by simp [hat], by simp, hc2, Ch.to_below1 hb hw2 hb.size hb1.size⟩
            case measure => simp [intOf]; omega
end Go.Proofs.Ytjjeafedlnfhfaa
