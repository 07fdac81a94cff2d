/- The clock's functions: what each comes to. -/
import Derived.Test.YtjjeafedlnfhfaaProg
import Derived.Test.YtjjeafedlnfhfaaMem
import Derived.WalkKit
import Derived.WalkSpells
import Derived.WalkLawsBesides
import Derived.Deep.QuietTactic
import Derived.BigQuiet
import Derived.Deep.LoopGhost
import Derived.Lib.Hide
namespace Go.Proofs.Ytjjeafedlnfhfaa
open Go.RowKit

/-- the time that is so much later, from 0 to 2^50 -/
def later (now n : Int) : Int := if n ≤ 0 then now else if 1125899906842624 - now < n then 1125899906842624 else now + n

theorem later_ge (now n : Int) (h : now ≤ 1125899906842624) : now ≤ later now n := by
  unfold later
  split
  · omega
  · split <;> omega
theorem later_le (now n : Int) (h : now ≤ 1125899906842624) : later now n ≤ 1125899906842624 := by
  unfold later
  split
  · omega
  · split <;> omega

/-- block g is a clock that stands at a time -/
structure Clk (w : World) (g : Nat) (now : Int) : Prop where
  blk : Blk w g 25 [.int .i64 now]
  lo : 0 ≤ now
  hi : now ≤ 1125899906842624
theorem Clk.cell {w : World} {g : Nat} {now : Int} (h : Clk w g now) : w.cell? ⟨g, 0, none⟩ = some (.int .i64 now) := h.blk.cell 0
theorem Clk.frozen {w : World} {g : Nat} {now : Int} (h : Clk w g now) : w.frozen? ⟨g, 0, none⟩ = false := h.blk.frozen 0
theorem Clk.lt {w : World} {g : Nat} {now : Int} (h : Clk w g now) : g < w.heap.size := h.blk.lt
theorem Clk.new (w : World) : Clk (w.alloc (.cells #[.int .i64 0] 25)) w.heap.size 0 := ⟨Blk.new w _ _, by omega, by omega⟩
theorem Clk.copy (w : World) {now : Int} (h0 : 0 ≤ now) (h1 : now ≤ 1125899906842624) : Clk (w.alloc (.cells #[.int .i64 now] 25)) w.heap.size now := ⟨Blk.new w _ _, h0, h1⟩
theorem Clk.alloc {w : World} {g : Nat} {now : Int} (h : Clk w g now) (o : Obj) : Clk (w.alloc o) g now := ⟨h.blk.alloc o, h.lo, h.hi⟩
theorem Clk.drewN {w : World} {g : Nat} {now : Int} (h : Clk w g now) (k : Nat) : Clk (w.drewN k) g now := ⟨h.blk.drewN k, h.lo, h.hi⟩
theorem Clk.ch {S : Nat → Prop} {w w' : World} {g : Nat} {now : Int} (h : Clk w g now) (hw : Ch S w w') (hn : ¬ S g) : Clk w' g now := ⟨h.blk.ch hw hn, h.lo, h.hi⟩

set_option maxHeartbeats 400000 in
theorem After_any (g : Nat) (now n : Int) (w : World) (h : Clk w g now) :
    Calls Try.prog 15 #[.pointer (some ⟨g, 0, none⟩), .int .i64 n] w fun e w' => e = .returned (.int .i64 (later now n)) ∧ ∃ k, w' = w.drewN k := by
  have hc := h.cell
  have h0 := h.lo
  have h1 := h.hi
  clear h
  by_cases hn : n < 0
  · go_enter Try.func15, Try.ntmps15
    go_wp2
    go_quiet (fail)
    go_wp2
    go_ret
    exact ⟨ret_i64 (by unfold later; rw [if_pos (by omega)]), _, rfl⟩
  · by_cases hm : 1125899906842624 - now < n
    · go_enter Try.func15, Try.ntmps15
      go_wp2
      go_quiet (fail)
      go_wp2
      go_ret
      exact ⟨ret_i64 (by unfold later; rw [if_neg (by omega), if_pos hm]; omega), _, rfl⟩
    · go_enter Try.func15, Try.ntmps15
      go_wp2
      go_quiet (fail)
      go_wp2
      go_ret
      exact ⟨ret_i64 (by unfold later; (repeat (first | omega | split))), _, rfl⟩

set_option maxHeartbeats 400000 in
theorem Tick_any (g : Nat) (now n : Int) (w : World) (h : Clk w g now) :
    Calls Try.prog 16 #[.pointer (some ⟨g, 0, none⟩), .int .i64 n] w fun e w' => e = .returned (.int .i64 (later now n)) ∧ Clk w' g (later now n) ∧ Ch (Only g) w w' := by
  have hc := h.cell
  have hf := h.frozen
  go_enter Try.func16, Try.ntmps16
  go_wp2_with (go_at_call 15; refine (After_any _ now _ _ h).mono ?_; rintro e w' ⟨rfl, k, rfl⟩)
  go_ret
  have h0 := h.lo
  exact ⟨rfl, ⟨(h.blk.drewN k).set 0 _, by have := later_ge now n h.hi; omega, later_le now n h.hi⟩, ((Ch.refl (Only g) w).drewN k).setCell (p := ⟨g, 0, none⟩) (fun _ => rfl) _⟩

theorem Now_any (g : Nat) (now : Int) (w : World) (h : Clk w g now) :
    Calls Try.prog 17 #[.pointer (some ⟨g, 0, none⟩)] w fun e w' => e = .returned (.int .i64 now) ∧ w = w' := by
  have hc := h.cell
  go_enter Try.func17, Try.ntmps17
  go_wp2
  go_ret
  exact ⟨rfl, rfl⟩

theorem Past_any (g : Nat) (now n : Int) (w : World) (h : Clk w g now) :
    Calls Try.prog 18 #[.pointer (some ⟨g, 0, none⟩), .int .i64 n] w fun e w' => e = .returned (.bool (decide (n ≤ now))) ∧ w = w' := by
  have hc := h.cell
  go_enter Try.func18, Try.ntmps18
  go_wp2
  go_ret
  exact ⟨rfl, rfl⟩

theorem Later_any (now n : Int) (w : World) (h0 : 0 ≤ now) (h1 : now ≤ 1125899906842624) : Calls Try.prog 14 #[.int .i64 now, .int .i64 n] w fun e w' => e = .returned (.int .i64 (later now n)) ∧ w = w' := by
  have key : n ≤ 0 ∨ (0 < n ∧ 1125899906842624 < n) ∨ (0 < n ∧ n ≤ 1125899906842624 ∧ 1125899906842624 - now < n) ∨ (0 < n ∧ n ≤ 1125899906842624 - now) := by omega
  rcases key with h | ⟨h, h'⟩ | ⟨h, h', h''⟩ | ⟨h, h'⟩
  all_goals
    go_enter Try.func14, Try.ntmps14
    go_wp2
    go_ret
    exact ⟨ret_i64 (by unfold later; repeat (first | omega | (split))), rfl⟩

/-- the least time that there is -/
def leastT : List Int → Int → Int
  | [], out => out
  | t :: ts, out => leastT ts (let t' := if t < 0 then 1 else t; if 0 < t' ∧ (out = 0 ∨ t' < out) then t' else out)
set_option maxHeartbeats 400000 in
theorem Least_any (A : Option Addr) (c : Nat) (xs : List Int) (w : World) (h : Cls w A (ints .i64 xs)) (hl : xs.length ≤ 9223372036854775807) :
    Calls Try.prog 19 #[.slice A xs.length c] w fun e w' => e = .returned (.int .i64 (leastT xs 0)) ∧ w = w' := by
  go_enter Try.func19, Try.ntmps19
  go_wp2
  go_loop [3, 8] (fun o i => ∃ (pre post : List Int) (out : Int), Hid (xs = pre ++ post) ∧ pre.length ≤ xs.length ∧ o = .int .i64 out ∧ i = .int .i64 pre.length ∧ Hid (leastT xs 0 = leastT post out)) (fun _ i => xs.length - (intOf i).toNat)
  case atStart => exact ⟨[], xs, 0, rfl, by simp, rfl, rfl, rfl⟩
  case round =>
    obtain ⟨pre, post, out, hx, hle, rfl, rfl, hr⟩ := hrel
    cases post with
    | nil =>
      have hlen : ¬ pre.length < xs.length := by have := hx.out; subst this; simp
      go_wp2
      go_ret
      exact ⟨ret_i64 hr.out.symm, rfl⟩
    | cons x post =>
      have hlen : pre.length < xs.length := by have := hx.out; subst this; simp
      obtain ⟨b, off, rfl, hc⟩ := h.at hx.out
      go_wp2
      all_goals
        go_round
        case rel =>
          refine ⟨pre ++ [x], post, _, by rw [Hid, hx.out]; simp, by simp; omega, rfl, by simp, ?_⟩
          rw [Hid, hr.out, leastT]
          congr 1
          simp only []
          grind
        case measure => simp [intOf]; omega

theorem refLeast_any (A : Option Addr) (c : Nat) (xs : List Int) (w : World) (h : Cls w A (ints .i64 xs)) (hl : xs.length ≤ 9223372036854775807) :
    Calls Try.prog 20 #[.slice A xs.length c] w fun e w' => e = .returned (.int .i64 (leastT xs 0)) ∧ w = w' := by
  go_enter Try.func20, Try.ntmps20
  go_wp2
  go_loop [3, 4] (fun o i => ∃ (pre post : List Int) (out : Int), Hid (xs = pre ++ post) ∧ pre.length ≤ xs.length ∧ o = .int .i64 out ∧ i = .int .i64 pre.length ∧ Hid (leastT xs 0 = leastT post out)) (fun _ i => xs.length - (intOf i).toNat)
  case atStart => exact ⟨[], xs, 0, rfl, by simp, rfl, rfl, rfl⟩
  case round =>
    obtain ⟨pre, post, out, hx, hle, rfl, rfl, hr⟩ := hrel
    cases post with
    | nil =>
      have hlen : ¬ pre.length < xs.length := by have := hx.out; subst this; simp
      go_wp2
      go_ret
      exact ⟨ret_i64 hr.out.symm, rfl⟩
    | cons x post =>
      have hlen : pre.length < xs.length := by have := hx.out; subst this; simp
      obtain ⟨b, off, rfl, hc⟩ := h.at hx.out
      go_wp2
      all_goals
        go_round
        case rel =>
          refine ⟨pre ++ [x], post, _, by rw [Hid, hx.out]; simp, by simp; omega, rfl, by simp, ?_⟩
          rw [Hid, hr.out, leastT]
          congr 1
          simp only []
          grind
        case measure => simp [intOf]; omega

theorem clkAlive_any (w : World) : Calls Try.prog 13 #[] w fun e w' => e = .returned (.bool true) ∧ Below w.heap.size w w' := by
  have l1 : later 0 5 = 5 := by decide
  have l2 : later 5 (-3) = 5 := by decide
  have l3 : later 5 2 = 7 := by decide
  have l4 : leastT [0, 9, 4] 0 = 4 := by decide
  have l5 : leastT [] 0 = 0 := by decide
  go_enter Try.func13, Try.ntmps13
  go_wp2_with fail
  refine (Tick_any _ 0 5 _ (Clk.new _)).mono ?_
  rintro e w1 ⟨rfl, hc1, hw1⟩
  rw [l1] at hc1
  go_wp2_with fail
  refine (Tick_any _ _ (-3) _ hc1).mono ?_
  rintro e w2 ⟨rfl, hc2, hw2⟩
  rw [l2] at hc2
  go_wp2_with fail
  refine (Now_any _ _ _ hc2).mono ?_
  rintro e w3 ⟨rfl, rfl⟩
  go_wp2_with fail
  refine (After_any _ _ 2 _ hc2).mono ?_
  rintro e w3 ⟨rfl, k, rfl⟩
  go_wp2_with fail
  refine (Past_any _ 5 5 _ (hc2.drewN _)).mono ?_
  rintro e w3 ⟨rfl, rfl⟩
  go_wp2_with fail
  refine (Past_any _ 5 6 _ (hc2.drewN _)).mono ?_
  rintro e w3 ⟨rfl, rfl⟩
  go_wp2_with fail
  refine (Least_any _ _ [0, 9, 4] _ (Cls.lit _ _ _) (by decide)).mono ?_
  rintro e w3 ⟨rfl, rfl⟩
  go_wp2_with fail
  refine (Least_any none 0 [] _ (Cls.nil _ _) (by decide)).mono ?_
  rintro e w3 ⟨rfl, rfl⟩
  go_wp2_with fail
  go_ret
  have b0 := (Below.refl w.heap.size w).alloc (Nat.le_refl _) (.cells #[.int .i64 0] 25)
  have b1 := Ch.to_below1 b0 hw1 (by simp) (Nat.le_refl _)
  have b2 := Ch.to_below1 b1 hw2 b1.size (Nat.le_refl _)
  exact ⟨rfl, (below_drewN b2 k).alloc b2.size _⟩
end Go.Proofs.Ytjjeafedlnfhfaa
