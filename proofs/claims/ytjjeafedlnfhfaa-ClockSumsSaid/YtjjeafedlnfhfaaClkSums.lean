/- ClockSums: ticks in whichever order end at the same time: the walk. -/
import Derived.Test.YtjjeafedlnfhfaaClkWalk
import Derived.Test.YtjjeafedlnfhfaaNum
namespace Go.Proofs.Ytjjeafedlnfhfaa
open Go.RowKit

/-- all that is above nought, together -/
def psum : List Int → Int
  | [] => 0
  | x :: xs => (if x < 0 then 0 else x) + psum xs
theorem psum_nn (xs : List Int) : 0 ≤ psum xs := by
  induction xs with
  | nil => simp [psum]
  | cons x xs ih => simp only [psum]; split <;> omega
theorem psum_append (xs ys : List Int) : psum (xs ++ ys) = psum xs + psum ys := by
  induction xs with
  | nil => simp [psum]
  | cons x xs ih => simp only [List.cons_append, psum, ih]; omega
/-- up to the end -/
def capT (s : Int) : Int := if s ≤ 1125899906842624 then s else 1125899906842624
theorem later_cap (s x : Int) (_hs : 0 ≤ s) : later (capT s) x = capT (s + if x < 0 then 0 else x) := by
  unfold later capT
  grind
theorem later_mn (s m n : Int) (hm : 0 ≤ m) (hn : 0 ≤ n) : later (later s m) n = later s (m + n) := by
  unfold later
  grind

set_option maxHeartbeats 1000000 in
theorem clockSums_walk (W : World) (A : Option Addr) (c : Nat) (xs : List Int) (m n : Int) (h : Cls W A (ints .i64 xs))
    (_hcap : xs.length ≤ c) (hbytes : xs.length * 8 ≤ 140737488351232) (_hw : ∀ x ∈ xs, (Lit.int .i64 x).wf = true) (_hm : (Lit.int .i64 m).wf = true) (_hn : (Lit.int .i64 n).wf = true) :
    Calls Try.prog 7 #[.slice A xs.length c, .int .i64 m, .int .i64 n] W fun e w' => e = .returned (.bool true) ∧ Below W.heap.size W w' := by
  have hl : xs.length ≤ 9223372036854775807 := by omega
  have q1 : bits .and .i64 m 1125899906842623 = m % 1125899906842624 := i64_mask m 50 (by decide)
  have q2 : bits .and .i64 n 1125899906842623 = n % 1125899906842624 := i64_mask n 50 (by decide)
  have m0 : 0 ≤ m % 1125899906842624 := Int.emod_nonneg _ (by decide)
  have m1 : m % 1125899906842624 < 1125899906842624 := Int.emod_lt_of_pos _ (by decide)
  have n0 : 0 ≤ n % 1125899906842624 := Int.emod_nonneg _ (by decide)
  have n1 : n % 1125899906842624 < 1125899906842624 := Int.emod_lt_of_pos _ (by decide)
  go_enter Try.func7, Try.ntmps7
  go_wp2_with fail
  refine (clkAlive_any _).mono ?_
  rintro e w1 ⟨rfl, hb1⟩
  by_cases hlen : 100 < xs.length
  · go_wp2_with fail
    go_ret
    exact ⟨rfl, hb1⟩
  · have C1 := (((Clk.new w1).alloc (.cells #[.int .i64 0] 25)).alloc (.cells #[.int .i64 0] 25))
    have C2 := (Clk.new (w1.alloc (.cells #[.int .i64 0] 25))).alloc (.cells #[.int .i64 0] 25)
    have C3 := Clk.new ((w1.alloc (.cells #[.int .i64 0] 25)).alloc (.cells #[.int .i64 0] 25))
    have B0 := ((hb1.alloc hb1.size (.cells #[.int .i64 0] 25)).alloc (by have := hb1.size; simp; omega) (.cells #[.int .i64 0] 25)).alloc (by have := hb1.size; simp; omega) (.cells #[.int .i64 0] 25)
    have hz := hb1.size
    have HC := Lib.hid (And.intro C1 (And.intro C2 (And.intro C3 B0)))
    clear C1 C2 C3 B0 hb1
    have HQ := Lib.hid (And.intro q1 q2)
    clear q1 q2
    go_wp2_with fail
    go_loopw [20] (fun i wr => ∃ (pre post : List Int), Hid (xs = pre ++ post) ∧ pre.length ≤ xs.length ∧ i = .int .i64 pre.length ∧ Clk wr w1.heap.size (capT (psum pre)) ∧ Clk wr (w1.heap.size + 1) (capT (psum (xs.drop (xs.length - pre.length)))) ∧ Clk wr (w1.heap.size + 1 + 1) (capT (psum pre)) ∧ Below W.heap.size W wr) (fun i _ => xs.length - (intOf i).toNat)
    case atStart =>
      obtain ⟨C1, C2, C3, B0⟩ := HC.out
      simp at C2 C3
      exact ⟨[], xs, rfl, by simp, rfl, C1, by simpa [psum, capT] using C2, C3, B0⟩
    case round =>
      obtain ⟨pre, post, hx, hle, rfl, ha, hb, hc, hB⟩ := hrel
      clear HC
      cases post with
      | nil =>
        have hlt : ¬ pre.length < xs.length := by have := hx.out; subst this; simp
        obtain rfl : pre = xs := by have := hx.out; simpa using this.symm
        rw [Nat.sub_self, List.drop_zero] at hb
        go_wp2_with fail
        refine (Now_any _ _ _ ha).mono ?_
        rintro e w5 ⟨rfl, rfl⟩
        go_wp2_with fail
        refine (Now_any _ _ _ hb).mono ?_
        rintro e w5 ⟨rfl, rfl⟩
        go_wp2_with fail
        refine (Now_any _ _ _ ha).mono ?_
        rintro e w5 ⟨rfl, rfl⟩
        go_wp2_with fail
        refine (Now_any _ _ _ hc).mono ?_
        rintro e w5 ⟨rfl, rfl⟩
        generalize capT (psum pre) = s at *
        obtain ⟨q1, q2⟩ := HQ.out
        go_wp2_with fail
        clear q1 q2
        have hmn := later_mn s _ _ m0 n0
        generalize m % 1125899906842624 = x at *
        generalize n % 1125899906842624 = y at *
        have HM := Lib.hid hmn
        clear hmn HQ
        refine (After_any _ s (x + y) _ ha).mono ?_
        rintro e w5 ⟨rfl, k1, rfl⟩
        rw [← HM.out]
        go_wp2_with fail
        refine (Tick_any _ s x _ (ha.drewN _)).mono ?_
        rintro e w6 ⟨rfl, ha6, hw6⟩
        have B6 := Ch.to_below1 (below_drewN hB k1) hw6 hB.size hz
        go_wp2_with fail
        refine (After_any _ _ y _ ha6).mono ?_
        rintro e w7 ⟨rfl, k2, rfl⟩
        go_wp2_with fail
        refine (Now_any _ _ _ (ha6.drewN _)).mono ?_
        rintro e w7 ⟨rfl, rfl⟩
        go_wp2_with fail
        refine (Past_any _ _ _ _ (ha6.drewN _)).mono ?_
        rintro e w7 ⟨rfl, rfl⟩
        go_wp2_with fail
        refine (Now_any _ _ _ (ha6.drewN _)).mono ?_
        rintro e w7 ⟨rfl, rfl⟩
        have l0 := ha6.lo
        have l1 := ha6.hi
        go_wp2_with fail
        refine (Past_any _ _ _ _ (ha6.drewN _)).mono ?_
        rintro e w7 ⟨rfl, rfl⟩
        go_wp2_with fail
        all_goals
          go_ret
          exact ⟨by first | rfl | (simp; done) | (simp; omega), below_drewN B6 _⟩
      | cons x post =>
        have hlt : pre.length < xs.length := by have := hx.out; subst this; simp
        have hj : xs.length - 1 - pre.length < xs.length := by omega
        obtain ⟨blk, off, hA, hcx⟩ := (h.below hB).at hx.out
        have hcy : ∀ w', Below W.heap.size W w' → w'.cell? ⟨blk, off + (xs.length - 1 - pre.length), none⟩ = some (.int .i64 xs[xs.length - 1 - pre.length]) := by
          intro w' hb'
          obtain ⟨blk', off', hA', hcy⟩ := (h.below hb').get (xs.length - 1 - pre.length) hj
          rw [hA] at hA'
          obtain ⟨rfl, rfl⟩ : blk = blk' ∧ off = off' := by simpa using hA'
          exact hcy
        have hs : psum (xs.drop (xs.length - (pre.length + 1))) = (if xs[xs.length - 1 - pre.length] < 0 then 0 else xs[xs.length - 1 - pre.length]) + psum (xs.drop (xs.length - pre.length)) := by
          rw [show xs.length - (pre.length + 1) = xs.length - 1 - pre.length from by omega, List.drop_eq_getElem_cons hj, psum, show xs.length - 1 - pre.length + 1 = xs.length - pre.length from by omega]
        generalize xs[xs.length - 1 - pre.length] = y at *
        have hps : psum (pre ++ [x]) = psum pre + if x < 0 then 0 else x := by rw [psum_append]; simp [psum]
        have HS := Lib.hid (And.intro hs hps)
        have HY := Lib.hid hcy
        clear hs hps hcy
        subst hA
        have n1 := psum_nn pre
        have n2 := psum_nn (xs.drop (xs.length - pre.length))
        go_wp2_with fail
        refine (Tick_any _ _ x _ ha).mono ?_
        rintro e w5 ⟨rfl, ha5, hw5⟩
        rw [later_cap _ _ n1] at ha5
        have B5 := Ch.to_below1 hB hw5 hB.size hz
        have hcy5 := HY.out w5 B5
        have hb5 := hb.ch hw5 (by simp [Only] <;> omega)
        have hc5 := hc.ch hw5 (by simp [Only] <;> omega)
        clear hw5 ha hb hc hB hcx
        go_wp2_with fail
        refine (Tick_any _ _ y _ hb5).mono ?_
        rintro e w6 ⟨rfl, hb6, hw6⟩
        rw [later_cap _ _ n2] at hb6
        have B6 := Ch.to_below1 B5 hw6 B5.size (by omega)
        have ha6 := ha5.ch hw6 (by simp [Only] <;> omega)
        have hc6 := hc5.ch hw6 (by simp [Only] <;> omega)
        clear hw6 B5 ha5 hb5 hc5 hcy5
        rw [Int.add_comm, ← HS.out.1] at hb6
        rw [← HS.out.2] at ha6
        by_cases hx0 : 0 < x
        · go_wp2_with fail
          refine (Tick_any _ _ x _ hc6).mono ?_
          rintro e w7 ⟨rfl, hc7, hw7⟩
          rw [later_cap _ _ n1, ← HS.out.2] at hc7
          have B7 := Ch.to_below1 B6 hw7 B6.size (by omega)
          have ha7 := ha6.ch hw7 (by simp [Only] <;> omega)
          have hb7 := hb6.ch hw7 (by simp [Only] <;> omega)
          clear hw7
          go_wp2_with fail
          all_goals
            go_roundw
            case rel => exact ⟨pre ++ [x], post, by rw [Hid, hx.out]; simp, by simp; omega, by simp, ha7, by simpa using hb7, hc7, B7⟩
            case measure => simp [intOf]; omega
        · go_wp2_with fail
          all_goals
            go_roundw
            case rel =>
              have hc7 : Clk w6 (w1.heap.size + 1 + 1) (capT (psum (pre ++ [x]))) := by
                rw [HS.out.2]
                have e0 : (if x < 0 then 0 else x) = 0 := by split <;> omega
                rw [e0, Int.add_zero]
                exact hc6
              exact ⟨pre ++ [x], post, by rw [Hid, hx.out]; simp, by simp; omega, by simp, ha6, by simpa using hb6, hc7, B6⟩
            case measure => simp [intOf]; omega
end Go.Proofs.Ytjjeafedlnfhfaa
