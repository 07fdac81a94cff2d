/- LabelNumbers: each number below 2^20 is a right label's, whose number it is: the walk. -/
import Derived.Test.YtjjeafedlnfhfaaLabBits
namespace Go.Proofs.Ytjjeafedlnfhfaa
open Go.RowKit

theorem mx_self (a : Nat) : mxN a a = a := Nat.max_self a

set_option maxHeartbeats 4000000 in
set_option maxRecDepth 100000 in
theorem labelNumbers_core (W : World) (n : Nat) (cc : Int) (hn : n < 2 ^ 64) :
    Calls Try.prog 10 #[.int .u64 n, .int .i64 cc] W fun e w' => e = .returned (.bool true) ∧ Ch No W w' := by
  have he := eqlLab
  have m1 : bits .and .u64 (n : Int) 1048575 = ((n % 1048576 : Nat) : Int) := by
    have h := u64_and_nat n 1048575 hn (by omega)
    have h2 : n &&& 1048575 = n % 1048576 := Nat.and_two_pow_sub_one_eq_mod n 20
    rw [h2] at h
    exact h
  obtain ⟨n', hn'⟩ : ∃ n', n % 1048576 = n' := ⟨_, rfl⟩
  have hlt : n' < 1048576 := by omega
  rw [hn'] at m1
  clear hn'
  obtain ⟨l, hl⟩ : ∃ l, frL n' = l := ⟨_, rfl⟩
  obtain ⟨c, hc⟩ : ∃ c, frC n' = c := ⟨_, rfl⟩
  have e0 : frE n' = 0 := by simp [frE, hlt]
  have hl16 : l < 16 := by rw [← hl, frL, if_pos hlt]; omega
  have hc16 : c < 65536 := by rw [← hc, frC, if_pos hlt]; omega
  have hlab : labN l c = n' := by rw [← hl, ← hc, labN, frL, frC, if_pos hlt, if_pos hlt]; omega
  have f0 : ∀ w, Calls Try.prog 22 #[.int .u64 n'] w fun e w' => e = .returned (.tuple #[.agg #[.int .u8 (l : Nat), .int .u16 (c : Nat)], .int .i64 0]) ∧ Ch No w w' := fun w => by
    have := LFrom_any n' w (by omega)
    rw [hl, hc, e0] at this
    exact this
  have f1 : ∀ w, Calls Try.prog 31 #[.agg #[.int .u8 (l : Nat), .int .u16 (c : Nat)]] w fun e w' => e = .returned (.int .u64 n') ∧ Ch No w w' := fun w => by
    have := LNumber_any l c w (by omega) hc16
    rw [hlab] at this
    exact this
  have f2 : ∀ w, Calls Try.prog 30 #[.agg #[.int .u8 (l : Nat), .int .u16 (c : Nat)]] w fun e w' => e = .returned (.int .i64 0) ∧ Ch No w w' := fun w => by
    have := LCheck_any l c w (by omega)
    rw [if_neg (by omega)] at this
    exact this
  obtain ⟨p, hp⟩ : ∃ p : Nat, cc % 16 = (p : Int) := ⟨(cc % 16).toNat, by omega⟩
  have hp16 : p < 16 := by omega
  have s1 : bits .and .i64 cc 15 = (p : Int) := by rw [← hp]; exact i64_mask cc 4 (by omega)
  obtain ⟨q, hq⟩ : ∃ q, 2 ^ p = q := ⟨_, rfl⟩
  have hq16 : q < 65536 := by rw [← hq]; exact Nat.pow_lt_pow_right (by omega) hp16
  have s2 : IntKind.u16.wrap (2 ^ p) = (q : Int) := by
    have : ((2 : Int) ^ p) = (q : Int) := by rw [← hq]; simp
    rw [this]
    rw [IntKind.wrap_u16]
    omega
  have s3 : bits .or .u16 (c : Int) (q : Int) = (orN c q : Int) := u16_or_nat c q hc16 hq16
  go_enter Try.func10, Try.ntmps10
  go_wp2_with fail
  refine (labAlive_any _).mono ?_
  rintro e w1 ⟨rfl, hw1⟩
  go_wp2_with fail
  refine (f0 _).mono ?_
  rintro e w2 ⟨rfl, hw2⟩
  go_wp2_with fail
  refine (f1 _).mono ?_
  rintro e w3 ⟨rfl, hw3⟩
  have x0 : w3.cell? ⟨w2.heap.size, 0, none⟩ = some (.int .u8 l) := hw3.cell (by simp) (fun h => h)
  have x1 : w3.cell? ⟨w2.heap.size, 1, none⟩ = some (.int .u16 c) := hw3.cell (by simp) (fun h => h)
  go_wp2_with fail
  refine (f2 _).mono ?_
  rintro e w4 ⟨rfl, hw4⟩
  have y0 : w4.cell? ⟨w2.heap.size, 0, none⟩ = some (.int .u8 l) := hw4.cell (by assumption) (fun h => h)
  have y1 : w4.cell? ⟨w2.heap.size, 1, none⟩ = some (.int .u16 c) := hw4.cell (by assumption) (fun h => h)
  go_wp2_with fail
  go_region
  obtain ⟨w5, hw5⟩ : ∃ w5, (w4.alloc (.cells #[.int .u8 l, .int .u16 (orN c q : Nat)] 38)).drew = w5 := ⟨_, rfl⟩
  have H5 : Ch No w4 w5 := by rw [← hw5]; exact ((Ch.refl No w4).alloc _).drew
  have z0 : w5.cell? ⟨w4.heap.size, 0, none⟩ = some (.int .u8 l) := by rw [← hw5]; simp
  have z1 : w5.cell? ⟨w4.heap.size, 1, none⟩ = some (.int .u16 (orN c q : Nat)) := by rw [← hw5]; simp
  have u0 : w5.cell? ⟨w2.heap.size, 0, none⟩ = some (.int .u8 l) := H5.cell y0 (fun h => h)
  have u1 : w5.cell? ⟨w2.heap.size, 1, none⟩ = some (.int .u16 c) := H5.cell y1 (fun h => h)
  rw [hw5]
  have s4 : IntKind.u8.wrap ((l : Int) + 1) = ((l + 1 : Nat) : Int) := by rw [IntKind.wrap_u8]; omega
  have s5 : ((l : Int) + 1) = ((l + 1 : Nat) : Int) := by omega
  obtain ⟨l1, hl1⟩ : ∃ l1, l + 1 = l1 := ⟨_, rfl⟩
  rw [hl1] at s4 s5
  go_wp2_with fail
  obtain ⟨w6, hw6⟩ : ∃ w6, w5.alloc (.cells #[.int .u8 l1, .int .u16 c] 38) = w6 := ⟨_, rfl⟩
  have H6 : Ch No w5 w6 := by rw [← hw6]; exact (Ch.refl No w5).alloc _
  have t0 := in_cell (w := w6) (a := ⟨w5.heap.size, 0, none⟩) (v := .int .u8 l1) (by rw [← hw6]; simp)
  have t1 := in_cell (w := w6) (a := ⟨w5.heap.size, 1, none⟩) (v := .int .u16 c) (by rw [← hw6]; simp)
  have t2 := in_cell (H6.cell z0 (fun h => h))
  have t3 := in_cell (H6.cell z1 (fun h => h))
  have t4 := in_cell (H6.cell u0 (fun h => h))
  have t5 := in_cell (H6.cell u1 (fun h => h))
  have C6 : Ch No W w6 := Ch.trans (Ch.trans (Ch.trans ((Ch.trans hw1 hw2).alloc _) hw3) hw4) (Ch.trans H5 H6)
  rw [hw6]
  generalize w5.heap.size = g5 at *
  generalize w4.heap.size = g4 at *
  generalize w2.heap.size = g2 at *
  obtain ⟨d, hd⟩ : ∃ d, domB l c l (orN c q) = d := ⟨_, rfl⟩
  have hoc := orN_lt hc16 hq16
  have k1 := fun w => LDominates_any l (orN c q) l c w hoc hc16
  have k2 := fun w => LDominates_any l c l (orN c q) w hc16 hoc
  have k3 := fun w => LDominates_any l1 c l c w hc16 hc16
  have k4 := fun w => LLess_any l c l1 c w (by omega) hc16 (by omega) hc16
  have k5 := fun w => LJoin_any l (orN c q) l c w hoc hc16
  have k6 := fun w => LMeet_any l1 c l c w hc16 hc16
  have v1 : domB l (orN c q) l c = true := by
    unfold domB orN
    simp
    apply Nat.eq_of_testBit_eq; intro i
    simp only [Nat.testBit_or]
    cases c.testBit i <;> simp
  have v3 : domB l1 c l c = true := by
    unfold domB
    simp
    omega
  have v4 : decide (labN l c < labN l1 c) = true := by
    unfold labN
    simp only [decide_eq_true_eq]
    omega
  have v2 : (((l : Nat) : Int) == (l : Int) && ((orN c q : Nat) : Int) == (c : Int)) = d := by
    rw [← hd, ← dom_eq, mx_self, show orN c (orN c q) = orN c q from by unfold orN; rw [← Nat.or_assoc, Nat.or_self]]
  have v5 : (((mxN l l : Nat) : Int) == (l : Int) && ((orN (orN c q) c : Nat) : Int) == ((orN c q : Nat) : Int)) = true := by
    have h := dom_eq l (orN c q) l c
    rw [v1] at h
    exact h
  have v6 : (((mnN l1 l : Nat) : Int) == (l : Int) && ((anN c c : Nat) : Int) == (c : Int)) = true := by
    have h := dom_meet l1 c l c
    rw [v3] at h
    exact h
  have v2' : (((orN c q : Nat) : Int) == (c : Int)) = d := by
    simpa using v2
  rw [v1] at k1
  rw [hd] at k2
  rw [v3] at k3
  rw [v4] at k4
  clear v1 v3 v4 hw1 hw2 hw3 hw4 hw5 hw6 H5 H6 s1 s2 s3 s4 s5 m1 f0 f1 f2 hp hq hl hc hlab e0 hl1 hd
  (refine wp_region_in (Ch No _) (by kernel_rfl) (by kernel_rfl) (Ch.refl _ _) (fun _ h => ch_drawn h) ?_)
  repeat (go_big_quiet_step (exact in_ch (by with_reducible first | exact k1 _ | exact k2 _ | exact k3 _ | exact k4 _ | exact k5 _ | exact k6 _)))
  (refine wpQuiet_nil ?_; intro wq0 hw'; obtain ⟨pw, hw''⟩ := hw'; subst hw'')
  go_wp2
  go_ret
  exact ⟨rfl, Ch.trans C6 pw.h⟩

theorem labelNumbers_walk (W : World) (a0 a1 : Int) (w0 : (Lit.int .u64 a0).wf = true) (_w1 : (Lit.int .i64 a1).wf = true) :
    Calls Try.prog 10 #[.int .u64 a0, .int .i64 a1] W fun e w' => e = .returned (.bool true) ∧ Below W.heap.size W w' := by
  obtain ⟨n, rfl, hn⟩ := wf_u64 w0
  exact (labelNumbers_core W n a1 hn).mono fun e w' ⟨h1, h2⟩ => ⟨h1, h2.same⟩
end Go.Proofs.Ytjjeafedlnfhfaa
