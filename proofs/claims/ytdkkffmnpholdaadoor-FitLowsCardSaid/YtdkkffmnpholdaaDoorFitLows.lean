/- FitLows: the lowest bits of a sum and of a product; signs: the walk. -/
import Derived.Test.YtdkkffmnpholdaaDoorFitPlain
import Derived.Test.YtdkkffmnpholdaaDoorRead
namespace Go.Proofs.YtdkkffmnpholdaaDoor
open Go.RowKit

/-- the lowest bits, m below 64, of whatever is spelt as a number -/
theorem Low_sp (v : Int) (x m r : Nat) (h : v = x) (hx : x < 2 ^ 64) (hm : m ≤ 64) (hr : x % 2 ^ m = r) (w : World) : Calls Tryd.prog 18 #[.int .u64 v, .int .i64 m] w fun e w' => e = .returned (.int .u64 r) ∧ w = w' := by
  subst h
  have q := Low_any x m w hx
  rw [lowB_nat x m hm, hr] at q
  exact q

set_option maxHeartbeats 4000000 in
set_option maxRecDepth 100000 in
theorem fitLows_core (W : World) (a b : Nat) (m0 n0 : Int) (ha : a < 18446744073709551616) (hb : b < 18446744073709551616) (hT : TabAt 0 Lib.deBruijn64tab W) :
    Calls Tryd.prog 6 #[.int .u64 a, .int .u64 b, .int .i64 m0, .int .i64 n0] W fun e w' => e = .returned (.bool true) ∧ Ch No W w' := by
  have al := fitAlive_any W hT
  clear hT
  obtain ⟨m, hm, _, e1⟩ := and63 m0
  obtain ⟨n, hn, _, e2⟩ := and63 n0
  replace e1 := e1.symm
  replace e2 := e2.symm
  obtain ⟨x, hx⟩ : ∃ x, a % 2 ^ m = x := ⟨_, rfl⟩
  obtain ⟨y, hy⟩ : ∃ y, b % 2 ^ m = y := ⟨_, rfl⟩
  obtain ⟨X1, h1⟩ : ∃ r, (a + b) % 2 ^ m = r := ⟨_, rfl⟩
  obtain ⟨X2, h2⟩ : ∃ r, (a * b) % 2 ^ m = r := ⟨_, rfl⟩
  obtain ⟨X3, h3⟩ : ∃ r, x % 2 ^ n = r := ⟨_, rfl⟩
  have hp : 2 ^ m ≤ 2 ^ 63 := Nat.pow_le_pow_right (by decide) (by omega)
  have hxl : x < 9223372036854775808 := by rw [← hx]; exact Nat.lt_of_lt_of_le (Nat.mod_lt _ (Nat.two_pow_pos m)) hp
  have hyl : y < 9223372036854775808 := by rw [← hy]; exact Nat.lt_of_lt_of_le (Nat.mod_lt _ (Nat.two_pow_pos m)) hp
  have lt64 : ∀ z : Nat, z % 18446744073709551616 < 2 ^ 64 := fun z => Nat.mod_lt _ (by decide)
  have c1 := Low_sp (IntKind.u64.wrap ((a : Int) + b)) ((a + b) % 18446744073709551616) m X1 (wrapU _ _ (by simp)) (lt64 _) (by omega) (by rw [mod64_mod _ _ (by omega), h1])
  have c2 := Low_sp (a : Int) a m x rfl ha (by omega) hx
  have c3 := Low_sp (b : Int) b m y rfl hb (by omega) hy
  have c4 := Low_sp ((x : Int) + y) (x + y) m X1 (by simp) (by omega) (by omega) (by rw [← hx, ← hy, ← h1, ← Nat.add_mod])
  have c5 := Low_sp (IntKind.u64.wrap ((a : Int) * b)) ((a * b) % 18446744073709551616) m X2 (wrapU _ _ (by simp)) (lt64 _) (by omega) (by rw [mod64_mod _ _ (by omega), h2])
  have c6 := Low_sp (IntKind.u64.wrap ((x : Int) * y)) ((x * y) % 18446744073709551616) m X2 (wrapU _ _ (by simp)) (lt64 _) (by omega) (by rw [mod64_mod _ _ (by omega), ← hx, ← hy, ← h2, ← Nat.mul_mod])
  have c7 := Low_sp (x : Int) x n X3 rfl (by omega) (by omega) h3
  have c8 := Low_sp (a : Int) a (min m n) X3 rfl ha (by omega) (by rw [← mod_min, hx, h3])
  have HC := Lib.hid (And.intro c1 (And.intro c2 (And.intro c3 (And.intro c4 (And.intro c5 (And.intro c6 (And.intro c7 c8)))))))
  clear c1 c2 c3 c4 c5 c6 c7 c8 lt64 hp
  obtain ⟨u, hu1, hu2, hu3⟩ := sgn_low a m (by omega)
  have c9 := fun w => Sign_any a m w
  have c10 := fun w => Sign_any u m w
  rw [hld_nat m (by omega)] at c9 c10
  rw [show sgn u m = sgn a m from by rw [← sgn_mod u, hu3, sgn_mod]] at c10
  have c11 := Low_sp (u : Int) u m x rfl hu2 (by omega) (by rw [hu3, hx])
  have hb0 : m = 0 → sgn a m = 0 := fun h => by rw [h]; rfl
  have hb1 := sgn_bounds a m
  obtain ⟨s, hs⟩ : ∃ s, sgn a m = s := ⟨_, rfl⟩
  rw [hs] at c9 c10 hu1 hb0 hb1
  have HD := Lib.hid (And.intro c9 (And.intro c10 c11))
  clear c9 c10 c11 hs
  have hpp : 2 ^ (m - 1) ≤ 2 ^ 62 := Nat.pow_le_pow_right (by decide) (by omega)
  have hpi : ((2 : Int) ^ (m - 1)) = ((2 ^ (m - 1) : Nat) : Int) := by rw [Int.natCast_pow]; rfl
  clear hx hy h1 h2 h3 hu3
  have c8 := HC.out.2.2.2.2.2.2.2
  have hmn : (n < m ∧ min m n = n) ∨ (m ≤ n ∧ min m n = m) := by omega
  rcases hmn with ⟨hmn, hmn2⟩ | ⟨hmn, hmn2⟩
  all_goals
    rw [hmn2] at c8
    have HE := Lib.hid c8
    clear c8 hmn2
    go_enter Tryd.func6, Tryd.ntmps6
    go_wp2_with fail
    refine al.mono ?_
    rintro e w1 ⟨rfl, h1⟩
    have H1 := Lib.hid h1
    clear h1 al
    go_wp2_with fail
    refine (HC.out.1 _).mono ?_
    rintro e w2 ⟨rfl, rfl⟩
    go_wp2_with fail
    refine (HC.out.2.1 _).mono ?_
    rintro e w2 ⟨rfl, rfl⟩
    go_wp2_with fail
    refine (HC.out.2.2.1 _).mono ?_
    rintro e w2 ⟨rfl, rfl⟩
    go_wp2_with fail
    refine (HC.out.2.2.2.1 _).mono ?_
    rintro e w2 ⟨rfl, rfl⟩
    go_wp2_with fail
    refine (HC.out.2.2.2.2.1 _).mono ?_
    rintro e w2 ⟨rfl, rfl⟩
    go_wp2_with fail
    refine (HC.out.2.1 _).mono ?_
    rintro e w2 ⟨rfl, rfl⟩
    go_wp2_with fail
    refine (HC.out.2.2.1 _).mono ?_
    rintro e w2 ⟨rfl, rfl⟩
    go_wp2_with fail
    refine (HC.out.2.2.2.2.2.1 _).mono ?_
    rintro e w2 ⟨rfl, rfl⟩
    go_wp2_with fail
    refine (HC.out.2.1 _).mono ?_
    rintro e w2 ⟨rfl, rfl⟩
    go_wp2_with fail
    refine (HC.out.2.2.2.2.2.2.1 _).mono ?_
    rintro e w2 ⟨rfl, rfl⟩
    go_wp2_with fail
    refine (HE.out _).mono ?_
    rintro e w2 ⟨rfl, rfl⟩
    clear HE
    go_wp2_with fail
    refine (HD.out.1 _).mono ?_
    rintro e w2 ⟨rfl, rfl⟩
    go_wp2_with fail
    refine (HD.out.2.1 _).mono ?_
    rintro e w2 ⟨rfl, rfl⟩
    go_wp2_with fail
    refine (HD.out.2.2 _).mono ?_
    rintro e w2 ⟨rfl, rfl⟩
    go_wp2_with fail
    refine (HC.out.2.1 _).mono ?_
    rintro e w2 ⟨rfl, rfl⟩
    clear HC HD
    rcases Nat.eq_zero_or_pos m with hm0 | hm0
    · have hs0 := hb0 hm0
      have hm1 : m ≤ 0 := by omega
      have hs1 : s ≤ 0 := by omega
      have hs2 : 0 ≤ s := by omega
      clear hb0 hb1 hpp hpi hm0 hs0
      go_wp2_with fail
      try
        go_ret
        exact ⟨rfl, H1.out⟩
    · obtain ⟨hb2, hb3⟩ := hb1 hm0
      clear hb0 hb1
      obtain ⟨k, hk⟩ : ∃ k : Nat, m - 1 = k := ⟨_, rfl⟩
      rw [hk] at hb2 hb3 hpp hpi
      have hk1 : IntKind.i64.wrap ((m : Int) - 1) = (k : Int) := by rw [IntKind.wrap_i64]; omega
      have hk2 : (m : Int) - 1 = (k : Int) := by omega
      have hk0 : k ≤ 62 := by omega
      clear hk
      have z1 : ¬ s < wrap64 (-(2 : Int) ^ k) := by
        rw [hpi]
        generalize 2 ^ k = q at *
        unfold wrap64
        omega
      have z2 : decide (s < wrap64 ((2 : Int) ^ k)) = true := by
        rw [hpi]
        generalize 2 ^ k = q at *
        unfold wrap64
        exact decide_eq_true (by omega)
      clear hpp hpi hb2 hb3
      have HZ := Lib.hid z2
      clear z2
      go_wp2_with fail
      go_ret
      exact ⟨ret_bool HZ.out, H1.out⟩
theorem fitLows_walk (W : World) (a0 a1 a2 a3 : Int) (w0 : (Lit.int .u64 a0).wf = true) (w1 : (Lit.int .u64 a1).wf = true) (_w2 : (Lit.int .i64 a2).wf = true) (_w3 : (Lit.int .i64 a3).wf = true) (hT : TabAt 0 Lib.deBruijn64tab W) :
    Calls Tryd.prog 6 #[.int .u64 a0, .int .u64 a1, .int .i64 a2, .int .i64 a3] W fun e w' => e = .returned (.bool true) ∧ Below W.heap.size W w' := by
  obtain ⟨a, rfl, ha⟩ := wf_u64 w0
  obtain ⟨b, rfl, hb⟩ := wf_u64 w1
  exact (fitLows_core W a b a2 a3 ha hb hT).mono fun _ _ ⟨h1, h2⟩ => ⟨h1, h2.same⟩
end Go.Proofs.YtdkkffmnpholdaaDoor
