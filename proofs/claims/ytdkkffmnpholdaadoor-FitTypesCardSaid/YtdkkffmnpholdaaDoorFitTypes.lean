/- FitTypes: of all numbers each type's is as the document says: the walk. -/
import Derived.Test.YtdkkffmnpholdaaDoorFitAlive
namespace Go.Proofs.YtdkkffmnpholdaaDoor
open Go.RowKit

theorem Within_any (n lo hi : Int) (w : World) : Calls Tryd.prog 30 #[.int .i64 n, .int .i64 lo, .int .i64 hi] w fun e w' => e = .returned (.bool (decide (lo ≤ n ∧ n ≤ hi))) ∧ w = w' := by
  by_cases h1 : n < lo
  · go_enter Tryd.func30, Tryd.ntmps30
    go_wp2_with fail
    go_ret
    exact ⟨ret_bool (by simp; omega), rfl⟩
  by_cases h2 : hi < n
  · go_enter Tryd.func30, Tryd.ntmps30
    go_wp2_with fail
    go_ret
    exact ⟨ret_bool (by simp), rfl⟩
  · go_enter Tryd.func30, Tryd.ntmps30
    go_wp2_with fail
    go_ret
    exact ⟨ret_bool (by simp), rfl⟩
theorem one_yes (n lo hi : Int) (w : World) : Calls Tryd.prog 16 #[.int .i64 n, .int .i64 (if lo ≤ n ∧ n ≤ hi then n else 0), .bool (decide (lo ≤ n ∧ n ≤ hi)), .int .i64 lo, .int .i64 hi] w fun e w' => e = .returned (.bool true) ∧ w = w' := by
  have q := Within_any n lo hi w
  by_cases h : lo ≤ n ∧ n ≤ hi
  · rw [if_pos h, decide_eq_true h]
    rw [decide_eq_true h] at q
    clear h
    go_enter Tryd.func16, Tryd.ntmps16
    go_wp2_with fail
    refine q.mono ?_
    rintro e w1 ⟨rfl, rfl⟩
    go_wp2_with fail
    go_ret
    exact ⟨rfl, rfl⟩
  · rw [if_neg h, decide_eq_false h]
    rw [decide_eq_false h] at q
    clear h
    go_enter Tryd.func16, Tryd.ntmps16
    go_wp2_with fail
    refine q.mono ?_
    rintro e w1 ⟨rfl, rfl⟩
    go_wp2_with fail
    go_ret
    exact ⟨rfl, rfl⟩
theorem cut_bounds (n lo hi : Int) (h : lo ≤ 0 ∧ 0 ≤ hi) : lo ≤ (if lo ≤ n ∧ n ≤ hi then n else 0) ∧ (if lo ≤ n ∧ n ≤ hi then n else 0) ≤ hi := by split <;> omega

set_option maxHeartbeats 2000000 in
set_option maxRecDepth 100000 in
theorem fitTypes_core (W : World) (n : Int) (hT : TabAt 0 Lib.deBruijn64tab W) :
    Calls Tryd.prog 3 #[.int .i64 n] W fun e w' => e = .returned (.bool true) ∧ Ch No W w' := by
  have al := fitAlive_any W hT
  have t0 : ∃ v ok, (-128 ≤ v ∧ v ≤ 127) ∧ (∀ w, Calls Tryd.prog 10 #[.int .i64 n] w fun e w' => e = .returned (.tuple #[.int .i8 v, .bool ok]) ∧ w = w') ∧ (∀ w, Calls Tryd.prog 16 #[.int .i64 n, .int .i64 v, .bool ok, .int .i64 (-128), .int .i64 127] w fun e w' => e = .returned (.bool true) ∧ w = w') :=
    ⟨_, _, cut_bounds n (-128) 127 ⟨by omega, by omega⟩, fun w => To_i8 n w, fun w => one_yes n (-128) 127 w⟩
  obtain ⟨v0, o0, ⟨l0, u0⟩, hq⟩ := t0
  have Q0 := Lib.hid hq
  clear hq
  have t1 : ∃ v ok, (-32768 ≤ v ∧ v ≤ 32767) ∧ (∀ w, Calls Tryd.prog 11 #[.int .i64 n] w fun e w' => e = .returned (.tuple #[.int .i16 v, .bool ok]) ∧ w = w') ∧ (∀ w, Calls Tryd.prog 16 #[.int .i64 n, .int .i64 v, .bool ok, .int .i64 (-32768), .int .i64 32767] w fun e w' => e = .returned (.bool true) ∧ w = w') :=
    ⟨_, _, cut_bounds n (-32768) 32767 ⟨by omega, by omega⟩, fun w => To_i16 n w, fun w => one_yes n (-32768) 32767 w⟩
  obtain ⟨v1, o1, ⟨l1, u1⟩, hq⟩ := t1
  have Q1 := Lib.hid hq
  clear hq
  have t2 : ∃ v ok, (-2147483648 ≤ v ∧ v ≤ 2147483647) ∧ (∀ w, Calls Tryd.prog 12 #[.int .i64 n] w fun e w' => e = .returned (.tuple #[.int .i32 v, .bool ok]) ∧ w = w') ∧ (∀ w, Calls Tryd.prog 16 #[.int .i64 n, .int .i64 v, .bool ok, .int .i64 (-2147483648), .int .i64 2147483647] w fun e w' => e = .returned (.bool true) ∧ w = w') :=
    ⟨_, _, cut_bounds n (-2147483648) 2147483647 ⟨by omega, by omega⟩, fun w => To_i32 n w, fun w => one_yes n (-2147483648) 2147483647 w⟩
  obtain ⟨v2, o2, ⟨l2, u2⟩, hq⟩ := t2
  have Q2 := Lib.hid hq
  clear hq
  have t3 : ∃ v ok, (0 ≤ v ∧ v ≤ 255) ∧ (∀ w, Calls Tryd.prog 13 #[.int .i64 n] w fun e w' => e = .returned (.tuple #[.int .u8 v, .bool ok]) ∧ w = w') ∧ (∀ w, Calls Tryd.prog 16 #[.int .i64 n, .int .i64 v, .bool ok, .int .i64 (0), .int .i64 255] w fun e w' => e = .returned (.bool true) ∧ w = w') :=
    ⟨_, _, cut_bounds n (0) 255 ⟨by omega, by omega⟩, fun w => To_u8 n w, fun w => one_yes n (0) 255 w⟩
  obtain ⟨v3, o3, ⟨l3, u3⟩, hq⟩ := t3
  have Q3 := Lib.hid hq
  clear hq
  have t4 : ∃ v ok, (0 ≤ v ∧ v ≤ 65535) ∧ (∀ w, Calls Tryd.prog 14 #[.int .i64 n] w fun e w' => e = .returned (.tuple #[.int .u16 v, .bool ok]) ∧ w = w') ∧ (∀ w, Calls Tryd.prog 16 #[.int .i64 n, .int .i64 v, .bool ok, .int .i64 (0), .int .i64 65535] w fun e w' => e = .returned (.bool true) ∧ w = w') :=
    ⟨_, _, cut_bounds n (0) 65535 ⟨by omega, by omega⟩, fun w => To_u16 n w, fun w => one_yes n (0) 65535 w⟩
  obtain ⟨v4, o4, ⟨l4, u4⟩, hq⟩ := t4
  have Q4 := Lib.hid hq
  clear hq
  have t5 : ∃ v ok, (0 ≤ v ∧ v ≤ 4294967295) ∧ (∀ w, Calls Tryd.prog 15 #[.int .i64 n] w fun e w' => e = .returned (.tuple #[.int .u32 v, .bool ok]) ∧ w = w') ∧ (∀ w, Calls Tryd.prog 16 #[.int .i64 n, .int .i64 v, .bool ok, .int .i64 (0), .int .i64 4294967295] w fun e w' => e = .returned (.bool true) ∧ w = w') :=
    ⟨_, _, cut_bounds n (0) 4294967295 ⟨by omega, by omega⟩, fun w => To_u32 n w, fun w => one_yes n (0) 4294967295 w⟩
  obtain ⟨v5, o5, ⟨l5, u5⟩, hq⟩ := t5
  have Q5 := Lib.hid hq
  clear hq
  clear hT
  go_enter Tryd.func3, Tryd.ntmps3
  go_wp2_with fail
  refine al.mono ?_
  rintro e w1 ⟨rfl, h1⟩
  have H1 := Lib.hid h1
  clear h1 al
  go_wp2_with fail
  refine (Q0.out.1 _).mono ?_
  rintro e w2 ⟨rfl, rfl⟩
  go_wp2_with fail
  refine (Q1.out.1 _).mono ?_
  rintro e w2 ⟨rfl, rfl⟩
  go_wp2_with fail
  refine (Q2.out.1 _).mono ?_
  rintro e w2 ⟨rfl, rfl⟩
  go_wp2_with fail
  refine (Q3.out.1 _).mono ?_
  rintro e w2 ⟨rfl, rfl⟩
  go_wp2_with fail
  refine (Q4.out.1 _).mono ?_
  rintro e w2 ⟨rfl, rfl⟩
  go_wp2_with fail
  refine (Q5.out.1 _).mono ?_
  rintro e w2 ⟨rfl, rfl⟩
  go_wp2_with fail
  refine (Q0.out.2 _).mono ?_
  rintro e w2 ⟨rfl, rfl⟩
  go_wp2_with fail
  refine (Q1.out.2 _).mono ?_
  rintro e w2 ⟨rfl, rfl⟩
  go_wp2_with fail
  refine (Q2.out.2 _).mono ?_
  rintro e w2 ⟨rfl, rfl⟩
  go_wp2_with fail
  refine (Q3.out.2 _).mono ?_
  rintro e w2 ⟨rfl, rfl⟩
  go_wp2_with fail
  refine (Q4.out.2 _).mono ?_
  rintro e w2 ⟨rfl, rfl⟩
  go_wp2_with fail
  refine (Q5.out.2 _).mono ?_
  rintro e w2 ⟨rfl, rfl⟩
  go_wp2_with fail
  go_ret
  exact ⟨rfl, H1.out⟩
theorem fitTypes_walk (W : World) (a0 : Int) (_w0 : (Lit.int .i64 a0).wf = true) (hT : TabAt 0 Lib.deBruijn64tab W) :
    Calls Tryd.prog 3 #[.int .i64 a0] W fun e w' => e = .returned (.bool true) ∧ Below W.heap.size W w' :=
  (fitTypes_core W a0 hT).mono fun _ _ ⟨h1, h2⟩ => ⟨h1, h2.same⟩
end Go.Proofs.YtdkkffmnpholdaaDoor
