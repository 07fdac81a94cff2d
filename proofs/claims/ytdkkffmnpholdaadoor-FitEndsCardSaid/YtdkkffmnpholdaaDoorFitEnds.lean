/- FitEnds: just what is within a type's ends fits it: the walk. -/
import Derived.Test.YtdkkffmnpholdaaDoorFitAlive
namespace Go.Proofs.YtdkkffmnpholdaaDoor
open Go.RowKit

set_option maxHeartbeats 16000000 in
set_option maxRecDepth 100000 in
theorem fitEnds_core (W : World) (n : Int) (hT : TabAt 0 Lib.deBruijn64tab W) :
    Calls Tryd.prog 8 #[.int .i64 n] W fun e w' => e = .returned (.bool true) ∧ Ch No W w' := by
  have al := fitAlive_any W hT
  clear hT
  have L0 : ∀ w, Calls Tryd.prog 13 #[.int .i64 255] w fun e w' => e = .returned (.tuple #[.int .u8 255, .bool true]) ∧ w = w' := fun w => To_u8 255 w
  have L1 : ∀ w, Calls Tryd.prog 14 #[.int .i64 256] w fun e w' => e = .returned (.tuple #[.int .u16 256, .bool true]) ∧ w = w' := fun w => To_u16 256 w
  have L2 : ∀ w, Calls Tryd.prog 11 #[.int .i64 127] w fun e w' => e = .returned (.tuple #[.int .i16 127, .bool true]) ∧ w = w' := fun w => To_i16 127 w
  have M0 : ∀ w, Calls Tryd.prog 13 #[.int .i64 65535] w fun e w' => e = .returned (.tuple #[.int .u8 0, .bool false]) ∧ w = w' := fun w => To_u8 65535 w
  have M1 : ∀ w, Calls Tryd.prog 14 #[.int .i64 65536] w fun e w' => e = .returned (.tuple #[.int .u16 0, .bool false]) ∧ w = w' := fun w => To_u16 65536 w
  have M2 : ∀ w, Calls Tryd.prog 11 #[.int .i64 32767] w fun e w' => e = .returned (.tuple #[.int .i16 32767, .bool true]) ∧ w = w' := fun w => To_i16 32767 w
  have HL := Lib.hid (And.intro L0 (And.intro L1 L2))
  have HM := Lib.hid (And.intro M0 (And.intro M1 M2))
  clear L0 L1 L2 M0 M1 M2
  have q0 := fun w => To_i8 n w
  have q1 := fun w => To_i16 n w
  have q2 := fun w => To_i32 n w
  have q3 := fun w => To_u8 n w
  have q4 := fun w => To_u16 n w
  have q5 := fun w => To_u32 n w
  have hc : n < -2147483648 ∨ (-2147483648 ≤ n ∧ n < -32768) ∨ (-32768 ≤ n ∧ n < -128) ∨ (-128 ≤ n ∧ n < 0) ∨ (0 ≤ n ∧ n < 128) ∨ (128 ≤ n ∧ n < 256) ∨ (256 ≤ n ∧ n < 32768) ∨ (32768 ≤ n ∧ n < 65536) ∨ (65536 ≤ n ∧ n < 2147483648) ∨ (2147483648 ≤ n ∧ n < 4294967296) ∨ 4294967296 ≤ n := by omega
  rcases hc with hc | hc | hc | hc | hc | hc | hc | hc | hc | hc | hc
  all_goals
    first | simp only [decide_eq_true (show -128 ≤ n ∧ n ≤ 127 by omega)] at q0 | simp only [decide_eq_false (show ¬ (-128 ≤ n ∧ n ≤ 127) by omega)] at q0
    generalize (if -128 ≤ n ∧ n ≤ 127 then n else 0) = v0 at q0
    have Q0 := Lib.hid q0
    clear q0
    first | simp only [decide_eq_true (show -32768 ≤ n ∧ n ≤ 32767 by omega)] at q1 | simp only [decide_eq_false (show ¬ (-32768 ≤ n ∧ n ≤ 32767) by omega)] at q1
    generalize (if -32768 ≤ n ∧ n ≤ 32767 then n else 0) = v1 at q1
    have Q1 := Lib.hid q1
    clear q1
    first | simp only [decide_eq_true (show -2147483648 ≤ n ∧ n ≤ 2147483647 by omega)] at q2 | simp only [decide_eq_false (show ¬ (-2147483648 ≤ n ∧ n ≤ 2147483647) by omega)] at q2
    generalize (if -2147483648 ≤ n ∧ n ≤ 2147483647 then n else 0) = v2 at q2
    have Q2 := Lib.hid q2
    clear q2
    first | simp only [decide_eq_true (show 0 ≤ n ∧ n ≤ 255 by omega)] at q3 | simp only [decide_eq_false (show ¬ (0 ≤ n ∧ n ≤ 255) by omega)] at q3
    generalize (if 0 ≤ n ∧ n ≤ 255 then n else 0) = v3 at q3
    have Q3 := Lib.hid q3
    clear q3
    first | simp only [decide_eq_true (show 0 ≤ n ∧ n ≤ 65535 by omega)] at q4 | simp only [decide_eq_false (show ¬ (0 ≤ n ∧ n ≤ 65535) by omega)] at q4
    generalize (if 0 ≤ n ∧ n ≤ 65535 then n else 0) = v4 at q4
    have Q4 := Lib.hid q4
    clear q4
    first | simp only [decide_eq_true (show 0 ≤ n ∧ n ≤ 4294967295 by omega)] at q5 | simp only [decide_eq_false (show ¬ (0 ≤ n ∧ n ≤ 4294967295) by omega)] at q5
    generalize (if 0 ≤ n ∧ n ≤ 4294967295 then n else 0) = v5 at q5
    have Q5 := Lib.hid q5
    clear q5
    go_enter Tryd.func8, Tryd.ntmps8
    go_wp2_with fail
    refine al.mono ?_
    rintro e w1 ⟨rfl, h1⟩
    have H1 := Lib.hid h1
    clear h1 al
    go_wp2_with fail
    refine (Q0.out _).mono ?_
    rintro e w2 ⟨rfl, rfl⟩
    go_wp2_with fail
    refine (Q1.out _).mono ?_
    rintro e w2 ⟨rfl, rfl⟩
    go_wp2_with fail
    refine (Q2.out _).mono ?_
    rintro e w2 ⟨rfl, rfl⟩
    go_wp2_with fail
    refine (Q3.out _).mono ?_
    rintro e w2 ⟨rfl, rfl⟩
    go_wp2_with fail
    refine (Q4.out _).mono ?_
    rintro e w2 ⟨rfl, rfl⟩
    go_wp2_with fail
    refine (Q5.out _).mono ?_
    rintro e w2 ⟨rfl, rfl⟩
    clear Q0 Q1 Q2 Q3 Q4 Q5
    go_wp2_with fail
    go_loopw [15, 16, 17, 18, 19, 20, 21, 22] (fun b _ _ _ _ _ _ _ wr => (b = .int .i64 8 ∨ b = .int .i64 16 ∨ b = .int .i64 24) ∧ w1 = wr) (fun b _ _ _ _ _ _ _ _ => 100 - (intOf b).toNat)
    case atStart => exact ⟨.inl rfl, rfl⟩
    case round =>
      obtain ⟨rfl | rfl | rfl, rfl⟩ := hrel
      ·
        go_wp2_with fail
        refine (HL.out.1 _).mono ?_
        rintro e w2 ⟨rfl, rfl⟩
        go_wp2_with fail
        refine (HL.out.2.1 _).mono ?_
        rintro e w2 ⟨rfl, rfl⟩
        go_wp2_with fail
        refine (HL.out.2.2 _).mono ?_
        rintro e w2 ⟨rfl, rfl⟩
        go_wp2_with fail
        first | refine ⟨?rel, ?measure⟩ | go_roundw
        case rel => exact ⟨by simp, trivial⟩
        case measure => simp [intOf]
      ·
        go_wp2_with fail
        refine (HM.out.1 _).mono ?_
        rintro e w2 ⟨rfl, rfl⟩
        go_wp2_with fail
        refine (HM.out.2.1 _).mono ?_
        rintro e w2 ⟨rfl, rfl⟩
        go_wp2_with fail
        refine (HM.out.2.2 _).mono ?_
        rintro e w2 ⟨rfl, rfl⟩
        go_wp2_with fail
        first | refine ⟨?rel, ?measure⟩ | go_roundw
        case rel => exact ⟨by simp, trivial⟩
        case measure => simp [intOf]
      · go_wp2_with fail
        go_ret
        exact ⟨rfl, H1.out⟩
theorem fitEnds_walk (W : World) (a0 : Int) (_w0 : (Lit.int .i64 a0).wf = true) (hT : TabAt 0 Lib.deBruijn64tab W) :
    Calls Tryd.prog 8 #[.int .i64 a0] W fun e w' => e = .returned (.bool true) ∧ Below W.heap.size W w' :=
  (fitEnds_core W a0 hT).mono fun _ _ ⟨h1, h2⟩ => ⟨h1, h2.same⟩
end Go.Proofs.YtdkkffmnpholdaaDoor
