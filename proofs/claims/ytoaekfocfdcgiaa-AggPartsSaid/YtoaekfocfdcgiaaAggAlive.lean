/- The example of agg's chapter holds; two of what is told are held against each other: one truth value. -/
import Derived.Test.YtoaekfocfdcgiaaAggOf
import Derived.Test.YtoaekfocfdcgiaaRead
namespace Go.Proofs.Ytoaekfocfdcgiaa
open Go.RowKit

theorem eqlAgg (a b c d e f g h : Int) (w : World) : (binOp .eql 63 (.agg #[.int .i64 a, .int .i64 b, .int .i64 c, .int .i64 d]) (.agg #[.int .i64 e, .int .i64 f, .int .i64 g, .int .i64 h])).run Try.prog w = .ok (.bool ((a == e) && (b == f) && (c == g) && (d == h))) w := by
  simp only [binOp]
  simp only [Op.equal, Op.maxDepth, Sem.run_bind]
  rw [run_equalIn_struct w 9999 _ _ _ (by kernel_rfl) (by kernel_rfl)]
  simp [go_sem]
  by_cases h1 : a = e
  · by_cases h2 : b = f
    · by_cases h3 : c = g
      · by_cases h4 : d = h <;> simp [h1, h2, h3, h4]
      · simp [h1, h2, h3]
    · simp [h1, h2]
  · simp [h1]
theorem neqAgg (a b c d e f g h : Int) (w : World) : (binOp .neq 63 (.agg #[.int .i64 a, .int .i64 b, .int .i64 c, .int .i64 d]) (.agg #[.int .i64 e, .int .i64 f, .int .i64 g, .int .i64 h])).run Try.prog w = .ok (.bool !((a == e) && (b == f) && (c == g) && (d == h))) w := by
  have := eqlAgg a b c d e f g h w
  simp only [binOp, Sem.run_bind] at this ⊢
  revert this
  cases hq : (Op.equal 63 (Value.agg #[Value.int IntKind.i64 a, Value.int IntKind.i64 b, Value.int IntKind.i64 c, Value.int IntKind.i64 d]) (Value.agg #[Value.int IntKind.i64 e, Value.int IntKind.i64 f, Value.int IntKind.i64 g, Value.int IntKind.i64 h])).run Try.prog w <;> simp [Result.andThen]

set_option maxHeartbeats 2000000 in
set_option maxRecDepth 100000 in
theorem aggAlive_any (w : World) : Calls Try.prog 36 #[] w fun e w' => e = .returned (.bool true) ∧ Ch No w w' := by
  have he := eqlAgg
  have v1 : ∀ w, Calls Try.prog 37 #[.agg #[.int .i64 2, .int .i64 (-1), .int .i64 (-4), .int .i64 3]] w (fun e w' => e = .returned (.tuple #[.int .i64 (-1), .bool true]) ∧ Ch No w w') := fun w => LAvg_core 2 (-1) (-4) 3 w (by unfold wfI; omega)
  have p1 : ∀ w, Calls Try.prog 39 #[.agg #[.int .i64 2, .int .i64 (-1), .int .i64 (-4), .int .i64 3], .int .i64 4] w (fun e w' => e = .returned (.tuple #[.int .i64 3, .bool true]) ∧ Ch No w w') := fun w => LPick_core 2 (-1) (-4) 3 4 w (by unfold wfI; omega)
  have p2 : ∀ w, Calls Try.prog 39 #[.agg #[.int .i64 0, .int .i64 0, .int .i64 0, .int .i64 0], .int .i64 3] w (fun e w' => e = .returned (.tuple #[.int .i64 0, .bool false]) ∧ Ch No w w') := fun w => LPick_core 0 0 0 0 3 w (by unfold wfI; omega)
  have m1 : ∀ w, Calls Try.prog 43 #[.agg #[.int .i64 1, .int .i64 3, .int .i64 3, .int .i64 3], .agg #[.int .i64 1, .int .i64 (-4), .int .i64 (-4), .int .i64 (-4)]] w (fun e w' => e = .returned (.agg #[.int .i64 2, .int .i64 (-1), .int .i64 (-4), .int .i64 3]) ∧ Ch No w w') := fun w => LMerge_core 1 3 3 3 1 (-4) (-4) (-4) w
  have o1 : ∀ w A c, Cls w A (ints .i64 [3, -4]) → Calls Try.prog 41 #[.slice A 2 c] w (fun e w' => e = .returned (.agg #[.int .i64 2, .int .i64 (-1), .int .i64 (-4), .int .i64 3]) ∧ Ch No w w') := fun w A c h => LOf_any [3, -4] A c w h (by simp)
  go_enter Try.func36, Try.ntmps36
  go_wp2_with fail
  refine (o1 _ _ _ (Cls.lit _ _ _)).mono ?_
  rintro e w1 ⟨rfl, hw1⟩
  go_wp2_with fail
  refine (v1 _).mono ?_
  rintro e w2 ⟨rfl, hw2⟩
  have B2 : Blk w2 w1.heap.size 63 [.int .i64 2, .int .i64 (-1), .int .i64 (-4), .int .i64 3] := (Blk.new w1 _ _).ch hw2 (fun h => h)
  have H2 : Ch No w w2 := Ch.trans ((Ch.trans ((Ch.refl No w).alloc _) hw1).alloc _) hw2
  obtain ⟨c0, c1, c2, c3⟩ := B2.four
  clear hw2
  go_wp2_with fail
  refine (p1 _).mono ?_
  rintro e w3 ⟨rfl, hw3⟩
  clear c0 c1 c2 c3
  have B3 := B2.ch hw3 (fun h => h)
  have H3 := H2.trans hw3
  obtain ⟨c0, c1, c2, c3⟩ := B3.four
  clear hw3
  go_wp2_with fail
  refine (p2 _).mono ?_
  rintro e w4 ⟨rfl, hw4⟩
  clear c0 c1 c2 c3
  have B4 := B3.ch hw4 (fun h => h)
  have C4 := H3.trans hw4
  obtain ⟨g0, g1, g2, g3⟩ := B4.four
  replace g0 := in_cell g0
  replace g1 := in_cell g1
  replace g2 := in_cell g2
  replace g3 := in_cell g3
  clear hw4
  go_wp2_with fail
  (refine wp_region_in (Ch No _) (by kernel_rfl) (by kernel_rfl) (Ch.refl _ _) (fun _ h => ch_drawn h) ?_)
  repeat (go_big_quiet_step (exact in_ch (by with_reducible first | exact One_any _ _ | exact m1 _)))
  (refine wpQuiet_nil ?_; intro wq0 hw'; obtain ⟨pw, hw''⟩ := hw'; subst hw'')
  go_wp2
  go_ret
  exact ⟨rfl, Ch.trans C4 pw.h⟩
end Go.Proofs.Ytoaekfocfdcgiaa
