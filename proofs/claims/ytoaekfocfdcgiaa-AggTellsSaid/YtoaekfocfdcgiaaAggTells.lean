/- AggTells: of all values, of two of whatever numbers, and of all kinds, every answer is as the reference says: the walk. -/
import Derived.Test.YtoaekfocfdcgiaaAggRef
namespace Go.Proofs.Ytoaekfocfdcgiaa
open Go.RowKit

theorem agg_arg {W : World} {n : Nat} {cs : Array Value} (h : Rd Try.prog W (n + 2) 63 cs.toList) : ∃ a : Ag, cs = #[.int .i64 a.c, .int .i64 a.s, .int .i64 a.l, .int .i64 a.h] ∧ wfI a.s := by
  obtain ⟨hl, hf⟩ := rd_struct h Try.underlying63
  rw [show Try.prog.cellsOf 63 = 4 from by kernel_rfl] at hl
  match hcs : cs.toList, hl with
  | [c0, c1, c2, c3], _ =>
    rw [hcs] at hf
    simp only [List.mem_cons, List.not_mem_nil, or_false, forall_eq_or_imp, forall_eq] at hf
    rw [show Try.prog.cellsOf 3 = 1 from by kernel_rfl, show Try.prog.cellsOf 2 = 1 from by kernel_rfl] at hf
    obtain ⟨m0, rfl, w0⟩ := rd_int (c := c0) hf.1 Try.underlying3
    obtain ⟨m1, rfl, w1⟩ := rd_int (c := c1) hf.2.1 Try.underlying2
    obtain ⟨m2, rfl, w2⟩ := rd_int (c := c2) hf.2.2.1 Try.underlying2
    obtain ⟨m3, rfl, w3⟩ := rd_int (c := c3) hf.2.2.2 Try.underlying2
    refine ⟨⟨m0, m1, m2, m3⟩, by rw [← Array.toList_inj, hcs], ?_⟩
    have := bounds_i64 w1
    unfold wfI
    simp only
    omega

set_option maxHeartbeats 4000000 in
set_option maxRecDepth 100000 in
theorem aggTells_core (W : World) (A : Option Addr) (cap : Nat) (xs : List Int) (a b : Ag) (k : Int) (h : Cls W A (ints .i64 xs)) (hl : xs.length ≤ cap) (hb : xs.length ≤ 17592186044416) (hw : ∀ x ∈ xs, wfI x) (ha : wfI a.s) :
    Calls Try.prog 9 #[.slice A xs.length cap, .agg #[.int .i64 a.c, .int .i64 a.s, .int .i64 a.l, .int .i64 a.h], .agg #[.int .i64 b.c, .int .i64 b.s, .int .i64 b.l, .int .i64 b.h], .int .i64 k] W
      fun e w' => e = .returned (.bool true) ∧ Ch No W w' := by
  have he := eqlAgg
  have la := fun w => LAvg_any a w ha
  have ra := fun w => RAvg_any a w ha
  have lp := fun w => LPick_any a k w ha
  have rp := fun w => RPick_any a k w ha
  have lm := fun w => LMerge_any a b w
  have rm := fun w => RMerge_any a b w
  generalize avV a = v1 at *
  generalize avB a = b1 at *
  generalize pkV a k = v2 at *
  generalize pkB a k = b2 at *
  generalize agMerge a b = m at *
  go_enter Try.func9, Try.ntmps9
  go_wp2_with fail
  refine (aggAlive_any _).mono ?_
  rintro e w1 ⟨rfl, hw1⟩
  have H : Ch No W w1 := Ch.trans (((Ch.refl No W).alloc _).alloc _) hw1
  have B : Blk w1 W.heap.size 63 [.int .i64 a.c, .int .i64 a.s, .int .i64 a.l, .int .i64 a.h] := ((Blk.new W _ _).alloc _).ch hw1 (fun h => h)
  have D : Blk w1 (W.heap.size + 1) 63 [.int .i64 b.c, .int .i64 b.s, .int .i64 b.l, .int .i64 b.h] := by
    have := (Blk.new (W.alloc (.cells #[.int .i64 a.c, .int .i64 a.s, .int .i64 a.l, .int .i64 a.h] 63)) 63 [.int .i64 b.c, .int .i64 b.s, .int .i64 b.l, .int .i64 b.h]).ch hw1 (fun h => h)
    simpa using this
  clear hw1
  have H0 := Lib.hid H
  clear H
  have H := Ch.refl No w1
  have HD := Lib.hid D
  clear D
  by_cases h300 : 300 < xs.length
  · have HH := H0
    clear H B
    go_wp2_with fail
    go_ret
    exact ⟨rfl, HH.out⟩
  obtain ⟨c0, c1, c2, c3⟩ := B.four
  go_wp2_with fail
  (refine (la _).mono ?_; rintro e wp ⟨rfl, hwp⟩; clear c0 c1 c2 c3; replace B := B.ch hwp (fun h => h); replace H := H.trans hwp; obtain ⟨c0, c1, c2, c3⟩ := B.four; clear hwp; go_wp2_with fail)
  (refine (ra _).mono ?_; rintro e wp ⟨rfl, hwp⟩; clear c0 c1 c2 c3; replace B := B.ch hwp (fun h => h); replace H := H.trans hwp; obtain ⟨c0, c1, c2, c3⟩ := B.four; clear hwp; go_wp2_with fail)
  (refine (lp _).mono ?_; rintro e wp ⟨rfl, hwp⟩; clear c0 c1 c2 c3; replace B := B.ch hwp (fun h => h); replace H := H.trans hwp; obtain ⟨c0, c1, c2, c3⟩ := B.four; clear hwp; go_wp2_with fail)
  refine (rp _).mono ?_
  rintro e w2 ⟨rfl, hw2⟩
  clear c0 c1 c2 c3
  replace B := B.ch hw2 (fun h => h)
  replace H := H.trans hw2
  clear hw2
  go_wp2_with fail
  have HW : Ch No W w2 := H0.out.trans H
  have lo : ∀ p : In (Ch No w2), Calls Try.prog 41 #[.slice A xs.length cap] p.w fun e w' => e = .returned (agV (agOf xs)) ∧ Ch No p.w w' := fun p => LOf_any xs A cap p.w ((h.ch HW (fun _ _ h => h)).ch p.h (fun _ _ h => h)) (by omega)
  have ro : ∀ p : In (Ch No w2), Calls Try.prog 42 #[.slice A xs.length cap] p.w fun e w' => e = .returned (agV (agOf xs)) ∧ Ch No p.w w' := fun p => ROf_any xs A cap p.w ((h.ch HW (fun _ _ h => h)).ch p.h (fun _ _ h => h)) hl (by omega) hw
  generalize agOf xs = g at *
  obtain ⟨g0, g1, g2, g3⟩ := B.four
  obtain ⟨d0, d1, d2, d3⟩ := (HD.out.ch H (fun h => h)).four
  replace g0 := in_cell g0
  replace g1 := in_cell g1
  replace g2 := in_cell g2
  replace g3 := in_cell g3
  replace d0 := in_cell d0
  replace d1 := in_cell d1
  replace d2 := in_cell d2
  replace d3 := in_cell d3
  clear B H HD H0 la ra lp rp
  (refine wp_region_in (Ch No _) (by kernel_rfl) (by kernel_rfl) (Ch.refl _ _) (fun _ h => ch_drawn h) ?_)
  repeat (go_big_quiet_step (exact in_ch (by with_reducible first | exact lo _ | exact ro _ | exact lm _ | exact rm _)))
  (refine wpQuiet_nil ?_; intro wq0 hw'; obtain ⟨pw, hw''⟩ := hw'; subst hw'')
  go_wp2
  go_ret
  exact ⟨rfl, Ch.trans HW pw.h⟩

theorem aggTells_walk (W : World) (A : Option Addr) (cap : Nat) (xs : List Int) (cs1 cs2 : Array Value) (k : Int) (h : Cls W A (ints .i64 xs)) (hl : xs.length ≤ cap) (hb : xs.length * 8 ≤ 140737488351232) (hw : ∀ x ∈ xs, (Lit.int .i64 x).wf = true)
    (r1 : Rd Try.prog W 8 63 cs1.toList) (r2 : Rd Try.prog W 8 63 cs2.toList) (_w3 : (Lit.int .i64 k).wf = true) :
    Calls Try.prog 9 #[.slice A xs.length cap, .agg cs1, .agg cs2, .int .i64 k] W fun e w' => e = .returned (.bool true) ∧ Below W.heap.size W w' := by
  obtain ⟨a, rfl, ha⟩ := agg_arg r1
  obtain ⟨b, rfl, _⟩ := agg_arg r2
  exact (aggTells_core W A cap xs a b k h hl (by omega) (fun x hx => by have := bounds_i64 (hw x hx); unfold wfI; omega) ha).mono fun e w' ⟨h1, h2⟩ => ⟨h1, h2.same⟩
end Go.Proofs.Ytoaekfocfdcgiaa
