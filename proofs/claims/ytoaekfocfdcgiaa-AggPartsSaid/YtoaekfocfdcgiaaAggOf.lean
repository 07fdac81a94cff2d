/- agg.Of: what it comes to. -/
import Derived.Test.YtoaekfocfdcgiaaAggPick
import Derived.Test.YtoaekfocfdcgiaaLexF
namespace Go.Proofs.Ytoaekfocfdcgiaa
open Go.RowKit

/-- four cells of a block are set -/
@[reducible] def set4 (w : World) (g : Nat) (a b c d : Value) : World := (((w.setCell ⟨g, 0, none⟩ a).setCell ⟨g, 1, none⟩ b).setCell ⟨g, 2, none⟩ c).setCell ⟨g, 3, none⟩ d
theorem Blk.set4 {w : World} {g : Nat} {t : TypeId} {x0 x1 x2 x3 : Value} (h : Blk w g t [x0, x1, x2, x3]) (a b c d : Value) : Blk (set4 w g a b c d) g t [a, b, c, d] :=
  (((h.set 0 a).set 1 b).set 2 c).set 3 d
theorem Blk.set4_other {w : World} {g k : Nat} {t : TypeId} {vs : List Value} (h : Blk w k t vs) (hk : k ≠ g) (a b c d : Value) : Blk (Go.Proofs.Ytoaekfocfdcgiaa.set4 w g a b c d) k t vs :=
  (((h.set_other (p := ⟨g, 0, none⟩) hk a).set_other (p := ⟨g, 1, none⟩) hk b).set_other (p := ⟨g, 2, none⟩) hk c).set_other (p := ⟨g, 3, none⟩) hk d
theorem Ch.set4 {S : Nat → Prop} {w0 w : World} {g : Nat} (h : Ch S w0 w) (hg : g < w0.heap.size → S g) (a b c d : Value) : Ch S w0 (Go.Proofs.Ytoaekfocfdcgiaa.set4 w g a b c d) :=
  (((h.setCell (p := ⟨g, 0, none⟩) hg a).setCell (p := ⟨g, 1, none⟩) hg b).setCell (p := ⟨g, 2, none⟩) hg c).setCell (p := ⟨g, 3, none⟩) hg d

set_option maxHeartbeats 1000000 in
theorem LOf_any (xs : List Int) (A : Option Addr) (cap : Nat) (w : World) (h : Cls w A (ints .i64 xs)) (hl : xs.length ≤ 1000000) :
    Calls Try.prog 41 #[.slice A xs.length cap] w fun e w' => e = .returned (agV (agOf xs)) ∧ Ch No w w' := by
  go_enter Try.func41, Try.ntmps41
  go_wp2_with fail
  go_loopw [8] (fun i wr => ∃ (pre post : List Int), Hid (xs = pre ++ post) ∧ pre.length ≤ xs.length ∧ i = .int .i64 pre.length ∧ Blk wr w.heap.size 63 [.int .i64 0, .int .i64 0, .int .i64 0, .int .i64 0] ∧ Blk wr (w.heap.size + 1) 63 [.int .i64 (agOf pre).c, .int .i64 (agOf pre).s, .int .i64 (agOf pre).l, .int .i64 (agOf pre).h] ∧ Ch No w wr) (fun i _ => xs.length - (intOf i).toNat)
  case atStart =>
    exact ⟨[], xs, rfl, by simp, rfl, (Blk.new w _ _).alloc _, by simpa [agOf_nil, agNone] using Blk.new (w.alloc _) _ [.int .i64 0, .int .i64 0, .int .i64 0, .int .i64 0], ((Ch.refl No w).alloc _).alloc _⟩
  case round =>
    obtain ⟨pre, post, hx, hle, rfl, hr, ho, hw⟩ := hrel
    cases post with
    | nil =>
      have hlt : ¬ pre.length < xs.length := by have := hx.out; subst this; simp
      obtain rfl : pre = xs := by have := hx.out; simpa using this.symm
      have o0 := ho.cell 0
      have o1 := ho.cell 1
      have o2 := ho.cell 2
      have o3 := ho.cell 3
      have r0 := hr.cell 0
      have r1 := hr.cell 1
      have r2 := hr.cell 2
      have r3 := hr.cell 3
      have f0 := hr.frozen 0
      have f1 := hr.frozen 1
      have f2 := hr.frozen 2
      have f3 := hr.frozen 3
      simp at o0 o1 o2 o3 r0 r1 r2 r3
      go_wp2_with fail
      generalize agOf pre = g at *
      have hz := (((hr.set 0 (.int .i64 g.c)).set 1 (.int .i64 g.s)).set 2 (.int .i64 g.l)).set 3 (.int .i64 g.h)
      have hc := (((hw.setCell (p := ⟨w.heap.size, 0, none⟩) (fun h => absurd h (Nat.lt_irrefl _)) (.int .i64 g.c)).setCell (p := ⟨w.heap.size, 1, none⟩) (fun h => absurd h (Nat.lt_irrefl _)) (.int .i64 g.s)).setCell (p := ⟨w.heap.size, 2, none⟩) (fun h => absurd h (Nat.lt_irrefl _)) (.int .i64 g.l)).setCell (p := ⟨w.heap.size, 3, none⟩) (fun h => absurd h (Nat.lt_irrefl _)) (.int .i64 g.h)
      simp only [List.set] at hz
      generalize World.setCell _ _ _ = wz at *
      have z0 := hz.cell 0
      have z1 := hz.cell 1
      have z2 := hz.cell 2
      have z3 := hz.cell 3
      simp at z0 z1 z2 z3
      exact bodyPost_ret (v := agV g) (by simp [agV, results, Try.results41, go_sem, *]) rfl ⟨rfl, hc⟩
    | cons x post =>
      have hlt : pre.length < xs.length := by have := hx.out; subst this; simp
      obtain ⟨b, off, rfl, hcell⟩ := (h.ch hw (fun _ _ h => h)).at hx.out
      have o0 := ho.cell 0
      have o1 := ho.cell 1
      have o2 := ho.cell 2
      have o3 := ho.cell 3
      simp at o0 o1 o2 o3
      generalize hg : agOf pre = g at *
      go_wp2_with fail
      replace o0 := in_cell o0
      replace o1 := in_cell o1
      replace o2 := in_cell o2
      replace o3 := in_cell o3
      (refine wp_region_tail (Ch No _) 4 (by kernel_rfl) (by kernel_rfl) (by kernel_rfl) (by kernel_rfl) (by kernel_rfl) (Ch.refl _ _) (fun _ h => ch_drawn h) ?_; simp only [List.take_succ_cons, List.take_zero, List.drop_succ_cons, List.drop_zero])
      repeat (go_big_quiet_step (exact in_ch (by with_reducible first | exact One_any _ _ | exact LMerge_core _ _ _ _ _ _ _ _ _)))
      (refine wpQuiet_nil ?_; intro wt ht)
      replace ho := ho.ch ht (fun h => h)
      replace hr := hr.ch ht (fun h => h)
      replace hw := hw.trans ht
      have o0 := ho.cell 0
      have o1 := ho.cell 1
      have o2 := ho.cell 2
      have o3 := ho.cell 3
      have f0 := ho.frozen 0
      have f1 := ho.frozen 1
      have f2 := ho.frozen 2
      have f3 := ho.frozen 3
      simp at o0 o1 o2 o3
      have hm : agMerge ⟨g.c, g.s, g.l, g.h⟩ ⟨1, x, x, x⟩ = agOf (pre ++ [x]) := by rw [agOf_snoc, hg]; rfl
      rw [hm]
      generalize hg2 : agOf (pre ++ [x]) = g2 at *
      go_wp2_with fail
      refine ⟨⟨pre ++ [x], post, by rw [hx.out]; simp [Hid], by rw [hx.out]; simp, by simp, hr.set4_other (by simp) _ _ _ _, by rw [hg2]; exact ho.set4 _ _ _ _, hw.set4 (fun h => by omega) _ _ _ _⟩, ?_⟩
      simp [intOf]
      omega

end Go.Proofs.Ytoaekfocfdcgiaa
