/- journal: Get. -/
import Derived.Test.YtflpelacjdnplaaJrnTrim
namespace Go.Proofs.Ytflpelacjdnplaa
open Go.RowKit

section
variable {w : World} {jb n c gone cap : Nat} {A : Option Addr} {xs : List Ent}
theorem jr_first (h : Jr w jb A n c gone cap xs) (hg : gone ≤ 1000000000000) : ∀ w', Ch No w w' → Calls Try.prog 19 #[.pointer (some ⟨jb, 0, none⟩)] w' fun e w'' => e = .returned (.int .i64 ((gone : Int) + 1)) ∧ Ch No w' w'' := fun _ hc => JFirst_any (h.no hc) hg
theorem jr_next (h : Jr w jb A n c gone cap xs) (hg : gone ≤ 1000000000000) (hn : n ≤ 1000000) : ∀ w', Ch No w w' → Calls Try.prog 20 #[.pointer (some ⟨jb, 0, none⟩)] w' fun e w'' => e = .returned (.int .i64 ((gone : Int) + n + 1)) ∧ Ch No w' w'' := fun _ hc => JNext_any (h.no hc) hg hn
set_option maxHeartbeats 4000000 in
set_option maxRecDepth 100000 in
theorem JGet_out (h : Jr w jb A n c gone cap xs) (hg : gone ≤ 1000000000000) (hn : n ≤ 1000000) (i : Int) (hi : i ≤ gone ∨ (gone : Int) + n < i) : Calls Try.prog 23 #[.pointer (some ⟨jb, 0, none⟩), .int .i64 i] w fun e w' => e = .returned (.tuple #[Ent.zero.val, .int .i64 4]) ∧ Ch No w w' := by
  have HFN := Lib.hid (And.intro (jr_first h hg) (jr_next h hg hn))
  have hC : Hid (Ch No w (w.alloc (.cells Ent.zero.enc.toArray 32))) := Lib.hid ((Ch.refl No w).alloc _)
  have hZ := Lib.hid (Blk.new w 32 Ent.zero.enc)
  by_cases h1 : i < (gone : Int) + 1
  · clear hi h
    go_enter Try.func23, Try.ntmps23
    go_wp2_with fail
    refine (HFN.out.1 _ hC.out).mono ?_
    rintro e w1 ⟨rfl, hw1⟩
    have HC1 := Lib.hid (hC.out.trans hw1)
    have HZ := hZ.out.ch hw1 (fun h => h)
    obtain ⟨b0, hb0⟩ : ∃ b, w.heap.size = b := ⟨_, rfl⟩
    rw [hb0] at HZ ⊢
    have z0 := HZ.cell 0
    have z1 := HZ.cell 1
    have z2 := HZ.cell 2
    have z3 := HZ.cell 3
    have z4 := HZ.cell 4
    have z5 := HZ.cell 5
    have f0 := HZ.frozen 0
    have f1 := HZ.frozen 1
    have f2 := HZ.frozen 2
    have f3 := HZ.frozen 3
    have f4 := HZ.frozen 4
    have f5 := HZ.frozen 5
    have hB1 := HZ.lt
    simp [Ent.enc, Ent.zero] at z0 z1 z2 z3 z4 z5
    go_wp2_with fail
    exact bodyPost_ret (v := .tuple #[Ent.zero.val, .int .i64 4]) (by simp [Ent.zero, Ent.val, results, Try.f23, go_sem, *]) rfl ⟨rfl, (((((HC1.out.setCell (fun h => absurd h (by simp [← hb0])) _).setCell (fun h => absurd h (by simp [← hb0])) _).setCell (fun h => absurd h (by simp [← hb0])) _).setCell (fun h => absurd h (by simp [← hb0])) _).setCell (fun h => absurd h (by simp [← hb0])) _).setCell (fun h => absurd h (by simp [← hb0])) _⟩
  · have h2 : (gone : Int) + n + 1 ≤ i := by omega
    clear hi h
    go_enter Try.func23, Try.ntmps23
    go_wp2_with fail
    refine (HFN.out.1 _ hC.out).mono ?_
    rintro e w1 ⟨rfl, hw1⟩
    have HC0 := Lib.hid hw1
    clear hw1
    go_wp2_with fail
    refine (HFN.out.2 _ (hC.out.trans HC0.out)).mono ?_
    rintro e w2 ⟨rfl, hw2⟩
    have HC1 := Lib.hid (hC.out.trans (HC0.out.trans hw2))
    have HZ := hZ.out.ch (HC0.out.trans hw2) (fun h => h)
    obtain ⟨b0, hb0⟩ : ∃ b, w.heap.size = b := ⟨_, rfl⟩
    rw [hb0] at HZ ⊢
    have z0 := HZ.cell 0
    have z1 := HZ.cell 1
    have z2 := HZ.cell 2
    have z3 := HZ.cell 3
    have z4 := HZ.cell 4
    have z5 := HZ.cell 5
    have f0 := HZ.frozen 0
    have f1 := HZ.frozen 1
    have f2 := HZ.frozen 2
    have f3 := HZ.frozen 3
    have f4 := HZ.frozen 4
    have f5 := HZ.frozen 5
    have hB1 := HZ.lt
    simp [Ent.enc, Ent.zero] at z0 z1 z2 z3 z4 z5
    go_wp2_with fail
    exact bodyPost_ret (v := .tuple #[Ent.zero.val, .int .i64 4]) (by simp [Ent.zero, Ent.val, results, Try.f23, go_sem, *]) rfl ⟨rfl, (((((HC1.out.setCell (fun h => absurd h (by simp [← hb0])) _).setCell (fun h => absurd h (by simp [← hb0])) _).setCell (fun h => absurd h (by simp [← hb0])) _).setCell (fun h => absurd h (by simp [← hb0])) _).setCell (fun h => absurd h (by simp [← hb0])) _).setCell (fun h => absurd h (by simp [← hb0])) _⟩
set_option maxHeartbeats 4000000 in
set_option maxRecDepth 100000 in
theorem JGet_in (pre post : List Ent) (x : Ent) (h : Jr w jb A n c gone cap (pre ++ x :: post)) (hg : gone ≤ 1000000000000) (hn : n ≤ 1000000) (q : Nat) (hq : pre.length = q) (i : Int) (hi : i = (gone : Int) + q + 1) : Calls Try.prog 23 #[.pointer (some ⟨jb, 0, none⟩), .int .i64 i] w fun e w' => e = .returned (.tuple #[x.val, .int .i64 0]) ∧ Ch No w w' := by
  have HFN := Lib.hid (And.intro (jr_first h hg) (jr_next h hg hn))
  have hC : Hid (Ch No w (w.alloc (.cells Ent.zero.enc.toArray 32))) := Lib.hid ((Ch.refl No w).alloc _)
  have hZ := Lib.hid (Blk.new w 32 Ent.zero.enc)
  have hqn : q < n := by have := h.nn; rw [List.length_append, List.length_cons, hq] at this; omega
  have h1 : ¬ i < (gone : Int) + 1 := by omega
  have h2 : ¬ (gone : Int) + n + 1 ≤ i := by omega
  have e1 : IntKind.i64.wrap (i - ((gone : Int) + 1)) = (q : Int) := by rw [IntWalk.i64_in _ (by omega)]; omega
  have e2 : i - ((gone : Int) + 1) = (q : Int) := by omega
  obtain ⟨g, o, rfl, hcl⟩ := h.row.cls (by omega)
  have hat := fun j hj => flatE_at pre post x j hj
  rw [hq] at hat
  have y0 := hcl (q * 6 + 0) _ (hat 0 (by omega))
  have y1 := hcl (q * 6 + 1) _ (hat 1 (by omega))
  have y2 := hcl (q * 6 + 2) _ (hat 2 (by omega))
  have y3 := hcl (q * 6 + 3) _ (hat 3 (by omega))
  have y4 := hcl (q * 6 + 4) _ (hat 4 (by omega))
  have y5 := hcl (q * 6 + 5) _ (hat 5 (by omega))
  have HY : Hid (w.cell? ⟨jb, 0, none⟩ = some (.slice (some ⟨g, o, none⟩) n c) ∧ w.cell? ⟨g, o + q * 6, none⟩ = some (.int .i64 x.t) ∧ w.cell? ⟨g, o + q * 6 + 1, none⟩ = some (.int .i64 x.arg) ∧ w.cell? ⟨g, o + q * 6 + 2, none⟩ = some (.int .i64 x.tenant) ∧ w.cell? ⟨g, o + q * 6 + 3, none⟩ = some (.int .i64 x.person) ∧ w.cell? ⟨g, o + q * 6 + 4, none⟩ = some (.int .i64 x.kind) ∧ w.cell? ⟨g, o + q * 6 + 5, none⟩ = some (.int .i64 x.code)) := Lib.hid ⟨h.c0, y0, y1, y2, y3, y4, y5⟩
  clear y0 y1 y2 y3 y4 y5 hat hcl hi h hq
  go_enter Try.func23, Try.ntmps23
  go_wp2_with fail
  refine (HFN.out.1 _ hC.out).mono ?_
  rintro e w1 ⟨rfl, hw1⟩
  have HC0 := Lib.hid (hC.out.trans hw1)
  have HZ0 := Lib.hid (hZ.out.ch hw1 (fun h => h))
  clear hw1 hZ hC
  go_wp2_with fail
  refine (HFN.out.2 _ HC0.out).mono ?_
  rintro e w2 ⟨rfl, hw2⟩
  have HC1 := Lib.hid (HC0.out.trans hw2)
  have HZ1 := Lib.hid (HZ0.out.ch hw2 (fun h => h))
  clear hw2 HZ0 HC0
  obtain ⟨b0, hb0⟩ : ∃ b, w.heap.size = b := ⟨_, rfl⟩
  rw [hb0] at HZ1 ⊢
  have HB0 := Lib.hid hb0
  clear hb0
  go_wp2_with fail
  have HFF : Hid (∀ w', Ch No w2 w' → Calls Try.prog 19 #[.pointer (some ⟨jb, 0, none⟩)] w' fun e w'' => e = .returned (.int .i64 ((gone : Int) + 1)) ∧ Ch No w' w'') := Lib.hid (fun w' h => HFN.out.1 w' (HC1.out.trans h))
  have k0 := in_cell (HC1.out.cell HY.out.1 (fun h => h))
  have k1 := in_cell (HC1.out.cell HY.out.2.1 (fun h => h))
  have k2 := in_cell (HC1.out.cell HY.out.2.2.1 (fun h => h))
  have k3 := in_cell (HC1.out.cell HY.out.2.2.2.1 (fun h => h))
  have k4 := in_cell (HC1.out.cell HY.out.2.2.2.2.1 (fun h => h))
  have k5 := in_cell (HC1.out.cell HY.out.2.2.2.2.2.1 (fun h => h))
  have k6 := in_cell (HC1.out.cell HY.out.2.2.2.2.2.2 (fun h => h))
  (refine wp_region_tail (Ch No _) 10 (by kernel_rfl) (by kernel_rfl) (by kernel_rfl) (by kernel_rfl) (by kernel_rfl) (Ch.refl _ _) (fun _ h => ch_drawn h) ?_; simp only [List.take_succ_cons, List.take_zero, List.drop_succ_cons, List.drop_zero])
  repeat (go_big_quiet_step (exact in_chp HFF.out))
  (refine wpQuiet_nil ?_; intro wt ht)
  clear k0 k1 k2 k3 k4 k5 k6
  have HC3 := Lib.hid (HC1.out.trans ht)
  have HZ := HZ1.out.ch ht (fun h => h)
  clear ht
  have z0 := HZ.cell 0
  have z1 := HZ.cell 1
  have z2 := HZ.cell 2
  have z3 := HZ.cell 3
  have z4 := HZ.cell 4
  have z5 := HZ.cell 5
  have f0 := HZ.frozen 0
  have f1 := HZ.frozen 1
  have f2 := HZ.frozen 2
  have f3 := HZ.frozen 3
  have f4 := HZ.frozen 4
  have f5 := HZ.frozen 5
  have hB1 := HZ.lt
  simp [Ent.enc, Ent.zero] at z0 z1 z2 z3 z4 z5
  go_wp2_with fail
  exact bodyPost_ret (v := .tuple #[x.val, .int .i64 0]) (by simp [Ent.val, results, Try.f23, go_sem, *]) rfl ⟨rfl, (((((HC3.out.setCell (fun h => absurd h (by simp [← HB0.out])) _).setCell (fun h => absurd h (by simp [← HB0.out])) _).setCell (fun h => absurd h (by simp [← HB0.out])) _).setCell (fun h => absurd h (by simp [← HB0.out])) _).setCell (fun h => absurd h (by simp [← HB0.out])) _).setCell (fun h => absurd h (by simp [← HB0.out])) _⟩
end
end Go.Proofs.Ytflpelacjdnplaa
