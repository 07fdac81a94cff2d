/- EntryOrders: entries are ahead of one another one way alone: the walk. -/
import Derived.Test.YtflpelacjdnplaaEntEq
import Derived.Test.YtflpelacjdnplaaEntAlive
namespace Go.Proofs.Ytflpelacjdnplaa
open Go.RowKit

set_option maxHeartbeats 8000000 in
set_option maxRecDepth 100000 in
theorem entryOrders_core (W : World) (a b c : Ent) :
    Calls Try.prog 10 #[a.val, b.val, c.val] W fun e w' => e = .returned (.bool true) ∧ Ch No W w' := by
  have al := fun w => entAlive_any w
  have q1 := fun w => Less_any a b w
  have q2 := fun w => Less_any b a w
  have q3 := fun w => Less_any b c w
  have q4 := fun w => Less_any a c w
  have q5 := fun w => Less_any a a w
  rw [lessE_irrefl a] at q5
  have hasy : lessE a b = true → lessE b a = false := lessE_asymm
  have htot : a ≠ b → (lessE a b || lessE b a) = true := lessE_total
  have heq : a = b → lessE a b = false ∧ lessE b a = false := fun h => by subst h; exact ⟨lessE_irrefl _, lessE_irrefl _⟩
  have htr : lessE a b = true → lessE b c = true → lessE a c = true := lessE_trans
  generalize lessE a b = p at *
  generalize lessE b a = q at *
  generalize lessE b c = r at *
  generalize lessE a c = s at *
  have HQ := Lib.hid (And.intro q1 (And.intro q2 (And.intro q3 (And.intro q4 q5))))
  clear q1 q2 q3 q4 q5
  have B1 : EBox (((W.alloc (.cells a.enc.toArray 32)).alloc (.cells b.enc.toArray 32)).alloc (.cells c.enc.toArray 32)) W.heap.size a := (((Blk.new W 32 a.enc).alloc _).alloc _).ebox
  have B2 : EBox (((W.alloc (.cells a.enc.toArray 32)).alloc (.cells b.enc.toArray 32)).alloc (.cells c.enc.toArray 32)) (W.heap.size + 1) b := by
    have := ((Blk.new (W.alloc (.cells a.enc.toArray 32)) 32 b.enc).alloc (.cells c.enc.toArray 32)).ebox
    simpa using this
  have B3 : EBox (((W.alloc (.cells a.enc.toArray 32)).alloc (.cells b.enc.toArray 32)).alloc (.cells c.enc.toArray 32)) (W.heap.size + 1 + 1) c := by
    have := (Blk.new ((W.alloc (.cells a.enc.toArray 32)).alloc (.cells b.enc.toArray 32)) 32 c.enc).ebox
    simpa using this
  have C3 : Ch No W (((W.alloc (.cells a.enc.toArray 32)).alloc (.cells b.enc.toArray 32)).alloc (.cells c.enc.toArray 32)) := (((Ch.refl No W).alloc _).alloc _).alloc _
  simp only [Ent.enc] at B1 B2 B3 C3
  unfold Ent.val at HQ ⊢
  go_enter Try.func10, Try.ntmps10
  go_wp2_with fail
  refine (al _).mono ?_
  rintro e w1 ⟨rfl, h1⟩
  have HB := Lib.hid (And.intro (C3.trans h1) (And.intro (B1.no h1) (And.intro (B2.no h1) (B3.no h1))))
  clear h1 C3 B1 B2 B3 al
  obtain ⟨b1, hb1⟩ : ∃ b, W.heap.size = b := ⟨_, rfl⟩
  obtain ⟨b2, hb2⟩ : ∃ b, W.heap.size + 1 = b := ⟨_, rfl⟩
  obtain ⟨b3, hb3⟩ : ∃ b, W.heap.size + 1 + 1 = b := ⟨_, rfl⟩
  rw [hb3, hb2, hb1] at HB ⊢
  clear hb1 hb2 hb3
  obtain ⟨a0, a1, a2, a3, a4, a5⟩ := HB.out.2.1
  obtain ⟨d0, d1, d2, d3, d4, d5⟩ := HB.out.2.2.1
  obtain ⟨e0, e1, e2, e3, e4, e5⟩ := HB.out.2.2.2
  go_wp2_with fail
  replace a0 := in_cell a0
  replace a1 := in_cell a1
  replace a2 := in_cell a2
  replace a3 := in_cell a3
  replace a4 := in_cell a4
  replace a5 := in_cell a5
  replace d0 := in_cell d0
  replace d1 := in_cell d1
  replace d2 := in_cell d2
  replace d3 := in_cell d3
  replace d4 := in_cell d4
  replace d5 := in_cell d5
  replace e0 := in_cell e0
  replace e1 := in_cell e1
  replace e2 := in_cell e2
  replace e3 := in_cell e3
  replace e4 := in_cell e4
  replace e5 := in_cell e5
  (refine wp_region_in (Ch No _) (by kernel_rfl) (by kernel_rfl) (Ch.refl _ _) (fun _ h => ch_drawn h) ?_)
  repeat (go_big_quiet_step (exact in_ch (by with_reducible first | exact HQ.out.1 _ | exact HQ.out.2.1 _)))
  (refine wpQuiet_nil ?_; intro wq0 hw'; obtain ⟨pw, hw''⟩ := hw'; subst hw'')
  clear a0 a1 a2 a3 a4 a5 d0 d1 d2 d3 d4 d5 e0 e1 e2 e3 e4 e5
  have HD := Lib.hid (And.intro (HB.out.1.trans pw.h) (And.intro (HB.out.2.1.no pw.h) (And.intro (HB.out.2.2.1.no pw.h) (HB.out.2.2.2.no pw.h))))
  clear HB
  generalize pw.w = w2 at *
  clear pw
  obtain ⟨a0, a1, a2, a3, a4, a5⟩ := HD.out.2.1
  obtain ⟨d0, d1, d2, d3, d4, d5⟩ := HD.out.2.2.1
  obtain ⟨e0, e1, e2, e3, e4, e5⟩ := HD.out.2.2.2
  have HD2 := HD
  clear HD
  by_cases hab : a = b
  · have heq2 := fun w => eqE_run a b w
    rw [decide_eq_true hab] at heq2
    obtain ⟨rfl, rfl⟩ := heq hab
    clear hab
    clear hasy htot htr heq
    go_wp2_with fail
    refine (HQ.out.2.2.2.2 _).mono ?_
    rintro e w3 ⟨rfl, h3⟩
    have HD3 := Lib.hid (And.intro (HD2.out.1.trans h3) (And.intro (HD2.out.2.1.no h3) (And.intro (HD2.out.2.2.1.no h3) (HD2.out.2.2.2.no h3))))
    clear h3 HD2 a0 a1 a2 a3 a4 a5 d0 d1 d2 d3 d4 d5 e0 e1 e2 e3 e4 e5
    obtain ⟨a0, a1, a2, a3, a4, a5⟩ := HD3.out.2.1
    obtain ⟨d0, d1, d2, d3, d4, d5⟩ := HD3.out.2.2.1
    obtain ⟨e0, e1, e2, e3, e4, e5⟩ := HD3.out.2.2.2
    go_wp2_with fail
    go_ret
    exact ⟨ret_bool (by first | rfl | (simp; done)), HD3.out.1⟩
  · have heq2 := fun w => eqE_run a b w
    rw [decide_eq_false hab] at heq2
    have hpq := htot hab
    have hcase : (p = true ∧ q = false ∧ r = true ∧ s = true) ∨ (p = true ∧ q = false ∧ r = false) ∨ (p = false ∧ q = true) := by
      revert hpq hasy htr
      cases p <;> cases q <;> cases r <;> cases s <;> simp
    clear hasy htot htr heq hpq hab
    rcases hcase with ⟨rfl, rfl, rfl, rfl⟩ | ⟨rfl, rfl, rfl⟩ | ⟨rfl, rfl⟩
    ·   go_wp2_with fail
        refine (HQ.out.2.2.1 _).mono ?_
        rintro e w3 ⟨rfl, h3⟩
        have HD3 := Lib.hid (And.intro (HD2.out.1.trans h3) (And.intro (HD2.out.2.1.no h3) (And.intro (HD2.out.2.2.1.no h3) (HD2.out.2.2.2.no h3))))
        clear h3 HD2 a0 a1 a2 a3 a4 a5 d0 d1 d2 d3 d4 d5 e0 e1 e2 e3 e4 e5
        obtain ⟨a0, a1, a2, a3, a4, a5⟩ := HD3.out.2.1
        obtain ⟨d0, d1, d2, d3, d4, d5⟩ := HD3.out.2.2.1
        obtain ⟨e0, e1, e2, e3, e4, e5⟩ := HD3.out.2.2.2
        go_wp2_with fail
        refine (HQ.out.2.2.2.1 _).mono ?_
        rintro e w4 ⟨rfl, h4⟩
        have HD4 := Lib.hid (And.intro (HD3.out.1.trans h4) (And.intro (HD3.out.2.1.no h4) (And.intro (HD3.out.2.2.1.no h4) (HD3.out.2.2.2.no h4))))
        clear h4 HD3 a0 a1 a2 a3 a4 a5 d0 d1 d2 d3 d4 d5 e0 e1 e2 e3 e4 e5
        obtain ⟨a0, a1, a2, a3, a4, a5⟩ := HD4.out.2.1
        obtain ⟨d0, d1, d2, d3, d4, d5⟩ := HD4.out.2.2.1
        obtain ⟨e0, e1, e2, e3, e4, e5⟩ := HD4.out.2.2.2
        go_wp2_with fail
        refine (HQ.out.2.2.2.2 _).mono ?_
        rintro e w5 ⟨rfl, h5⟩
        have HD5 := Lib.hid (And.intro (HD4.out.1.trans h5) (And.intro (HD4.out.2.1.no h5) (And.intro (HD4.out.2.2.1.no h5) (HD4.out.2.2.2.no h5))))
        clear h5 HD4 a0 a1 a2 a3 a4 a5 d0 d1 d2 d3 d4 d5 e0 e1 e2 e3 e4 e5
        obtain ⟨a0, a1, a2, a3, a4, a5⟩ := HD5.out.2.1
        obtain ⟨d0, d1, d2, d3, d4, d5⟩ := HD5.out.2.2.1
        obtain ⟨e0, e1, e2, e3, e4, e5⟩ := HD5.out.2.2.2
        go_wp2_with fail
        go_ret
        exact ⟨ret_bool (by first | rfl | (simp; done)), HD5.out.1⟩
    ·   go_wp2_with fail
        refine (HQ.out.2.2.1 _).mono ?_
        rintro e w3 ⟨rfl, h3⟩
        have HD3 := Lib.hid (And.intro (HD2.out.1.trans h3) (And.intro (HD2.out.2.1.no h3) (And.intro (HD2.out.2.2.1.no h3) (HD2.out.2.2.2.no h3))))
        clear h3 HD2 a0 a1 a2 a3 a4 a5 d0 d1 d2 d3 d4 d5 e0 e1 e2 e3 e4 e5
        obtain ⟨a0, a1, a2, a3, a4, a5⟩ := HD3.out.2.1
        obtain ⟨d0, d1, d2, d3, d4, d5⟩ := HD3.out.2.2.1
        obtain ⟨e0, e1, e2, e3, e4, e5⟩ := HD3.out.2.2.2
        go_wp2_with fail
        refine (HQ.out.2.2.2.2 _).mono ?_
        rintro e w4 ⟨rfl, h4⟩
        have HD4 := Lib.hid (And.intro (HD3.out.1.trans h4) (And.intro (HD3.out.2.1.no h4) (And.intro (HD3.out.2.2.1.no h4) (HD3.out.2.2.2.no h4))))
        clear h4 HD3 a0 a1 a2 a3 a4 a5 d0 d1 d2 d3 d4 d5 e0 e1 e2 e3 e4 e5
        obtain ⟨a0, a1, a2, a3, a4, a5⟩ := HD4.out.2.1
        obtain ⟨d0, d1, d2, d3, d4, d5⟩ := HD4.out.2.2.1
        obtain ⟨e0, e1, e2, e3, e4, e5⟩ := HD4.out.2.2.2
        go_wp2_with fail
        go_ret
        exact ⟨ret_bool (by first | rfl | (simp; done)), HD4.out.1⟩
    ·   go_wp2_with fail
        refine (HQ.out.2.2.2.2 _).mono ?_
        rintro e w3 ⟨rfl, h3⟩
        have HD3 := Lib.hid (And.intro (HD2.out.1.trans h3) (And.intro (HD2.out.2.1.no h3) (And.intro (HD2.out.2.2.1.no h3) (HD2.out.2.2.2.no h3))))
        clear h3 HD2 a0 a1 a2 a3 a4 a5 d0 d1 d2 d3 d4 d5 e0 e1 e2 e3 e4 e5
        obtain ⟨a0, a1, a2, a3, a4, a5⟩ := HD3.out.2.1
        obtain ⟨d0, d1, d2, d3, d4, d5⟩ := HD3.out.2.2.1
        obtain ⟨e0, e1, e2, e3, e4, e5⟩ := HD3.out.2.2.2
        go_wp2_with fail
        go_ret
        exact ⟨ret_bool (by first | rfl | (simp; done)), HD3.out.1⟩

set_option maxRecDepth 100000 in
theorem entryOrders_walk (W : World) (cs0 cs1 cs2 : Array Value) (R0 : Rd Try.prog W 8 32 cs0.toList) (R1 : Rd Try.prog W 8 32 cs1.toList) (R2 : Rd Try.prog W 8 32 cs2.toList) :
    Calls Try.prog 10 #[.agg cs0, .agg cs1, .agg cs2] W fun e w' => e = .returned (.bool true) ∧ Below W.heap.size W w' := by
  obtain ⟨a, ha, _⟩ := rd_ent R0
  obtain ⟨b, hb, _⟩ := rd_ent R1
  obtain ⟨c, hc, _⟩ := rd_ent R2
  have h0 : cs0 = a.enc.toArray := by rw [← ha]
  have h1 : cs1 = b.enc.toArray := by rw [← hb]
  have h2 : cs2 = c.enc.toArray := by rw [← hc]
  subst h0 h1 h2
  exact (entryOrders_core W a b c).mono fun _ _ ⟨h1, h2⟩ => ⟨h1, h2.same⟩
end Go.Proofs.Ytflpelacjdnplaa
