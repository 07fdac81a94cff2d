/- LatticeClosed: what is closed is closed; below a meet is what is below both: the walk. -/
import Derived.Test.YtpjcfelknkddfaaDoorLatticeUnions
namespace Go.Proofs.YtpjcfelknkddfaaDoor
open Go.RowKit

theorem sh3 {N m mm : Nat} (hN : N ≤ 16) (hm : m < 4294967296) (h : m &&& (2 ^ N - 1) = mm) : bits .and .u32 (m : Int) (((2 : Int) ^ N - 1) % 4294967296) = (mm : Int) := by
  have h1 : 2 ^ N ≤ 2 ^ 16 := Nat.pow_le_pow_right (by omega) hN
  have h2 := Nat.two_pow_pos N
  have e1 : (2 : Int) ^ N = ((2 ^ N : Nat) : Int) := by simp
  have e2 : (((2 : Int) ^ N - 1) % 4294967296) = ((2 ^ N - 1 : Nat) : Int) := by
    rw [e1]
    generalize 2 ^ N = p at *
    omega
  rw [e2, u32_and_nat _ _ hm (by omega), h]
set_option maxHeartbeats 8000000 in
set_option maxRecDepth 100000 in
theorem latticeClosed_core (W : World) (A0 : Option Addr) (c0 : Nat) (Ls : List (Nat × Nat)) (l k n q m : Nat) (hx : Rws W A0 2 (Ls.map labR)) (ok : okL Ls) (hn : Ls.length ≤ 140737488351232) (hk : k < 65536) (hq : q < 65536) (hm : m < 4294967296) (hT : TabAt 0 Lib.deBruijn64tab W) :
    Calls Tryd.prog 7 #[.slice A0 Ls.length c0, .agg #[.int .u8 l, .int .u16 k], .agg #[.int .u8 n, .int .u16 q], .int .u32 m] W fun e w' => e = .returned (.bool true) ∧ Ch No W w' := by
  obtain ⟨N, hN⟩ : ∃ N, Ls.length = N := ⟨_, rfl⟩
  have HX := Lib.hid (And.intro hN (And.intro hx (And.intro ok (And.intro hT (And.intro hk (And.intro hq hm))))))
  rw [hN] at hn ⊢
  clear hN hx ok hT hk hq hm
  have X0 : Hid (Ch No W ((W.alloc (.cells #[.int .u8 l, .int .u16 k] 25)).alloc (.cells #[.int .u8 n, .int .u16 q] 25)) ∧ Blk ((W.alloc (.cells #[.int .u8 l, .int .u16 k] 25)).alloc (.cells #[.int .u8 n, .int .u16 q] 25)) W.heap.size 25 [.int .u8 l, .int .u16 k] ∧ Blk ((W.alloc (.cells #[.int .u8 l, .int .u16 k] 25)).alloc (.cells #[.int .u8 n, .int .u16 q] 25)) (W.heap.size + 1) 25 [.int .u8 n, .int .u16 q]) := Lib.hid ⟨((Ch.refl No W).alloc _).alloc _, (Blk.new W 25 [.int .u8 l, .int .u16 k]).alloc _, by
    have := Blk.new (W.alloc (.cells #[.int .u8 l, .int .u16 k] 25)) 25 [.int .u8 n, .int .u16 q]
    have e : (W.alloc (.cells #[.int .u8 l, .int .u16 k] 25)).heap.size = W.heap.size + 1 := by simp
    rw [e] at this
    exact this⟩
  go_enter Tryd.func7, Tryd.ntmps7
  go_wp2_with fail
  refine (latAlive_any _ (tab_ch HX.out.2.2.2.1 X0.out.1)).mono ?_
  rintro e w1 ⟨rfl, h1⟩
  have X1 := Lib.hid (And.intro (X0.out.1.trans h1) (And.intro (X0.out.2.1.ch h1 (fun h => h)) (X0.out.2.2.ch h1 (fun h => h))))
  clear X0 h1
  by_cases h16 : 16 < N
  · go_wp2_with fail
    go_ret
    exact ⟨rfl, X1.out.1⟩
  have HN := Lib.hid (LNew_any (c := c0) (HX.out.2.1.no X1.out.1) HX.out.1 HX.out.2.2.1 (by omega))
  go_wp2_with fail
  refine HN.out.mono ?_
  rintro e w2 (⟨h0, pb, A, c, mb, D, cd, rfl, hl, h2⟩ | ⟨h0, rfl, h2⟩)
  rotate_left
  · have X2 := Lib.hid (X1.out.1.trans h2)
    generalize chkL Ls = f at *
    have hf : (f == 0) = false := by simpa using h0
    clear h2 X1 HN
    go_wp2_with fail
    go_ret
    exact ⟨rfl, X2.out⟩
  have X2 := Lib.hid (And.intro (X1.out.1.trans h2) (And.intro hl (And.intro (X1.out.2.1.ch h2 (fun h => h)) (X1.out.2.2.ch h2 (fun h => h)))))
  have hN16 : N ≤ 16 := by omega
  clear h2 hl X1 HN h0 h16 hn
  generalize W.heap.size = xa at *
  obtain ⟨mm, hmm⟩ : ∃ mm, m &&& (2 ^ N - 1) = mm := ⟨_, rfl⟩
  have HS := Lib.hid (sh3 hN16 HX.out.2.2.2.2.2.2 hmm)
  have h216 : 2 ^ N ≤ 2 ^ 16 := Nat.pow_le_pow_right (by omega) hN16
  have h2p := Nat.two_pow_pos N
  have hml : mm < 2 ^ N := by rw [← hmm]; exact Nat.lt_of_le_of_lt Nat.and_le_right (by omega)
  have e1 := cl_cl Ls mm
  have e2 := cl_has (Ls := Ls) (m := mm) (by rw [HX.out.1]; exact hml)
  have e3 := cl_bel Ls (l, k)
  have e4 := cl_or_bel Ls (l, k) (n, q)
  have e5 := cl_and_bel Ls (l, k) (n, q)
  have e6 := bel_meet Ls (l, k) (n, q)
  have e7 := bel_join Ls (l, k) (n, q)
  have b1 := cl_lt Ls mm
  have b2 := bel_lt Ls (l, k)
  have b3 := bel_lt Ls (n, q)
  have b4 := bel_lt Ls (mxN l n, orN k q)
  rw [HX.out.1] at b1 b2 b3 b4
  have b5 : bel Ls (l, k) ||| bel Ls (n, q) < 2 ^ N := Nat.or_lt_two_pow b2 b3
  have b6 : bel Ls (l, k) &&& bel Ls (n, q) < 2 ^ N := Nat.lt_of_le_of_lt Nat.and_le_left b2
  have han : anN k q < 65536 := anN_lt q HX.out.2.2.2.2.1
  have hon : orN k q < 65536 := orN_lt HX.out.2.2.2.2.1 HX.out.2.2.2.2.2.1
  have q1 : bits .and .u32 ((cl Ls mm : Nat) : Int) (mm : Int) = (mm : Int) := by rw [u32_and_nat _ _ (by omega) (by omega), e2]
  have q2 : bits .or .u32 ((bel Ls (l, k) : Nat) : Int) ((bel Ls (n, q) : Nat) : Int) = ((bel Ls (l, k) ||| bel Ls (n, q) : Nat) : Int) := u32_or_nat _ _ (by omega) (by omega)
  have q3 : bits .and .u32 ((bel Ls (l, k) : Nat) : Int) ((bel Ls (n, q) : Nat) : Int) = ((bel Ls (l, k) &&& bel Ls (n, q) : Nat) : Int) := u32_and_nat _ _ (by omega) (by omega)
  have q4 : bits .and .u32 ((bel Ls (mxN l n, orN k q) : Nat) : Int) ((bel Ls (l, k) ||| bel Ls (n, q) : Nat) : Int) = ((bel Ls (l, k) ||| bel Ls (n, q) : Nat) : Int) := by rw [u32_and_nat _ _ (by omega) (by omega), e7]
  have T := fun w' (h : Ch No w2 w') => tab_ch HX.out.2.2.2.1 (X2.out.1.trans h)
  have G1 := Lib.hid (fun w' (h : Ch No w2 w') => LtClose_any (X2.out.2.1.no h) mm (by omega) (T w' h))
  have G2 := Lib.hid (fun w' (h : Ch No w2 w') => LtBelow_any (X2.out.2.1.no h) l k HX.out.2.2.2.2.1)
  have G3 := Lib.hid (fun w' (h : Ch No w2 w') => LtBelow_any (X2.out.2.1.no h) n q HX.out.2.2.2.2.2.1)
  have G4 := Lib.hid (fun w' (h : Ch No w2 w') => LtClosed_any (X2.out.2.1.no h) (cl Ls mm) (by omega) (T w' h) true (decide_eq_true e1))
  have G5 := Lib.hid (fun w' (h : Ch No w2 w') => by have z := LtClose_any (X2.out.2.1.no h) (cl Ls mm) (by omega) (T w' h); rw [e1] at z; exact z)
  have G6 := Lib.hid (fun w' (h : Ch No w2 w') => LtClosed_any (X2.out.2.1.no h) (bel Ls (l, k)) (by omega) (T w' h) true (decide_eq_true e3))
  have G7 := Lib.hid (fun w' (h : Ch No w2 w') => LtClosed_any (X2.out.2.1.no h) (bel Ls (l, k) ||| bel Ls (n, q)) (by omega) (T w' h) true (decide_eq_true e4))
  have G8 := Lib.hid (fun w' (h : Ch No w2 w') => LtClosed_any (X2.out.2.1.no h) (bel Ls (l, k) &&& bel Ls (n, q)) (by omega) (T w' h) true (decide_eq_true e5))
  have G9 := Lib.hid (fun w' (_ : Ch No w2 w') => LMeet_any l k n q w' HX.out.2.2.2.2.1 HX.out.2.2.2.2.2.1)
  have G10 := Lib.hid (fun w' (h : Ch No w2 w') => by have z := LtBelow_any (X2.out.2.1.no h) (mnN l n) (anN k q) han; rw [e6] at z; exact z)
  have G11 := Lib.hid (fun w' (_ : Ch No w2 w') => LJoin_any l k n q w' HX.out.2.2.2.2.1 HX.out.2.2.2.2.2.1)
  have G12 := Lib.hid (fun w' (h : Ch No w2 w') => LtBelow_any (X2.out.2.1.no h) (mxN l n) (orN k q) hon)
  clear hmm h216 h2p e1 e2 e3 e4 e5 e6 e7 b1 b2 b3 b4 b5 b6 T han hon hml
  generalize bel Ls (l, k) ||| bel Ls (n, q) = bo at *
  generalize bel Ls (l, k) &&& bel Ls (n, q) = bn at *
  generalize bel Ls (mxN l n, orN k q) = bj at *
  generalize bel Ls (l, k) = ba at *
  generalize bel Ls (n, q) = bb at *
  generalize cl Ls mm = cq at *
  generalize mxN l n = l1 at *
  generalize orN k q = k1 at *
  generalize mnN l n = l2 at *
  generalize anN k q = k2 at *
  go_upto_region 9 with fail
  rw [HS.out]
  clear HS
  go_wp2_with fail
  refine (G1.out _ (Ch.refl _ _)).mono ?_
  rintro e w3 ⟨rfl, h3⟩
  have X3 := Lib.hid (And.intro h3 (And.intro (X2.out.2.2.1.ch h3 (fun h => h)) (X2.out.2.2.2.ch h3 (fun h => h))))
  clear h3 G1
  have x0 := X3.out.2.1.cell 0
  have x1 := X3.out.2.1.cell 1
  have y0 := X3.out.2.2.cell 0
  have y1 := X3.out.2.2.cell 1
  simp only [List.getElem?_cons_zero, List.getElem?_cons_succ] at x0 x1 y0 y1
  replace x0 := in_cell x0
  replace x1 := in_cell x1
  replace y0 := in_cell y0
  replace y1 := in_cell y1
  go_upto_region 10 with fail
  (refine wp_region_in (Ch No _) (by kernel_rfl) (by kernel_rfl) (Ch.refl _ _) (fun _ h => ch_drawn h) ?_)
  repeat (go_big_quiet_step (with_reducible first | exact in_chp (fun w' h => G2.out w' (X3.out.1.trans h)) | exact in_chp (fun w' h => G3.out w' (X3.out.1.trans h))))
  (refine wpQuiet_nil ?_; intro wq0 hw'; obtain ⟨pw, hw''⟩ := hw'; subst hw'')
  have X4 := Lib.hid (And.intro (X3.out.1.trans pw.h) (And.intro (X3.out.2.1.ch pw.h (fun h => h)) (X3.out.2.2.ch pw.h (fun h => h))))
  generalize pw.w = w4 at *
  clear pw x0 x1 y0 y1 X3 G2 G3
  go_wp2_with fail
  refine (G4.out _ X4.out.1).mono ?_
  rintro e v0 ⟨rfl, h⟩
  have C0 := Lib.hid ((X4.out.1).trans h)
  clear h
  go_wp2_with fail
  refine (G5.out _ C0.out).mono ?_
  rintro e v1 ⟨rfl, h⟩
  have C1 := Lib.hid ((C0.out).trans h)
  clear h
  go_wp2_with fail
  refine (G6.out _ C1.out).mono ?_
  rintro e v2 ⟨rfl, h⟩
  have C2 := Lib.hid ((C1.out).trans h)
  clear h
  go_wp2_with fail
  refine (G7.out _ C2.out).mono ?_
  rintro e v3 ⟨rfl, h⟩
  have C3 := Lib.hid ((C2.out).trans h)
  clear h
  go_wp2_with fail
  refine (G8.out _ C3.out).mono ?_
  rintro e v4 ⟨rfl, h⟩
  have C4 := Lib.hid ((C3.out).trans h)
  clear h
  have X5 := Lib.hid (And.intro (X2.out.2.2.1.ch C4.out (fun h => h)) (X2.out.2.2.2.ch C4.out (fun h => h)))
  have x0 := (X5.out.1).cell 0
  have x1 := (X5.out.1).cell 1
  have y0 := (X5.out.2).cell 0
  have y1 := (X5.out.2).cell 1
  simp only [List.getElem?_cons_zero, List.getElem?_cons_succ] at x0 x1 y0 y1
  go_wp2_with fail
  refine (G9.out _ C4.out).mono ?_
  rintro e u1 ⟨rfl, h⟩
  have D1 := Lib.hid ((C4.out).trans h)
  clear h x0 x1 y0 y1 X5
  go_wp2_with fail
  refine (G10.out _ D1.out).mono ?_
  rintro e u2 ⟨rfl, h⟩
  have D2 := Lib.hid (D1.out.trans h)
  have X5 := Lib.hid (And.intro (X2.out.2.2.1.ch D2.out (fun h => h)) (X2.out.2.2.2.ch D2.out (fun h => h)))
  clear h
  have x0 := (X5.out.1).cell 0
  have x1 := (X5.out.1).cell 1
  have y0 := (X5.out.2).cell 0
  have y1 := (X5.out.2).cell 1
  simp only [List.getElem?_cons_zero, List.getElem?_cons_succ] at x0 x1 y0 y1
  go_wp2_with fail
  refine (G11.out _ D2.out).mono ?_
  rintro e u3 ⟨rfl, h⟩
  have D3 := Lib.hid (D2.out.trans h)
  clear h x0 x1 y0 y1 X5
  go_wp2_with fail
  refine (G12.out _ D3.out).mono ?_
  rintro e u4 ⟨rfl, h⟩
  have D4 := Lib.hid (D3.out.trans h)
  clear h
  go_wp2_with fail
  go_ret
  exact ⟨rfl, X2.out.1.trans D4.out⟩

theorem latticeClosed_walk (W : World) (A0 : Option Addr) (n0 c0 : Nat) (cs1 cs2 : Array Value) (a3 : Int) (R0 : Rd Tryd.prog W 8 22 [.slice A0 n0 c0]) (rd1 : Rd Tryd.prog W 8 25 cs1.toList) (rd2 : Rd Tryd.prog W 8 25 cs2.toList) (w3 : (Lit.int .u32 a3).wf = true) (hT : TabAt 0 Lib.deBruijn64tab W) :
    Calls Tryd.prog 7 #[.slice A0 n0 c0, .agg cs1, .agg cs2, .int .u32 a3] W fun e w' => e = .returned (.bool true) ∧ Below W.heap.size W w' := by
  obtain ⟨A, c, xs, hv, hx, ok, hl⟩ := rd_labs R0
  obtain ⟨rfl, rfl, rfl⟩ := Value.slice.inj hv
  obtain ⟨l, k, rfl, _, hk⟩ := label_arg rd1
  obtain ⟨n, q, rfl, _, hq⟩ := label_arg rd2
  obtain ⟨m, rfl, hm⟩ := wf_u32 w3
  exact (latticeClosed_core W _ _ xs l k n q m hx ok (by omega) hk hq hm hT).mono fun _ _ ⟨h1, h2⟩ => ⟨h1, h2.same⟩
end Go.Proofs.YtpjcfelknkddfaaDoor
