/- LatticeNumbers: each label is told by its number, and back; it is below itself, and so on: the walk. -/
import Derived.Test.YtpjcfelknkddfaaDoorLatticeUnions
namespace Go.Proofs.YtpjcfelknkddfaaDoor
open Go.RowKit

theorem sh_bit {d j : Nat} (hd : d < 4294967296) : bits .and .u32 ((d : Int) / (2 : Int) ^ j) 1 = (((d.testBit j).toNat : Nat) : Int) := by
  have e1 : (d : Int) / (2 : Int) ^ j = ((d / 2 ^ j : Nat) : Int) := by simp
  have h1 : d / 2 ^ j < 4294967296 := Nat.lt_of_le_of_lt (Nat.div_le_self _ _) hd
  rw [e1, show (1 : Int) = ((1 : Nat) : Int) from rfl, u32_and_nat _ _ h1 (by omega), Nat.and_one_is_mod, Nat.testBit_eq_decide_div_mod_eq]
  have h2 := Nat.mod_two_eq_zero_or_one (d / 2 ^ j)
  rcases h2 with h | h <;> rw [h] <;> rfl
theorem sub_none {a b : Nat} (ha : a < 4294967296) (hb : b < 4294967296) (h : ∀ j, a.testBit j = true → b.testBit j = true) : bits .andNot .u32 (a : Int) (b : Int) = 0 := by
  rw [u32_andNot_nat _ _ ha hb]
  have : a &&& (4294967295 - b) = 0 := by
    apply Nat.eq_of_testBit_eq
    intro j
    rw [Nat.testBit_and, Nat.zero_testBit, show 4294967295 - b = 2 ^ 32 - (b + 1) from by omega, Nat.testBit_two_pow_sub_succ hb]
    cases ha : a.testBit j with
    | false => rfl
    | true => simp [h j ha]
  rw [this]
  rfl
set_option maxHeartbeats 8000000 in
set_option maxRecDepth 100000 in
theorem latticeNumbers_core (W : World) (A0 : Option Addr) (c0 : Nat) (Ls : List (Nat × Nat)) (hx : Rws W A0 2 (Ls.map labR)) (ok : okL Ls) (hn : Ls.length ≤ 140737488351232) (hT : TabAt 0 Lib.deBruijn64tab W) :
    Calls Tryd.prog 4 #[.slice A0 Ls.length c0] W fun e w' => e = .returned (.bool true) ∧ Ch No W w' := by
  obtain ⟨N, hN⟩ : ∃ N, Ls.length = N := ⟨_, rfl⟩
  have HX := Lib.hid (And.intro hN (And.intro hx (And.intro ok hT)))
  rw [hN] at hn ⊢
  clear hN hx ok hT
  go_enter Tryd.func4, Tryd.ntmps4
  go_wp2_with fail
  refine (latAlive_any _ HX.out.2.2.2).mono ?_
  rintro e w1 ⟨rfl, h1⟩
  have X1 := Lib.hid h1
  clear h1
  by_cases h16 : 16 < N
  · go_wp2_with fail
    go_ret
    exact ⟨rfl, X1.out⟩
  have HN := Lib.hid (LNew_any (c := c0) (HX.out.2.1.no X1.out) HX.out.1 HX.out.2.2.1 (by omega))
  go_wp2_with fail
  refine HN.out.mono ?_
  rintro e w2 (⟨h0, pb, A, c, mb, D, cd, rfl, hl, h2⟩ | ⟨h0, rfl, h2⟩)
  rotate_left
  · have X2 := Lib.hid (X1.out.trans h2)
    generalize chkL Ls = f at *
    have hf : (f == 0) = false := by simpa using h0
    clear h2 X1 HN
    go_wp2_with fail
    go_ret
    exact ⟨rfl, X2.out⟩
  have X2 := Lib.hid (And.intro (X1.out.trans h2) (And.intro hl h0))
  have hN16 : N ≤ 16 := by omega
  clear h2 hl X1 HN h0 h16 hn
  have HD := Lib.hid (fun w' (h : Ch No w2 w') (i : Int) => LtDown_any (X2.out.2.1.no h) i)
  go_wp2_with fail
  go_loopw [5, 6, 7, 8, 9, 10, 11, 28] (fun _ _ _ _ _ _ _ ix wr => ∃ j : Nat, j ≤ N ∧ ix = .int .i64 j ∧ Hid (Ch No w2 wr)) (fun _ _ _ _ _ _ _ ix _ => N - (intOf ix).toNat)
  case atStart => exact ⟨0, by omega, rfl, Lib.hid (Ch.refl _ _)⟩
  case round =>
    obtain ⟨j, hj, rfl, hw⟩ := hrel
    by_cases hlt : j < N
    · obtain ⟨pre, z, post, e, hp, hz⟩ := split_at (xs := Ls) (i := j) (by rw [HX.out.1]; exact hlt)
      have HZ := Lib.hid (HX.out.2.2.1 z (by rw [e]; simp))
      have hwh := whr_at X2.out.2.2 e hp
      have hat : atL Ls (j : Int) = (z, 0) := by unfold atL; rw [if_neg (by omega), Int.toNat_natCast, hz]
      have hdw : (if (j : Int) < 0 then 0 else dwn Ls j) = bel Ls z := by rw [if_neg (by omega)]; unfold dwn; rw [Int.toNat_natCast, hz]; rfl
      have hdl : bel Ls z < 65536 := Nat.lt_of_lt_of_le (bel_lt Ls z) (Nat.pow_le_pow_right (n := 2) (j := 16) (by omega) (by rw [HX.out.1]; exact hN16))
      obtain ⟨b, off, hA, k0, k1⟩ := (HX.out.2.1.no (X2.out.1.trans hw.out)).lab e
      rw [hp] at k0 k1
      have lb : b < wr.heap.size := World.block_lt_of_cell? _ _ k0
      have F1 := Lib.hid (fun w' (h : Ch No w2 w') => by have q := LtIndex_any (X2.out.2.1.no h) z.1 z.2; rw [show ((z.1, z.2) : Nat × Nat) = z from rfl, hwh] at q; exact q)
      have F2 := Lib.hid (fun w' (h : Ch No w2 w') => by have q := LtAt_any (X2.out.2.1.no h) (j : Int); rw [hat] at q; exact q)
      have F3 := Lib.hid (fun w' (h : Ch No w2 w') => by have q := LtDown_any (X2.out.2.1.no h) (j : Int); rw [hdw] at q; exact q)
      have F4 := Lib.hid (fun w' (h : Ch No w2 w') => LtBelow_any (X2.out.2.1.no h) z.1 z.2 HZ.out.2)
      have F5 := Lib.hid (fun w' (h : Ch No w2 w') => LtClosed_any (X2.out.2.1.no h) (bel Ls z) (by omega) (tab_ch HX.out.2.2.2 (X2.out.1.trans h)) true (decide_eq_true (cl_bel Ls z)))
      have hsb := sh_bit (d := bel Ls z) (j := j) (by omega)
      rw [bel_self hz] at hsb
      have HSUB : Hid (∀ n y, Ls[n]? = some y → (bel Ls z).testBit n = true → bits .andNot .u32 ((bel Ls y : Nat) : Int) ((bel Ls z : Nat) : Int) = 0) := Lib.hid (fun n y hy hb => sub_none (by have := Nat.lt_of_lt_of_le (bel_lt Ls y) (Nat.pow_le_pow_right (n := 2) (j := 16) (by omega) (by rw [HX.out.1]; exact hN16)); omega) (by omega) (bel_sub hy hb))
      have HBIT := Lib.hid (fun n => sh_bit (d := bel Ls z) (j := n) (by omega))
      have hea := fun w => eqI z z w (decide_eq_true rfl)
      rw [show bel Ls (z.1, z.2) = bel Ls z from rfl] at F4
      clear e hp hz hwh hat hdw
      subst hA
      generalize bel Ls z = d at *
      have HX3 : Hid (Ch No wr (wr.alloc (.cells #[.int .u8 z.1, .int .u16 z.2] 25)) ∧ Blk (wr.alloc (.cells #[.int .u8 z.1, .int .u16 z.2] 25)) wr.heap.size 25 [.int .u8 z.1, .int .u16 z.2]) := Lib.hid ⟨(Ch.refl No wr).alloc _, Blk.new wr 25 [.int .u8 z.1, .int .u16 z.2]⟩
      go_upto_region 11 with fail
      generalize wr.alloc (.cells #[.int .u8 z.1, .int .u16 z.2] 25) = w4 at *
      generalize wr.heap.size = xb at *
      have x0 := HX3.out.2.cell 0
      have x1 := HX3.out.2.cell 1
      simp only [List.getElem?_cons_zero, List.getElem?_cons_succ] at x0 x1
      have H4 := Lib.hid (hw.out.trans HX3.out.1)
      clear k0 k1 lb
      go_wp2_with fail
      refine (F1.out _ H4.out).mono ?_
      rintro e w5 ⟨rfl, h5⟩
      have H5 := Lib.hid (And.intro (H4.out.trans h5) (HX3.out.2.ch h5 (fun h => h)))
      clear h5 x0 x1 HX3 H4 hw F1
      go_wp2_with fail
      refine (F2.out _ H5.out.1).mono ?_
      rintro e w6 ⟨rfl, h6⟩
      have H6 : Hid (Ch No w2 (w6.alloc (.cells #[.int .u8 z.1, .int .u16 z.2] 25)) ∧ Blk (w6.alloc (.cells #[.int .u8 z.1, .int .u16 z.2] 25)) xb 25 [.int .u8 z.1, .int .u16 z.2] ∧ Blk (w6.alloc (.cells #[.int .u8 z.1, .int .u16 z.2] 25)) w6.heap.size 25 [.int .u8 z.1, .int .u16 z.2]) := Lib.hid ⟨(H5.out.1.trans h6).alloc _, (H5.out.2.ch h6 (fun h => h)).alloc _, Blk.new w6 25 [.int .u8 z.1, .int .u16 z.2]⟩
      clear h6 H5 F2
      go_upto_region 13 with fail
      generalize w6.alloc (.cells #[.int .u8 z.1, .int .u16 z.2] 25) = w7 at *
      generalize w6.heap.size = yb at *
      have x0 := H6.out.2.1.cell 0
      have x1 := H6.out.2.1.cell 1
      have y0 := H6.out.2.2.cell 0
      have y1 := H6.out.2.2.cell 1
      simp only [List.getElem?_cons_zero, List.getElem?_cons_succ] at x0 x1 y0 y1
      replace x0 := in_cell x0
      replace x1 := in_cell x1
      replace y0 := in_cell y0
      replace y1 := in_cell y1
      (refine wp_region_in (Ch No _) (by kernel_rfl) (by kernel_rfl) (Ch.refl _ _) (fun _ h => ch_drawn h) ?_)
      repeat (go_big_quiet_step (with_reducible first | exact in_chp (fun w' h => F3.out w' (H6.out.1.trans h)) | exact in_chp (fun w' h => F4.out w' (H6.out.1.trans h)) | exact in_chp (fun w' h => F5.out w' (H6.out.1.trans h))))
      (refine wpQuiet_nil ?_; intro wq0 hw'; obtain ⟨pw, hw''⟩ := hw'; subst hw'')
      have H8 := Lib.hid (H6.out.1.trans pw.h)
      generalize pw.w = w8 at *
      clear pw x0 x1 y0 y1 H6 hsb hea F4 F5
      go_wp2_with fail
      go_loopw [11, 89] (fun _ ix wr2 => ∃ n : Nat, n ≤ N ∧ ix = .int .i64 n ∧ Hid (Ch No w2 wr2)) (fun _ ix _ => N - (intOf ix).toNat)
      case atStart => exact ⟨0, by omega, rfl, H8⟩
      case round =>
        obtain ⟨n, hn, rfl, hv⟩ := hrel
        by_cases hnt : n < N
        · obtain ⟨y, hy⟩ : ∃ y, Ls[n]? = some y := ⟨_, List.getElem?_eq_getElem (by rw [HX.out.1]; exact hnt)⟩
          have hdn : (if (n : Int) < 0 then 0 else dwn Ls n) = bel Ls y := by rw [if_neg (by omega)]; unfold dwn; rw [Int.toNat_natCast, hy]; rfl
          have F6 := Lib.hid (fun w' (h : Ch No w2 w') => by have q := LtDown_any (X2.out.2.1.no h) (n : Int); rw [hdn] at q; exact q)
          have hbn := HBIT.out n
          have hsu := HSUB.out n y hy
          clear hdn hy
          generalize bel Ls y = dy at *
          cases hb : d.testBit n with
          | false =>
            rw [hb] at hbn
            simp only [Bool.toNat_false, Int.natCast_zero] at hbn
            clear hsu hb
            go_wp2_with fail
            refine (F3.out _ hv.out).mono ?_
            rintro e u1 ⟨rfl, h⟩
            have C1 := Lib.hid (hv.out.trans h)
            clear h
            go_wp2_with fail
            go_roundw
            case rel => exact ⟨n + 1, by omega, by simp, C1⟩
            case measure => simp [intOf]; omega
          | true =>
            rw [hb] at hbn
            simp only [Bool.toNat_true, Int.natCast_one] at hbn
            replace hsu := hsu hb
            clear hb
            go_wp2_with fail
            refine (F3.out _ hv.out).mono ?_
            rintro e u1 ⟨rfl, h⟩
            have C1 := Lib.hid (hv.out.trans h)
            clear h
            go_wp2_with fail
            refine (F6.out _ C1.out).mono ?_
            rintro e u2 ⟨rfl, h⟩
            have C2 := Lib.hid (C1.out.trans h)
            clear h
            go_wp2_with fail
            refine (F3.out _ C2.out).mono ?_
            rintro e u3 ⟨rfl, h⟩
            have C3 := Lib.hid (C2.out.trans h)
            clear h
            go_wp2_with fail
            go_roundw
            case rel => exact ⟨n + 1, by omega, by simp, C3⟩
            case measure => simp [intOf]; omega
        · go_wp2_with fail
          go_roundw
          case rel => exact ⟨j + 1, by omega, by simp, hv⟩
          case measure => simp [intOf]; omega
    · have G1 : Hid (∀ w', Ch No w2 w' → Calls Tryd.prog 17 #[.pointer (some ⟨pb, 0, none⟩), .int .i64 (-1)] w' fun e w'' => e = .returned (.int .u32 0) ∧ Ch No w' w'') := Lib.hid (fun w' h => HD.out w' h (-1))
      have hdN : (if (N : Int) < 0 then 0 else dwn Ls N) = 0 := by rw [if_neg (by omega)]; unfold dwn; rw [Int.toNat_natCast, List.getElem?_eq_none (by rw [HX.out.1]; exact Nat.le_refl _)]; rfl
      have G2 : Hid (∀ w', Ch No w2 w' → Calls Tryd.prog 17 #[.pointer (some ⟨pb, 0, none⟩), .int .i64 (N : Int)] w' fun e w'' => e = .returned (.int .u32 0) ∧ Ch No w' w'') := Lib.hid (fun w' h => by have q := HD.out w' h (N : Int); rw [hdN] at q; exact q)
      clear hdN HD
      go_wp2_with fail
      refine (G1.out _ hw.out).mono ?_
      rintro e u1 ⟨rfl, h⟩
      have C1 := Lib.hid (hw.out.trans h)
      clear h
      go_wp2_with fail
      refine (G2.out _ C1.out).mono ?_
      rintro e u2 ⟨rfl, h⟩
      have C2 := Lib.hid (C1.out.trans h)
      clear h
      go_wp2_with fail
      go_ret
      exact ⟨rfl, X2.out.1.trans C2.out⟩

theorem latticeNumbers_walk (W : World) (A0 : Option Addr) (n0 c0 : Nat) (R0 : Rd Tryd.prog W 8 22 [.slice A0 n0 c0]) (hT : TabAt 0 Lib.deBruijn64tab W) :
    Calls Tryd.prog 4 #[.slice A0 n0 c0] W fun e w' => e = .returned (.bool true) ∧ Below W.heap.size W w' := by
  obtain ⟨A, c, xs, hv, hx, ok, hl⟩ := rd_labs R0
  obtain ⟨rfl, rfl, rfl⟩ := Value.slice.inj hv
  exact (latticeNumbers_core W _ _ xs hx ok (by omega) hT).mono fun _ _ ⟨h1, h2⟩ => ⟨h1, h2.same⟩
end Go.Proofs.YtpjcfelknkddfaaDoor
