/- LatticeLists: of all lists of labels every answer, or the error, is as the document says: the walk. -/
import Derived.Test.YtpjcfelknkddfaaDoorLatAlive
namespace Go.Proofs.YtpjcfelknkddfaaDoor
open Go.RowKit

theorem in_chp {w : World} {P : Program} {f : FuncId} {args : Array Value} {p : In (Ch No w)} {v : Value} (h : ∀ w', Ch No w w' → Calls P f args w' fun e w'' => e = .returned v ∧ Ch No w' w'') :
    Calls P f args p.w fun e w'' => e = .returned v ∧ ∃ q : In (Ch No w), w'' = q.w := in_ch (h _ p.h)
theorem rd_labs {W : World} {n : Nat} {v : Value} (h : Rd Tryd.prog W (n + 3) 22 [v]) : ∃ A cap, ∃ xs : List (Nat × Nat), v = .slice A xs.length cap ∧ Rws W A 2 (xs.map labR) ∧ okL xs ∧ xs.length * 4 ≤ 140737488351232 := by
  obtain ⟨A, cap, xs, rfl, hr, hw, hc, hl⟩ := slice_dec (N := n + 2) (sz := 2) (B := 4) labR (fun x => x.1 < 256 ∧ x.2 < 65536) h Tryd.underlying22 (by kernel_rfl) (by kernel_rfl) (by omega) (fun r hr => by
    obtain ⟨x, h1, h2, h3⟩ := label_dec hr
    exact ⟨x, h1, h2, h3⟩)
  exact ⟨A, cap, xs, rfl, hr, hw, hl⟩
theorem chkL_len {Ls : List (Nat × Nat)} (h : chkL Ls = 0) : 1 ≤ Ls.length ∧ Ls.length ≤ 16 := by
  unfold chkL at h
  split at h
  · cases h
  · omega
set_option maxHeartbeats 16000000 in
set_option maxRecDepth 100000 in
theorem latticeLists_core (W : World) (A0 : Option Addr) (c0 : Nat) (Ls : List (Nat × Nat)) (l k : Nat) (i : Int) (m : Nat) (hx : Rws W A0 2 (Ls.map labR)) (ok : okL Ls) (hn : Ls.length ≤ 140737488351232) (hk : k < 65536) (hm : m < 4294967296) (hT : TabAt 0 Lib.deBruijn64tab W) :
    Calls Tryd.prog 3 #[.slice A0 Ls.length c0, .agg #[.int .u8 l, .int .u16 k], .int .i64 i, .int .u32 m] W fun e w' => e = .returned (.bool true) ∧ Ch No W w' := by
  obtain ⟨N, hN⟩ : ∃ N, Ls.length = N := ⟨_, rfl⟩
  have HX := Lib.hid (And.intro hN (And.intro hx (And.intro ok (And.intro hT (And.intro hk hm)))))
  rw [hN] at hn ⊢
  clear hN hx ok hT hk hm
  have X0 : Hid (Ch No W (W.alloc (.cells #[.int .u8 l, .int .u16 k] 25)) ∧ Blk (W.alloc (.cells #[.int .u8 l, .int .u16 k] 25)) W.heap.size 25 [.int .u8 l, .int .u16 k]) := Lib.hid ⟨(Ch.refl No W).alloc _, Blk.new W 25 [.int .u8 l, .int .u16 k]⟩
  go_enter Tryd.func3, Tryd.ntmps3
  go_wp2_with fail
  refine (latAlive_any _ (tab_ch HX.out.2.2.2.1 X0.out.1)).mono ?_
  rintro e w1 ⟨rfl, h1⟩
  have X1 := Lib.hid (And.intro (X0.out.1.trans h1) (X0.out.2.ch h1 (fun h => h)))
  clear X0 h1
  by_cases h40 : 40 < N
  · go_wp2_with fail
    go_ret
    exact ⟨rfl, X1.out.1⟩
  have HN := Lib.hid (LNew_any (c := c0) (HX.out.2.1.no X1.out.1) HX.out.1 HX.out.2.2.1 (by omega))
  have HR := Lib.hid (fun w' (h : Ch No W w') => RCheck_any (c := c0) (HX.out.2.1.no h) HX.out.1 (by omega))
  go_wp2_with fail
  refine HN.out.mono ?_
  rintro e w2 (⟨h0, pb, A, c, mb, D, cd, rfl, hl, h2⟩ | ⟨h0, rfl, h2⟩)
  rotate_left
  · have X2 := Lib.hid (X1.out.1.trans h2)
    generalize chkL Ls = f at *
    have hf : (f == 0) = false := by simpa using h0
    clear h2 X1 HN
    go_wp2_with fail
    refine (HR.out _ X2.out).mono ?_
    rintro e w3 ⟨rfl, h3⟩
    have X3 := Lib.hid (X2.out.trans h3)
    clear h3 X2 HR
    go_wp2_with fail
    go_ret
    exact ⟨by simp [h0], X3.out⟩
  obtain ⟨hN1, hN16⟩ := chkL_len h0
  rw [HX.out.1] at hN1 hN16
  rw [h0] at HR
  have X2 := Lib.hid (And.intro (X1.out.1.trans h2) (And.intro hl (X1.out.2.ch h2 (fun h => h))))
  clear h2 hl X1 HN h0
  generalize W.heap.size = xb at *
  go_wp2_with fail
  refine (HR.out _ X2.out.1).mono ?_
  rintro e w3 ⟨rfl, h3⟩
  have X3 := Lib.hid (And.intro (X2.out.1.trans h3) (And.intro (X2.out.2.1.no h3) (X2.out.2.2.ch h3 (fun h => h))))
  clear h3 X2 HR h40
  have x0 := X3.out.2.2.cell 0
  have x1 := X3.out.2.2.cell 1
  simp only [List.getElem?_cons_zero, List.getElem?_cons_succ] at x0 x1
  obtain ⟨er, j, jx, jb, hidx, hrix, hb1, hb2, hb3⟩ : ∃ (er : Int) (j : Int) (jx : Int) (jb : Bool), (.tuple #[.int .i64 (((whr (l, k) Ls 0).getD 0 : Nat) : Int), .int .i64 (if (whr (l, k) Ls 0).isSome = true then 0 else 30)] : Value) = .tuple #[.int .i64 j, .int .i64 er] ∧ idxL Ls (l, k) = jx ∧ decide (jx < 0) = jb ∧ (jb = true → j = 0 ∧ er = 30) ∧ (jb = false → j = jx ∧ er = 0) := by
    unfold idxL
    cases whr (l, k) Ls 0 with
    | none => exact ⟨30, 0, -1, true, rfl, rfl, rfl, fun _ => ⟨rfl, rfl⟩, fun h => (by cases h)⟩
    | some q => exact ⟨0, q, q, false, rfl, rfl, by simp, fun h => (by cases h), fun _ => ⟨rfl, rfl⟩⟩
  have F1 := Lib.hid (fun w' (h : Ch No w3 w') => by have q := LtIndex_any (X3.out.2.1.no h) l k; rw [hidx] at q; exact q)
  have F2 := Lib.hid (fun w' (h : Ch No w3 w') => by have q := RIndex_any (c := c0) (HX.out.2.1.no (X3.out.1.trans h)) HX.out.1 (by omega) l k; rw [hrix] at q; exact q)
  have F3 := Lib.hid (fun w' (h : Ch No w3 w') => LtAt_any (X3.out.2.1.no h) i)
  have F5 := Lib.hid (fun w' (h : Ch No w3 w') => LtLen_any (X3.out.2.1.no h))
  have F6 := Lib.hid (fun w' (h : Ch No w3 w') => LtDown_any (X3.out.2.1.no h) i)
  have F7 := Lib.hid (fun w' (h : Ch No w3 w') => LtBelow_any (X3.out.2.1.no h) l k HX.out.2.2.2.2.1)
  have F8 := Lib.hid (fun w' (h : Ch No w3 w') => RBelow_any (c := c0) (HX.out.2.1.no (X3.out.1.trans h)) HX.out.1 hN16 HX.out.2.2.1 l k HX.out.2.2.2.2.1)
  have F9 := Lib.hid (fun w' (h : Ch No w3 w') => LtClose_any (X3.out.2.1.no h) m HX.out.2.2.2.2.2 (tab_ch HX.out.2.2.2.1 (X3.out.1.trans h)))
  obtain ⟨cb, hcb⟩ : ∃ cb, decide (cl Ls m = m) = cb := ⟨_, rfl⟩
  have hcc : (((cl Ls m : Nat) : Int) == (m : Int)) = cb := by
    rw [← hcb, Bool.eq_iff_iff]
    simp
    omega
  have F10 := Lib.hid (fun w' (h : Ch No w3 w') => LtClosed_any (X3.out.2.1.no h) m HX.out.2.2.2.2.2 (tab_ch HX.out.2.2.2.1 (X3.out.1.trans h)) cb hcb)
  have F11 := Lib.hid (fun w' (h : Ch No w3 w') => RClose_any (c := c0) (HX.out.2.1.no (X3.out.1.trans h)) HX.out.1 hN16 HX.out.2.2.1 m HX.out.2.2.2.2.2)
  clear hidx hrix hcb
  generalize cl Ls m = q at *
  generalize bel Ls (l, k) = bx at *
  have hi1 : (i < 0 ∨ (N : Int) ≤ i) ∨ (0 ≤ i ∧ i < N) := by omega
  rcases hi1 with hi | ⟨hi, hi2⟩
  · have ea : atL Ls i = ((0, 0), 30) := by
      unfold atL
      split
      · rfl
      · rw [List.getElem?_eq_none (by have := HX.out.1; omega)]
    have ed : (if i < 0 then 0 else dwn Ls i) = 0 := by
      split
      · rfl
      · unfold dwn
        rw [List.getElem?_eq_none (by have := HX.out.1; omega)]
        rfl
    rw [ea] at F3
    rw [ed] at F6
    simp only [Int.natCast_zero] at F3 F6
    have hea := fun w => eqI (0, 0) (0, 0) w (decide_eq_true rfl)
    simp only [Int.natCast_zero] at hea
    obtain ⟨gi, hgi⟩ : ∃ gi, decide (0 ≤ i) = gi := ⟨_, rfl⟩
    have hgl : gi = true → ¬ i < N := fun h => by
      rw [h, decide_eq_true_iff] at hgi
      omega
    clear ea ed hi
    cases jb with
    | true =>
      obtain ⟨rfl, rfl⟩ := hb2 rfl
      have hjx : decide (jx < 0) = true := hb1
      have hjx2 : decide (0 ≤ jx) = false := by simpa using hb1
      clear hb1 hb2 hb3
      cases gi with
      | true =>
        have hgi2 : decide (0 ≤ i) = true := hgi
        have hgi3 : decide (i < (N : Int)) = false := by simpa using hgl rfl
        clear hgi hgl
        go_wp2_with fail
        refine (F1.out _ (Ch.refl _ _)).mono ?_
        rintro e w4 ⟨rfl, h4⟩
        have X4 := Lib.hid (And.intro h4 (X3.out.2.2.ch h4 (fun h => h)))
        clear h4 x0 x1
        have x0 := X4.out.2.cell 0
        have x1 := X4.out.2.cell 1
        simp only [List.getElem?_cons_zero, List.getElem?_cons_succ] at x0 x1
        go_wp2_with fail
        refine (F2.out _ X4.out.1).mono ?_
        rintro e w5 ⟨rfl, h5⟩
        have X5 := Lib.hid (And.intro (X4.out.1.trans h5) (X4.out.2.ch h5 (fun h => h)))
        clear h5 x0 x1 X4
        go_wp2_with fail
        refine (F3.out _ X5.out.1).mono ?_
        rintro e w6 ⟨rfl, h6⟩
        have X6 : Hid (Ch No w3 (w6.alloc (.cells #[.int .u8 0, .int .u16 0] 25)) ∧ Blk (w6.alloc (.cells #[.int .u8 0, .int .u16 0] 25)) xb 25 [.int .u8 l, .int .u16 k] ∧ Blk (w6.alloc (.cells #[.int .u8 0, .int .u16 0] 25)) w6.heap.size 25 [.int .u8 0, .int .u16 0]) := Lib.hid ⟨(X5.out.1.trans h6).alloc _, (X5.out.2.ch h6 (fun h => h)).alloc _, Blk.new w6 25 [.int .u8 0, .int .u16 0]⟩
        clear h6 X5
        go_upto_region 12 with fail
        generalize w6.alloc (.cells #[.int .u8 0, .int .u16 0] 25) = w7 at *
        generalize w6.heap.size = yb at *
        have X8 := X6
        clear X6
        go_wp2_with fail
        refine (F11.out _ X8.out.1).mono ?_
        rintro e w9 ⟨rfl, h9⟩
        have X9 := Lib.hid (And.intro (X8.out.1.trans h9) (And.intro (X8.out.2.1.ch h9 (fun h => h)) (X8.out.2.2.ch h9 (fun h => h))))
        clear h9 X8
        have x0 := X9.out.2.1.cell 0
        have x1 := X9.out.2.1.cell 1
        have y0 := X9.out.2.2.cell 0
        have y1 := X9.out.2.2.cell 1
        simp only [List.getElem?_cons_zero, List.getElem?_cons_succ] at x0 x1 y0 y1
        replace x0 := in_cell x0
        replace x1 := in_cell x1
        replace y0 := in_cell y0
        replace y1 := in_cell y1
        go_upto_region 17 with fail
        (simp only [List.append_eq, List.cons_append, List.nil_append]; refine wp_region_inF (Ch No _) (by kernel_rfl) (by kernel_rfl) (by kernel_rfl) (Ch.refl _ _) (fun _ h => ch_drawn h) ?_)
        repeat (go_big_quiet_step (with_reducible first | exact in_chp (fun w' h => F5.out w' (X9.out.1.trans h)) | exact in_chp (fun w' h => F6.out w' (X9.out.1.trans h)) | exact in_chp (fun w' h => F7.out w' (X9.out.1.trans h)) | exact in_chp (fun w' h => F8.out w' (X9.out.1.trans h)) | exact in_chp (fun w' h => F9.out w' (X9.out.1.trans h)) | exact in_chp (fun w' h => F10.out w' (X9.out.1.trans h))))
        (refine wpQuiet_nil ?_; intro wq0 hw'; obtain ⟨pw, hw''⟩ := hw'; subst hw'')
        go_wp2_with fail
        go_ret
        exact ⟨rfl, (X3.out.1.trans X9.out.1).trans pw.h⟩
      | false =>
        have hgi2 : decide (0 ≤ i) = false := hgi
        clear hgi hgl
        go_wp2_with fail
        refine (F1.out _ (Ch.refl _ _)).mono ?_
        rintro e w4 ⟨rfl, h4⟩
        have X4 := Lib.hid (And.intro h4 (X3.out.2.2.ch h4 (fun h => h)))
        clear h4 x0 x1
        have x0 := X4.out.2.cell 0
        have x1 := X4.out.2.cell 1
        simp only [List.getElem?_cons_zero, List.getElem?_cons_succ] at x0 x1
        go_wp2_with fail
        refine (F2.out _ X4.out.1).mono ?_
        rintro e w5 ⟨rfl, h5⟩
        have X5 := Lib.hid (And.intro (X4.out.1.trans h5) (X4.out.2.ch h5 (fun h => h)))
        clear h5 x0 x1 X4
        go_wp2_with fail
        refine (F3.out _ X5.out.1).mono ?_
        rintro e w6 ⟨rfl, h6⟩
        have X6 : Hid (Ch No w3 (w6.alloc (.cells #[.int .u8 0, .int .u16 0] 25)) ∧ Blk (w6.alloc (.cells #[.int .u8 0, .int .u16 0] 25)) xb 25 [.int .u8 l, .int .u16 k] ∧ Blk (w6.alloc (.cells #[.int .u8 0, .int .u16 0] 25)) w6.heap.size 25 [.int .u8 0, .int .u16 0]) := Lib.hid ⟨(X5.out.1.trans h6).alloc _, (X5.out.2.ch h6 (fun h => h)).alloc _, Blk.new w6 25 [.int .u8 0, .int .u16 0]⟩
        clear h6 X5
        go_upto_region 12 with fail
        generalize w6.alloc (.cells #[.int .u8 0, .int .u16 0] 25) = w7 at *
        generalize w6.heap.size = yb at *
        have X8 := X6
        clear X6
        go_wp2_with fail
        refine (F11.out _ X8.out.1).mono ?_
        rintro e w9 ⟨rfl, h9⟩
        have X9 := Lib.hid (And.intro (X8.out.1.trans h9) (And.intro (X8.out.2.1.ch h9 (fun h => h)) (X8.out.2.2.ch h9 (fun h => h))))
        clear h9 X8
        have x0 := X9.out.2.1.cell 0
        have x1 := X9.out.2.1.cell 1
        have y0 := X9.out.2.2.cell 0
        have y1 := X9.out.2.2.cell 1
        simp only [List.getElem?_cons_zero, List.getElem?_cons_succ] at x0 x1 y0 y1
        replace x0 := in_cell x0
        replace x1 := in_cell x1
        replace y0 := in_cell y0
        replace y1 := in_cell y1
        go_upto_region 17 with fail
        (simp only [List.append_eq, List.cons_append, List.nil_append]; refine wp_region_inF (Ch No _) (by kernel_rfl) (by kernel_rfl) (by kernel_rfl) (Ch.refl _ _) (fun _ h => ch_drawn h) ?_)
        repeat (go_big_quiet_step (with_reducible first | exact in_chp (fun w' h => F5.out w' (X9.out.1.trans h)) | exact in_chp (fun w' h => F6.out w' (X9.out.1.trans h)) | exact in_chp (fun w' h => F7.out w' (X9.out.1.trans h)) | exact in_chp (fun w' h => F8.out w' (X9.out.1.trans h)) | exact in_chp (fun w' h => F9.out w' (X9.out.1.trans h)) | exact in_chp (fun w' h => F10.out w' (X9.out.1.trans h))))
        (refine wpQuiet_nil ?_; intro wq0 hw'; obtain ⟨pw, hw''⟩ := hw'; subst hw'')
        go_wp2_with fail
        go_ret
        exact ⟨rfl, (X3.out.1.trans X9.out.1).trans pw.h⟩
    | false =>
      obtain ⟨rfl, rfl⟩ := hb3 rfl
      have hjx : decide (j < 0) = false := hb1
      have hjx2 : decide (0 ≤ j) = true := by simpa using hb1
      clear hb1 hb2 hb3
      cases gi with
      | true =>
        have hgi2 : decide (0 ≤ i) = true := hgi
        have hgi3 : decide (i < (N : Int)) = false := by simpa using hgl rfl
        clear hgi hgl
        go_wp2_with fail
        refine (F1.out _ (Ch.refl _ _)).mono ?_
        rintro e w4 ⟨rfl, h4⟩
        have X4 := Lib.hid (And.intro h4 (X3.out.2.2.ch h4 (fun h => h)))
        clear h4 x0 x1
        have x0 := X4.out.2.cell 0
        have x1 := X4.out.2.cell 1
        simp only [List.getElem?_cons_zero, List.getElem?_cons_succ] at x0 x1
        go_wp2_with fail
        refine (F2.out _ X4.out.1).mono ?_
        rintro e w5 ⟨rfl, h5⟩
        have X5 := Lib.hid (And.intro (X4.out.1.trans h5) (X4.out.2.ch h5 (fun h => h)))
        clear h5 x0 x1 X4
        go_wp2_with fail
        refine (F3.out _ X5.out.1).mono ?_
        rintro e w6 ⟨rfl, h6⟩
        have X6 : Hid (Ch No w3 (w6.alloc (.cells #[.int .u8 0, .int .u16 0] 25)) ∧ Blk (w6.alloc (.cells #[.int .u8 0, .int .u16 0] 25)) xb 25 [.int .u8 l, .int .u16 k] ∧ Blk (w6.alloc (.cells #[.int .u8 0, .int .u16 0] 25)) w6.heap.size 25 [.int .u8 0, .int .u16 0]) := Lib.hid ⟨(X5.out.1.trans h6).alloc _, (X5.out.2.ch h6 (fun h => h)).alloc _, Blk.new w6 25 [.int .u8 0, .int .u16 0]⟩
        clear h6 X5
        go_upto_region 12 with fail
        generalize w6.alloc (.cells #[.int .u8 0, .int .u16 0] 25) = w7 at *
        generalize w6.heap.size = yb at *
        have X8 := X6
        clear X6
        go_wp2_with fail
        refine (F11.out _ X8.out.1).mono ?_
        rintro e w9 ⟨rfl, h9⟩
        have X9 := Lib.hid (And.intro (X8.out.1.trans h9) (And.intro (X8.out.2.1.ch h9 (fun h => h)) (X8.out.2.2.ch h9 (fun h => h))))
        clear h9 X8
        have x0 := X9.out.2.1.cell 0
        have x1 := X9.out.2.1.cell 1
        have y0 := X9.out.2.2.cell 0
        have y1 := X9.out.2.2.cell 1
        simp only [List.getElem?_cons_zero, List.getElem?_cons_succ] at x0 x1 y0 y1
        replace x0 := in_cell x0
        replace x1 := in_cell x1
        replace y0 := in_cell y0
        replace y1 := in_cell y1
        go_upto_region 17 with fail
        (simp only [List.append_eq, List.cons_append, List.nil_append]; refine wp_region_inF (Ch No _) (by kernel_rfl) (by kernel_rfl) (by kernel_rfl) (Ch.refl _ _) (fun _ h => ch_drawn h) ?_)
        repeat (go_big_quiet_step (with_reducible first | exact in_chp (fun w' h => F5.out w' (X9.out.1.trans h)) | exact in_chp (fun w' h => F6.out w' (X9.out.1.trans h)) | exact in_chp (fun w' h => F7.out w' (X9.out.1.trans h)) | exact in_chp (fun w' h => F8.out w' (X9.out.1.trans h)) | exact in_chp (fun w' h => F9.out w' (X9.out.1.trans h)) | exact in_chp (fun w' h => F10.out w' (X9.out.1.trans h))))
        (refine wpQuiet_nil ?_; intro wq0 hw'; obtain ⟨pw, hw''⟩ := hw'; subst hw'')
        go_wp2_with fail
        go_ret
        exact ⟨rfl, (X3.out.1.trans X9.out.1).trans pw.h⟩
      | false =>
        have hgi2 : decide (0 ≤ i) = false := hgi
        clear hgi hgl
        go_wp2_with fail
        refine (F1.out _ (Ch.refl _ _)).mono ?_
        rintro e w4 ⟨rfl, h4⟩
        have X4 := Lib.hid (And.intro h4 (X3.out.2.2.ch h4 (fun h => h)))
        clear h4 x0 x1
        have x0 := X4.out.2.cell 0
        have x1 := X4.out.2.cell 1
        simp only [List.getElem?_cons_zero, List.getElem?_cons_succ] at x0 x1
        go_wp2_with fail
        refine (F2.out _ X4.out.1).mono ?_
        rintro e w5 ⟨rfl, h5⟩
        have X5 := Lib.hid (And.intro (X4.out.1.trans h5) (X4.out.2.ch h5 (fun h => h)))
        clear h5 x0 x1 X4
        go_wp2_with fail
        refine (F3.out _ X5.out.1).mono ?_
        rintro e w6 ⟨rfl, h6⟩
        have X6 : Hid (Ch No w3 (w6.alloc (.cells #[.int .u8 0, .int .u16 0] 25)) ∧ Blk (w6.alloc (.cells #[.int .u8 0, .int .u16 0] 25)) xb 25 [.int .u8 l, .int .u16 k] ∧ Blk (w6.alloc (.cells #[.int .u8 0, .int .u16 0] 25)) w6.heap.size 25 [.int .u8 0, .int .u16 0]) := Lib.hid ⟨(X5.out.1.trans h6).alloc _, (X5.out.2.ch h6 (fun h => h)).alloc _, Blk.new w6 25 [.int .u8 0, .int .u16 0]⟩
        clear h6 X5
        go_upto_region 12 with fail
        generalize w6.alloc (.cells #[.int .u8 0, .int .u16 0] 25) = w7 at *
        generalize w6.heap.size = yb at *
        have X8 := X6
        clear X6
        go_wp2_with fail
        refine (F11.out _ X8.out.1).mono ?_
        rintro e w9 ⟨rfl, h9⟩
        have X9 := Lib.hid (And.intro (X8.out.1.trans h9) (And.intro (X8.out.2.1.ch h9 (fun h => h)) (X8.out.2.2.ch h9 (fun h => h))))
        clear h9 X8
        have x0 := X9.out.2.1.cell 0
        have x1 := X9.out.2.1.cell 1
        have y0 := X9.out.2.2.cell 0
        have y1 := X9.out.2.2.cell 1
        simp only [List.getElem?_cons_zero, List.getElem?_cons_succ] at x0 x1 y0 y1
        replace x0 := in_cell x0
        replace x1 := in_cell x1
        replace y0 := in_cell y0
        replace y1 := in_cell y1
        go_upto_region 17 with fail
        (simp only [List.append_eq, List.cons_append, List.nil_append]; refine wp_region_inF (Ch No _) (by kernel_rfl) (by kernel_rfl) (by kernel_rfl) (Ch.refl _ _) (fun _ h => ch_drawn h) ?_)
        repeat (go_big_quiet_step (with_reducible first | exact in_chp (fun w' h => F5.out w' (X9.out.1.trans h)) | exact in_chp (fun w' h => F6.out w' (X9.out.1.trans h)) | exact in_chp (fun w' h => F7.out w' (X9.out.1.trans h)) | exact in_chp (fun w' h => F8.out w' (X9.out.1.trans h)) | exact in_chp (fun w' h => F9.out w' (X9.out.1.trans h)) | exact in_chp (fun w' h => F10.out w' (X9.out.1.trans h))))
        (refine wpQuiet_nil ?_; intro wq0 hw'; obtain ⟨pw, hw''⟩ := hw'; subst hw'')
        go_wp2_with fail
        go_ret
        exact ⟨rfl, (X3.out.1.trans X9.out.1).trans pw.h⟩
  · obtain ⟨ii, rfl⟩ : ∃ ii : Nat, i = ii := ⟨i.toNat, by omega⟩
    have hii : ii < N := by omega
    have hii2 : decide ((ii : Int) < (N : Int)) = true := by simpa using hii
    obtain ⟨pre, y, post, e, hp, hy⟩ := split_at (xs := Ls) (i := ii) (by rw [HX.out.1]; exact hii)
    have HY := Lib.hid (HX.out.2.2.1 y (by rw [e]; simp))
    have ea : atL Ls (ii : Int) = (y, 0) := by unfold atL; rw [if_neg (by omega), Int.toNat_natCast, hy]
    have ed : (if (ii : Int) < 0 then 0 else dwn Ls ii) = bel Ls (y.1, y.2) := by rw [if_neg (by omega)]; unfold dwn; rw [Int.toNat_natCast, hy]; rfl
    rw [ea] at F3
    rw [ed] at F6
    obtain ⟨b, off, hA, l0, l1⟩ := (HX.out.2.1.no X3.out.1).lab e
    rw [hp] at l0 l1
    subst hA
    have X7C : Hid (∀ {w' : World}, Ch No w3 w' → w'.cell? ⟨b, off + ii * 2, none⟩ = some (.int .u8 y.1) ∧ w'.cell? ⟨b, off + ii * 2 + 1, none⟩ = some (.int .u16 y.2)) := Lib.hid (fun h => ⟨h.cell l0 (fun h => h), h.cell l1 (fun h => h)⟩)
    have F4 := Lib.hid (fun w' (h : Ch No w3 w') => RBelow_any (c := c0) (HX.out.2.1.no (X3.out.1.trans h)) HX.out.1 hN16 HX.out.2.2.1 y.1 y.2 HY.out.2)
    have hea := fun w => eqI y y w (decide_eq_true rfl)
    clear ea ed e hp hy l0 l1 hi hi2
    generalize bel Ls (y.1, y.2) = bw at *
    cases jb with
    | true =>
      obtain ⟨rfl, rfl⟩ := hb2 rfl
      have hjx : decide (jx < 0) = true := hb1
      have hjx2 : decide (0 ≤ jx) = false := by simpa using hb1
      clear hb1 hb2 hb3
      go_wp2_with fail
      refine (F1.out _ (Ch.refl _ _)).mono ?_
      rintro e w4 ⟨rfl, h4⟩
      have X4 := Lib.hid (And.intro h4 (X3.out.2.2.ch h4 (fun h => h)))
      clear h4 x0 x1
      have x0 := X4.out.2.cell 0
      have x1 := X4.out.2.cell 1
      simp only [List.getElem?_cons_zero, List.getElem?_cons_succ] at x0 x1
      go_wp2_with fail
      refine (F2.out _ X4.out.1).mono ?_
      rintro e w5 ⟨rfl, h5⟩
      have X5 := Lib.hid (And.intro (X4.out.1.trans h5) (X4.out.2.ch h5 (fun h => h)))
      clear h5 x0 x1 X4
      go_wp2_with fail
      refine (F3.out _ X5.out.1).mono ?_
      rintro e w6 ⟨rfl, h6⟩
      have X6 : Hid (Ch No w3 (w6.alloc (.cells #[.int .u8 y.1, .int .u16 y.2] 25)) ∧ Blk (w6.alloc (.cells #[.int .u8 y.1, .int .u16 y.2] 25)) xb 25 [.int .u8 l, .int .u16 k] ∧ Blk (w6.alloc (.cells #[.int .u8 y.1, .int .u16 y.2] 25)) w6.heap.size 25 [.int .u8 y.1, .int .u16 y.2]) := Lib.hid ⟨(X5.out.1.trans h6).alloc _, (X5.out.2.ch h6 (fun h => h)).alloc _, Blk.new w6 25 [.int .u8 y.1, .int .u16 y.2]⟩
      clear h6 X5
      go_upto_region 12 with fail
      generalize w6.alloc (.cells #[.int .u8 y.1, .int .u16 y.2] 25) = w7 at *
      generalize w6.heap.size = yb at *
      have lk0 := (X7C.out X6.out.1).1
      have lk1 := (X7C.out X6.out.1).2
      go_wp2_with fail
      refine (F4.out _ X6.out.1).mono ?_
      rintro e w8 ⟨rfl, h8⟩
      have X8 := Lib.hid (And.intro (X6.out.1.trans h8) (And.intro (X6.out.2.1.ch h8 (fun h => h)) (X6.out.2.2.ch h8 (fun h => h))))
      clear h8 X6 lk0 lk1
      go_wp2_with fail
      refine (F11.out _ X8.out.1).mono ?_
      rintro e w9 ⟨rfl, h9⟩
      have X9 := Lib.hid (And.intro (X8.out.1.trans h9) (And.intro (X8.out.2.1.ch h9 (fun h => h)) (X8.out.2.2.ch h9 (fun h => h))))
      clear h9 X8
      have x0 := X9.out.2.1.cell 0
      have x1 := X9.out.2.1.cell 1
      have y0 := X9.out.2.2.cell 0
      have y1 := X9.out.2.2.cell 1
      simp only [List.getElem?_cons_zero, List.getElem?_cons_succ] at x0 x1 y0 y1
      replace x0 := in_cell x0
      replace x1 := in_cell x1
      replace y0 := in_cell y0
      replace y1 := in_cell y1
      have lk0 := in_cell (X7C.out (X9.out.1)).1
      have lk1 := in_cell (X7C.out (X9.out.1)).2
      go_upto_region 17 with fail
      (simp only [List.append_eq, List.cons_append, List.nil_append]; refine wp_region_inF (Ch No _) (by kernel_rfl) (by kernel_rfl) (by kernel_rfl) (Ch.refl _ _) (fun _ h => ch_drawn h) ?_)
      repeat (go_big_quiet_step (with_reducible first | exact in_chp (fun w' h => F5.out w' (X9.out.1.trans h)) | exact in_chp (fun w' h => F6.out w' (X9.out.1.trans h)) | exact in_chp (fun w' h => F7.out w' (X9.out.1.trans h)) | exact in_chp (fun w' h => F8.out w' (X9.out.1.trans h)) | exact in_chp (fun w' h => F9.out w' (X9.out.1.trans h)) | exact in_chp (fun w' h => F10.out w' (X9.out.1.trans h))))
      (refine wpQuiet_nil ?_; intro wq0 hw'; obtain ⟨pw, hw''⟩ := hw'; subst hw'')
      go_wp2_with fail
      go_ret
      exact ⟨rfl, (X3.out.1.trans X9.out.1).trans pw.h⟩
    | false =>
      obtain ⟨rfl, rfl⟩ := hb3 rfl
      have hjx : decide (j < 0) = false := hb1
      have hjx2 : decide (0 ≤ j) = true := by simpa using hb1
      clear hb1 hb2 hb3
      go_wp2_with fail
      refine (F1.out _ (Ch.refl _ _)).mono ?_
      rintro e w4 ⟨rfl, h4⟩
      have X4 := Lib.hid (And.intro h4 (X3.out.2.2.ch h4 (fun h => h)))
      clear h4 x0 x1
      have x0 := X4.out.2.cell 0
      have x1 := X4.out.2.cell 1
      simp only [List.getElem?_cons_zero, List.getElem?_cons_succ] at x0 x1
      go_wp2_with fail
      refine (F2.out _ X4.out.1).mono ?_
      rintro e w5 ⟨rfl, h5⟩
      have X5 := Lib.hid (And.intro (X4.out.1.trans h5) (X4.out.2.ch h5 (fun h => h)))
      clear h5 x0 x1 X4
      go_wp2_with fail
      refine (F3.out _ X5.out.1).mono ?_
      rintro e w6 ⟨rfl, h6⟩
      have X6 : Hid (Ch No w3 (w6.alloc (.cells #[.int .u8 y.1, .int .u16 y.2] 25)) ∧ Blk (w6.alloc (.cells #[.int .u8 y.1, .int .u16 y.2] 25)) xb 25 [.int .u8 l, .int .u16 k] ∧ Blk (w6.alloc (.cells #[.int .u8 y.1, .int .u16 y.2] 25)) w6.heap.size 25 [.int .u8 y.1, .int .u16 y.2]) := Lib.hid ⟨(X5.out.1.trans h6).alloc _, (X5.out.2.ch h6 (fun h => h)).alloc _, Blk.new w6 25 [.int .u8 y.1, .int .u16 y.2]⟩
      clear h6 X5
      go_upto_region 12 with fail
      generalize w6.alloc (.cells #[.int .u8 y.1, .int .u16 y.2] 25) = w7 at *
      generalize w6.heap.size = yb at *
      have lk0 := (X7C.out X6.out.1).1
      have lk1 := (X7C.out X6.out.1).2
      go_wp2_with fail
      refine (F4.out _ X6.out.1).mono ?_
      rintro e w8 ⟨rfl, h8⟩
      have X8 := Lib.hid (And.intro (X6.out.1.trans h8) (And.intro (X6.out.2.1.ch h8 (fun h => h)) (X6.out.2.2.ch h8 (fun h => h))))
      clear h8 X6 lk0 lk1
      go_wp2_with fail
      refine (F11.out _ X8.out.1).mono ?_
      rintro e w9 ⟨rfl, h9⟩
      have X9 := Lib.hid (And.intro (X8.out.1.trans h9) (And.intro (X8.out.2.1.ch h9 (fun h => h)) (X8.out.2.2.ch h9 (fun h => h))))
      clear h9 X8
      have x0 := X9.out.2.1.cell 0
      have x1 := X9.out.2.1.cell 1
      have y0 := X9.out.2.2.cell 0
      have y1 := X9.out.2.2.cell 1
      simp only [List.getElem?_cons_zero, List.getElem?_cons_succ] at x0 x1 y0 y1
      replace x0 := in_cell x0
      replace x1 := in_cell x1
      replace y0 := in_cell y0
      replace y1 := in_cell y1
      have lk0 := in_cell (X7C.out (X9.out.1)).1
      have lk1 := in_cell (X7C.out (X9.out.1)).2
      go_upto_region 17 with fail
      (simp only [List.append_eq, List.cons_append, List.nil_append]; refine wp_region_inF (Ch No _) (by kernel_rfl) (by kernel_rfl) (by kernel_rfl) (Ch.refl _ _) (fun _ h => ch_drawn h) ?_)
      repeat (go_big_quiet_step (with_reducible first | exact in_chp (fun w' h => F5.out w' (X9.out.1.trans h)) | exact in_chp (fun w' h => F6.out w' (X9.out.1.trans h)) | exact in_chp (fun w' h => F7.out w' (X9.out.1.trans h)) | exact in_chp (fun w' h => F8.out w' (X9.out.1.trans h)) | exact in_chp (fun w' h => F9.out w' (X9.out.1.trans h)) | exact in_chp (fun w' h => F10.out w' (X9.out.1.trans h))))
      (refine wpQuiet_nil ?_; intro wq0 hw'; obtain ⟨pw, hw''⟩ := hw'; subst hw'')
      go_wp2_with fail
      go_ret
      exact ⟨rfl, (X3.out.1.trans X9.out.1).trans pw.h⟩

theorem latticeLists_walk (W : World) (A0 : Option Addr) (n0 c0 : Nat) (cs1 : Array Value) (a2 a3 : Int) (R0 : Rd Tryd.prog W 8 22 [.slice A0 n0 c0]) (rd1 : Rd Tryd.prog W 8 25 cs1.toList) (_w2 : (Lit.int .i64 a2).wf = true) (w3 : (Lit.int .u32 a3).wf = true) (hT : TabAt 0 Lib.deBruijn64tab W) :
    Calls Tryd.prog 3 #[.slice A0 n0 c0, .agg cs1, .int .i64 a2, .int .u32 a3] W fun e w' => e = .returned (.bool true) ∧ Below W.heap.size W w' := by
  obtain ⟨A, c, xs, hv, hx, ok, hl⟩ := rd_labs R0
  obtain ⟨rfl, rfl, rfl⟩ := Value.slice.inj hv
  obtain ⟨l, k, rfl, _, hk⟩ := label_arg rd1
  obtain ⟨m, rfl, hm⟩ := wf_u32 w3
  exact (latticeLists_core W _ _ xs l k a2 m hx ok (by omega) hk hm hT).mono fun _ _ ⟨h1, h2⟩ => ⟨h1, h2.same⟩
end Go.Proofs.YtpjcfelknkddfaaDoor
