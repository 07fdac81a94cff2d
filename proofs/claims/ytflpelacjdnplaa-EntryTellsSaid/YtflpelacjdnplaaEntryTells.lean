/- EntryTells: of all entries and bytes every answer is as the document says: the walk. -/
import Derived.Test.YtflpelacjdnplaaEntEq
import Derived.Test.YtflpelacjdnplaaEntAlive
namespace Go.Proofs.Ytflpelacjdnplaa
open Go.RowKit

/-- the bytes that writing hands back -/
def wrB (x : Ent) : List Int := if okE x then encB x else []
theorem wrB_isB (x : Ent) : ∀ b ∈ wrB x, isB b := by
  unfold wrB
  split
  · exact encB_isB x
  · simp
theorem EWrite_u (x : Ent) (w : World) : Calls Try.prog 29 #[x.val] w fun e w' => ∃ A c, e = .returned (.tuple #[.slice A (wrB x).length c, .int .i64 (errE x)]) ∧ Cls w' A (ints .u8 (wrB x)) ∧ Ch No w w' := by
  unfold wrB errE
  cases ho : okE x with
  | true =>
    refine (EWrite_ok x w ho).mono ?_
    rintro e w' ⟨A, c, rfl, o, h⟩
    obtain ⟨A', c', e', s', _⟩ := o.slice_ints
    rw [if_pos rfl, if_pos rfl, encB_length]
    exact ⟨A, c, rfl, by rw [(Value.slice.inj e').1]; exact s', h⟩
  | false =>
    refine (EWrite_bad x w ho).mono ?_
    rintro e w' ⟨rfl, h⟩
    rw [if_neg (by simp), if_neg (by simp)]
    exact ⟨none, 0, rfl, Cls.nil _ _, h⟩
theorem RWrite_u (x : Ent) (w : World) : Calls Try.prog 30 #[x.val] w fun e w' => ∃ A c, e = .returned (.tuple #[.slice A (wrB x).length c, .int .i64 (errE x)]) ∧ Cls w' A (ints .u8 (wrB x)) ∧ Ch No w w' := by
  unfold wrB errE
  cases ho : okE x with
  | true =>
    refine (RWrite_ok x w ho).mono ?_
    rintro e w' ⟨A, c, rfl, o, h⟩
    obtain ⟨A', c', e', s', _⟩ := o.slice_ints
    rw [if_pos rfl, if_pos rfl, encB_length]
    exact ⟨A, c, rfl, by rw [(Value.slice.inj e').1]; exact s', h⟩
  | false =>
    refine (RWrite_bad x w ho).mono ?_
    rintro e w' ⟨rfl, h⟩
    rw [if_neg (by simp), if_neg (by simp)]
    exact ⟨none, 0, rfl, Cls.nil _ _, h⟩

set_option maxHeartbeats 8000000 in
set_option maxRecDepth 100000 in
theorem entryTells_core (W : World) (x y : Ent) (A : Option Addr) (c : Nat) (b : List Int) (most : Int) (h : Cls W A (ints .u8 b)) (hb : ∀ z ∈ b, isB z) (hbc : b.length ≤ c) (hbl : b.length ≤ 140737488351232) :
    Calls Try.prog 8 #[x.val, y.val, .slice A b.length c, .int .i64 most] W fun e w' => e = .returned (.bool true) ∧ Ch No W w' := by
  have al := fun w => entAlive_any w
  have B1 : EBox ((W.alloc (.cells x.enc.toArray 32)).alloc (.cells y.enc.toArray 32)) W.heap.size x := ((Blk.new W 32 x.enc).alloc _).ebox
  have B2 : EBox ((W.alloc (.cells x.enc.toArray 32)).alloc (.cells y.enc.toArray 32)) (W.heap.size + 1) y := by
    have := (Blk.new (W.alloc (.cells x.enc.toArray 32)) 32 y.enc).ebox
    simpa using this
  have C2 : Ch No W ((W.alloc (.cells x.enc.toArray 32)).alloc (.cells y.enc.toArray 32)) := ((Ch.refl No W).alloc _).alloc _
  simp only [Ent.enc] at B1 B2 C2
  by_cases h300 : 300 < b.length
  · obtain ⟨n, hn⟩ : ∃ n, b.length = n := ⟨_, rfl⟩
    rw [hn] at h300 hbl ⊢
    clear hn h hb hbc B1 B2
    unfold Ent.val
    go_enter Try.func8, Try.ntmps8
    go_wp2_with fail
    refine (al _).mono ?_
    rintro e w1 ⟨rfl, h1⟩
    have H1 := Lib.hid (C2.trans h1)
    clear h1 C2 al
    go_wp2_with fail
    go_ret
    exact ⟨rfl, H1.out⟩
  have kW := fun w => EWrite_u x w
  have kV := fun w => RWrite_u x w
  have kS := fun (w' : World) A1 c1 A2 c2 h1 h2 => Same_any w' A1 c1 (wrB x) A2 c2 (wrB x) h1 h2 (wrB_isB x) (wrB_isB x)
  simp only [decide_true] at kS
  have kC := fun w => Check_any x w
  have kR := fun w (hw : Ch No W w) => ERead_any w A c b (h.ch hw (fun _ _ h => h)) hb
  have kQ := fun w (hw : Ch No W w) => RRead_any w A c b (h.ch hw (fun _ _ h => h)) hb hbc
  have kL := fun w => Less_any x y w
  have kM := fun w => RLess_any x y w
  have kB := fun w (hw : Ch No W w) (m : Int) => batch_any w A c b (h.ch hw (fun _ _ h => h)) hb (by omega) hbc (bat b) rfl m
  have kD := fun w (hw : Ch No W w) => RBatch_any w A c b (h.ch hw (fun _ _ h => h)) hb hbc (by omega)
  have hlb := bat_len b
  obtain ⟨L, hL⟩ : ∃ L, bat b = L := ⟨_, rfl⟩
  rw [hL] at kB kD hlb
  obtain ⟨m, hm, hme⟩ : ∃ m : Nat, m < 4 ∧ bits .and .i64 most 3 = m := by
    have h := i64_mask most 2 (by decide)
    have e : ((2 : Int) ^ 2 - 1) = 3 := rfl
    rw [e] at h
    exact ⟨(most % 2 ^ 2).toNat, by omega, by rw [h]; omega⟩
  obtain ⟨N, hN⟩ : ∃ N, L.length = N := ⟨_, rfl⟩
  have kB1 : ∀ w, Ch No W w → Calls Try.prog 33 #[.slice A b.length c, .int .i64 1000] w fun e w' => ∃ A' c', e = .returned (.tuple #[.slice A' N c', .bool true]) ∧ Rws w' A' 6 (L.map Ent.enc) ∧ Ch No w w' := fun w hw => by
    refine (kB w hw 1000).mono ?_
    rintro e w' ⟨v, rfl, hv, h⟩
    rw [List.take_of_length_le (by simp; omega)] at hv
    obtain ⟨A', c', rfl⟩ := row_shape hv
    rw [hN] at hv
    exact ⟨A', c', by rw [hN], rowE_rws hv hN.symm, h⟩
  have kB2 : ∀ w, Ch No W w → Calls Try.prog 33 #[.slice A b.length c, .int .i64 m] w fun e w' => ∃ A' c', e = .returned (.tuple #[.slice A' (min m N) c', .bool true]) ∧ Ch No w w' := fun w hw => by
    refine (kB w hw m).mono ?_
    rintro e w' ⟨v, rfl, hv, h⟩
    obtain ⟨A', c', rfl⟩ := row_shape hv
    refine ⟨A', c', ?_, h⟩
    rw [List.length_take, hN]
    rfl
  have kD1 : ∀ w, Ch No W w → Calls Try.prog 34 #[.slice A b.length c] w fun e w' => ∃ A' c', e = .returned (.slice A' N c') ∧ Rws w' A' 6 (L.map Ent.enc) ∧ Ch No w w' := fun w hw => by
    refine (kD w hw).mono ?_
    rintro e w' ⟨A', c', rfl, hv, h⟩
    rw [hN] at hv
    exact ⟨A', c', by rw [hN], rowE_rws hv hN.symm, h⟩
  obtain ⟨n, hn⟩ : ∃ n, b.length = n := ⟨_, rfl⟩
  obtain ⟨bs, hbs⟩ : ∃ bs, wrB x = bs := ⟨_, rfl⟩
  obtain ⟨bn, hbn⟩ : ∃ bn, bs.length = bn := ⟨_, rfl⟩
  obtain ⟨e1, he1⟩ : ∃ e1, errE x = e1 := ⟨_, rfl⟩
  obtain ⟨z, hz⟩ : ∃ z, (readE b).1 = z := ⟨_, rfl⟩
  obtain ⟨e2, he2⟩ : ∃ e2, (readE b).2 = e2 := ⟨_, rfl⟩
  obtain ⟨ls, hls⟩ : ∃ ls, lessE x y = ls := ⟨_, rfl⟩
  rw [hbs, hbn, he1] at kW kV
  rw [hbs, hbn] at kS
  rw [he1] at kC
  rw [hn] at kR kQ kB1 kB2 kD1 hlb h300 ⊢
  rw [hz, he2] at kR kQ
  rw [hls] at kL kM
  rw [hN] at hlb
  have hNl : N ≤ 15 := by omega
  have hez := fun w => eqE_run z z w
  have hev := fun w => eqR_run z z w
  simp only [decide_true] at hez hev
  have HL := Lib.hid hN
  clear kB kD hN hn hbs hbn he1 hz he2 hls hL h hb hbc hbl hlb
  have HK := Lib.hid (And.intro kW (And.intro kV (And.intro kR (And.intro kQ (And.intro kB1 (And.intro kD1 kB2))))))
  have HS := Lib.hid (And.intro kS (And.intro kC (And.intro kL kM)))
  clear kW kV kR kQ kB1 kB2 kD1 kS kC kL kM
  have hmin : (m ≤ N ∧ min m N = m) ∨ (N < m ∧ min m N = N) := by omega
  rcases hmin with ⟨hmN, hmin⟩ | ⟨hmN, hmin⟩
  all_goals
    rw [hmin] at HK
    clear hmin
    unfold Ent.val at HK HS ⊢
    go_enter Try.func8, Try.ntmps8
    go_wp2_with fail
    refine (al _).mono ?_
    rintro e w1 ⟨rfl, h1⟩
    obtain ⟨b1, hb1⟩ : ∃ b, W.heap.size = b := ⟨_, rfl⟩
    obtain ⟨b2, hb2⟩ : ∃ b, W.heap.size + 1 = b := ⟨_, rfl⟩
    rw [hb2, hb1]
    rw [hb2] at B2
    rw [hb1] at B1
    have HB := Lib.hid (And.intro (C2.trans h1) (And.intro (B1.no h1) (B2.no h1)))
    clear h1 C2 al B1 B2 hb1 hb2
    obtain ⟨a0, a1, a2, a3, a4, a5⟩ := HB.out.2.1
    go_wp2_with fail
    refine (HK.out.1 _).mono ?_
    rintro e w2 ⟨A2, c2, rfl, s2, h2⟩
    have HB2 := Lib.hid (And.intro (HB.out.1.trans h2) (And.intro (HB.out.2.1.no h2) (And.intro (HB.out.2.2.no h2) s2)))
    clear h2 s2 HB a0 a1 a2 a3 a4 a5
    obtain ⟨a0, a1, a2, a3, a4, a5⟩ := HB2.out.2.1
    go_wp2_with fail
    refine (HK.out.2.1 _).mono ?_
    rintro e w3 ⟨A3, c3, rfl, s3, h3⟩
    have HB3 := Lib.hid (And.intro (HB2.out.1.trans h3) (And.intro (HB2.out.2.1.no h3) (And.intro (HB2.out.2.2.1.no h3) (And.intro (HB2.out.2.2.2.ch h3 (fun _ _ h => h)) s3))))
    clear h3 s3 HB2 a0 a1 a2 a3 a4 a5
    go_wp2_with fail
    refine (HK.out.2.2.1 _ HB3.out.1).mono ?_
    rintro e w4 ⟨rfl, h4⟩
    have h4' : Ch No w3 (w4.alloc (.cells z.enc.toArray 32)) := h4.alloc _
    have Bz : EBox (w4.alloc (.cells z.enc.toArray 32)) w4.heap.size z := (Blk.new w4 32 z.enc).ebox
    simp only [Ent.enc] at h4' Bz
    have HB4 := Lib.hid (And.intro (HB3.out.1.trans h4') (And.intro (HB3.out.2.1.no h4') (And.intro (HB3.out.2.2.1.no h4') (And.intro (HB3.out.2.2.2.1.ch h4' (fun _ _ h => h)) (And.intro (HB3.out.2.2.2.2.ch h4' (fun _ _ h => h)) Bz)))))
    clear h4 h4' Bz HB3
    go_upto_region 8 with fail
    generalize w4.alloc (.cells #[.int .i64 z.t, .int .i64 z.arg, .int .i64 z.tenant, .int .i64 z.person, .int .i64 z.kind, .int .i64 z.code] 32) = w5 at *
    generalize w4.heap.size = b4 at *
    go_wp2_with fail
    refine (HK.out.2.2.2.1 _ HB4.out.1).mono ?_
    rintro e w6 ⟨rfl, h6⟩
    have h6' : Ch No w5 (w6.alloc (.cells z.enc.toArray 37)) := h6.alloc _
    have Bv : EBox (w6.alloc (.cells z.enc.toArray 37)) w6.heap.size z := (Blk.new w6 37 z.enc).ebox
    simp only [Ent.enc] at h6' Bv
    have HB6 := Lib.hid (And.intro (HB4.out.1.trans h6') (And.intro (HB4.out.2.1.no h6') (And.intro (HB4.out.2.2.1.no h6') (And.intro (HB4.out.2.2.2.1.ch h6' (fun _ _ h => h)) (And.intro (HB4.out.2.2.2.2.1.ch h6' (fun _ _ h => h)) (And.intro (HB4.out.2.2.2.2.2.no h6') Bv))))))
    clear h6 h6' Bv HB4
    go_upto_region 9 with fail
    generalize w6.alloc (.cells #[.int .i64 z.t, .int .i64 z.arg, .int .i64 z.tenant, .int .i64 z.person, .int .i64 z.kind, .int .i64 z.code] 37) = w7 at *
    generalize w6.heap.size = b6 at *
    go_wp2_with fail
    refine (HK.out.2.2.2.2.1 _ HB6.out.1).mono ?_
    rintro e w8 ⟨A8, c8, rfl, s8, h8⟩
    have HB8 := Lib.hid (And.intro (HB6.out.1.trans h8) (And.intro (HB6.out.2.1.no h8) (And.intro (HB6.out.2.2.1.no h8) (And.intro (HB6.out.2.2.2.1.ch h8 (fun _ _ h => h)) (And.intro (HB6.out.2.2.2.2.1.ch h8 (fun _ _ h => h)) (And.intro (HB6.out.2.2.2.2.2.1.no h8) (And.intro (HB6.out.2.2.2.2.2.2.no h8) s8)))))))
    clear h8 s8 HB6
    go_wp2_with fail
    refine (HK.out.2.2.2.2.2.1 _ HB8.out.1).mono ?_
    rintro e w9 ⟨A9, c9, rfl, s9, h9⟩
    have HB9 := Lib.hid (And.intro (HB8.out.1.trans h9) (And.intro (HB8.out.2.1.no h9) (And.intro (HB8.out.2.2.1.no h9) (And.intro (HB8.out.2.2.2.1.ch h9 (fun _ _ h => h)) (And.intro (HB8.out.2.2.2.2.1.ch h9 (fun _ _ h => h)) (And.intro (HB8.out.2.2.2.2.2.1.no h9) (And.intro (HB8.out.2.2.2.2.2.2.1.no h9) (And.intro (HB8.out.2.2.2.2.2.2.2.no h9) s9))))))))
    clear h9 s9 HB8
    go_wp2_with fail
    refine (HK.out.2.2.2.2.2.2 _ HB9.out.1).mono ?_
    rintro e w10 ⟨A10, c10, rfl, h10⟩
    have HB10 := Lib.hid (And.intro (HB9.out.1.trans h10) (And.intro (HB9.out.2.1.no h10) (And.intro (HB9.out.2.2.1.no h10) (And.intro (HB9.out.2.2.2.1.ch h10 (fun _ _ h => h)) (And.intro (HB9.out.2.2.2.2.1.ch h10 (fun _ _ h => h)) (And.intro (HB9.out.2.2.2.2.2.1.no h10) (And.intro (HB9.out.2.2.2.2.2.2.1.no h10) (And.intro (HB9.out.2.2.2.2.2.2.2.1.no h10) (HB9.out.2.2.2.2.2.2.2.2.no h10)))))))))
    clear h10 HB9
    go_upto_region 12 with fail
    have cS : ∀ p : In (Ch No w10), Calls Try.prog 35 #[.slice A2 bn c2, .slice A3 bn c3] p.w fun e w' => e = .returned (.bool true) ∧ Ch No p.w w' := fun p =>
      (HS.out.1 p.w A2 c2 A3 c3 (HB10.out.2.2.2.1.ch p.h (fun _ _ h => h)) (HB10.out.2.2.2.2.1.ch p.h (fun _ _ h => h))).mono (fun _ _ ⟨h1, h2⟩ => ⟨h1, h2 ▸ Ch.refl _ _⟩)
    have cC := fun p : In (Ch No w10) => HS.out.2.1 p.w
    have cL := fun p : In (Ch No w10) => HS.out.2.2.1 p.w
    have cM := fun p : In (Ch No w10) => HS.out.2.2.2 p.w
    obtain ⟨a0, a1, a2, a3, a4, a5⟩ := HB10.out.2.1
    obtain ⟨d0, d1, d2, d3, d4, d5⟩ := HB10.out.2.2.1
    obtain ⟨u0, u1, u2, u3, u4, u5⟩ := HB10.out.2.2.2.2.2.1
    obtain ⟨v0, v1, v2, v3, v4, v5⟩ := HB10.out.2.2.2.2.2.2.1
    replace a0 := in_cell a0
    replace a1 := in_cell a1
    replace a2 := in_cell a2
    replace a3 := in_cell a3
    replace a4 := in_cell a4
    replace a5 := in_cell a5
    replace d0 := in_cell d0
    replace d1 := in_cell d1
    replace d2 := in_cell d2
    replace d3 := in_cell d3
    replace d4 := in_cell d4
    replace d5 := in_cell d5
    replace u0 := in_cell u0
    replace u1 := in_cell u1
    replace u2 := in_cell u2
    replace u3 := in_cell u3
    replace u4 := in_cell u4
    replace u5 := in_cell u5
    replace v0 := in_cell v0
    replace v1 := in_cell v1
    replace v2 := in_cell v2
    replace v3 := in_cell v3
    replace v4 := in_cell v4
    replace v5 := in_cell v5
    (refine wp_region_in (Ch No _) (by kernel_rfl) (by kernel_rfl) (Ch.refl _ _) (fun _ h => ch_drawn h) ?_)
    repeat (go_big_quiet_step (exact in_ch (by with_reducible first | exact cS _ | exact cC _ | exact cL _ | exact cM _)))
    (refine wpQuiet_nil ?_; intro wq0 hw'; obtain ⟨pw, hw''⟩ := hw'; subst hw'')
    have HD := Lib.hid (And.intro (HB10.out.1.trans pw.h) (And.intro (HB10.out.2.2.2.2.2.2.2.1.no pw.h) (HB10.out.2.2.2.2.2.2.2.2.no pw.h)))
    clear HB10 cS cC cL cM a0 a1 a2 a3 a4 a5 d0 d1 d2 d3 d4 d5 u0 u1 u2 u3 u4 u5 v0 v1 v2 v3 v4 v5 hez hev HK HS
    generalize pw.w = w11 at *
    clear pw
    have heq : Hid (∀ (z : Ent) (w : World), (Op.equalIn 10000 37 (.agg #[.int .i64 z.t, .int .i64 z.arg, .int .i64 z.tenant, .int .i64 z.person, .int .i64 z.kind, .int .i64 z.code]) (.agg #[.int .i64 z.t, .int .i64 z.arg, .int .i64 z.tenant, .int .i64 z.person, .int .i64 z.kind, .int .i64 z.code])).run Try.prog w = .ok true w) :=
      Lib.hid (fun z w => by have := eqR_run z z w; simpa only [decide_true] using this)
    go_wp2_with fail
    go_loopw [22, 123] (fun _ i wr => ∃ pre post : List Ent, Hid (L = pre ++ post) ∧ i = .int .i64 pre.length ∧ Hid (Ch No w11 wr)) (fun _ i _ => N - (intOf i).toNat)
    case atStart => exact ⟨[], L, Lib.hid rfl, rfl, Lib.hid (Ch.refl _ _)⟩
    case round =>
      obtain ⟨pre, post, hx, rfl, hw⟩ := hrel
      have hln := congrArg List.length hx.out
      rw [HL.out, List.length_append] at hln
      cases post with
      | nil =>
        simp at hln
        have hH := HD.out.1.trans hw.out
        have HH := Lib.hid hH
        clear hH
        go_wp2_with fail
        go_ret
        exact ⟨rfl, HH.out⟩
      | cons a post =>
        rw [List.length_cons] at hln
        obtain ⟨g8, o8, rfl, p0, p1, p2, p3, p4, p5⟩ := (HD.out.2.1.no hw.out).ent hx.out
        obtain ⟨g9, o9, rfl, r0, r1, r2, r3, r4, r5⟩ := (HD.out.2.2.no hw.out).ent hx.out
        have hlt : pre.length < N := by omega
        have hea := heq.out a
        clear hln
        go_wp2_with fail
        go_region
        go_wp2_with fail
        go_roundw
        case rel => exact ⟨pre ++ [a], post, Lib.hid (by rw [hx.out]; simp), by simp, Lib.hid hw.out.drew⟩
        case measure => simp [intOf]; omega

set_option maxRecDepth 100000 in
theorem entryTells_walk (W : World) (cs0 cs1 : Array Value) (A : Option Addr) (c : Nat) (xs : List Int) (a3 : Int) (R0 : Rd Try.prog W 8 32 cs0.toList) (R1 : Rd Try.prog W 8 32 cs1.toList) (hx : Cls W A (ints .u8 xs)) (hc : xs.length ≤ c) (hl : xs.length * 1 ≤ 140737488351232) (hw : ∀ x ∈ xs, (Lit.int .u8 x).wf = true) (_w3 : (Lit.int .i64 a3).wf = true) :
    Calls Try.prog 8 #[.agg cs0, .agg cs1, .slice A xs.length c, .int .i64 a3] W fun e w' => e = .returned (.bool true) ∧ Below W.heap.size W w' := by
  obtain ⟨a, ha, _⟩ := rd_ent R0
  obtain ⟨b, hb, _⟩ := rd_ent R1
  have h0 : cs0 = a.enc.toArray := by rw [← ha]
  have h1 : cs1 = b.enc.toArray := by rw [← hb]
  subst h0 h1
  exact (entryTells_core W a b A c xs a3 hx (fun z hz => by have := bounds_u8 (hw z hz); unfold isB; omega) hc (by omega)).mono fun _ _ ⟨h1, h2⟩ => ⟨h1, h2.same⟩
end Go.Proofs.Ytflpelacjdnplaa
