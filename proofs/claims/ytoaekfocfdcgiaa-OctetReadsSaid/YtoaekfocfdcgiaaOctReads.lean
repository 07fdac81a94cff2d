/- OctetReads: of each row of bytes, and of what is asked for, every answer is as the reference says: the walk. -/
import Derived.Test.YtoaekfocfdcgiaaOctOps
import Derived.Test.YtoaekfocfdcgiaaOctRInt
import Derived.Test.YtoaekfocfdcgiaaRefNum
import Derived.Test.YtoaekfocfdcgiaaRefJoin
import Derived.Test.YtoaekfocfdcgiaaQuiet
namespace Go.Proofs.Ytoaekfocfdcgiaa
open Go.RowKit

theorem Rdr.keep {w w' : World} {g x c : Nat} {A : Option Addr} {xs : List Int} {bad : Bool} {t : TypeId} {vs : List Value} (h : Rdr w g A c xs bad) (hb : Blk w x t vs) (hvs : ∀ n, Value.int .u8 n ∉ vs) (hg : g ≠ x) (hc : Ch (Only x) w w') : Rdr w' g A c xs bad :=
  ⟨h.blk.ch hc hg, h.cls.keep hb hvs hc, h.le, h.ne, h.max⟩
theorem tkR_mem {xs : List Int} {bad : Bool} {n : Nat} {x : Int} (h : x ∈ tkR xs bad n) : x ∈ xs := by
  unfold tkR at h
  split at h
  · exact h
  · exact List.mem_of_mem_drop h
theorem tkR_len (xs : List Int) (bad : Bool) (n : Nat) : (tkR xs bad n).length ≤ xs.length := by
  unfold tkR
  split
  · exact Nat.le_refl _
  · simp

/-- the reader, and the reference's reader in a block, read the same -/
structure RS (W w : World) (g x : Nat) (xs : List Int) (bad : Bool) : Prop where
  ex : ∃ A1 c1 A2 c2, Rdr w g A1 c1 xs bad ∧ Blk w x 49 [.slice A2 xs.length c2, .bool bad] ∧ Cls w A2 (ints .u8 xs) ∧ xs.length ≤ c2
  ch : Ch No W w
  gW : W.heap.size ≤ g
  xW : W.heap.size ≤ x
  ne : g ≠ x
theorem RS.no {W w w' : World} {g x : Nat} {xs : List Int} {bad : Bool} (h : RS W w g x xs bad) (hc : Ch No w w') : RS W w' g x xs bad := by
  obtain ⟨A1, c1, A2, c2, r, B, L, h2⟩ := h.ex
  exact ⟨⟨A1, c1, A2, c2, r.ch hc (fun h => h) (fun _ _ h => h), B.ch hc (fun h => h), L.ch hc (fun _ _ h => h), h2⟩, h.ch.trans hc, h.gW, h.xW, h.ne⟩

/-- the reference's reader is set -/
structure RP (W w : World) (g x : Nat) (A1 : Option Addr) (c1 : Nat) (xs : List Int) (bad : Bool) (A2 : Option Addr) (c2 : Nat) (zs : List Int) (b2 : Bool) : Prop where
  r : Rdr w g A1 c1 xs bad
  B : Blk w x 49 [.slice A2 zs.length c2, .bool b2]
  L : Cls w A2 (ints .u8 zs)
  le : zs.length ≤ c2
  ch : Ch No W w
  gW : W.heap.size ≤ g
  xW : W.heap.size ≤ x
  ne : g ≠ x
theorem RP.no {W w w' : World} {g x : Nat} {A1 A2 : Option Addr} {c1 c2 : Nat} {xs zs : List Int} {bad b2 : Bool} (h : RP W w g x A1 c1 xs bad A2 c2 zs b2) (hc : Ch No w w') : RP W w' g x A1 c1 xs bad A2 c2 zs b2 :=
  ⟨h.r.ch hc (fun h => h) (fun _ _ h => h), h.B.ch hc (fun h => h), h.L.ch hc (fun _ _ h => h), h.le, h.ch.trans hc, h.gW, h.xW, h.ne⟩
theorem RP.set {W w : World} {g x : Nat} {A1 A2 A6 : Option Addr} {c1 c2 c6 : Nat} {xs zs ys : List Int} {bad b2 b6 : Bool} (h : RP W w g x A1 c1 xs bad A2 c2 zs b2) (L : Cls w A6 (ints .u8 ys)) (hl : ys.length ≤ c6) :
    RP W ((w.setCell ⟨x, 0, none⟩ (.slice A6 ys.length c6)).setCell ⟨x, 1, none⟩ (.bool b6)) g x A1 c1 xs bad A6 c6 ys b6 ∧ Ch (Only x) w ((w.setCell ⟨x, 0, none⟩ (.slice A6 ys.length c6)).setCell ⟨x, 1, none⟩ (.bool b6)) := by
  have C : Ch (Only x) w ((w.setCell ⟨x, 0, none⟩ (.slice A6 ys.length c6)).setCell ⟨x, 1, none⟩ (.bool b6)) := ((Ch.refl (Only x) w).setCell (p := ⟨x, 0, none⟩) (fun _ => rfl) _).setCell (p := ⟨x, 1, none⟩) (fun _ => rfl) _
  exact ⟨⟨h.r.keep h.B (by simp) h.ne C, (h.B.set 0 _).set 1 _, L.keep h.B (by simp) C, hl, h.ch.trans' C (fun i hi he => by have he' : i = x := he; have := h.xW; omega), h.gW, h.xW, h.ne⟩, C⟩
theorem RP.rs {W w w' : World} {g x : Nat} {A1 A2 A7 : Option Addr} {c1 c2 c7 : Nat} {xs zs : List Int} {bad b2 : Bool} (h : RP W w g x A1 c1 xs bad A2 c2 zs b2) (r : Rdr w' g A7 c7 zs b2) (hc : Ch (Only g) w w') : RS W w' g x zs b2 :=
  ⟨⟨A7, c7, A2, c2, r, h.B.ch hc (fun he => h.ne (Eq.symm he)), h.L.keep h.r.blk (by simp) hc, h.le⟩, h.ch.rd0 h.gW hc, h.gW, h.xW, h.ne⟩

set_option maxHeartbeats 16000000 in
set_option maxRecDepth 100000 in
theorem octetReads_core (W : World) (Ab : Option Addr) (cb : Nat) (bs : List Int) (A : Option Addr) (c : Nat) (ops : List OpV) (hb : Cls W Ab (ints .u8 bs)) (hcb : bs.length ≤ cb) (hbb : ∀ x ∈ bs, isB x) (hlb : bs.length ≤ 140737488351232) (h : Ops W W A ops) (hl : ops.length ≤ 140737488351232) :
    Calls Try.prog 6 #[.slice Ab bs.length cb, .slice A ops.length c] W fun e w' => e = .returned (.bool true) ∧ Ch No W w' := by
  have HO := Lib.hid h
  have HBB := Lib.hid (And.intro hb hbb)
  clear h hb hbb
  go_enter Try.func6, Try.ntmps6
  go_wp2_with fail
  refine (octAlive_any _).mono ?_
  rintro e w0 ⟨rfl, C0⟩
  have HC0 := Lib.hid C0
  clear C0
  by_cases h200 : 200 < bs.length
  · go_wp2_with fail
    go_ret
    exact ⟨rfl, HC0.out⟩
  by_cases h60 : 60 < ops.length
  · go_wp2_with fail
    go_ret
    exact ⟨rfl, HC0.out⟩
  go_wp2_with fail
  have hp1 : Cls (w0.alloc (.cells #[.slice Ab bs.length cb] 25)) (some ⟨w0.heap.size, 0, none⟩) (List.map Prt.enc [⟨Ab, cb, bs⟩]) := by
    intro pre v post e
    cases pre with
    | nil =>
      obtain ⟨rfl, _⟩ : v = _ ∧ _ := by simpa using e.symm
      exact ⟨_, _, rfl, by simp [Prt.enc]⟩
    | cons p pre => simp at e
  have HC1 := Lib.hid (HC0.out.alloc (.cells #[.slice Ab bs.length cb] 25))
  have q1 := RJoin_any (w0.alloc (.cells #[.slice Ab bs.length cb] 25)) (some ⟨w0.heap.size, 0, none⟩) 1 [⟨Ab, cb, bs⟩] hp1 (by simp; exact HBB.out.1.ch HC1.out (fun _ _ h => h)) (by simp) (by simp; omega)
  simp only [List.flatMap_cons, List.flatMap_nil, List.append_nil, List.length_singleton] at q1
  refine q1.mono ?_
  rintro e w1 ⟨Ao, co, rfl, o1, h1⟩
  have HO1 := Lib.hid (And.intro o1 (HC1.out.trans h1))
  clear hp1 q1 o1 h1
  go_wp2_with fail
  obtain ⟨A', c', e2, L2, _⟩ := HO1.out.1.slice_ints
  obtain ⟨rfl, rfl⟩ : Ao = A' ∧ co = c' := by simpa using e2
  have hlto := HO1.out.1.ge
  have hgeo : ∀ k, (Value.slice Ao bs.length co).ownBlock = some k → W.heap.size ≤ k := fun k hk => by have h1 := (hlto k hk).1; have h2 := HC1.out.size; omega
  refine (Open_any w1 Ao co bs L2 (by omega)).mono ?_
  rintro e w2 ⟨g, A2, c2, rfl, r2, hg2, hA2, h2⟩
  have HI : Hid (∃ vals : List Int, vals.length = bs.length ∧ OwnS w2 W.heap.size 5 (.slice Ao bs.length co) (ints .u8 vals) ∧ Rdr w2 g A2 c2 bs false ∧ Ch No W w2) :=
    Lib.hid ⟨bs, rfl, (HO1.out.1.lower HC1.out.size).ch h2 (fun _ _ h => h), r2, HO1.out.2.trans h2⟩
  have HNE : Hid ((∀ k, (Value.slice Ao bs.length co).ownBlock = some k → k ≠ g ∧ ∀ a, A2 = some a → a.block ≠ k) ∧ W.heap.size ≤ g) :=
    Lib.hid ⟨fun k hk => ⟨by have := (hlto k hk).2; omega, fun a ha => by have := (hlto k hk).2; have := (hA2 a ha).1; omega⟩, Nat.le_trans HO1.out.2.size hg2⟩
  clear e2 L2 hlto r2 hg2 hA2 h2 HO1 HC1 HC0
  go_wp2_with fail
  go_loopw [7, 37] (fun _ i wr => ∃ j : Nat, j ≤ bs.length ∧ i = .int .i64 j ∧ Hid (∃ vals : List Int, vals.length = bs.length ∧ OwnS wr W.heap.size 5 (.slice Ao bs.length co) (ints .u8 vals) ∧ Rdr wr g A2 c2 bs false ∧ Ch No W wr)) (fun _ i _ => bs.length - (intOf i).toNat)
  case atStart => exact ⟨0, by omega, rfl, HI⟩
  case round =>
    clear HI
    obtain ⟨j, hj, rfl, hst⟩ := hrel
    by_cases hjl : j < bs.length
    · obtain ⟨vals, hvl, ho, hr, hc⟩ := hst.out
      obtain ⟨kb, rfl, hkx⟩ : ∃ kb, Ao = some ⟨kb, 0, none⟩ ∧ wr.cell? ⟨kb, j, none⟩ = some (.int .u8 (vals.getD j 0)) := by
        obtain ⟨x, hx⟩ : ∃ x, vals[j]? = some x := ⟨vals[j]'(by omega), List.getElem?_eq_getElem (by omega)⟩
        rcases ho.2 with ⟨h', hz⟩ | ⟨kb, cap, cur, h', hb', hg', hnc, hcm, hcs, ht⟩
        · simp [ints] at hz; simp [hz] at hvl; omega
        · obtain ⟨rfl, _⟩ : Ao = _ ∧ _ := by simpa using h'
          refine ⟨kb, rfl, ?_⟩
          have q := cell_of_row wr kb j _ 5 (0, 0) hg'
          rw [q]
          have h2 : (ints .u8 vals)[j]? = some (.int .u8 (vals.getD j 0)) := by simp [ints, hx, List.getD]
          rw [← ht, List.getElem?_take_of_lt (by simp [ints]; omega)] at h2
          simpa using h2
      obtain ⟨x, hxe⟩ : ∃ x, vals.getD j 0 = x := ⟨_, rfl⟩
      rw [hxe] at hkx
      have hfz := OwnS.frozen ho j
      have HV := Lib.hid (And.intro hvl (And.intro ho (And.intro hr hc)))
      clear hvl ho hr hc hst hxe
      go_wp2_with fail
      go_roundw
      case rel =>
        refine ⟨j + 1, by omega, by go_num, Lib.hid ⟨vals.set j (bits .xor .u8 x 255), by rw [List.length_set]; exact HV.out.1, ?_, ?_, ?_⟩⟩
        · have q := (World.ownsRow.stored (n := (ints .u8 vals).length) (by have := HV.out.2.1; unfold OwnS at this; simpa [ints, HV.out.1] using this) j (.int .u8 (bits .xor .u8 x 255)) : _)
          unfold OwnS
          have q1 := q.1
          simpa [ints, List.map_set, HV.out.1] using q1
        · have C : Ch (Only kb) wr (wr.setCell ⟨kb, j, none⟩ (.int .u8 (bits .xor .u8 x 255))) := (Ch.refl (Only kb) wr).setCell (p := ⟨kb, j, none⟩) (fun _ => rfl) _
          exact HV.out.2.2.1.ch C (fun he => (HNE.out.1 kb rfl).1 (Eq.symm he)) (fun a ha he => (HNE.out.1 kb rfl).2 a ha he)
        · have C : Ch (Only kb) wr (wr.setCell ⟨kb, j, none⟩ (.int .u8 (bits .xor .u8 x 255))) := (Ch.refl (Only kb) wr).setCell (p := ⟨kb, j, none⟩) (fun _ => rfl) _
          exact HV.out.2.2.2.trans' C (fun i hi he => by have he' : i = kb := he; have := hgeo kb rfl; omega)
      case measure => simp [intOf]; omega
    · obtain rfl : j = bs.length := by omega
      obtain ⟨vals, _, _, hr, hc⟩ := hst.out
      go_wp2_with fail
      have HS0 : Hid (RS W (wr.alloc (.cells #[.slice Ab bs.length cb, .bool false] 49)) g wr.heap.size bs false) := Lib.hid
        ⟨⟨A2, c2, Ab, cb, hr.ch ((Ch.refl No wr).alloc _) (fun h => h) (fun _ _ h => h), Blk.new wr 49 [.slice Ab bs.length cb, .bool false], HBB.out.1.ch (hc.alloc _) (fun _ _ h => h), hcb⟩, hc.alloc _, HNE.out.2, hc.size, by have := hr.lt; omega⟩
      clear hr hc hst hgeo HNE
      generalize wr.alloc (.cells #[.slice Ab bs.length cb, .bool false] 49) = wx at *
      generalize wr.heap.size = x0 at *
      go_loopw [10, 11, 12, 13, 14, 15, 16, 17, 18, 19, 51] (fun _ _ _ _ _ _ _ _ _ _ i wr => ∃ (pre post : List OpV) (xs : List Int) (bad : Bool), Hid (ops = pre ++ post) ∧ i = .int .i64 pre.length ∧ Hid (RS W wr g x0 xs bad ∧ (∀ b ∈ xs, isB b)) ∧ xs.length ≤ 200) (fun _ _ _ _ _ _ _ _ _ _ i _ => ops.length - (intOf i).toNat)
      case atStart => exact ⟨[], ops, bs, false, rfl, rfl, Lib.hid ⟨HS0.out, HBB.out.2⟩, by omega⟩
      case round =>
        clear HS0
        obtain ⟨pre, post, xs, bad, hx, rfl, hst, hxl⟩ := hrel
        cases post with
        | nil =>
          obtain rfl : pre = ops := by have := hx.out; simpa using this.symm
          go_wp2_with fail
          go_ret
          exact ⟨rfl, hst.out.1.ch⟩
        | cons o post =>
          have hlen : pre.length < ops.length := by rw [hx.out]; simp
          obtain ⟨b, off, rfl, d0, d1, d2, d3, hok⟩ := (HO.out.to hst.out.1.ch).at hx.out
          obtain ⟨A3, c3, A4, c4, r, B, L, hc4⟩ := hst.out.1.ex
          have z0 := B.cell 0
          have z1 := B.cell 1
          simp only [List.getElem?_cons_zero, List.getElem?_cons_succ] at z0 z1
          have hP : RP W wr g x0 A3 c3 xs bad A4 c4 xs bad := ⟨r, B, L, hc4, hst.out.1.ch, hst.out.1.gW, hst.out.1.xW, hst.out.1.ne⟩
          have HP := Lib.hid (hP.no ((Ch.refl No wr).alloc (.cells #[.int .i64 o.kind, .int .i64 o.size, .int .i64 o.n, .slice o.A o.bs.length o.c] 29)))
          have hbx := Lib.hid (Blk.new wr 29 [.int .i64 o.kind, .int .i64 o.size, .int .i64 o.n, .slice o.A o.bs.length o.c])
          have hbg : wr.heap.size ≠ g := by have := r.lt; omega
          have hbx0 : wr.heap.size ≠ x0 := by have := B.lt; omega
          have hxl := B.lt
          have hwf := hok.size
          unfold wfI at hwf
          clear r B L hP hok
          have hk : o.kind = 0 ∨ o.kind = 1 ∨ o.kind = 2 ∨ o.kind = 3 ∨ o.kind = 4 ∨ (¬ o.kind = 0 ∧ ¬ o.kind = 1 ∧ ¬ o.kind = 2 ∧ ¬ o.kind = 3 ∧ ¬ o.kind = 4) := by omega
          rcases hk with hk | hk | hk | hk | hk | ⟨hk0, hk1, hk2, hk3, hk4⟩
          · have hlo : 0 ≤ o.kind := by omega
            have hhi : o.kind ≤ 0 := by omega
            clear hk
            have hzl := tkR_len xs bad (heldB o.size)
            have hzB : ∀ y ∈ tkR xs bad (heldB o.size), isB y := fun y hy => hst.out.2 y (tkR_mem hy)
            have hyB : ∀ y ∈ tkO xs bad (heldB o.size), isB y := fun y hy => hst.out.2 y (tkO_mem hy)
            have q1 := fun w' h1 => RGet2_any w' A4 c4 xs bad h1 hst.out.2 hc4 (by omega) o.size
            have q2 := fun w' h1 => Get_any w' g A3 c3 xs bad h1 hst.out.2 o.size
            unfold GetP at q2
            unfold rdV at q1
            generalize tkR xs bad (heldB o.size) = zs at *
            generalize tkB xs bad (heldB o.size) = b6 at *
            generalize tkO xs bad (heldB o.size) = ys at *
            have HQ := Lib.hid (And.intro q1 (And.intro q2 (And.intro hzB hyB)))
            clear q1 q2 hzB hyB
            go_wp2_with fail
            refine (HQ.out.1 _ HP.out.L).mono ?_
            rintro e w5 ⟨A6, c6, rfl, L6, h5, hc6⟩
            have P5 := HP.out.no h5
            obtain ⟨e0, e1, e2, e3⟩ := (hbx.out.ch h5 (fun h => h)).four
            have f0 := P5.B.frozen 0
            have f1 := P5.B.frozen 1
            have y0 := P5.B.cell 0
            have y1 := P5.B.cell 1
            simp only [List.getElem?_cons_zero, List.getElem?_cons_succ] at y0 y1
            have hm5 := P5.B.lt
            have hm6 := (hbx.out.ch h5 (fun h => h)).lt
            have P6 := P5.set (b6 := b6) L6 hc6
            have C5 : Ch No ((w5.setCell ⟨x0, 0, none⟩ (.slice A6 zs.length c6)).setCell ⟨x0, 1, none⟩ (.bool b6)) (((w5.setCell ⟨x0, 0, none⟩ (.slice A6 zs.length c6)).setCell ⟨x0, 1, none⟩ (.bool b6)).alloc (.cells #[.slice A6 zs.length c6, .bool b6] 49)) := (Ch.refl No _).alloc _
            have HP6 := Lib.hid (P6.1.no C5)
            clear P5 L6 C5 P6 hbx HP d0 d1 d2 d3 z0 z1 
            go_wp2_with fail
            refine (HQ.out.2.1 _ HP6.out.r).mono ?_
            rintro e w7 ⟨A7, c7, rfl, r7, _, h7⟩
            have HS7 := Lib.hid (HP6.out.rs r7 h7)
            clear r7 h7
            clear HP6 e0 e1 e2 e3 f0 f1 y0 y1 hm5 hm6
            go_wp2_with fail
            obtain ⟨A8, c8, A9, c9, r8, B8, _, _⟩ := HS7.out.ex
            have z0 : ∀ p : In (Ch No w7), p.w.cell? ⟨x0, 0, none⟩ = some (.slice A9 zs.length c9) := in_cell (B8.cell 0)
            have z1 : ∀ p : In (Ch No w7), p.w.cell? ⟨x0, 1, none⟩ = some (.bool b6) := in_cell (B8.cell 1)
            have ll : ∀ p : In (Ch No w7), Calls Try.prog 26 #[.pointer (some ⟨g, 0, none⟩)] p.w fun e w' => e = .returned (.int .i64 zs.length) ∧ Ch No p.w w' := fun p => (Left_any p.w g A8 c8 zs b6 (r8.ch p.h (fun h => h) (fun _ _ h => h))).mono fun e w' ⟨h1, h2⟩ => ⟨h1, h2 ▸ Ch.refl No _⟩
            have lb : ∀ p : In (Ch No w7), Calls Try.prog 27 #[.pointer (some ⟨g, 0, none⟩)] p.w fun e w' => e = .returned (.bool b6) ∧ Ch No p.w w' := fun p => (Bad_any p.w g A8 c8 zs b6 (r8.ch p.h (fun h => h) (fun _ _ h => h))).mono fun e w' ⟨h1, h2⟩ => ⟨h1, h2 ▸ Ch.refl No _⟩
            clear r8 B8
            (refine wp_region_in (Ch No _) (by kernel_rfl) (by kernel_rfl) (Ch.refl _ _) (fun _ h => ch_drawn h) ?_)
            repeat (go_big_quiet_step (exact in_ch (by with_reducible first | exact ll _ | exact lb _)))
            (refine wpQuiet_nil ?_; intro wq0 hw'; obtain ⟨pw, hw''⟩ := hw'; subst hw'')
            go_wp2_with fail
            go_roundw
            case rel => exact ⟨pre ++ [o], post, zs, b6, by rw [hx.out]; simp [Hid], by simp, Lib.hid ⟨HS7.out.no pw.h, HQ.out.2.2.1⟩, by omega⟩
            case measure => simp [intOf]; omega
          · have hlo : 1 ≤ o.kind := by omega
            have hhi : o.kind ≤ 1 := by omega
            clear hk
            have hzl := tkR_len xs bad (heldB o.size)
            have hzB : ∀ y ∈ tkR xs bad (heldB o.size), isB y := fun y hy => hst.out.2 y (tkR_mem hy)
            have hyB : ∀ y ∈ tkO xs bad (heldB o.size), isB y := fun y hy => hst.out.2 y (tkO_mem hy)
            have q1 := fun w' h1 => RGet2_any w' A4 c4 xs bad h1 hst.out.2 hc4 (by omega) o.size
            have q2 := fun w' h1 => Get_any w' g A3 c3 xs bad h1 hst.out.2 o.size
            unfold GetP at q2
            unfold rdV at q1
            generalize tkR xs bad (heldB o.size) = zs at *
            generalize tkB xs bad (heldB o.size) = b6 at *
            generalize tkO xs bad (heldB o.size) = ys at *
            have HQ := Lib.hid (And.intro q1 (And.intro q2 (And.intro hzB hyB)))
            clear q1 q2 hzB hyB
            go_wp2_with fail
            refine (HQ.out.1 _ HP.out.L).mono ?_
            rintro e w5 ⟨A6, c6, rfl, L6, h5, hc6⟩
            have P5 := HP.out.no h5
            obtain ⟨e0, e1, e2, e3⟩ := (hbx.out.ch h5 (fun h => h)).four
            have f0 := P5.B.frozen 0
            have f1 := P5.B.frozen 1
            have y0 := P5.B.cell 0
            have y1 := P5.B.cell 1
            simp only [List.getElem?_cons_zero, List.getElem?_cons_succ] at y0 y1
            have hm5 := P5.B.lt
            have hm6 := (hbx.out.ch h5 (fun h => h)).lt
            have P6 := P5.set (b6 := b6) L6 hc6
            have C5 : Ch No ((w5.setCell ⟨x0, 0, none⟩ (.slice A6 zs.length c6)).setCell ⟨x0, 1, none⟩ (.bool b6)) (((w5.setCell ⟨x0, 0, none⟩ (.slice A6 zs.length c6)).setCell ⟨x0, 1, none⟩ (.bool b6)).alloc (.cells #[.slice A6 zs.length c6, .bool b6] 49)) := (Ch.refl No _).alloc _
            have HP6 := Lib.hid (P6.1.no C5)
            clear P5 L6 C5 P6 hbx HP d0 d1 d2 d3 z0 z1 
            go_wp2_with fail
            refine (HQ.out.2.1 _ HP6.out.r).mono ?_
            rintro e w7 ⟨A7, c7, rfl, r7, _, h7⟩
            have HS7 := Lib.hid (HP6.out.rs r7 h7)
            clear r7 h7
            clear HP6 e0 e1 e2 e3 f0 f1 y0 y1 hm5 hm6
            go_wp2_with fail
            obtain ⟨A8, c8, A9, c9, r8, B8, _, _⟩ := HS7.out.ex
            have z0 : ∀ p : In (Ch No w7), p.w.cell? ⟨x0, 0, none⟩ = some (.slice A9 zs.length c9) := in_cell (B8.cell 0)
            have z1 : ∀ p : In (Ch No w7), p.w.cell? ⟨x0, 1, none⟩ = some (.bool b6) := in_cell (B8.cell 1)
            have ll : ∀ p : In (Ch No w7), Calls Try.prog 26 #[.pointer (some ⟨g, 0, none⟩)] p.w fun e w' => e = .returned (.int .i64 zs.length) ∧ Ch No p.w w' := fun p => (Left_any p.w g A8 c8 zs b6 (r8.ch p.h (fun h => h) (fun _ _ h => h))).mono fun e w' ⟨h1, h2⟩ => ⟨h1, h2 ▸ Ch.refl No _⟩
            have lb : ∀ p : In (Ch No w7), Calls Try.prog 27 #[.pointer (some ⟨g, 0, none⟩)] p.w fun e w' => e = .returned (.bool b6) ∧ Ch No p.w w' := fun p => (Bad_any p.w g A8 c8 zs b6 (r8.ch p.h (fun h => h) (fun _ _ h => h))).mono fun e w' ⟨h1, h2⟩ => ⟨h1, h2 ▸ Ch.refl No _⟩
            clear r8 B8
            (refine wp_region_in (Ch No _) (by kernel_rfl) (by kernel_rfl) (Ch.refl _ _) (fun _ h => ch_drawn h) ?_)
            repeat (go_big_quiet_step (exact in_ch (by with_reducible first | exact ll _ | exact lb _)))
            (refine wpQuiet_nil ?_; intro wq0 hw'; obtain ⟨pw, hw''⟩ := hw'; subst hw'')
            go_wp2_with fail
            go_roundw
            case rel => exact ⟨pre ++ [o], post, zs, b6, by rw [hx.out]; simp [Hid], by simp, Lib.hid ⟨HS7.out.no pw.h, HQ.out.2.2.1⟩, by omega⟩
            case measure => simp [intOf]; omega
          · have hlo : 2 ≤ o.kind := by omega
            have hhi : o.kind ≤ 2 := by omega
            clear hk
            have hzl := tkR_len xs bad (heldB o.size)
            have hzB : ∀ y ∈ tkR xs bad (heldB o.size), isB y := fun y hy => hst.out.2 y (tkR_mem hy)
            have hyB : ∀ y ∈ tkO xs bad (heldB o.size), isB y := fun y hy => hst.out.2 y (tkO_mem hy)
            have q1 := fun w' h1 => RNum2_any w' A4 c4 xs bad h1 hst.out.2 hc4 (by omega) o.size
            have q2 := fun w' h1 => RInt_any w' g A3 c3 xs bad h1 hst.out.2 o.size
            unfold GetP at q2
            unfold rdV at q1
            generalize tkR xs bad (heldB o.size) = zs at *
            generalize tkB xs bad (heldB o.size) = b6 at *
            generalize tkO xs bad (heldB o.size) = ys at *
            have HQ := Lib.hid (And.intro q1 (And.intro q2 (And.intro hzB hyB)))
            clear q1 q2 hzB hyB
            go_wp2_with fail
            refine (HQ.out.1 _ HP.out.L).mono ?_
            rintro e w5 ⟨A6, c6, rfl, L6, h5, hc6⟩
            have P5 := HP.out.no h5
            obtain ⟨e0, e1, e2, e3⟩ := (hbx.out.ch h5 (fun h => h)).four
            have f0 := P5.B.frozen 0
            have f1 := P5.B.frozen 1
            have y0 := P5.B.cell 0
            have y1 := P5.B.cell 1
            simp only [List.getElem?_cons_zero, List.getElem?_cons_succ] at y0 y1
            have hm5 := P5.B.lt
            have hm6 := (hbx.out.ch h5 (fun h => h)).lt
            have P6 := P5.set (b6 := b6) L6 hc6
            have C5 : Ch No ((w5.setCell ⟨x0, 0, none⟩ (.slice A6 zs.length c6)).setCell ⟨x0, 1, none⟩ (.bool b6)) (((w5.setCell ⟨x0, 0, none⟩ (.slice A6 zs.length c6)).setCell ⟨x0, 1, none⟩ (.bool b6)).alloc (.cells #[.slice A6 zs.length c6, .bool b6] 49)) := (Ch.refl No _).alloc _
            have HP6 := Lib.hid (P6.1.no C5)
            clear P5 L6 C5 P6 hbx HP d0 d1 d2 d3 z0 z1 
            go_wp2_with fail
            refine (HQ.out.2.1 _ HP6.out.r).mono ?_
            rintro e w7 ⟨A7, c7, rfl, r7, _, h7⟩
            have HS7 := Lib.hid (HP6.out.rs r7 h7)
            clear r7 h7
            clear HP6 e0 e1 e2 e3 f0 f1 y0 y1 hm5 hm6
            go_wp2_with fail
            obtain ⟨A8, c8, A9, c9, r8, B8, _, _⟩ := HS7.out.ex
            have z0 : ∀ p : In (Ch No w7), p.w.cell? ⟨x0, 0, none⟩ = some (.slice A9 zs.length c9) := in_cell (B8.cell 0)
            have z1 : ∀ p : In (Ch No w7), p.w.cell? ⟨x0, 1, none⟩ = some (.bool b6) := in_cell (B8.cell 1)
            have ll : ∀ p : In (Ch No w7), Calls Try.prog 26 #[.pointer (some ⟨g, 0, none⟩)] p.w fun e w' => e = .returned (.int .i64 zs.length) ∧ Ch No p.w w' := fun p => (Left_any p.w g A8 c8 zs b6 (r8.ch p.h (fun h => h) (fun _ _ h => h))).mono fun e w' ⟨h1, h2⟩ => ⟨h1, h2 ▸ Ch.refl No _⟩
            have lb : ∀ p : In (Ch No w7), Calls Try.prog 27 #[.pointer (some ⟨g, 0, none⟩)] p.w fun e w' => e = .returned (.bool b6) ∧ Ch No p.w w' := fun p => (Bad_any p.w g A8 c8 zs b6 (r8.ch p.h (fun h => h) (fun _ _ h => h))).mono fun e w' ⟨h1, h2⟩ => ⟨h1, h2 ▸ Ch.refl No _⟩
            clear r8 B8
            (refine wp_region_in (Ch No _) (by kernel_rfl) (by kernel_rfl) (Ch.refl _ _) (fun _ h => ch_drawn h) ?_)
            repeat (go_big_quiet_step (exact in_ch (by with_reducible first | exact ll _ | exact lb _)))
            (refine wpQuiet_nil ?_; intro wq0 hw'; obtain ⟨pw, hw''⟩ := hw'; subst hw'')
            go_wp2_with fail
            go_roundw
            case rel => exact ⟨pre ++ [o], post, zs, b6, by rw [hx.out]; simp [Hid], by simp, Lib.hid ⟨HS7.out.no pw.h, HQ.out.2.2.1⟩, by omega⟩
            case measure => simp [intOf]; omega
          · have hlo : 3 ≤ o.kind := by omega
            have hhi : o.kind ≤ 3 := by omega
            clear hk
            have hzl := tkR_len xs bad o.size.toNat
            have hzB : ∀ y ∈ tkR xs bad o.size.toNat, isB y := fun y hy => hst.out.2 y (tkR_mem hy)
            have hyB : ∀ y ∈ tkO xs bad o.size.toNat, isB y := fun y hy => hst.out.2 y (tkO_mem hy)
            have q1 := fun w' h1 => RRaw2_any w' A4 c4 xs bad h1 hc4 (by omega) o.size (by omega)
            have q2 := fun w' h1 => RRaw_any w' g A3 c3 xs bad h1 o.size (by omega)
            unfold RRawP at q1
            unfold TakeP at q2
            unfold rdV at q1
            generalize tkR xs bad o.size.toNat = zs at *
            generalize tkB xs bad o.size.toNat = b6 at *
            generalize tkO xs bad o.size.toNat = ys at *
            have HQ := Lib.hid (And.intro q1 (And.intro q2 (And.intro hzB hyB)))
            clear q1 q2 hzB hyB
            go_wp2_with fail
            refine (HQ.out.1 _ HP.out.L).mono ?_
            rintro e w5 ⟨Ay, cy, A6, c6, rfl, Ly, L6, h5, hc6⟩
            have P5 := HP.out.no h5
            obtain ⟨e0, e1, e2, e3⟩ := (hbx.out.ch h5 (fun h => h)).four
            have f0 := P5.B.frozen 0
            have f1 := P5.B.frozen 1
            have y0 := P5.B.cell 0
            have y1 := P5.B.cell 1
            simp only [List.getElem?_cons_zero, List.getElem?_cons_succ] at y0 y1
            have hm5 := P5.B.lt
            have hm6 := (hbx.out.ch h5 (fun h => h)).lt
            have P6 := P5.set (b6 := b6) L6 hc6
            have C5 : Ch No ((w5.setCell ⟨x0, 0, none⟩ (.slice A6 zs.length c6)).setCell ⟨x0, 1, none⟩ (.bool b6)) (((w5.setCell ⟨x0, 0, none⟩ (.slice A6 zs.length c6)).setCell ⟨x0, 1, none⟩ (.bool b6)).alloc (.cells #[.slice A6 zs.length c6, .bool b6] 49)) := (Ch.refl No _).alloc _
            have L7 := (Ly.keep P5.B (by simp) P6.2).ch C5 (fun _ _ h => h)
            have HP6 := Lib.hid (And.intro (P6.1.no C5) L7)
            clear P5 L6 C5 P6 hbx HP d0 d1 d2 d3 z0 z1 Ly L7
            go_wp2_with fail
            refine (HQ.out.2.1 _ HP6.out.1.r).mono ?_
            rintro e w7 ⟨A7, c7, Az, cz, rfl, L7, _, r7, _, h7⟩
            have HS7 := Lib.hid (HP6.out.1.rs r7 h7)
            have HSM := Lib.hid (Same_any w7 A7 c7 ys Ay cy ys L7 (HP6.out.2.keep HP6.out.1.r.blk (by simp) h7) HQ.out.2.2.2 HQ.out.2.2.2)
            simp only [decide_true] at HSM
            clear r7 h7 L7
            go_wp2_with fail
            refine HSM.out.mono ?_
            rintro e w8 ⟨rfl, rfl⟩
            clear HP6 e0 e1 e2 e3 f0 f1 y0 y1 hm5 hm6
            go_wp2_with fail
            obtain ⟨A8, c8, A9, c9, r8, B8, _, _⟩ := HS7.out.ex
            have z0 : ∀ p : In (Ch No w7), p.w.cell? ⟨x0, 0, none⟩ = some (.slice A9 zs.length c9) := in_cell (B8.cell 0)
            have z1 : ∀ p : In (Ch No w7), p.w.cell? ⟨x0, 1, none⟩ = some (.bool b6) := in_cell (B8.cell 1)
            have ll : ∀ p : In (Ch No w7), Calls Try.prog 26 #[.pointer (some ⟨g, 0, none⟩)] p.w fun e w' => e = .returned (.int .i64 zs.length) ∧ Ch No p.w w' := fun p => (Left_any p.w g A8 c8 zs b6 (r8.ch p.h (fun h => h) (fun _ _ h => h))).mono fun e w' ⟨h1, h2⟩ => ⟨h1, h2 ▸ Ch.refl No _⟩
            have lb : ∀ p : In (Ch No w7), Calls Try.prog 27 #[.pointer (some ⟨g, 0, none⟩)] p.w fun e w' => e = .returned (.bool b6) ∧ Ch No p.w w' := fun p => (Bad_any p.w g A8 c8 zs b6 (r8.ch p.h (fun h => h) (fun _ _ h => h))).mono fun e w' ⟨h1, h2⟩ => ⟨h1, h2 ▸ Ch.refl No _⟩
            clear r8 B8
            (refine wp_region_in (Ch No _) (by kernel_rfl) (by kernel_rfl) (Ch.refl _ _) (fun _ h => ch_drawn h) ?_)
            repeat (go_big_quiet_step (exact in_ch (by with_reducible first | exact ll _ | exact lb _)))
            (refine wpQuiet_nil ?_; intro wq0 hw'; obtain ⟨pw, hw''⟩ := hw'; subst hw'')
            go_wp2_with fail
            go_roundw
            case rel => exact ⟨pre ++ [o], post, zs, b6, by rw [hx.out]; simp [Hid], by simp, Lib.hid ⟨HS7.out.no pw.h, HQ.out.2.2.1⟩, by omega⟩
            case measure => simp [intOf]; omega
          · have hlo : 4 ≤ o.kind := by omega
            have hhi : o.kind ≤ 4 := by omega
            clear hk
            have hzl := tkR_len xs bad xs.length
            have hzB : ∀ y ∈ tkR xs bad xs.length, isB y := fun y hy => hst.out.2 y (tkR_mem hy)
            have hyB : ∀ y ∈ tkO xs bad xs.length, isB y := fun y hy => hst.out.2 y (tkO_mem hy)
            have q1 := fun w' h1 => RRaw2_any w' A4 c4 xs bad h1 hc4 (by omega) (xs.length : Nat) (by omega)
            have q2 := fun w' h1 => Rest_any w' g A3 c3 xs bad h1 (by omega)
            unfold RRawP at q1
            unfold TakeP at q2
            rw [Int.toNat_natCast] at q1
            unfold rdV at q1
            generalize tkR xs bad xs.length = zs at *
            generalize tkB xs bad xs.length = b6 at *
            generalize tkO xs bad xs.length = ys at *
            have HQ := Lib.hid (And.intro q1 (And.intro q2 (And.intro hzB hyB)))
            clear q1 q2 hzB hyB
            go_wp2_with fail
            refine (HQ.out.1 _ HP.out.L).mono ?_
            rintro e w5 ⟨Ay, cy, A6, c6, rfl, Ly, L6, h5, hc6⟩
            have P5 := HP.out.no h5
            obtain ⟨e0, e1, e2, e3⟩ := (hbx.out.ch h5 (fun h => h)).four
            have f0 := P5.B.frozen 0
            have f1 := P5.B.frozen 1
            have y0 := P5.B.cell 0
            have y1 := P5.B.cell 1
            simp only [List.getElem?_cons_zero, List.getElem?_cons_succ] at y0 y1
            have hm5 := P5.B.lt
            have hm6 := (hbx.out.ch h5 (fun h => h)).lt
            have P6 := P5.set (b6 := b6) L6 hc6
            have C5 : Ch No ((w5.setCell ⟨x0, 0, none⟩ (.slice A6 zs.length c6)).setCell ⟨x0, 1, none⟩ (.bool b6)) (((w5.setCell ⟨x0, 0, none⟩ (.slice A6 zs.length c6)).setCell ⟨x0, 1, none⟩ (.bool b6)).alloc (.cells #[.slice A6 zs.length c6, .bool b6] 49)) := (Ch.refl No _).alloc _
            have L7 := (Ly.keep P5.B (by simp) P6.2).ch C5 (fun _ _ h => h)
            have HP6 := Lib.hid (And.intro (P6.1.no C5) L7)
            clear P5 L6 C5 P6 hbx HP d0 d1 d2 d3 z0 z1 Ly L7
            go_wp2_with fail
            refine (HQ.out.2.1 _ HP6.out.1.r).mono ?_
            rintro e w7 ⟨A7, c7, Az, cz, rfl, L7, _, r7, _, h7⟩
            have HS7 := Lib.hid (HP6.out.1.rs r7 h7)
            have HSM := Lib.hid (Same_any w7 A7 c7 ys Ay cy ys L7 (HP6.out.2.keep HP6.out.1.r.blk (by simp) h7) HQ.out.2.2.2 HQ.out.2.2.2)
            simp only [decide_true] at HSM
            clear r7 h7 L7
            go_wp2_with fail
            refine HSM.out.mono ?_
            rintro e w8 ⟨rfl, rfl⟩
            clear HP6 e0 e1 e2 e3 f0 f1 y0 y1 hm5 hm6
            go_wp2_with fail
            obtain ⟨A8, c8, A9, c9, r8, B8, _, _⟩ := HS7.out.ex
            have z0 : ∀ p : In (Ch No w7), p.w.cell? ⟨x0, 0, none⟩ = some (.slice A9 zs.length c9) := in_cell (B8.cell 0)
            have z1 : ∀ p : In (Ch No w7), p.w.cell? ⟨x0, 1, none⟩ = some (.bool b6) := in_cell (B8.cell 1)
            have ll : ∀ p : In (Ch No w7), Calls Try.prog 26 #[.pointer (some ⟨g, 0, none⟩)] p.w fun e w' => e = .returned (.int .i64 zs.length) ∧ Ch No p.w w' := fun p => (Left_any p.w g A8 c8 zs b6 (r8.ch p.h (fun h => h) (fun _ _ h => h))).mono fun e w' ⟨h1, h2⟩ => ⟨h1, h2 ▸ Ch.refl No _⟩
            have lb : ∀ p : In (Ch No w7), Calls Try.prog 27 #[.pointer (some ⟨g, 0, none⟩)] p.w fun e w' => e = .returned (.bool b6) ∧ Ch No p.w w' := fun p => (Bad_any p.w g A8 c8 zs b6 (r8.ch p.h (fun h => h) (fun _ _ h => h))).mono fun e w' ⟨h1, h2⟩ => ⟨h1, h2 ▸ Ch.refl No _⟩
            clear r8 B8
            (refine wp_region_in (Ch No _) (by kernel_rfl) (by kernel_rfl) (Ch.refl _ _) (fun _ h => ch_drawn h) ?_)
            repeat (go_big_quiet_step (exact in_ch (by with_reducible first | exact ll _ | exact lb _)))
            (refine wpQuiet_nil ?_; intro wq0 hw'; obtain ⟨pw, hw''⟩ := hw'; subst hw'')
            go_wp2_with fail
            go_roundw
            case rel => exact ⟨pre ++ [o], post, zs, b6, by rw [hx.out]; simp [Hid], by simp, Lib.hid ⟨HS7.out.no pw.h, HQ.out.2.2.1⟩, by omega⟩
            case measure => simp [intOf]; omega
          · go_wp2_with fail
            have HS7 := Lib.hid (hst.out.1.no ((Ch.refl No wr).alloc (.cells #[.int .i64 o.kind, .int .i64 o.size, .int .i64 o.n, .slice o.A o.bs.length o.c] 29)))
            generalize wr.alloc (.cells #[.int .i64 o.kind, .int .i64 o.size, .int .i64 o.n, .slice o.A o.bs.length o.c] 29) = w7 at *
            clear z0 z1 d0 d1 d2 d3 HP hbx
            obtain ⟨A8, c8, A9, c9, r8, B8, _, _⟩ := HS7.out.ex
            have z0 : ∀ p : In (Ch No w7), p.w.cell? ⟨x0, 0, none⟩ = some (.slice A9 xs.length c9) := in_cell (B8.cell 0)
            have z1 : ∀ p : In (Ch No w7), p.w.cell? ⟨x0, 1, none⟩ = some (.bool bad) := in_cell (B8.cell 1)
            have ll : ∀ p : In (Ch No w7), Calls Try.prog 26 #[.pointer (some ⟨g, 0, none⟩)] p.w fun e w' => e = .returned (.int .i64 xs.length) ∧ Ch No p.w w' := fun p => (Left_any p.w g A8 c8 xs bad (r8.ch p.h (fun h => h) (fun _ _ h => h))).mono fun e w' ⟨h1, h2⟩ => ⟨h1, h2 ▸ Ch.refl No _⟩
            have lb : ∀ p : In (Ch No w7), Calls Try.prog 27 #[.pointer (some ⟨g, 0, none⟩)] p.w fun e w' => e = .returned (.bool bad) ∧ Ch No p.w w' := fun p => (Bad_any p.w g A8 c8 xs bad (r8.ch p.h (fun h => h) (fun _ _ h => h))).mono fun e w' ⟨h1, h2⟩ => ⟨h1, h2 ▸ Ch.refl No _⟩
            clear r8 B8
            (refine wp_region_in (Ch No _) (by kernel_rfl) (by kernel_rfl) (Ch.refl _ _) (fun _ h => ch_drawn h) ?_)
            repeat (go_big_quiet_step (exact in_ch (by with_reducible first | exact ll _ | exact lb _)))
            (refine wpQuiet_nil ?_; intro wq0 hw'; obtain ⟨pw, hw''⟩ := hw'; subst hw'')
            go_wp2_with fail
            go_roundw
            case rel => exact ⟨pre ++ [o], post, xs, bad, by rw [hx.out]; simp [Hid], by simp, Lib.hid ⟨HS7.out.no pw.h, hst.out.2⟩, by omega⟩
            case measure => simp [intOf]; omega

theorem octetReads_walk (W : World) (a0 : Option Addr) (cap0 : Nat) (xs0 : List Int) (a1 : Option Addr) (len1 cap1 : Nat) (c0 : Cls W a0 (ints .u8 xs0)) (l0 : xs0.length ≤ cap0) (b0 : xs0.length * 1 ≤ 140737488351232) (w0 : ∀ x ∈ xs0, (Lit.int .u8 x).wf = true) (rd1 : Rd Try.prog W 8 22 [.slice a1 len1 cap1]) :
    Calls Try.prog 6 #[.slice a0 xs0.length cap0, .slice a1 len1 cap1] W fun e w' => e = .returned (.bool true) ∧ Below W.heap.size W w' := by
  obtain ⟨A, c, xs, hv, hr, hp, _, hb⟩ := slice_dec OpV.enc (OpV.Ok W) rd1 Try.underlying22 (by kernel_rfl : Try.prog.cellsOf 29 = 4) (by kernel_rfl : Try.prog.bytesOf 29 = 48) (by omega) (fun r hr => op_dec hr)
  rw [hv]
  exact (octetReads_core W a0 cap0 xs0 A c xs c0 l0 (fun x hx => by have := bounds_u8 (w0 x hx); unfold isB; omega) (by omega) ⟨hr, hp, Ch.refl No W⟩ (by omega)).mono fun e w' ⟨h1, h2⟩ => ⟨h1, h2.same⟩
end Go.Proofs.Ytoaekfocfdcgiaa
