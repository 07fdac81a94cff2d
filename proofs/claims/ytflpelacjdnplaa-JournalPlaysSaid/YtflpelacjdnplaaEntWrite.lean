/- entry: Write, and the reference's Write: what each comes to. -/
import Derived.Test.YtflpelacjdnplaaEntLess
import Derived.Test.YtflpelacjdnplaaOctWInt
import Derived.Test.YtflpelacjdnplaaOctClone
import Derived.Test.YtflpelacjdnplaaRefPut
import Derived.Test.YtflpelacjdnplaaRefJoin
namespace Go.Proofs.Ytflpelacjdnplaa
open Go.RowKit

/-- a writer under way beside an entry's box -/
structure EWs (w0 wr : World) (b0 g : Nat) (x : Ent) (bs : List Int) : Prop where
  ex : ∃ k, Wr wr (b0 + 1) g k bs
  ch : Ch No w0 wr
  box : EBox wr b0 x
  lt : b0 < g
  le : w0.heap.size ≤ b0
theorem EWs.step {w0 wr w' : World} {b0 g : Nat} {x : Ent} {bs bs' : List Int} {k : Option Nat} (h : EWs w0 wr b0 g x bs) (hw : Wr wr (b0 + 1) g k bs) (hp : WrPost wr (b0 + 1) g k bs' w') : EWs w0 w' b0 g x bs' := by
  obtain ⟨k', h1, h2, _⟩ := hp
  have h3 := h.lt
  have h4 := h.le
  refine ⟨⟨k', h1⟩, h.ch.wr0 hw (by omega) (by omega) h2, h.box.ch h2 ?_, h.lt, h.le⟩
  rintro (h5 | h5)
  · omega
  · have := (hw.klt h5).1
    omega
theorem EWInt {w0 wr : World} {b0 g : Nat} {x : Ent} {bs : List Int} (n size : Int) (h : EWs w0 wr b0 g x bs) (hl : bs.length + 8 ≤ 100000000000000) :
    Calls Try.prog 42 #[.pointer (some ⟨g, 0, none⟩), .int .i64 n, .int .i64 size] wr fun e w' => e = .returned (.tuple #[]) ∧ EWs w0 w' b0 g x (bs ++ putB (toU n) (heldB size)) := by
  obtain ⟨k, hk⟩ := h.ex
  refine (WInt_any n size wr (b0 + 1) g k bs hk h.box.lt hl).mono ?_
  rintro e w' ⟨rfl, hp⟩
  exact ⟨rfl, h.step hk hp⟩
theorem EWDone {w0 wr : World} {b0 g : Nat} {x : Ent} {bs : List Int} (h : EWs w0 wr b0 g x bs) (hl : bs.length ≤ 100000000000000) :
    Calls Try.prog 43 #[.pointer (some ⟨g, 0, none⟩)] wr (MadeS wr bs) := by
  obtain ⟨k, hk⟩ := h.ex
  exact Done_any wr (b0 + 1) g k bs hk hl
/-- the bytes of the first fields -/
def pre4 (x : Ent) (j : Nat) : List Int := putB (toU x.t) 8 ++ ([x.tenant, x.person, x.kind, x.code].take j).flatMap fun n => putB (toU n) 1
theorem pre4_0 (x : Ent) : pre4 x 1 = pre4 x 0 ++ putB (toU x.tenant) (heldB 1) := by simp [pre4, show heldB 1 = 1 from by decide]
theorem pre4_1 (x : Ent) : pre4 x 2 = pre4 x 1 ++ putB (toU x.person) (heldB 1) := by simp [pre4, show heldB 1 = 1 from by decide]
theorem pre4_2 (x : Ent) : pre4 x 3 = pre4 x 2 ++ putB (toU x.kind) (heldB 1) := by simp [pre4, show heldB 1 = 1 from by decide]
theorem pre4_3 (x : Ent) : pre4 x 4 = pre4 x 3 ++ putB (toU x.code) (heldB 1) := by simp [pre4, show heldB 1 = 1 from by decide]
theorem pre4_z (x : Ent) : pre4 x 0 = [] ++ putB (toU x.t) (heldB 8) := by simp [pre4, show heldB 8 = 8 from by decide]
theorem pre4_end (x : Ent) : encB x = pre4 x 4 ++ putB (toU x.arg) (heldB 8) := by simp [pre4, encB, show heldB 8 = 8 from by decide]

theorem EWrite_bad (x : Ent) (w : World) (ho : okE x = false) : Calls Try.prog 29 #[x.val] w fun e w' => e = .returned (.tuple #[.slice none 0 0, .int .i64 23]) ∧ Ch No w w' := by
  have hck := fun w => Check_any x w
  rw [show errE x = 23 from by unfold errE; rw [ho]; rfl] at hck
  have B1 := (Blk.new w 32 x.enc).ebox
  have C1 := (Ch.refl No w).alloc (.cells x.enc.toArray 32)
  simp only [Ent.enc] at B1 C1
  obtain ⟨a0, a1, a2, a3, a4, a5⟩ := B1
  unfold Ent.val at hck ⊢
  go_enter Try.func29, Try.ntmps29
  go_wp2_with fail
  refine (hck _).mono ?_
  rintro e w1 ⟨rfl, h1⟩
  have H1 := Lib.hid (C1.trans h1)
  clear h1 C1 a0 a1 a2 a3 a4 a5 hck
  go_wp2_with fail
  exact bodyPost_ret (v := .tuple #[.slice none 0 0, .int .i64 23]) (by simp [results, Try.results29, go_sem]) rfl ⟨rfl, H1.out⟩

set_option maxHeartbeats 4000000 in
set_option maxRecDepth 100000 in
theorem EWrite_ok (x : Ent) (w : World) (ho : okE x = true) : Calls Try.prog 29 #[x.val] w fun e w' => ∃ A c, e = .returned (.tuple #[.slice A 20 c, .int .i64 0]) ∧ OwnS w' w.heap.size 5 (.slice A 20 c) (ints .u8 (encB x)) ∧ Ch No w w' := by
  have hck := fun w => Check_any x w
  rw [show errE x = 0 from by unfold errE; rw [ho]; rfl] at hck
  have B1 := (Blk.new w 32 x.enc).ebox
  have C1 := (Ch.refl No w).alloc (.cells x.enc.toArray 32)
  simp only [Ent.enc] at B1 C1
  obtain ⟨a0, a1, a2, a3, a4, a5⟩ := id B1
  unfold Ent.val at hck ⊢
  go_enter Try.func29, Try.ntmps29
  go_wp2_with fail
  refine (hck _).mono ?_
  rintro e w1 ⟨rfl, h1⟩
  have hb1 := B1.no h1
  have hlt := hb1.lt
  have HS0 : Hid (EWs w (w1.alloc (.cells #[.slice none 0 0] 85)) w.heap.size w1.heap.size x []) :=
    Lib.hid ⟨⟨none, Wr.new w1 _⟩, (C1.trans h1).alloc _, hb1.no ((Ch.refl No w1).alloc _), hlt, Nat.le_refl _⟩
  clear h1 C1 a0 a1 a2 a3 a4 a5 hck B1 hb1 ho hlt
  obtain ⟨a0, a1, a2, a3, a4, a5⟩ := HS0.out.box
  go_wp2_with fail
  clear a0 a1 a2 a3 a4 a5
  obtain ⟨b0, hb0⟩ : ∃ b, w.heap.size = b := ⟨_, rfl⟩
  rw [hb0] at HS0 ⊢
  clear hb0
  generalize w1.alloc (.cells #[.slice none 0 0] 85) = w2 at *
  generalize w1.heap.size = g at *
  refine (EWInt x.t 8 HS0.out (by simp)).mono ?_
  rintro e w3 ⟨rfl, h3⟩
  have HS1 : Hid (EWs w w3 b0 g x (pre4 x 0)) := Lib.hid (by rw [pre4_z]; exact h3)
  clear h3 HS0
  obtain ⟨a0, a1, a2, a3, a4, a5⟩ := HS1.out.box
  go_wp2_with fail
  clear a0 a1 a2 a3 a4 a5
  have i0 : ∀ w : World, (Instr.index 87 (.agg #[.int .i64 x.tenant, .int .i64 x.person, .int .i64 x.kind, .int .i64 x.code]) (.int .i64 0)).run Try.prog w = .ok (.int .i64 x.tenant) w := fun _ => by kernel_rfl
  have i1 : ∀ w : World, (Instr.index 87 (.agg #[.int .i64 x.tenant, .int .i64 x.person, .int .i64 x.kind, .int .i64 x.code]) (.int .i64 1)).run Try.prog w = .ok (.int .i64 x.person) w := fun _ => by kernel_rfl
  have i2 : ∀ w : World, (Instr.index 87 (.agg #[.int .i64 x.tenant, .int .i64 x.person, .int .i64 x.kind, .int .i64 x.code]) (.int .i64 2)).run Try.prog w = .ok (.int .i64 x.kind) w := fun _ => by kernel_rfl
  have i3 : ∀ w : World, (Instr.index 87 (.agg #[.int .i64 x.tenant, .int .i64 x.person, .int .i64 x.kind, .int .i64 x.code]) (.int .i64 3)).run Try.prog w = .ok (.int .i64 x.code) w := fun _ => by kernel_rfl
  go_loopw [7, 25] (fun _ i wr => ∃ j : Nat, j ≤ 4 ∧ i = .int .i64 j ∧ Hid (EWs w wr b0 g x (pre4 x j))) (fun _ i _ => 4 - (intOf i).toNat)
  case atStart => exact ⟨0, by omega, rfl, HS1⟩
  case round =>
    clear HS1
    obtain ⟨j, hj, rfl, hst⟩ := hrel
    rcases (by omega : j = 0 ∨ j = 1 ∨ j = 2 ∨ j = 3 ∨ j = 4) with rfl | rfl | rfl | rfl | rfl
    · obtain ⟨a0, a1, a2, a3, a4, a5⟩ := hst.out.box
      go_wp2_with fail
      refine (EWInt x.tenant 1 hst.out (by simp [pre4])).mono ?_
      rintro e w3 ⟨rfl, h3⟩
      have H3 : Hid (EWs w w3 b0 g x (pre4 x 1)) := Lib.hid (by rw [pre4_0]; exact h3)
      clear h3 hst a0 a1 a2 a3 a4 a5
      go_wp2_with fail
      go_roundw
      case rel => exact ⟨1, by omega, rfl, H3⟩
      case measure => simp [intOf]
    · obtain ⟨a0, a1, a2, a3, a4, a5⟩ := hst.out.box
      go_wp2_with fail
      refine (EWInt x.person 1 hst.out (by simp [pre4])).mono ?_
      rintro e w3 ⟨rfl, h3⟩
      have H3 : Hid (EWs w w3 b0 g x (pre4 x 2)) := Lib.hid (by rw [pre4_1]; exact h3)
      clear h3 hst a0 a1 a2 a3 a4 a5
      go_wp2_with fail
      go_roundw
      case rel => exact ⟨2, by omega, rfl, H3⟩
      case measure => simp [intOf]
    · obtain ⟨a0, a1, a2, a3, a4, a5⟩ := hst.out.box
      go_wp2_with fail
      refine (EWInt x.kind 1 hst.out (by simp [pre4])).mono ?_
      rintro e w3 ⟨rfl, h3⟩
      have H3 : Hid (EWs w w3 b0 g x (pre4 x 3)) := Lib.hid (by rw [pre4_2]; exact h3)
      clear h3 hst a0 a1 a2 a3 a4 a5
      go_wp2_with fail
      go_roundw
      case rel => exact ⟨3, by omega, rfl, H3⟩
      case measure => simp [intOf]
    · obtain ⟨a0, a1, a2, a3, a4, a5⟩ := hst.out.box
      go_wp2_with fail
      refine (EWInt x.code 1 hst.out (by simp [pre4])).mono ?_
      rintro e w3 ⟨rfl, h3⟩
      have H3 : Hid (EWs w w3 b0 g x (pre4 x 4)) := Lib.hid (by rw [pre4_3]; exact h3)
      clear h3 hst a0 a1 a2 a3 a4 a5
      go_wp2_with fail
      go_roundw
      case rel => exact ⟨4, by omega, rfl, H3⟩
      case measure => simp [intOf]
    · obtain ⟨a0, a1, a2, a3, a4, a5⟩ := hst.out.box
      go_wp2_with fail
      refine (EWInt x.arg 8 hst.out (by simp [pre4])).mono ?_
      rintro e w3 ⟨rfl, h3⟩
      have H3 : Hid (EWs w w3 b0 g x (encB x)) := Lib.hid (by rw [pre4_end]; exact h3)
      clear h3 hst a0 a1 a2 a3 a4 a5
      have HL : Hid ((encB x).length = 20) := Lib.hid (encB_length x)
      go_wp2_with fail
      refine (EWDone H3.out (by rw [HL.out]; omega)).mono ?_
      rintro e w4 ⟨A, c, rfl, o4, h4⟩
      rw [HL.out] at o4
      have H4 : Hid (OwnS w4 w.heap.size 5 (.slice A 20 c) (ints .u8 (encB x)) ∧ Ch No w w4) := Lib.hid ⟨o4.lower H3.out.ch.size, H3.out.ch.trans h4⟩
      clear o4 h4 H3
      rw [HL.out]
      go_wp2_with fail
      exact bodyPost_ret (v := .tuple #[.slice A 20 c, .int .i64 0]) (by simp [results, Try.results29, go_sem]) rfl ⟨A, c, rfl, H4.out.1, H4.out.2⟩

/-- an integer's bytes, their number written out -/
theorem ri_any (n : Int) (s : Nat) (hs : heldB s = s) (w : World) : Calls Try.prog 45 #[.int .i64 n, .int .i64 s] w fun e w' => ∃ A c, e = .returned (.slice A s c) ∧ Cls w' A (ints .u8 (putB (toU n) s)) ∧ Ch No w w' := by
  refine (RInt2_any n s w).mono ?_
  rintro e w' ⟨A, c, rfl, o, h⟩
  rw [hs] at o
  obtain ⟨A', c', e', s', _⟩ := o.slice_ints
  rw [putB_length] at e'
  rw [hs, putB_length]
  refine ⟨A, c, rfl, ?_, h⟩
  rw [(Value.slice.inj e').1]
  exact s'
/-- six parts, just laid in a row, joined -/
theorem join6 (v : World) (A0 A1 A2 A3 A4 A5 : Option Addr) (c0 c1 c2 c3 c4 c5 : Nat) (p0 p1 p2 p3 p4 p5 : List Int) (s0 : Cls v A0 (ints .u8 p0)) (s1 : Cls v A1 (ints .u8 p1)) (s2 : Cls v A2 (ints .u8 p2)) (s3 : Cls v A3 (ints .u8 p3)) (s4 : Cls v A4 (ints .u8 p4)) (s5 : Cls v A5 (ints .u8 p5))
    (l0 : p0.length = 8) (l1 : p1.length = 1) (l2 : p2.length = 1) (l3 : p3.length = 1) (l4 : p4.length = 1) (l5 : p5.length = 8) :
    Calls Try.prog 44 #[.slice (some ⟨v.heap.size, 0, none⟩) 6 6] (v.alloc (.cells #[.slice A0 8 c0, .slice A1 1 c1, .slice A2 1 c2, .slice A3 1 c3, .slice A4 1 c4, .slice A5 8 c5] 58)) fun e w' => ∃ A c, e = .returned (.slice A 20 c) ∧ OwnS w' v.heap.size 5 (.slice A 20 c) (ints .u8 (p0 ++ (p1 ++ (p2 ++ (p3 ++ (p4 ++ p5)))))) ∧ Ch No v w' ∧ Ch No (v.alloc (.cells #[.slice A0 8 c0, .slice A1 1 c1, .slice A2 1 c2, .slice A3 1 c3, .slice A4 1 c4, .slice A5 8 c5] 58)) w' := by
  have hc := ((Ch.refl No v).alloc (.cells #[.slice A0 8 c0, .slice A1 1 c1, .slice A2 1 c2, .slice A3 1 c3, .slice A4 1 c4, .slice A5 8 c5] 58))
  have hps : [Prt.mk A0 c0 p0, Prt.mk A1 c1 p1, Prt.mk A2 c2 p2, Prt.mk A3 c3 p3, Prt.mk A4 c4 p4, Prt.mk A5 c5 p5].map Prt.enc = [.slice A0 8 c0, .slice A1 1 c1, .slice A2 1 c2, .slice A3 1 c3, .slice A4 1 c4, .slice A5 8 c5] := by simp [Prt.enc, l0, l1, l2, l3, l4, l5]
  have hj := RJoin_any (v.alloc (.cells #[.slice A0 8 c0, .slice A1 1 c1, .slice A2 1 c2, .slice A3 1 c3, .slice A4 1 c4, .slice A5 8 c5] 58)) (some ⟨v.heap.size, 0, none⟩) 6 [Prt.mk A0 c0 p0, Prt.mk A1 c1 p1, Prt.mk A2 c2 p2, Prt.mk A3 c3 p3, Prt.mk A4 c4 p4, Prt.mk A5 c5 p5]
    (by rw [hps]; exact Cls.lit v 58 [.slice A0 8 c0, .slice A1 1 c1, .slice A2 1 c2, .slice A3 1 c3, .slice A4 1 c4, .slice A5 8 c5])
    (by
      intro p hp
      simp only [List.mem_cons, List.not_mem_nil, or_false] at hp
      rcases hp with rfl | rfl | rfl | rfl | rfl | rfl
      · exact s0.ch hc (fun _ _ h => h)
      · exact s1.ch hc (fun _ _ h => h)
      · exact s2.ch hc (fun _ _ h => h)
      · exact s3.ch hc (fun _ _ h => h)
      · exact s4.ch hc (fun _ _ h => h)
      · exact s5.ch hc (fun _ _ h => h))
    (by simp)
    (by
      intro p hp
      simp only [List.mem_cons, List.not_mem_nil, or_false] at hp
      rcases hp with rfl | rfl | rfl | rfl | rfl | rfl <;> simp only <;> omega)
  refine hj.mono ?_
  rintro e w' ⟨A, c, rfl, o, h⟩
  have hf : [Prt.mk A0 c0 p0, Prt.mk A1 c1 p1, Prt.mk A2 c2 p2, Prt.mk A3 c3 p3, Prt.mk A4 c4 p4, Prt.mk A5 c5 p5].flatMap (·.bs) = p0 ++ (p1 ++ (p2 ++ (p3 ++ (p4 ++ p5)))) := by simp
  rw [hf] at o ⊢
  have hl : (p0 ++ (p1 ++ (p2 ++ (p3 ++ (p4 ++ p5))))).length = 20 := by simp; omega
  rw [hl] at o ⊢
  exact ⟨A, c, rfl, o.lower hc.size, hc.trans h, h⟩

theorem RWrite_bad (x : Ent) (w : World) (ho : okE x = false) : Calls Try.prog 30 #[x.val] w fun e w' => e = .returned (.tuple #[.slice none 0 0, .int .i64 23]) ∧ Ch No w w' := by
  have hck := fun w => Right_any x w
  rw [ho] at hck
  have B1 := (Blk.new w 37 x.enc).ebox
  have C1 := (Ch.refl No w).alloc (.cells x.enc.toArray 37)
  simp only [Ent.enc] at B1 C1
  obtain ⟨a0, a1, a2, a3, a4, a5⟩ := B1
  unfold Ent.val at hck ⊢
  go_enter Try.func30, Try.ntmps30
  go_wp2_with fail
  refine (hck _).mono ?_
  rintro e w1 ⟨rfl, h1⟩
  have H1 := Lib.hid (C1.trans h1)
  clear h1 C1 a0 a1 a2 a3 a4 a5 hck
  go_wp2_with fail
  exact bodyPost_ret (v := .tuple #[.slice none 0 0, .int .i64 23]) (by simp [results, Try.results30, go_sem]) rfl ⟨rfl, H1.out⟩

set_option maxHeartbeats 8000000 in
set_option maxRecDepth 100000 in
theorem RWrite_ok (x : Ent) (w : World) (ho : okE x = true) : Calls Try.prog 30 #[x.val] w fun e w' => ∃ A c, e = .returned (.tuple #[.slice A 20 c, .int .i64 0]) ∧ OwnS w' w.heap.size 5 (.slice A 20 c) (ints .u8 (encB x)) ∧ Ch No w w' := by
  have hck := fun w => Right_any x w
  rw [ho] at hck
  have r8 := fun n w => ri_any n 8 (by decide) w
  have r1 := fun n w => ri_any n 1 (by decide) w
  have B1 := (Blk.new w 37 x.enc).ebox
  have C1 := (Ch.refl No w).alloc (.cells x.enc.toArray 37)
  simp only [Ent.enc] at B1 C1
  obtain ⟨a0, a1, a2, a3, a4, a5⟩ := id B1
  unfold Ent.val at hck ⊢
  go_enter Try.func30, Try.ntmps30
  go_wp2_with fail
  refine (hck _).mono ?_
  rintro e w1 ⟨rfl, h1⟩
  have hb1 := B1.no h1
  have HC0 : Hid (Ch No w w1) := Lib.hid (C1.trans h1)
  obtain ⟨b0, hb0⟩ : ∃ b, w.heap.size = b := ⟨_, rfl⟩
  have HE : Hid (encB x = putB (toU x.t) 8 ++ (putB (toU x.tenant) 1 ++ (putB (toU x.person) 1 ++ (putB (toU x.kind) 1 ++ (putB (toU x.code) 1 ++ putB (toU x.arg) 8))))) := Lib.hid rfl
  rw [hb0] at hb1 ⊢
  clear h1 C1 a0 a1 a2 a3 a4 a5 hck B1 ho hb0
  obtain ⟨a0, a1, a2, a3, a4, a5⟩ := hb1
  go_wp2_with fail
  have HK : ∀ u u' : World, Ch No u u' → (u.cell? ⟨b0, 0, none⟩ = some (.int .i64 x.t) ∧ u.cell? ⟨b0, 1, none⟩ = some (.int .i64 x.arg) ∧ u.cell? ⟨b0, 2, none⟩ = some (.int .i64 x.tenant) ∧ u.cell? ⟨b0, 3, none⟩ = some (.int .i64 x.person) ∧ u.cell? ⟨b0, 4, none⟩ = some (.int .i64 x.kind) ∧ u.cell? ⟨b0, 5, none⟩ = some (.int .i64 x.code)) → (u'.cell? ⟨b0, 0, none⟩ = some (.int .i64 x.t) ∧ u'.cell? ⟨b0, 1, none⟩ = some (.int .i64 x.arg) ∧ u'.cell? ⟨b0, 2, none⟩ = some (.int .i64 x.tenant) ∧ u'.cell? ⟨b0, 3, none⟩ = some (.int .i64 x.person) ∧ u'.cell? ⟨b0, 4, none⟩ = some (.int .i64 x.kind) ∧ u'.cell? ⟨b0, 5, none⟩ = some (.int .i64 x.code)) := fun u u' h ⟨z0, z1, z2, z3, z4, z5⟩ => ⟨h.cell z0 (fun h => h), h.cell z1 (fun h => h), h.cell z2 (fun h => h), h.cell z3 (fun h => h), h.cell z4 (fun h => h), h.cell z5 (fun h => h)⟩
  go_region_held3 (fun w' => w'.cell? ⟨b0, 0, none⟩ = some (.int .i64 x.t) ∧ w'.cell? ⟨b0, 1, none⟩ = some (.int .i64 x.arg) ∧ w'.cell? ⟨b0, 2, none⟩ = some (.int .i64 x.tenant) ∧ w'.cell? ⟨b0, 3, none⟩ = some (.int .i64 x.person) ∧ w'.cell? ⟨b0, 4, none⟩ = some (.int .i64 x.kind) ∧ w'.cell? ⟨b0, 5, none⟩ = some (.int .i64 x.code)) (first | (and_intros <;> assumption) | exact HK _ _ ((Ch.refl No _).alloc _).drew (by assumption) | exact HK _ _ ((Ch.refl No _).alloc _) (by assumption) | exact HK _ _ g6 (by assumption) | exact HK _ _ h5 (by assumption) | exact HK _ _ h4 (by assumption) | exact HK _ _ h3 (by assumption) | exact HK _ _ h2 (by assumption) | exact HK _ _ h1 (by assumption) | exact HK _ _ h0 (by assumption)) (first | (go_at_call_of 45 (Value.int .i64 x.t); refine (r8 x.t _).mono ?_; rintro e w' ⟨A0, c0, rfl, s0, h0⟩; have HC1 : Hid (Ch No w w') := Lib.hid (by first | exact Ch.trans HC0.out h0 | exact Ch.trans (Ch.drew HC0.out) h0)) | (go_at_call_of 45 (Value.int .i64 x.tenant); refine (r1 x.tenant _).mono ?_; rintro e w' ⟨A1, c1, rfl, s1, h1⟩; replace s0 := Cls.ch s0 h1 (fun _ _ h => h); have HC2 : Hid (Ch No w w') := Lib.hid (by first | exact Ch.trans HC1.out h1 | exact Ch.trans (Ch.drew HC1.out) h1)) | (go_at_call_of 45 (Value.int .i64 x.person); refine (r1 x.person _).mono ?_; rintro e w' ⟨A2, c2, rfl, s2, h2⟩; replace s0 := Cls.ch s0 h2 (fun _ _ h => h); replace s1 := Cls.ch s1 h2 (fun _ _ h => h); have HC3 : Hid (Ch No w w') := Lib.hid (by first | exact Ch.trans HC2.out h2 | exact Ch.trans (Ch.drew HC2.out) h2)) | (go_at_call_of 45 (Value.int .i64 x.kind); refine (r1 x.kind _).mono ?_; rintro e w' ⟨A3, c3, rfl, s3, h3⟩; replace s0 := Cls.ch s0 h3 (fun _ _ h => h); replace s1 := Cls.ch s1 h3 (fun _ _ h => h); replace s2 := Cls.ch s2 h3 (fun _ _ h => h); have HC4 : Hid (Ch No w w') := Lib.hid (by first | exact Ch.trans HC3.out h3 | exact Ch.trans (Ch.drew HC3.out) h3)) | (go_at_call_of 45 (Value.int .i64 x.code); refine (r1 x.code _).mono ?_; rintro e w' ⟨A4, c4, rfl, s4, h4⟩; replace s0 := Cls.ch s0 h4 (fun _ _ h => h); replace s1 := Cls.ch s1 h4 (fun _ _ h => h); replace s2 := Cls.ch s2 h4 (fun _ _ h => h); replace s3 := Cls.ch s3 h4 (fun _ _ h => h); have HC5 : Hid (Ch No w w') := Lib.hid (by first | exact Ch.trans HC4.out h4 | exact Ch.trans (Ch.drew HC4.out) h4)) | (go_at_call_of 45 (Value.int .i64 x.arg); refine (r8 x.arg _).mono ?_; rintro e w' ⟨A5, c5, rfl, s5, h5⟩; replace s0 := Cls.ch s0 h5 (fun _ _ h => h); replace s1 := Cls.ch s1 h5 (fun _ _ h => h); replace s2 := Cls.ch s2 h5 (fun _ _ h => h); replace s3 := Cls.ch s3 h5 (fun _ _ h => h); replace s4 := Cls.ch s4 h5 (fun _ _ h => h); have HC6 : Hid (Ch No w w') := Lib.hid (by first | exact Ch.trans HC5.out h5 | exact Ch.trans (Ch.drew HC5.out) h5)) | (go_at_call 44; refine (join6 _ _ _ _ _ _ _ _ _ _ _ _ _ _ _ _ _ _ _ s0 s1 s2 s3 s4 s5 rfl rfl rfl rfl rfl rfl).mono ?_; rintro e w' ⟨A6, c6, rfl, o6, h6, g6⟩; have HC7 := Lib.hid (And.intro (Ch.trans HC6.out h6) o6)))
  go_wp2_with fail
  exact bodyPost_ret (v := .tuple #[.slice A6 20 c6, .int .i64 0]) (by simp [results, Try.results30, go_sem]) rfl ⟨A6, c6, rfl, by rw [HE.out]; exact OwnS.lower HC7.out.2 HC6.out.size, HC7.out.1⟩
end Go.Proofs.Ytflpelacjdnplaa
