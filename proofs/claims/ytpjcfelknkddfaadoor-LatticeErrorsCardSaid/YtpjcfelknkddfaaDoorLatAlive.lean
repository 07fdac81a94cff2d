/- The example of the lattices' chapter holds. -/
import Derived.Test.YtpjcfelknkddfaaDoorLatClose
import Derived.Test.YtpjcfelknkddfaaDoorRead
namespace Go.Proofs.YtpjcfelknkddfaaDoor
open Go.RowKit

theorem blk_rws {w : World} {g : Nat} {t : TypeId} {Ls : List (Nat × Nat)} (h : Blk w g t (flatL Ls)) : Rws w (some ⟨g, 0, none⟩) 2 (Ls.map labR) := by
  intro pre r post e
  obtain ⟨p, q, rfl, rfl, e2⟩ := List.map_eq_append_iff.1 e
  obtain ⟨a, q', rfl, rfl, rfl⟩ := List.map_eq_cons_iff.1 e2
  refine ⟨rfl, g, 0, rfl, fun j v hj => ?_⟩
  have hj2 : j < 2 := by have := (List.getElem?_eq_some_iff.1 hj).1; simpa [labR] using this
  rw [List.length_map, Nat.zero_add, h.cell, flatL_at p q' a j hj2, hj]
section
variable {w : World} {pb N : Nat} {A : Option Addr} {c mb : Nat} {D : Option Addr} {cd : Nat} {Ls : List (Nat × Nat)}
theorem LtClosed_any (h : Lat w pb N A c mb D cd Ls) (m : Nat) (hm : m < 4294967296) (hT : TabAt 0 Lib.deBruijn64tab w) (b : Bool) (hb : decide (cl Ls m = m) = b) :
    Calls Tryd.prog 20 #[.pointer (some ⟨pb, 0, none⟩), .int .u32 m] w fun e w' => e = .returned (.bool b) ∧ Ch No w w' := by
  have HC := Lib.hid (LtClose_any h m hm hT)
  have e1 : (((cl Ls m : Nat) : Int) == (m : Int)) = b := by
    rw [← hb, Bool.eq_iff_iff]
    simp
    omega
  clear h hT hb
  generalize cl Ls m = q at *
  go_enter Tryd.func20, Tryd.ntmps20
  go_wp2_with fail
  refine HC.out.mono ?_
  rintro e w1 ⟨rfl, h1⟩
  have e2 : ((m : Int) == (q : Int)) = b := by rw [← e1, Bool.eq_iff_iff]; simp; omega
  go_wp2_with fail
  go_ret
  exact ⟨rfl, h1⟩
end
set_option maxHeartbeats 4000000 in
set_option maxRecDepth 100000 in
theorem latAlive_any (w : World) (hT : TabAt 0 Lib.deBruijn64tab w) : Calls Tryd.prog 8 #[] w fun e w' => e = .returned (.bool true) ∧ Ch No w w' := by
  have HT := Lib.hid hT
  clear hT
  have C0 : Ch No w (w.alloc (.cells #[.int .u8 0, .int .u16 0, .int .u8 1, .int .u16 0] 25)) := (Ch.refl No w).alloc _
  have q1 := LNew_any (w := w.alloc (.cells #[.int .u8 0, .int .u16 0, .int .u8 1, .int .u16 0] 25)) (A := some ⟨w.heap.size, 0, none⟩) (c := 2) (N := 2) (Ls := [(0, 0), (1, 0)]) (blk_rws (Blk.new w 25 [.int .u8 0, .int .u16 0, .int .u8 1, .int .u16 0])) rfl (by intro x hx; simp at hx; rcases hx with rfl | rfl <;> decide) (by omega)
  have HN := Lib.hid (And.intro q1 C0)
  clear q1 C0
  go_enter Tryd.func8, Tryd.ntmps8
  go_wp2_with fail
  refine HN.out.1.mono ?_
  rintro e w1 (⟨_, pb, A, c, mb, D, cd, rfl, hl, h1⟩ | ⟨h0, _⟩)
  rotate_left
  · exact absurd (by decide) h0
  have H1 := Lib.hid (And.intro hl (HN.out.2.trans h1))
  clear hl h1 HN
  have q2 := LNew_any (w := w1.alloc (.cells #[.int .u8 0, .int .u16 0, .int .u8 0, .int .u16 0] 25)) (A := some ⟨w1.heap.size, 0, none⟩) (c := 2) (N := 2) (Ls := [(0, 0), (0, 0)]) (blk_rws (Blk.new w1 25 [.int .u8 0, .int .u16 0, .int .u8 0, .int .u16 0])) rfl (by intro x hx; simp at hx; rcases hx with rfl | rfl <;> decide) (by omega)
  have HN := Lib.hid q2
  clear q2
  go_wp2_with fail
  refine HN.out.mono ?_
  rintro e w2 (⟨h0, _⟩ | ⟨_, rfl, h2⟩)
  · exact absurd h0 (by decide)
  rw [show chkL [(0, 0), (0, 0)] = 5 from by decide]
  have C := Lib.hid (((Ch.refl No w1).alloc _).trans h2)
  clear h2 HN
  have F0 : Hid (∀ w' : World, Ch No w1 w' → Calls Tryd.prog 11 #[.pointer (some ⟨pb, 0, none⟩), .agg #[.int .u8 1, .int .u16 0]] w' fun e w'' => e = .returned (.tuple #[.int .i64 1, .int .i64 0]) ∧ Ch No w' w'') := Lib.hid (fun w' h => by
    have q := LtIndex_any (H1.out.1.no h) 1 0
    exact q)
  have F1 : Hid (∀ w' : World, Ch No w1 w' → Calls Tryd.prog 11 #[.pointer (some ⟨pb, 0, none⟩), .agg #[.int .u8 2, .int .u16 0]] w' fun e w'' => e = .returned (.tuple #[.int .i64 0, .int .i64 30]) ∧ Ch No w' w'') := Lib.hid (fun w' h => by
    have q := LtIndex_any (H1.out.1.no h) 2 0
    exact q)
  have F2 : Hid (∀ w' : World, Ch No w1 w' → Calls Tryd.prog 13 #[.pointer (some ⟨pb, 0, none⟩), .int .i64 1] w' fun e w'' => e = .returned (.tuple #[.agg #[.int .u8 1, .int .u16 0], .int .i64 0]) ∧ Ch No w' w'') := Lib.hid (fun w' h => by
    have q := LtAt_any (H1.out.1.no h) 1
    exact q)
  have F3 : Hid (∀ w' : World, Ch No w1 w' → Calls Tryd.prog 13 #[.pointer (some ⟨pb, 0, none⟩), .int .i64 2] w' fun e w'' => e = .returned (.tuple #[.agg #[.int .u8 0, .int .u16 0], .int .i64 30]) ∧ Ch No w' w'') := Lib.hid (fun w' h => by
    have q := LtAt_any (H1.out.1.no h) 2
    exact q)
  have F4 : Hid (∀ w' : World, Ch No w1 w' → Calls Tryd.prog 16 #[.pointer (some ⟨pb, 0, none⟩)] w' fun e w'' => e = .returned (.int .i64 2) ∧ Ch No w' w'') := Lib.hid (fun w' h => by
    have q := LtLen_any (H1.out.1.no h)
    exact q)
  have F5 : Hid (∀ w' : World, Ch No w1 w' → Calls Tryd.prog 17 #[.pointer (some ⟨pb, 0, none⟩), .int .i64 1] w' fun e w'' => e = .returned (.int .u32 3) ∧ Ch No w' w'') := Lib.hid (fun w' h => by
    have q := LtDown_any (H1.out.1.no h) 1
    exact q)
  have F6 : Hid (∀ w' : World, Ch No w1 w' → Calls Tryd.prog 17 #[.pointer (some ⟨pb, 0, none⟩), .int .i64 0] w' fun e w'' => e = .returned (.int .u32 1) ∧ Ch No w' w'') := Lib.hid (fun w' h => by
    have q := LtDown_any (H1.out.1.no h) 0
    exact q)
  have F7 : Hid (∀ w' : World, Ch No w1 w' → Calls Tryd.prog 18 #[.pointer (some ⟨pb, 0, none⟩), .agg #[.int .u8 9, .int .u16 0]] w' fun e w'' => e = .returned (.int .u32 3) ∧ Ch No w' w'') := Lib.hid (fun w' h => by
    have q := LtBelow_any (H1.out.1.no h) 9 0 (by omega)
    exact q)
  have F8 : Hid (∀ w' : World, Ch No w1 w' → Calls Tryd.prog 20 #[.pointer (some ⟨pb, 0, none⟩), .int .u32 3] w' fun e w'' => e = .returned (.bool true) ∧ Ch No w' w'') := Lib.hid (fun w' h => by
    have q := LtClosed_any (H1.out.1.no h) 3 (by omega) (tab_ch HT.out (H1.out.2.trans h)) true (by decide)
    exact q)
  have F9 : Hid (∀ w' : World, Ch No w1 w' → Calls Tryd.prog 20 #[.pointer (some ⟨pb, 0, none⟩), .int .u32 2] w' fun e w'' => e = .returned (.bool false) ∧ Ch No w' w'') := Lib.hid (fun w' h => by
    have q := LtClosed_any (H1.out.1.no h) 2 (by omega) (tab_ch HT.out (H1.out.2.trans h)) false (by decide)
    exact q)
  have F10 : Hid (∀ w' : World, Ch No w1 w' → Calls Tryd.prog 19 #[.pointer (some ⟨pb, 0, none⟩), .int .u32 2] w' fun e w'' => e = .returned (.int .u32 3) ∧ Ch No w' w'') := Lib.hid (fun w' h => by
    have q := LtClose_any (H1.out.1.no h) 2 (by omega) (tab_ch HT.out (H1.out.2.trans h))
    exact q)
  go_wp2_with fail
  refine (F0.out _ (by first | exact C.out | exact C.out.alloc _)).mono ?_
  rintro e v0 ⟨rfl, h⟩
  have C' := Lib.hid (C.out.trans h)
  clear C h
  have C := C'
  clear C'
  go_wp2_with fail
  refine (F1.out _ (by first | exact C.out | exact C.out.alloc _)).mono ?_
  rintro e v1 ⟨rfl, h⟩
  have C' := Lib.hid (C.out.trans h)
  clear C h
  have C := C'
  clear C'
  go_wp2_with fail
  refine (F2.out _ (by first | exact C.out | exact C.out.alloc _)).mono ?_
  rintro e v2 ⟨rfl, h⟩
  have C' := Lib.hid (C.out.trans h)
  clear C h
  have C := C'
  clear C'
  go_wp2_with fail
  refine (F3.out _ (by first | exact C.out | exact C.out.alloc _)).mono ?_
  rintro e v3 ⟨rfl, h⟩
  have hx := ((Blk.new v2 25 [.int .u8 1, .int .u16 0]).ch h (fun h => h)).alloc (.cells #[.int .u8 0, .int .u16 0] 25)
  have C' := Lib.hid (((C.out.alloc _).trans h).alloc (.cells #[.int .u8 0, .int .u16 0] 25))
  have HX := Lib.hid hx
  clear C h hx
  have C := C'
  clear C'
  go_upto_region 9 with fail
  generalize v3.alloc (.cells #[.int .u8 0, .int .u16 0] 25) = v33 at *
  generalize v2.heap.size = xb at *
  have x0 := HX.out.cell 0
  simp only [List.getElem?_cons_zero] at x0
  go_wp2_with fail
  refine (F4.out _ (by first | exact C.out | exact C.out.alloc _)).mono ?_
  rintro e v4 ⟨rfl, h⟩
  have C' := Lib.hid (C.out.trans h)
  have HX' := Lib.hid (HX.out.ch h (fun h => h))
  clear C h x0 HX
  have C := C'
  have HX := HX'
  clear C' HX'
  have x0 := HX.out.cell 0
  simp only [List.getElem?_cons_zero] at x0
  go_wp2_with fail
  refine (F5.out _ (by first | exact C.out | exact C.out.alloc _)).mono ?_
  rintro e v5 ⟨rfl, h⟩
  have C' := Lib.hid (C.out.trans h)
  have HX' := Lib.hid (HX.out.ch h (fun h => h))
  clear C h x0 HX
  have C := C'
  have HX := HX'
  clear C' HX'
  have x0 := HX.out.cell 0
  simp only [List.getElem?_cons_zero] at x0
  go_wp2_with fail
  refine (F6.out _ (by first | exact C.out | exact C.out.alloc _)).mono ?_
  rintro e v6 ⟨rfl, h⟩
  have C' := Lib.hid (C.out.trans h)
  have HX' := Lib.hid (HX.out.ch h (fun h => h))
  clear C h x0 HX
  have C := C'
  have HX := HX'
  clear C' HX'
  have x0 := HX.out.cell 0
  simp only [List.getElem?_cons_zero] at x0
  go_wp2_with fail
  refine (F7.out _ (by first | exact C.out | exact C.out.alloc _)).mono ?_
  rintro e v7 ⟨rfl, h⟩
  have C' := Lib.hid (C.out.trans h)
  have HX' := Lib.hid (HX.out.ch h (fun h => h))
  clear C h x0 HX
  have C := C'
  have HX := HX'
  clear C' HX'
  have x0 := HX.out.cell 0
  simp only [List.getElem?_cons_zero] at x0
  go_wp2_with fail
  refine (F8.out _ (by first | exact C.out | exact C.out.alloc _)).mono ?_
  rintro e v8 ⟨rfl, h⟩
  have C' := Lib.hid (C.out.trans h)
  have HX' := Lib.hid (HX.out.ch h (fun h => h))
  clear C h x0 HX
  have C := C'
  have HX := HX'
  clear C' HX'
  have x0 := HX.out.cell 0
  simp only [List.getElem?_cons_zero] at x0
  go_wp2_with fail
  refine (F9.out _ (by first | exact C.out | exact C.out.alloc _)).mono ?_
  rintro e v9 ⟨rfl, h⟩
  have C' := Lib.hid (C.out.trans h)
  have HX' := Lib.hid (HX.out.ch h (fun h => h))
  clear C h x0 HX
  have C := C'
  have HX := HX'
  clear C' HX'
  have x0 := HX.out.cell 0
  simp only [List.getElem?_cons_zero] at x0
  go_wp2_with fail
  refine (F10.out _ (by first | exact C.out | exact C.out.alloc _)).mono ?_
  rintro e v10 ⟨rfl, h⟩
  have C' := Lib.hid (C.out.trans h)
  have HX' := Lib.hid (HX.out.ch h (fun h => h))
  clear C h x0 HX
  have C := C'
  have HX := HX'
  clear C' HX'
  have x0 := HX.out.cell 0
  simp only [List.getElem?_cons_zero] at x0
  go_wp2_with fail
  go_ret
  exact ⟨rfl, H1.out.2.trans C.out⟩
end Go.Proofs.YtpjcfelknkddfaaDoor
