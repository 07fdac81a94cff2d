/- The example of octet's chapter holds. -/
import Derived.Test.YtoaekfocfdcgiaaOctRInt
import Derived.Test.YtoaekfocfdcgiaaOctWInt
import Derived.Test.YtoaekfocfdcgiaaRefs
namespace Go.Proofs.Ytoaekfocfdcgiaa
open Go.RowKit

set_option maxHeartbeats 2000000 in
set_option maxRecDepth 100000 in
theorem octAlive_any (w : World) : Calls Try.prog 14 #[] w fun e w' => e = .returned (.bool true) ∧ Ch No w w' := by
  go_enter Try.func14, Try.ntmps14
  go_wp2_with fail
  have b0 := Wr.new w w.heap.size
  have C0 : Ch No w (w.alloc (.cells #[.slice none 0 0] 27)) := (Ch.refl No w).alloc _
  generalize w.alloc (.cells #[.slice none 0 0] 27) = w0 at *
  refine (Put_any 258 2 w0 w.heap.size w.heap.size none [] b0 C0.size (by simp)).mono ?_
  rintro e w1 ⟨rfl, k1, b1, h1, _⟩
  have C1 := C0.wr0 b0 (Nat.le_refl _) (Nat.le_refl _) h1
  rw [show ([] ++ putB 258 (heldB 2)) = ([1, 2] : List Int) from by decide] at b1
  have HB1 := Lib.hid b1
  have HC1 := Lib.hid C1
  clear b0 C0 h1 b1 C1
  go_wp2_with fail
  refine (WInt_any (-2) 4 w1 w.heap.size w.heap.size k1 [1, 2] HB1.out HC1.out.size (by simp)).mono ?_
  rintro e w2 ⟨rfl, k2, b2, h2, _⟩
  have C2 := HC1.out.wr0 HB1.out (Nat.le_refl _) (Nat.le_refl _) h2
  rw [show ([1, 2] ++ putB (toU (-2)) (heldB 4)) = ([1, 2, 255, 255, 255, 254] : List Int) from by decide] at b2
  have HB2 := Lib.hid b2
  have HC2 := Lib.hid C2
  clear HB1 HC1 h2 b2 C2
  go_wp2_with fail
  have B2 : Wr (w2.alloc (.cells #[.int .u8 9] 5)) w.heap.size w.heap.size k2 [1, 2, 255, 255, 255, 254] := HB2.out.ch ((Ch.refl No w2).alloc _) (fun h => h) (fun _ _ h => h)
  have C2 : Ch No w (w2.alloc (.cells #[.int .u8 9] 5)) := HC2.out.alloc _
  have L2 : Cls (w2.alloc (.cells #[.int .u8 9] 5)) (some ⟨w2.heap.size, 0, none⟩) (ints .u8 [9]) := Cls.lit w2 5 [.int .u8 9]
  generalize w2.alloc (.cells #[.int .u8 9] 5) = w2' at *
  refine (WRaw_any w2' w.heap.size w.heap.size k2 [1, 2, 255, 255, 255, 254] B2 C2.size (some ⟨w2.heap.size, 0, none⟩) 1 [9] L2 (by simp)).mono ?_
  rintro e w3 ⟨rfl, k3, b3, h3, _⟩
  have C3 := C2.wr0 B2 (Nat.le_refl _) (Nat.le_refl _) h3
  rw [show ([1, 2, 255, 255, 255, 254] ++ [9]) = ([1, 2, 255, 255, 255, 254, 9] : List Int) from rfl] at b3
  have HB3 := Lib.hid b3
  have HC3 := Lib.hid C3
  clear HB2 HC2 B2 C2 L2 h3 b3 C3
  go_wp2_with fail
  refine (Done_any w3 w.heap.size w.heap.size k3 _ HB3.out (by simp)).mono ?_
  rintro e w4 ⟨A, c, rfl, o4, h4⟩
  have C4 := HC3.out.trans h4
  have hge4 := o4.ge
  obtain ⟨A', c', e4, L4, _⟩ := o4.slice_ints
  obtain ⟨rfl, rfl⟩ : A = A' ∧ c = c' := by simpa using e4
  have HL4 := Lib.hid L4
  have HC4 := Lib.hid C4
  have HG4 := Lib.hid hge4
  clear hge4
  clear HB3 HC3 o4 h4 C4 e4 L4
  go_wp2_with fail
  refine (Open_any w4 A c [1, 2, 255, 255, 255, 254, 9] HL4.out (by simp)).mono ?_
  rintro e w5 ⟨g, A5, c5, rfl, r5, hg5, hA5, h5⟩
  have HP5 : Hid (Rdr w5 g A5 c5 [1, 2, 255, 255, 255, 254, 9] false ∧ Ch No w w5 ∧ Cls w5 A (ints .u8 [1, 2, 255, 255, 255, 254, 9]) ∧ (∀ a, A = some a → a.block ≠ g) ∧ w.heap.size ≤ g) := by
    refine Lib.hid ⟨r5, HC4.out.trans h5, HL4.out.ch h5 (fun _ _ h => h), ?_, Nat.le_trans HC4.out.size hg5⟩
    rintro a rfl
    have := (HG4.out a.block rfl).2
    omega
  clear HC4 HL4 r5 hg5 hA5 h5 HG4
  go_wp2_with fail
  obtain ⟨r5, C5, L5, n5, g5⟩ := HP5.out
  have q6 := Get_any w5 g A5 c5 _ false r5 (by unfold isB; decide) 2
  unfold GetP at q6
  rw [show getN (tkO [1, 2, 255, 255, 255, 254, 9] false (heldB 2)) = 258 from by decide, show tkR [1, 2, 255, 255, 255, 254, 9] false (heldB 2) = [255, 255, 255, 254, 9] from by decide, show tkB [1, 2, 255, 255, 255, 254, 9] false (heldB 2) = false from by decide] at q6
  refine q6.mono ?_
  rintro e w6 ⟨A6, c6, rfl, r6, _, h6⟩
  have HP6 : Hid (Rdr w6 g A6 c6 [255, 255, 255, 254, 9] false ∧ Ch No w w6 ∧ Cls w6 A (ints .u8 [1, 2, 255, 255, 255, 254, 9])) := Lib.hid ⟨r6, C5.rd0 g5 h6, L5.ch h6 (fun a ha => n5 a ha)⟩
  have HN := Lib.hid (And.intro n5 g5)
  clear r5 C5 L5 n5 g5 q6 r6 h6 HP5
  go_wp2_with fail
  obtain ⟨r5, C5, L5⟩ := HP6.out
  obtain ⟨n5, g5⟩ := HN.out
  have q6 := RInt_any w6 g A6 c6 _ false r5 (by unfold isB; decide) 4
  unfold GetP at q6
  rw [show sgn (getN (tkO [255, 255, 255, 254, 9] false (heldB 4))) (8 * heldB 4) = -2 from by decide, show tkR [255, 255, 255, 254, 9] false (heldB 4) = [9] from by decide, show tkB [255, 255, 255, 254, 9] false (heldB 4) = false from by decide] at q6
  refine q6.mono ?_
  rintro e w7 ⟨A7, c7, rfl, r7, _, h7⟩
  have HP7 : Hid (Rdr w7 g A7 c7 [9] false ∧ Ch No w w7 ∧ Cls w7 A (ints .u8 [1, 2, 255, 255, 255, 254, 9])) := Lib.hid ⟨r7, C5.rd0 g5 h7, L5.ch h7 (fun a ha => n5 a ha)⟩
  clear r5 C5 L5 n5 g5 q6 r7 h7 HP6
  go_wp2_with fail
  obtain ⟨r5, C5, L5⟩ := HP7.out
  obtain ⟨n5, g5⟩ := HN.out
  have q6 := RRaw_any w7 g A7 c7 _ false r5 1 (by decide)
  unfold TakeP at q6
  rw [show tkO [9] false (Int.toNat 1) = [9] from by decide, show tkR [9] false (Int.toNat 1) = [] from by decide, show tkB [9] false (Int.toNat 1) = false from by decide] at q6
  have r5n := r5.ne
  refine q6.mono ?_
  rintro e w8 ⟨A8, c8, A9, c9, rfl, L8, b8, r8, _, h8⟩
  have HP8 : Hid (Rdr w8 g A9 c9 [] false ∧ Ch No w w8 ∧ Cls w8 A (ints .u8 [1, 2, 255, 255, 255, 254, 9]) ∧ Cls w8 A8 (ints .u8 [9]) ∧ (∀ a, A8 = some a → a.block ≠ g)) := by
    refine Lib.hid ⟨r8, C5.rd0 g5 h8, L5.ch h8 (fun a ha => n5 a ha), L8, fun a ha => ?_⟩
    obtain ⟨a0, h0, h1⟩ := b8 a ha
    rw [h1]
    exact r5n a0 h0
  clear r5 C5 L5 n5 g5 q6 L8 b8 r8 h8 HP7 r5n
  go_wp2_with fail
  refine (Bad_any w8 g A9 c9 [] false HP8.out.1).mono ?_
  rintro e w9 ⟨rfl, rfl⟩
  go_wp2_with fail
  refine (Left_any w8 g A9 c9 [] false HP8.out.1).mono ?_
  rintro e w9 ⟨rfl, rfl⟩
  go_wp2_with fail
  obtain ⟨r5, C5, L5, L6, n6⟩ := HP8.out
  obtain ⟨n5, g5⟩ := HN.out
  have q6 := Get_any w8 g A9 c9 [] false r5 (by simp) 1
  unfold GetP at q6
  rw [show getN (tkO [] false (heldB 1)) = 0 from by decide, show tkR [] false (heldB 1) = [] from by decide, show tkB [] false (heldB 1) = true from by decide] at q6
  refine q6.mono ?_
  rintro e w9 ⟨A10, c10, rfl, r9, _, h9⟩
  have L7 := L5.ch h9 (fun a ha => n5 a ha)
  have L8 := L6.ch h9 (fun a ha => n6 a ha)
  have s1 := conv_bytes w9 A c [1, 2, 255, 255, 255, 254, 9] L7
  have s2 := conv_bytes w9 A8 c8 [9] L8
  simp only [List.length_cons, List.length_nil, Nat.zero_add, Nat.reduceAdd] at s1 s2
  have t1 : (strOfNums [1, 2, 255, 255, 255, 254, 9]).toList = [1, 2, 255, 255, 255, 254, 9] := by rw [ByteArray.toList_eq]; rfl
  have t2 : (strOfNums [9]).toList = [9] := by rw [ByteArray.toList_eq]; rfl
  have HP9 : Hid (Rdr w9 g A10 c10 [] true ∧ Ch No w w9) := Lib.hid ⟨r9, C5.rd0 g5 h9⟩
  clear r5 C5 L5 L6 n6 n5 g5 q6 r9 h9 L7 L8 HP8 HN
  go_wp2_with fail
  refine (Bad_any w9 g A10 c10 [] true HP9.out.1).mono ?_
  rintro e w10 ⟨rfl, rfl⟩
  go_wp2_with fail
  go_ret
  exact ⟨rfl, HP9.out.2⟩
end Go.Proofs.Ytoaekfocfdcgiaa
