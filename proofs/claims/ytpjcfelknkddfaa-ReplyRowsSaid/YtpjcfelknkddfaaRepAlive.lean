/- The example of the replies' chapter holds; the functions' contracts in one form each. -/
import Derived.Test.YtpjcfelknkddfaaRepRowsL
import Derived.Test.YtpjcfelknkddfaaRepRRead
import Derived.Deep.Cut
namespace Go.Proofs.Ytpjcfelknkddfaa
open Go.RowKit

/-- bytes and an error have been handed back -/
def WriteP (w : World) (xs : List Int) (er : Int) (e : Ending) (w' : World) : Prop :=
  ∃ A c, e = .returned (.tuple #[.slice A xs.length c, .int .i64 er]) ∧ OwnS w' w.heap.size 5 (.slice A xs.length c) (ints .u8 xs) ∧ Ch No w w'
theorem wOut_bad {code : Int} {ns : List Int} (h : wErr code ns.length ≠ 0) : wOut code ns = [] := by unfold wOut; rw [if_neg h]
theorem RepW_any (code : Int) (A : Option Addr) (c : Nat) (ns : List Int) (w : World) (hx : Cls w A (ints .i64 ns)) (hn : ns.length ≤ 100000000000000) :
    Calls Try.prog 8 #[.agg #[.int .i64 code, .slice A ns.length c]] w (WriteP w (wOut code ns) (wErr code ns.length)) := by
  by_cases h : wErr code ns.length = 0
  · obtain ⟨h1, h2⟩ := wErr_ok h
    refine (RepW_ok code A c ns w hx h1 h2).mono ?_
    rintro e w' ⟨A', c', rfl, o, hc⟩
    have e1 : wOut code ns = repB code ns := by unfold wOut; rw [if_pos h]
    exact ⟨A', c', by rw [e1, h], by rw [e1]; exact o, hc⟩
  · refine (RepW_bad code A ns.length c w hn h).mono ?_
    rintro e w' ⟨rfl, hc⟩
    exact ⟨none, 0, by rw [wOut_bad h]; rfl, by rw [wOut_bad h]; exact OwnS.nil _ _ _, hc⟩
theorem RRepW_any (code : Int) (A : Option Addr) (c : Nat) (ns : List Int) (w : World) (hx : Cls w A (ints .i64 ns)) (hn : ns.length ≤ 100000000000000) :
    Calls Try.prog 9 #[.agg #[.int .i64 code, .slice A ns.length c]] w (WriteP w (wOut code ns) (wErr code ns.length)) := by
  by_cases h : wErr code ns.length = 0
  · obtain ⟨h1, h2⟩ := wErr_ok h
    refine (RRepW_ok code A c ns w hx h1 h2).mono ?_
    rintro e w' ⟨A', c', rfl, o, hc⟩
    have e1 : wOut code ns = repB code ns := by unfold wOut; rw [if_pos h]
    exact ⟨A', c', by rw [e1, h], by rw [e1]; exact o, hc⟩
  · refine (RRepW_bad code A ns.length c w hn h).mono ?_
    rintro e w' ⟨rfl, hc⟩
    exact ⟨none, 0, by rw [wOut_bad h]; rfl, by rw [wOut_bad h]; exact OwnS.nil _ _ _, hc⟩
theorem RepSame_any (c1 : Int) (A1 : Option Addr) (k1 : Nat) (xs : List Int) (c2 : Int) (A2 : Option Addr) (k2 : Nat) (ys : List Int) (w : World) (h1 : Cls w A1 (ints .i64 xs)) (h2 : Cls w A2 (ints .i64 ys)) (hl : xs.length ≤ 100000000) :
    Calls Try.prog 14 #[.agg #[.int .i64 c1, .slice A1 xs.length k1], .agg #[.int .i64 c2, .slice A2 ys.length k2]] w fun e w' => e = .returned (.bool (decide (c1 = c2 ∧ xs = ys))) ∧ Ch No w w' := by
  have C2 : Ch No w ((w.alloc (.cells #[.int .i64 c1, .slice A1 xs.length k1] 24)).alloc (.cells #[.int .i64 c2, .slice A2 ys.length k2] 24)) := ((Ch.refl No w).alloc _).alloc _
  have q := EqualL_any _ A1 k1 xs A2 k2 ys (h1.ch C2 (fun _ _ h => h)) (h2.ch C2 (fun _ _ h => h)) (by omega)
  by_cases h : c1 = c2
  · subst h
    have e1 : decide (c1 = c1 ∧ xs = ys) = decide (xs = ys) := by simp
    rw [e1]
    have HQ := Lib.hid (And.intro q C2)
    generalize decide (xs = ys) = d at *
    clear q h1 h2 C2 e1
    go_enter Try.func14, Try.ntmps14
    go_wp2_with fail
    refine HQ.out.1.mono ?_
    rintro e w3 ⟨rfl, h3⟩
    have H3 := Lib.hid (HQ.out.2.trans h3)
    clear h3
    go_wp2_with fail
    go_ret
    exact ⟨rfl, H3.out⟩
  · have hb : (c1 == c2) = false := by simpa using h
    have e1 : decide (c1 = c2 ∧ xs = ys) = false := decide_eq_false (fun k => h k.1)
    rw [e1]
    have HQ := Lib.hid C2
    clear q h1 h2 C2 e1 h
    go_enter Try.func14, Try.ntmps14
    go_wp2_with fail
    go_ret
    exact ⟨rfl, HQ.out⟩
theorem RRepSame_any (c1 : Int) (A1 : Option Addr) (k1 : Nat) (xs : List Int) (c2 : Int) (A2 : Option Addr) (k2 : Nat) (ys : List Int) (w : World) (h1 : Cls w A1 (ints .i64 xs)) (h2 : Cls w A2 (ints .i64 ys)) (hl : xs.length ≤ 100000000) :
    Calls Try.prog 13 #[.agg #[.int .i64 c1, .slice A1 xs.length k1], .agg #[.int .i64 c2, .slice A2 ys.length k2]] w fun e w' => e = .returned (.bool (decide (c1 = c2 ∧ xs = ys))) ∧ Ch No w w' := by
  have C2 : Ch No w ((w.alloc (.cells #[.int .i64 c1, .slice A1 xs.length k1] 32)).alloc (.cells #[.int .i64 c2, .slice A2 ys.length k2] 32)) := ((Ch.refl No w).alloc _).alloc _
  have q := SameL_any _ A1 k1 xs A2 k2 ys (h1.ch C2 (fun _ _ h => h)) (h2.ch C2 (fun _ _ h => h)) (by omega)
  by_cases h : c1 = c2
  · subst h
    have e1 : decide (c1 = c1 ∧ xs = ys) = decide (xs = ys) := by simp
    rw [e1]
    have HQ := Lib.hid (And.intro q C2)
    generalize decide (xs = ys) = d at *
    clear q h1 h2 C2 e1
    go_enter Try.func13, Try.ntmps13
    go_wp2_with fail
    refine HQ.out.1.mono ?_
    rintro e w3 ⟨rfl, h3⟩
    have H3 := Lib.hid (HQ.out.2.trans h3)
    clear h3
    go_wp2_with fail
    go_ret
    exact ⟨rfl, H3.out⟩
  · have hb : (c1 == c2) = false := by simpa using h
    have e1 : decide (c1 = c2 ∧ xs = ys) = false := decide_eq_false (fun k => h k.1)
    rw [e1]
    have HQ := Lib.hid C2
    clear q h1 h2 C2 e1 h
    go_enter Try.func13, Try.ntmps13
    go_wp2_with fail
    go_ret
    exact ⟨rfl, HQ.out⟩
theorem Fail_any (n : Int) (w : World) : Calls Try.prog 17 #[.int .i64 n] w fun e w' => e = .returned (.agg #[.int .i64 n, .slice none 0 0]) ∧ Ch No w w' := by
  go_enter Try.func17, Try.ntmps17
  go_wp2_with fail
  exact bodyPost_ret (v := .agg #[.int .i64 n, .slice none 0 0]) (by simp [results, Try.results17, go_sem]) rfl ⟨rfl, by ((repeat' (refine And.intro ?_ ?_)) <;> (first | assumption | (simp [*]; done) | ((repeat (first | assumption | exact Ch.refl _ _ | apply Ch.drew | apply Ch.alloc | (refine Ch.trans ?_ (by assumption)))); done) | ((repeat (first | assumption | (simp [*]; done) | apply cell_al | (refine Ch.cell (by assumption) ?_ (fun h => h)))); done)))⟩

set_option maxHeartbeats 8000000 in
set_option maxRecDepth 100000 in
theorem repAlive_any (w : World) : Calls Try.prog 7 #[] w fun e w' => e = .returned (.bool true) ∧ Ch No w w' := by
  go_enter Try.func7, Try.ntmps7
  go_wp2_with fail
  refine (Fail_any 36 _).mono ?_
  rintro e w1 ⟨rfl, h1⟩
  have H1 := Lib.hid h1
  clear h1
  go_wp2_with fail
  refine (RepW_any 36 none 0 [] w1 (Cls.nil _ _) (by simp)).mono ?_
  rintro e w2 ⟨A2, c2, rfl, o2, h2⟩
  rw [show wOut 36 [] = [36, 0] from by decide] at o2
  have hs2 := conv_bytes w2 A2 c2 [36, 0] o2.cls.1
  have t2 : (strOfNums [36, 0]).toList = [36, 0] := by rw [ByteArray.toList_eq]; rfl
  simp only [List.length_cons, List.length_nil, Nat.zero_add, Nat.reduceAdd] at hs2
  rw [show (wOut 36 []).length = 2 from by decide, show wErr 36 ([] : List Int).length = 0 from by decide]
  have H2 := Lib.hid (H1.out.trans h2)
  clear h2 o2 H1
  go_wp2_with fail
  clear hs2 t2
  have q := RepW_any 0 (some ⟨w2.heap.size, 0, none⟩) 3 [-1, 2, 3] (w2.alloc (.cells #[.int .i64 (-1), .int .i64 2, .int .i64 3] 2)) (Cls.lit w2 2 [.int .i64 (-1), .int .i64 2, .int .i64 3]) (by simp)
  refine q.mono ?_
  clear q
  rintro e w3 ⟨A3, c3, rfl, o3, h3⟩
  have hw3 : wOut 0 [-1, 2, 3] = [0, 3, 255, 255, 255, 255, 255, 255, 255, 255, 0, 0, 0, 0, 0, 0, 0, 2, 0, 0, 0, 0, 0, 0, 0, 3] := by decide
  have he3 : wErr 0 ([-1, 2, 3] : List Int).length = 0 := by decide
  rw [he3]
  obtain ⟨L, hL⟩ : ∃ L, wOut 0 [-1, 2, 3] = L := ⟨_, rfl⟩
  rw [hL] at o3 hw3 ⊢
  have l26 : L.length = 26 := by rw [hw3]; rfl
  have HL : Hid ((∀ x ∈ L, isB x) ∧ rErr L = 0 ∧ rCode L = 0 ∧ rNums L = [-1, 2, 3] ∧ rErr (L.take 9) = 20 ∧ (L.take 9).length = 9) := Lib.hid (by
    rw [hw3]
    refine ⟨by unfold isB; decide, by decide, by decide, by decide, by decide, by decide⟩)
  rw [l26] at o3 ⊢
  obtain ⟨cl3, lc3, hx26⟩ := o3.cls
  clear hx26
  rw [ints_length, l26] at lc3
  have H3 := Lib.hid (And.intro ((H2.out.alloc (.cells #[.int .i64 (-1), .int .i64 2, .int .i64 3] 2)).trans h3) cl3)
  have HLEN := Lib.hid l26
  clear h3 o3 H2 he3 hw3 hL l26 cl3
  go_wp2_with fail
  have q := RepR_any w3 A3 c3 L H3.out.2 HL.out.1 (by rw [HLEN.out]; omega)
  unfold ReadP at q
  rw [HLEN.out, HL.out.2.1, HL.out.2.2.1, HL.out.2.2.2.1] at q
  try rw [HLEN.out]
  refine q.mono ?_
  clear q
  rintro e w4 ⟨A4, c4, rfl, cl4, lc4, h4⟩
  have q := RepR_any (w4.alloc (.cells #[.int .i64 0, .slice A4 3 c4] 24)) A3 c3 (L.take 9) (by
    have := ((H3.out.2.ch h4 (fun _ _ h => h)).ch ((Ch.refl No w4).alloc (.cells #[.int .i64 0, .slice A4 3 c4] 24)) (fun _ _ h => h)).takeI 9
    rw [ints_take]; exact this) (fun x hx => HL.out.1 x (List.mem_of_mem_take hx)) (by rw [HL.out.2.2.2.2.2]; omega)
  unfold ReadP at q
  have hc9 : rCode (L.take 9) = 0 := by unfold rCode; rw [if_neg (by rw [HL.out.2.2.2.2.1]; decide)]
  have hn9 : rNums (L.take 9) = [] := by unfold rNums; rw [if_neg (by rw [HL.out.2.2.2.2.1]; decide)]
  rw [HL.out.2.2.2.2.2, HL.out.2.2.2.2.1, hc9, hn9] at q
  have H4 : Hid (Ch No w (w4.alloc (.cells #[.int .i64 0, .slice A4 3 c4] 24)) ∧ Blk (w4.alloc (.cells #[.int .i64 0, .slice A4 3 c4] 24)) w4.heap.size 24 [.int .i64 0, .slice A4 3 c4] ∧ Cls (w4.alloc (.cells #[.int .i64 0, .slice A4 3 c4] 24)) A4 (ints .i64 [-1, 2, 3])) := Lib.hid ⟨(H3.out.1.trans h4).alloc _, Blk.new w4 _ [.int .i64 0, .slice A4 3 c4], cl4.ch ((Ch.refl No w4).alloc _) (fun _ _ h => h)⟩
  have HQ := Lib.hid q
  have hlc4 : 3 ≤ c4 := by simpa using lc4
  clear q h4 cl4 H3 hc9 hn9 lc4
  simp only [List.length_cons, List.length_nil, Nat.zero_add, Nat.reduceAdd]
  go_wp2_with fail
  refine HQ.out.mono ?_
  rintro e w5 ⟨A5, c5, rfl, _, _, h5⟩
  have H5 : Hid (Ch No w (w5.alloc (.cells #[.int .i64 0, .slice A5 0 c5] 24)) ∧ Blk (w5.alloc (.cells #[.int .i64 0, .slice A5 0 c5] 24)) w4.heap.size 24 [.int .i64 0, .slice A4 3 c4] ∧ Cls (w5.alloc (.cells #[.int .i64 0, .slice A5 0 c5] 24)) A4 (ints .i64 [-1, 2, 3])) := Lib.hid ⟨(H4.out.1.trans h5).alloc _, (H4.out.2.1.ch h5 (fun h => h)).alloc _, (H4.out.2.2.ch h5 (fun _ _ h => h)).ch ((Ch.refl No w5).alloc _) (fun _ _ h => h)⟩
  clear h5 H4 HQ
  simp only [List.length_nil]
  go_wp2_with fail
  have hs6 : (w5.alloc (.cells #[.int .i64 0, .slice A5 0 c5] 24)).heap.size = w5.heap.size + 1 := by simp
  generalize w5.alloc (.cells #[.int .i64 0, .slice A5 0 c5] 24) = w6 at *
  have q := RepR_any (w6.alloc (.cells #[.int .u8 0, .int .u8 121] 5)) (some ⟨w6.heap.size, 0, none⟩) 2 [0, 121] (Cls.lit w6 5 [.int .u8 0, .int .u8 121]) (by unfold isB; decide) (by simp)
  unfold ReadP at q
  rw [show rErr [0, 121] = 3 from by decide, show rCode [0, 121] = 0 from by decide, show rNums [0, 121] = [] from by decide, hs6] at q
  clear hs6
  refine q.mono ?_
  clear q
  rintro e w7 ⟨A7, c7, rfl, _, _, h7⟩
  have H7 : Hid (Ch No w (w7.alloc (.cells #[.int .i64 0, .slice A7 0 c7] 24)) ∧ Blk (w7.alloc (.cells #[.int .i64 0, .slice A7 0 c7] 24)) w4.heap.size 24 [.int .i64 0, .slice A4 3 c4] ∧ Cls (w7.alloc (.cells #[.int .i64 0, .slice A7 0 c7] 24)) A4 (ints .i64 [-1, 2, 3])) := by
    have hc := ((Ch.refl No w6).alloc (.cells #[.int .u8 0, .int .u8 121] 5)).trans h7
    exact Lib.hid ⟨(H5.out.1.trans hc).alloc _, (H5.out.2.1.ch hc (fun h => h)).alloc _, (H5.out.2.2.ch hc (fun _ _ h => h)).ch ((Ch.refl No w7).alloc _) (fun _ _ h => h)⟩
  clear h7 H5
  simp only [List.length_nil]
  have k0 := H7.out.2.1.cell 0
  have k1 := H7.out.2.1.cell 1
  obtain ⟨blk, off, hA, hc0⟩ := H7.out.2.2.get 0 (by simp)
  subst hA
  simp only [List.getElem?_cons_zero, List.getElem?_cons_succ, List.getElem_cons_zero, Nat.add_zero] at k0 k1 hc0
  go_upto_region 8 with fail
  generalize w7.alloc (.cells #[.int .i64 0, .slice A7 0 c7] 24) = w8 at *
  go_wp2_with fail
  refine (RepSame_any 0 _ c4 [-1, 2, 3] 0 _ c4 [-1, 2, 3] w8 H7.out.2.2 H7.out.2.2 (by simp)).mono ?_
  rintro e w9 ⟨rfl, h9⟩
  have H9 := Lib.hid (And.intro (H7.out.1.trans h9) (And.intro (H7.out.2.1.ch h9 (fun h => h)) (H7.out.2.2.ch h9 (fun _ _ h => h))))
  clear h9 H7 k0 k1 hc0
  have k0 := H9.out.2.1.cell 0
  have k1 := H9.out.2.1.cell 1
  simp only [List.getElem?_cons_zero, List.getElem?_cons_succ] at k0 k1
  simp only [true_and, decide_true]
  go_wp2_with fail
  refine (RepSame_any 0 _ c4 [-1, 2, 3] 0 none 0 [] w9 H9.out.2.2 (Cls.nil _ _) (by simp)).mono ?_
  rintro e w10 ⟨rfl, h10⟩
  have H10 := Lib.hid (And.intro (H9.out.1.trans h10) (And.intro (H9.out.2.1.ch h10 (fun h => h)) (H9.out.2.2.ch h10 (fun _ _ h => h))))
  clear h10 H9 k0 k1
  have k0 := H10.out.2.1.cell 0
  have k1 := H10.out.2.1.cell 1
  simp only [List.getElem?_cons_zero, List.getElem?_cons_succ] at k0 k1
  rw [show decide ((0 : Int) = 0 ∧ ([-1, 2, 3] : List Int) = []) = false from by decide]
  go_wp2_with fail
  refine (rowsL_any w10 0 _ c4 [-1, 2, 3] 2 2 H10.out.2.2 (by omega) (by decide) (by omega) (by simpa using hlc4) (by simp) 9).mono ?_
  rintro e w11 ⟨v, ps, rfl, hp, o11, _, h11⟩
  have hl : (ps.map Lng.enc).length = 2 := by
    have := congrArg List.length hp
    rw [show ((chks 2 [-1, 2, 3]).take (9 : Int).toNat).length = 2 from by decide] at this
    simpa using this
  obtain ⟨A11, c11, rfl, _, _⟩ := o11.slice
  rw [hl]
  have H11 := Lib.hid (H10.out.1.trans h11)
  clear h11 o11 hp hl H10 k0 k1
  go_wp2_with fail
  go_ret
  exact ⟨rfl, H11.out⟩
end Go.Proofs.Ytpjcfelknkddfaa
