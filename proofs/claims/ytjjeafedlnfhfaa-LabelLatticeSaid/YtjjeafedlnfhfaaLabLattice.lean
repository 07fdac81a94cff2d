/- LabelLattice: labels are a lattice: the walk. -/
import Derived.Test.YtjjeafedlnfhfaaLabBits
import Derived.Test.YtjjeafedlnfhfaaTill
import Derived.Deep.Cut
namespace Go.Proofs.Ytjjeafedlnfhfaa
open Go.RowKit

theorem dom_self (l c : Nat) : domB l c l c = true := by simp [domB]
theorem dom_iff (l c m k : Nat) : domB l c m k = true ↔ m ≤ l ∧ ∀ i, k.testBit i = true → c.testBit i = true := by
  unfold domB
  simp only [Bool.and_eq_true, decide_eq_true_eq]
  refine and_congr Iff.rfl ⟨fun h i hi => ?_, fun h => ?_⟩
  · rw [← h, Nat.testBit_or, hi, Bool.or_true]
  · apply Nat.eq_of_testBit_eq; intro i
    rw [Nat.testBit_or]
    cases hk : k.testBit i
    · simp
    · simp [h i hk]
theorem dom_trans (l c m k n q : Nat) : domB l c m k = true → domB m k n q = true → domB l c n q = true := by
  simp only [dom_iff]
  exact fun ⟨h1, h2⟩ ⟨h3, h4⟩ => ⟨Nat.le_trans h3 h1, fun i hi => h2 i (h4 i hi)⟩
theorem dom_anti (l c m k : Nat) : (domB l c m k && domB m k l c) = (((l : Nat) : Int) == (m : Int) && ((c : Nat) : Int) == (k : Int)) := by
  rw [Bool.eq_iff_iff]
  simp only [Bool.and_eq_true, dom_iff, beq_iff_eq, Int.natCast_inj]
  constructor
  · rintro ⟨⟨h1, h2⟩, h3, h4⟩
    exact ⟨Nat.le_antisymm h3 h1, Nat.eq_of_testBit_eq fun i => by rw [Bool.eq_iff_iff]; exact ⟨h4 i, h2 i⟩⟩
  · rintro ⟨rfl, rfl⟩
    exact ⟨⟨Nat.le_refl _, fun _ h => h⟩, Nat.le_refl _, fun _ h => h⟩
theorem dom_join (l c m k n q : Nat) : domB n q (mxN l m) (orN c k) = (domB n q l c && domB n q m k) := by
  rw [Bool.eq_iff_iff]
  simp only [Bool.and_eq_true, dom_iff, mxN, orN, Nat.testBit_or, Bool.or_eq_true]
  constructor
  · rintro ⟨h1, h2⟩
    exact ⟨⟨by omega, fun i h => h2 i (.inl h)⟩, by omega, fun i h => h2 i (.inr h)⟩
  · rintro ⟨⟨h1, h2⟩, h3, h4⟩
    exact ⟨by omega, fun i h => h.elim (h2 i) (h4 i)⟩
theorem dom_meet2 (l c m k n q : Nat) : domB (mnN l m) (anN c k) n q = (domB l c n q && domB m k n q) := by
  rw [Bool.eq_iff_iff]
  simp only [Bool.and_eq_true, dom_iff, mnN, anN, Nat.testBit_and]
  constructor
  · rintro ⟨h1, h2⟩
    exact ⟨⟨by omega, fun i h => (h2 i h).1⟩, by omega, fun i h => (h2 i h).2⟩
  · rintro ⟨⟨h1, h2⟩, h3, h4⟩
    exact ⟨by omega, fun i h => ⟨h2 i h, h4 i h⟩⟩
theorem or_an (c k : Nat) : orN c (anN c k) = c := by
  unfold orN anN
  apply Nat.eq_of_testBit_eq; intro i
  simp only [Nat.testBit_or, Nat.testBit_and]
  cases c.testBit i <;> simp
theorem an_or' (c k : Nat) : anN c (orN c k) = c := by
  unfold orN anN
  apply Nat.eq_of_testBit_eq; intro i
  simp only [Nat.testBit_or, Nat.testBit_and]
  cases c.testBit i <;> simp
theorem mx_mn (l m : Nat) : mxN l (mnN l m) = l := by unfold mxN mnN; omega
theorem mn_mx' (l m : Nat) : mnN l (mxN l m) = l := by unfold mxN mnN; omega
/-- what dominates and is another one is of a greater number -/
theorem dom_less {l c m k : Nat} (hk : k < 65536) (h : domB l c m k = true) (hne : (((l : Nat) : Int) == (m : Int) && ((c : Nat) : Int) == (k : Int)) = false) : decide (labN m k < labN l c) = true := by
  unfold domB at h
  simp only [Bool.and_eq_true, decide_eq_true_eq] at h
  have h2 : k ≤ c := by rw [← h.2]; exact Nat.right_le_or
  have h3 : ¬ (l = m ∧ c = k) := by
    rintro ⟨rfl, rfl⟩
    simp at hne
  unfold labN
  simp only [decide_eq_true_eq]
  omega

theorem in_at {w w' : World} {a : Addr} {v : Value} (h : ∀ p : In (Ch No w), p.w.cell? a = some v) (hc : Ch No w w') : ∀ p : In (Ch No w'), p.w.cell? a = some v := in_cell (h ⟨w', hc⟩)
/-- the cells of two labels, as long as nothing old has turned -/
def F4 (W w1 : World) (l c m k : Nat) (w' : World) : Prop := w'.cell? ⟨W.heap.size, 0, none⟩ = some (.int .u8 l) ∧ w'.cell? ⟨W.heap.size, 1, none⟩ = some (.int .u16 c) ∧ w'.cell? ⟨W.heap.size + 1, 0, none⟩ = some (.int .u8 m) ∧ w'.cell? ⟨W.heap.size + 1, 1, none⟩ = some (.int .u16 k) ∧ Ch No w1 w'
theorem four_ch {W w1 w w' : World} {l c m k : Nat} (h : F4 W w1 l c m k w) (hc : Ch No w w') : F4 W w1 l c m k w' :=
  ⟨hc.cell h.1 (fun h => h), hc.cell h.2.1 (fun h => h), hc.cell h.2.2.1 (fun h => h), hc.cell h.2.2.2.1 (fun h => h), h.2.2.2.2.trans hc⟩
theorem lat_end {W w1 w : World} {l c m k g h : Nat} {t : TypeId} {a0 a1 b0 b1 : Value} (hT : F4 W w1 l c m k w) (hg : Blk w g t [a0, a1]) (hh : Blk w h t [b0, b1]) (hne : ¬ g = h) (ng : w1.heap.size ≤ g) (nh : w1.heap.size ≤ h) (x0 x1 y0 y1 : Value) :
    Ch No w1 ((((w.setCell ⟨g, 0, none⟩ x0).setCell ⟨g, 1, none⟩ x1).setCell ⟨h, 0, none⟩ y0).setCell ⟨h, 1, none⟩ y1) ∧ ((((w.setCell ⟨g, 0, none⟩ x0).setCell ⟨g, 1, none⟩ x1).setCell ⟨h, 0, none⟩ y0).setCell ⟨h, 1, none⟩ y1).cell? ⟨g, 0, none⟩ = some x0 ∧ ((((w.setCell ⟨g, 0, none⟩ x0).setCell ⟨g, 1, none⟩ x1).setCell ⟨h, 0, none⟩ y0).setCell ⟨h, 1, none⟩ y1).cell? ⟨g, 1, none⟩ = some x1 ∧
      ((((w.setCell ⟨g, 0, none⟩ x0).setCell ⟨g, 1, none⟩ x1).setCell ⟨h, 0, none⟩ y0).setCell ⟨h, 1, none⟩ y1).cell? ⟨h, 0, none⟩ = some y0 ∧ ((((w.setCell ⟨g, 0, none⟩ x0).setCell ⟨g, 1, none⟩ x1).setCell ⟨h, 0, none⟩ y0).setCell ⟨h, 1, none⟩ y1).cell? ⟨h, 1, none⟩ = some y1 := by
  have p1 := ((((hg.set 0 x0).set 1 x1).set_other (p := ⟨h, 0, none⟩) hne y0).set_other (p := ⟨h, 1, none⟩) hne y1)
  have p2 := ((((hh.set_other (p := ⟨g, 0, none⟩) (fun e => hne e.symm) x0).set_other (p := ⟨g, 1, none⟩) (fun e => hne e.symm) x1).set 0 y0).set 1 y1)
  refine ⟨(((hT.2.2.2.2.setCell (fun h => by simp at h; omega) x0).setCell (fun h => by simp at h; omega) x1).setCell (fun h => by simp at h; omega) y0).setCell (fun h => by simp at h; omega) y1, ?_, ?_, ?_, ?_⟩
  · exact p1.cell 0
  · exact p1.cell 1
  · exact p2.cell 0
  · exact p2.cell 1

set_option maxHeartbeats 40000000 in
set_option maxRecDepth 100000 in
theorem labelLattice_core (W : World) (l c m k n q : Nat) (hl : l < 256) (hc : c < 65536) (hm : m < 256) (hk : k < 65536) (hq : q < 65536) :
    Calls Try.prog 9 #[.agg #[.int .u8 l, .int .u16 c], .agg #[.int .u8 m, .int .u16 k], .agg #[.int .u8 n, .int .u16 q]] W fun e w' => e = .returned (.bool true) ∧ Ch No W w' := by
  have he := eqlLab
  have o1 := orN_lt hc hk
  have a1 := anN_lt k hc
  have hD : ∀ (l c m k : Nat) (b : Bool), domB l c m k = b → c < 65536 → k < 65536 → ∀ w, Calls Try.prog 24 #[.agg #[.int .u8 l, .int .u16 c], .agg #[.int .u8 m, .int .u16 k]] w fun e w' => e = .returned (.bool b) ∧ Ch No w w' := fun l c m k b h hc hk w => by rw [← h]; exact LDominates_any _ _ _ _ w hc hk
  obtain ⟨x, hx⟩ : ∃ x, domB l c m k = x := ⟨_, rfl⟩
  obtain ⟨y, hy⟩ : ∃ x, domB m k n q = x := ⟨_, rfl⟩
  obtain ⟨z, hz⟩ : ∃ x, domB l c n q = x := ⟨_, rfl⟩
  obtain ⟨u, hu⟩ : ∃ x, domB m k l c = x := ⟨_, rfl⟩
  obtain ⟨v, hv⟩ : ∃ x, domB n q l c = x := ⟨_, rfl⟩
  obtain ⟨t, ht⟩ : ∃ x, domB n q m k = x := ⟨_, rfl⟩
  obtain ⟨s, hs⟩ : ∃ x, decide (labN m k < labN l c) = x := ⟨_, rfl⟩
  obtain ⟨r, hr⟩ : ∃ x, (((l : Nat) : Int) == (m : Int) && ((c : Nat) : Int) == (k : Int)) = x := ⟨_, rfl⟩
  have f1 : x = true → y = true → z = true := by rw [← hx, ← hy, ← hz]; exact dom_trans l c m k n q
  have f2 : (x && u) = r := by rw [← hx, ← hu, ← hr]; exact dom_anti l c m k
  have f3 : x = true → r = false → s = true := by rw [← hx, ← hr, ← hs]; exact dom_less hk
  have d0 := hD l c l c true (dom_self l c) hc hc
  have d1 := hD l c m k x hx hc hk
  have d2 := hD m k n q y hy hk hq
  have d3 := hD l c n q z hz hc hq
  have d4 := hD m k l c u hu hk hc
  have d5 := hD n q l c v hv hq hc
  have d6 := hD n q m k t ht hq hk
  have d7 := hD n q (mxN l m) (orN c k) (v && t) (by rw [dom_join, hv, ht]) hq o1
  have d8 := hD (mnN l m) (anN c k) n q (z && y) (by rw [dom_meet2, hz, hy]) a1 hq
  have q1 : (((mxN l (mnN l m) : Nat) : Int) == (l : Int) && ((orN c (anN c k) : Nat) : Int) == (c : Int)) = true := by rw [mx_mn, or_an]; simp
  have q2 : (((mnN l (mxN l m) : Nat) : Int) == (l : Int) && ((anN c (orN c k) : Nat) : Int) == (c : Int)) = true := by rw [mn_mx', an_or']; simp
  have hLs : ∀ w, Calls Try.prog 33 #[.agg #[.int .u8 m, .int .u16 k], .agg #[.int .u8 l, .int .u16 c]] w fun e w' => e = .returned (.bool s) ∧ Ch No w w' := fun w => by rw [← hs]; exact LLess_any _ _ _ _ w hm hk hl hc
  clear hx hy hz hu hv ht hs hD
  go_enter Try.func9, Try.ntmps9
  go_wp2_with fail
  refine (labAlive_any _).mono ?_
  rintro e w1 ⟨rfl, hw1⟩
  have C1 : Ch No W w1 := Ch.trans ((((Ch.refl No W).alloc _).alloc _).alloc _) hw1
  have g0 := in_cell (w := w1) (a := ⟨W.heap.size, 0, none⟩) (v := .int .u8 l) (hw1.cell (by (repeat (first | (simp; done) | assumption | (refine cell_nw ?_ ?_; focus (simp; done)) | apply cell_al))) (fun h => h))
  have g1 := in_cell (w := w1) (a := ⟨W.heap.size, 1, none⟩) (v := .int .u16 c) (hw1.cell (by (repeat (first | (simp; done) | assumption | (refine cell_nw ?_ ?_; focus (simp; done)) | apply cell_al))) (fun h => h))
  have g2 := in_cell (w := w1) (a := ⟨W.heap.size + 1, 0, none⟩) (v := .int .u8 m) (hw1.cell (by (repeat (first | (simp; done) | assumption | (refine cell_nw ?_ ?_; focus (simp; done)) | apply cell_al))) (fun h => h))
  have g3 := in_cell (w := w1) (a := ⟨W.heap.size + 1, 1, none⟩) (v := .int .u16 k) (hw1.cell (by (repeat (first | (simp; done) | assumption | (refine cell_nw ?_ ?_; focus (simp; done)) | apply cell_al))) (fun h => h))
  have g4 := in_cell (w := w1) (a := ⟨W.heap.size + 1 + 1, 0, none⟩) (v := .int .u8 n) (hw1.cell (by (repeat (first | (simp; done) | assumption | (refine cell_nw ?_ ?_; focus (simp; done)) | apply cell_al))) (fun h => h))
  have g5 := in_cell (w := w1) (a := ⟨W.heap.size + 1 + 1, 1, none⟩) (v := .int .u16 q) (hw1.cell (by (repeat (first | (simp; done) | assumption | (refine cell_nw ?_ ?_; focus (simp; done)) | apply cell_al))) (fun h => h))
  clear hw1
  go_wp2_with fail
  refine wp_mid (I := Nat × Nat) (fun a i => ((((((((a.put (some 12) (.agg #[.int .u8 l, .int .u16 c])).put (some 13) (.agg #[.int .u8 m, .int .u16 k])).put (some 14) (.agg #[.int .u8 (mxN l m : Nat), .int .u16 (orN c k : Nat)])).put (some 15) (.agg #[.int .u8 l, .int .u16 c])).put (some 16) (.agg #[.int .u8 m, .int .u16 k])).put (some 17) (.agg #[.int .u8 (mnN l m : Nat), .int .u16 (anN c k : Nat)])).put (some 8) (.pointer (some ⟨i.1, 0, none⟩))).put (some 9) (.pointer (some ⟨i.2, 0, none⟩))))
    (fun i w' => Ch No w1 w' ∧ w'.cell? ⟨i.1, 0, none⟩ = some (.int .u8 (mxN l m : Nat)) ∧ w'.cell? ⟨i.1, 1, none⟩ = some (.int .u16 (orN c k : Nat)) ∧ w'.cell? ⟨i.2, 0, none⟩ = some (.int .u8 (mnN l m : Nat)) ∧ w'.cell? ⟨i.2, 1, none⟩ = some (.int .u16 (anN c k : Nat))) ?_ ?_
  · have G0 : w1.cell? ⟨W.heap.size, 0, none⟩ = some (.int .u8 l) := g0 ⟨w1, Ch.refl _ _⟩
    have G1 : w1.cell? ⟨W.heap.size, 1, none⟩ = some (.int .u16 c) := g1 ⟨w1, Ch.refl _ _⟩
    have G2 : w1.cell? ⟨W.heap.size + 1, 0, none⟩ = some (.int .u8 m) := g2 ⟨w1, Ch.refl _ _⟩
    have G3 : w1.cell? ⟨W.heap.size + 1, 1, none⟩ = some (.int .u16 k) := g3 ⟨w1, Ch.refl _ _⟩
    have G4 : Ch No w1 w1 := Ch.refl _ _
    clear g0 g1 g2 g3 g4 g5 d0 d1 d2 d3 d4 d5 d6 d7 d8 q1 q2 hLs f1 f2 f3 C1
    have TT : Hid (F4 W w1 l c m k w1.drew) := Lib.hid ⟨G0, G1, G2, G3, G4.drew⟩
    refine region_till (T := F4 W w1 l c m k) (s := 8) (by kernel_rfl) (fun hT => ?_) TT.out
    clear G0 G1 G2 G3 G4
    -- ORDERS BEGIN
    refine wpTill_take [8] (i := 0) (v := ?v0) rfl (by kernel_rfl) (by kernel_rfl) (by kernel_rfl) (fun _ _ _ h => by cases h.1) _ _ _ _ (by kernel_rfl) (by kernel_rfl) (by kernel_rfl) (Or.inl ⟨by rfl, ?y0⟩) hT ?r0
    case y0 =>
      intro w' hw'
      obtain ⟨t0, t1, t2, t3, t4⟩ := hw'
      go_simp
      try with_reducible rfl
    case r0 =>
      simp only [Act.put]
      refine wpTill_take [8] (i := 1) (v := ?v1) rfl (by kernel_rfl) (by kernel_rfl) (by kernel_rfl) (fun _ _ _ h => by cases h.1) _ _ _ _ (by kernel_rfl) (by kernel_rfl) (by kernel_rfl) (Or.inl ⟨by rfl, ?y1⟩) hT ?r1
      case y1 =>
        intro w' hw'
        obtain ⟨t0, t1, t2, t3, t4⟩ := hw'
        go_simp
        try with_reducible rfl
      case r1 =>
        simp only [Act.put]
        refine wpTill_take [5, 8] (i := 3) (v := ?v3) rfl (by kernel_rfl) (by kernel_rfl) (by kernel_rfl) (fun _ _ _ h => by cases h.1) _ _ _ _ (by kernel_rfl) (by kernel_rfl) (by kernel_rfl) (Or.inl ⟨by rfl, ?y3⟩) hT ?r3
        case y3 =>
          intro w' hw'
          obtain ⟨t0, t1, t2, t3, t4⟩ := hw'
          go_simp
          try with_reducible rfl
        case r3 =>
          simp only [Act.put]
          refine wpTill_take [5, 8] (i := 4) (v := ?v4) rfl (by kernel_rfl) (by kernel_rfl) (by kernel_rfl) (fun _ _ _ h => by cases h.1) _ _ _ _ (by kernel_rfl) (by kernel_rfl) (by kernel_rfl) (Or.inl ⟨by rfl, ?y4⟩) hT ?r4
          case y4 =>
            intro w' hw'
            obtain ⟨t0, t1, t2, t3, t4⟩ := hw'
            go_simp
            try with_reducible rfl
          case r4 =>
            simp only [Act.put]
            refine wpTill_one (rs := [2, 6, 7]) (by kernel_rfl) (by simp) ?_
            intro i hi
            rcases (by simpa using hi : i = 2 ∨ i = 6 ∨ i = 7) with rfl | rfl | rfl
            · refine wpTill_step rfl (fun K hK => ?_)
              go_simp
              go_at_call 26
              refine (LJoin_any _ _ _ _ _ hc hk).mono ?_
              rintro e w21 ⟨rfl, h21⟩
              go_simp
              have T1 := Lib.hid (four_ch TT.out h21)
              clear h21
              refine hK.out _ _ (fun _ => T1.out) ?_
              clear hK K
              try simp only [Act.put]
              refine wpTill_one (rs := [5, 6, 7]) (by kernel_rfl) (by simp) ?_
              intro i hi
              rcases (by simpa using hi : i = 5 ∨ i = 6 ∨ i = 7) with rfl | rfl | rfl
              · refine wpTill_step rfl (fun K hK => ?_)
                go_simp
                go_at_call 28
                refine (LMeet_any _ _ _ _ _ hc hk).mono ?_
                rintro e w22 ⟨rfl, h22⟩
                go_simp
                have T2 := Lib.hid (four_ch T1.out h22)
                clear h22
                refine hK.out _ _ (fun _ => T2.out) ?_
                clear hK K
                try simp only [Act.put]
                refine wpTill_one (rs := [6, 7]) (by kernel_rfl) (by simp) ?_
                intro i hi
                rcases (by simpa using hi : i = 6 ∨ i = 7) with rfl | rfl
                · refine wpTill_step rfl (fun K hK => ?_)
                  go_simp
                  have T3 := Lib.hid (four_ch T2.out ((Ch.refl No w22).alloc (.cells #[.int .u8 0, .int .u16 0] 38)))
                  have B6_3 : Hid (Blk (w22.alloc (.cells #[.int .u8 0, .int .u16 0] 38)) (w22.heap.size) 38 [.int .u8 0, .int .u16 0]) := Lib.hid (by have := Blk.new w22 38 [.int .u8 0, .int .u16 0]; simpa using this)
                  have n6 : w1.heap.size ≤ w22.heap.size := by have := T2.out.2.2.2.2.size; first | omega | (simp at this ⊢; omega)
                  refine hK.out _ _ (fun _ => T3.out) ?_
                  clear hK K
                  try simp only [Act.put]
                  refine wpTill_one (rs := [7]) (by kernel_rfl) (by simp) ?_
                  intro i hi
                  obtain rfl : i = 7 := by simpa using hi
                  refine wpTill_step rfl (fun K hK => ?_)
                  go_simp
                  have T4 := Lib.hid (four_ch T3.out ((Ch.refl No (w22.alloc (.cells #[.int .u8 0, .int .u16 0] 38))).alloc (.cells #[.int .u8 0, .int .u16 0] 38)))
                  have B6_4 := Lib.hid (B6_3.out.alloc (.cells #[.int .u8 0, .int .u16 0] 38))
                  have B7_4 : Hid (Blk ((w22.alloc (.cells #[.int .u8 0, .int .u16 0] 38)).alloc (.cells #[.int .u8 0, .int .u16 0] 38)) (w22.heap.size + 1) 38 [.int .u8 0, .int .u16 0]) := Lib.hid (by have := Blk.new (w22.alloc (.cells #[.int .u8 0, .int .u16 0] 38)) 38 [.int .u8 0, .int .u16 0]; simpa using this)
                  have n7 : w1.heap.size ≤ w22.heap.size + 1 := by have := T3.out.2.2.2.2.size; first | omega | (simp at this ⊢; omega)
                  have hne : ¬ w22.heap.size = w22.heap.size + 1 := by have := B6_3.out.lt; first | omega | (simp at this ⊢; omega)
                  refine hK.out _ _ (fun _ => T4.out) ?_
                  clear hK K
                  try simp only [Act.put]
                  have hne1 : ¬ w22.heap.size = w22.heap.size + 1 := hne
                  have hne2 : ¬ w22.heap.size + 1 = w22.heap.size := fun h => hne h.symm
                  have HE := Lib.hid (lat_end T4.out B6_4.out B7_4.out hne n6 n7 (.int .u8 (mxN l m : Nat)) (.int .u16 (orN c k : Nat)) (.int .u8 (mnN l m : Nat)) (.int .u16 (anN c k : Nat)))
                  have HB6 := B6_4
                  have HB7 := B7_4
                  generalize ((w22.alloc (.cells #[.int .u8 0, .int .u16 0] 38)).alloc (.cells #[.int .u8 0, .int .u16 0] 38)) = wz at *
                  have z0 := HB6.out.cell 0
                  have z1 := HB6.out.cell 1
                  have z2 := HB6.out.frozen 0
                  have z3 := HB6.out.frozen 1
                  have z4 := HB7.out.cell 0
                  have z5 := HB7.out.cell 1
                  have z6 := HB7.out.frozen 0
                  have z7 := HB7.out.frozen 1
                  simp only [List.getElem?_cons_zero, List.getElem?_cons_succ] at z0 z1 z4 z5
                  refine wpTill_one (rs := [8]) (by kernel_rfl) (by simp) ?_
                  intro i hi
                  obtain rfl : i = 8 := by simpa using hi
                  refine wpTill_step rfl (fun K hK => ?_)
                  go_simp
                  refine hK.out _ _ (fun h => nomatch (show true = false from h)) ?_
                  clear hK K
                  try simp only [Act.put]
                  refine wpTill_one (rs := [9]) (by kernel_rfl) (by simp) ?_
                  intro i hi
                  obtain rfl : i = 9 := by simpa using hi
                  refine wpTill_step rfl (fun K hK => ?_)
                  go_simp
                  refine hK.out _ _ (fun h => nomatch (show true = false from h)) ?_
                  clear hK K
                  try simp only [Act.put]
                  refine wpTill_done (by kernel_rfl) ⟨rfl, ?_⟩ _
                  exact ⟨trivial, (w22.heap.size, w22.heap.size + 1), by kernel_rfl, HE.out⟩
                · refine wpTill_step rfl (fun K hK => ?_)
                  go_simp
                  have T5 := Lib.hid (four_ch T2.out ((Ch.refl No w22).alloc (.cells #[.int .u8 0, .int .u16 0] 38)))
                  have B7_5 : Hid (Blk (w22.alloc (.cells #[.int .u8 0, .int .u16 0] 38)) (w22.heap.size) 38 [.int .u8 0, .int .u16 0]) := Lib.hid (by have := Blk.new w22 38 [.int .u8 0, .int .u16 0]; simpa using this)
                  have n7 : w1.heap.size ≤ w22.heap.size := by have := T2.out.2.2.2.2.size; first | omega | (simp at this ⊢; omega)
                  refine hK.out _ _ (fun _ => T5.out) ?_
                  clear hK K
                  try simp only [Act.put]
                  refine wpTill_one (rs := [6]) (by kernel_rfl) (by simp) ?_
                  intro i hi
                  obtain rfl : i = 6 := by simpa using hi
                  refine wpTill_step rfl (fun K hK => ?_)
                  go_simp
                  have T6 := Lib.hid (four_ch T5.out ((Ch.refl No (w22.alloc (.cells #[.int .u8 0, .int .u16 0] 38))).alloc (.cells #[.int .u8 0, .int .u16 0] 38)))
                  have B7_6 := Lib.hid (B7_5.out.alloc (.cells #[.int .u8 0, .int .u16 0] 38))
                  have B6_6 : Hid (Blk ((w22.alloc (.cells #[.int .u8 0, .int .u16 0] 38)).alloc (.cells #[.int .u8 0, .int .u16 0] 38)) (w22.heap.size + 1) 38 [.int .u8 0, .int .u16 0]) := Lib.hid (by have := Blk.new (w22.alloc (.cells #[.int .u8 0, .int .u16 0] 38)) 38 [.int .u8 0, .int .u16 0]; simpa using this)
                  have n6 : w1.heap.size ≤ w22.heap.size + 1 := by have := T5.out.2.2.2.2.size; first | omega | (simp at this ⊢; omega)
                  have hne : ¬ w22.heap.size = w22.heap.size + 1 := by have := B7_5.out.lt; first | omega | (simp at this ⊢; omega)
                  refine hK.out _ _ (fun _ => T6.out) ?_
                  clear hK K
                  try simp only [Act.put]
                  replace hne := fun h => hne (Eq.symm h)
                  have hne1 : ¬ w22.heap.size + 1 = w22.heap.size := hne
                  have hne2 : ¬ w22.heap.size = w22.heap.size + 1 := fun h => hne h.symm
                  have HE := Lib.hid (lat_end T6.out B6_6.out B7_6.out hne n6 n7 (.int .u8 (mxN l m : Nat)) (.int .u16 (orN c k : Nat)) (.int .u8 (mnN l m : Nat)) (.int .u16 (anN c k : Nat)))
                  have HB6 := B6_6
                  have HB7 := B7_6
                  generalize ((w22.alloc (.cells #[.int .u8 0, .int .u16 0] 38)).alloc (.cells #[.int .u8 0, .int .u16 0] 38)) = wz at *
                  have z0 := HB6.out.cell 0
                  have z1 := HB6.out.cell 1
                  have z2 := HB6.out.frozen 0
                  have z3 := HB6.out.frozen 1
                  have z4 := HB7.out.cell 0
                  have z5 := HB7.out.cell 1
                  have z6 := HB7.out.frozen 0
                  have z7 := HB7.out.frozen 1
                  simp only [List.getElem?_cons_zero, List.getElem?_cons_succ] at z0 z1 z4 z5
                  refine wpTill_one (rs := [8]) (by kernel_rfl) (by simp) ?_
                  intro i hi
                  obtain rfl : i = 8 := by simpa using hi
                  refine wpTill_step rfl (fun K hK => ?_)
                  go_simp
                  refine hK.out _ _ (fun h => nomatch (show true = false from h)) ?_
                  clear hK K
                  try simp only [Act.put]
                  refine wpTill_one (rs := [9]) (by kernel_rfl) (by simp) ?_
                  intro i hi
                  obtain rfl : i = 9 := by simpa using hi
                  refine wpTill_step rfl (fun K hK => ?_)
                  go_simp
                  refine hK.out _ _ (fun h => nomatch (show true = false from h)) ?_
                  clear hK K
                  try simp only [Act.put]
                  refine wpTill_done (by kernel_rfl) ⟨rfl, ?_⟩ _
                  exact ⟨trivial, (w22.heap.size + 1, w22.heap.size), by kernel_rfl, HE.out⟩
              · refine wpTill_step rfl (fun K hK => ?_)
                go_simp
                have T7 := Lib.hid (four_ch T1.out ((Ch.refl No w21).alloc (.cells #[.int .u8 0, .int .u16 0] 38)))
                have B6_7 : Hid (Blk (w21.alloc (.cells #[.int .u8 0, .int .u16 0] 38)) (w21.heap.size) 38 [.int .u8 0, .int .u16 0]) := Lib.hid (by have := Blk.new w21 38 [.int .u8 0, .int .u16 0]; simpa using this)
                have n6 : w1.heap.size ≤ w21.heap.size := by have := T1.out.2.2.2.2.size; first | omega | (simp at this ⊢; omega)
                refine hK.out _ _ (fun _ => T7.out) ?_
                clear hK K
                try simp only [Act.put]
                refine wpTill_one (rs := [5, 7]) (by kernel_rfl) (by simp) ?_
                intro i hi
                rcases (by simpa using hi : i = 5 ∨ i = 7) with rfl | rfl
                · refine wpTill_step rfl (fun K hK => ?_)
                  go_simp
                  go_at_call 28
                  refine (LMeet_any _ _ _ _ _ hc hk).mono ?_
                  rintro e w28 ⟨rfl, h28⟩
                  go_simp
                  have T8 := Lib.hid (four_ch T7.out h28)
                  have B6_8 := Lib.hid (B6_7.out.ch h28 (fun h => h))
                  clear h28
                  refine hK.out _ _ (fun _ => T8.out) ?_
                  clear hK K
                  try simp only [Act.put]
                  refine wpTill_one (rs := [7]) (by kernel_rfl) (by simp) ?_
                  intro i hi
                  obtain rfl : i = 7 := by simpa using hi
                  refine wpTill_step rfl (fun K hK => ?_)
                  go_simp
                  have T9 := Lib.hid (four_ch T8.out ((Ch.refl No w28).alloc (.cells #[.int .u8 0, .int .u16 0] 38)))
                  have B6_9 := Lib.hid (B6_8.out.alloc (.cells #[.int .u8 0, .int .u16 0] 38))
                  have B7_9 : Hid (Blk (w28.alloc (.cells #[.int .u8 0, .int .u16 0] 38)) (w28.heap.size) 38 [.int .u8 0, .int .u16 0]) := Lib.hid (by have := Blk.new w28 38 [.int .u8 0, .int .u16 0]; simpa using this)
                  have n7 : w1.heap.size ≤ w28.heap.size := by have := T8.out.2.2.2.2.size; first | omega | (simp at this ⊢; omega)
                  have hne : ¬ w21.heap.size = w28.heap.size := by have := B6_8.out.lt; first | omega | (simp at this ⊢; omega)
                  refine hK.out _ _ (fun _ => T9.out) ?_
                  clear hK K
                  try simp only [Act.put]
                  have hne1 : ¬ w21.heap.size = w28.heap.size := hne
                  have hne2 : ¬ w28.heap.size = w21.heap.size := fun h => hne h.symm
                  have HE := Lib.hid (lat_end T9.out B6_9.out B7_9.out hne n6 n7 (.int .u8 (mxN l m : Nat)) (.int .u16 (orN c k : Nat)) (.int .u8 (mnN l m : Nat)) (.int .u16 (anN c k : Nat)))
                  have HB6 := B6_9
                  have HB7 := B7_9
                  generalize (w28.alloc (.cells #[.int .u8 0, .int .u16 0] 38)) = wz at *
                  have z0 := HB6.out.cell 0
                  have z1 := HB6.out.cell 1
                  have z2 := HB6.out.frozen 0
                  have z3 := HB6.out.frozen 1
                  have z4 := HB7.out.cell 0
                  have z5 := HB7.out.cell 1
                  have z6 := HB7.out.frozen 0
                  have z7 := HB7.out.frozen 1
                  simp only [List.getElem?_cons_zero, List.getElem?_cons_succ] at z0 z1 z4 z5
                  refine wpTill_one (rs := [8]) (by kernel_rfl) (by simp) ?_
                  intro i hi
                  obtain rfl : i = 8 := by simpa using hi
                  refine wpTill_step rfl (fun K hK => ?_)
                  go_simp
                  refine hK.out _ _ (fun h => nomatch (show true = false from h)) ?_
                  clear hK K
                  try simp only [Act.put]
                  refine wpTill_one (rs := [9]) (by kernel_rfl) (by simp) ?_
                  intro i hi
                  obtain rfl : i = 9 := by simpa using hi
                  refine wpTill_step rfl (fun K hK => ?_)
                  go_simp
                  refine hK.out _ _ (fun h => nomatch (show true = false from h)) ?_
                  clear hK K
                  try simp only [Act.put]
                  refine wpTill_done (by kernel_rfl) ⟨rfl, ?_⟩ _
                  exact ⟨trivial, (w21.heap.size, w28.heap.size), by kernel_rfl, HE.out⟩
                · refine wpTill_step rfl (fun K hK => ?_)
                  go_simp
                  have T10 := Lib.hid (four_ch T7.out ((Ch.refl No (w21.alloc (.cells #[.int .u8 0, .int .u16 0] 38))).alloc (.cells #[.int .u8 0, .int .u16 0] 38)))
                  have B6_10 := Lib.hid (B6_7.out.alloc (.cells #[.int .u8 0, .int .u16 0] 38))
                  have B7_10 : Hid (Blk ((w21.alloc (.cells #[.int .u8 0, .int .u16 0] 38)).alloc (.cells #[.int .u8 0, .int .u16 0] 38)) (w21.heap.size + 1) 38 [.int .u8 0, .int .u16 0]) := Lib.hid (by have := Blk.new (w21.alloc (.cells #[.int .u8 0, .int .u16 0] 38)) 38 [.int .u8 0, .int .u16 0]; simpa using this)
                  have n7 : w1.heap.size ≤ w21.heap.size + 1 := by have := T7.out.2.2.2.2.size; first | omega | (simp at this ⊢; omega)
                  have hne : ¬ w21.heap.size = w21.heap.size + 1 := by have := B6_7.out.lt; first | omega | (simp at this ⊢; omega)
                  refine hK.out _ _ (fun _ => T10.out) ?_
                  clear hK K
                  try simp only [Act.put]
                  refine wpTill_one (rs := [5]) (by kernel_rfl) (by simp) ?_
                  intro i hi
                  obtain rfl : i = 5 := by simpa using hi
                  refine wpTill_step rfl (fun K hK => ?_)
                  go_simp
                  go_at_call 28
                  refine (LMeet_any _ _ _ _ _ hc hk).mono ?_
                  rintro e w31 ⟨rfl, h31⟩
                  go_simp
                  have T11 := Lib.hid (four_ch T10.out h31)
                  have B6_11 := Lib.hid (B6_10.out.ch h31 (fun h => h))
                  have B7_11 := Lib.hid (B7_10.out.ch h31 (fun h => h))
                  clear h31
                  refine hK.out _ _ (fun _ => T11.out) ?_
                  clear hK K
                  try simp only [Act.put]
                  have hne1 : ¬ w21.heap.size = w21.heap.size + 1 := hne
                  have hne2 : ¬ w21.heap.size + 1 = w21.heap.size := fun h => hne h.symm
                  have HE := Lib.hid (lat_end T11.out B6_11.out B7_11.out hne n6 n7 (.int .u8 (mxN l m : Nat)) (.int .u16 (orN c k : Nat)) (.int .u8 (mnN l m : Nat)) (.int .u16 (anN c k : Nat)))
                  have HB6 := B6_11
                  have HB7 := B7_11
                  have z0 := HB6.out.cell 0
                  have z1 := HB6.out.cell 1
                  have z2 := HB6.out.frozen 0
                  have z3 := HB6.out.frozen 1
                  have z4 := HB7.out.cell 0
                  have z5 := HB7.out.cell 1
                  have z6 := HB7.out.frozen 0
                  have z7 := HB7.out.frozen 1
                  simp only [List.getElem?_cons_zero, List.getElem?_cons_succ] at z0 z1 z4 z5
                  refine wpTill_one (rs := [8]) (by kernel_rfl) (by simp) ?_
                  intro i hi
                  obtain rfl : i = 8 := by simpa using hi
                  refine wpTill_step rfl (fun K hK => ?_)
                  go_simp
                  refine hK.out _ _ (fun h => nomatch (show true = false from h)) ?_
                  clear hK K
                  try simp only [Act.put]
                  refine wpTill_one (rs := [9]) (by kernel_rfl) (by simp) ?_
                  intro i hi
                  obtain rfl : i = 9 := by simpa using hi
                  refine wpTill_step rfl (fun K hK => ?_)
                  go_simp
                  refine hK.out _ _ (fun h => nomatch (show true = false from h)) ?_
                  clear hK K
                  try simp only [Act.put]
                  refine wpTill_done (by kernel_rfl) ⟨rfl, ?_⟩ _
                  exact ⟨trivial, (w21.heap.size, w21.heap.size + 1), by kernel_rfl, HE.out⟩
              · refine wpTill_step rfl (fun K hK => ?_)
                go_simp
                have T12 := Lib.hid (four_ch T1.out ((Ch.refl No w21).alloc (.cells #[.int .u8 0, .int .u16 0] 38)))
                have B7_12 : Hid (Blk (w21.alloc (.cells #[.int .u8 0, .int .u16 0] 38)) (w21.heap.size) 38 [.int .u8 0, .int .u16 0]) := Lib.hid (by have := Blk.new w21 38 [.int .u8 0, .int .u16 0]; simpa using this)
                have n7 : w1.heap.size ≤ w21.heap.size := by have := T1.out.2.2.2.2.size; first | omega | (simp at this ⊢; omega)
                refine hK.out _ _ (fun _ => T12.out) ?_
                clear hK K
                try simp only [Act.put]
                refine wpTill_one (rs := [5, 6]) (by kernel_rfl) (by simp) ?_
                intro i hi
                rcases (by simpa using hi : i = 5 ∨ i = 6) with rfl | rfl
                · refine wpTill_step rfl (fun K hK => ?_)
                  go_simp
                  go_at_call 28
                  refine (LMeet_any _ _ _ _ _ hc hk).mono ?_
                  rintro e w33 ⟨rfl, h33⟩
                  go_simp
                  have T13 := Lib.hid (four_ch T12.out h33)
                  have B7_13 := Lib.hid (B7_12.out.ch h33 (fun h => h))
                  clear h33
                  refine hK.out _ _ (fun _ => T13.out) ?_
                  clear hK K
                  try simp only [Act.put]
                  refine wpTill_one (rs := [6]) (by kernel_rfl) (by simp) ?_
                  intro i hi
                  obtain rfl : i = 6 := by simpa using hi
                  refine wpTill_step rfl (fun K hK => ?_)
                  go_simp
                  have T14 := Lib.hid (four_ch T13.out ((Ch.refl No w33).alloc (.cells #[.int .u8 0, .int .u16 0] 38)))
                  have B7_14 := Lib.hid (B7_13.out.alloc (.cells #[.int .u8 0, .int .u16 0] 38))
                  have B6_14 : Hid (Blk (w33.alloc (.cells #[.int .u8 0, .int .u16 0] 38)) (w33.heap.size) 38 [.int .u8 0, .int .u16 0]) := Lib.hid (by have := Blk.new w33 38 [.int .u8 0, .int .u16 0]; simpa using this)
                  have n6 : w1.heap.size ≤ w33.heap.size := by have := T13.out.2.2.2.2.size; first | omega | (simp at this ⊢; omega)
                  have hne : ¬ w21.heap.size = w33.heap.size := by have := B7_13.out.lt; first | omega | (simp at this ⊢; omega)
                  refine hK.out _ _ (fun _ => T14.out) ?_
                  clear hK K
                  try simp only [Act.put]
                  replace hne := fun h => hne (Eq.symm h)
                  have hne1 : ¬ w33.heap.size = w21.heap.size := hne
                  have hne2 : ¬ w21.heap.size = w33.heap.size := fun h => hne h.symm
                  have HE := Lib.hid (lat_end T14.out B6_14.out B7_14.out hne n6 n7 (.int .u8 (mxN l m : Nat)) (.int .u16 (orN c k : Nat)) (.int .u8 (mnN l m : Nat)) (.int .u16 (anN c k : Nat)))
                  have HB6 := B6_14
                  have HB7 := B7_14
                  generalize (w33.alloc (.cells #[.int .u8 0, .int .u16 0] 38)) = wz at *
                  have z0 := HB6.out.cell 0
                  have z1 := HB6.out.cell 1
                  have z2 := HB6.out.frozen 0
                  have z3 := HB6.out.frozen 1
                  have z4 := HB7.out.cell 0
                  have z5 := HB7.out.cell 1
                  have z6 := HB7.out.frozen 0
                  have z7 := HB7.out.frozen 1
                  simp only [List.getElem?_cons_zero, List.getElem?_cons_succ] at z0 z1 z4 z5
                  refine wpTill_one (rs := [8]) (by kernel_rfl) (by simp) ?_
                  intro i hi
                  obtain rfl : i = 8 := by simpa using hi
                  refine wpTill_step rfl (fun K hK => ?_)
                  go_simp
                  refine hK.out _ _ (fun h => nomatch (show true = false from h)) ?_
                  clear hK K
                  try simp only [Act.put]
                  refine wpTill_one (rs := [9]) (by kernel_rfl) (by simp) ?_
                  intro i hi
                  obtain rfl : i = 9 := by simpa using hi
                  refine wpTill_step rfl (fun K hK => ?_)
                  go_simp
                  refine hK.out _ _ (fun h => nomatch (show true = false from h)) ?_
                  clear hK K
                  try simp only [Act.put]
                  refine wpTill_done (by kernel_rfl) ⟨rfl, ?_⟩ _
                  exact ⟨trivial, (w33.heap.size, w21.heap.size), by kernel_rfl, HE.out⟩
                · refine wpTill_step rfl (fun K hK => ?_)
                  go_simp
                  have T15 := Lib.hid (four_ch T12.out ((Ch.refl No (w21.alloc (.cells #[.int .u8 0, .int .u16 0] 38))).alloc (.cells #[.int .u8 0, .int .u16 0] 38)))
                  have B7_15 := Lib.hid (B7_12.out.alloc (.cells #[.int .u8 0, .int .u16 0] 38))
                  have B6_15 : Hid (Blk ((w21.alloc (.cells #[.int .u8 0, .int .u16 0] 38)).alloc (.cells #[.int .u8 0, .int .u16 0] 38)) (w21.heap.size + 1) 38 [.int .u8 0, .int .u16 0]) := Lib.hid (by have := Blk.new (w21.alloc (.cells #[.int .u8 0, .int .u16 0] 38)) 38 [.int .u8 0, .int .u16 0]; simpa using this)
                  have n6 : w1.heap.size ≤ w21.heap.size + 1 := by have := T12.out.2.2.2.2.size; first | omega | (simp at this ⊢; omega)
                  have hne : ¬ w21.heap.size = w21.heap.size + 1 := by have := B7_12.out.lt; first | omega | (simp at this ⊢; omega)
                  refine hK.out _ _ (fun _ => T15.out) ?_
                  clear hK K
                  try simp only [Act.put]
                  refine wpTill_one (rs := [5]) (by kernel_rfl) (by simp) ?_
                  intro i hi
                  obtain rfl : i = 5 := by simpa using hi
                  refine wpTill_step rfl (fun K hK => ?_)
                  go_simp
                  go_at_call 28
                  refine (LMeet_any _ _ _ _ _ hc hk).mono ?_
                  rintro e w36 ⟨rfl, h36⟩
                  go_simp
                  have T16 := Lib.hid (four_ch T15.out h36)
                  have B6_16 := Lib.hid (B6_15.out.ch h36 (fun h => h))
                  have B7_16 := Lib.hid (B7_15.out.ch h36 (fun h => h))
                  clear h36
                  refine hK.out _ _ (fun _ => T16.out) ?_
                  clear hK K
                  try simp only [Act.put]
                  replace hne := fun h => hne (Eq.symm h)
                  have hne1 : ¬ w21.heap.size + 1 = w21.heap.size := hne
                  have hne2 : ¬ w21.heap.size = w21.heap.size + 1 := fun h => hne h.symm
                  have HE := Lib.hid (lat_end T16.out B6_16.out B7_16.out hne n6 n7 (.int .u8 (mxN l m : Nat)) (.int .u16 (orN c k : Nat)) (.int .u8 (mnN l m : Nat)) (.int .u16 (anN c k : Nat)))
                  have HB6 := B6_16
                  have HB7 := B7_16
                  have z0 := HB6.out.cell 0
                  have z1 := HB6.out.cell 1
                  have z2 := HB6.out.frozen 0
                  have z3 := HB6.out.frozen 1
                  have z4 := HB7.out.cell 0
                  have z5 := HB7.out.cell 1
                  have z6 := HB7.out.frozen 0
                  have z7 := HB7.out.frozen 1
                  simp only [List.getElem?_cons_zero, List.getElem?_cons_succ] at z0 z1 z4 z5
                  refine wpTill_one (rs := [8]) (by kernel_rfl) (by simp) ?_
                  intro i hi
                  obtain rfl : i = 8 := by simpa using hi
                  refine wpTill_step rfl (fun K hK => ?_)
                  go_simp
                  refine hK.out _ _ (fun h => nomatch (show true = false from h)) ?_
                  clear hK K
                  try simp only [Act.put]
                  refine wpTill_one (rs := [9]) (by kernel_rfl) (by simp) ?_
                  intro i hi
                  obtain rfl : i = 9 := by simpa using hi
                  refine wpTill_step rfl (fun K hK => ?_)
                  go_simp
                  refine hK.out _ _ (fun h => nomatch (show true = false from h)) ?_
                  clear hK K
                  try simp only [Act.put]
                  refine wpTill_done (by kernel_rfl) ⟨rfl, ?_⟩ _
                  exact ⟨trivial, (w21.heap.size + 1, w21.heap.size), by kernel_rfl, HE.out⟩
            · refine wpTill_step rfl (fun K hK => ?_)
              go_simp
              have T17 := Lib.hid (four_ch TT.out ((Ch.refl No w1.drew).alloc (.cells #[.int .u8 0, .int .u16 0] 38)))
              have B6_17 : Hid (Blk (w1.drew.alloc (.cells #[.int .u8 0, .int .u16 0] 38)) (w1.heap.size) 38 [.int .u8 0, .int .u16 0]) := Lib.hid (by have := Blk.new w1.drew 38 [.int .u8 0, .int .u16 0]; simpa using this)
              have n6 : w1.heap.size ≤ w1.heap.size := by have := TT.out.2.2.2.2.size; first | omega | (simp at this ⊢; omega)
              refine hK.out _ _ (fun _ => T17.out) ?_
              clear hK K
              try simp only [Act.put]
              refine wpTill_one (rs := [2, 7]) (by kernel_rfl) (by simp) ?_
              intro i hi
              rcases (by simpa using hi : i = 2 ∨ i = 7) with rfl | rfl
              · refine wpTill_step rfl (fun K hK => ?_)
                go_simp
                go_at_call 26
                refine (LJoin_any _ _ _ _ _ hc hk).mono ?_
                rintro e w38 ⟨rfl, h38⟩
                go_simp
                have T18 := Lib.hid (four_ch T17.out h38)
                have B6_18 := Lib.hid (B6_17.out.ch h38 (fun h => h))
                clear h38
                refine hK.out _ _ (fun _ => T18.out) ?_
                clear hK K
                try simp only [Act.put]
                refine wpTill_one (rs := [5, 7]) (by kernel_rfl) (by simp) ?_
                intro i hi
                rcases (by simpa using hi : i = 5 ∨ i = 7) with rfl | rfl
                · refine wpTill_step rfl (fun K hK => ?_)
                  go_simp
                  go_at_call 28
                  refine (LMeet_any _ _ _ _ _ hc hk).mono ?_
                  rintro e w39 ⟨rfl, h39⟩
                  go_simp
                  have T19 := Lib.hid (four_ch T18.out h39)
                  have B6_19 := Lib.hid (B6_18.out.ch h39 (fun h => h))
                  clear h39
                  refine hK.out _ _ (fun _ => T19.out) ?_
                  clear hK K
                  try simp only [Act.put]
                  refine wpTill_one (rs := [7]) (by kernel_rfl) (by simp) ?_
                  intro i hi
                  obtain rfl : i = 7 := by simpa using hi
                  refine wpTill_step rfl (fun K hK => ?_)
                  go_simp
                  have T20 := Lib.hid (four_ch T19.out ((Ch.refl No w39).alloc (.cells #[.int .u8 0, .int .u16 0] 38)))
                  have B6_20 := Lib.hid (B6_19.out.alloc (.cells #[.int .u8 0, .int .u16 0] 38))
                  have B7_20 : Hid (Blk (w39.alloc (.cells #[.int .u8 0, .int .u16 0] 38)) (w39.heap.size) 38 [.int .u8 0, .int .u16 0]) := Lib.hid (by have := Blk.new w39 38 [.int .u8 0, .int .u16 0]; simpa using this)
                  have n7 : w1.heap.size ≤ w39.heap.size := by have := T19.out.2.2.2.2.size; first | omega | (simp at this ⊢; omega)
                  have hne : ¬ w1.heap.size = w39.heap.size := by have := B6_19.out.lt; first | omega | (simp at this ⊢; omega)
                  refine hK.out _ _ (fun _ => T20.out) ?_
                  clear hK K
                  try simp only [Act.put]
                  have hne1 : ¬ w1.heap.size = w39.heap.size := hne
                  have hne2 : ¬ w39.heap.size = w1.heap.size := fun h => hne h.symm
                  have HE := Lib.hid (lat_end T20.out B6_20.out B7_20.out hne n6 n7 (.int .u8 (mxN l m : Nat)) (.int .u16 (orN c k : Nat)) (.int .u8 (mnN l m : Nat)) (.int .u16 (anN c k : Nat)))
                  have HB6 := B6_20
                  have HB7 := B7_20
                  generalize (w39.alloc (.cells #[.int .u8 0, .int .u16 0] 38)) = wz at *
                  have z0 := HB6.out.cell 0
                  have z1 := HB6.out.cell 1
                  have z2 := HB6.out.frozen 0
                  have z3 := HB6.out.frozen 1
                  have z4 := HB7.out.cell 0
                  have z5 := HB7.out.cell 1
                  have z6 := HB7.out.frozen 0
                  have z7 := HB7.out.frozen 1
                  simp only [List.getElem?_cons_zero, List.getElem?_cons_succ] at z0 z1 z4 z5
                  refine wpTill_one (rs := [8]) (by kernel_rfl) (by simp) ?_
                  intro i hi
                  obtain rfl : i = 8 := by simpa using hi
                  refine wpTill_step rfl (fun K hK => ?_)
                  go_simp
                  refine hK.out _ _ (fun h => nomatch (show true = false from h)) ?_
                  clear hK K
                  try simp only [Act.put]
                  refine wpTill_one (rs := [9]) (by kernel_rfl) (by simp) ?_
                  intro i hi
                  obtain rfl : i = 9 := by simpa using hi
                  refine wpTill_step rfl (fun K hK => ?_)
                  go_simp
                  refine hK.out _ _ (fun h => nomatch (show true = false from h)) ?_
                  clear hK K
                  try simp only [Act.put]
                  refine wpTill_done (by kernel_rfl) ⟨rfl, ?_⟩ _
                  exact ⟨trivial, (w1.heap.size, w39.heap.size), by kernel_rfl, HE.out⟩
                · refine wpTill_step rfl (fun K hK => ?_)
                  go_simp
                  have T21 := Lib.hid (four_ch T18.out ((Ch.refl No w38).alloc (.cells #[.int .u8 0, .int .u16 0] 38)))
                  have B6_21 := Lib.hid (B6_18.out.alloc (.cells #[.int .u8 0, .int .u16 0] 38))
                  have B7_21 : Hid (Blk (w38.alloc (.cells #[.int .u8 0, .int .u16 0] 38)) (w38.heap.size) 38 [.int .u8 0, .int .u16 0]) := Lib.hid (by have := Blk.new w38 38 [.int .u8 0, .int .u16 0]; simpa using this)
                  have n7 : w1.heap.size ≤ w38.heap.size := by have := T18.out.2.2.2.2.size; first | omega | (simp at this ⊢; omega)
                  have hne : ¬ w1.heap.size = w38.heap.size := by have := B6_18.out.lt; first | omega | (simp at this ⊢; omega)
                  refine hK.out _ _ (fun _ => T21.out) ?_
                  clear hK K
                  try simp only [Act.put]
                  refine wpTill_one (rs := [5]) (by kernel_rfl) (by simp) ?_
                  intro i hi
                  obtain rfl : i = 5 := by simpa using hi
                  refine wpTill_step rfl (fun K hK => ?_)
                  go_simp
                  go_at_call 28
                  refine (LMeet_any _ _ _ _ _ hc hk).mono ?_
                  rintro e w42 ⟨rfl, h42⟩
                  go_simp
                  have T22 := Lib.hid (four_ch T21.out h42)
                  have B6_22 := Lib.hid (B6_21.out.ch h42 (fun h => h))
                  have B7_22 := Lib.hid (B7_21.out.ch h42 (fun h => h))
                  clear h42
                  refine hK.out _ _ (fun _ => T22.out) ?_
                  clear hK K
                  try simp only [Act.put]
                  have hne1 : ¬ w1.heap.size = w38.heap.size := hne
                  have hne2 : ¬ w38.heap.size = w1.heap.size := fun h => hne h.symm
                  have HE := Lib.hid (lat_end T22.out B6_22.out B7_22.out hne n6 n7 (.int .u8 (mxN l m : Nat)) (.int .u16 (orN c k : Nat)) (.int .u8 (mnN l m : Nat)) (.int .u16 (anN c k : Nat)))
                  have HB6 := B6_22
                  have HB7 := B7_22
                  have z0 := HB6.out.cell 0
                  have z1 := HB6.out.cell 1
                  have z2 := HB6.out.frozen 0
                  have z3 := HB6.out.frozen 1
                  have z4 := HB7.out.cell 0
                  have z5 := HB7.out.cell 1
                  have z6 := HB7.out.frozen 0
                  have z7 := HB7.out.frozen 1
                  simp only [List.getElem?_cons_zero, List.getElem?_cons_succ] at z0 z1 z4 z5
                  refine wpTill_one (rs := [8]) (by kernel_rfl) (by simp) ?_
                  intro i hi
                  obtain rfl : i = 8 := by simpa using hi
                  refine wpTill_step rfl (fun K hK => ?_)
                  go_simp
                  refine hK.out _ _ (fun h => nomatch (show true = false from h)) ?_
                  clear hK K
                  try simp only [Act.put]
                  refine wpTill_one (rs := [9]) (by kernel_rfl) (by simp) ?_
                  intro i hi
                  obtain rfl : i = 9 := by simpa using hi
                  refine wpTill_step rfl (fun K hK => ?_)
                  go_simp
                  refine hK.out _ _ (fun h => nomatch (show true = false from h)) ?_
                  clear hK K
                  try simp only [Act.put]
                  refine wpTill_done (by kernel_rfl) ⟨rfl, ?_⟩ _
                  exact ⟨trivial, (w1.heap.size, w38.heap.size), by kernel_rfl, HE.out⟩
              · refine wpTill_step rfl (fun K hK => ?_)
                go_simp
                have T23 := Lib.hid (four_ch T17.out ((Ch.refl No (w1.drew.alloc (.cells #[.int .u8 0, .int .u16 0] 38))).alloc (.cells #[.int .u8 0, .int .u16 0] 38)))
                have B6_23 := Lib.hid (B6_17.out.alloc (.cells #[.int .u8 0, .int .u16 0] 38))
                have B7_23 : Hid (Blk ((w1.drew.alloc (.cells #[.int .u8 0, .int .u16 0] 38)).alloc (.cells #[.int .u8 0, .int .u16 0] 38)) (w1.heap.size + 1) 38 [.int .u8 0, .int .u16 0]) := Lib.hid (by have := Blk.new (w1.drew.alloc (.cells #[.int .u8 0, .int .u16 0] 38)) 38 [.int .u8 0, .int .u16 0]; simpa using this)
                have n7 : w1.heap.size ≤ w1.heap.size + 1 := by have := T17.out.2.2.2.2.size; first | omega | (simp at this ⊢; omega)
                have hne : ¬ w1.heap.size = w1.heap.size + 1 := by have := B6_17.out.lt; first | omega | (simp at this ⊢; omega)
                refine hK.out _ _ (fun _ => T23.out) ?_
                clear hK K
                try simp only [Act.put]
                refine wpTill_one (rs := [2]) (by kernel_rfl) (by simp) ?_
                intro i hi
                obtain rfl : i = 2 := by simpa using hi
                refine wpTill_step rfl (fun K hK => ?_)
                go_simp
                go_at_call 26
                refine (LJoin_any _ _ _ _ _ hc hk).mono ?_
                rintro e w44 ⟨rfl, h44⟩
                go_simp
                have T24 := Lib.hid (four_ch T23.out h44)
                have B6_24 := Lib.hid (B6_23.out.ch h44 (fun h => h))
                have B7_24 := Lib.hid (B7_23.out.ch h44 (fun h => h))
                clear h44
                refine hK.out _ _ (fun _ => T24.out) ?_
                clear hK K
                try simp only [Act.put]
                refine wpTill_one (rs := [5]) (by kernel_rfl) (by simp) ?_
                intro i hi
                obtain rfl : i = 5 := by simpa using hi
                refine wpTill_step rfl (fun K hK => ?_)
                go_simp
                go_at_call 28
                refine (LMeet_any _ _ _ _ _ hc hk).mono ?_
                rintro e w45 ⟨rfl, h45⟩
                go_simp
                have T25 := Lib.hid (four_ch T24.out h45)
                have B6_25 := Lib.hid (B6_24.out.ch h45 (fun h => h))
                have B7_25 := Lib.hid (B7_24.out.ch h45 (fun h => h))
                clear h45
                refine hK.out _ _ (fun _ => T25.out) ?_
                clear hK K
                try simp only [Act.put]
                have hne1 : ¬ w1.heap.size = w1.heap.size + 1 := hne
                have hne2 : ¬ w1.heap.size + 1 = w1.heap.size := fun h => hne h.symm
                have HE := Lib.hid (lat_end T25.out B6_25.out B7_25.out hne n6 n7 (.int .u8 (mxN l m : Nat)) (.int .u16 (orN c k : Nat)) (.int .u8 (mnN l m : Nat)) (.int .u16 (anN c k : Nat)))
                have HB6 := B6_25
                have HB7 := B7_25
                have z0 := HB6.out.cell 0
                have z1 := HB6.out.cell 1
                have z2 := HB6.out.frozen 0
                have z3 := HB6.out.frozen 1
                have z4 := HB7.out.cell 0
                have z5 := HB7.out.cell 1
                have z6 := HB7.out.frozen 0
                have z7 := HB7.out.frozen 1
                simp only [List.getElem?_cons_zero, List.getElem?_cons_succ] at z0 z1 z4 z5
                refine wpTill_one (rs := [8]) (by kernel_rfl) (by simp) ?_
                intro i hi
                obtain rfl : i = 8 := by simpa using hi
                refine wpTill_step rfl (fun K hK => ?_)
                go_simp
                refine hK.out _ _ (fun h => nomatch (show true = false from h)) ?_
                clear hK K
                try simp only [Act.put]
                refine wpTill_one (rs := [9]) (by kernel_rfl) (by simp) ?_
                intro i hi
                obtain rfl : i = 9 := by simpa using hi
                refine wpTill_step rfl (fun K hK => ?_)
                go_simp
                refine hK.out _ _ (fun h => nomatch (show true = false from h)) ?_
                clear hK K
                try simp only [Act.put]
                refine wpTill_done (by kernel_rfl) ⟨rfl, ?_⟩ _
                exact ⟨trivial, (w1.heap.size, w1.heap.size + 1), by kernel_rfl, HE.out⟩
            · refine wpTill_step rfl (fun K hK => ?_)
              go_simp
              have T26 := Lib.hid (four_ch TT.out ((Ch.refl No w1.drew).alloc (.cells #[.int .u8 0, .int .u16 0] 38)))
              have B7_26 : Hid (Blk (w1.drew.alloc (.cells #[.int .u8 0, .int .u16 0] 38)) (w1.heap.size) 38 [.int .u8 0, .int .u16 0]) := Lib.hid (by have := Blk.new w1.drew 38 [.int .u8 0, .int .u16 0]; simpa using this)
              have n7 : w1.heap.size ≤ w1.heap.size := by have := TT.out.2.2.2.2.size; first | omega | (simp at this ⊢; omega)
              refine hK.out _ _ (fun _ => T26.out) ?_
              clear hK K
              try simp only [Act.put]
              refine wpTill_one (rs := [2, 6]) (by kernel_rfl) (by simp) ?_
              intro i hi
              rcases (by simpa using hi : i = 2 ∨ i = 6) with rfl | rfl
              · refine wpTill_step rfl (fun K hK => ?_)
                go_simp
                go_at_call 26
                refine (LJoin_any _ _ _ _ _ hc hk).mono ?_
                rintro e w47 ⟨rfl, h47⟩
                go_simp
                have T27 := Lib.hid (four_ch T26.out h47)
                have B7_27 := Lib.hid (B7_26.out.ch h47 (fun h => h))
                clear h47
                refine hK.out _ _ (fun _ => T27.out) ?_
                clear hK K
                try simp only [Act.put]
                refine wpTill_one (rs := [5, 6]) (by kernel_rfl) (by simp) ?_
                intro i hi
                rcases (by simpa using hi : i = 5 ∨ i = 6) with rfl | rfl
                · refine wpTill_step rfl (fun K hK => ?_)
                  go_simp
                  go_at_call 28
                  refine (LMeet_any _ _ _ _ _ hc hk).mono ?_
                  rintro e w48 ⟨rfl, h48⟩
                  go_simp
                  have T28 := Lib.hid (four_ch T27.out h48)
                  have B7_28 := Lib.hid (B7_27.out.ch h48 (fun h => h))
                  clear h48
                  refine hK.out _ _ (fun _ => T28.out) ?_
                  clear hK K
                  try simp only [Act.put]
                  refine wpTill_one (rs := [6]) (by kernel_rfl) (by simp) ?_
                  intro i hi
                  obtain rfl : i = 6 := by simpa using hi
                  refine wpTill_step rfl (fun K hK => ?_)
                  go_simp
                  have T29 := Lib.hid (four_ch T28.out ((Ch.refl No w48).alloc (.cells #[.int .u8 0, .int .u16 0] 38)))
                  have B7_29 := Lib.hid (B7_28.out.alloc (.cells #[.int .u8 0, .int .u16 0] 38))
                  have B6_29 : Hid (Blk (w48.alloc (.cells #[.int .u8 0, .int .u16 0] 38)) (w48.heap.size) 38 [.int .u8 0, .int .u16 0]) := Lib.hid (by have := Blk.new w48 38 [.int .u8 0, .int .u16 0]; simpa using this)
                  have n6 : w1.heap.size ≤ w48.heap.size := by have := T28.out.2.2.2.2.size; first | omega | (simp at this ⊢; omega)
                  have hne : ¬ w1.heap.size = w48.heap.size := by have := B7_28.out.lt; first | omega | (simp at this ⊢; omega)
                  refine hK.out _ _ (fun _ => T29.out) ?_
                  clear hK K
                  try simp only [Act.put]
                  replace hne := fun h => hne (Eq.symm h)
                  have hne1 : ¬ w48.heap.size = w1.heap.size := hne
                  have hne2 : ¬ w1.heap.size = w48.heap.size := fun h => hne h.symm
                  have HE := Lib.hid (lat_end T29.out B6_29.out B7_29.out hne n6 n7 (.int .u8 (mxN l m : Nat)) (.int .u16 (orN c k : Nat)) (.int .u8 (mnN l m : Nat)) (.int .u16 (anN c k : Nat)))
                  have HB6 := B6_29
                  have HB7 := B7_29
                  generalize (w48.alloc (.cells #[.int .u8 0, .int .u16 0] 38)) = wz at *
                  have z0 := HB6.out.cell 0
                  have z1 := HB6.out.cell 1
                  have z2 := HB6.out.frozen 0
                  have z3 := HB6.out.frozen 1
                  have z4 := HB7.out.cell 0
                  have z5 := HB7.out.cell 1
                  have z6 := HB7.out.frozen 0
                  have z7 := HB7.out.frozen 1
                  simp only [List.getElem?_cons_zero, List.getElem?_cons_succ] at z0 z1 z4 z5
                  refine wpTill_one (rs := [8]) (by kernel_rfl) (by simp) ?_
                  intro i hi
                  obtain rfl : i = 8 := by simpa using hi
                  refine wpTill_step rfl (fun K hK => ?_)
                  go_simp
                  refine hK.out _ _ (fun h => nomatch (show true = false from h)) ?_
                  clear hK K
                  try simp only [Act.put]
                  refine wpTill_one (rs := [9]) (by kernel_rfl) (by simp) ?_
                  intro i hi
                  obtain rfl : i = 9 := by simpa using hi
                  refine wpTill_step rfl (fun K hK => ?_)
                  go_simp
                  refine hK.out _ _ (fun h => nomatch (show true = false from h)) ?_
                  clear hK K
                  try simp only [Act.put]
                  refine wpTill_done (by kernel_rfl) ⟨rfl, ?_⟩ _
                  exact ⟨trivial, (w48.heap.size, w1.heap.size), by kernel_rfl, HE.out⟩
                · refine wpTill_step rfl (fun K hK => ?_)
                  go_simp
                  have T30 := Lib.hid (four_ch T27.out ((Ch.refl No w47).alloc (.cells #[.int .u8 0, .int .u16 0] 38)))
                  have B7_30 := Lib.hid (B7_27.out.alloc (.cells #[.int .u8 0, .int .u16 0] 38))
                  have B6_30 : Hid (Blk (w47.alloc (.cells #[.int .u8 0, .int .u16 0] 38)) (w47.heap.size) 38 [.int .u8 0, .int .u16 0]) := Lib.hid (by have := Blk.new w47 38 [.int .u8 0, .int .u16 0]; simpa using this)
                  have n6 : w1.heap.size ≤ w47.heap.size := by have := T27.out.2.2.2.2.size; first | omega | (simp at this ⊢; omega)
                  have hne : ¬ w1.heap.size = w47.heap.size := by have := B7_27.out.lt; first | omega | (simp at this ⊢; omega)
                  refine hK.out _ _ (fun _ => T30.out) ?_
                  clear hK K
                  try simp only [Act.put]
                  refine wpTill_one (rs := [5]) (by kernel_rfl) (by simp) ?_
                  intro i hi
                  obtain rfl : i = 5 := by simpa using hi
                  refine wpTill_step rfl (fun K hK => ?_)
                  go_simp
                  go_at_call 28
                  refine (LMeet_any _ _ _ _ _ hc hk).mono ?_
                  rintro e w51 ⟨rfl, h51⟩
                  go_simp
                  have T31 := Lib.hid (four_ch T30.out h51)
                  have B6_31 := Lib.hid (B6_30.out.ch h51 (fun h => h))
                  have B7_31 := Lib.hid (B7_30.out.ch h51 (fun h => h))
                  clear h51
                  refine hK.out _ _ (fun _ => T31.out) ?_
                  clear hK K
                  try simp only [Act.put]
                  replace hne := fun h => hne (Eq.symm h)
                  have hne1 : ¬ w47.heap.size = w1.heap.size := hne
                  have hne2 : ¬ w1.heap.size = w47.heap.size := fun h => hne h.symm
                  have HE := Lib.hid (lat_end T31.out B6_31.out B7_31.out hne n6 n7 (.int .u8 (mxN l m : Nat)) (.int .u16 (orN c k : Nat)) (.int .u8 (mnN l m : Nat)) (.int .u16 (anN c k : Nat)))
                  have HB6 := B6_31
                  have HB7 := B7_31
                  have z0 := HB6.out.cell 0
                  have z1 := HB6.out.cell 1
                  have z2 := HB6.out.frozen 0
                  have z3 := HB6.out.frozen 1
                  have z4 := HB7.out.cell 0
                  have z5 := HB7.out.cell 1
                  have z6 := HB7.out.frozen 0
                  have z7 := HB7.out.frozen 1
                  simp only [List.getElem?_cons_zero, List.getElem?_cons_succ] at z0 z1 z4 z5
                  refine wpTill_one (rs := [8]) (by kernel_rfl) (by simp) ?_
                  intro i hi
                  obtain rfl : i = 8 := by simpa using hi
                  refine wpTill_step rfl (fun K hK => ?_)
                  go_simp
                  refine hK.out _ _ (fun h => nomatch (show true = false from h)) ?_
                  clear hK K
                  try simp only [Act.put]
                  refine wpTill_one (rs := [9]) (by kernel_rfl) (by simp) ?_
                  intro i hi
                  obtain rfl : i = 9 := by simpa using hi
                  refine wpTill_step rfl (fun K hK => ?_)
                  go_simp
                  refine hK.out _ _ (fun h => nomatch (show true = false from h)) ?_
                  clear hK K
                  try simp only [Act.put]
                  refine wpTill_done (by kernel_rfl) ⟨rfl, ?_⟩ _
                  exact ⟨trivial, (w47.heap.size, w1.heap.size), by kernel_rfl, HE.out⟩
              · refine wpTill_step rfl (fun K hK => ?_)
                go_simp
                have T32 := Lib.hid (four_ch T26.out ((Ch.refl No (w1.drew.alloc (.cells #[.int .u8 0, .int .u16 0] 38))).alloc (.cells #[.int .u8 0, .int .u16 0] 38)))
                have B7_32 := Lib.hid (B7_26.out.alloc (.cells #[.int .u8 0, .int .u16 0] 38))
                have B6_32 : Hid (Blk ((w1.drew.alloc (.cells #[.int .u8 0, .int .u16 0] 38)).alloc (.cells #[.int .u8 0, .int .u16 0] 38)) (w1.heap.size + 1) 38 [.int .u8 0, .int .u16 0]) := Lib.hid (by have := Blk.new (w1.drew.alloc (.cells #[.int .u8 0, .int .u16 0] 38)) 38 [.int .u8 0, .int .u16 0]; simpa using this)
                have n6 : w1.heap.size ≤ w1.heap.size + 1 := by have := T26.out.2.2.2.2.size; first | omega | (simp at this ⊢; omega)
                have hne : ¬ w1.heap.size = w1.heap.size + 1 := by have := B7_26.out.lt; first | omega | (simp at this ⊢; omega)
                refine hK.out _ _ (fun _ => T32.out) ?_
                clear hK K
                try simp only [Act.put]
                refine wpTill_one (rs := [2]) (by kernel_rfl) (by simp) ?_
                intro i hi
                obtain rfl : i = 2 := by simpa using hi
                refine wpTill_step rfl (fun K hK => ?_)
                go_simp
                go_at_call 26
                refine (LJoin_any _ _ _ _ _ hc hk).mono ?_
                rintro e w53 ⟨rfl, h53⟩
                go_simp
                have T33 := Lib.hid (four_ch T32.out h53)
                have B6_33 := Lib.hid (B6_32.out.ch h53 (fun h => h))
                have B7_33 := Lib.hid (B7_32.out.ch h53 (fun h => h))
                clear h53
                refine hK.out _ _ (fun _ => T33.out) ?_
                clear hK K
                try simp only [Act.put]
                refine wpTill_one (rs := [5]) (by kernel_rfl) (by simp) ?_
                intro i hi
                obtain rfl : i = 5 := by simpa using hi
                refine wpTill_step rfl (fun K hK => ?_)
                go_simp
                go_at_call 28
                refine (LMeet_any _ _ _ _ _ hc hk).mono ?_
                rintro e w54 ⟨rfl, h54⟩
                go_simp
                have T34 := Lib.hid (four_ch T33.out h54)
                have B6_34 := Lib.hid (B6_33.out.ch h54 (fun h => h))
                have B7_34 := Lib.hid (B7_33.out.ch h54 (fun h => h))
                clear h54
                refine hK.out _ _ (fun _ => T34.out) ?_
                clear hK K
                try simp only [Act.put]
                replace hne := fun h => hne (Eq.symm h)
                have hne1 : ¬ w1.heap.size + 1 = w1.heap.size := hne
                have hne2 : ¬ w1.heap.size = w1.heap.size + 1 := fun h => hne h.symm
                have HE := Lib.hid (lat_end T34.out B6_34.out B7_34.out hne n6 n7 (.int .u8 (mxN l m : Nat)) (.int .u16 (orN c k : Nat)) (.int .u8 (mnN l m : Nat)) (.int .u16 (anN c k : Nat)))
                have HB6 := B6_34
                have HB7 := B7_34
                have z0 := HB6.out.cell 0
                have z1 := HB6.out.cell 1
                have z2 := HB6.out.frozen 0
                have z3 := HB6.out.frozen 1
                have z4 := HB7.out.cell 0
                have z5 := HB7.out.cell 1
                have z6 := HB7.out.frozen 0
                have z7 := HB7.out.frozen 1
                simp only [List.getElem?_cons_zero, List.getElem?_cons_succ] at z0 z1 z4 z5
                refine wpTill_one (rs := [8]) (by kernel_rfl) (by simp) ?_
                intro i hi
                obtain rfl : i = 8 := by simpa using hi
                refine wpTill_step rfl (fun K hK => ?_)
                go_simp
                refine hK.out _ _ (fun h => nomatch (show true = false from h)) ?_
                clear hK K
                try simp only [Act.put]
                refine wpTill_one (rs := [9]) (by kernel_rfl) (by simp) ?_
                intro i hi
                obtain rfl : i = 9 := by simpa using hi
                refine wpTill_step rfl (fun K hK => ?_)
                go_simp
                refine hK.out _ _ (fun h => nomatch (show true = false from h)) ?_
                clear hK K
                try simp only [Act.put]
                refine wpTill_done (by kernel_rfl) ⟨rfl, ?_⟩ _
                exact ⟨trivial, (w1.heap.size + 1, w1.heap.size), by kernel_rfl, HE.out⟩
    -- ORDERS END
  · rintro ⟨p, q'⟩ w2 ⟨hw2, j0, j1, m0, m1⟩
    replace g0 := in_at g0 hw2
    replace g1 := in_at g1 hw2
    replace g2 := in_at g2 hw2
    replace g3 := in_at g3 hw2
    replace g4 := in_at g4 hw2
    replace g5 := in_at g5 hw2
    replace j0 := in_cell j0
    replace j1 := in_cell j1
    replace m0 := in_cell m0
    replace m1 := in_cell m1
    have HC2 := Lib.hid (C1.trans hw2)
    clear hw2 C1
    simp only [Act.put, List.setIfInBounds_toArray, List.set_cons_zero, List.set_cons_succ]
    go_upto_region 5 with fail
    go_cut [57] from 18 (fun s57 wx => s57 = .bool false ∧ Hid (Ch No w2 wx))
    case first =>
      (refine wp_region_in (Ch No _) (by kernel_rfl) (by kernel_rfl) (Ch.refl _ _) (fun _ h => ch_drawn h) ?_)
      repeat (go_big_quiet_step (exact in_ch (by with_reducible first | exact d0 _ | exact d1 _ | exact d2 _ | exact d3 _ | exact d4 _ | exact d5 _ | exact d6 _ | exact d7 _ | exact d8 _ | exact hLs _ | exact LJoin_any _ _ _ _ _ (by assumption) (by assumption) | exact LMeet_any _ _ _ _ _ (by assumption) (by assumption))))
      cases x
      · have f4 : r = false := by simpa using f2.symm
        subst f4
        repeat (go_big_quiet_step (exact in_ch (by with_reducible first | exact d0 _ | exact d1 _ | exact d2 _ | exact d3 _ | exact d4 _ | exact d5 _ | exact d6 _ | exact d7 _ | exact d8 _ | exact hLs _ | exact LJoin_any _ _ _ _ _ (by assumption) (by assumption) | exact LMeet_any _ _ _ _ _ (by assumption) (by assumption))))
        (refine wpQuiet_nil ?_; intro wq0 hw'; obtain ⟨pw, hw''⟩ := hw'; subst hw'')
        go_wp2_with fail
        go_meet
        exact ⟨rfl, Lib.hid pw.h⟩
      · cases y
        · cases u
          all_goals
            have f4 := f2.symm
            simp at f4
            subst f4
            repeat (go_big_quiet_step (exact in_ch (by with_reducible first | exact d0 _ | exact d1 _ | exact d2 _ | exact d3 _ | exact d4 _ | exact d5 _ | exact d6 _ | exact d7 _ | exact d8 _ | exact hLs _ | exact LJoin_any _ _ _ _ _ (by assumption) (by assumption) | exact LMeet_any _ _ _ _ _ (by assumption) (by assumption))))
            (refine wpQuiet_nil ?_; intro wq0 hw'; obtain ⟨pw, hw''⟩ := hw'; subst hw'')
            go_wp2_with fail
            go_meet
            exact ⟨rfl, Lib.hid pw.h⟩
        · have f5 : z = true := f1 rfl rfl
          subst f5
          cases u
          all_goals
            have f4 := f2.symm
            simp at f4
            subst f4
            repeat (go_big_quiet_step (exact in_ch (by with_reducible first | exact d0 _ | exact d1 _ | exact d2 _ | exact d3 _ | exact d4 _ | exact d5 _ | exact d6 _ | exact d7 _ | exact d8 _ | exact hLs _ | exact LJoin_any _ _ _ _ _ (by assumption) (by assumption) | exact LMeet_any _ _ _ _ _ (by assumption) (by assumption))))
            (refine wpQuiet_nil ?_; intro wq0 hw'; obtain ⟨pw, hw''⟩ := hw'; subst hw'')
            go_wp2_with fail
            go_meet
            exact ⟨rfl, Lib.hid pw.h⟩
    case rest =>
      obtain ⟨rfl, hcw⟩ := hcut
      replace g0 := in_at g0 hcw.out
      replace g1 := in_at g1 hcw.out
      replace g2 := in_at g2 hcw.out
      replace g3 := in_at g3 hcw.out
      replace g4 := in_at g4 hcw.out
      replace g5 := in_at g5 hcw.out
      replace j0 := in_at j0 hcw.out
      replace j1 := in_at j1 hcw.out
      replace m0 := in_at m0 hcw.out
      replace m1 := in_at m1 hcw.out
      have HCW := Lib.hid (HC2.out.trans hcw.out)
      clear hcw HC2
      go_wp2_with fail
      (refine wp_region_in (Ch No _) (by kernel_rfl) (by kernel_rfl) (Ch.refl _ _) (fun _ h => ch_drawn h) ?_)
      repeat (go_big_quiet_step (exact in_ch (by with_reducible first | exact d0 _ | exact d1 _ | exact d2 _ | exact d3 _ | exact d4 _ | exact d5 _ | exact d6 _ | exact d7 _ | exact d8 _ | exact hLs _ | exact LJoin_any _ _ _ _ _ (by assumption) (by assumption) | exact LMeet_any _ _ _ _ _ (by assumption) (by assumption))))
      cases v
      all_goals
        repeat (go_big_quiet_step (exact in_ch (by with_reducible first | exact d0 _ | exact d1 _ | exact d2 _ | exact d3 _ | exact d4 _ | exact d5 _ | exact d6 _ | exact d7 _ | exact d8 _ | exact hLs _ | exact LJoin_any _ _ _ _ _ (by assumption) (by assumption) | exact LMeet_any _ _ _ _ _ (by assumption) (by assumption))))
        cases z
        all_goals
          repeat (go_big_quiet_step (exact in_ch (by with_reducible first | exact d0 _ | exact d1 _ | exact d2 _ | exact d3 _ | exact d4 _ | exact d5 _ | exact d6 _ | exact d7 _ | exact d8 _ | exact hLs _ | exact LJoin_any _ _ _ _ _ (by assumption) (by assumption) | exact LMeet_any _ _ _ _ _ (by assumption) (by assumption))))
          cases x
          all_goals simp only [Bool.not_true, Bool.not_false]
          · repeat (go_big_quiet_step (exact in_ch (by with_reducible first | exact d0 _ | exact d1 _ | exact d2 _ | exact d3 _ | exact d4 _ | exact d5 _ | exact d6 _ | exact d7 _ | exact d8 _ | exact hLs _ | exact LJoin_any _ _ _ _ _ (by assumption) (by assumption) | exact LMeet_any _ _ _ _ _ (by assumption) (by assumption))))
            (refine wpQuiet_nil ?_; intro wq0 hw'; obtain ⟨pw, hw''⟩ := hw'; subst hw'')
            go_wp2_with fail
            go_ret
            exact ⟨rfl, HCW.out.trans pw.h⟩
          · cases r
            · have f5 : s = true := f3 rfl rfl
              subst f5
              repeat (go_big_quiet_step (exact in_ch (by with_reducible first | exact d0 _ | exact d1 _ | exact d2 _ | exact d3 _ | exact d4 _ | exact d5 _ | exact d6 _ | exact d7 _ | exact d8 _ | exact hLs _ | exact LJoin_any _ _ _ _ _ (by assumption) (by assumption) | exact LMeet_any _ _ _ _ _ (by assumption) (by assumption))))
              (refine wpQuiet_nil ?_; intro wq0 hw'; obtain ⟨pw, hw''⟩ := hw'; subst hw'')
              go_wp2_with fail
              go_ret
              exact ⟨rfl, HCW.out.trans pw.h⟩
            · repeat (go_big_quiet_step (exact in_ch (by with_reducible first | exact d0 _ | exact d1 _ | exact d2 _ | exact d3 _ | exact d4 _ | exact d5 _ | exact d6 _ | exact d7 _ | exact d8 _ | exact hLs _ | exact LJoin_any _ _ _ _ _ (by assumption) (by assumption) | exact LMeet_any _ _ _ _ _ (by assumption) (by assumption))))
              (refine wpQuiet_nil ?_; intro wq0 hw'; obtain ⟨pw, hw''⟩ := hw'; subst hw'')
              go_wp2_with fail
              go_ret
              exact ⟨rfl, HCW.out.trans pw.h⟩

theorem labelLattice_walk (W : World) (cs0 cs1 cs2 : Array Value) (r0 : Rd Try.prog W 8 38 cs0.toList) (r1 : Rd Try.prog W 8 38 cs1.toList) (r2 : Rd Try.prog W 8 38 cs2.toList) :
    Calls Try.prog 9 #[.agg cs0, .agg cs1, .agg cs2] W fun e w' => e = .returned (.bool true) ∧ Below W.heap.size W w' := by
  obtain ⟨l, c, rfl, hl, hc⟩ := label_arg r0
  obtain ⟨m, d, rfl, hm, hd⟩ := label_arg r1
  obtain ⟨n, q, rfl, _, hq⟩ := label_arg r2
  exact (labelLattice_core W l c m d n q hl hc hm hd hq).mono fun e w' ⟨h1, h2⟩ => ⟨h1, h2.same⟩
end Go.Proofs.Ytjjeafedlnfhfaa
