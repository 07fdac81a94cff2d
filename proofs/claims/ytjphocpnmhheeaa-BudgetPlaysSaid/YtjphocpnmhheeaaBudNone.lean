/- BudgetNone: of no places nothing is spent: the walk. -/
import Derived.Test.YtjphocpnmhheeaaBudAlive
import Derived.Test.YtjphocpnmhheeaaRead
namespace Go.Proofs.Ytjphocpnmhheeaa
open Go.RowKit

theorem Led.lower {w : World} {B C g : Nat} {k : Option Nat} {l : List Acc} (h : Led w B g k l) (hC : C ≤ B) : Led w C g k l := by
  obtain ⟨v, b, r, e⟩ := h.ex
  refine ⟨⟨v, b, ⟨r.1, ?_⟩, e⟩, h.ne, h.ok⟩
  rcases r.2 with h0 | ⟨i, cap, cur, hv, hb, rest⟩
  · exact .inl h0
  · exact .inr ⟨i, cap, cur, hv, Nat.le_trans hC hb, rest⟩
theorem newL_at (pre post : List Int) (x : Int) : newL (pre ++ x :: post) = newL pre ++ ⟨max x 0, 0⟩ :: newL post := by simp [newL]
theorem newL_left (pre post : List Int) (x : Int) : leftI (newL (pre ++ x :: post)) (pre.length : Nat) = max x 0 := by
  have := leftI_at (newL pre) (newL post) ⟨max x 0, 0⟩
  rw [newL_len] at this
  rw [newL_at, this]
  simp
theorem newL_spent (pre post : List Int) (x : Int) : spentI (newL (pre ++ x :: post)) (pre.length : Nat) = 0 := by
  have := spentI_at (newL pre) (newL post) ⟨max x 0, 0⟩
  rw [newL_len] at this
  rw [newL_at, this]

set_option maxHeartbeats 8000000 in
set_option maxRecDepth 100000 in
theorem budgetNone_core (W : World) (A : Option Addr) (c : Nat) (xs : List Int) (i : Int) (hx : Cls W A (ints .i64 xs)) (hw : ∀ x ∈ xs, wfI x) (hl : xs.length ≤ 17592186044404) :
    Calls Try.prog 11 #[.slice A xs.length c, .int .i64 i] W fun e w' => e = .returned (.bool true) ∧ Ch No W w' := by
  have HX := Lib.hid (And.intro hx hw)
  clear hx hw
  go_enter Try.func11, Try.ntmps11
  go_wp2_with fail
  refine (budAlive_any _).mono ?_
  rintro e w0 ⟨rfl, C0⟩
  have HC0 := Lib.hid C0
  clear C0
  by_cases h40 : 40 < xs.length
  · go_wp2_with fail
    go_ret
    exact ⟨rfl, HC0.out⟩
  go_wp2_with fail
  refine (BNew_any w0 none 0 [] (Cls.nil _ _) (by simp) (by simp)).mono ?_
  rintro e w1 ⟨g0, k0, rfl, L1, hg1, h1⟩
  have HL1 := Lib.hid (And.intro (L1.lower HC0.out.size) (HC0.out.trans h1))
  clear L1 hg1 h1 HC0
  go_wp2_with fail
  have q := BLeft_any w1 W.heap.size g0 k0 (newL []) HL1.out.1 i
  rw [show leftI (newL []) i = 0 from by simp [leftI, newL], show errI (newL []) i = 4 from by simp [errI, newL]] at q
  refine q.mono ?_
  rintro e w2 ⟨rfl, h2⟩
  have HL2 := Lib.hid (And.intro (HL1.out.1.ch h2 (fun h => h) (fun _ _ h => h)) (HL1.out.2.trans h2))
  clear q h2 HL1
  have o2 : OwnS (w2.alloc (.cells #[] 3)) w2.heap.size 3 (.slice (some ⟨w2.heap.size, 0, none⟩) 0 0) (ints .i64 []) := by simpa [ints] using OwnS.lit w2 w2.heap.size 3 [] (Nat.le_refl _) (by simp)
  have C2 : Ch No W (w2.alloc (.cells #[] 3)) := HL2.out.2.alloc _
  go_wp2_with (at_builtin; refine appI rfl _ _ 56 3 rfl .i64 0 8 Try.underlying56 infoInt w2.heap.size (some ⟨w2.heap.size, 0, none⟩) 0 [] rfl o2 A c xs rfl (HX.out.1.ch C2 (fun _ _ h => h)) ?hn ?hb ?hB ?_)
  case hn => simp [maxLen]; omega
  case hb => simp; omega
  case hB => simp
  intro Ao co w3 o3 h3 hat
  have hkb : ∀ j, (Value.slice Ao xs.length co).ownBlock = some j → w2.heap.size ≤ j := fun j hj => (o3.ge j (by simpa using hj)).1
  have C3 : Ch No W w3 := C2.trans' h3 (fun j hj he => by
    have he' : w2.heap.size = j := by simpa [Value.ownBlock] using he
    have := HL2.out.2.size
    omega)
  have L3 : Led w3 W.heap.size g0 k0 (newL []) := (HL2.out.1.ch ((Ch.refl No w2).alloc _) (fun h => h) (fun _ _ h => h)).ch h3
    (fun he => by have he' : w2.heap.size = g0 := by simpa [Value.ownBlock] using he
                  have := HL2.out.1.lt
                  omega)
    (fun j hj he => by have he' : w2.heap.size = j := by simpa [Value.ownBlock] using he
                       have := (HL2.out.1.klt hj).2
                       omega)
  have hg0 := HL2.out.1.lt
  have hk0 : ∀ j, k0 = some j → j < w2.heap.size := fun j hj => (HL2.out.1.klt hj).2
  have o3' : OwnS w3 w2.heap.size 3 (.slice Ao xs.length co) (ints .i64 xs) := by simpa using o3
  have HO3 := Lib.hid (And.intro o3' (And.intro L3 C3))
  clear o2 C2 o3 h3 hat L3 C3 o3'
  go_wp2_with fail
  obtain ⟨A', c', e3, X3, _⟩ := HO3.out.1.slice_ints
  obtain ⟨rfl, rfl⟩ : Ao = A' ∧ co = c' := by simpa using e3
  refine (BNew_any w3 Ao co xs X3 HX.out.2 (by omega)).mono ?_
  rintro e w4 ⟨g, k, rfl, L4, hg4, h4⟩
  have hkb4 : ∀ j, (Value.slice Ao xs.length co).ownBlock = some j → j < w3.heap.size := fun j hj => (HO3.out.1.ge j hj).2
  have hk4 : ∀ j, k = some j → w3.heap.size ≤ j := fun j hj => (L4.klt hj).1
  have HS4 : Hid (∃ vals : List Int, vals.length = xs.length ∧ OwnS w4 w2.heap.size 3 (.slice Ao xs.length co) (ints .i64 vals) ∧ Led w4 W.heap.size g0 k0 (newL []) ∧ Led w4 W.heap.size g k (newL xs) ∧ Ch No W w4) :=
    Lib.hid ⟨xs, rfl, HO3.out.1.ch h4 (fun _ _ h => h), HO3.out.2.1.ch h4 (fun h => h) (fun _ _ h => h), L4.lower HO3.out.2.2.size, HO3.out.2.2.trans h4⟩
  have HN : Hid (∀ j, (Value.slice Ao xs.length co).ownBlock = some j → W.heap.size ≤ j ∧ j ≠ g0 ∧ (∀ i, k0 = some i → i ≠ j) ∧ j ≠ g ∧ (∀ i, k = some i → i ≠ j)) :=
    Lib.hid fun j hj => by
      have h1 := hkb j hj
      have h2 := hkb4 j hj
      have h3 := HL2.out.2.size
      exact ⟨by omega, by omega, fun i hi => by have := hk0 i hi; omega, by omega, fun i hi => by have := hk4 i hi; omega⟩
  have hsep0 : Hid (∀ j, k0 = some j → j ≠ g ∧ (∀ i, k = some i → i ≠ j)) := Lib.hid fun j hj => by
    have h1 := hk0 j hj
    have h2 := HO3.out.2.1.klt hj
    exact ⟨by omega, fun i hi => by have := hk4 i hi; omega⟩
  clear hkb hg0 hk0 e3 X3 L4 hg4 h4 hkb4 hk4 HO3 HL2
  go_wp2_with fail
  go_loopw [10, 36] (fun _ i wr => ∃ j : Nat, j ≤ xs.length ∧ i = .int .i64 j ∧ Hid (∃ vals : List Int, vals.length = xs.length ∧ OwnS wr w2.heap.size 3 (.slice Ao xs.length co) (ints .i64 vals) ∧ Led wr W.heap.size g0 k0 (newL []) ∧ Led wr W.heap.size g k (newL xs) ∧ Ch No W wr)) (fun _ i _ => xs.length - (intOf i).toNat)
  case atStart => exact ⟨0, by omega, rfl, HS4⟩
  case round =>
    clear HS4
    obtain ⟨j, hj, rfl, hst⟩ := hrel
    by_cases hjl : j < xs.length
    · obtain ⟨vals, hvl, ho, hr0, hr, hc⟩ := hst.out
      obtain ⟨kb, rfl, hkx⟩ : ∃ kb, Ao = some ⟨kb, 0, none⟩ ∧ wr.cell? ⟨kb, j, none⟩ = some (.int .i64 (vals.getD j 0)) := by
        obtain ⟨x, hx⟩ : ∃ x, vals[j]? = some x := ⟨vals[j]'(by omega), List.getElem?_eq_getElem (by omega)⟩
        rcases ho.2 with ⟨h', hz⟩ | ⟨kb, cap, cur, h', hb', hg', hnc, hcm, hcs, ht⟩
        · simp [ints] at hz; simp [hz] at hvl; omega
        · obtain ⟨rfl, _⟩ : Ao = _ ∧ _ := by simpa using h'
          refine ⟨kb, rfl, ?_⟩
          have q := cell_of_row wr kb j _ 3 (0, 0) hg'
          rw [q]
          have h2 : (ints .i64 vals)[j]? = some (.int .i64 (vals.getD j 0)) := by simp [ints, hx, List.getD]
          rw [← ht, List.getElem?_take_of_lt (by simp [ints]; omega)] at h2
          simpa using h2
      have hfz := OwnS.frozen ho j
      have HV := Lib.hid (And.intro hvl (And.intro ho (And.intro hr0 (And.intro hr hc))))
      clear hvl ho hr0 hr hc hst
      go_wp2_with fail
      go_roundw
      case rel =>
        have C : Ch (Only kb) wr (wr.setCell ⟨kb, j, none⟩ (.int .i64 (-7))) := (Ch.refl (Only kb) wr).setCell (p := ⟨kb, j, none⟩) (fun _ => rfl) _
        obtain ⟨n1, n2, n3, n4, n5⟩ := HN.out kb rfl
        refine ⟨j + 1, by omega, by go_num, Lib.hid ⟨vals.set j (-7), by rw [List.length_set]; exact HV.out.1, ?_, ?_, ?_, ?_⟩⟩
        · have q := (World.ownsRow.stored (n := (ints .i64 vals).length) (by have := HV.out.2.1; unfold OwnS at this; simpa [ints, HV.out.1] using this) j (.int .i64 (-7)) : _)
          unfold OwnS
          have q1 := q.1
          simpa [ints, List.map_set, HV.out.1] using q1
        · exact HV.out.2.2.1.ch C (fun he => n2 (Eq.symm he)) (fun a ha he => n3 a ha he)
        · exact HV.out.2.2.2.1.ch C (fun he => n4 (Eq.symm he)) (fun a ha he => n5 a ha he)
        · exact HV.out.2.2.2.2.trans' C (fun i hi he => by have he' : i = kb := he; omega)
      case measure => simp [intOf]; omega
    · obtain rfl : j = xs.length := by omega
      obtain ⟨vals, _, _, hr0, hr, hc⟩ := hst.out
      have HS := Lib.hid (And.intro hr0 (And.intro hr hc))
      clear hr0 hr hc hst HN
      go_wp2_with fail
      go_loopw [11, 12, 13, 14, 45] (fun _ _ _ _ i wr => ∃ pre post : List Int, Hid (xs = pre ++ post) ∧ i = .int .i64 pre.length ∧ Hid (Led wr W.heap.size g0 k0 (newL []) ∧ Led wr W.heap.size g k (newL xs) ∧ Ch No W wr)) (fun _ _ _ _ i _ => xs.length - (intOf i).toNat)
      case atStart => exact ⟨[], xs, rfl, rfl, HS⟩
      case round =>
        clear HS
        obtain ⟨pre, post, hx, rfl, hst⟩ := hrel
        cases post with
        | nil =>
          obtain rfl : pre = xs := by have := hx.out; simpa using this.symm
          go_wp2_with fail
          have q := BLeft_any wr W.heap.size g k (newL pre) hst.out.2.1 (pre.length : Nat)
          rw [leftI_out (by rw [newL_len]; omega), show errI (newL pre) (pre.length : Nat) = 4 from if_neg (by rw [newL_len]; omega)] at q
          refine q.mono ?_
          rintro e w6 ⟨rfl, h6⟩
          have HS6 := Lib.hid (And.intro (hst.out.1.ch h6 (fun h => h) (fun _ _ h => h)) (And.intro (hst.out.2.1.ch h6 (fun h => h) (fun _ _ h => h)) (hst.out.2.2.trans h6)))
          clear h6 hst q
          go_wp2_with fail
          have q := BSpend_any w6 W.heap.size g0 k0 (newL []) HS6.out.1 i
          rw [show spendE (newL []) i = 4 from if_neg (by simp [newL]), show spendL (newL []) i = newL [] from by simp [spendL, newL]] at q
          refine q.mono ?_
          rintro e w7 ⟨rfl, L7, h7⟩
          have hsep := hsep0.out
          have HS7 := Lib.hid (And.intro L7 (And.intro (HS6.out.2.1.ch h7 (fun he => (hsep g he).1 rfl) (fun j hj he => (hsep j he).2 j hj rfl)) (Led.no HS6.out.2.2 HS6.out.1 (Nat.le_refl _) h7)))
          clear h7 L7 q hsep HS6
          go_wp2_with fail
          have q := BSpent_any w7 W.heap.size g0 k0 (newL []) HS7.out.1 i
          rw [show spentI (newL []) i = 0 from by simp [spentI, newL]] at q
          refine q.mono ?_
          rintro e w8 ⟨rfl, rfl⟩
          clear q
          go_wp2_with fail
          refine (BLen_any w7 W.heap.size g0 k0 (newL []) HS7.out.1).mono ?_
          rintro e w8 ⟨rfl, rfl⟩
          rw [show (newL []).length = 0 from rfl]
          go_wp2_with fail
          have q := poor_any w7 W.heap.size g0 k0 (newL []) HS7.out.1 (by simp) 9
          rw [show (poorAll (newL [])).take (9 : Int).toNat = [] from by decide] at q
          refine q.mono ?_
          rintro e w8 ⟨v, rfl, o8, h8⟩
          obtain ⟨A8, c8, rfl, _⟩ := o8.slice_ints
          have HS8 := Lib.hid (And.intro (HS7.out.2.1.ch h8 (fun h => h) (fun _ _ h => h)) (HS7.out.2.2.trans h8))
          rw [show ([] : List Int).length = 0 from rfl]
          clear o8 h8 q HS7
          go_wp2_with fail
          have q := BSpend_any w8 W.heap.size g k (newL pre) HS8.out.1 (-1)
          rw [show spendE (newL pre) (-1) = 4 from if_neg (by omega)] at q
          refine q.mono ?_
          rintro e w9 ⟨rfl, _, h9⟩
          have HC9 := Lib.hid (Led.no HS8.out.2 HS8.out.1 (Nat.le_refl _) h9)
          clear h9 q HS8
          go_wp2_with fail
          go_ret
          exact ⟨rfl, HC9.out⟩
        | cons x post =>
          have hlen : pre.length < xs.length := by rw [hx.out]; simp
          obtain ⟨b, off, rfl, hcx⟩ := (HX.out.1.ch hst.out.2.2 (fun _ _ h => h)).at hx.out
          have hwn := HX.out.2 x (by rw [hx.out]; simp)
          unfold wfI at hwn
          have q := BLeft_any wr W.heap.size g k (newL xs) hst.out.2.1 (pre.length : Nat)
          rw [show leftI (newL xs) (pre.length : Nat) = max x 0 from by rw [hx.out]; exact newL_left pre post x, show errI (newL xs) (pre.length : Nat) = 0 from if_pos ⟨by omega, by rw [newL_len]; omega⟩] at q
          have q2 := fun w' h' => BSpent_any w' W.heap.size g k (newL xs) h' (pre.length : Nat)
          rw [show spentI (newL xs) (pre.length : Nat) = 0 from by rw [hx.out]; exact newL_spent pre post x] at q2
          obtain ⟨m, hm⟩ : ∃ m, max x 0 = m := ⟨_, rfl⟩
          rw [hm] at q
          have HQ := Lib.hid (And.intro q q2)
          have hcase : (x < 0 ∧ m = 0) ∨ (x = 0 ∧ m = 0) ∨ (0 < x ∧ m = x) := by omega
          have hy : Hid (xs = (pre ++ [x]) ++ post ∧ (pre ++ [x]).length = pre.length + 1) := Lib.hid ⟨by rw [hx.out]; simp, by simp⟩
          obtain ⟨ys, hys⟩ : ∃ ys, pre ++ [x] = ys := ⟨_, rfl⟩
          rw [hys] at hy
          clear q q2 hm hys
          rcases hcase with ⟨hn, rfl⟩ | ⟨rfl, rfl⟩ | ⟨hn, rfl⟩
          all_goals
            go_wp2_with fail
            refine HQ.out.1.mono ?_
            rintro e w6 ⟨rfl, h6⟩
            have HS6 := Lib.hid (And.intro (hst.out.1.ch h6 (fun h => h) (fun _ _ h => h)) (And.intro (hst.out.2.1.ch h6 (fun h => h) (fun _ _ h => h)) (hst.out.2.2.trans h6)))
            clear h6 hst
            go_wp2_with fail
            refine (HQ.out.2 _ HS6.out.2.1).mono ?_
            rintro e w7 ⟨rfl, rfl⟩
            go_wp2_with fail
            go_roundw
            case rel => exact ⟨ys, post, hy.out.1, by rw [hy.out.2]; rfl, HS6⟩
            case measure => simp [intOf]; omega
theorem budgetNone_walk (W : World) (a0 : Option Addr) (cap0 : Nat) (xs0 : List Int) (a1 : Int) (c0 : Cls W a0 (ints .i64 xs0)) (_l0 : xs0.length ≤ cap0) (b0 : xs0.length * 8 ≤ 140737488351232) (w0 : ∀ x ∈ xs0, (Lit.int .i64 x).wf = true) (_w1 : (Lit.int .i64 a1).wf = true) :
    Calls Try.prog 11 #[.slice a0 xs0.length cap0, .int .i64 a1] W fun e w' => e = .returned (.bool true) ∧ Below W.heap.size W w' :=
  (budgetNone_core W a0 cap0 xs0 a1 c0 (fun x hx => by have := bounds_i64 (w0 x hx); unfold wfI; omega) (by omega)).mono fun e w' ⟨h1, h2⟩ => ⟨h1, h2.same⟩
end Go.Proofs.Ytjphocpnmhheeaa
