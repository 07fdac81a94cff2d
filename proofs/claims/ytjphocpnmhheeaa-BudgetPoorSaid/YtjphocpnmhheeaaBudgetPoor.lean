/- BudgetPoor: who may not any more are those that have nothing left: the walk. -/
import Derived.Test.YtjphocpnmhheeaaBudNone
import Derived.Test.YtjphocpnmhheeaaBudFull
import Derived.Test.YtjphocpnmhheeaaRead
namespace Go.Proofs.Ytjphocpnmhheeaa
open Go.RowKit

def smallOf (xs : List Int) : List Int := xs.map fun n => min n 50
@[simp] theorem smallOf_len (xs : List Int) : (smallOf xs).length = xs.length := by simp [smallOf]

set_option maxHeartbeats 16000000 in
set_option maxRecDepth 100000 in
theorem budgetPoor_core (W : World) (A : Option Addr) (c : Nat) (xs : List Int) (hx : Cls W A (ints .i64 xs)) (hw : ∀ x ∈ xs, wfI x) (hl : xs.length ≤ 17592186044404) :
    Calls Try.prog 10 #[.slice A xs.length c] W fun e w' => e = .returned (.bool true) ∧ Ch No W w' := by
  have HX := Lib.hid (And.intro hx hw)
  clear hx hw
  go_enter Try.func10, Try.ntmps10
  go_wp2_with fail
  refine (budAlive_any _).mono ?_
  rintro e w0 ⟨rfl, C0⟩
  have HC0 := Lib.hid C0
  clear C0
  by_cases h40 : 40 < xs.length
  · go_wp2_with fail
    go_ret
    exact ⟨rfl, HC0.out⟩
  go_wp2_with fail
  have HS0 : Hid (OwnS (w0.alloc (.cells #[] 3)) W.heap.size 3 (.slice (some ⟨w0.heap.size, 0, none⟩) 0 0) (ints .i64 (smallOf [])) ∧ Ch No W (w0.alloc (.cells #[] 3))) :=
    Lib.hid ⟨by simpa [ints, smallOf] using (OwnS.lit w0 w0.heap.size 3 [] (Nat.le_refl _) (by simp)).lower HC0.out.size, HC0.out.alloc _⟩
  go_loopw [3, 5, 20] (fun s _ i wr => ∃ pre post : List Int, Hid (xs = pre ++ post) ∧ i = .int .i64 pre.length ∧ Hid (OwnS wr W.heap.size 3 s (ints .i64 (smallOf pre)) ∧ Ch No W wr)) (fun _ _ i _ => xs.length - (intOf i).toNat)
  case atStart => exact ⟨[], xs, rfl, rfl, HS0⟩
  case round =>
    clear HS0
    obtain ⟨pre, post, hx, rfl, hst⟩ := hrel
    obtain ⟨As, cs, rfl, _⟩ := hst.out.1.slice_ints
    cases post with
    | nil =>
      obtain rfl : pre = xs := by have := hx.out; simpa using this.symm
      have hzw : ∀ z ∈ smallOf pre, wfI z ∧ z ≤ 50 := by
        intro z hz
        obtain ⟨x, hx', rfl⟩ := List.mem_map.1 hz
        have := HX.out.2 x hx'
        unfold wfI at *
        omega
      have hzl : (smallOf pre).length = pre.length := by simp
      obtain ⟨zs, hzs⟩ : ∃ zs, smallOf pre = zs := ⟨_, rfl⟩
      rw [hzs] at hst hzw hzl ⊢
      have hzl40 : zs.length ≤ 40 := by omega
      have HZ := Lib.hid (And.intro hzw hzl)
      clear hzs hzw hzl
      obtain ⟨A', c', e3, X3, _⟩ := hst.out.1.slice_ints
      obtain ⟨rfl, rfl⟩ : As = A' ∧ cs = c' := by simpa using e3
      clear e3
      go_wp2_with fail
      refine (BNew_any wr As cs zs X3 (fun z hz => (HZ.out.1 z hz).1) (by omega)).mono ?_
      rintro e w1 ⟨g, k, rfl, L1, hg1, h1⟩
      have HK : Hid (∀ a, As = some a → k ≠ some a.block) := Lib.hid fun a ha e => by
        have h2 := (L1.klt e).1
        rcases hst.out.1.2 with ⟨h0, _⟩ | ⟨g', _, _, h0, _, hg', _⟩
        · have h3 : As = none := (Value.slice.inj h0).1
          rw [h3] at ha
          cases ha
        · have h3 : As = some ⟨g', 0, none⟩ := (Value.slice.inj h0).1
          rw [h3] at ha
          cases ha
          have := (Array.getElem?_eq_some_iff.1 hg').1
          simp only at h2
          omega
      have HS : Hid (Led w1 W.heap.size g k (newL zs) ∧ Cls w1 As (ints .i64 zs) ∧ Ch No W w1) := Lib.hid ⟨L1.lower hst.out.2.size, X3.ch h1 (fun _ _ h => h), hst.out.2.trans h1⟩
      clear L1 hg1 h1 X3 hst
      go_wp2_with fail
      go_loopw [7, 8, 34] (fun _ _ i wr => ∃ pre post : List Int, Hid (zs = pre ++ post) ∧ i = .int .i64 pre.length ∧ Hid (Led wr W.heap.size g k (fullL pre ++ newL post) ∧ Cls wr As (ints .i64 zs) ∧ Ch No W wr)) (fun _ _ i _ => zs.length - (intOf i).toNat)
      case atStart => exact ⟨[], zs, rfl, rfl, HS⟩
      case round =>
        clear HS
        obtain ⟨p, q, hzx, rfl, hst⟩ := hrel
        cases q with
        | nil =>
          obtain rfl : p = zs := by have := hzx.out; simpa using this.symm
          have hL : Led wr W.heap.size g k (fullL p) := by
            have := hst.out.1
            rwa [show newL [] = [] from rfl, List.append_nil] at this
          have q1 := poor_any wr W.heap.size g k (fullL p) hL (by simp; omega) 1000
          rw [full_poor, List.take_of_length_le (by have : (1000 : Int).toNat = 1000 := rfl
                                                    simp
                                                    omega)] at q1
          obtain ⟨rs, hrs⟩ : ∃ rs : List Int, ((List.range p.length).map fun i : Nat => (i : Int)) = rs := ⟨_, rfl⟩
          rw [hrs] at q1
          have hrl : rs.length = p.length := by rw [← hrs]; simp
          have hrg : ∀ (j : Nat) (h : j < rs.length), rs[j] = (j : Int) := by
            subst hrs
            intro j h
            simp
          have HR := Lib.hid (And.intro hrg hrl)
          have hrl40 : rs.length ≤ 40 := by omega
          have hb : ((rs.length : Int) == (pre.length : Int)) = true := by have := HZ.out.2; simp only [beq_iff_eq]; omega
          have HQ := Lib.hid q1
          have HC := hst.out.2.2
          have HW := Lib.hid HC
          clear hL q1 hrs hrg hrl HC hst
          go_wp2_with fail
          refine HQ.out.mono ?_
          rintro e w2 ⟨v, rfl, o2, h2⟩
          obtain ⟨A2, c2, rfl, X2, _⟩ := o2.slice_ints
          have HS2 : Hid (Cls w2 A2 (ints .i64 rs) ∧ Ch No W w2) := Lib.hid ⟨X2, HW.out.trans h2⟩
          clear o2 h2 X2
          go_wp2_with fail
          go_loop [10, 11, 70] (fun _ _ i => ∃ j : Nat, j ≤ rs.length ∧ i = .int .i64 j) (fun _ _ i => rs.length - (intOf i).toNat)
          case atStart => exact ⟨0, by omega, rfl⟩
          case round =>
            obtain ⟨j, hj, rfl⟩ := hrel
            by_cases hjl : j < rs.length
            · obtain ⟨b, off, rfl, hcx⟩ := HS2.out.1.get j hjl
              rw [HR.out.1 j hjl] at hcx
              go_wp2_with fail
              go_round
              case rel => exact ⟨j + 1, by omega, by go_num⟩
              case measure => simp [intOf]; omega
            · obtain rfl : j = rs.length := by omega
              go_wp2_with fail
              go_ret
              exact ⟨rfl, HS2.out.2⟩
        | cons x q =>
          have hlen : p.length < zs.length := by rw [hzx.out]; simp
          obtain ⟨b, off, rfl, hcx⟩ := hst.out.2.1.at hzx.out
          have hx50 := (HZ.out.1 x (by rw [hzx.out]; simp)).2
          have hxw := (HZ.out.1 x (by rw [hzx.out]; simp)).1
          unfold wfI at hxw
          have hst0 : Hid (Led wr W.heap.size g k (midL p (max x 0) 0 q) ∧ Cls wr (some ⟨b, off, none⟩) (ints .i64 zs) ∧ Ch No W wr) := hst
          obtain ⟨m, hm⟩ : ∃ m, max x 0 = m := ⟨_, rfl⟩
          rw [hm] at hst0
          have HM := Lib.hid hm
          have hm0 : 0 ≤ m := by omega
          have hm50 : m ≤ 50 := by omega
          have hcase : (x < 0 ∧ m = 0) ∨ (x = 0 ∧ m = 0) ∨ (0 < x ∧ m = x) := by omega
          clear hm hst
          rcases hcase with ⟨hn, rfl⟩ | ⟨rfl, rfl⟩ | ⟨hn, rfl⟩
          · go_wp2_with fail
            go_loopw [41] (fun i wr => ∃ j : Nat, (j : Int) ≤ 0 ∧ i = .int .i64 j ∧ Hid (Led wr W.heap.size g k (midL p (0) j q) ∧ Cls wr (some ⟨b, off, none⟩) (ints .i64 zs) ∧ Ch No W wr)) (fun i _ => (0 - intOf i).toNat)
            case atStart => exact ⟨0, by omega, rfl, hst0⟩
            case round =>
              clear hst0
              obtain ⟨j, hj, rfl, hst⟩ := hrel
              have hpl := poorAll_len (midL p (0) j q)
              have hml : (midL p (0) j q).length ≤ 40 := by rw [midL_len]; have := congrArg List.length hzx.out; simp at this; omega
              have q1 := poor_any wr W.heap.size g k (midL p (0) j q) hst.out.1 (by omega) 1000
              rw [List.take_of_length_le (by have : (1000 : Int).toNat = 1000 := rfl
                                             omega)] at q1
              by_cases hjl : (j : Int) < 0
              · have q2 := fun w' A' c' h => RIn_any w' A' c' (poorAll (midL p (0) j q)) h (by omega) (p.length : Nat)
                rw [midL_in, show decide (0 - (j : Int) = 0) = false from by simp; omega] at q2
                have q3 := fun w' h => BSpend_any w' W.heap.size g k (midL p (0) j q) h (p.length : Nat)
                rw [midL_err, if_neg (by omega), midL_spend _ _ _ _ hjl] at q3
                have HQ := Lib.hid (And.intro q1 (And.intro q2 q3))
                clear q1 q2 q3 hpl hml
                go_wp2_with fail
                refine HQ.out.1.mono ?_
                rintro e w2 ⟨v, rfl, o2, h2⟩
                obtain ⟨A2, c2, rfl, X2, _⟩ := o2.slice_ints
                have H2 : Hid (Led w2 W.heap.size g k (midL p (0) j q) ∧ Cls w2 (some ⟨b, off, none⟩) (ints .i64 zs) ∧ Ch No W w2 ∧ Cls w2 A2 (ints .i64 (poorAll (midL p (0) j q)))) :=
                  Lib.hid ⟨hst.out.1.ch h2 (fun h => h) (fun _ _ h => h), hst.out.2.1.ch h2 (fun _ _ h => h), hst.out.2.2.trans h2, X2⟩
                clear o2 h2 X2 hst
                go_wp2_with fail
                refine (HQ.out.2.1 w2 A2 c2 H2.out.2.2.2).mono ?_
                rintro e w3 ⟨rfl, rfl⟩
                go_wp2_with fail
                refine (HQ.out.2.2 w2 H2.out.1).mono ?_
                rintro e w3 ⟨rfl, L3, h3⟩
                have H3 : Hid (Led w3 W.heap.size g k (midL p (0) ((j + 1 : Nat) : Int) q) ∧ Cls w3 (some ⟨b, off, none⟩) (ints .i64 zs) ∧ Ch No W w3) :=
                  Lib.hid ⟨L3, H2.out.2.1.ch h3 (fun a ha he => HK.out a ha he), Led.no H2.out.2.2.1 H2.out.1 (Nat.le_refl _) h3⟩
                clear L3 h3 H2
                go_wp2_with fail
                go_roundw
                case rel => exact ⟨j + 1, by omega, by go_num, H3⟩
                case measure => simp [intOf]; omega
              · have hje : (j : Int) = 0 := by omega
                rw [hje] at q1 hst hpl hml
                have q2 := fun w' A' c' h => RIn_any w' A' c' (poorAll (midL p (0) (0) q)) h (by omega) (p.length : Nat)
                rw [midL_in, show decide (0 - (0 : Int) = 0) = true from by simp] at q2
                have q3 := fun w' h => BSpend_any w' W.heap.size g k (midL p (0) (0) q) h (p.length : Nat)
                rw [midL_err, if_pos (by omega), midL_spent] at q3
                have HQ := Lib.hid (And.intro q1 (And.intro q2 q3))
                have HJ := Lib.hid hje
                clear q1 q2 q3 hpl hml hje
                go_wp2_with fail
                refine HQ.out.1.mono ?_
                rintro e w2 ⟨v, rfl, o2, h2⟩
                obtain ⟨A2, c2, rfl, X2, _⟩ := o2.slice_ints
                have H2 : Hid (Led w2 W.heap.size g k (midL p (0) (0) q) ∧ Cls w2 (some ⟨b, off, none⟩) (ints .i64 zs) ∧ Ch No W w2 ∧ Cls w2 A2 (ints .i64 (poorAll (midL p (0) (0) q)))) :=
                  Lib.hid ⟨hst.out.1.ch h2 (fun h => h) (fun _ _ h => h), hst.out.2.1.ch h2 (fun _ _ h => h), hst.out.2.2.trans h2, X2⟩
                clear o2 h2 X2 hst
                go_wp2_with fail
                refine (HQ.out.2.1 w2 A2 c2 H2.out.2.2.2).mono ?_
                rintro e w3 ⟨rfl, rfl⟩
                go_wp2_with fail
                refine (HQ.out.2.2 w2 H2.out.1).mono ?_
                rintro e w3 ⟨rfl, L3, h3⟩
                have H3 : Hid (Led w3 W.heap.size g k (fullL (p ++ [x]) ++ newL q) ∧ Cls w3 (some ⟨b, off, none⟩) (ints .i64 zs) ∧ Ch No W w3) := by
                  refine Lib.hid ⟨?_, H2.out.2.1.ch h3 (fun a ha he => HK.out a ha he), Led.no H2.out.2.2.1 H2.out.1 (Nat.le_refl _) h3⟩
                  rw [← midL_end, HM.out]
                  exact L3
                clear L3 h3 H2
                go_wp2_with fail
                go_roundw
                case rel => exact ⟨p ++ [x], q, by rw [hzx.out]; simp [Hid], by simp, H3⟩
                case measure => simp [intOf]; omega
          · go_wp2_with fail
            go_loopw [41] (fun i wr => ∃ j : Nat, (j : Int) ≤ 0 ∧ i = .int .i64 j ∧ Hid (Led wr W.heap.size g k (midL p (0) j q) ∧ Cls wr (some ⟨b, off, none⟩) (ints .i64 zs) ∧ Ch No W wr)) (fun i _ => (0 - intOf i).toNat)
            case atStart => exact ⟨0, by omega, rfl, hst0⟩
            case round =>
              clear hst0
              obtain ⟨j, hj, rfl, hst⟩ := hrel
              have hpl := poorAll_len (midL p (0) j q)
              have hml : (midL p (0) j q).length ≤ 40 := by rw [midL_len]; have := congrArg List.length hzx.out; simp at this; omega
              have q1 := poor_any wr W.heap.size g k (midL p (0) j q) hst.out.1 (by omega) 1000
              rw [List.take_of_length_le (by have : (1000 : Int).toNat = 1000 := rfl
                                             omega)] at q1
              by_cases hjl : (j : Int) < 0
              · have q2 := fun w' A' c' h => RIn_any w' A' c' (poorAll (midL p (0) j q)) h (by omega) (p.length : Nat)
                rw [midL_in, show decide (0 - (j : Int) = 0) = false from by simp; omega] at q2
                have q3 := fun w' h => BSpend_any w' W.heap.size g k (midL p (0) j q) h (p.length : Nat)
                rw [midL_err, if_neg (by omega), midL_spend _ _ _ _ hjl] at q3
                have HQ := Lib.hid (And.intro q1 (And.intro q2 q3))
                clear q1 q2 q3 hpl hml
                go_wp2_with fail
                refine HQ.out.1.mono ?_
                rintro e w2 ⟨v, rfl, o2, h2⟩
                obtain ⟨A2, c2, rfl, X2, _⟩ := o2.slice_ints
                have H2 : Hid (Led w2 W.heap.size g k (midL p (0) j q) ∧ Cls w2 (some ⟨b, off, none⟩) (ints .i64 zs) ∧ Ch No W w2 ∧ Cls w2 A2 (ints .i64 (poorAll (midL p (0) j q)))) :=
                  Lib.hid ⟨hst.out.1.ch h2 (fun h => h) (fun _ _ h => h), hst.out.2.1.ch h2 (fun _ _ h => h), hst.out.2.2.trans h2, X2⟩
                clear o2 h2 X2 hst
                go_wp2_with fail
                refine (HQ.out.2.1 w2 A2 c2 H2.out.2.2.2).mono ?_
                rintro e w3 ⟨rfl, rfl⟩
                go_wp2_with fail
                refine (HQ.out.2.2 w2 H2.out.1).mono ?_
                rintro e w3 ⟨rfl, L3, h3⟩
                have H3 : Hid (Led w3 W.heap.size g k (midL p (0) ((j + 1 : Nat) : Int) q) ∧ Cls w3 (some ⟨b, off, none⟩) (ints .i64 zs) ∧ Ch No W w3) :=
                  Lib.hid ⟨L3, H2.out.2.1.ch h3 (fun a ha he => HK.out a ha he), Led.no H2.out.2.2.1 H2.out.1 (Nat.le_refl _) h3⟩
                clear L3 h3 H2
                go_wp2_with fail
                go_roundw
                case rel => exact ⟨j + 1, by omega, by go_num, H3⟩
                case measure => simp [intOf]; omega
              · have hje : (j : Int) = 0 := by omega
                rw [hje] at q1 hst hpl hml
                have q2 := fun w' A' c' h => RIn_any w' A' c' (poorAll (midL p (0) (0) q)) h (by omega) (p.length : Nat)
                rw [midL_in, show decide (0 - (0 : Int) = 0) = true from by simp] at q2
                have q3 := fun w' h => BSpend_any w' W.heap.size g k (midL p (0) (0) q) h (p.length : Nat)
                rw [midL_err, if_pos (by omega), midL_spent] at q3
                have HQ := Lib.hid (And.intro q1 (And.intro q2 q3))
                have HJ := Lib.hid hje
                clear q1 q2 q3 hpl hml hje
                go_wp2_with fail
                refine HQ.out.1.mono ?_
                rintro e w2 ⟨v, rfl, o2, h2⟩
                obtain ⟨A2, c2, rfl, X2, _⟩ := o2.slice_ints
                have H2 : Hid (Led w2 W.heap.size g k (midL p (0) (0) q) ∧ Cls w2 (some ⟨b, off, none⟩) (ints .i64 zs) ∧ Ch No W w2 ∧ Cls w2 A2 (ints .i64 (poorAll (midL p (0) (0) q)))) :=
                  Lib.hid ⟨hst.out.1.ch h2 (fun h => h) (fun _ _ h => h), hst.out.2.1.ch h2 (fun _ _ h => h), hst.out.2.2.trans h2, X2⟩
                clear o2 h2 X2 hst
                go_wp2_with fail
                refine (HQ.out.2.1 w2 A2 c2 H2.out.2.2.2).mono ?_
                rintro e w3 ⟨rfl, rfl⟩
                go_wp2_with fail
                refine (HQ.out.2.2 w2 H2.out.1).mono ?_
                rintro e w3 ⟨rfl, L3, h3⟩
                have H3 : Hid (Led w3 W.heap.size g k (fullL (p ++ [0]) ++ newL q) ∧ Cls w3 (some ⟨b, off, none⟩) (ints .i64 zs) ∧ Ch No W w3) := by
                  refine Lib.hid ⟨?_, H2.out.2.1.ch h3 (fun a ha he => HK.out a ha he), Led.no H2.out.2.2.1 H2.out.1 (Nat.le_refl _) h3⟩
                  rw [← midL_end, HM.out]
                  exact L3
                clear L3 h3 H2
                go_wp2_with fail
                go_roundw
                case rel => exact ⟨p ++ [0], q, by rw [hzx.out]; simp [Hid], by simp, H3⟩
                case measure => simp [intOf]; omega
          · go_wp2_with fail
            go_loopw [41] (fun i wr => ∃ j : Nat, (j : Int) ≤ m ∧ i = .int .i64 j ∧ Hid (Led wr W.heap.size g k (midL p (m) j q) ∧ Cls wr (some ⟨b, off, none⟩) (ints .i64 zs) ∧ Ch No W wr)) (fun i _ => (m - intOf i).toNat)
            case atStart => exact ⟨0, by omega, rfl, hst0⟩
            case round =>
              clear hst0
              obtain ⟨j, hj, rfl, hst⟩ := hrel
              have hpl := poorAll_len (midL p (m) j q)
              have hml : (midL p (m) j q).length ≤ 40 := by rw [midL_len]; have := congrArg List.length hzx.out; simp at this; omega
              have q1 := poor_any wr W.heap.size g k (midL p (m) j q) hst.out.1 (by omega) 1000
              rw [List.take_of_length_le (by have : (1000 : Int).toNat = 1000 := rfl
                                             omega)] at q1
              by_cases hjl : (j : Int) < m
              · have q2 := fun w' A' c' h => RIn_any w' A' c' (poorAll (midL p (m) j q)) h (by omega) (p.length : Nat)
                rw [midL_in, show decide (m - (j : Int) = 0) = false from by simp; omega] at q2
                have q3 := fun w' h => BSpend_any w' W.heap.size g k (midL p (m) j q) h (p.length : Nat)
                rw [midL_err, if_neg (by omega), midL_spend _ _ _ _ hjl] at q3
                have HQ := Lib.hid (And.intro q1 (And.intro q2 q3))
                clear q1 q2 q3 hpl hml
                go_wp2_with fail
                refine HQ.out.1.mono ?_
                rintro e w2 ⟨v, rfl, o2, h2⟩
                obtain ⟨A2, c2, rfl, X2, _⟩ := o2.slice_ints
                have H2 : Hid (Led w2 W.heap.size g k (midL p (m) j q) ∧ Cls w2 (some ⟨b, off, none⟩) (ints .i64 zs) ∧ Ch No W w2 ∧ Cls w2 A2 (ints .i64 (poorAll (midL p (m) j q)))) :=
                  Lib.hid ⟨hst.out.1.ch h2 (fun h => h) (fun _ _ h => h), hst.out.2.1.ch h2 (fun _ _ h => h), hst.out.2.2.trans h2, X2⟩
                clear o2 h2 X2 hst
                go_wp2_with fail
                refine (HQ.out.2.1 w2 A2 c2 H2.out.2.2.2).mono ?_
                rintro e w3 ⟨rfl, rfl⟩
                go_wp2_with fail
                refine (HQ.out.2.2 w2 H2.out.1).mono ?_
                rintro e w3 ⟨rfl, L3, h3⟩
                have H3 : Hid (Led w3 W.heap.size g k (midL p (m) ((j + 1 : Nat) : Int) q) ∧ Cls w3 (some ⟨b, off, none⟩) (ints .i64 zs) ∧ Ch No W w3) :=
                  Lib.hid ⟨L3, H2.out.2.1.ch h3 (fun a ha he => HK.out a ha he), Led.no H2.out.2.2.1 H2.out.1 (Nat.le_refl _) h3⟩
                clear L3 h3 H2
                go_wp2_with fail
                go_roundw
                case rel => exact ⟨j + 1, by omega, by go_num, H3⟩
                case measure => simp [intOf]; omega
              · have hje : (j : Int) = m := by omega
                rw [hje] at q1 hst hpl hml
                have q2 := fun w' A' c' h => RIn_any w' A' c' (poorAll (midL p (m) (m) q)) h (by omega) (p.length : Nat)
                rw [midL_in, show decide (m - (m : Int) = 0) = true from by simp] at q2
                have q3 := fun w' h => BSpend_any w' W.heap.size g k (midL p (m) (m) q) h (p.length : Nat)
                rw [midL_err, if_pos (by omega), midL_spent] at q3
                have HQ := Lib.hid (And.intro q1 (And.intro q2 q3))
                have HJ := Lib.hid hje
                clear q1 q2 q3 hpl hml hje
                go_wp2_with fail
                refine HQ.out.1.mono ?_
                rintro e w2 ⟨v, rfl, o2, h2⟩
                obtain ⟨A2, c2, rfl, X2, _⟩ := o2.slice_ints
                have H2 : Hid (Led w2 W.heap.size g k (midL p (m) (m) q) ∧ Cls w2 (some ⟨b, off, none⟩) (ints .i64 zs) ∧ Ch No W w2 ∧ Cls w2 A2 (ints .i64 (poorAll (midL p (m) (m) q)))) :=
                  Lib.hid ⟨hst.out.1.ch h2 (fun h => h) (fun _ _ h => h), hst.out.2.1.ch h2 (fun _ _ h => h), hst.out.2.2.trans h2, X2⟩
                clear o2 h2 X2 hst
                go_wp2_with fail
                refine (HQ.out.2.1 w2 A2 c2 H2.out.2.2.2).mono ?_
                rintro e w3 ⟨rfl, rfl⟩
                go_wp2_with fail
                refine (HQ.out.2.2 w2 H2.out.1).mono ?_
                rintro e w3 ⟨rfl, L3, h3⟩
                have H3 : Hid (Led w3 W.heap.size g k (fullL (p ++ [m]) ++ newL q) ∧ Cls w3 (some ⟨b, off, none⟩) (ints .i64 zs) ∧ Ch No W w3) := by
                  refine Lib.hid ⟨?_, H2.out.2.1.ch h3 (fun a ha he => HK.out a ha he), Led.no H2.out.2.2.1 H2.out.1 (Nat.le_refl _) h3⟩
                  rw [← midL_end, HM.out]
                  exact L3
                clear L3 h3 H2
                go_wp2_with fail
                go_roundw
                case rel => exact ⟨p ++ [m], q, by rw [hzx.out]; simp [Hid], by simp, H3⟩
                case measure => simp [intOf]; omega
    | cons x post =>
      have hlen : pre.length < xs.length := by rw [hx.out]; simp
      obtain ⟨b, off, rfl, hcx⟩ := (HX.out.1.ch hst.out.2 (fun _ _ h => h)).at hx.out
      have hwx := HX.out.2 x (by rw [hx.out]; simp)
      unfold wfI at hwx
      obtain ⟨m, hm⟩ : ∃ m, min x 50 = m := ⟨_, rfl⟩
      obtain ⟨sm, hsm⟩ : ∃ sm, smallOf pre = sm := ⟨_, rfl⟩
      have hsl : sm.length ≤ 40 := by rw [← hsm]; simp; omega
      obtain ⟨ys, hys⟩ : ∃ ys, pre ++ [x] = ys := ⟨_, rfl⟩
      have hy : Hid (xs = ys ++ post ∧ ys.length = pre.length + 1 ∧ smallOf ys = sm ++ [m]) := Lib.hid ⟨by rw [← hys, hx.out]; simp, by rw [← hys]; simp, by rw [← hys, ← hsm, ← hm]; simp [smallOf]⟩
      rw [hsm] at hst ⊢
      have hcase : (x < 50 ∧ m = x) ∨ (x = 50 ∧ m = 50) ∨ (50 < x ∧ m = 50) := by omega
      clear hm hsm hys
      rcases hcase with ⟨hn, rfl⟩ | ⟨rfl, rfl⟩ | ⟨hn, rfl⟩
      all_goals
        go_wp2_with (at_builtin; refine app1i rfl _ _ 56 3 rfl .i64 0 8 Try.underlying56 infoInt W.heap.size As cs sm _ rfl hst.out.1 1 rfl ?hn ?hb ?hB ?_)
        case hn => simp [maxLen]; omega
        case hb => omega
        case hB => exact hst.out.2.size
        intro g4 c4 w4 o4 h4 hat
        have HF : Hid (OwnS w4 W.heap.size 3 (.slice (some ⟨g4, 0, none⟩) (sm.length + 1) c4) (ints .i64 (smallOf ys)) ∧ Ch No W w4) :=
          Lib.hid ⟨by rw [hy.out.2.2]; simpa using o4, hst.out.2.trans' h4 (fun i hi he => by have := (hst.out.1.ge i he).1; omega)⟩
        clear o4 h4 hat hst
        go_wp2_with fail
        go_roundw
        case rel => exact ⟨ys, post, hy.out.1, by rw [hy.out.2.1]; rfl, HF⟩
        case measure => simp [intOf]; omega

theorem budgetPoor_walk (W : World) (a0 : Option Addr) (cap0 : Nat) (xs0 : List Int) (c0 : Cls W a0 (ints .i64 xs0)) (_l0 : xs0.length ≤ cap0) (b0 : xs0.length * 8 ≤ 140737488351232) (w0 : ∀ x ∈ xs0, (Lit.int .i64 x).wf = true) :
    Calls Try.prog 10 #[.slice a0 xs0.length cap0] W fun e w' => e = .returned (.bool true) ∧ Below W.heap.size W w' :=
  (budgetPoor_core W a0 cap0 xs0 c0 (fun x hx => by have := bounds_i64 (w0 x hx); unfold wfI; omega) (by omega)).mono fun e w' ⟨h1, h2⟩ => ⟨h1, h2.same⟩
end Go.Proofs.Ytjphocpnmhheeaa
