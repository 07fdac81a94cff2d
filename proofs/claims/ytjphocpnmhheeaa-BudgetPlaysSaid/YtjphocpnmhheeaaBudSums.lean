/- BudgetSums: what is spent, and left, is what there was: the walk. -/
import Derived.Test.YtjphocpnmhheeaaBudNone
import Derived.Test.YtjphocpnmhheeaaBudFacts
namespace Go.Proofs.Ytjphocpnmhheeaa
open Go.RowKit

structure SB (W w : World) (g : Nat) (k : Option Nat) (xs : List Int) (L : List Acc) (n : Nat) : Prop where
  led : Led w W.heap.size g k L
  ms : L.map Acc.m = (newL xs).map Acc.m
  tot : totS L ≤ n
  ch : Ch No W w
theorem SB.len {W w : World} {g n : Nat} {k : Option Nat} {xs : List Int} {L : List Acc} (h : SB W w g k xs L n) : L.length = xs.length := by
  have := congrArg List.length h.ms
  simpa using this
theorem SB.no {W w w' : World} {g n : Nat} {k : Option Nat} {xs : List Int} {L : List Acc} (h : SB W w g k xs L n) (hc : Ch No w w') : SB W w' g k xs L n :=
  ⟨h.led.ch hc (fun h => h) (fun _ _ h => h), h.ms, h.tot, h.ch.trans hc⟩
theorem SB.spend {W w w' : World} {g n : Nat} {k : Option Nat} {xs : List Int} {L : List Acc} (h : SB W w g k xs L n) (i : Int) (hl : Led w' W.heap.size g k (spendL L i)) (hc : Ch (fun j => k = some j) w w') : SB W w' g k xs (spendL L i) (n + 1) :=
  ⟨hl, by rw [spend_ms]; exact h.ms, by have h1 := spend_tot h.led.ok i; have h2 := h.tot; split at h1 <;> omega, Led.no h.ch h.led (Nat.le_refl _) hc⟩
theorem SB.at {W w : World} {g n : Nat} {k : Option Nat} {xs pre post : List Int} {x : Int} {L : List Acc} (h : SB W w g k xs L n) (hx : xs = pre ++ x :: post) :
    leftI L (pre.length : Nat) + spentI L (pre.length : Nat) = max x 0 ∧ 0 ≤ leftI L (pre.length : Nat) ∧ 0 ≤ spentI L (pre.length : Nat) ∧ errI L (pre.length : Nat) = 0 := by
  have hl := h.len
  have hlt : pre.length < L.length := by rw [hl, hx]; simp
  obtain ⟨p, a, q, rfl, e⟩ := split_at (l := L) (i := (pre.length : Nat)) (by omega) (by omega)
  have e' : pre.length = p.length := by omega
  have hm := congrArg (fun l => l[pre.length]?) h.ms
  simp only [hx, newL_at, List.map_append, List.map_cons] at hm
  rw [e'] at hm
  rw [List.getElem?_append_right (by simp), List.getElem?_append_right (by simp [newL]; omega)] at hm
  simp [newL, e'] at hm
  obtain ⟨o1, o2, _⟩ := h.led.ok a (by simp)
  rw [e', leftI_at, spentI_at]
  exact ⟨by omega, by omega, by omega, if_pos ⟨by omega, by simp; omega⟩⟩

set_option maxHeartbeats 16000000 in
set_option maxRecDepth 100000 in
theorem budgetSums_core (W : World) (A : Option Addr) (c : Nat) (xs : List Int) (A1 : Option Addr) (c1 : Nat) (ys : List Int) (hx : Cls W A (ints .i64 xs)) (hw : ∀ x ∈ xs, wfI x) (hl : xs.length ≤ 17592186044404) (hy : Cls W A1 (ints .i64 ys)) (hwy : ∀ x ∈ ys, wfI x) (hly : ys.length ≤ 17592186044404) :
    Calls Try.prog 8 #[.slice A xs.length c, .slice A1 ys.length c1] W fun e w' => e = .returned (.bool true) ∧ Ch No W w' := by
  have HX := Lib.hid (And.intro (And.intro hx hw) (And.intro hy hwy))
  clear hx hw hy hwy
  go_enter Try.func8, Try.ntmps8
  go_wp2_with fail
  refine (budAlive_any _).mono ?_
  rintro e w0 ⟨rfl, C0⟩
  have HC0 := Lib.hid C0
  clear C0
  by_cases h40 : 40 < xs.length
  · go_wp2_with fail
    go_ret
    exact ⟨rfl, HC0.out⟩
  by_cases h200 : 200 < ys.length
  · go_wp2_with fail
    go_ret
    exact ⟨rfl, HC0.out⟩
  go_wp2_with fail
  refine (BNew_any w0 A c xs (HX.out.1.1.ch HC0.out (fun _ _ h => h)) HX.out.1.2 (by omega)).mono ?_
  rintro e w1 ⟨g, k, rfl, L1, hg1, h1⟩
  have HS : Hid (SB W w1 g k xs (newL xs) 0) := Lib.hid ⟨L1.lower HC0.out.size, rfl, by rw [totS_new]; simp, HC0.out.trans h1⟩
  clear L1 hg1 h1 HC0
  go_wp2_with fail
  go_loopw [7, 8, 9, 10, 11, 12, 13, 14, 29] (fun _ _ _ _ _ _ _ _ i wr => ∃ (pre post : List Int) (L : List Acc), Hid (ys = pre ++ post) ∧ i = .int .i64 pre.length ∧ Hid (SB W wr g k xs L pre.length)) (fun _ _ _ _ _ _ _ _ i _ => ys.length - (intOf i).toNat)
  case atStart => exact ⟨[], ys, newL xs, rfl, rfl, HS⟩
  case round =>
    clear HS
    obtain ⟨pre, post, L, hx, rfl, hst⟩ := hrel
    cases post with
    | nil =>
      obtain rfl : pre = ys := by have := hx.out; simpa using this.symm
      go_wp2_with fail
      go_ret
      exact ⟨rfl, hst.out.ch⟩
    | cons y post =>
      have hlen : pre.length < ys.length := by rw [hx.out]; simp
      obtain ⟨b, off, rfl, hcx⟩ := (HX.out.2.1.ch hst.out.ch (fun _ _ h => h)).at hx.out
      have hLl := hst.out.len
      have hpl := poorAll_len L
      have q := poor_any wr W.heap.size g k L hst.out.led (by omega) 1000
      rw [List.take_of_length_le (by have : (1000 : Int).toNat = 1000 := rfl
                                     omega)] at q
      have hpb : ∀ j, 0 ≤ psum L j ∧ psum L j ≤ 200 := fun j => by
        have h1 := psum_le hst.out.led.ok j
        have h2 := hst.out.tot
        omega
      go_wp2_with fail
      refine q.mono ?_
      rintro e w2 ⟨v, rfl, o2, h2⟩
      obtain ⟨Aw, cw, rfl, _⟩ := o2.slice_ints
      have HS2 := Lib.hid (hst.out.no h2)
      have hpm := Lib.hid (poor_mono y hst.out.led.ok)
      obtain ⟨np, hnp⟩ : ∃ np, (poorAll L).length = np := ⟨_, rfl⟩
      rw [hnp] at hpm hpl ⊢
      clear q o2 h2 hst hnp
      go_wp2_with fail
      go_loop [9, 10, 37] (fun s _ i => ∃ j : Nat, j ≤ xs.length ∧ i = .int .i64 j ∧ s = .int .i64 (psum L j)) (fun _ _ i => xs.length - (intOf i).toNat)
      case atStart => exact ⟨0, by omega, rfl, by rw [psum_zero]⟩
      case round =>
        obtain ⟨j, hj, rfl, rfl⟩ := hrel
        by_cases hjl : j < xs.length
        · have hs := psum_succ (L := L) (j := j) (by omega)
          have hb1 := hpb j
          have hb2 := hpb (j + 1)
          have HQ := Lib.hid (BSpent_any w2 W.heap.size g k L HS2.out.led (j : Nat))
          obtain ⟨s0, hs0⟩ : ∃ s0, psum L j = s0 := ⟨_, rfl⟩
          obtain ⟨s1, hs1⟩ : ∃ s1, spentI L (j : Nat) = s1 := ⟨_, rfl⟩
          rw [hs0, hs1] at hs
          rw [hs] at hb2
          rw [hs0] at hb1 ⊢
          rw [hs1] at HQ
          have HSS := Lib.hid hs
          clear hs hs0 hs1
          go_wp2_with fail
          refine HQ.out.mono ?_
          rintro e w3 ⟨rfl, rfl⟩
          go_wp2_with fail
          go_round
          case rel => exact ⟨j + 1, by omega, by go_num, by rw [HSS.out]⟩
          case measure => simp [intOf]; omega
        · obtain rfl : j = xs.length := by omega
          have hpa : psum L xs.length = totS L := by rw [← hLl]; exact psum_all L
          rw [hpa]
          go_wp2_with fail
          refine (BSpend_any w2 W.heap.size g k L HS2.out.led y).mono ?_
          rintro e w3 ⟨rfl, L3, h3⟩
          have ht := spend_tot HS2.out.led.ok y
          have HS3 := Lib.hid (HS2.out.spend y L3 h3)
          have hee : spendE L y = 0 ∨ spendE L y = 32 ∨ spendE L y = 4 := by
            unfold spendE
            split
            · split
              · exact .inr (.inl rfl)
              · exact .inl rfl
            · exact .inr (.inr rfl)
          have hpb' : ∀ j, 0 ≤ psum (spendL L y) j ∧ psum (spendL L y) j ≤ 201 := fun j => by
            have h1 := psum_le HS3.out.led.ok j
            have h2 := HS3.out.tot
            omega
          have hL' := HS3.out.len
          have htb : 0 ≤ totS L ∧ totS L ≤ 200 := by rw [← hpa]; exact hpb _
          generalize spendL L y = M at *
          generalize spendE L y = ee at *
          generalize totS L = t at *
          have hpa' : psum M xs.length = totS M := by rw [← hL']; exact psum_all M
          have HT := Lib.hid (And.intro ht hpa')
          clear L3 h3 HS2 hpb ht hpa hpa'
          rcases hee with rfl | rfl | rfl
          · go_wp2_with fail
            go_loopw [9, 12, 13, 14, 51] (fun s _ _ _ i wr' => ∃ j : Nat, j ≤ xs.length ∧ i = .int .i64 j ∧ s = .int .i64 (t - psum M j) ∧ Hid (SB W wr' g k xs M (pre.length + 1))) (fun _ _ _ _ i _ => xs.length - (intOf i).toNat)
            case atStart => exact ⟨0, by omega, rfl, by rw [psum_zero, Int.sub_zero], HS3⟩
            case round =>
              clear HS3
              obtain ⟨j, hj, rfl, rfl, hst⟩ := hrel
              by_cases hjl : j < xs.length
              · obtain ⟨p', x, q', hxs, hpl'⟩ : ∃ p' x q', xs = p' ++ x :: q' ∧ p'.length = j := ⟨xs.take j, xs[j]'hjl, xs.drop (j + 1), by rw [List.getElem_cons_drop, List.take_append_drop], by rw [List.length_take]; omega⟩
                obtain ⟨b0, off0, hA, hcx0⟩ := (HX.out.1.1.ch hst.out.ch (fun _ _ h => h)).at hxs
                have hwx := HX.out.1.2 x (by rw [hxs]; simp)
                unfold wfI at hwx
                obtain ⟨hsum, hl0, hs0, her⟩ := hst.out.at hxs
                rw [hpl'] at hsum hl0 hs0 her hcx0
                have hps := psum_succ (L := M) (j := j) (by omega)
                have hb1 := hpb' j
                have hb2 := hpb' (j + 1)
                have q1 := BSpent_any wr W.heap.size g k M hst.out.led (j : Nat)
                have q2 := BLeft_any wr W.heap.size g k M hst.out.led (j : Nat)
                rw [her] at q2
                have q3 := fun w' h' => BSpent_any w' W.heap.size g k M h' (j : Nat)
                generalize spentI M (j : Nat) = s1 at *
                generalize leftI M (j : Nat) = l1 at *
                obtain ⟨u1, hu1'⟩ : ∃ u1, psum M (j + 1) = u1 := ⟨_, rfl⟩
                rw [hu1'] at hps hb2
                have HU1 := Lib.hid hu1'
                clear hu1'
                obtain ⟨u0, hu0⟩ : ∃ u0, psum M j = u0 := ⟨_, rfl⟩
                rw [hu0] at hps hb1 ⊢
                obtain ⟨m, hm⟩ : ∃ m, max x 0 = m := ⟨_, rfl⟩
                rw [hm] at hsum
                have hwrap : IntKind.i64.wrap (l1 + s1) = m := by rw [IntKind.wrap_i64]; omega
                have hcase : (x < 0 ∧ m = 0) ∨ (x = 0 ∧ m = 0) ∨ (0 < x ∧ m = x) := by omega
                have hu1 : t - u0 - s1 = t - u1 := by omega
                have HU := Lib.hid (And.intro hu1 (And.intro q1 (And.intro q2 q3)))
                have hr1 : -1000 ≤ t - u0 - s1 ∧ t - u0 - s1 ≤ 1000 := by omega
                clear q1 q2 q3 hps hu0 hm hsum hxs hpl' her hu1
                subst hA
                have hd : decide (l1 < 0) = false := by simp only [decide_eq_false_iff_not]; omega
                rcases hcase with ⟨hxn, rfl⟩ | ⟨rfl, rfl⟩ | ⟨hxn, rfl⟩
                all_goals
                  go_wp2_with fail
                  refine HU.out.2.1.mono ?_
                  rintro e w5 ⟨rfl, rfl⟩
                  go_wp2_with fail
                  refine HU.out.2.2.1.mono ?_
                  rintro e w6 ⟨rfl, h6⟩
                  have HS6 := Lib.hid (hst.out.no h6)
                  have hc6 := in_cell (h6.cell hcx0 (fun h => h))
                  have ls : ∀ p : In (Ch No w6), Calls Try.prog 26 #[.pointer (some ⟨g, 0, none⟩), .int .i64 (j : Nat)] p.w fun e w' => e = .returned (.int .i64 s1) ∧ Ch No p.w w' := fun p => (HU.out.2.2.2 p.w (HS6.out.no p.h).led).mono fun e w' ⟨h1, h2⟩ => ⟨h1, h2 ▸ Ch.refl No _⟩
                  clear h6 hst hcx0
                  go_wp2_with fail
                  (refine wp_region_in (Ch No _) (by kernel_rfl) (by kernel_rfl) (Ch.refl _ _) (fun _ h => ch_drawn h) ?_)
                  repeat (go_big_quiet_step (exact in_ch (by with_reducible exact ls _)))
                  (refine wpQuiet_nil ?_; intro wq0 hw'; obtain ⟨pw, hw''⟩ := hw'; subst hw'')
                  go_wp2_with fail
                  go_roundw
                  case rel => exact ⟨j + 1, by omega, by go_num, by rw [HU1.out, ← HU.out.1], Lib.hid (HS6.out.no pw.h)⟩
                  case measure => simp [intOf]; omega
              · obtain rfl : j = xs.length := by omega
                have hsum : t - psum M xs.length = -1 := by rw [HT.out.2, HT.out.1]; simp; try omega
                rw [hsum]
                have hpl2 := poorAll_len M
                have q := poor_any wr W.heap.size g k M hst.out.led (by omega) 1000
                rw [List.take_of_length_le (by have : (1000 : Int).toNat = 1000 := rfl
                                               omega)] at q
                have HQ := Lib.hid q
                have hpm' := hpm.out
                clear q hsum
                go_wp2_with fail
                refine HQ.out.mono ?_
                rintro e w6 ⟨v, rfl, o6, h6⟩
                obtain ⟨A6, c6, rfl, _⟩ := o6.slice_ints
                generalize (poorAll M).length = nq at *
                have HS6 := Lib.hid (hst.out.no h6)
                clear o6 h6 hst
                go_wp2_with fail
                go_roundw
                case rel => exact ⟨pre ++ [y], post, M, by rw [hx.out]; simp [Hid], by simp, by rw [List.length_append]; exact HS6⟩
                case measure => simp [intOf]; omega
          · go_wp2_with fail
            go_loopw [9, 12, 13, 14, 51] (fun s _ _ _ i wr' => ∃ j : Nat, j ≤ xs.length ∧ i = .int .i64 j ∧ s = .int .i64 (t - psum M j) ∧ Hid (SB W wr' g k xs M (pre.length + 1))) (fun _ _ _ _ i _ => xs.length - (intOf i).toNat)
            case atStart => exact ⟨0, by omega, rfl, by rw [psum_zero, Int.sub_zero], HS3⟩
            case round =>
              clear HS3
              obtain ⟨j, hj, rfl, rfl, hst⟩ := hrel
              by_cases hjl : j < xs.length
              · obtain ⟨p', x, q', hxs, hpl'⟩ : ∃ p' x q', xs = p' ++ x :: q' ∧ p'.length = j := ⟨xs.take j, xs[j]'hjl, xs.drop (j + 1), by rw [List.getElem_cons_drop, List.take_append_drop], by rw [List.length_take]; omega⟩
                obtain ⟨b0, off0, hA, hcx0⟩ := (HX.out.1.1.ch hst.out.ch (fun _ _ h => h)).at hxs
                have hwx := HX.out.1.2 x (by rw [hxs]; simp)
                unfold wfI at hwx
                obtain ⟨hsum, hl0, hs0, her⟩ := hst.out.at hxs
                rw [hpl'] at hsum hl0 hs0 her hcx0
                have hps := psum_succ (L := M) (j := j) (by omega)
                have hb1 := hpb' j
                have hb2 := hpb' (j + 1)
                have q1 := BSpent_any wr W.heap.size g k M hst.out.led (j : Nat)
                have q2 := BLeft_any wr W.heap.size g k M hst.out.led (j : Nat)
                rw [her] at q2
                have q3 := fun w' h' => BSpent_any w' W.heap.size g k M h' (j : Nat)
                generalize spentI M (j : Nat) = s1 at *
                generalize leftI M (j : Nat) = l1 at *
                obtain ⟨u1, hu1'⟩ : ∃ u1, psum M (j + 1) = u1 := ⟨_, rfl⟩
                rw [hu1'] at hps hb2
                have HU1 := Lib.hid hu1'
                clear hu1'
                obtain ⟨u0, hu0⟩ : ∃ u0, psum M j = u0 := ⟨_, rfl⟩
                rw [hu0] at hps hb1 ⊢
                obtain ⟨m, hm⟩ : ∃ m, max x 0 = m := ⟨_, rfl⟩
                rw [hm] at hsum
                have hwrap : IntKind.i64.wrap (l1 + s1) = m := by rw [IntKind.wrap_i64]; omega
                have hcase : (x < 0 ∧ m = 0) ∨ (x = 0 ∧ m = 0) ∨ (0 < x ∧ m = x) := by omega
                have hu1 : t - u0 - s1 = t - u1 := by omega
                have HU := Lib.hid (And.intro hu1 (And.intro q1 (And.intro q2 q3)))
                have hr1 : -1000 ≤ t - u0 - s1 ∧ t - u0 - s1 ≤ 1000 := by omega
                clear q1 q2 q3 hps hu0 hm hsum hxs hpl' her hu1
                subst hA
                have hd : decide (l1 < 0) = false := by simp only [decide_eq_false_iff_not]; omega
                rcases hcase with ⟨hxn, rfl⟩ | ⟨rfl, rfl⟩ | ⟨hxn, rfl⟩
                all_goals
                  go_wp2_with fail
                  refine HU.out.2.1.mono ?_
                  rintro e w5 ⟨rfl, rfl⟩
                  go_wp2_with fail
                  refine HU.out.2.2.1.mono ?_
                  rintro e w6 ⟨rfl, h6⟩
                  have HS6 := Lib.hid (hst.out.no h6)
                  have hc6 := in_cell (h6.cell hcx0 (fun h => h))
                  have ls : ∀ p : In (Ch No w6), Calls Try.prog 26 #[.pointer (some ⟨g, 0, none⟩), .int .i64 (j : Nat)] p.w fun e w' => e = .returned (.int .i64 s1) ∧ Ch No p.w w' := fun p => (HU.out.2.2.2 p.w (HS6.out.no p.h).led).mono fun e w' ⟨h1, h2⟩ => ⟨h1, h2 ▸ Ch.refl No _⟩
                  clear h6 hst hcx0
                  go_wp2_with fail
                  (refine wp_region_in (Ch No _) (by kernel_rfl) (by kernel_rfl) (Ch.refl _ _) (fun _ h => ch_drawn h) ?_)
                  repeat (go_big_quiet_step (exact in_ch (by with_reducible exact ls _)))
                  (refine wpQuiet_nil ?_; intro wq0 hw'; obtain ⟨pw, hw''⟩ := hw'; subst hw'')
                  go_wp2_with fail
                  go_roundw
                  case rel => exact ⟨j + 1, by omega, by go_num, by rw [HU1.out, ← HU.out.1], Lib.hid (HS6.out.no pw.h)⟩
                  case measure => simp [intOf]; omega
              · obtain rfl : j = xs.length := by omega
                have hsum : t - psum M xs.length = 0 := by rw [HT.out.2, HT.out.1]; simp; try omega
                rw [hsum]
                have hpl2 := poorAll_len M
                have q := poor_any wr W.heap.size g k M hst.out.led (by omega) 1000
                rw [List.take_of_length_le (by have : (1000 : Int).toNat = 1000 := rfl
                                               omega)] at q
                have HQ := Lib.hid q
                have hpm' := hpm.out
                clear q hsum
                go_wp2_with fail
                refine HQ.out.mono ?_
                rintro e w6 ⟨v, rfl, o6, h6⟩
                obtain ⟨A6, c6, rfl, _⟩ := o6.slice_ints
                generalize (poorAll M).length = nq at *
                have HS6 := Lib.hid (hst.out.no h6)
                clear o6 h6 hst
                go_wp2_with fail
                go_roundw
                case rel => exact ⟨pre ++ [y], post, M, by rw [hx.out]; simp [Hid], by simp, by rw [List.length_append]; exact HS6⟩
                case measure => simp [intOf]; omega
          · go_wp2_with fail
            go_loopw [9, 12, 13, 14, 51] (fun s _ _ _ i wr' => ∃ j : Nat, j ≤ xs.length ∧ i = .int .i64 j ∧ s = .int .i64 (t - psum M j) ∧ Hid (SB W wr' g k xs M (pre.length + 1))) (fun _ _ _ _ i _ => xs.length - (intOf i).toNat)
            case atStart => exact ⟨0, by omega, rfl, by rw [psum_zero, Int.sub_zero], HS3⟩
            case round =>
              clear HS3
              obtain ⟨j, hj, rfl, rfl, hst⟩ := hrel
              by_cases hjl : j < xs.length
              · obtain ⟨p', x, q', hxs, hpl'⟩ : ∃ p' x q', xs = p' ++ x :: q' ∧ p'.length = j := ⟨xs.take j, xs[j]'hjl, xs.drop (j + 1), by rw [List.getElem_cons_drop, List.take_append_drop], by rw [List.length_take]; omega⟩
                obtain ⟨b0, off0, hA, hcx0⟩ := (HX.out.1.1.ch hst.out.ch (fun _ _ h => h)).at hxs
                have hwx := HX.out.1.2 x (by rw [hxs]; simp)
                unfold wfI at hwx
                obtain ⟨hsum, hl0, hs0, her⟩ := hst.out.at hxs
                rw [hpl'] at hsum hl0 hs0 her hcx0
                have hps := psum_succ (L := M) (j := j) (by omega)
                have hb1 := hpb' j
                have hb2 := hpb' (j + 1)
                have q1 := BSpent_any wr W.heap.size g k M hst.out.led (j : Nat)
                have q2 := BLeft_any wr W.heap.size g k M hst.out.led (j : Nat)
                rw [her] at q2
                have q3 := fun w' h' => BSpent_any w' W.heap.size g k M h' (j : Nat)
                generalize spentI M (j : Nat) = s1 at *
                generalize leftI M (j : Nat) = l1 at *
                obtain ⟨u1, hu1'⟩ : ∃ u1, psum M (j + 1) = u1 := ⟨_, rfl⟩
                rw [hu1'] at hps hb2
                have HU1 := Lib.hid hu1'
                clear hu1'
                obtain ⟨u0, hu0⟩ : ∃ u0, psum M j = u0 := ⟨_, rfl⟩
                rw [hu0] at hps hb1 ⊢
                obtain ⟨m, hm⟩ : ∃ m, max x 0 = m := ⟨_, rfl⟩
                rw [hm] at hsum
                have hwrap : IntKind.i64.wrap (l1 + s1) = m := by rw [IntKind.wrap_i64]; omega
                have hcase : (x < 0 ∧ m = 0) ∨ (x = 0 ∧ m = 0) ∨ (0 < x ∧ m = x) := by omega
                have hu1 : t - u0 - s1 = t - u1 := by omega
                have HU := Lib.hid (And.intro hu1 (And.intro q1 (And.intro q2 q3)))
                have hr1 : -1000 ≤ t - u0 - s1 ∧ t - u0 - s1 ≤ 1000 := by omega
                clear q1 q2 q3 hps hu0 hm hsum hxs hpl' her hu1
                subst hA
                have hd : decide (l1 < 0) = false := by simp only [decide_eq_false_iff_not]; omega
                rcases hcase with ⟨hxn, rfl⟩ | ⟨rfl, rfl⟩ | ⟨hxn, rfl⟩
                all_goals
                  go_wp2_with fail
                  refine HU.out.2.1.mono ?_
                  rintro e w5 ⟨rfl, rfl⟩
                  go_wp2_with fail
                  refine HU.out.2.2.1.mono ?_
                  rintro e w6 ⟨rfl, h6⟩
                  have HS6 := Lib.hid (hst.out.no h6)
                  have hc6 := in_cell (h6.cell hcx0 (fun h => h))
                  have ls : ∀ p : In (Ch No w6), Calls Try.prog 26 #[.pointer (some ⟨g, 0, none⟩), .int .i64 (j : Nat)] p.w fun e w' => e = .returned (.int .i64 s1) ∧ Ch No p.w w' := fun p => (HU.out.2.2.2 p.w (HS6.out.no p.h).led).mono fun e w' ⟨h1, h2⟩ => ⟨h1, h2 ▸ Ch.refl No _⟩
                  clear h6 hst hcx0
                  go_wp2_with fail
                  (refine wp_region_in (Ch No _) (by kernel_rfl) (by kernel_rfl) (Ch.refl _ _) (fun _ h => ch_drawn h) ?_)
                  repeat (go_big_quiet_step (exact in_ch (by with_reducible exact ls _)))
                  (refine wpQuiet_nil ?_; intro wq0 hw'; obtain ⟨pw, hw''⟩ := hw'; subst hw'')
                  go_wp2_with fail
                  go_roundw
                  case rel => exact ⟨j + 1, by omega, by go_num, by rw [HU1.out, ← HU.out.1], Lib.hid (HS6.out.no pw.h)⟩
                  case measure => simp [intOf]; omega
              · obtain rfl : j = xs.length := by omega
                have hsum : t - psum M xs.length = 0 := by rw [HT.out.2, HT.out.1]; simp; try omega
                rw [hsum]
                have hpl2 := poorAll_len M
                have q := poor_any wr W.heap.size g k M hst.out.led (by omega) 1000
                rw [List.take_of_length_le (by have : (1000 : Int).toNat = 1000 := rfl
                                               omega)] at q
                have HQ := Lib.hid q
                have hpm' := hpm.out
                clear q hsum
                go_wp2_with fail
                refine HQ.out.mono ?_
                rintro e w6 ⟨v, rfl, o6, h6⟩
                obtain ⟨A6, c6, rfl, _⟩ := o6.slice_ints
                generalize (poorAll M).length = nq at *
                have HS6 := Lib.hid (hst.out.no h6)
                clear o6 h6 hst
                go_wp2_with fail
                go_roundw
                case rel => exact ⟨pre ++ [y], post, M, by rw [hx.out]; simp [Hid], by simp, by rw [List.length_append]; exact HS6⟩
                case measure => simp [intOf]; omega

theorem budgetSums_walk (W : World) (a0 : Option Addr) (cap0 : Nat) (xs0 : List Int) (a1 : Option Addr) (cap1 : Nat) (xs1 : List Int) (c0 : Cls W a0 (ints .i64 xs0)) (_l0 : xs0.length ≤ cap0) (b0 : xs0.length * 8 ≤ 140737488351232) (w0 : ∀ x ∈ xs0, (Lit.int .i64 x).wf = true)
    (c1 : Cls W a1 (ints .i64 xs1)) (_l1 : xs1.length ≤ cap1) (b1 : xs1.length * 8 ≤ 140737488351232) (w1 : ∀ x ∈ xs1, (Lit.int .i64 x).wf = true) :
    Calls Try.prog 8 #[.slice a0 xs0.length cap0, .slice a1 xs1.length cap1] W fun e w' => e = .returned (.bool true) ∧ Below W.heap.size W w' :=
  (budgetSums_core W a0 cap0 xs0 a1 cap1 xs1 c0 (fun x hx => by have := bounds_i64 (w0 x hx); unfold wfI; omega) (by omega) c1 (fun x hx => by have := bounds_i64 (w1 x hx); unfold wfI; omega) (by omega)).mono fun e w' ⟨h1, h2⟩ => ⟨h1, h2.same⟩
end Go.Proofs.Ytjphocpnmhheeaa
