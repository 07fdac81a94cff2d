/- the reference's Same on slices of slices of bytes; its Wrap. -/
import Derived.Test.YtdkkffmnpholdaaFrmRef
namespace Go.Proofs.Ytdkkffmnpholdaa
open Go.RowKit

theorem Bds.at {w : World} {O : Option Addr} {bs pre post : List (List Int)} {x : List Int} (h : Bds w O bs) (e : bs = pre ++ x :: post) :
    ∃ b off A c, O = some ⟨b, off, none⟩ ∧ w.cell? ⟨b, off + pre.length, none⟩ = some (.slice A x.length c) ∧ Cls w A (ints .u8 x) := by
  obtain ⟨ps, h1, h2, h3⟩ := h
  rw [e] at h1
  obtain ⟨p1, p2, rfl, e1, e2⟩ := List.map_eq_append_iff.1 h1
  obtain ⟨p, p3, rfl, e3, e4⟩ := List.map_eq_cons_iff.1 e2
  obtain ⟨b, off, hO, hc⟩ := h2 (p1.map Prt.enc) p.enc (p3.map Prt.enc) (by simp)
  have hl : (p1.map Prt.enc).length = pre.length := by rw [← e1]; simp
  rw [hl] at hc
  refine ⟨b, off, p.A, p.c, hO, ?_, ?_⟩
  · rw [hc, ← e3]; rfl
  · rw [← e3]; exact h3 p (by simp)

set_option maxHeartbeats 4000000 in
set_option maxRecDepth 100000 in
theorem FSame_any (w : World) (O : Option Addr) (co : Nat) (bs : List (List Int)) (O' : Option Addr) (co' : Nat) (bs' : List (List Int)) (h : Bds w O bs) (h' : Bds w O' bs') (hb : ∀ b ∈ bs, ∀ x ∈ b, isB x) (hb' : ∀ b ∈ bs', ∀ x ∈ b, isB x) (hl : bs.length ≤ 100000000) :
    Calls Try.prog 15 #[.slice O bs.length co, .slice O' bs'.length co'] w fun e w' => e = .returned (.bool (decide (bs = bs'))) ∧ Ch No w w' := by
  have HC := Lib.hid (And.intro (And.intro h hb) (And.intro h' hb'))
  clear h h' hb hb'
  by_cases hxy : bs.length = bs'.length
  · have hbb : ((bs.length : Int) == (bs'.length : Int)) = true := by simp only [beq_iff_eq]; omega
    have HE := Lib.hid hxy
    clear hxy
    go_enter Try.func15, Try.ntmps15
    go_wp2_with fail
    go_loopw [5] (fun i wr => ∃ pre post post' : List (List Int), Hid (bs = pre ++ post ∧ bs' = pre ++ post') ∧ i = .int .i64 pre.length ∧ Hid (Ch No w wr)) (fun i _ => bs.length - (intOf i).toNat)
    case atStart => exact ⟨[], bs, bs', Lib.hid ⟨rfl, rfl⟩, rfl, Lib.hid (Ch.refl No w)⟩
    case round =>
      obtain ⟨pre, post, post', hx, rfl, hc⟩ := hrel
      cases post with
      | nil =>
        obtain rfl : pre = bs := by have := hx.out.1; simpa using this.symm
        have hy : bs' = pre := by
          have h1 := hx.out.2
          have h2 := congrArg List.length h1
          rw [List.length_append, ← HE.out] at h2
          have h3 : post' = [] := List.eq_nil_of_length_eq_zero (by omega)
          rw [h1, h3, List.append_nil]
        have HQ := Lib.hid (show decide (pre = bs') = true by rw [hy]; simp)
        clear hy
        go_wp2_with fail
        go_ret
        exact ⟨ret_bool HQ.out.symm, hc.out⟩
      | cons x post =>
        have hlen : pre.length < bs.length := by rw [hx.out.1]; simp
        cases post' with
        | nil =>
          exfalso
          have h1 := congrArg List.length hx.out.2
          have := HE.out
          simp at h1
          omega
        | cons y post' =>
          have hlen' : pre.length < bs'.length := by rw [hx.out.2]; simp
          obtain ⟨b, off, A1, c1, rfl, hcx, X1⟩ := (HC.out.1.1.no hc.out).at hx.out.1
          obtain ⟨b', off', A2, c2, rfl, hcy, X2⟩ := (HC.out.2.1.no hc.out).at hx.out.2
          have hxb := HC.out.1.2 x (by rw [hx.out.1]; simp)
          have hyb := HC.out.2.2 y (by rw [hx.out.2]; simp)
          have ls : ∀ p : In (Ch No wr), Calls Try.prog 14 #[.slice A1 x.length c1, .slice A2 y.length c2] p.w fun e w' => e = .returned (.bool (decide (x = y))) ∧ Ch No p.w w' :=
            fun p => (Same_any p.w A1 c1 x A2 c2 y (X1.ch p.h (fun _ _ h => h)) (X2.ch p.h (fun _ _ h => h)) hxb hyb).mono fun e w' ⟨h1, h2⟩ => ⟨h1, h2 ▸ Ch.refl No _⟩
          have g1 := in_cell hcx
          have g2 := in_cell hcy
          clear X1 X2 hxb hyb hcx hcy
          by_cases hxy : x = y
          · have hd : decide (x = y) = true := by simpa using hxy
            rw [hd] at ls
            have hm : Hid (bs = (pre ++ [x]) ++ post ∧ bs' = (pre ++ [x]) ++ post') := Lib.hid ⟨by rw [hx.out.1]; simp, by rw [hx.out.2, hxy]; simp⟩
            clear hxy hd
            go_wp2_with fail
            (refine wp_region_in (Ch No _) (by kernel_rfl) (by kernel_rfl) (Ch.refl _ _) (fun _ h => ch_drawn h) ?_)
            repeat (go_big_quiet_step (exact in_ch (by with_reducible exact ls _)))
            (refine wpQuiet_nil ?_; intro wq0 hw'; obtain ⟨pw, hw''⟩ := hw'; subst hw'')
            go_wp2_with fail
            go_roundw
            case rel => exact ⟨pre ++ [x], post, post', hm, by simp, Lib.hid (hc.out.trans pw.h)⟩
            case measure => simp [intOf]; omega
          · have hd : decide (x = y) = false := by simpa using hxy
            rw [hd] at ls
            have HQ := Lib.hid (show decide (bs = bs') = false by
              simp only [decide_eq_false_iff_not]
              intro e
              rw [hx.out.1, hx.out.2] at e
              have := List.append_cancel_left e
              simp only [List.cons.injEq] at this
              exact hxy this.1)
            clear hxy hd
            go_wp2_with fail
            (refine wp_region_in (Ch No _) (by kernel_rfl) (by kernel_rfl) (Ch.refl _ _) (fun _ h => ch_drawn h) ?_)
            repeat (go_big_quiet_step (exact in_ch (by with_reducible exact ls _)))
            (refine wpQuiet_nil ?_; intro wq0 hw'; obtain ⟨pw, hw''⟩ := hw'; subst hw'')
            go_wp2_with fail
            go_ret
            exact ⟨ret_bool HQ.out.symm, hc.out.trans pw.h⟩
  · have hbb : ((bs.length : Int) == (bs'.length : Int)) = false := by simp only [beq_eq_false_iff_ne, ne_eq]; omega
    have hne : decide (bs = bs') = false := by simp only [decide_eq_false_iff_not]; intro e; exact hxy (by rw [e])
    rw [hne]
    clear hxy hne
    go_enter Try.func15, Try.ntmps15
    go_wp2_with fail
    go_ret
    exact ⟨rfl, Ch.refl No w⟩

set_option maxHeartbeats 2000000 in
set_option maxRecDepth 100000 in
theorem FRWrap_long (w : World) (A : Option Addr) (c : Nat) (xs : List Int) (hl : xs.length ≤ 100000000) (h : 1024 < xs.length) :
    Calls Try.prog 18 #[.slice A xs.length c] w fun e w' => e = .returned (.tuple #[.slice none 0 0, .int .i64 2]) ∧ w = w' := by
  go_enter Try.func18, Try.ntmps18
  go_wp2_with fail
  go_ret2
  exact ⟨rfl, rfl⟩

set_option maxHeartbeats 2000000 in
set_option maxRecDepth 100000 in
theorem FRWrap_ok (w : World) (A : Option Addr) (c : Nat) (xs : List Int) (hx : Cls w A (ints .u8 xs)) (h : xs.length ≤ 1024) :
    Calls Try.prog 18 #[.slice A xs.length c] w fun e w' => ∃ A' c', e = .returned (.tuple #[.slice A' (wrp xs).length c', .int .i64 0]) ∧ OwnS w' w.heap.size 5 (.slice A' (wrp xs).length c') (ints .u8 (wrp xs)) ∧ Ch No w w' := by
  have HX := Lib.hid hx
  clear hx
  go_enter Try.func18, Try.ntmps18
  go_wp2_with fail
  have q := RPut_any xs.length 2 w (by omega)
  rw [show heldB 2 = 2 from rfl] at q
  obtain ⟨hd, hhd⟩ : ∃ hd, putB xs.length 2 = hd := ⟨_, rfl⟩
  have hh2 : hd.length = 2 := by rw [← hhd]; simp
  rw [hhd] at q
  have HH := Lib.hid (And.intro hhd hh2)
  clear hhd hh2
  refine q.mono ?_
  rintro e w1 ⟨A1, c1, rfl, o1, h1⟩
  obtain ⟨A1', c1', e1, X1, _⟩ := o1.slice_ints
  obtain ⟨rfl, rfl⟩ : A1 = A1' ∧ c1 = c1' := by simpa using e1
  have H1 := Lib.hid (And.intro X1 h1)
  clear o1 h1 e1 X1 q
  go_wp2_with fail
  have w2 : Cls (w1.alloc (.cells #[.slice A1 hd.length c1, .slice A xs.length c] 22)) (some ⟨w1.heap.size, 0, none⟩) ([(⟨A1, c1, hd⟩ : Prt), ⟨A, c, xs⟩].map Prt.enc) := Cls.lit w1 22 [.slice A1 hd.length c1, .slice A xs.length c]
  have C2 : Ch No w1 (w1.alloc (.cells #[.slice A1 hd.length c1, .slice A xs.length c] 22)) := (Ch.refl No w1).alloc _
  have H2 := Lib.hid (And.intro w2 C2)
  clear w2 C2
  generalize w1.alloc (.cells #[.slice A1 hd.length c1, .slice A xs.length c] 22) = w2 at *
  have q := RJoin_any w2 (some ⟨w1.heap.size, 0, none⟩) 2 [⟨A1, c1, hd⟩, ⟨A, c, xs⟩] H2.out.1 (by
    intro p hp
    rcases List.mem_cons.1 hp with rfl | hp
    · exact H1.out.1.ch H2.out.2 (fun _ _ h => h)
    · obtain rfl := by simpa using hp
      exact HX.out.ch (H1.out.2.trans H2.out.2) (fun _ _ h => h)) (by simp) (by
    intro p hp
    rcases List.mem_cons.1 hp with rfl | hp
    · have := HH.out.2; simp only; omega
    · obtain rfl := by simpa using hp
      simp only; omega)
  rw [show [(⟨A1, c1, hd⟩ : Prt), ⟨A, c, xs⟩].flatMap (·.bs) = wrp xs from by simp [wrp, HH.out.1]] at q
  have HQ := Lib.hid q
  clear q
  obtain ⟨ys, hys⟩ : ∃ ys, wrp xs = ys := ⟨_, rfl⟩
  rw [hys] at HQ
  have HYS := Lib.hid hys
  clear hys
  refine HQ.out.mono ?_
  rintro e w3 ⟨A3, c3, rfl, o3, h3⟩
  have HP := Lib.hid (And.intro (o3.lower (Nat.le_trans H1.out.2.size H2.out.2.size)) ((H1.out.2.trans H2.out.2).trans h3))
  clear o3 h3
  go_wp2_with fail
  go_ret2
  rw [HYS.out]
  exact ⟨A3, c3, rfl, HP.out.1, HP.out.2⟩
end Go.Proofs.Ytdkkffmnpholdaa
