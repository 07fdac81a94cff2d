/- The document's functions of lists of labels: what each comes to. -/
import Derived.Test.YtpjcfelknkddfaaDoorLatIdx
import Derived.Test.YtpjcfelknkddfaaDoorLabRef
namespace Go.Proofs.YtpjcfelknkddfaaDoor
open Go.RowKit

theorem eqI (x y : Nat × Nat) (w : World) {b : Bool} (hb : decide (x = y) = b) : (Op.equalIn 10000 25 (.agg #[.int .u8 x.1, .int .u16 x.2]) (.agg #[.int .u8 y.1, .int .u16 y.2])).run Tryd.prog w = .ok b w := by
  subst hb
  exact eqL x y w
theorem whr_skip {x : Nat × Nat} : ∀ (pre ys : List (Nat × Nat)) (n : Nat), (∀ y ∈ pre, y ≠ x) → whr x (pre ++ ys) n = whr x ys (n + pre.length)
  | [], ys, n, _ => rfl
  | y :: pre, ys, n, h => by
    show (if x = y then some n else whr x (pre ++ ys) (n + 1)) = _
    rw [if_neg (fun e => h y (by simp) e.symm), whr_skip pre ys (n + 1) (fun z hz => h z (by simp [hz])), List.length_cons, show n + 1 + pre.length = n + (pre.length + 1) from by omega]
/-- a label's number, -1 of none -/
def idxL (Ls : List (Nat × Nat)) (x : Nat × Nat) : Int := match whr x Ls 0 with | some i => i | none => -1
theorem idxL_hit {Ls pre post : List (Nat × Nat)} {x : Nat × Nat} {j : Nat} (e : Ls = pre ++ x :: post) (hp : pre.length = j) (h : ∀ y ∈ pre, y ≠ x) : idxL Ls x = j := by
  subst e
  subst hp
  unfold idxL
  rw [whr_skip pre _ 0 h, Nat.zero_add]
  simp [whr]
theorem idxL_none {Ls : List (Nat × Nat)} {x : Nat × Nat} (h : ∀ y ∈ Ls, y ≠ x) : idxL Ls x = -1 := by
  unfold idxL
  have := whr_skip Ls [] 0 h
  rw [List.append_nil] at this
  rw [this]
  rfl
theorem take_succ_split {α : Type} {Ls pre post : List α} {y : α} {j : Nat} (e : Ls = pre ++ y :: post) (hp : pre.length = j) : Ls.take j = pre ∧ Ls.take (j + 1) = pre ++ [y] := by
  subst e
  subst hp
  exact ⟨List.take_left' rfl, by rw [show pre ++ y :: post = (pre ++ [y]) ++ post from by simp, List.take_left' (by simp)]⟩

section
variable {w w' : World} {A : Option Addr} {c N : Nat} {Ls : List (Nat × Nat)}
set_option maxHeartbeats 2000000 in
theorem RIndex_any (hL : Rws w A 2 (Ls.map labR)) (hlen : Ls.length = N) (hN : N ≤ 1000000) (l k : Nat) :
    Calls Tryd.prog 12 #[.slice A N c, .agg #[.int .u8 l, .int .u16 k]] w fun e w' => e = .returned (.int .i64 (idxL Ls (l, k))) ∧ Ch No w w' := by
  have HL := Lib.hid (And.intro hL hlen)
  clear hL hlen
  have X0 : Hid (Ch No w (w.alloc (.cells #[.int .u8 l, .int .u16 k] 25)) ∧ Blk (w.alloc (.cells #[.int .u8 l, .int .u16 k] 25)) w.heap.size 25 [.int .u8 l, .int .u16 k]) := Lib.hid ⟨(Ch.refl No w).alloc _, Blk.new w 25 [.int .u8 l, .int .u16 k]⟩
  go_enter Tryd.func12, Tryd.ntmps12
  go_wp2_with fail
  generalize w.alloc (.cells #[.int .u8 l, .int .u16 k] 25) = w1 at *
  generalize w.heap.size = xb at *
  go_loopw [5] (fun ix wr => ∃ (j : Nat), j ≤ N ∧ ix = .int .i64 j ∧ Hid (∀ y ∈ Ls.take j, y ≠ (l, k)) ∧ Hid (Ch No w1 wr)) (fun ix _ => N - (intOf ix).toNat)
  case atStart => exact ⟨0, by omega, rfl, Lib.hid (by simp), Lib.hid (Ch.refl _ _)⟩
  case round =>
    obtain ⟨j, hj, rfl, hq, hw⟩ := hrel
    by_cases hlt : j < N
    · obtain ⟨pre, y, post, e, hp, _⟩ := split_at (xs := Ls) (i := j) (by rw [HL.out.2]; exact hlt)
      obtain ⟨b, off, hA, c0, c1⟩ := (HL.out.1.no (X0.out.1.trans hw.out)).lab e
      rw [hp] at c0 c1
      have hts := take_succ_split e hp
      have E := Lib.hid (And.intro e (And.intro hp hts))
      clear e hp hts
      subst hA
      replace c0 := in_cell c0
      replace c1 := in_cell c1
      have hB := X0.out.2.ch hw.out (fun h => h)
      have x0 := hB.cell 0
      have x1 := hB.cell 1
      simp only [List.getElem?_cons_zero, List.getElem?_cons_succ] at x0 x1
      replace x0 := in_cell x0
      replace x1 := in_cell x1
      clear hB
      by_cases hy : y = (l, k)
      · have hea := fun w => eqI y (l, k) w (decide_eq_true hy)
        have HI := Lib.hid (idxL_hit (Ls := Ls) (pre := pre) (post := post) (x := (l, k)) (j := j) (by rw [← hy]; exact E.out.1) E.out.2.1 (by have := hq.out; rw [E.out.2.2.1] at this; exact this))
        clear hy
        go_wp2_with fail
        (refine wp_region_in (Ch No _) (by kernel_rfl) (by kernel_rfl) (Ch.refl _ _) (fun _ h => ch_drawn h) ?_)
        repeat (go_big_quiet_step (fail))
        (refine wpQuiet_nil ?_; intro wq0 hw'; obtain ⟨pw, hw''⟩ := hw'; subst hw'')
        go_wp2_with fail
        go_ret
        exact ⟨ret_i64 HI.out.symm, (X0.out.1.trans hw.out).trans pw.h⟩
      · have hea := fun w => eqI y (l, k) w (decide_eq_false hy)
        have HY := Lib.hid hy
        clear hy
        go_wp2_with fail
        (refine wp_region_in (Ch No _) (by kernel_rfl) (by kernel_rfl) (Ch.refl _ _) (fun _ h => ch_drawn h) ?_)
        repeat (go_big_quiet_step (fail))
        (refine wpQuiet_nil ?_; intro wq0 hw'; obtain ⟨pw, hw''⟩ := hw'; subst hw'')
        have H5 := Lib.hid (hw.out.trans pw.h)
        generalize pw.w = w5 at *
        clear pw c0 c1 x0 x1 hea
        go_wp2_with fail
        go_roundw
        case rel => exact ⟨j + 1, by omega, by simp, Lib.hid (by
          rw [E.out.2.2.2]
          intro z hz
          rcases List.mem_append.1 hz with hz | hz
          · exact hq.out z (by rw [E.out.2.2.1]; exact hz)
          · rw [show z = y from by simpa using hz]
            exact HY.out), H5⟩
        case measure => simp [intOf]; omega
    · have HI := Lib.hid (idxL_none (Ls := Ls) (x := (l, k)) (by have := hq.out; rw [List.take_of_length_le (by rw [HL.out.2]; omega)] at this; exact this))
      have HF := Lib.hid (X0.out.1.trans hw.out)
      clear hq hw X0
      go_wp2_with fail
      go_ret
      exact ⟨ret_i64 HI.out.symm, HF.out⟩
set_option maxHeartbeats 2000000 in
theorem RBelow_any (hL : Rws w A 2 (Ls.map labR)) (hlen : Ls.length = N) (hN : N ≤ 16) (ok : okL Ls) (l k : Nat) (hk : k < 65536) :
    Calls Tryd.prog 14 #[.slice A N c, .agg #[.int .u8 l, .int .u16 k]] w fun e w' => e = .returned (.int .u32 ((bel Ls (l, k) : Nat) : Int)) ∧ Ch No w w' := by
  have HL := Lib.hid (And.intro hL (And.intro hlen (And.intro ok hk)))
  clear hL hlen ok hk
  have X0 : Hid (Ch No w (w.alloc (.cells #[.int .u8 l, .int .u16 k] 25)) ∧ Blk (w.alloc (.cells #[.int .u8 l, .int .u16 k] 25)) w.heap.size 25 [.int .u8 l, .int .u16 k]) := Lib.hid ⟨(Ch.refl No w).alloc _, Blk.new w 25 [.int .u8 l, .int .u16 k]⟩
  go_enter Tryd.func14, Tryd.ntmps14
  go_wp2_with fail
  generalize w.alloc (.cells #[.int .u8 l, .int .u16 k] 25) = w1 at *
  generalize w.heap.size = xb at *
  go_loopw [5, 6] (fun mk ix wr => ∃ (j m : Nat), j ≤ N ∧ m < 65536 ∧ mk = .int .u32 m ∧ ix = .int .i64 j ∧ Hid (m = belT Ls (l, k) j) ∧ Hid (Ch No w1 wr)) (fun _ ix _ => N - (intOf ix).toNat)
  case atStart => exact ⟨0, 0, by omega, by omega, rfl, rfl, Lib.hid rfl, Lib.hid (Ch.refl _ _)⟩
  case round =>
    obtain ⟨j, m, hj, hm, rfl, rfl, hq, hw⟩ := hrel
    by_cases hlt : j < N
    · obtain ⟨pre, y, post, e, hp, _⟩ := split_at (xs := Ls) (i := j) (by rw [HL.out.2.1]; exact hlt)
      have E := Lib.hid (And.intro e (And.intro hp (HL.out.2.2.1 y (by rw [e]; simp))))
      obtain ⟨b, off, hA, c0, c1⟩ := (HL.out.1.no (X0.out.1.trans hw.out)).lab e
      rw [hp] at c0 c1
      clear e hp
      subst hA
      replace c0 := in_cell c0
      replace c1 := in_cell c1
      have hB := X0.out.2.ch hw.out (fun h => h)
      have x0 := hB.cell 0
      have x1 := hB.cell 1
      simp only [List.getElem?_cons_zero, List.getElem?_cons_succ] at x0 x1
      replace x0 := in_cell x0
      replace x1 := in_cell x1
      clear hB
      have hD := fun w => RDominates_any l k y.1 y.2 w HL.out.2.2.2 E.out.2.2.2
      cases hd : dmB (l, k) y with
      | true =>
        rw [show domB l k y.1 y.2 = true from hd] at hD
        have HR := Lib.hid (belT_add E.out.1 E.out.2.1 hd)
        clear hd
        have HD := Lib.hid hD
        clear hD
        go_wp2_with fail
        (refine wp_region_in (Ch No _) (by kernel_rfl) (by kernel_rfl) (Ch.refl _ _) (fun _ h => ch_drawn h) ?_)
        repeat (go_big_quiet_step (exact in_ch (by with_reducible first | exact HD.out _)))
        (refine wpQuiet_nil ?_; intro wq0 hw'; obtain ⟨pw, hw''⟩ := hw'; subst hw'')
        have H5 := Lib.hid (hw.out.trans pw.h)
        generalize pw.w = w5 at *
        clear pw c0 c1 x0 x1
        go_wp2_with fail
        refine (Power_any j _ (by omega)).mono ?_
        rintro e w6 ⟨rfl, rfl⟩
        have hpj : pow2 j ≤ 32768 := by unfold pow2; have := Nat.pow_le_pow_right (n := 2) (by omega) (show j ≤ 15 by omega); omega
        have HP : Hid (pow2 j = 2 ^ j) := Lib.hid rfl
        generalize pow2 j = p at *
        go_wp2_with fail
        go_roundw
        case rel => exact ⟨j + 1, belT Ls (l, k) (j + 1), by omega, belT_lt (by omega), by rw [HR.out, ← hq.out, ← HP.out]; simp, by simp, Lib.hid rfl, H5⟩
        case measure => simp [intOf]; omega
      | false =>
        rw [show domB l k y.1 y.2 = false from hd] at hD
        have HR := Lib.hid (belT_no E.out.1 E.out.2.1 hd)
        clear hd
        have HD := Lib.hid hD
        clear hD
        go_wp2_with fail
        (refine wp_region_in (Ch No _) (by kernel_rfl) (by kernel_rfl) (Ch.refl _ _) (fun _ h => ch_drawn h) ?_)
        repeat (go_big_quiet_step (exact in_ch (by with_reducible first | exact HD.out _)))
        (refine wpQuiet_nil ?_; intro wq0 hw'; obtain ⟨pw, hw''⟩ := hw'; subst hw'')
        have H5 := Lib.hid (hw.out.trans pw.h)
        generalize pw.w = w5 at *
        clear pw c0 c1 x0 x1
        go_wp2_with fail
        go_roundw
        case rel => exact ⟨j + 1, m, by omega, hm, rfl, by simp, Lib.hid (by rw [HR.out]; exact hq.out), H5⟩
        case measure => simp [intOf]; omega
    · have hf : m = bel Ls (l, k) := by rw [hq.out]; exact belT_all (by rw [HL.out.2.1]; omega)
      have HF := Lib.hid (X0.out.1.trans hw.out)
      clear hq hw X0
      subst hf
      go_wp2_with fail
      go_ret
      exact ⟨rfl, HF.out⟩
theorem RHas5_any (m i : Nat) (w : World) (hm : m < 4294967296) (hi : i ≤ 1000000) : Calls Tryd.prog 28 #[.int .u32 m, .int .i64 i] w fun e w' => e = .returned (.bool (m.testBit i)) ∧ w = w' := by
  have hb := bitAt_int m i
  go_enter Tryd.func28, Tryd.ntmps28
  go_wp2_with fail
  refine (Bit_any m i _ (by omega) hi).mono ?_
  rintro e w' ⟨rfl, rfl⟩
  go_wp2_with fail
  go_ret
  exact ⟨rfl, rfl⟩
end
end Go.Proofs.YtpjcfelknkddfaaDoor
