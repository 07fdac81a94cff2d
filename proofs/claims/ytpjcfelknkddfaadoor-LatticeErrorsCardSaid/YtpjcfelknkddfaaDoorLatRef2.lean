/- The document's check of a list of labels, and what a mask is closed to. -/
import Derived.Test.YtpjcfelknkddfaaDoorLatRef
namespace Go.Proofs.YtpjcfelknkddfaaDoor
open Go.RowKit

/-- the error of labels behind those of pre -/
def chkG : List (Nat × Nat) → List (Nat × Nat) → Int
  | _, [] => 0
  | pre, x :: xs => if 15 < x.1 then 23 else if x ∈ pre then 5 else chkG (pre ++ [x]) xs
/-- the error of a list of labels -/
def chkL (Ls : List (Nat × Nat)) : Int := if Ls.length < 1 ∨ 16 < Ls.length then 3 else chkG [] Ls
/-- what k of the labels, of a mask, close to: is y among it? -/
def clA (Ls : List (Nat × Nat)) (m : Nat) (y : Nat × Nat) (n : Nat) : Bool := (List.range n).any fun k => m.testBit k && ((Ls[k]?).map fun x => dmB x y).getD false
theorem clA_zero (Ls : List (Nat × Nat)) (m : Nat) (y : Nat × Nat) : clA Ls m y 0 = false := rfl
theorem clA_succ {Ls : List (Nat × Nat)} {m : Nat} {y x : Nat × Nat} {n : Nat} (h : Ls[n]? = some x) : clA Ls m y (n + 1) = (clA Ls m y n || (m.testBit n && dmB x y)) := by
  unfold clA
  rw [List.range_succ, List.any_append]
  simp [h]
/-- the mask of the first j labels that are closed to -/
def clT (Ls : List (Nat × Nat)) (m j : Nat) : Nat := msk ((Ls.take j).map fun y => clA Ls m y Ls.length)
theorem clT_lt {Ls : List (Nat × Nat)} {m j : Nat} (hj : j ≤ 16) : clT Ls m j < 65536 := by
  have h1 := msk_lt ((Ls.take j).map fun y => clA Ls m y Ls.length)
  have h2 : 2 ^ ((Ls.take j).map fun y => clA Ls m y Ls.length).length ≤ 2 ^ 16 := Nat.pow_le_pow_right (by omega) (by simp; omega)
  unfold clT
  omega
theorem clT_all {Ls : List (Nat × Nat)} {m j : Nat} (h : Ls.length ≤ j) : clT Ls m j = cl Ls m := by unfold clT cl; rw [List.take_of_length_le h]; rfl
theorem clT_step {Ls pre post : List (Nat × Nat)} {y : Nat × Nat} {m j : Nat} {b : Bool} (e : Ls = pre ++ y :: post) (hp : pre.length = j) (h : clA Ls m y Ls.length = b) : clT Ls m (j + 1) = clT Ls m j + if b then 2 ^ j else 0 := by
  obtain ⟨h1, h2⟩ := take_succ_split e hp
  unfold clT
  rw [h1, h2, List.map_append, List.map_cons, List.map_nil, h]
  cases b
  · rw [msk_false]; simp
  · rw [msk_true, List.length_map, hp]; simp

section
variable {w w' : World} {A : Option Addr} {c N : Nat} {Ls : List (Nat × Nat)}
set_option maxHeartbeats 2000000 in
theorem RCheck_any (hL : Rws w A 2 (Ls.map labR)) (hlen : Ls.length = N) (hN : N ≤ 1000000) :
    Calls Tryd.prog 10 #[.slice A N c] w fun e w' => e = .returned (.int .i64 (chkL Ls)) ∧ Ch No w w' := by
  have HL := Lib.hid (And.intro hL hlen)
  by_cases h1 : N < 1
  · have HI : Hid (chkL Ls = 3) := Lib.hid (by unfold chkL; rw [if_pos (.inl (by omega))])
    clear hL hlen
    go_enter Tryd.func10, Tryd.ntmps10
    go_wp2_with fail
    go_ret
    exact ⟨ret_i64 HI.out.symm, Ch.refl _ _⟩
  by_cases h2 : 16 < N
  · have HI : Hid (chkL Ls = 3) := Lib.hid (by unfold chkL; rw [if_pos (.inr (by omega))])
    clear hL hlen
    go_enter Tryd.func10, Tryd.ntmps10
    go_wp2_with fail
    go_ret
    exact ⟨ret_i64 HI.out.symm, Ch.refl _ _⟩
  have HI : Hid (chkL Ls = chkG [] Ls) := Lib.hid (by unfold chkL; rw [if_neg (by omega)])
  clear hL hlen
  go_enter Tryd.func10, Tryd.ntmps10
  go_wp2_with fail
  go_loopw [3, 4] (fun ix _ wr => ∃ (j : Nat) (pre post : List (Nat × Nat)), ix = .int .i64 j ∧ Hid (Ls = pre ++ post ∧ pre.length = j ∧ chkG pre post = chkL Ls) ∧ Hid (Ch No w wr)) (fun ix _ _ => N - (intOf ix).toNat)
  case atStart => exact ⟨0, [], Ls, rfl, Lib.hid ⟨rfl, rfl, HI.out.symm⟩, Lib.hid (Ch.refl _ _)⟩
  case round =>
    obtain ⟨j, pre, post, rfl, hq, hw⟩ := hrel
    have hln := congrArg List.length hq.out.1
    rw [HL.out.2, List.length_append, hq.out.2.1] at hln
    cases post with
    | nil =>
      simp at hln
      have hj : N ≤ j := by omega
      clear hln
      go_wp2_with fail
      go_ret
      exact ⟨ret_i64 hq.out.2.2, hw.out⟩
    | cons y post =>
      rw [List.length_cons] at hln
      have hj : j < N := by omega
      obtain ⟨b, off, hA, c0, c1⟩ := (HL.out.1.no hw.out).lab hq.out.1
      rw [hq.out.2.1] at c0 c1
      subst hA
      clear hln
      have HC := Lib.hid (show chkL Ls = if 15 < y.1 then 23 else if y ∈ pre then 5 else chkG (pre ++ [y]) post from hq.out.2.2.symm)
      by_cases hy : 15 < y.1
      · rw [if_pos hy] at HC
        go_wp2_with fail
        go_ret
        exact ⟨ret_i64 HC.out.symm, hw.out⟩
      rw [if_neg hy] at HC
      go_wp2_with fail
      clear hy
      go_loopw [4] (fun kx wq => ∃ (k : Nat), k ≤ j ∧ kx = .int .i64 k ∧ Hid (∀ z ∈ pre.take k, z ≠ y) ∧ Hid (Ch No wr wq)) (fun kx _ => N - (intOf kx).toNat)
      case atStart => exact ⟨0, by omega, rfl, Lib.hid (by simp), Lib.hid (Ch.refl _ _)⟩
      case round =>
        obtain ⟨k, hk, rfl, hr, hv⟩ := hrel
        by_cases hkj : k < j
        · obtain ⟨p1, z, p2, e, hp, _⟩ := split_at (xs := pre) (i := k) (by rw [hq.out.2.1]; exact hkj)
          have e2 : Ls = p1 ++ z :: (p2 ++ y :: post) := by rw [hq.out.1, e]; simp
          obtain ⟨b2, off2, hA2, d0, d1⟩ := (HL.out.1.no (hw.out.trans hv.out)).lab e2
          rw [hp] at d0 d1
          cases hA2
          replace c0 := in_cell (hv.out.cell c0 (fun h => h))
          replace c1 := in_cell (hv.out.cell c1 (fun h => h))
          replace d0 := in_cell d0
          replace d1 := in_cell d1
          have hkN : k < N := by omega
          have E := Lib.hid (And.intro e (And.intro hp (take_succ_split e hp)))
          clear e hp e2
          by_cases hz : z = y
          · have hea := fun w => eqI z y w (decide_eq_true hz)
            have HC2 : Hid (chkL Ls = 5) := Lib.hid (by rw [HC.out, if_pos (by rw [← hz, E.out.1]; simp)])
            clear hz
            go_wp2_with fail
            (refine wp_region_in (Ch No _) (by kernel_rfl) (by kernel_rfl) (Ch.refl _ _) (fun _ h => ch_drawn h) ?_)
            repeat (go_big_quiet_step (fail))
            (refine wpQuiet_nil ?_; intro wq0 hw'; obtain ⟨pw, hw''⟩ := hw'; subst hw'')
            go_wp2_with fail
            go_ret
            exact ⟨ret_i64 HC2.out.symm, (hw.out.trans hv.out).trans pw.h⟩
          · have hea := fun w => eqI z y w (decide_eq_false hz)
            have HZ := Lib.hid hz
            clear hz
            go_wp2_with fail
            (refine wp_region_in (Ch No _) (by kernel_rfl) (by kernel_rfl) (Ch.refl _ _) (fun _ h => ch_drawn h) ?_)
            repeat (go_big_quiet_step (fail))
            (refine wpQuiet_nil ?_; intro wq0 hw'; obtain ⟨pw, hw''⟩ := hw'; subst hw'')
            have H5 := Lib.hid (hv.out.trans pw.h)
            generalize pw.w = w5 at *
            clear pw c0 c1 d0 d1 hea
            go_wp2_with fail
            go_roundw
            case rel => exact ⟨k + 1, by omega, by simp, Lib.hid (by
              rw [E.out.2.2.2]
              intro u hu
              rcases List.mem_append.1 hu with hu | hu
              · exact hr.out u (by rw [E.out.2.2.1]; exact hu)
              · rw [show u = z from by simpa using hu]
                exact HZ.out), H5⟩
            case measure => simp [intOf]; omega
        · have HN : Hid (¬ y ∈ pre) := Lib.hid (fun h => hr.out y (by rw [List.take_of_length_le (by rw [hq.out.2.1]; omega)]; exact h) rfl)
          have HQ : Hid (Ls = (pre ++ [y]) ++ post ∧ (pre ++ [y]).length = j + 1 ∧ chkG (pre ++ [y]) post = chkL Ls) := Lib.hid ⟨by rw [hq.out.1]; simp, by simp [hq.out.2.1], by rw [HC.out, if_neg HN.out]⟩
          have H5 := Lib.hid (hw.out.trans hv.out)
          clear hr hv c0 c1 HC hw
          go_wp2_with fail
          go_roundw
          case rel => exact ⟨j + 1, pre ++ [y], post, by simp, HQ, H5⟩
          case measure => simp [intOf]; omega
set_option maxHeartbeats 4000000 in
theorem RClose_any (hL : Rws w A 2 (Ls.map labR)) (hlen : Ls.length = N) (hN : N ≤ 16) (ok : okL Ls) (m : Nat) (hm : m < 4294967296) :
    Calls Tryd.prog 15 #[.slice A N c, .int .u32 m] w fun e w' => e = .returned (.int .u32 ((cl Ls m : Nat) : Int)) ∧ Ch No w w' := by
  have HL := Lib.hid (And.intro hL (And.intro hlen (And.intro ok hm)))
  clear hL hlen ok hm
  go_enter Tryd.func15, Tryd.ntmps15
  go_wp2_with fail
  go_loopw [5, 6, 7, 8] (fun mk ix _ _ wr => ∃ (j q : Nat), j ≤ N ∧ q < 65536 ∧ mk = .int .u32 q ∧ ix = .int .i64 j ∧ Hid (q = clT Ls m j) ∧ Hid (Ch No w wr)) (fun _ ix _ _ _ => N - (intOf ix).toNat)
  case atStart => exact ⟨0, 0, by omega, by omega, rfl, rfl, Lib.hid rfl, Lib.hid (Ch.refl _ _)⟩
  case round =>
    obtain ⟨j, q, hj, hqb, rfl, rfl, hq, hw⟩ := hrel
    by_cases hlt : j < N
    · obtain ⟨pre, y, post, e, hp, _⟩ := split_at (xs := Ls) (i := j) (by rw [HL.out.2.1]; exact hlt)
      have E := Lib.hid (And.intro e (And.intro hp (HL.out.2.2.1 y (by rw [e]; simp))))
      obtain ⟨b, off, hA, c0, c1⟩ := (HL.out.1.no hw.out).lab e
      rw [hp] at c0 c1
      clear e hp
      subst hA
      go_wp2_with fail
      go_loopw [7, 8] (fun sm kx wq => ∃ (k : Nat) (s : Bool), k ≤ N ∧ sm = .bool s ∧ kx = .int .i64 k ∧ Hid (s = clA Ls m y k) ∧ Hid (Ch No wr wq)) (fun _ kx _ => N - (intOf kx).toNat)
      case atStart => exact ⟨0, false, by omega, rfl, rfl, Lib.hid rfl, Lib.hid (Ch.refl _ _)⟩
      case round =>
        obtain ⟨k, s, hk, rfl, rfl, hs, hv⟩ := hrel
        by_cases hkN : k < N
        · obtain ⟨p1, z, p2, e2, hp2, hz⟩ := split_at (xs := Ls) (i := k) (by rw [HL.out.2.1]; exact hkN)
          have HS := Lib.hid (clA_succ (m := m) (y := y) hz)
          have HZ := Lib.hid (HL.out.2.2.1 z (by rw [e2]; simp))
          obtain ⟨b2, off2, hA2, d0, d1⟩ := (HL.out.1.no (hw.out.trans hv.out)).lab e2
          rw [hp2] at d0 d1
          cases hA2
          replace c0 := in_cell (hv.out.cell c0 (fun h => h))
          replace c1 := in_cell (hv.out.cell c1 (fun h => h))
          replace d0 := in_cell d0
          replace d1 := in_cell d1
          clear e2 hp2 hz
          have HH := Lib.hid (fun w => (RHas5_any m k w HL.out.2.2.2 (by omega)).mono (fun e w' (h : e = .returned (.bool (m.testBit k)) ∧ w = w') => (⟨h.1, h.2 ▸ Ch.refl No w⟩ : e = .returned (.bool (m.testBit k)) ∧ Ch No w w')))
          have HD := Lib.hid (fun w => RDominates_any z.1 z.2 y.1 y.2 w HZ.out.2 E.out.2.2.2)
          cases s with
          | true =>
            go_wp2_with fail
            (refine wp_region_in (Ch No _) (by kernel_rfl) (by kernel_rfl) (Ch.refl _ _) (fun _ h => ch_drawn h) ?_)
            repeat (go_big_quiet_step (exact in_ch (by with_reducible first | exact HH.out _ | exact HD.out _)))
            (refine wpQuiet_nil ?_; intro wq0 hw'; obtain ⟨pw, hw''⟩ := hw'; subst hw'')
            have H5 := Lib.hid (hv.out.trans pw.h)
            generalize pw.w = w5 at *
            clear pw c0 c1 d0 d1
            go_wp2_with fail
            go_roundw
            case rel => exact ⟨k + 1, true, by omega, rfl, by simp, Lib.hid (by rw [HS.out, ← hs.out]; simp), H5⟩
            case measure => simp [intOf]; omega
          | false =>
            cases hh : m.testBit k with
            | false =>
              have HB := Lib.hid hh
              rw [hh] at HH
              clear hh
              go_wp2_with fail
              (refine wp_region_in (Ch No _) (by kernel_rfl) (by kernel_rfl) (Ch.refl _ _) (fun _ h => ch_drawn h) ?_)
              repeat (go_big_quiet_step (exact in_ch (by with_reducible first | exact HH.out _ | exact HD.out _)))
              (refine wpQuiet_nil ?_; intro wq0 hw'; obtain ⟨pw, hw''⟩ := hw'; subst hw'')
              have H5 := Lib.hid (hv.out.trans pw.h)
              generalize pw.w = w5 at *
              clear pw c0 c1 d0 d1
              go_wp2_with fail
              go_roundw
              case rel => exact ⟨k + 1, false, by omega, rfl, by simp, Lib.hid (by rw [HS.out, ← hs.out]; simp [HB.out]), H5⟩
              case measure => simp [intOf]; omega
            | true =>
              cases hd : dmB z y with
              | true =>
                have HB := Lib.hid (And.intro hh hd)
                rw [hh] at HH
                rw [show domB z.1 z.2 y.1 y.2 = true from hd] at HD
                clear hh hd
                go_wp2_with fail
                (refine wp_region_in (Ch No _) (by kernel_rfl) (by kernel_rfl) (Ch.refl _ _) (fun _ h => ch_drawn h) ?_)
                repeat (go_big_quiet_step (exact in_ch (by with_reducible first | exact HH.out _ | exact HD.out _)))
                (refine wpQuiet_nil ?_; intro wq0 hw'; obtain ⟨pw, hw''⟩ := hw'; subst hw'')
                have H5 := Lib.hid (hv.out.trans pw.h)
                generalize pw.w = w5 at *
                clear pw c0 c1 d0 d1
                go_wp2_with fail
                go_roundw
                case rel => exact ⟨k + 1, true, by omega, rfl, by simp, Lib.hid (by rw [HS.out, ← hs.out]; simp [HB.out]), H5⟩
                case measure => simp [intOf]; omega
              | false =>
                have HB := Lib.hid (And.intro hh hd)
                rw [hh] at HH
                rw [show domB z.1 z.2 y.1 y.2 = false from hd] at HD
                clear hh hd
                go_wp2_with fail
                (refine wp_region_in (Ch No _) (by kernel_rfl) (by kernel_rfl) (Ch.refl _ _) (fun _ h => ch_drawn h) ?_)
                repeat (go_big_quiet_step (exact in_ch (by with_reducible first | exact HH.out _ | exact HD.out _)))
                (refine wpQuiet_nil ?_; intro wq0 hw'; obtain ⟨pw, hw''⟩ := hw'; subst hw'')
                have H5 := Lib.hid (hv.out.trans pw.h)
                generalize pw.w = w5 at *
                clear pw c0 c1 d0 d1
                go_wp2_with fail
                go_roundw
                case rel => exact ⟨k + 1, false, by omega, rfl, by simp, Lib.hid (by rw [HS.out, ← hs.out]; simp [HB.out]), H5⟩
                case measure => simp [intOf]; omega
        · have HK : Hid (clA Ls m y Ls.length = s) := Lib.hid (by rw [hs.out, HL.out.2.1, show k = N from by omega])
          have HT := Lib.hid (clT_step (m := m) E.out.1 E.out.2.1 HK.out)
          have H5 := Lib.hid (hw.out.trans hv.out)
          clear hs hv c0 c1 hw HK
          cases s with
          | true =>
            go_wp2_with fail
            refine (Power_any j _ (by omega)).mono ?_
            rintro e w6 ⟨rfl, rfl⟩
            have hpj : pow2 j ≤ 32768 := by unfold pow2; have := Nat.pow_le_pow_right (n := 2) (by omega) (show j ≤ 15 by omega); omega
            have HP : Hid (pow2 j = 2 ^ j) := Lib.hid rfl
            generalize pow2 j = p at *
            go_wp2_with fail
            go_roundw
            case rel => exact ⟨j + 1, clT Ls m (j + 1), by omega, clT_lt (by omega), by rw [HT.out, ← hq.out, ← HP.out]; simp, by simp, Lib.hid rfl, H5⟩
            case measure => simp [intOf]; omega
          | false =>
            go_wp2_with fail
            go_roundw
            case rel => exact ⟨j + 1, q, by omega, hqb, rfl, by simp, Lib.hid (by rw [HT.out, hq.out]; simp), H5⟩
            case measure => simp [intOf]; omega
    · have hf : q = cl Ls m := by rw [hq.out]; exact clT_all (by rw [HL.out.2.1]; omega)
      clear hq
      subst hf
      go_wp2_with fail
      go_ret
      exact ⟨rfl, hw.out⟩
end
end Go.Proofs.YtpjcfelknkddfaaDoor
