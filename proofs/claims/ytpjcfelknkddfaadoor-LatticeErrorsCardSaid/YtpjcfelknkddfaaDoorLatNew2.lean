/- lattice.New: a lattice, or the error. -/
import Derived.Test.YtpjcfelknkddfaaDoorLatNew
namespace Go.Proofs.YtpjcfelknkddfaaDoor
open Go.RowKit

/-- what New hands back -/
def NewP (w : World) (N : Nat) (Ls : List (Nat × Nat)) (e : Ending) (w' : World) : Prop :=
  (chkL Ls = 0 ∧ ∃ pb A c mb D cd, e = .returned (.tuple #[.pointer (some ⟨pb, 0, none⟩), .int .i64 0]) ∧ Lat w' pb N A c mb D cd Ls ∧ Ch No w w') ∨ (chkL Ls ≠ 0 ∧ e = .returned (.tuple #[.pointer none, .int .i64 (chkL Ls)]) ∧ Ch No w w')
/-- the lattice while it is being made: its labels, its map and its box lie in w2 -/
structure Mk (w w2 : World) (pb N : Nat) (A : Option Addr) (c mb : Nat) (Ls : List (Nat × Nat)) : Prop where
  ch : Ch No w w2
  blk : Blk w2 pb 56 [.slice A N c, .map (some mb), .slice none 0 0]
  lab : Rws w2 A 2 (Ls.map labR)
  old : w.heap.size ≤ mb
  pm : pb = mb + 1
  far : ∀ a, A = some a → a.block < mb
theorem ints_take_succ {Ls pre post : List (Nat × Nat)} {y : Nat × Nat} {j : Nat} (f : Nat × Nat → Int) (e : Ls = pre ++ y :: post) (hp : pre.length = j) : (Ls.take (j + 1)).map f = (Ls.take j).map f ++ [f y] := by
  obtain ⟨h1, h2⟩ := take_succ_split e hp
  rw [h1, h2]
  simp
theorem run_mkmap (w : World) (t : TypeId) : (Instr.makeMap t none).run Tryd.prog w = .ok (.map (some w.heap.size)) (w.alloc (.map #[] 0)) := by
  simp [Instr.makeMap]
section
variable {w : World} {A : Option Addr} {c N : Nat} {Ls : List (Nat × Nat)}
set_option maxHeartbeats 8000000 in
set_option maxRecDepth 100000 in
theorem LNew_any (hL : Rws w A 2 (Ls.map labR)) (hlen : Ls.length = N) (ok : okL Ls) (hN : N ≤ 1000000) :
    Calls Tryd.prog 9 #[.slice A N c] w (NewP w N Ls) := by
  have HL := Lib.hid (And.intro hL (And.intro hlen ok))
  by_cases h1 : N = 0
  · have HI : Hid (chkL Ls = 3) := Lib.hid (by unfold chkL; rw [if_pos (.inl (by omega))])
    clear hL hlen ok
    subst h1
    go_enter Tryd.func9, Tryd.ntmps9
    go_wp2_with fail
    refine bodyPost_ret (v := .tuple #[.pointer none, .int .i64 3]) (by simp [results, Tryd.f9, go_sem]) rfl ?_
    exact .inr ⟨by rw [HI.out]; decide, by rw [HI.out], Ch.refl _ _⟩
  by_cases h2 : 16 < N
  · have HI : Hid (chkL Ls = 3) := Lib.hid (by unfold chkL; rw [if_pos (.inr (by omega))])
    clear hL hlen ok
    go_enter Tryd.func9, Tryd.ntmps9
    go_wp2_with fail
    refine bodyPost_ret (v := .tuple #[.pointer none, .int .i64 3]) (by simp [results, Tryd.f9, go_sem]) rfl ?_
    exact .inr ⟨by rw [HI.out]; decide, by rw [HI.out], Ch.refl _ _⟩
  have HI : Hid (chkL Ls = chkG [] Ls) := Lib.hid (by unfold chkL; rw [if_neg (by omega)])
  have h3 : 1 ≤ N := by omega
  have h4 : ((N : Int) == 0) = false := by simp; omega
  have HCL := Lib.hid (CloneB_any (c := c) hL hlen h3 hN)
  clear hL hlen ok
  go_enter Tryd.func9, Tryd.ntmps9
  go_wp2_with fail
  refine HCL.out.mono ?_
  rintro e w1 ⟨A1, c1, rfl, hl1, hb1, hc1⟩
  have M0 : Hid (Mk w ((w1.alloc (.map #[] 0)).alloc (.cells #[.slice A1 N c1, .map (some w1.heap.size), .slice none 0 0] 56)) (w1.heap.size + 1) N A1 c1 w1.heap.size Ls ∧ ((w1.alloc (.map #[] 0)).alloc (.cells #[.slice A1 N c1, .map (some w1.heap.size), .slice none 0 0] 56)).heap[w1.heap.size]? = some (.map #[] 0)) := by
    have e1 : (w1.alloc (.map #[] 0)).heap.size = w1.heap.size + 1 := by simp
    have hb := Blk.new (w1.alloc (.map #[] 0)) 56 [.slice A1 N c1, .map (some w1.heap.size), .slice none 0 0]
    rw [e1] at hb
    exact Lib.hid ⟨⟨(hc1.alloc _).alloc _, hb, hl1.no (((Ch.refl No w1).alloc _).alloc _), hc1.size, rfl, hb1⟩, (Below.heap_alloc _ _ _ (by simp)).trans (heap_alloc_new w1 _)⟩
  have hmk := run_mkmap w1 53
  clear hl1 hb1 hc1 HCL
  clear h4
  go_wp2_with fail
  clear hmk
  generalize ((w1.alloc (.map #[] 0)).alloc (.cells #[.slice A1 N c1, .map (some w1.heap.size), .slice none 0 0] 56)) = w3 at *
  generalize w1.heap.size = mb at *
  go_loopw [5, 6, 7, 25] (fun _ _ _ ix wr => ∃ (j : Nat) (pre post : List (Nat × Nat)), ix = .int .i64 j ∧ Hid (Ls = pre ++ post ∧ pre.length = j ∧ chkG pre post = chkL Ls) ∧ Hid (Ch (Only mb) w3 wr ∧ wr.heap[mb]? = some (.map (entsFrom pre 0).toArray j))) (fun _ _ _ ix _ => N - (intOf ix).toNat)
  case atStart => exact ⟨0, [], Ls, rfl, Lib.hid ⟨rfl, rfl, HI.out.symm⟩, Lib.hid ⟨Ch.refl _ _, M0.out.2⟩⟩
  case round =>
    obtain ⟨j, pre, post, rfl, hq, hw⟩ := hrel
    have hln := congrArg List.length hq.out.1
    rw [HL.out.2.1, List.length_append, hq.out.2.1] at hln
    have HC := Lib.hid (M0.out.1.ch.trans' hw.out.1 (fun i hi he => by have e : i = mb := he; have := M0.out.1.old; omega))
    have HB := Lib.hid (M0.out.1.blk.ch hw.out.1 (fun h => by have e : mb + 1 = mb := h; omega))
    cases post with
    | nil =>
      simp at hln
      have hj : N ≤ j := by omega
      have HZ : Hid (chkL Ls = 0 ∧ pre = Ls ∧ j = N) := Lib.hid ⟨hq.out.2.2.symm, by rw [hq.out.1]; simp, hln.symm⟩
      clear hln
      have H4 : Hid (Rws wr A1 2 (Ls.map labR) ∧ wr.heap[mb]? = some (.map (entsFrom Ls 0).toArray N) ∧ ∀ a, A1 = some a → a.block < mb + 1) := Lib.hid ⟨M0.out.1.lab.chS hw.out.1 (fun a ha h => by have := M0.out.1.far a ha; have e : a.block = mb := h; omega), by have := hw.out.2; rw [HZ.out.2.1, HZ.out.2.2] at this; exact this, fun a ha => by have := M0.out.1.far a ha; omega⟩
      have HO := Lib.hid M0.out.1.old
      clear hq hw M0
      obtain ⟨w4, e4⟩ : ∃ w4, w4 = wr := ⟨_, rfl⟩
      subst e4
      go_wp2_with fail
      generalize decide (j < N) = bd at *
      go_loopw [9, 46] (fun _ ix wq => ∃ (i cd : Nat) (D : Option Addr), ix = .int .i64 i ∧ i ≤ N ∧ Hid (Ch (Only (mb + 1)) w4 wq ∧ Blk wq (mb + 1) 56 [.slice A1 N c1, .map (some mb), .slice D i cd] ∧ OwnS wq w4.heap.size 26 (.slice D i cd) (ints .u32 ((Ls.take i).map fun x => ((bel Ls x : Nat) : Int))))) (fun _ ix _ => N - (intOf ix).toNat)
      case atStart => exact ⟨0, 0, none, rfl, by omega, Lib.hid ⟨Ch.refl _ _, HB.out, OwnS.nil _ _ _⟩⟩
      case round =>
        obtain ⟨i, cd, D, rfl, hi, hv⟩ := hrel
        have HCW := Lib.hid (HC.out.trans' hv.out.1 (fun k hk he => by have e : k = mb + 1 := he; have := HO.out; omega))
        have HLW := Lib.hid (H4.out.1.chS hv.out.1 (fun a ha h => by have := H4.out.2.2 a ha; have e : a.block = mb + 1 := h; omega))
        by_cases hlt : i < N
        · obtain ⟨pre2, y, post2, e2, hp2, _⟩ := split_at (xs := Ls) (i := i) (by rw [HL.out.2.1]; exact hlt)
          have HT := Lib.hid (ints_take_succ (fun x => ((bel Ls x : Nat) : Int)) e2 hp2)
          have HY := Lib.hid (HL.out.2.2 y (by rw [e2]; simp))
          obtain ⟨b, off, hA, k0, k1⟩ := (HL.out.1.no HCW.out).lab e2
          rw [hp2] at k0 k1
          clear e2 hp2
          subst hA
          have lb : b < wr.heap.size := World.block_lt_of_cell? _ _ k0
          have HX : Hid (Ch No wr (wr.alloc (.cells #[.int .u8 y.1, .int .u16 y.2] 25)) ∧ Blk (wr.alloc (.cells #[.int .u8 y.1, .int .u16 y.2] 25)) wr.heap.size 25 [.int .u8 y.1, .int .u16 y.2]) := Lib.hid ⟨(Ch.refl No wr).alloc _, Blk.new wr 25 [.int .u8 y.1, .int .u16 y.2]⟩
          go_upto_region 16 with fail
          generalize wr.alloc (.cells #[.int .u8 y.1, .int .u16 y.2] 25) = w6 at *
          generalize wr.heap.size = xb at *
          have HV : Hid (Ch (Only (mb + 1)) w4 w6 ∧ Blk w6 (mb + 1) 56 [.slice A1 N c1, .map (some mb), .slice D i cd] ∧ OwnS w6 w4.heap.size 26 (.slice D i cd) (ints .u32 ((Ls.take i).map fun x => ((bel Ls x : Nat) : Int)))) := Lib.hid ⟨hv.out.1.trans (HX.out.1.mono (fun _ _ h => h.elim)), hv.out.2.1.ch HX.out.1 (fun h => h), hv.out.2.2.ch HX.out.1 (fun _ _ h => h)⟩
          have HBel := Lib.hid (fun w' (h : Ch No w6 w') => LBelow_lab (N := N) ((HV.out.2.1.ch h (fun h => h)).cell 0) ((HLW.out.no HX.out.1).no h) HL.out.2.1 (by omega) HL.out.2.2 y.1 y.2 HY.out.2)
          have x0 := HX.out.2.cell 0
          have x1 := HX.out.2.cell 1
          have d6 := HV.out.2.1.cell 2
          have l6 := HV.out.2.1.lt
          simp only [List.getElem?_cons_zero, List.getElem?_cons_succ] at x0 x1 d6
          have hw46 : w4.heap.size ≤ w6.heap.size := HV.out.1.size
          have hmb4 : mb + 1 < w4.heap.size := HB.out.lt
          have hm1 : i + 1 ≤ maxLen := by simp [maxLen]; omega
          have hm2 : (i + 1) * 4 ≤ 140737488355328 := by omega
          have hti : ((Ls.take i).map fun x => ((bel Ls x : Nat) : Int)).length = i := by rw [List.length_map, List.length_take, HL.out.2.1]; omega
          have HTI := Lib.hid hti
          have hnp : ∀ k, (Value.slice D i cd).ownBlock = some k → ¬ k = mb + 1 := fun k hk e => by have := (HV.out.2.2.ge k hk).1; omega
          have HNP := Lib.hid hnp
          clear hti hnp hv k0 k1 lb
          go_region_law (first
            | (go_simp; go_at_call 18; refine (HBel.out _ ((Ch.refl No w6).drew)).mono ?_; rintro e w7 ⟨rfl, h7⟩; have d7 := h7.cell (w := w6.drew) d6 (fun h => h); have l7 : mb + 1 < w7.heap.size := Nat.lt_of_lt_of_le l6 h7.size; have hm3 : w4.heap.size ≤ (w7.alloc (.cells #[.int .u32 ((bel Ls (y.1, y.2) : Nat) : Int)] 26)).heap.size := Nat.le_trans (Nat.le_trans hw46 h7.size) (by simp); have H7 := Lib.hid (And.intro ((Ch.refl No w6).drew.trans h7) trivial); clear h7)
            | (refine step_appI (by rfl) (.tmp 54) (.tmp 58) 54 26 (by rfl) .u32 0 4 Tryd.underlying54 infoU32 w4.heap.size D cd i _ HTI.out (by rfl) ((HV.out.2.2.ch H7.out.1 (fun _ _ h => h)).alloc _) (some ⟨w7.heap.size, 0, none⟩) 1 1 [((bel Ls (y.1, y.2) : Nat) : Int)] rfl (by rfl) (Cls.lit w7 26 [.int .u32 ((bel Ls (y.1, y.2) : Nat) : Int)]) hm1 hm2 hm3 ?_; intro D8 cd8 w8 o8 h8; have b8 := ((HV.out.2.1.ch H7.out.1 (fun h => h)).alloc (.cells #[.int .u32 ((bel Ls (y.1, y.2) : Nat) : Int)] 26)).ch h8 (fun h => HNP.out _ h rfl); have d8 := b8.cell 2; have f8 := b8.frozen 2; simp only [List.getElem?_cons_zero, List.getElem?_cons_succ] at d8; have H8 := Lib.hid (And.intro o8 (And.intro h8 b8)); clear o8 h8 b8))
          all_goals
            have c8 : Ch (Only (mb + 1)) w4 w8 := ((HV.out.1.trans (H7.out.1.mono (fun _ _ h => h.elim))).alloc _).trans' H8.out.2.1 (fun k hk he => by have := (HV.out.2.2.ge k he).1; omega)
            have c9 : Ch (Only (mb + 1)) w8 (w8.setCell ⟨mb + 1, 2, none⟩ (.slice D8 (i + 1) cd8)) := (Ch.refl (Only (mb + 1)) w8).setCell (p := ⟨mb + 1, 2, none⟩) (fun _ => rfl) _
            have HN : Hid (Ch (Only (mb + 1)) w4 (w8.setCell ⟨mb + 1, 2, none⟩ (.slice D8 (i + 1) cd8)) ∧ Blk (w8.setCell ⟨mb + 1, 2, none⟩ (.slice D8 (i + 1) cd8)) (mb + 1) 56 [.slice A1 N c1, .map (some mb), .slice D8 (i + 1) cd8] ∧ OwnS (w8.setCell ⟨mb + 1, 2, none⟩ (.slice D8 (i + 1) cd8)) w4.heap.size 26 (.slice D8 (i + 1) cd8) (ints .u32 ((Ls.take (i + 1)).map fun x => ((bel Ls x : Nat) : Int)))) := Lib.hid ⟨c8.trans c9, by simpa using H8.out.2.2.set 2 (.slice D8 (i + 1) cd8), by
              rw [HT.out]
              exact H8.out.1.ch c9 (fun k hk he => by have := (H8.out.1.ge k hk).1; have e : k = mb + 1 := he; omega)⟩
            clear c8 c9 H8 d8 f8 H7 hm3 l7 d7 x0 x1 d6 l6 hm1 hm2 HBel HV HX
            go_wp2_with fail
            go_roundw
            case rel => exact ⟨i + 1, cd8, D8, by simp, by omega, HN⟩
            case measure => simp [intOf]; omega
        · obtain rfl : i = N := by omega
          have HF : Hid (NewP w i Ls (.returned (.tuple #[.pointer (some ⟨mb + 1, 0, none⟩), .int .i64 0])) wr) := Lib.hid (.inl ⟨HZ.out.1, mb + 1, A1, c1, mb, D, cd, rfl, ⟨HL.out.2.1, HL.out.2.2, by omega, hv.out.2.1, HLW.out, hv.out.1.at H4.out.2.1 (fun h => by have e : mb = mb + 1 := h; omega), by have := hv.out.2.2.cls.1; rw [List.take_of_length_le (by rw [HL.out.2.1]; exact Nat.le_refl _)] at this; exact this⟩, HCW.out⟩)
          clear hv HCW HLW HO HC HB H4
          go_wp2_with fail
          refine bodyPost_ret (v := .tuple #[.pointer (some ⟨mb + 1, 0, none⟩), .int .i64 0]) (by simp [results, Tryd.f9, go_sem]) rfl ?_
          exact HF.out
    | cons y post =>
      rw [List.length_cons] at hln
      have hj : j < N := by omega
      clear hln
      have HY := Lib.hid (HL.out.2.2 y (by rw [hq.out.1]; simp))
      have HE := Lib.hid (show chkL Ls = if 15 < y.1 then 23 else if y ∈ pre then 5 else chkG (pre ++ [y]) post from hq.out.2.2.symm)
      obtain ⟨b, off, hA, k0, k1⟩ := (HL.out.1.no HC.out).lab hq.out.1
      rw [hq.out.2.1] at k0 k1
      subst hA
      have lb : b < wr.heap.size := World.block_lt_of_cell? _ _ k0
      have hx := Blk.new wr 25 [.int .u8 y.1, .int .u16 y.2]
      have H3 : Hid (Ch No wr (wr.alloc (.cells #[.int .u8 y.1, .int .u16 y.2] 25)) ∧ Blk (wr.alloc (.cells #[.int .u8 y.1, .int .u16 y.2] 25)) wr.heap.size 25 [.int .u8 y.1, .int .u16 y.2]) := Lib.hid ⟨(Ch.refl No wr).alloc _, hx⟩
      clear hx
      have HK := Lib.hid (fun w => LCheck_any y.1 y.2 w HY.out.1)
      by_cases hy : 15 < y.1
      · rw [if_pos hy] at HK HE
        go_wp2_with fail
        refine (HK.out _).mono ?_
        rintro e w5 ⟨rfl, h5⟩
        have HF := Lib.hid ((HC.out.trans H3.out.1).trans h5)
        clear h5 k0 k1 lb HK HB
        go_wp2_with fail
        refine bodyPost_ret (v := .tuple #[.pointer none, .int .i64 23]) (by simp [results, Tryd.f9, go_sem]) rfl ?_
        exact .inr ⟨by rw [HE.out]; decide, by rw [HE.out], HF.out⟩
      · rw [if_neg hy] at HK HE
        go_wp2_with fail
        refine (HK.out _).mono ?_
        rintro e w5 ⟨rfl, h5⟩
        have H5 := Lib.hid (And.intro (H3.out.1.trans h5) (H3.out.2.ch h5 (fun h => h)))
        clear h5 k0 k1 lb HK H3
        generalize wr.heap.size = xb at *
        have x0 := H5.out.2.cell 0
        have x1 := H5.out.2.cell 1
        have p1 := (HB.out.ch H5.out.1 (fun h => h)).cell 1
        simp only [List.getElem?_cons_zero, List.getElem?_cons_succ] at x0 x1 p1
        by_cases hm : y ∈ pre
        · rw [if_pos hm] at HE
          obtain ⟨iw, hiw⟩ := whr_mem pre 0 hm
          have HA := Lib.hid (fun w' (h : Ch No w5 w') => LAdd_old ((H5.out.1.trans h).at hw.out.2 (fun h => h)) y.1 y.2 (.int .i64 j) hiw)
          have HF := Lib.hid (HC.out.trans H5.out.1)
          clear hiw hm hy
          go_wp2_with fail
          go_still_tail 6, (by kernel_rfl)
          change wpList _ _ _ _ _ w5.drew
          go_wp2_with fail
          refine (HA.out _ ((Ch.refl No w5).drew)).mono ?_
          rintro e w6 ⟨rfl, h6⟩
          have HG := Lib.hid (HF.out.trans ((Ch.refl No w5).drew.trans h6))
          clear h6 HA HF x0 x1 p1
          go_wp2_with fail
          refine bodyPost_ret (v := .tuple #[.pointer none, .int .i64 5]) (by simp [results, Tryd.f9, go_sem]) rfl ?_
          exact .inr ⟨by rw [HE.out]; decide, by rw [HE.out], HG.out⟩
        · rw [if_neg hm] at HE
          have hwn := whr_not hm
          have HA := Lib.hid (fun w' (h : Ch No w5 w') => LAdd_new hq.out.2.1 ((H5.out.1.trans h).at hw.out.2 (fun h => h)) y.1 y.2 hwn)
          clear hwn hm hy
          go_wp2_with fail
          go_still_tail 6, (by kernel_rfl)
          change wpList _ _ _ _ _ w5.drew
          go_wp2_with fail
          refine (HA.out _ ((Ch.refl No w5).drew)).mono ?_
          rintro e w6 ⟨rfl, hm6, h6⟩
          have HG : Hid (Ch (Only mb) w3 w6 ∧ w6.heap[mb]? = some (.map (entsFrom (pre ++ [y]) 0).toArray (j + 1))) := Lib.hid ⟨hw.out.1.trans (((H5.out.1.trans (Ch.refl No w5).drew).mono (fun _ _ h => h.elim)).trans h6), hm6⟩
          clear hm6 h6 HA x0 x1 p1
          go_wp2_with fail
          go_roundw
          case rel => exact ⟨j + 1, pre ++ [y], post, by simp, Lib.hid ⟨by rw [hq.out.1]; simp, by simp [hq.out.2.1], HE.out.symm⟩, HG⟩
          case measure => simp [intOf]; omega
end
end Go.Proofs.YtpjcfelknkddfaaDoor
