/- AggKinds: what is told by its kind is what is told of all: the walk. -/
import Derived.Test.YtoaekfocfdcgiaaAggAlive
import Derived.Test.YtoaekfocfdcgiaaOwn
namespace Go.Proofs.Ytoaekfocfdcgiaa
open Go.RowKit

def tm50 (x : Int) : Int := x.tmod 1125899906842624
theorem tm50_bd (x : Int) : -1125899906842624 < tm50 x ∧ tm50 x < 1125899906842624 := tmod_bd x (by omega)

/-- what the five kinds are -/
theorem kinds_law {a : Ag} {ys : List Int} (ht : Tells a ys) (hl : ys.length < 1000000) : (pkV a 0 = ys.length) ∧ (pkV a 1 = a.s) ∧ pkB a 0 = true ∧ pkB a 1 = true ∧ pkB a 2 = decide (0 < ys.length) ∧ pkB a 3 = decide (0 < ys.length) ∧ pkB a 4 = decide (0 < ys.length) ∧ pkV a 3 ≤ pkV a 4 ∧ pkB a 5 = false ∧ pkB a (-1) = false := by
  have hc := ht.c
  refine ⟨by simp [pkV, hc], by simp [pkV], by simp [pkB], by simp [pkB], ?_, ?_, ?_, ?_, by simp [pkB], by simp [pkB]⟩
  · simp [pkB, avB, hc]; omega
  · simp [pkB, hc]
  · simp [pkB, hc]
  · by_cases h : ys = []
    · subst h
      simp at hc
      simp [pkV, hc]
    · obtain ⟨⟨h1, h2⟩, h3, h4⟩ := ht.some h
      have : 0 < ys.length := List.length_pos_iff.2 h
      have h5 := h2 _ h3
      simp [pkV, show 0 < a.c by omega]
      exact h5
theorem kinds_one (v k : Int) (hk : 1 ≤ k ∧ k ≤ 4) : pkV ⟨1, v, v, v⟩ k = v ∧ pkB ⟨1, v, v, v⟩ k = true := by
  have h : k = 1 ∨ k = 2 ∨ k = 3 ∨ k = 4 := by omega
  rcases h with rfl | rfl | rfl | rfl <;> simp [pkV, pkB, avV, avB]

set_option maxHeartbeats 4000000 in
set_option maxRecDepth 100000 in
theorem aggKinds_core (W : World) (A : Option Addr) (cap : Nat) (xs : List Int) (v : Int) (h : Cls W A (ints .i64 xs)) (hl : xs.length ≤ 17592186044416) (hv : wfI v) :
    Calls Try.prog 12 #[.slice A xs.length cap, .int .i64 v] W fun e w' => e = .returned (.bool true) ∧ Ch No W w' := by
  go_enter Try.func12, Try.ntmps12
  go_wp2_with fail
  refine (aggAlive_any _).mono ?_
  rintro e w1 ⟨rfl, hw1⟩
  have H1 := Lib.hid hw1
  clear hw1
  by_cases h300 : 300 < xs.length
  · go_wp2_with fail
    go_ret
    exact ⟨rfl, H1.out⟩
  go_wp2_with fail
  go_loopw [5, 7, 36] (fun t _ i wr => ∃ (pre post : List Int), Hid (xs = pre ++ post) ∧ i = .int .i64 pre.length ∧ OwnS wr W.heap.size 2 t (ints .i64 (pre.map tm50)) ∧ Ch No W wr) (fun _ _ i _ => xs.length - (intOf i).toNat)
  case atStart => exact ⟨[], xs, rfl, rfl, by simpa [ints] using OwnS.lit w1 W.heap.size 2 [] H1.out.size (by simp), H1.out.alloc _⟩
  case round =>
    obtain ⟨pre, post, hx, rfl, hown, hw⟩ := hrel
    cases post with
    | cons x post =>
      have hlen : pre.length < xs.length := by rw [hx.out]; simp
      obtain ⟨blk, off, rfl, hcx⟩ := (h.ch hw (fun _ _ h => h)).at hx.out
      go_wp2_with (at_builtin; refine app1 rfl _ _ 61 2 rfl (.int .i64 0) 8 Try.underlying61 (by kernel_rfl) rfl W.heap.size _ _ (.int .i64 (tm50 x)) rfl (hown.alloc _) wr.heap.size 1 rfl (by simp [tm50]) rfl ?hn ?hb ?hB ?_)
      case hn => simp [maxLen]; omega
      case hb => simp; omega
      case hB => have := hw.size; simp; omega
      intro g' c' w2 hown2 hch hat
      have hw2 : Ch No W w2 := Ch.trans' (hw.alloc _) hch (fun i hi he => by have := (hown.ge i he).1; omega)
      have HO := Lib.hid (And.intro hown2 hw2)
      clear hown hch hat hown2 hw2 hw
      go_wp2_with fail
      go_roundw
      case rel => exact ⟨pre ++ [x], post, by rw [hx.out]; simp [Hid], by simp, by simpa [ints] using HO.out.1, HO.out.2⟩
      case measure => simp [intOf]; omega
    | nil =>
      obtain rfl : pre = xs := by have := hx.out; simpa using this.symm
      clear hx
      obtain ⟨A2, c2, rfl, hcl, _⟩ := hown.slice_ints
      clear hown
      have hyl : (pre.map tm50).length ≤ 1000000 := by simp; omega
      have htl := tells_of (pre.map tm50) (fun y hy => by
        obtain ⟨x, _, rfl⟩ := List.mem_map.1 hy
        have := tm50_bd x
        unfold wfI; omega) (by simp; omega)
      have HK := Lib.hid (kinds_law htl (by simp; omega))
      have hs : wfI (agOf (pre.map tm50)).s := by rw [htl.s]; exact wr_wf _
      have ho := fun w (h : Cls w A2 (ints .i64 (pre.map tm50))) => LOf_any (pre.map tm50) A2 c2 w h hyl
      have hp := fun k w => LPick_any (agOf (pre.map tm50)) k w hs
      clear htl hs hyl
      simp only [List.length_map] at HK ho
      generalize agOf (pre.map tm50) = a at *
      obtain ⟨e0, e1, e2, e3, e4, e5, e6, e7, e8, e9⟩ := HK.out
      have p0 := fun w => hp 0 w
      have p1 := fun w => hp 1 w
      have p2 := fun w => hp 2 w
      have p3 := fun w => hp 3 w
      have p4 := fun w => hp 4 w
      have p5 := fun w => hp 5 w
      have p6 := fun w => hp (-1) w
      rw [e0, e2] at p0
      rw [e1, e3] at p1
      rw [e4] at p2
      rw [e5] at p3
      rw [e6] at p4
      rw [e8] at p5
      rw [e9] at p6
      generalize pkV a 2 = x2 at *
      generalize pkV a 3 = x3 at *
      generalize pkV a 4 = x4 at *
      generalize pkV a 5 = x5 at *
      generalize pkV a (-1) = x6 at *
      clear hp e0 e1 e2 e3 e4 e5 e6 e8 e9 HK
      have hq := fun k (hk : 1 ≤ k ∧ k ≤ 4) w => LPick_core 1 v v v k w hv
      go_wp2_with fail
      refine (ho _ hcl).mono ?_
      rintro e w3 ⟨rfl, hw3⟩
      have B : Blk (w3.alloc (.cells #[.int .i64 a.c, .int .i64 a.s, .int .i64 a.l, .int .i64 a.h] 63)) w3.heap.size 63 [.int .i64 a.c, .int .i64 a.s, .int .i64 a.l, .int .i64 a.h] := Blk.new w3 _ _
      have H : Ch No W (w3.alloc (.cells #[.int .i64 a.c, .int .i64 a.s, .int .i64 a.l, .int .i64 a.h] 63)) := (hw.trans hw3).alloc _
      obtain ⟨c0, c1, c2', c3⟩ := B.four
      clear ho hcl hw3 hw H1
      go_wp2_with fail
      refine (p0 _).mono ?_
      rintro e wp ⟨rfl, hwp⟩
      clear c0 c1 c2' c3
      replace B := B.ch hwp (fun h => h)
      replace H := H.trans hwp
      obtain ⟨c0, c1, c2, c3⟩ := B.four
      clear hwp
      go_wp2_with fail
      (refine (p1 _).mono ?_; rintro e wp ⟨rfl, hwp⟩; clear c0 c1 c2 c3; replace B := B.ch hwp (fun h => h); replace H := H.trans hwp; obtain ⟨c0, c1, c2, c3⟩ := B.four; clear hwp; go_wp2_with fail)
      (refine (p2 _).mono ?_; rintro e wp ⟨rfl, hwp⟩; clear c0 c1 c2 c3; replace B := B.ch hwp (fun h => h); replace H := H.trans hwp; obtain ⟨c0, c1, c2, c3⟩ := B.four; clear hwp; go_wp2_with fail)
      (refine (p3 _).mono ?_; rintro e wp ⟨rfl, hwp⟩; clear c0 c1 c2 c3; replace B := B.ch hwp (fun h => h); replace H := H.trans hwp; obtain ⟨c0, c1, c2, c3⟩ := B.four; clear hwp; go_wp2_with fail)
      (refine (p4 _).mono ?_; rintro e wp ⟨rfl, hwp⟩; clear c0 c1 c2 c3; replace B := B.ch hwp (fun h => h); replace H := H.trans hwp; obtain ⟨c0, c1, c2, c3⟩ := B.four; clear hwp; go_wp2_with fail)
      refine (One_any v _).mono ?_
      rintro e w5 ⟨rfl, hw5⟩
      clear c0 c1 c2 c3 p0 p1 p2 p3 p4
      have D : Blk (w5.alloc (.cells #[.int .i64 1, .int .i64 v, .int .i64 v, .int .i64 v] 63)) w5.heap.size 63 [.int .i64 1, .int .i64 v, .int .i64 v, .int .i64 v] := Blk.new w5 _ _
      replace B := (B.ch hw5 (fun h => h)).alloc (.cells #[.int .i64 1, .int .i64 v, .int .i64 v, .int .i64 v] 63)
      replace H := (H.trans hw5).alloc (.cells #[.int .i64 1, .int .i64 v, .int .i64 v, .int .i64 v] 63)
      clear hw5
      go_wp2_with fail
      have HB := Lib.hid B
      have HD := Lib.hid D
      have HH := Lib.hid H
      clear B D H
      go_loopw [21, 22, 23] (fun i _ _ wr2 => ∃ k : Int, 1 ≤ k ∧ k ≤ 5 ∧ i = .int .i64 k ∧ Hid (Blk wr2 w3.heap.size 63 [.int .i64 a.c, .int .i64 a.s, .int .i64 a.l, .int .i64 a.h]) ∧ Hid (Blk wr2 w5.heap.size 63 [.int .i64 1, .int .i64 v, .int .i64 v, .int .i64 v]) ∧ Hid (Ch No W wr2)) (fun i _ _ _ => (5 - intOf i).toNat)
      case atStart => exact ⟨1, by omega, by omega, rfl, HB, HD, HH⟩
      case round =>
        clear HB HD HH
        obtain ⟨k, hk1, hk5, rfl, HB, HD, HH⟩ := hrel
        by_cases hk : k = 5
        · subst hk
          obtain ⟨c0, c1, c2, c3⟩ := HB.out.four
          have B := HB.out
          have H := HH.out
          go_wp2_with fail
          (refine (p5 _).mono ?_; rintro e wp ⟨rfl, hwp⟩; clear c0 c1 c2 c3; replace B := B.ch hwp (fun h => h); replace H := H.trans hwp; obtain ⟨c0, c1, c2, c3⟩ := B.four; clear hwp; go_wp2_with fail)
          (refine (p6 _).mono ?_; rintro e wp ⟨rfl, hwp⟩; clear c0 c1 c2 c3; replace B := B.ch hwp (fun h => h); replace H := H.trans hwp; obtain ⟨c0, c1, c2, c3⟩ := B.four; clear hwp; go_wp2_with fail)
          go_ret
          exact ⟨rfl, H⟩
        · obtain ⟨c0, c1, c2, c3⟩ := HD.out.four
          have hq2 := hq k (by omega)
          rw [(kinds_one v k (by omega)).1, (kinds_one v k (by omega)).2] at hq2
          go_wp2_with fail
          refine (hq2 _).mono ?_
          rintro e w6 ⟨rfl, hw6⟩
          have HB2 := Lib.hid (HB.out.ch hw6 (fun h => h))
          have HD2 := Lib.hid (HD.out.ch hw6 (fun h => h))
          have HH2 := Lib.hid (HH.out.trans hw6)
          clear c0 c1 c2 c3 hw6 HB HD HH
          go_wp2_with fail
          go_roundw
          case rel => exact ⟨k + 1, by omega, by omega, rfl, HB2, HD2, HH2⟩
          case measure => simp [intOf]; omega

theorem aggKinds_walk (W : World) (A : Option Addr) (cap : Nat) (xs : List Int) (v : Int) (h : Cls W A (ints .i64 xs)) (_hl : xs.length ≤ cap) (hb : xs.length * 8 ≤ 140737488351232) (_hw : ∀ x ∈ xs, (Lit.int .i64 x).wf = true) (w1 : (Lit.int .i64 v).wf = true) :
    Calls Try.prog 12 #[.slice A xs.length cap, .int .i64 v] W fun e w' => e = .returned (.bool true) ∧ Below W.heap.size W w' :=
  (aggKinds_core W A cap xs v h (by omega) (by have := bounds_i64 w1; unfold wfI; omega)).mono fun e w' ⟨h1, h2⟩ => ⟨h1, h2.same⟩
end Go.Proofs.Ytoaekfocfdcgiaa
