/- Who has nothing left: the iterator. -/
import Derived.RangeFuncNested
import Derived.RangeFuncBound
import Derived.RangeFuncCalls
import Derived.RangeFuncLeaves
import Derived.RangeFuncBox
import Derived.Shelf.Abstract
import Derived.Shelf.RegionOpen
import Derived.WalkKit
import Derived.OwnWalkIn
import Derived.TacticsInMore
import Derived.LoopNIn
import Derived.LoopIn
import Derived.Maps.AppendAt
import Derived.Test.YtjphocpnmhheeaaBudWalk
namespace Go.Proofs.Ytjphocpnmhheeaa
open Go.RowKit Go.Shelf

attribute [local go_sem] Oper.semAt_some

/-- those of the first j that have nothing left -/
def poorTo (l : List Acc) (j : Nat) : List Int := ((List.range j).filter fun i : Nat => decide (leftI l (i : Int) = 0)).map fun i : Nat => (i : Int)
theorem poorTo_hit (l : List Acc) (j : Nat) (h : leftI l (j : Nat) = 0) : poorTo l (j + 1) = poorTo l j ++ [(j : Int)] := by simp [poorTo, List.range_succ, h]
theorem poorTo_miss (l : List Acc) (j : Nat) (h : ¬ leftI l (j : Nat) = 0) : poorTo l (j + 1) = poorTo l j := by simp [poorTo, List.range_succ, h]
def poorAll (l : List Acc) : List Int := poorTo l l.length
theorem poorTo_pre (l : List Acc) (j k : Nat) (h : j ≤ k) : poorTo l j <+: poorTo l k := by
  induction k with
  | zero => obtain rfl : j = 0 := by omega
            exact List.prefix_refl _
  | succ k ih =>
    by_cases hj : j = k + 1
    · subst hj; exact List.prefix_refl _
    · have h1 := ih (by omega)
      by_cases hk : leftI l (k : Nat) = 0
      · rw [poorTo_hit l k hk]; exact h1.trans (List.prefix_append _ _)
      · rw [poorTo_miss l k hk]; exact h1
theorem poorTo_lt (l : List Acc) (j : Nat) (hj : j < l.length) (h : leftI l (j : Nat) = 0) : (poorTo l j).length < (poorAll l).length := by
  have h1 := (poorTo_pre l (j + 1) l.length (by omega)).length_le
  rw [poorTo_hit l j h] at h1
  simp at h1
  exact h1

/-- what a round keeps: what lay below n₀, and the box of the receiver -/
def KpB (n₀ Bn : Nat) (W W' : World) : Prop := Below n₀ W W' ∧ W'.heap[Bn]? = W.heap[Bn]?
theorem KpB.trans {n₀ Bn : Nat} {A B C : World} (h : KpB n₀ Bn A B) (k : KpB n₀ Bn B C) : KpB n₀ Bn A C := ⟨h.1.trans k.1, k.2.trans h.2⟩
theorem KpB.of_no {n₀ Bn : Nat} {A B : World} (h : Ch No A B) (hn : n₀ ≤ A.heap.size) (hB : Bn < A.heap.size) : KpB n₀ Bn A B :=
  ⟨⟨h.os, h.tape, h.output, h.size, fun i hi => h.block i (Nat.lt_of_lt_of_le hi hn) (fun h => h)⟩, h.block Bn hB (fun h => h)⟩
theorem KpB.bk {n₀ Bn : Nat} {w : World} (hn : n₀ ≤ w.heap.size) (hB : Bn < w.heap.size) (W : World) (l : Nat) (o o' : Obj) (hl : w.heap.size ≤ l) (ho : W.heap[l]? = some o) (h1 : o.isCells = false) (h2 : o.isWalk = false) : KpB n₀ Bn W (W.putObj l o') :=
  ⟨belowK_b hn W l o o' hl ho h1 h2, (grownBy_putObj' W l o').block Bn (by have := (Array.getElem?_eq_some_iff.1 ho).1; omega) (by intro e; simp at e; omega)⟩

set_option maxRecDepth 100000 in
set_option maxHeartbeats 2000000 in
theorem Poor1_in (n : Nat) (hn : 1 ≤ n) (l Bn n₀ B g : Nat) (k : Option Nat) (L : List Acc) (hg : g < n₀) (hk : ∀ i, k = some i → i < n₀) (J Jx : List Int → World → Prop)
    (hJd : ∀ pre W W', J pre W → Ch No W W' → J pre W')
    (hY : ∀ pre x W, J pre W → pre.length < (poorAll L).length → YieldAt Fence.wide (n - 1) Try.prog l #[.int .i64 x] W fun e W' =>
      (e = .returned (.bool true) ∧ J (pre ++ [x]) W' ∧ KpB n₀ Bn W W') ∨ (e = .returned (.bool false) ∧ Jx (pre ++ [x]) W'))
    (W : World) (hW : n₀ ≤ W.heap.size) (hBn : W.cell? ⟨Bn, 0, none⟩ = some (.pointer (some ⟨g, 0, none⟩))) (hL : Led W B g k L) (hl : L.length ≤ 1000000) (h0 : J [] W) :
    CallsIn Fence.wide n Try.prog 39 #[.func (.yield l) #[] #[], .pointer (some ⟨Bn, 0, none⟩)] W fun e W' => (∃ v, e = .returned v) ∧
      ((∃ ys, ys = poorAll L ∧ J ys W') ∨ (∃ pre, pre <+: poorAll L ∧ Jx pre W')) := by
  refine callsIn_of_wp Try.func39 rfl trivial ?_ rfl
  simp only [Try.ntmps39, List.size_toArray, List.length_cons, List.length_nil, Nat.reduceAdd, Nat.reduceSub, Array.replicate_succ, Array.replicate_zero, List.push_toArray, List.append_toArray, List.nil_append, List.cons_append]
  obtain ⟨A, c, q0⟩ := hL.len
  have h00 : J (poorTo L 0) W := h0
  gi_wp2
  gi_loopw [3, 4, 5, 11] (fun _ _ _ i wr => ∃ j : Nat, j ≤ L.length ∧ i = .int .i64 j ∧ J (poorTo L j) wr ∧ KpB n₀ Bn W wr) (fun _ _ _ i _ => L.length - (intOf i).toNat)
  case atStart => exact ⟨0, by omega, rfl, h00, Below.refl _ _, rfl⟩
  case round =>
    obtain ⟨j, hj, rfl, hJ, hb⟩ := hrel
    by_cases hjl : j < L.length
    · have hC : Ch (fun i => n₀ ≤ i) W wr := ⟨hb.1.os, hb.1.tape, hb.1.output, hb.1.size, fun i _ hi => hb.1.block i (by omega)⟩
      have hL1 := hL.ch hC (by omega) (fun i hi => by have := hk i hi; omega)
      have hBn1 : wr.cell? ⟨Bn, 0, none⟩ = some (.pointer (some ⟨g, 0, none⟩)) := (World.cell?_of_block hb.2).trans hBn
      have hBl := World.block_lt_of_cell? _ _ hBn1
      simp only at hBl
      have hle := BLeft_any wr B g k L hL1 (j : Nat)
      rw [show errI L (j : Nat) = 0 from if_pos ⟨by omega, by omega⟩] at hle
      have hhit := poorTo_hit L j
      have hmiss := poorTo_miss L j
      have hsm := poorTo_lt L j hjl
      obtain ⟨d, hd⟩ : ∃ d, leftI L (j : Nat) = d := ⟨_, rfl⟩
      rw [hd] at hle hhit hmiss hsm
      have hws := hb.1.size
      by_cases hz : d = 0
      · subst hz
        have HH := Lib.hid (And.intro (hhit rfl) (And.intro hb hJ))
        have hsm' := hsm rfl
        clear hhit hmiss hsm hd hJ hb
        gi_wp2
        refine ⟨trivial, ?_⟩
        refine (callsIn_wide.2 hle).mono ?_
        rintro e w1 ⟨rfl, h1⟩
        have hJ1 := hJd _ _ _ HH.out.2.2 h1
        obtain ⟨fn, tmps, assign, body, hy, hR⟩ := hY _ (j : Int) w1 hJ1 hsm'
        gi_wp2
        refine hR.mono ?_
        rintro e W3 (⟨rfl, hJ3, hk3⟩ | ⟨rfl, hJx3⟩)
        · gi_wp2
          go_roundw
          case rel => exact ⟨j + 1, by omega, by go_num, by rw [HH.out.1]; exact hJ3, (HH.out.2.1.trans (KpB.of_no h1 (by omega) hBl)).trans hk3⟩
          case measure => simp [intOf]; omega
        · gi_wp2
          refine bodyPost_ret (results_none rfl _ _ _) rfl ?_
          refine ⟨⟨_, rfl⟩, .inr ⟨_, ?_, hJx3⟩⟩
          rw [← HH.out.1]
          exact poorTo_pre L (j + 1) L.length (by omega)
      · have HH := Lib.hid (And.intro (hmiss hz) (And.intro hb hJ))
        have hdz : (d == 0) = false := by simpa using hz
        clear hhit hmiss hsm hd hJ hb
        gi_wp2
        refine ⟨trivial, ?_⟩
        refine (callsIn_wide.2 hle).mono ?_
        rintro e w1 ⟨rfl, h1⟩
        gi_wp2
        all_goals
          refine ⟨fun _ _ => trivial, ?_⟩
          gi_wp2
          go_roundw
          case rel => exact ⟨j + 1, by omega, by go_num, by rw [HH.out.1]; exact hJd _ _ _ HH.out.2.2 h1, HH.out.2.1.trans (KpB.of_no h1 (by omega) hBl)⟩
          case measure => simp [intOf]; omega
    · obtain rfl : j = L.length := by omega
      gi_wp2
      go_end0
      exact ⟨⟨_, rfl⟩, .inl ⟨_, rfl, hJ⟩⟩
end Go.Proofs.Ytjphocpnmhheeaa
