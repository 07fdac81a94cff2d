/- the places of the bits that are 1: the iterator, and its places collected. -/
import Derived.RangeFuncNested
import Derived.RangeFuncBound
import Derived.RangeFuncCalls
import Derived.RangeFuncLeaves
import Derived.RangeFuncBox
import Derived.Shelf.Abstract
import Derived.Shelf.RegionOpen
import Derived.WalkKit
import Derived.OwnWalkIn
import Derived.TacticsInMore
import Derived.LoopNIn
import Derived.LoopIn
import Derived.Maps.AppendAt
import Derived.Test.YtpjcfelknkddfaaDoorFitTab
import Derived.Test.YtpjcfelknkddfaaDoorOwn
import Derived.Test.YtpjcfelknkddfaaDoorNum
namespace Go.Proofs.YtpjcfelknkddfaaDoor
open Go.RowKit Go.Shelf

attribute [local go_sem] Oper.semAt_some

/-- the places of the bits that are 1 -/
def plc (n : Nat) : List Int := ((List.range 64).filter fun i => n.testBit i).map fun i : Nat => (i : Int)
theorem plc_len (n : Nat) : (plc n).length ≤ 64 := by
  have := List.length_filter_le (fun i => n.testBit i) (List.range 64)
  simpa [plc] using this
theorem plc_zero : plc 0 = [] := by simp [plc]
theorem filter_first {n k : Nat} (p q : Nat → Bool) (hk : k < n) (h1 : ∀ i, i < k → p i = false) (h2 : p k = true) (h3 : ∀ i, k < i → p i = q i) (h4 : ∀ i, i ≤ k → q i = false) : (List.range n).filter p = k :: (List.range n).filter q := by
  induction n with
  | zero => omega
  | succ n ih =>
    rw [List.range_succ, List.filter_append, List.filter_append]
    by_cases hkn : k = n
    · subst hkn
      have e1 : (List.range k).filter p = [] := List.filter_eq_nil_iff.2 fun i hi => by rw [h1 i (List.mem_range.1 hi)]; simp
      have e2 : (List.range k).filter q = [] := List.filter_eq_nil_iff.2 fun i hi => by rw [h4 i (Nat.le_of_lt (List.mem_range.1 hi))]; simp
      rw [e1, e2]
      simp [h2, h4 k (Nat.le_refl _)]
    · rw [ih (by omega)]
      have := h3 n (by omega)
      simp [List.filter_cons, this]
theorem low_off (k m : Nat) : (2 ^ k * (2 * m + 1)) &&& (2 ^ k * (2 * m + 1) - 1) = 2 ^ (k + 1) * m := by
  have hp : 0 < 2 ^ k := Nat.two_pow_pos k
  have e : 2 ^ k * (2 * m + 1) - 1 = 2 ^ k * (2 * m) + (2 ^ k - 1) := by rw [Nat.mul_add]; omega
  rw [e]
  apply Nat.eq_of_testBit_eq
  intro i
  rw [Nat.testBit_and]
  by_cases hik : i < k
  · have h1 : (2 ^ k * (2 * m + 1)).testBit i = false := by rw [Nat.testBit_two_pow_mul]; simp; omega
    have h2 : (2 ^ (k + 1) * m).testBit i = false := by rw [Nat.testBit_two_pow_mul]; simp; omega
    rw [h1, h2, Bool.false_and]
  · obtain ⟨j, rfl⟩ : ∃ j, i = k + j := ⟨i - k, by omega⟩
    have h1 : (2 ^ k * (2 * m + 1)).testBit (k + j) = (2 * m + 1).testBit j := by rw [Nat.testBit_two_pow_mul]; simp
    have h2 : (2 ^ (k + 1) * m).testBit (k + j) = (2 * m).testBit j := by rw [Nat.pow_succ, Nat.mul_assoc, Nat.testBit_two_pow_mul]; simp
    have h3 : (2 ^ k * (2 * m) + (2 ^ k - 1)).testBit (k + j) = (2 * m).testBit j := by
      rw [Nat.testBit_two_pow_mul_add _ (by omega), if_neg (by omega), show k + j - k = j from by omega]
    rw [h1, h2, h3]
    cases j with
    | zero => simp [Nat.testBit_zero]
    | succ j =>
      rw [Nat.testBit_succ, Nat.testBit_succ, show (2 * m + 1) / 2 = m from by omega, show 2 * m / 2 = m from by omega, Bool.and_self]
theorem plc_step (x : Nat) (h0 : x ≠ 0) (hx : x < 18446744073709551616) : plc x = (Lib.ctz 64 x : Int) :: plc (x &&& (x - 1)) := by
  obtain ⟨m, hm, hk⟩ := Lib.ctzFrom_spec 64 x (by omega) hx
  have e : Lib.ctz 64 x = Lib.ctzFrom 64 x := by simp [Lib.ctz, h0]
  rw [e]
  generalize Lib.ctzFrom 64 x = k at *
  have hl := low_off k m
  rw [← hm] at hl
  rw [hl]
  unfold plc
  have q1 : ∀ i, i < k → x.testBit i = false := fun i hi => by
    rw [hm, Nat.testBit_two_pow_mul]; simp; omega
  have q2 : x.testBit k = true := by rw [hm, Nat.testBit_two_pow_mul]; simp
  have q3 : ∀ i, k < i → x.testBit i = (2 ^ (k + 1) * m).testBit i := fun i hi => by
    obtain ⟨j, rfl⟩ : ∃ j, i = k + 1 + j := ⟨i - k - 1, by omega⟩
    rw [hm, Nat.testBit_two_pow_mul, Nat.testBit_two_pow_mul]
    have e1 : k + 1 + j - k = j + 1 := by omega
    have e2 : k + 1 + j - (k + 1) = j := by omega
    rw [e1, e2, Nat.testBit_succ, show (2 * m + 1) / 2 = m from by omega]
    have e3 : k + 1 + j ≥ k := by omega
    have e4 : k + 1 + j ≥ k + 1 := by omega
    simp [e3, e4]
  have q4 : ∀ i, i ≤ k → (2 ^ (k + 1) * m).testBit i = false := fun i hi => by
    rw [Nat.testBit_two_pow_mul]; simp; omega
  rw [filter_first (fun i => x.testBit i) (fun i => (2 ^ (k + 1) * m).testBit i) hk q1 q2 q3 q4]
  rfl
theorem and_pred_lt (x : Nat) (h : x ≠ 0) : x &&& (x - 1) < x := Nat.lt_of_le_of_lt Nat.and_le_right (by omega)

/-- what a round keeps: what lay below n₀, and the box of the receiver -/
def KpB (n₀ Bn : Nat) (W W' : World) : Prop := Below n₀ W W' ∧ W'.heap[Bn]? = W.heap[Bn]?
theorem KpB.trans {n₀ Bn : Nat} {A B C : World} (h : KpB n₀ Bn A B) (k : KpB n₀ Bn B C) : KpB n₀ Bn A C := ⟨h.1.trans k.1, k.2.trans h.2⟩
theorem KpB.of_no {n₀ Bn : Nat} {A B : World} (h : Ch No A B) (hn : n₀ ≤ A.heap.size) (hB : Bn < A.heap.size) : KpB n₀ Bn A B :=
  ⟨⟨h.os, h.tape, h.output, h.size, fun i hi => h.block i (Nat.lt_of_lt_of_le hi hn) (fun h => h)⟩, h.block Bn hB (fun h => h)⟩
theorem KpB.bk {n₀ Bn : Nat} {w : World} (hn : n₀ ≤ w.heap.size) (hB : Bn < w.heap.size) (W : World) (l : Nat) (o o' : Obj) (hl : w.heap.size ≤ l) (ho : W.heap[l]? = some o) (h1 : o.isCells = false) (h2 : o.isWalk = false) : KpB n₀ Bn W (W.putObj l o') :=
  ⟨belowK_b hn W l o o' hl ho h1 h2, (grownBy_putObj' W l o').block Bn (by have := (Array.getElem?_eq_some_iff.1 ho).1; omega) (by intro e; simp at e; omega)⟩

set_option maxRecDepth 100000 in
set_option maxHeartbeats 2000000 in
theorem Bits1_in (n : Nat) (hn : 1 ≤ n) (l Bn n₀ nn : Nat) (hnn : nn < 18446744073709551616) (hg : 0 < n₀) (J Jx : List Int → World → Prop)
    (_hJd : ∀ pre W W', J pre W → Ch No W W' → J pre W')
    (hY : ∀ pre x W, J pre W → pre.length < (plc nn).length → YieldAt Fence.wide (n - 1) Tryd.prog l #[.int .i64 x] W fun e W' =>
      (e = .returned (.bool true) ∧ J (pre ++ [x]) W' ∧ KpB n₀ Bn W W') ∨ (e = .returned (.bool false) ∧ Jx (pre ++ [x]) W'))
    (W : World) (_hW : n₀ ≤ W.heap.size) (hBn : W.cell? ⟨Bn, 0, none⟩ = some (.int .u64 nn)) (hT : TabAt 0 Lib.deBruijn64tab W) (h0 : J [] W) :
    CallsIn Fence.wide n Tryd.prog 34 #[.func (.yield l) #[] #[], .pointer (some ⟨Bn, 0, none⟩)] W fun e W' => (∃ v, e = .returned v) ∧
      ((∃ ys, ys = plc nn ∧ J ys W') ∨ (∃ pre, pre <+: plc nn ∧ Jx pre W')) := by
  refine callsIn_of_wp Tryd.func34 rfl trivial ?_ rfl
  simp only [Tryd.ntmps34, List.size_toArray, List.length_cons, List.length_nil, Nat.reduceAdd, Nat.reduceSub, Array.replicate_succ, Array.replicate_zero, List.push_toArray, List.append_toArray, List.nil_append, List.cons_append]
  have HT := Lib.hid hT
  clear hT
  gi_wp2
  gi_loopw [3] (fun v wr => ∃ (pre : List Int) (z : Nat), v = .int .u64 z ∧ z < 18446744073709551616 ∧ Hid (pre ++ plc z = plc nn) ∧ J pre wr ∧ KpB n₀ Bn W wr) (fun v _ => (intOf v).toNat)
  case atStart => exact ⟨[], nn, rfl, hnn, Lib.hid rfl, h0, Below.refl _ _, rfl⟩
  case round =>
    obtain ⟨pre, z, rfl, hz, hpz, hJ, hb⟩ := hrel
    by_cases hz0 : z = 0
    · subst hz0
      gi_wp2
      go_end0
      have e : pre = plc nn := by rw [← hpz.out, plc_zero, List.append_nil]
      exact ⟨⟨_, rfl⟩, .inl ⟨_, e, hJ⟩⟩
    · have hT1 : TabAt 0 Lib.deBruijn64tab wr := fun j hj => (World.cell?_of_block (hb.1.block _ hg)).trans (HT.out j hj)
      have htz := TZ_any z hz hz0 wr hT1
      have hst := plc_step z hz0 hz
      have hlt := and_pred_lt z hz0
      have hzb : ((z : Int) == 0) = false := by simp; omega
      have hBl := hb.2
      have hpl : pre.length < (plc nn).length := by rw [← hpz.out, hst]; simp
      have hpz2 : Hid ((pre ++ [(Lib.ctz 64 z : Int)]) ++ plc (z &&& (z - 1)) = plc nn) := Lib.hid (by rw [← hpz.out, hst]; simp)
      have hand : bits BinOp.and IntKind.u64 (z : Int) ((z : Int) - 1) = ((z &&& (z - 1) : Nat) : Int) := by
        have e1 : (z : Int) - 1 = ((z - 1 : Nat) : Int) := by omega
        rw [e1, bits_and_u64_nat z _ hz (by omega)]
      generalize Lib.ctz 64 z = t at *
      generalize z &&& (z - 1) = z2 at *
      clear hst hT1
      gi_wp2
      refine ⟨trivial, ?_⟩
      refine (callsIn_wide.2 htz).mono ?_
      rintro e w1 ⟨rfl, rfl⟩
      obtain ⟨fn, tmps, assign, body, hy, hR⟩ := hY _ (t : Int) _ hJ hpl
      gi_wp2
      refine hR.mono ?_
      rintro e W3 (⟨rfl, hJ3, hk3⟩ | ⟨rfl, hJx3⟩)
      · gi_wp2
        go_roundw
        case rel => exact ⟨pre ++ [(t : Int)], z2, by simp, by omega, hpz2, hJ3, hb.trans hk3⟩
        case measure => simp [intOf]; omega
      · gi_wp2
        refine bodyPost_ret (results_none rfl _ _ _) rfl ?_
        refine ⟨⟨_, rfl⟩, .inr ⟨_, ?_, hJx3⟩⟩
        rw [← hpz2.out]
        exact List.prefix_append _ _

theorem Bits_any (w : World) (nn : Nat) : Calls Tryd.prog 30 #[.int .u64 nn] w fun e w' => e = .returned (.func (.func 34) #[] #[.pointer (some ⟨w.heap.size, 0, none⟩)]) ∧ w' = w.alloc (.cells #[.int .u64 nn] 61) := by
  go_enter Tryd.func30, Tryd.ntmps30
  go_wp2_with fail
  go_ret
  exact ⟨rfl, rfl⟩

theorem Bits_stops (n : Nat) (hn : 1 ≤ n) (Bn n₀ nn : Nat) (hnn : nn < 18446744073709551616) (hg : 0 < n₀) (w : World) (hn₀ : n₀ ≤ w.heap.size) (hBn : w.cell? ⟨Bn, 0, none⟩ = some (.int .u64 nn)) (hT : TabAt 0 Lib.deBruijn64tab w) :
    SeqStopsK Fence.wide n Tryd.prog 34 #[.pointer (some ⟨Bn, 0, none⟩)] (fun x : Int => #[Value.int .i64 x]) (KpB n₀ Bn) (fun ys => ys = plc nn) (fun pre => pre <+: plc nn) (plc nn).length w :=
  fun l J Jx W hW hJa _ hY h0 => Bits1_in n hn l Bn n₀ nn hnn hg J Jx (fun pre A C hj hc => hJa pre A C none hj ⟨hc.os, hc.tape, hc.output, hc.size, fun i hi _ => hc.block i hi (fun h => h)⟩ (fun r e => by cases e)) hY W (Nat.le_trans hn₀ hW.size)
    ((hW.cell (p := ⟨Bn, 0, none⟩) (World.block_lt_of_cell? _ _ hBn)).trans hBn) (tab_ch hT (Ch.of_below (S := No) hW)) h0

theorem infoInt : (Tryd.prog.info? 3).map (fun i => (i.zero, i.size, i.bytes)) = some (some (.int .i64 0), 1, 8) := by kernel_rfl
end Go.Proofs.YtpjcfelknkddfaaDoor
