/- the places of the bits that are 1: the iterator, and its places collected. -/
import Derived.RangeFuncNested
import Derived.RangeFuncBound
import Derived.RangeFuncCalls
import Derived.RangeFuncLeaves
import Derived.RangeFuncBox
import Derived.Shelf.Abstract
import Derived.Shelf.RegionOpen
import Derived.WalkKit
import Derived.OwnWalkIn
import Derived.TacticsInMore
import Derived.LoopNIn
import Derived.LoopIn
import Derived.Maps.AppendAt
import Derived.Test.YtdkkffmnpholdaaDoorFitTab
import Derived.Test.YtdkkffmnpholdaaDoorOwn
import Derived.Test.YtdkkffmnpholdaaDoorNum
namespace Go.Proofs.YtdkkffmnpholdaaDoor
open Go.RowKit Go.Shelf

attribute [local go_sem] Oper.semAt_some

/-- the places of the bits that are 1 -/
def plc (n : Nat) : List Int := ((List.range 64).filter fun i => n.testBit i).map fun i : Nat => (i : Int)
theorem plc_len (n : Nat) : (plc n).length ≤ 64 := by
  have := List.length_filter_le (fun i => n.testBit i) (List.range 64)
  simpa [plc] using this
theorem plc_zero : plc 0 = [] := by simp [plc]
theorem filter_first {n k : Nat} (p q : Nat → Bool) (hk : k < n) (h1 : ∀ i, i < k → p i = false) (h2 : p k = true) (h3 : ∀ i, k < i → p i = q i) (h4 : ∀ i, i ≤ k → q i = false) : (List.range n).filter p = k :: (List.range n).filter q := by
  induction n with
  | zero => omega
  | succ n ih =>
    rw [List.range_succ, List.filter_append, List.filter_append]
    by_cases hkn : k = n
    · subst hkn
      have e1 : (List.range k).filter p = [] := List.filter_eq_nil_iff.2 fun i hi => by rw [h1 i (List.mem_range.1 hi)]; simp
      have e2 : (List.range k).filter q = [] := List.filter_eq_nil_iff.2 fun i hi => by rw [h4 i (Nat.le_of_lt (List.mem_range.1 hi))]; simp
      rw [e1, e2]
      simp [h2, h4 k (Nat.le_refl _)]
    · rw [ih (by omega)]
      have := h3 n (by omega)
      simp [List.filter_cons, this]
theorem low_off (k m : Nat) : (2 ^ k * (2 * m + 1)) &&& (2 ^ k * (2 * m + 1) - 1) = 2 ^ (k + 1) * m := by
  have hp : 0 < 2 ^ k := Nat.two_pow_pos k
  have e : 2 ^ k * (2 * m + 1) - 1 = 2 ^ k * (2 * m) + (2 ^ k - 1) := by rw [Nat.mul_add]; omega
  rw [e]
  apply Nat.eq_of_testBit_eq
  intro i
  rw [Nat.testBit_and]
  by_cases hik : i < k
  · have h1 : (2 ^ k * (2 * m + 1)).testBit i = false := by rw [Nat.testBit_two_pow_mul]; simp; omega
    have h2 : (2 ^ (k + 1) * m).testBit i = false := by rw [Nat.testBit_two_pow_mul]; simp; omega
    rw [h1, h2, Bool.false_and]
  · obtain ⟨j, rfl⟩ : ∃ j, i = k + j := ⟨i - k, by omega⟩
    have h1 : (2 ^ k * (2 * m + 1)).testBit (k + j) = (2 * m + 1).testBit j := by rw [Nat.testBit_two_pow_mul]; simp
    have h2 : (2 ^ (k + 1) * m).testBit (k + j) = (2 * m).testBit j := by rw [Nat.pow_succ, Nat.mul_assoc, Nat.testBit_two_pow_mul]; simp
    have h3 : (2 ^ k * (2 * m) + (2 ^ k - 1)).testBit (k + j) = (2 * m).testBit j := by
      rw [Nat.testBit_two_pow_mul_add _ (by omega), if_neg (by omega), show k + j - k = j from by omega]
    rw [h1, h2, h3]
    cases j with
    | zero => simp [Nat.testBit_zero]
    | succ j =>
      rw [Nat.testBit_succ, Nat.testBit_succ, show (2 * m + 1) / 2 = m from by omega, show 2 * m / 2 = m from by omega, Bool.and_self]
theorem plc_step (x : Nat) (h0 : x ≠ 0) (hx : x < 18446744073709551616) : plc x = (Lib.ctz 64 x : Int) :: plc (x &&& (x - 1)) := by
  obtain ⟨m, hm, hk⟩ := Lib.ctzFrom_spec 64 x (by omega) hx
  have e : Lib.ctz 64 x = Lib.ctzFrom 64 x := by simp [Lib.ctz, h0]
  rw [e]
  generalize Lib.ctzFrom 64 x = k at *
  have hl := low_off k m
  rw [← hm] at hl
  rw [hl]
  unfold plc
  have q1 : ∀ i, i < k → x.testBit i = false := fun i hi => by
    rw [hm, Nat.testBit_two_pow_mul]; simp; omega
  have q2 : x.testBit k = true := by rw [hm, Nat.testBit_two_pow_mul]; simp
  have q3 : ∀ i, k < i → x.testBit i = (2 ^ (k + 1) * m).testBit i := fun i hi => by
    obtain ⟨j, rfl⟩ : ∃ j, i = k + 1 + j := ⟨i - k - 1, by omega⟩
    rw [hm, Nat.testBit_two_pow_mul, Nat.testBit_two_pow_mul]
    have e1 : k + 1 + j - k = j + 1 := by omega
    have e2 : k + 1 + j - (k + 1) = j := by omega
    rw [e1, e2, Nat.testBit_succ, show (2 * m + 1) / 2 = m from by omega]
    have e3 : k + 1 + j ≥ k := by omega
    have e4 : k + 1 + j ≥ k + 1 := by omega
    simp [e3, e4]
  have q4 : ∀ i, i ≤ k → (2 ^ (k + 1) * m).testBit i = false := fun i hi => by
    rw [Nat.testBit_two_pow_mul]; simp; omega
  rw [filter_first (fun i => x.testBit i) (fun i => (2 ^ (k + 1) * m).testBit i) hk q1 q2 q3 q4]
  rfl
theorem and_pred_lt (x : Nat) (h : x ≠ 0) : x &&& (x - 1) < x := Nat.lt_of_le_of_lt Nat.and_le_right (by omega)

/-- what a round keeps: what lay below n₀, and the box of the receiver -/
def KpB (n₀ Bn : Nat) (W W' : World) : Prop := Below n₀ W W' ∧ W'.heap[Bn]? = W.heap[Bn]?
theorem KpB.trans {n₀ Bn : Nat} {A B C : World} (h : KpB n₀ Bn A B) (k : KpB n₀ Bn B C) : KpB n₀ Bn A C := ⟨h.1.trans k.1, k.2.trans h.2⟩
theorem KpB.of_no {n₀ Bn : Nat} {A B : World} (h : Ch No A B) (hn : n₀ ≤ A.heap.size) (hB : Bn < A.heap.size) : KpB n₀ Bn A B :=
  ⟨⟨h.os, h.tape, h.output, h.size, fun i hi => h.block i (Nat.lt_of_lt_of_le hi hn) (fun h => h)⟩, h.block Bn hB (fun h => h)⟩
theorem KpB.bk {n₀ Bn : Nat} {w : World} (hn : n₀ ≤ w.heap.size) (hB : Bn < w.heap.size) (W : World) (l : Nat) (o o' : Obj) (hl : w.heap.size ≤ l) (ho : W.heap[l]? = some o) (h1 : o.isCells = false) (h2 : o.isWalk = false) : KpB n₀ Bn W (W.putObj l o') :=
  ⟨belowK_b hn W l o o' hl ho h1 h2, (grownBy_putObj' W l o').block Bn (by have := (Array.getElem?_eq_some_iff.1 ho).1; omega) (by intro e; simp at e; omega)⟩

set_option maxRecDepth 100000 in
set_option maxHeartbeats 2000000 in
theorem Bits1_in (n : Nat) (hn : 1 ≤ n) (l Bn n₀ nn : Nat) (hnn : nn < 18446744073709551616) (hg : 0 < n₀) (J Jx : List Int → World → Prop)
    (_hJd : ∀ pre W W', J pre W → Ch No W W' → J pre W')
    (hY : ∀ pre x W, J pre W → pre.length < (plc nn).length → YieldAt Fence.wide (n - 1) Tryd.prog l #[.int .i64 x] W fun e W' =>
      (e = .returned (.bool true) ∧ J (pre ++ [x]) W' ∧ KpB n₀ Bn W W') ∨ (e = .returned (.bool false) ∧ Jx (pre ++ [x]) W'))
    (W : World) (_hW : n₀ ≤ W.heap.size) (hBn : W.cell? ⟨Bn, 0, none⟩ = some (.int .u64 nn)) (hT : TabAt 0 Lib.deBruijn64tab W) (h0 : J [] W) :
    CallsIn Fence.wide n Tryd.prog 38 #[.func (.yield l) #[] #[], .pointer (some ⟨Bn, 0, none⟩)] W fun e W' => (∃ v, e = .returned v) ∧
      ((∃ ys, ys = plc nn ∧ J ys W') ∨ (∃ pre, pre <+: plc nn ∧ Jx pre W')) := by
  refine callsIn_of_wp Tryd.func38 rfl trivial ?_ rfl
  simp only [Tryd.ntmps38, List.size_toArray, List.length_cons, List.length_nil, Nat.reduceAdd, Nat.reduceSub, Array.replicate_succ, Array.replicate_zero, List.push_toArray, List.append_toArray, List.nil_append, List.cons_append]
  have HT := Lib.hid hT
  clear hT
  gi_wp2
  gi_loopw [3] (fun v wr => ∃ (pre : List Int) (z : Nat), v = .int .u64 z ∧ z < 18446744073709551616 ∧ Hid (pre ++ plc z = plc nn) ∧ J pre wr ∧ KpB n₀ Bn W wr) (fun v _ => (intOf v).toNat)
  case atStart => exact ⟨[], nn, rfl, hnn, Lib.hid rfl, h0, Below.refl _ _, rfl⟩
  case round =>
    obtain ⟨pre, z, rfl, hz, hpz, hJ, hb⟩ := hrel
    by_cases hz0 : z = 0
    · subst hz0
      gi_wp2
      go_end0
      have e : pre = plc nn := by rw [← hpz.out, plc_zero, List.append_nil]
      exact ⟨⟨_, rfl⟩, .inl ⟨_, e, hJ⟩⟩
    · have hT1 : TabAt 0 Lib.deBruijn64tab wr := fun j hj => (World.cell?_of_block (hb.1.block _ hg)).trans (HT.out j hj)
      have htz := TZ_any z hz hz0 wr hT1
      have hst := plc_step z hz0 hz
      have hlt := and_pred_lt z hz0
      have hzb : ((z : Int) == 0) = false := by simp; omega
      have hBl := hb.2
      have hpl : pre.length < (plc nn).length := by rw [← hpz.out, hst]; simp
      have hpz2 : Hid ((pre ++ [(Lib.ctz 64 z : Int)]) ++ plc (z &&& (z - 1)) = plc nn) := Lib.hid (by rw [← hpz.out, hst]; simp)
      have hand : bits BinOp.and IntKind.u64 (z : Int) ((z : Int) - 1) = ((z &&& (z - 1) : Nat) : Int) := by
        have e1 : (z : Int) - 1 = ((z - 1 : Nat) : Int) := by omega
        rw [e1, bits_and_u64_nat z _ hz (by omega)]
      generalize Lib.ctz 64 z = t at *
      generalize z &&& (z - 1) = z2 at *
      clear hst hT1
      gi_wp2
      refine ⟨trivial, ?_⟩
      refine (callsIn_wide.2 htz).mono ?_
      rintro e w1 ⟨rfl, rfl⟩
      obtain ⟨fn, tmps, assign, body, hy, hR⟩ := hY _ (t : Int) _ hJ hpl
      gi_wp2
      refine hR.mono ?_
      rintro e W3 (⟨rfl, hJ3, hk3⟩ | ⟨rfl, hJx3⟩)
      · gi_wp2
        go_roundw
        case rel => exact ⟨pre ++ [(t : Int)], z2, by simp, by omega, hpz2, hJ3, hb.trans hk3⟩
        case measure => simp [intOf]; omega
      · gi_wp2
        refine bodyPost_ret (results_none rfl _ _ _) rfl ?_
        refine ⟨⟨_, rfl⟩, .inr ⟨_, ?_, hJx3⟩⟩
        rw [← hpz2.out]
        exact List.prefix_append _ _

theorem Bits_any (w : World) (nn : Nat) : Calls Tryd.prog 36 #[.int .u64 nn] w fun e w' => e = .returned (.func (.func 38) #[] #[.pointer (some ⟨w.heap.size, 0, none⟩)]) ∧ w' = w.alloc (.cells #[.int .u64 nn] 41) := by
  go_enter Tryd.func36, Tryd.ntmps36
  go_wp2_with fail
  go_ret
  exact ⟨rfl, rfl⟩

theorem Bits_stops (n : Nat) (hn : 1 ≤ n) (Bn n₀ nn : Nat) (hnn : nn < 18446744073709551616) (hg : 0 < n₀) (w : World) (hn₀ : n₀ ≤ w.heap.size) (hBn : w.cell? ⟨Bn, 0, none⟩ = some (.int .u64 nn)) (hT : TabAt 0 Lib.deBruijn64tab w) :
    SeqStopsK Fence.wide n Tryd.prog 38 #[.pointer (some ⟨Bn, 0, none⟩)] (fun x : Int => #[Value.int .i64 x]) (KpB n₀ Bn) (fun ys => ys = plc nn) (fun pre => pre <+: plc nn) (plc nn).length w :=
  fun l J Jx W hW hJa _ hY h0 => Bits1_in n hn l Bn n₀ nn hnn hg J Jx (fun pre A C hj hc => hJa pre A C none hj ⟨hc.os, hc.tape, hc.output, hc.size, fun i hi _ => hc.block i hi (fun h => h)⟩ (fun r e => by cases e)) hY W (Nat.le_trans hn₀ hW.size)
    ((hW.cell (p := ⟨Bn, 0, none⟩) (World.block_lt_of_cell? _ _ hBn)).trans hBn) (tab_ch hT (Ch.of_below (S := No) hW)) h0

theorem infoInt : (Tryd.prog.info? 3).map (fun i => (i.zero, i.size, i.bytes)) = some (some (.int .i64 0), 1, 8) := by kernel_rfl
set_option maxRecDepth 100000 in
set_option maxHeartbeats 4000000 in
theorem places_any (w : World) (nn : Nat) (hnn : nn < 18446744073709551616) (hT : TabAt 0 Lib.deBruijn64tab w) (most : Int) :
    Calls Tryd.prog 25 #[.int .u64 nn, .int .i64 most] w fun e w' => ∃ v, e = .returned v ∧ OwnS w' w.heap.size 3 v (ints .i64 ((plc nn).take most.toNat)) ∧ Ch No w w' := by
  refine callsIn_wide (n := 3) |>.1 ?_
  refine callsIn_of_wp_marks Tryd.func25 rfl trivial ?_ rfl
  simp only [Tryd.ntmps25, List.size_toArray, List.length_cons, List.length_nil, Nat.reduceAdd, Nat.reduceSub, Array.replicate_succ, Array.replicate_zero, List.push_toArray, List.append_toArray, List.nil_append, List.cons_append]
  have hg : 0 < w.heap.size := World.block_lt_of_cell? _ _ (hT 0 (by decide))
  obtain ⟨i0, hi, hz0, hz1, hz2⟩ := info_parts infoInt
  by_cases hm : most ≤ 0
  · gi_wp2
    have ht : (plc nn).take most.toNat = [] := by rw [show most.toNat = 0 from by omega]; rfl
    rw [ht]
    have q := World.ownsRow_lit (base := w.heap.size) (e := 3) (size := 1) ((w.alloc (.cells #[.int .i64 most] 3)).alloc (.cells #[.slice (some ⟨w.heap.size + 1 + 1, 0, none⟩) 0 0] 42)) #[] 0 (by simp; omega) (by simp) rfl
    have q2 := q.alloc (.cells #[.slice (some ⟨w.heap.size + 1 + 1, 0, none⟩) 0 0] 42)
    have q3 : (((w.alloc (.cells #[.int .i64 most] 3)).alloc (.cells #[.slice (some ⟨w.heap.size + 1 + 1, 0, none⟩) 0 0] 42)).alloc (.cells #[] 3)).cell? ⟨w.heap.size + 1, 0, none⟩ = some (.slice (some ⟨w.heap.size + 1 + 1, 0, none⟩) 0 0) := by
      have := ((Boxed.new (w.alloc (.cells #[.int .i64 most] 3)) 42 (.slice (some ⟨w.heap.size + 1 + 1, 0, none⟩) 0 0)).alloc (.cells #[] 3)).cell
      simpa using this
    refine ⟨.slice (some ⟨w.heap.size + 1 + 1, 0, none⟩) 0 0, by simp [results, Tryd.f25, go_sem], _, rfl, by simpa [OwnS, ints] using q2, (((Ch.refl No w).alloc _).alloc _).alloc _ |>.alloc _⟩
  · gi_wp2
    refine ⟨trivial, ?_⟩
    refine (callsIn_wide.2 (Bits_any _ _)).mono ?_
    rintro e w1 ⟨rfl, rfl⟩
    gi_wp2
    have bM : Boxed (((((w.alloc (.cells #[.int .i64 most] 3)).alloc (.cells #[.slice none 0 0] 42)).alloc (.cells #[] 3)).alloc (.cells #[.slice (some ⟨w.heap.size + 1 + 1, 0, none⟩) 0 0] 42)).alloc (.cells #[.int .u64 nn] 41)) w.heap.size 3 (.int .i64 most) := ((((Boxed.new w _ _).alloc _).alloc _).alloc _).alloc _
    have bR : Boxed (((((w.alloc (.cells #[.int .i64 most] 3)).alloc (.cells #[.slice none 0 0] 42)).alloc (.cells #[] 3)).alloc (.cells #[.slice (some ⟨w.heap.size + 1 + 1, 0, none⟩) 0 0] 42)).alloc (.cells #[.int .u64 nn] 41)) (w.heap.size + 1) 42 (.slice none 0 0) := by
      have := (((Boxed.new (w.alloc (.cells #[.int .i64 most] 3)) 42 (.slice none 0 0)).alloc (.cells #[] 3)).alloc (.cells #[.slice (some ⟨w.heap.size + 1 + 1, 0, none⟩) 0 0] 42)).alloc (.cells #[.int .u64 nn] 41)
      simpa using this
    have bO : Boxed (((((w.alloc (.cells #[.int .i64 most] 3)).alloc (.cells #[.slice none 0 0] 42)).alloc (.cells #[] 3)).alloc (.cells #[.slice (some ⟨w.heap.size + 1 + 1, 0, none⟩) 0 0] 42)).alloc (.cells #[.int .u64 nn] 41)) (w.heap.size + 1 + 1 + 1) 42 (.slice (some ⟨w.heap.size + 1 + 1, 0, none⟩) 0 0) := by
      have := (Boxed.new (((w.alloc (.cells #[.int .i64 most] 3)).alloc (.cells #[.slice none 0 0] 42)).alloc (.cells #[] 3)) 42 (.slice (some ⟨w.heap.size + 1 + 1, 0, none⟩) 0 0)).alloc (.cells #[.int .u64 nn] 41)
      simpa using this
    have bX : Boxed (((((w.alloc (.cells #[.int .i64 most] 3)).alloc (.cells #[.slice none 0 0] 42)).alloc (.cells #[] 3)).alloc (.cells #[.slice (some ⟨w.heap.size + 1 + 1, 0, none⟩) 0 0] 42)).alloc (.cells #[.int .u64 nn] 41)) (w.heap.size + 1 + 1 + 1 + 1) 41 (.int .u64 nn) := by
      have := Boxed.new ((((w.alloc (.cells #[.int .i64 most] 3)).alloc (.cells #[.slice none 0 0] 42)).alloc (.cells #[] 3)).alloc (.cells #[.slice (some ⟨w.heap.size + 1 + 1, 0, none⟩) 0 0] 42)) 41 (.int .u64 nn)
      simpa using this
    have rO : (((((w.alloc (.cells #[.int .i64 most] 3)).alloc (.cells #[.slice none 0 0] 42)).alloc (.cells #[] 3)).alloc (.cells #[.slice (some ⟨w.heap.size + 1 + 1, 0, none⟩) 0 0] 42)).alloc (.cells #[.int .u64 nn] 41)).ownsRow (w.heap.size + 2) 3 1 (.slice (some ⟨w.heap.size + 1 + 1, 0, none⟩) 0 0) 0 [] := by
      have q := World.ownsRow_lit (base := w.heap.size + 2) (e := 3) (size := 1) ((w.alloc (.cells #[.int .i64 most] 3)).alloc (.cells #[.slice none 0 0] 42)) #[] 0 (by simp) (by simp) rfl
      have q2 := (q.alloc (.cells #[.slice (some ⟨w.heap.size + 1 + 1, 0, none⟩) 0 0] 42)).alloc (.cells #[.int .u64 nn] 41)
      simpa using q2
    have C5 : Ch No w (((((w.alloc (.cells #[.int .i64 most] 3)).alloc (.cells #[.slice none 0 0] 42)).alloc (.cells #[] 3)).alloc (.cells #[.slice (some ⟨w.heap.size + 1 + 1, 0, none⟩) 0 0] 42)).alloc (.cells #[.int .u64 nn] 41)) := (((((Ch.refl No w).alloc _).alloc _).alloc _).alloc _).alloc _
    have z5 : (((((w.alloc (.cells #[.int .i64 most] 3)).alloc (.cells #[.slice none 0 0] 42)).alloc (.cells #[] 3)).alloc (.cells #[.slice (some ⟨w.heap.size + 1 + 1, 0, none⟩) 0 0] 42)).alloc (.cells #[.int .u64 nn] 41)).heap.size = w.heap.size + 5 := by simp
    generalize ((((w.alloc (.cells #[.int .i64 most] 3)).alloc (.cells #[.slice none 0 0] 42)).alloc (.cells #[] 3)).alloc (.cells #[.slice (some ⟨w.heap.size + 1 + 1, 0, none⟩) 0 0] 42)).alloc (.cells #[.int .u64 nn] 41) = w5 at *
    have hpl := plc_len nn
    refine wpIn_rangeFunc_ownG (w0 := w5) rfl (by omega) (gf := 38) (lb := #[.pointer (some ⟨w.heap.size + 1 + 1 + 1 + 1, 0, none⟩)]) rfl trivial (enters_of Tryd.func38 (by kernel_rfl) rfl)
      (Bits_stops 2 (by omega) (w.heap.size + 1 + 1 + 1 + 1) w.heap.size nn hnn hg w5 (by omega) bX.cell (tab_ch hT C5)) KpB.trans (KpB.bk (by omega) (by omega)) (Below.refl _ _) (fun _ => rfl)
      (fun (pre : List Int) W => (∃ v, Boxed W (w.heap.size + 1 + 1 + 1) 42 v ∧ W.ownsRow (w.heap.size + 2) 3 1 v pre.length (pre.map (Value.int .i64)) ∧ True) ∧ (Boxed W w.heap.size 3 (.int .i64 most) ∧ Boxed W (w.heap.size + 1) 42 (.slice none 0 0) ∧ Boxed W (w.heap.size + 1 + 1 + 1 + 1) 41 (.int .u64 nn)) ∧ (pre.length : Int) < most ∧ Below w.heap.size w W)
      (fun c (pre : List Int) W => c = .ret ∧ (∃ v, Boxed W (w.heap.size + 1) 42 v ∧ W.ownsRow (w.heap.size + 2) 3 1 v pre.length (pre.map (Value.int .i64)) ∧ True) ∧ (pre.length : Int) = most ∧ Below w.heap.size w W)
      (OwnFrom.and (Own.from (holdsRow_own _ _ _ _ 1 (fun pre : List Int => pre.length) (fun pre : List Int => pre.map (Value.int .i64)) (fun (_ : List Int) _ => True)) _) (OwnFrom.and (OwnFrom.and (Own.from (boxed_own _ _ (fun _ : List Int => _)) _) (OwnFrom.and (Own.from (boxed_own _ _ (fun _ : List Int => _)) _) (Own.from (boxed_own _ _ (fun _ : List Int => _)) _))) (OwnFrom.and (ownFrom_pure _ (fun pre : List Int => ((pre.length : Nat) : Int) < most)) (ownFrom_below (Nat.le_refl _) (by omega)))))
      (fun c => OwnFrom.and (ownFrom_pure _ (fun _ : List Int => c = .ret)) (OwnFrom.and (Own.from (holdsRow_own _ _ _ _ 1 (fun pre : List Int => pre.length) (fun pre : List Int => pre.map (Value.int .i64)) (fun (_ : List Int) _ => True)) _) (OwnFrom.and (ownFrom_pure _ (fun pre : List Int => ((pre.length : Nat) : Int) = most)) (ownFrom_below (Nat.le_refl _) (by omega)))))
      ⟨⟨_, bO, rO, trivial⟩, ⟨bM, bR, bX⟩, by simp; omega, C5.same⟩
      (fun x => { tmps := #[.int .u64 nn, .int .i64 most, undef, .pointer (some ⟨w.heap.size, 0, none⟩), .pointer (some ⟨w.heap.size + 1, 0, none⟩), .pointer (some ⟨w.heap.size + 1 + 1 + 1, 0, none⟩), .int .i64 x, .slice (some ⟨w.heap.size + 1 + 1, 0, none⟩) 0 0, .int .i64 most, .bool false, undef, .int .u64 nn, .func (.func 38) #[] #[.pointer (some ⟨w.heap.size + 1 + 1 + 1 + 1, 0, none⟩)], .int .i64 x, undef, undef, undef, undef, undef, undef, undef, undef, undef, undef], defers := [] }) ?assign ?body ?done ?stop
    case assign =>
      intro l x W K hK
      gi_wp2
      exact hK
    case body =>
      rintro l pre x W ⟨⟨v, hv, hrow, _⟩, ⟨h3, h4, hx⟩, hlen, hB⟩ hlt'
      have hc := hv.cell
      have hsz : w.heap.size + 5 ≤ W.heap.size := by have := hx.lt; omega
      have hrow2 : W.ownsRow (w.heap.size + 2) 3 1 v pre.length (pre.map (Value.int .i64)) := hrow
      have hn3 : some w.heap.size ≠ v.ownBlock := fun e => by have := (hrow.lt _ e.symm).1; omega
      have hn4 := h4.not_row (e := 3) (by decide) hrow
      have hnx := hx.not_row (e := 3) (by decide) hrow
      have hpm : (pre.map (Value.int .i64)).length = pre.length := by simp
      obtain ⟨m, hmm⟩ : ∃ m : Nat, most = m := ⟨most.toNat, by omega⟩
      subst hmm
      by_cases he : pre.length + 1 = m
      · gi_wp2_with (gi_at_builtin; refine wpListIn_append_own _ rfl _ _ 42 rfl (w.heap.size + 2) 3 i0 (.int .i64 0) 1 8 Tryd.underlying42 hi hz0 hz1 hz2 rfl (by decide) _ _ _ rfl (hrow.alloc _) ⟨W.heap.size, 0, none⟩ 1 1 [.int .i64 x] rfl rfl (cell_one_new _ _ _) (by simp [Value.oneCell']) (by simp [maxLen]; omega) (by omega) (by simp; omega) ?_; intro v' w1 hown' hgrow _; obtain ⟨g', cap', rfl⟩ := ownsRow_succ hown'; obtain ⟨hv1, hv2, hr2, hk2, hb2⟩ := hv.appended (by decide) hrow (by omega) (by omega) hown' hgrow; have hc1 := hv1.cell; have hf1 := hv1.frozen; have h3w := ((h3.alloc _).kept hgrow hn3); have h4w := ((h4.alloc _).kept hgrow hn4); have c3 := h3w.cell; have hxw := ((hx.alloc _).kept hgrow hnx); have f4 := h4w.frozen; have c4 := h4w.cell)
        have hb3 := hb2.mono (show w.heap.size ≤ w.heap.size + 2 by omega)
        have hg2 : w.heap.size + 2 ≤ g' := (hr2.lt g' rfl).1
        rw [he] at hk2 hb3 hr2
        refine ⟨(hk2.trans (KeepsOthers.setCell _ _ _)).from _, rfl, ⟨_, (h4w.other (by omega) _).set _, ?_, trivial⟩, by simp; omega, (hB.trans hb3).setCell (p := ⟨w.heap.size + 1, 0, none⟩) (by simp) _⟩
        have q := hr2.kept (grownBy_setCell' _ (w.heap.size + 1) (.slice (some ⟨g', 0, none⟩) m cap')) (.inr (by simp [Value.ownBlock]; omega))
        simpa [he] using q
      · gi_wp2_with (gi_at_builtin; refine wpListIn_append_own _ rfl _ _ 42 rfl (w.heap.size + 2) 3 i0 (.int .i64 0) 1 8 Tryd.underlying42 hi hz0 hz1 hz2 rfl (by decide) _ _ _ rfl (hrow.alloc _) ⟨W.heap.size, 0, none⟩ 1 1 [.int .i64 x] rfl rfl (cell_one_new _ _ _) (by simp [Value.oneCell']) (by simp [maxLen]; omega) (by omega) (by simp; omega) ?_; intro v' w1 hown' hgrow _; obtain ⟨g', cap', rfl⟩ := ownsRow_succ hown'; obtain ⟨hv1, hv2, hr2, hk2, hb2⟩ := hv.appended (by decide) hrow (by omega) (by omega) hown' hgrow; have hc1 := hv1.cell; have hf1 := hv1.frozen; have h3w := ((h3.alloc _).kept hgrow hn3); have h4w := ((h4.alloc _).kept hgrow hn4); have c3 := h3w.cell; have hxw := ((hx.alloc _).kept hgrow hnx); have f4 := h4w.frozen; have c4 := h4w.cell)
        have hb3 := hb2.mono (show w.heap.size ≤ w.heap.size + 2 by omega)
        have hg2 : w.heap.size + 2 ≤ g' := (hr2.lt g' rfl).1
        have hxw2 := hxw.other (B' := w.heap.size + 1 + 1 + 1) (by omega) (.slice (some ⟨g', 0, none⟩) (pre.length + 1) cap')
        refine ⟨hk2.from _, ⟨hb3, Eq.trans hxw2 (Eq.symm hx)⟩, ⟨_, hv2, by simpa using hr2, trivial⟩, ⟨h3w.other (by omega) _, h4w.other (by omega) _, hxw2⟩, by simp; omega, hB.trans hb3⟩
    case done =>
      rintro D ys W hD rfl ⟨⟨v, hv, hrow, _⟩, ⟨h3, h4, hx⟩, hlen, hB⟩ hK
      obtain ⟨Av, cv, rfl, _⟩ := (show OwnS W (w.heap.size + 2) 3 v (ints .i64 (plc nn)) by simpa [OwnS, ints] using hrow).slice_ints
      have hc := hv.cell
      have f4 := h4.frozen
      have c4 := h4.cell
      gi_wp2
      refine ⟨by simp, .inl ⟨_, _, rfl, run_takeDeferred ((KeepsOthers.setCell _ _ _).same D _ hK rfl), ?_⟩⟩
      have hv4 := h4.set (.slice Av (plc nn).length cv)
      have hK4 := (KeepsOthers.setCell W ⟨w.heap.size + 1, 0, none⟩ (.slice Av (plc nn).length cv)).same D _ hK rfl
      have hc5 := cell_kept hv4.cell (grownBy_putObj' _ D (.deferred none)) (fun r e => by cases e; exact ⟨_, hK4, rfl⟩)
      have ht : (plc nn).take most.toNat = plc nn := List.take_of_length_le (by omega)
      have hr4 := hrow.kept (grownBy_setCell' W (w.heap.size + 1) (.slice Av (plc nn).length cv)) (.inr (fun e => by have := (hrow.lt _ e).1; omega))
      refine ⟨.slice Av (plc nn).length cv, by simp [results, Tryd.f25, go_sem, hc5], _, rfl, ?_, Ch.of_below ((hB.setCell (p := ⟨w.heap.size + 1, 0, none⟩) (by simp) _).trans (belowK_b (w := w) (Nat.le_refl _) _ D _ _ (by omega) hK4 rfl rfl))⟩
      rw [ht]
      have q := ownsRow_putObj hr4 (.deferred none) hK4 rfl
      exact OwnS.lower (B := w.heap.size + 2) (by simpa [OwnS, ints] using q) (by omega)
    case stop =>
      rintro D c pre W hD hpre ⟨rfl, ⟨v, hv, hrow, _⟩, hlen, hB⟩ hK
      gi_wp2
      refine ⟨by simp, .inl ⟨_, _, rfl, run_takeDeferred hK, ?_⟩⟩
      have hc5 := cell_kept hv.cell (grownBy_putObj' _ D (.deferred none)) (fun r e => by cases e; exact ⟨_, hK, rfl⟩)
      have ht : (plc nn).take most.toNat = pre := by
        obtain ⟨t, ht⟩ := hpre
        rw [← ht, show most.toNat = pre.length from by omega, List.take_left']
        rfl
      refine ⟨v, by simp [results, Tryd.f25, go_sem, hc5], v, rfl, ?_, Ch.of_below (hB.trans (belowK_b (w := w) (Nat.le_refl _) W D _ _ (by omega) hK rfl rfl))⟩
      rw [ht]
      have q := ownsRow_putObj hrow (.deferred none) hK rfl
      exact OwnS.lower (B := w.heap.size + 2) (by simpa [OwnS, ints] using q) (by omega)
end Go.Proofs.YtdkkffmnpholdaaDoor
