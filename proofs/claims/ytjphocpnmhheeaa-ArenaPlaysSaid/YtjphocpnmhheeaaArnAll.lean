/- arena.All: the iterator. -/
import Derived.RangeFuncNested
import Derived.RangeFuncBound
import Derived.RangeFuncCalls
import Derived.RangeFuncLeaves
import Derived.RangeFuncBox
import Derived.Shelf.Abstract
import Derived.Shelf.RegionOpen
import Derived.WalkKit
import Derived.OwnWalkIn
import Derived.TacticsInMore
import Derived.LoopNIn
import Derived.LoopIn
import Derived.Maps.AppendAt
import Derived.Test.YtjphocpnmhheeaaArnMem
namespace Go.Proofs.Ytjphocpnmhheeaa
open Go.RowKit Go.Shelf

attribute [local go_sem] Oper.semAt_some

/-- nodes with their numbers -/
def numb (l : List Nd) (j : Nat) : List (Int × Nd) := (l.take j).mapIdx fun i a => ((i : Int) + 1, a)
theorem numb_succ (l : List Nd) (j : Nat) (h : j < l.length) : numb l (j + 1) = numb l j ++ [((j : Int) + 1, l[j])] := by
  unfold numb
  rw [List.take_succ_eq_append_getElem h, List.mapIdx_append]
  simp [List.length_take, Nat.min_eq_left (Nat.le_of_lt h)]
@[simp] theorem numb_len (l : List Nd) (j : Nat) : (numb l j).length = min j l.length := by simp [numb]
theorem numb_pre (l : List Nd) (j : Nat) : numb l j <+: numb l l.length := by
  unfold numb
  rw [List.take_length]
  refine ⟨(l.drop j).mapIdx fun i a => (((i + (l.take j).length : Nat) : Int) + 1, a), ?_⟩
  rw [← List.mapIdx_append, List.take_append_drop]
theorem numb_snd (l : List Nd) (j : Nat) : (numb l j).map Prod.snd = l.take j := by
  unfold numb
  refine List.ext_getElem? fun i => ?_
  simp only [List.getElem?_map, List.getElem?_mapIdx]
  cases (l.take j)[i]? <;> rfl

/-- what a round keeps: what lay below n₀, and the box of the receiver -/
def KpA (n₀ Bn : Nat) (W W' : World) : Prop := Below n₀ W W' ∧ W'.heap[Bn]? = W.heap[Bn]?
theorem KpA.trans {n₀ Bn : Nat} {A B C : World} (h : KpA n₀ Bn A B) (k : KpA n₀ Bn B C) : KpA n₀ Bn A C := ⟨h.1.trans k.1, k.2.trans h.2⟩
theorem KpA.of_no {n₀ Bn : Nat} {A B : World} (h : Ch No A B) (hn : n₀ ≤ A.heap.size) (hB : Bn < A.heap.size) : KpA n₀ Bn A B :=
  ⟨⟨h.os, h.tape, h.output, h.size, fun i hi => h.block i (Nat.lt_of_lt_of_le hi hn) (fun h => h)⟩, h.block Bn hB (fun h => h)⟩
theorem KpA.bk {n₀ Bn : Nat} {w : World} (hn : n₀ ≤ w.heap.size) (hB : Bn < w.heap.size) (W : World) (l : Nat) (o o' : Obj) (hl : w.heap.size ≤ l) (ho : W.heap[l]? = some o) (h1 : o.isCells = false) (h2 : o.isWalk = false) : KpA n₀ Bn W (W.putObj l o') :=
  ⟨belowK_b hn W l o o' hl ho h1 h2, (grownBy_putObj' W l o').block Bn (by have := (Array.getElem?_eq_some_iff.1 ho).1; omega) (by intro e; simp at e; omega)⟩

def ndV (x : Int × Nd) : Array Value := #[.int .i32 x.1, x.2.val]

set_option maxRecDepth 100000 in
set_option maxHeartbeats 4000000 in
theorem AAll1_in (n : Nat) (hn : 1 ≤ n) (l Bn n₀ B g : Nat) (k : Option Nat) (lim : Int) (L : List Nd) (hg : g < n₀) (hk : ∀ i, k = some i → i < n₀) (J Jx : List (Int × Nd) → World → Prop)
    (hY : ∀ pre x W, J pre W → pre.length < L.length → YieldAt Fence.wide (n - 1) Try.prog l (ndV x) W fun e W' =>
      (e = .returned (.bool true) ∧ J (pre ++ [x]) W' ∧ KpA n₀ Bn W W') ∨ (e = .returned (.bool false) ∧ Jx (pre ++ [x]) W'))
    (W : World) (hBn : W.cell? ⟨Bn, 0, none⟩ = some (.pointer (some ⟨g, 0, none⟩))) (hL : Ar W B g k lim L) (hl : L.length ≤ 1000000) (h0 : J [] W) :
    CallsIn Fence.wide n Try.prog 38 #[.func (.yield l) #[] #[], .pointer (some ⟨Bn, 0, none⟩)] W fun e W' => (∃ v, e = .returned v) ∧
      ((∃ ys, ys = numb L L.length ∧ J ys W') ∨ (∃ pre, pre <+: numb L L.length ∧ Jx pre W')) := by
  refine callsIn_of_wp Try.func38 rfl trivial ?_ rfl
  simp only [Try.ntmps38, List.size_toArray, List.length_cons, List.length_nil, Nat.reduceAdd, Nat.reduceSub, Array.replicate_succ, Array.replicate_zero, List.push_toArray, List.append_toArray, List.nil_append, List.cons_append]
  obtain ⟨A, c, q0, _, _⟩ := hL.len
  have h00 : J (numb L 0) W := h0
  gi_wp2
  gi_loopw [3, 9] (fun _ i wr => ∃ j : Nat, j ≤ L.length ∧ i = .int .i64 j ∧ Hid (J (numb L j) wr ∧ KpA n₀ Bn W wr)) (fun _ i _ => L.length - (intOf i).toNat)
  case atStart => exact ⟨0, by omega, rfl, Lib.hid ⟨h00, Below.refl _ _, rfl⟩⟩
  case round =>
    clear h00
    obtain ⟨j, hj, rfl, hst⟩ := hrel
    by_cases hjl : j < L.length
    · have hC : Ch (fun i => n₀ ≤ i) W wr := ⟨hst.out.2.1.os, hst.out.2.1.tape, hst.out.2.1.output, hst.out.2.1.size, fun i _ hi => hst.out.2.1.block i (by omega)⟩
      have hL1 := hL.ch hC (by omega) (fun i hi => by have := hk i hi; omega)
      have hBn1 : wr.cell? ⟨Bn, 0, none⟩ = some (.pointer (some ⟨g, 0, none⟩)) := (World.cell?_of_block hst.out.2.2).trans hBn
      have hsc := numb_succ L j hjl
      obtain ⟨pre, a, post, hpp, hpl⟩ : ∃ pre a post, L = pre ++ a :: post ∧ pre.length = j := ⟨L.take j, L[j], L.drop (j + 1), by rw [List.getElem_cons_drop, List.take_append_drop], by rw [List.length_take]; omega⟩
      have ha : L[j] = a := by subst hpp; subst hpl; simp
      rw [ha] at hsc
      rw [hpp] at hL1
      obtain ⟨kb, c1, hkk, d0, _, ⟨k0, k1, k2, k3, k4, k5, k6⟩, _, hc1⟩ := hL1.cells
      rw [← hpp] at d0 hc1
      rw [hpl] at k0 k1 k2 k3 k4 k5 k6
      have hjn : (numb L j).length < L.length := by rw [numb_len]; omega
      have HSC := Lib.hid hsc
      have hJ1 := hst.out.1
      obtain ⟨fn, tmps, assign, body, hy, hR⟩ := hY _ ((j : Int) + 1, a) wr hJ1 hjn
      simp only [ndV, Nd.val] at hy
      have hLm : L.length ≤ 1000000 := hl
      clear hsc hJ1 hL1 hC hjn hkk ha hpp hpl
      gi_wp2
      refine hR.mono ?_
      rintro e W3 (⟨rfl, hJ3, hk3⟩ | ⟨rfl, hJx3⟩)
      · have HF : Hid (J (numb L (j + 1)) W3 ∧ KpA n₀ Bn W W3) := Lib.hid ⟨by rw [HSC.out]; exact hJ3, hst.out.2.trans hk3⟩
        clear hJ3 hk3
        gi_wp2
        go_roundw
        case rel => exact ⟨j + 1, by omega, by go_num, HF⟩
        case measure => simp [intOf]; omega
      · gi_wp2
        refine bodyPost_ret (results_none rfl _ _ _) rfl ?_
        refine ⟨⟨_, rfl⟩, .inr ⟨_, ?_, hJx3⟩⟩
        rw [← HSC.out]
        exact numb_pre L (j + 1)
    · obtain rfl : j = L.length := by omega
      gi_wp2
      go_end0
      exact ⟨⟨_, rfl⟩, .inl ⟨_, rfl, hst.out.1⟩⟩

theorem AAll_any (w : World) (p : Option Addr) : Calls Try.prog 35 #[.pointer p] w fun e w' => e = .returned (.func (.func 38) #[] #[.pointer (some ⟨w.heap.size, 0, none⟩)]) ∧ w' = w.alloc (.cells #[.pointer p] 24) := by
  go_enter Try.func35, Try.ntmps35
  go_wp2_with fail
  go_ret
  exact ⟨rfl, rfl⟩

theorem AAll_stops (n : Nat) (hn : 1 ≤ n) (Bn n₀ B g : Nat) (k : Option Nat) (lim : Int) (L : List Nd) (hg : g < n₀) (hk : ∀ i, k = some i → i < n₀) (w : World) (hBn : w.cell? ⟨Bn, 0, none⟩ = some (.pointer (some ⟨g, 0, none⟩))) (hL : Ar w B g k lim L) (hl : L.length ≤ 1000000) :
    SeqStopsK Fence.wide n Try.prog 38 #[.pointer (some ⟨Bn, 0, none⟩)] ndV (KpA n₀ Bn) (fun ys => ys = numb L L.length) (fun pre => pre <+: numb L L.length) L.length w :=
  fun l J Jx W hW _ _ hY h0 => AAll1_in n hn l Bn n₀ B g k lim L hg hk J Jx hY W
    ((hW.cell (p := ⟨Bn, 0, none⟩) (World.block_lt_of_cell? _ _ hBn)).trans hBn) (hL.no (Ch.of_below (S := No) hW)) hl h0

/-- a block of cells is left alone by whatever turns none -/
theorem blk_own {L : Nat} {t : TypeId} {vs : List Value} {X Y : World} {row : Option Nat} (h : Blk X L t vs) (hg : X.grownBy Y row) (hr : ∀ r, row = some r → ∃ o : Obj, X.heap[r]? = some o ∧ o.isCells = false) : Blk Y L t vs := by
  refine (hg.block L h.lt (fun e => ?_)).trans h
  obtain ⟨o, ho, hc⟩ := hr L e.symm
  rw [show X.heap[L]? = _ from h] at ho
  cases ho
  cases hc
/-- the number that comes last is not as it should be -/
def BadN (pre : List (Int × Nd)) : Prop := ∃ p x, pre = p ++ [x] ∧ ¬ wrap64 x.1 = (p.length : Int) + 1
theorem numb_good {L : List Nd} {pre : List (Int × Nd)} (hl : L.length ≤ 1000000) (h : pre <+: numb L L.length) : ¬ BadN pre := by
  rintro ⟨p, x, rfl, hx⟩
  obtain ⟨t, ht⟩ := h
  have h1 : (numb L L.length)[p.length]? = some x := by rw [← ht]; simp
  have hpl : p.length < (numb L L.length).length := (List.getElem?_eq_some_iff.1 h1).1
  rw [numb_len, Nat.min_self] at hpl
  unfold numb at h1
  rw [List.getElem?_mapIdx, List.take_length, List.getElem?_eq_getElem hpl] at h1
  simp only [Option.map_some, Option.some.injEq] at h1
  rw [← h1] at hx
  refine hx ?_
  simp only
  unfold wrap64
  omega
theorem row_shape {w : World} {B n sz : Nat} {e : TypeId} {v : Value} {vs : List Value} (h : w.ownsRow B e sz v n vs) : ∃ A c, v = .slice A n c := by
  rcases h.2 with ⟨rfl, h0⟩ | ⟨g, cap, cur, rfl, _⟩
  · exact ⟨none, 0, by rw [h0]⟩
  · exact ⟨_, _, rfl⟩
theorem cells_new (w : World) (us : List Value) (t : TypeId) : ∀ j u, us[j]? = some u → (w.alloc (.cells us.toArray t)).cell? ((⟨w.heap.size, 0, none⟩ : Addr).add j) = some u := by
  intro j u hj
  have e1 : (⟨w.heap.size, 0, none⟩ : Addr).add j = ⟨w.heap.size, j, none⟩ := by unfold Addr.add; split <;> simp_all
  rw [e1, (Blk.new w t us).cell j]
  exact hj
theorem flatP_snoc (pre : List (Int × Nd)) (x : Int × Nd) : flatN ((pre ++ [x]).map Prod.snd) = flatN (pre.map Prod.snd) ++ x.2.enc := by simp [flatN]
def flatP (pre : List (Int × Nd)) : List Value := flatN (pre.map Prod.snd)

set_option maxRecDepth 100000 in
set_option maxHeartbeats 8000000 in
theorem nodes_any (w : World) (B g : Nat) (k : Option Nat) (lim : Int) (L : List Nd) (h : Ar w B g k lim L) (hl : L.length ≤ 1000000) (most : Int) :
    Calls Try.prog 22 #[.pointer (some ⟨g, 0, none⟩), .int .i64 most] w fun e w' => ∃ v, e = .returned (.tuple #[v, .bool true]) ∧ w'.ownsRow w.heap.size 34 7 v (L.take most.toNat).length (flatN (L.take most.toNat)) ∧ Ch No w w' := by
  refine callsIn_wide (n := 3) |>.1 ?_
  refine callsIn_of_wp_marks Try.func22 rfl trivial ?_ rfl
  simp only [Try.ntmps22, List.size_toArray, List.length_cons, List.length_nil, Nat.reduceAdd, Nat.reduceSub, Array.replicate_succ, Array.replicate_zero, List.push_toArray, List.append_toArray, List.nil_append, List.cons_append]
  have hlt := h.lt
  obtain ⟨i0, hi, hz0, hz1, hz2⟩ := info_parts infoNd
  by_cases hm : most ≤ 0
  · gi_wp2
    have q := World.ownsRow_lit (base := w.heap.size) (e := 34) (size := 7) (((w.alloc (.cells #[.int .i64 most] 3)).alloc (.cells #[.slice (some ⟨w.heap.size + 1 + 1 + 1, 0, none⟩) 0 0] 49)).alloc (.cells #[.bool true] 4)) #[] 0 (by simp; omega) (by simp) rfl
    have q2 := q.alloc (.cells #[.slice (some ⟨w.heap.size + 1 + 1 + 1, 0, none⟩) 0 0] 49)
    refine ⟨.tuple #[.slice (some ⟨w.heap.size + 1 + 1 + 1, 0, none⟩) 0 0, .bool true], by simp [results, Try.f22, go_sem], _, rfl, by rw [show most.toNat = 0 from by omega]; simpa [flatN] using q2, (((((Ch.refl No w).alloc _).alloc _).alloc _).alloc _).alloc _⟩
  · gi_wp2
    refine ⟨trivial, ?_⟩
    refine (callsIn_wide.2 (AAll_any _ _)).mono ?_
    rintro e w1 ⟨rfl, rfl⟩
    gi_wp2
    have bM : Boxed ((((((w.alloc (.cells #[.int .i64 most] 3)).alloc (.cells #[.slice none 0 0] 49)).alloc (.cells #[.bool false] 4)).alloc (.cells #[] 34)).alloc (.cells #[.slice (some ⟨w.heap.size + 1 + 1 + 1, 0, none⟩) 0 0] 49)).alloc (.cells #[.pointer (some ⟨g, 0, none⟩)] 24)) w.heap.size 3 (.int .i64 most) := (((((Boxed.new w _ _).alloc _).alloc _).alloc _).alloc _).alloc _
    have bR : Boxed ((((((w.alloc (.cells #[.int .i64 most] 3)).alloc (.cells #[.slice none 0 0] 49)).alloc (.cells #[.bool false] 4)).alloc (.cells #[] 34)).alloc (.cells #[.slice (some ⟨w.heap.size + 1 + 1 + 1, 0, none⟩) 0 0] 49)).alloc (.cells #[.pointer (some ⟨g, 0, none⟩)] 24)) (w.heap.size + 1) 49 (.slice none 0 0) := by
      have := ((((Boxed.new (w.alloc (.cells #[.int .i64 most] 3)) 49 (.slice none 0 0)).alloc (.cells #[.bool false] 4)).alloc (.cells #[] 34)).alloc (.cells #[.slice (some ⟨w.heap.size + 1 + 1 + 1, 0, none⟩) 0 0] 49)).alloc (.cells #[.pointer (some ⟨g, 0, none⟩)] 24)
      simpa using this
    have bT : Boxed ((((((w.alloc (.cells #[.int .i64 most] 3)).alloc (.cells #[.slice none 0 0] 49)).alloc (.cells #[.bool false] 4)).alloc (.cells #[] 34)).alloc (.cells #[.slice (some ⟨w.heap.size + 1 + 1 + 1, 0, none⟩) 0 0] 49)).alloc (.cells #[.pointer (some ⟨g, 0, none⟩)] 24)) (w.heap.size + 1 + 1) 4 (.bool false) := by
      have := (((Boxed.new ((w.alloc (.cells #[.int .i64 most] 3)).alloc (.cells #[.slice none 0 0] 49)) 4 (.bool false)).alloc (.cells #[] 34)).alloc (.cells #[.slice (some ⟨w.heap.size + 1 + 1 + 1, 0, none⟩) 0 0] 49)).alloc (.cells #[.pointer (some ⟨g, 0, none⟩)] 24)
      simpa using this
    have bO : Boxed ((((((w.alloc (.cells #[.int .i64 most] 3)).alloc (.cells #[.slice none 0 0] 49)).alloc (.cells #[.bool false] 4)).alloc (.cells #[] 34)).alloc (.cells #[.slice (some ⟨w.heap.size + 1 + 1 + 1, 0, none⟩) 0 0] 49)).alloc (.cells #[.pointer (some ⟨g, 0, none⟩)] 24)) (w.heap.size + 1 + 1 + 1 + 1) 49 (.slice (some ⟨w.heap.size + 1 + 1 + 1, 0, none⟩) 0 0) := by
      have := (Boxed.new ((((w.alloc (.cells #[.int .i64 most] 3)).alloc (.cells #[.slice none 0 0] 49)).alloc (.cells #[.bool false] 4)).alloc (.cells #[] 34)) 49 (.slice (some ⟨w.heap.size + 1 + 1 + 1, 0, none⟩) 0 0)).alloc (.cells #[.pointer (some ⟨g, 0, none⟩)] 24)
      simpa using this
    have bX : Boxed ((((((w.alloc (.cells #[.int .i64 most] 3)).alloc (.cells #[.slice none 0 0] 49)).alloc (.cells #[.bool false] 4)).alloc (.cells #[] 34)).alloc (.cells #[.slice (some ⟨w.heap.size + 1 + 1 + 1, 0, none⟩) 0 0] 49)).alloc (.cells #[.pointer (some ⟨g, 0, none⟩)] 24)) (w.heap.size + 1 + 1 + 1 + 1 + 1) 24 (.pointer (some ⟨g, 0, none⟩)) := by
      have := Boxed.new (((((w.alloc (.cells #[.int .i64 most] 3)).alloc (.cells #[.slice none 0 0] 49)).alloc (.cells #[.bool false] 4)).alloc (.cells #[] 34)).alloc (.cells #[.slice (some ⟨w.heap.size + 1 + 1 + 1, 0, none⟩) 0 0] 49)) 24 (.pointer (some ⟨g, 0, none⟩))
      simpa using this
    have rO : ((((((w.alloc (.cells #[.int .i64 most] 3)).alloc (.cells #[.slice none 0 0] 49)).alloc (.cells #[.bool false] 4)).alloc (.cells #[] 34)).alloc (.cells #[.slice (some ⟨w.heap.size + 1 + 1 + 1, 0, none⟩) 0 0] 49)).alloc (.cells #[.pointer (some ⟨g, 0, none⟩)] 24)).ownsRow (w.heap.size + 3) 34 7 (.slice (some ⟨w.heap.size + 1 + 1 + 1, 0, none⟩) 0 0) 0 [] := by
      have q := World.ownsRow_lit (base := w.heap.size + 3) (e := 34) (size := 7) (((w.alloc (.cells #[.int .i64 most] 3)).alloc (.cells #[.slice none 0 0] 49)).alloc (.cells #[.bool false] 4)) #[] 0 (by simp) (by simp) rfl
      have q2 := (q.alloc (.cells #[.slice (some ⟨w.heap.size + 1 + 1 + 1, 0, none⟩) 0 0] 49)).alloc (.cells #[.pointer (some ⟨g, 0, none⟩)] 24)
      simpa using q2
    have C5 : Ch No w ((((((w.alloc (.cells #[.int .i64 most] 3)).alloc (.cells #[.slice none 0 0] 49)).alloc (.cells #[.bool false] 4)).alloc (.cells #[] 34)).alloc (.cells #[.slice (some ⟨w.heap.size + 1 + 1 + 1, 0, none⟩) 0 0] 49)).alloc (.cells #[.pointer (some ⟨g, 0, none⟩)] 24)) := ((((((Ch.refl No w).alloc _).alloc _).alloc _).alloc _).alloc _).alloc _
    have z5 : ((((((w.alloc (.cells #[.int .i64 most] 3)).alloc (.cells #[.slice none 0 0] 49)).alloc (.cells #[.bool false] 4)).alloc (.cells #[] 34)).alloc (.cells #[.slice (some ⟨w.heap.size + 1 + 1 + 1, 0, none⟩) 0 0] 49)).alloc (.cells #[.pointer (some ⟨g, 0, none⟩)] 24)).heap.size = w.heap.size + 6 := by simp
    generalize ((((((w.alloc (.cells #[.int .i64 most] 3)).alloc (.cells #[.slice none 0 0] 49)).alloc (.cells #[.bool false] 4)).alloc (.cells #[] 34)).alloc (.cells #[.slice (some ⟨w.heap.size + 1 + 1 + 1, 0, none⟩) 0 0] 49)).alloc (.cells #[.pointer (some ⟨g, 0, none⟩)] 24)) = w5 at *
    refine wpIn_rangeFunc_ownH (w0 := w5) rfl (by omega) (gf := 38) (lb := #[.pointer (some ⟨w.heap.size + 1 + 1 + 1 + 1 + 1, 0, none⟩)]) rfl trivial (enters_of Try.func38 (by kernel_rfl) rfl)
      (AAll_stops 2 (by omega) (w.heap.size + 1 + 1 + 1 + 1 + 1) w.heap.size B g k lim L hlt (fun i hi => (h.klt hi).2) w5 bX.cell (h.no C5) hl) KpA.trans (KpA.bk (by omega) (by omega)) (Below.refl _ _) (fun _ => rfl)
      (fun (pre : List (Int × Nd)) W => (∃ v, Boxed W (w.heap.size + 1 + 1 + 1 + 1) 49 v ∧ W.ownsRow (w.heap.size + 3) 34 7 v pre.length (flatN (pre.map Prod.snd)) ∧ True) ∧ (Boxed W w.heap.size 3 (.int .i64 most) ∧ Boxed W (w.heap.size + 1) 49 (.slice none 0 0) ∧ Boxed W (w.heap.size + 1 + 1) 4 (.bool false) ∧ Boxed W (w.heap.size + 1 + 1 + 1 + 1 + 1) 24 (.pointer (some ⟨g, 0, none⟩))) ∧ (pre.length : Int) < most ∧ Below w.heap.size w W)
      (fun c (pre : List (Int × Nd)) W => c = .ret ∧ (((∃ v, Boxed W (w.heap.size + 1) 49 v ∧ W.ownsRow (w.heap.size + 3) 34 7 v pre.length (flatN (pre.map Prod.snd)) ∧ True) ∧ Boxed W (w.heap.size + 1 + 1) 4 (.bool true) ∧ (pre.length : Int) = most ∧ Below w.heap.size w W) ∨ BadN pre))
      (OwnFrom.and (Own.from (holdsRow_own _ _ _ _ 7 (fun pre : List (Int × Nd) => pre.length) (fun pre : List (Int × Nd) => flatN (pre.map Prod.snd)) (fun (_ : List (Int × Nd)) _ => True)) _) (OwnFrom.and (OwnFrom.and (Own.from (boxed_own _ _ (fun _ : List (Int × Nd) => _)) _) (OwnFrom.and (Own.from (boxed_own _ _ (fun _ : List (Int × Nd) => _)) _) (OwnFrom.and (Own.from (boxed_own _ _ (fun _ : List (Int × Nd) => _)) _) (Own.from (boxed_own _ _ (fun _ : List (Int × Nd) => _)) _)))) (OwnFrom.and (ownFrom_pure _ (fun pre : List (Int × Nd) => ((pre.length : Nat) : Int) < most)) (ownFrom_below (Nat.le_refl _) (by omega)))))
      (fun c => fun s X Y row hs hg hr => ⟨hs.1, hs.2.imp (fun hq => (OwnFrom.and (Own.from (holdsRow_own _ _ _ _ 7 (fun pre : List (Int × Nd) => pre.length) (fun pre : List (Int × Nd) => flatN (pre.map Prod.snd)) (fun (_ : List (Int × Nd)) _ => True)) _) (OwnFrom.and (Own.from (boxed_own _ _ (fun _ : List (Int × Nd) => _)) _) (OwnFrom.and (ownFrom_pure _ (fun pre : List (Int × Nd) => ((pre.length : Nat) : Int) = most)) (ownFrom_below (Nat.le_refl _) (by omega))))) s X Y row hq hg hr) id⟩)
      ⟨⟨_, bO, rO, trivial⟩, ⟨bM, bR, bT, bX⟩, by simp; omega, C5.same⟩
      (fun x a' W => ∃ Lx, Blk W Lx 34 x.2.enc ∧ a' = { tmps := #[.pointer (some ⟨g, 0, none⟩), .int .i64 most, undef, .pointer (some ⟨w.heap.size, 0, none⟩), .pointer (some ⟨w.heap.size + 1, 0, none⟩), .pointer (some ⟨w.heap.size + 1 + 1, 0, none⟩), .pointer (some ⟨w.heap.size + 1 + 1 + 1 + 1, 0, none⟩), .int .i32 x.1, .pointer (some ⟨Lx, 0, none⟩), .slice (some ⟨w.heap.size + 1 + 1 + 1, 0, none⟩) 0 0, .int .i64 most, .bool false, undef, .pointer (some ⟨g, 0, none⟩), .func (.func 38) #[] #[.pointer (some ⟨w.heap.size + 1 + 1 + 1 + 1 + 1, 0, none⟩)], .int .i32 x.1, x.2.val, undef, undef, undef, undef, undef, undef, undef, undef, undef, undef, undef, undef, undef, undef, undef, undef], defers := [] })
      (fun x a' _ X Y row hs hg hr => by obtain ⟨Lx, h1, h2⟩ := hs; exact ⟨Lx, blk_own h1 hg (fun r e => (hr r e).2), h2⟩)
      ?assign ?body ?done ?stop
    case assign =>
      rintro l pre x W K ⟨⟨v, hv, hrow, _⟩, ⟨h3, h4, h5, hx⟩, hlen, hB⟩ hK
      have hI : ((∃ v, Boxed (W.alloc (.cells x.2.enc.toArray 34)) (w.heap.size + 1 + 1 + 1 + 1) 49 v ∧ (W.alloc (.cells x.2.enc.toArray 34)).ownsRow (w.heap.size + 3) 34 7 v pre.length (flatN (pre.map Prod.snd)) ∧ True) ∧ (Boxed (W.alloc (.cells x.2.enc.toArray 34)) w.heap.size 3 (.int .i64 most) ∧ Boxed (W.alloc (.cells x.2.enc.toArray 34)) (w.heap.size + 1) 49 (.slice none 0 0) ∧ Boxed (W.alloc (.cells x.2.enc.toArray 34)) (w.heap.size + 1 + 1) 4 (.bool false) ∧ Boxed (W.alloc (.cells x.2.enc.toArray 34)) (w.heap.size + 1 + 1 + 1 + 1 + 1) 24 (.pointer (some ⟨g, 0, none⟩))) ∧ (pre.length : Int) < most ∧ Below w.heap.size w (W.alloc (.cells x.2.enc.toArray 34))) := ⟨⟨v, hv.alloc _, hrow.alloc _, trivial⟩, ⟨h3.alloc _, h4.alloc _, h5.alloc _, hx.alloc _⟩, hlen, hB.alloc hB.size _⟩
      have hKp : KpA w.heap.size (w.heap.size + 1 + 1 + 1 + 1 + 1) W (W.alloc (.cells x.2.enc.toArray 34)) := KpA.of_no ((Ch.refl No W).alloc _) hB.size hx.lt
      simp only [ndV, Nd.val]
      gi_wp2
      exact hK _ _ ((KeepsOthers.alloc _ _).from _) hKp hI ⟨W.heap.size, Blk.new W _ _, rfl⟩
    case body =>
      rintro l pre x a' W hl' ⟨r, hr⟩ ⟨⟨v, hv, hrow, _⟩, ⟨h3, h4, h5, hx⟩, hlen, hB⟩ ⟨Lx, hLx, rfl⟩ hlt'
      obtain ⟨Av, cv, rfl⟩ := row_shape hrow
      have hc := hv.cell
      have hsz : w.heap.size + 6 ≤ W.heap.size := by have := hx.lt; omega
      have k0 := hLx.cell 0
      have k1 := hLx.cell 1
      have k2 := hLx.cell 2
      have k3 := hLx.cell 3
      have k4 := hLx.cell 4
      have k5 := hLx.cell 5
      have k6 := hLx.cell 6
      simp only [Nd.enc, List.getElem?_cons_zero, List.getElem?_cons_succ] at k0 k1 k2 k3 k4 k5 k6
      have hn3 := h3.not_row (e := 34) (by decide) hrow
      have hn4 := h4.not_row (e := 34) (by decide) hrow
      have hn5 := h5.not_row (e := 34) (by decide) hrow
      have hnx := hx.not_row (e := 34) (by decide) hrow
      have hpm : pre.length < 1000000 := by omega
      obtain ⟨m, hmm⟩ : ∃ m : Nat, most = m := ⟨most.toNat, by omega⟩
      subst hmm
      obtain ⟨u, hu⟩ : ∃ u, wrap64 x.1 = u := ⟨_, rfl⟩
      by_cases hup : u = (pre.length : Int) + 1
      · subst hup
        by_cases he : pre.length + 1 = m
        · gi_wp2_with (gi_at_builtin; refine wpListIn_append_own _ rfl _ _ 49 rfl (w.heap.size + 3) 34 i0 Nd.zero.val 7 48 Try.underlying49 hi hz0 hz1 hz2 rfl (by decide) _ _ _ rfl (hrow.alloc _) ⟨W.heap.size, 0, none⟩ 1 1 x.2.enc rfl rfl (cells_new _ x.2.enc _) (by simp [Nd.enc, Value.oneCell']) (by simp [maxLen]; omega) (by omega) (by simp; omega) ?_; intro v' w1 hown' hgrow _; obtain ⟨g', cap', rfl⟩ := ownsRow_succ hown'; obtain ⟨hv1, hv2, hr2, hk2, hb2⟩ := hv.appended (by decide) hrow (by omega) (by omega) hown' hgrow; have hc1 := hv1.cell; have hf1 := hv1.frozen; have h3w := ((h3.alloc _).kept hgrow hn3); have h4w := ((h4.alloc _).kept hgrow hn4); have h5w := ((h5.alloc _).kept hgrow hn5); have c3 := h3w.cell; have hxw := ((hx.alloc _).kept hgrow hnx); have f4 := h4w.frozen; have c4 := h4w.cell; have f5 := h5w.frozen; have c5 := h5w.cell)
          have hb3 := hb2.mono (show w.heap.size ≤ w.heap.size + 3 by omega)
          have hg2 : w.heap.size + 3 ≤ g' := (hr2.lt g' rfl).1
          rw [he] at hk2 hb3 hr2
          refine ⟨((hk2.trans (KeepsOthers.setCell _ _ _)).trans (KeepsOthers.setCell _ _ _)).from _, rfl, .inl ⟨⟨_, ((h4w.other (by omega) _).set _).other (by omega) _, ?_, trivial⟩, ((h5w.other (by omega) _).other (by omega) _).set _, by simp; omega, ((hB.trans hb3).setCell (p := ⟨w.heap.size + 1, 0, none⟩) (by simp) _).setCell (p := ⟨w.heap.size + 1 + 1, 0, none⟩) (by simp; omega) _⟩⟩
          have q := (hr2.kept (grownBy_setCell' _ (w.heap.size + 1) (.slice (some ⟨g', 0, none⟩) m cap')) (.inr (by simp [Value.ownBlock]; omega))).kept (grownBy_setCell' _ (w.heap.size + 1 + 1) (.bool true)) (.inr (by simp [Value.ownBlock]; omega))
          rw [flatP_snoc]
          simpa [he] using q
        · gi_wp2_with (gi_at_builtin; refine wpListIn_append_own _ rfl _ _ 49 rfl (w.heap.size + 3) 34 i0 Nd.zero.val 7 48 Try.underlying49 hi hz0 hz1 hz2 rfl (by decide) _ _ _ rfl (hrow.alloc _) ⟨W.heap.size, 0, none⟩ 1 1 x.2.enc rfl rfl (cells_new _ x.2.enc _) (by simp [Nd.enc, Value.oneCell']) (by simp [maxLen]; omega) (by omega) (by simp; omega) ?_; intro v' w1 hown' hgrow _; obtain ⟨g', cap', rfl⟩ := ownsRow_succ hown'; obtain ⟨hv1, hv2, hr2, hk2, hb2⟩ := hv.appended (by decide) hrow (by omega) (by omega) hown' hgrow; have hc1 := hv1.cell; have hf1 := hv1.frozen; have h3w := ((h3.alloc _).kept hgrow hn3); have h4w := ((h4.alloc _).kept hgrow hn4); have h5w := ((h5.alloc _).kept hgrow hn5); have c3 := h3w.cell; have hxw := ((hx.alloc _).kept hgrow hnx); have f4 := h4w.frozen; have c4 := h4w.cell; have f5 := h5w.frozen; have c5 := h5w.cell)
          have hb3 := hb2.mono (show w.heap.size ≤ w.heap.size + 3 by omega)
          have hg2 : w.heap.size + 3 ≤ g' := (hr2.lt g' rfl).1
          have hxw2 := hxw.other (B' := w.heap.size + 1 + 1 + 1 + 1) (by omega) (.slice (some ⟨g', 0, none⟩) (pre.length + 1) cap')
          refine ⟨hk2.from _, ⟨hb3, Eq.trans hxw2 (Eq.symm hx)⟩, ⟨_, hv2, by rw [flatP_snoc]; simpa using hr2, trivial⟩, ⟨h3w.other (by omega) _, h4w.other (by omega) _, h5w.other (by omega) _, hxw2⟩, by simp; omega, hB.trans hb3⟩
      · have hub : (u == (pre.length : Int) + 1) = false := by simpa using hup
        have HU := Lib.hid hup
        have HB2 := Lib.hid hu
        have c4 := h4.cell
        have f4 := h4.frozen
        have c5 := h5.cell
        have f5 := h5.frozen
        clear hup
        gi_wp2
        exact ⟨((KeepsOthers.setCell _ _ _).trans (KeepsOthers.setCell _ _ _)).from _, rfl, .inr ⟨pre, x, rfl, by rw [HB2.out]; exact HU.out⟩⟩
    case done =>
      rintro D ys W hD rfl ⟨⟨v, hv, hrow, _⟩, ⟨h3, h4, h5, hx⟩, hlen, hB⟩ hK
      obtain ⟨Av, cv, rfl⟩ := row_shape hrow
      rw [numb_snd, List.take_length] at hrow
      have hnl : (numb L L.length).length = L.length := by simp
      rw [hnl] at hrow hv hlen
      have hc := hv.cell
      have f4 := h4.frozen
      have c4 := h4.cell
      have f5 := h5.frozen
      have c5 := h5.cell
      gi_wp2
      refine ⟨by simp, .inl ⟨_, _, rfl, run_takeDeferred (((KeepsOthers.setCell _ _ _).trans (KeepsOthers.setCell _ _ _)).same D _ hK rfl), ?_⟩⟩
      have hv4 := (h4.set (.slice Av L.length cv)).other (B' := w.heap.size + 1 + 1) (by omega) (.bool true)
      have hv5 := (h5.other (B' := w.heap.size + 1) (by omega) (.slice Av L.length cv)).set (.bool true)
      have hK4 := ((KeepsOthers.setCell W ⟨w.heap.size + 1, 0, none⟩ (.slice Av L.length cv)).trans (KeepsOthers.setCell _ ⟨w.heap.size + 1 + 1, 0, none⟩ (.bool true))).same D _ hK rfl
      have hc5 := cell_kept hv4.cell (grownBy_putObj' _ D (.deferred none)) (fun r e => by cases e; exact ⟨_, hK4, rfl⟩)
      have hc6 := cell_kept hv5.cell (grownBy_putObj' _ D (.deferred none)) (fun r e => by cases e; exact ⟨_, hK4, rfl⟩)
      have ht : L.take most.toNat = L := List.take_of_length_le (by omega)
      have hr4 := (hrow.kept (grownBy_setCell' W (w.heap.size + 1) (.slice Av L.length cv)) (.inr (fun e => by have := (hrow.lt _ e).1; omega))).kept (grownBy_setCell' _ (w.heap.size + 1 + 1) (.bool true)) (.inr (fun e => by have := (hrow.lt _ e).1; omega))
      refine ⟨.tuple #[.slice Av L.length cv, .bool true], by simp [results, Try.f22, go_sem, hc5, hc6], _, rfl, ?_, Ch.of_below (((hB.setCell (p := ⟨w.heap.size + 1, 0, none⟩) (by simp) _).setCell (p := ⟨w.heap.size + 1 + 1, 0, none⟩) (by simp; omega) _).trans (belowK_b (w := w) (Nat.le_refl _) _ D _ _ (by omega) hK4 rfl rfl))⟩
      rw [ht]
      have q := ownsRow_putObj hr4 (.deferred none) hK4 rfl
      exact rowN_lower q (by omega)
    case stop =>
      rintro D c pre W hD hpre ⟨rfl, hor⟩ hK
      obtain ⟨⟨v, hv, hrow, _⟩, h5, hlen, hB⟩ := hor.resolve_right (numb_good hl hpre)
      gi_wp2
      refine ⟨by simp, .inl ⟨_, _, rfl, run_takeDeferred hK, ?_⟩⟩
      have hc5 := cell_kept hv.cell (grownBy_putObj' _ D (.deferred none)) (fun r e => by cases e; exact ⟨_, hK, rfl⟩)
      have hc6 := cell_kept h5.cell (grownBy_putObj' _ D (.deferred none)) (fun r e => by cases e; exact ⟨_, hK, rfl⟩)
      have ht : L.take most.toNat = pre.map Prod.snd := by
        obtain ⟨t, ht⟩ := hpre
        have h1 := numb_snd L L.length
        rw [← ht, List.take_length, List.map_append] at h1
        rw [← h1, show most.toNat = (pre.map Prod.snd).length from by simp; omega, List.take_left']
        rfl
      refine ⟨.tuple #[v, .bool true], by simp [results, Try.f22, go_sem, hc5, hc6], v, rfl, ?_, Ch.of_below (hB.trans (belowK_b (w := w) (Nat.le_refl _) W D _ _ (by omega) hK rfl rfl))⟩
      rw [ht, List.length_map]
      have q := ownsRow_putObj hrow (.deferred none) hK rfl
      exact rowN_lower q (by omega)
end Go.Proofs.Ytjphocpnmhheeaa
