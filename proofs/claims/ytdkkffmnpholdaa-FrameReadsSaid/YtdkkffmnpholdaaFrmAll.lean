/- frame.All: the iterator; its caller, up to so many. -/
import Derived.RangeFuncNested
import Derived.RangeFuncBound
import Derived.RangeFuncCalls
import Derived.RangeFuncLeaves
import Derived.RangeFuncBox
import Derived.Shelf.Abstract
import Derived.Shelf.RegionOpen
import Derived.WalkKit
import Derived.OwnWalkIn
import Derived.TacticsInMore
import Derived.LoopNIn
import Derived.LoopIn
import Derived.Maps.AppendAt
import Derived.Test.YtdkkffmnpholdaaFrmSplit
namespace Go.Proofs.Ytdkkffmnpholdaa
open Go.RowKit Go.Shelf

attribute [local go_sem] Oper.semAt_some

/-- what a round keeps: what lay below n₀, and whatever holds bytes -/
def KpU (n₀ : Nat) (W W' : World) : Prop := Below n₀ W W' ∧ ∀ (k : Nat) (cs : Array Value), W.heap[k]? = some (.cells cs 5 (0, 0)) → W'.heap[k]? = some (.cells cs 5 (0, 0))
theorem KpU.trans {n₀ : Nat} {A B C : World} (h : KpU n₀ A B) (k : KpU n₀ B C) : KpU n₀ A C := ⟨h.1.trans k.1, fun i cs hi => k.2 i cs (h.2 i cs hi)⟩
theorem KpU.bk {n₀ : Nat} {w : World} (hn : n₀ ≤ w.heap.size) (W : World) (l : Nat) (o o' : Obj) (hl : w.heap.size ≤ l) (ho : W.heap[l]? = some o) (h1 : o.isCells = false) (h2 : o.isWalk = false) : KpU n₀ W (W.putObj l o') :=
  ⟨belowK_b hn W l o o' hl ho h1 h2, fun k cs hk => by
    have hkl : k ≠ l := by
      rintro rfl
      rw [ho] at hk
      cases hk
      cases h1
    rw [World.putObj_heap_other hkl]
    exact hk⟩
theorem Cls.kpu {n₀ : Nat} {W W' : World} {A : Option Addr} {vs : List Value} (h : Cls W A vs) (u : U8 W A) (k : KpU n₀ W W') : Cls W' A vs := by
  intro pre v post e
  obtain ⟨b, off, hA, hc⟩ := h pre v post e
  obtain ⟨cs, hcs⟩ := u _ hA
  exact ⟨b, off, hA, (World.cell?_of_block ((k.2 b cs hcs).trans hcs.symm)).trans hc⟩

set_option maxRecDepth 100000 in
set_option maxHeartbeats 4000000 in
theorem FAll1_in (n : Nat) (hn : 1 ≤ n) (l Bn n₀ : Nat) (xs : List Int) (A : Option Addr) (c : Nat) (bs : List (List Int)) (l0 : List Int) (er : Int) (hs : Spl xs bs l0 er) (J Jx : List Prt → World → Prop)
    (hJd : ∀ pre W W', J pre W → Ch No W W' → J pre W')
    (hY : ∀ pre x W, J pre W → pre.length < bs.length → YieldAt Fence.wide (n - 1) Try.prog l #[Prt.enc x] W fun e W' =>
      (e = .returned (.bool true) ∧ J (pre ++ [x]) W' ∧ KpU n₀ W W') ∨ (e = .returned (.bool false) ∧ Jx (pre ++ [x]) W'))
    (W : World) (hBn : W.cell? ⟨Bn, 0, none⟩ = some (.slice A xs.length c)) (hx : Cls W A (ints .u8 xs)) (hb : ∀ x ∈ xs, isB x) (hl : xs.length ≤ 1000000) (h0 : J [] W) :
    CallsIn Fence.wide n Try.prog 33 #[.func (.yield l) #[] #[], .pointer (some ⟨Bn, 0, none⟩)] W fun e W' => (∃ v, e = .returned v) ∧
      ((∃ ys, ys.map (·.bs) = bs ∧ J ys W') ∨ (∃ pre, pre.map (·.bs) <+: bs ∧ Jx pre W')) := by
  refine callsIn_of_wp Try.func33 rfl trivial ?_ rfl
  simp only [Try.ntmps33, List.size_toArray, List.length_cons, List.length_nil, Nat.reduceAdd, Nat.reduceSub, Array.replicate_succ, Array.replicate_zero, List.push_toArray, List.append_toArray, List.nil_append, List.cons_append]
  have HS : Hid (Cls W A (ints .u8 xs) ∧ J [] W ∧ Spl xs bs l0 er ∧ ∀ x ∈ xs, isB x) := Lib.hid ⟨hx, h0, hs, hb⟩
  clear hx h0 hs hb
  gi_wp2
  gi_loopw [3, 4, 5, 6] (fun lf _ _ _ wr => ∃ (ps : List Prt) (post : List (List Int)) (cur : List Int) (L : Option Addr) (cl : Nat), lf = .slice L cur.length cl ∧ Hid (bs = ps.map (·.bs) ++ post ∧ Spl cur post l0 er ∧ (∀ x ∈ cur, isB x)) ∧ cur.length ≤ xs.length ∧ Hid (Cls wr L (ints .u8 cur) ∧ J ps wr)) (fun lf _ _ _ _ => match lf with | .slice _ n _ => n | _ => 0)
  case atStart => exact ⟨[], bs, xs, A, c, rfl, Lib.hid ⟨rfl, HS.out.2.2.1, HS.out.2.2.2⟩, Nat.le_refl _, Lib.hid ⟨HS.out.1, HS.out.2.1⟩⟩
  case round =>
    clear HS
    obtain ⟨ps, post, cur, L, cl, rfl, hp, hcl, hst⟩ := hrel
    have q := FNext_any wr L cl cur hst.out.1 hp.out.2.2 (by omega)
    obtain ⟨nx, hnx⟩ : ∃ nx, nxt cur = nx := ⟨_, rfl⟩
    rw [hnx] at q
    have HQ := Lib.hid q
    have HN := Lib.hid hnx
    clear q hnx
    gi_wp2
    refine ⟨trivial, ?_⟩
    refine (callsIn_wide.2 HQ.out).mono ?_
    clear HQ
    rintro e w2 ⟨A2, c2, A3, c3, rfl, L2, L3, hA2, hA3, u2, u3, h2⟩
    have H2 := Lib.hid (And.intro L3 (And.intro u3 (hJd _ _ _ hst.out.2 h2)))
    clear L2 L3 hA2 hA3 u2 u3 h2 hst
    cases nx with
    | short =>
      have hpp : Hid (post = []) := by
        have hs := hp.out.2.1
        have h := HN.out
        cases hs with
        | short _ => exact Lib.hid rfl
        | long k => rw [h] at k; cases k
        | ok k _ => rw [h] at k; cases k
      simp only [Nx.err, Nx.body, Nx.rest, List.length_nil]
      gi_wp2
      refine ⟨fun _ _ => trivial, ?_⟩
      gi_wp2
      refine bodyPost_ret (results_none rfl _ _ _) rfl ?_
      exact ⟨⟨_, rfl⟩, .inl ⟨ps, by rw [hp.out.1, hpp.out, List.append_nil], H2.out.2.2⟩⟩
    | long =>
      have hpp : Hid (post = []) := by
        have hs := hp.out.2.1
        have h := HN.out
        cases hs with
        | short k => rw [h] at k; cases k
        | long _ => exact Lib.hid rfl
        | ok k _ => rw [h] at k; cases k
      simp only [Nx.err, Nx.body, Nx.rest, List.length_nil]
      gi_wp2
      refine ⟨fun _ _ => trivial, ?_⟩
      gi_wp2
      refine bodyPost_ret (results_none rfl _ _ _) rfl ?_
      exact ⟨⟨_, rfl⟩, .inl ⟨ps, by rw [hp.out.1, hpp.out, List.append_nil], H2.out.2.2⟩⟩
    | ok b r =>
      have hpp : Hid (∃ post', post = b :: post' ∧ Spl r post' l0 er) := by
        have hs := hp.out.2.1
        have h := HN.out
        cases hs with
        | short k => rw [h] at k; cases k
        | long k => rw [h] at k; cases k
        | ok k t =>
          rw [h] at k
          obtain ⟨rfl, rfl⟩ := Nx.ok.inj k
          exact Lib.hid ⟨_, rfl, t⟩
      have hrl := nxt_lt HN.out
      have hlt : ps.length < bs.length := by
        obtain ⟨post', h1, _⟩ := hpp.out
        rw [hp.out.1, h1]
        simp
      simp only [Nx.err, Nx.body, Nx.rest] at H2 ⊢
      obtain ⟨fn, tmps, assign, body, hy, hR⟩ := hY ps ⟨A2, c2, b⟩ w2 H2.out.2.2 hlt
      simp only [Prt.enc] at hy
      gi_wp2
      refine hR.mono ?_
      rintro e W3 (⟨rfl, hJ3, hk3⟩ | ⟨rfl, hJx3⟩)
      · have H3 : Hid (Cls W3 A3 (ints .u8 r) ∧ J (ps ++ [⟨A2, c2, b⟩]) W3) := Lib.hid ⟨H2.out.1.kpu H2.out.2.1 hk3, hJ3⟩
        clear hJ3 hk3
        gi_wp2
        go_roundw
        case rel =>
          obtain ⟨post', h1, h2⟩ := hpp.out
          exact ⟨ps ++ [⟨A2, c2, b⟩], post', r, A3, c3, rfl, Lib.hid ⟨by rw [hp.out.1, h1]; simp, h2, (nxt_mem HN.out _ hp.out.2.2).2⟩, by omega, H3⟩
        case measure => simp; omega
      · gi_wp2
        refine bodyPost_ret (results_none rfl _ _ _) rfl ?_
        refine ⟨⟨_, rfl⟩, .inr ⟨_, ?_, hJx3⟩⟩
        obtain ⟨post', h1, _⟩ := hpp.out
        rw [hp.out.1, h1]
        simp

theorem FAllF_any (w : World) (A : Option Addr) (n c : Nat) : Calls Try.prog 26 #[.slice A n c] w fun e w' => e = .returned (.func (.func 33) #[] #[.pointer (some ⟨w.heap.size, 0, none⟩)]) ∧ w' = w.alloc (.cells #[.slice A n c] 22) := by
  go_enter Try.func26, Try.ntmps26
  go_wp2_with fail
  go_ret
  exact ⟨rfl, rfl⟩

theorem FAll_stops (n : Nat) (hn : 1 ≤ n) (Bn n₀ : Nat) (xs : List Int) (A : Option Addr) (c : Nat) (bs : List (List Int)) (l0 : List Int) (er : Int) (hs : Spl xs bs l0 er) (w : World) (hBn : w.cell? ⟨Bn, 0, none⟩ = some (.slice A xs.length c)) (hx : Cls w A (ints .u8 xs)) (hb : ∀ x ∈ xs, isB x) (hl : xs.length ≤ 1000000) :
    SeqStopsK Fence.wide n Try.prog 33 #[.pointer (some ⟨Bn, 0, none⟩)] (fun x : Prt => #[Prt.enc x]) (KpU n₀) (fun ys => ys.map (·.bs) = bs) (fun pre => pre.map (·.bs) <+: bs) bs.length w :=
  fun l J Jx W hW hJa _ hY h0 => FAll1_in n hn l Bn n₀ xs A c bs l0 er hs J Jx (fun pre A C hj hc => hJa pre A C none hj ⟨hc.os, hc.tape, hc.output, hc.size, fun i hi _ => hc.block i hi (fun h => h)⟩ (fun r e => by cases e)) hY W
    ((hW.cell (p := ⟨Bn, 0, none⟩) (World.block_lt_of_cell? _ _ hBn)).trans hBn) (hx.below hW) hb hl h0

/-- what a body that writes its own box and row keeps -/
theorem KpU.body {n₀ base Bo n : Nat} {W w1 : World} {v u x : Value} {vs : List Value} (hB : Below n₀ W (w1.setCell ⟨Bo, 0, none⟩ u)) (hrow : W.ownsRow base 22 1 v n vs) (hv : Boxed W Bo 29 v) (hg : (W.alloc (.cells #[x] 22)).grownBy w1 v.ownBlock) : KpU n₀ W (w1.setCell ⟨Bo, 0, none⟩ u) := by
  refine ⟨hB, fun k cs hk => ?_⟩
  have hkl := (Array.getElem?_eq_some_iff.1 hk).1
  have h1 : k ≠ Bo := by
    rintro rfl
    have hv' : W.heap[k]? = some (.cells #[v] 29 (0, 0)) := hv
    rw [hv'] at hk
    cases hk
  have h2 : some k ≠ v.ownBlock := by
    intro e
    rcases hrow.2 with ⟨rfl, _⟩ | ⟨g, _, cur, rfl, _, hgg, _⟩
    · cases e
    · have : k = g := by simpa [Value.ownBlock] using e
      subst this
      rw [hgg] at hk
      cases hk
  rw [Below.heap_setCell _ _ _ _ h1, hg.block k (by simp; omega) h2, Below.heap_alloc _ _ _ hkl]
  exact hk

set_option maxRecDepth 100000 in
set_option maxHeartbeats 4000000 in
theorem fall_any (w : World) (A : Option Addr) (c : Nat) (xs : List Int) (bs : List (List Int)) (l0 : List Int) (er : Int) (hs : Spl xs bs l0 er) (hx : Cls w A (ints .u8 xs)) (hb : ∀ x ∈ xs, isB x) (hl : xs.length ≤ 1000000) (most : Int) :
    Calls Try.prog 16 #[.slice A xs.length c, .int .i64 most] w fun e w' => ∃ v, ∃ ps : List Prt, e = .returned v ∧ ps.map (·.bs) = bs.take most.toNat ∧ OwnS w' w.heap.size 22 v (ps.map Prt.enc) ∧ Ch No w w' := by
  refine callsIn_wide (n := 3) |>.1 ?_
  refine callsIn_of_wp_marks Try.func16 rfl trivial ?_ rfl
  simp only [Try.ntmps16, List.size_toArray, List.length_cons, List.length_nil, Nat.reduceAdd, Nat.reduceSub, Array.replicate_succ, Array.replicate_zero, List.push_toArray, List.append_toArray, List.nil_append, List.cons_append]
  obtain ⟨i0, hi, hz0, hz1, hz2⟩ := info_parts infoBs
  have hbl := (spl_len hs).1
  have HX := Lib.hid (And.intro hx (And.intro hb hs))
  clear hx hb hs
  by_cases hm : most ≤ 0
  · gi_wp2
    have q := World.ownsRow_lit (base := w.heap.size) (e := 22) (size := 1) ((w.alloc (.cells #[.int .i64 most] 3)).alloc (.cells #[.slice (some ⟨w.heap.size + 1 + 1, 0, none⟩) 0 0] 29)) #[] 0 (by simp; omega) (by simp) rfl
    have q2 := q.alloc (.cells #[.slice (some ⟨w.heap.size + 1 + 1, 0, none⟩) 0 0] 29)
    have q3 : (((w.alloc (.cells #[.int .i64 most] 3)).alloc (.cells #[.slice (some ⟨w.heap.size + 1 + 1, 0, none⟩) 0 0] 29)).alloc (.cells #[] 22)).cell? ⟨w.heap.size + 1, 0, none⟩ = some (.slice (some ⟨w.heap.size + 1 + 1, 0, none⟩) 0 0) := by
      have := ((Boxed.new (w.alloc (.cells #[.int .i64 most] 3)) 29 (.slice (some ⟨w.heap.size + 1 + 1, 0, none⟩) 0 0)).alloc (.cells #[] 22)).cell
      simpa using this
    refine ⟨.slice (some ⟨w.heap.size + 1 + 1, 0, none⟩) 0 0, by simp [results, Try.f16, go_sem], _, [], rfl, by rw [show most.toNat = 0 from by omega]; rfl, by simpa [OwnS] using q2, (((Ch.refl No w).alloc _).alloc _).alloc _ |>.alloc _⟩
  · gi_wp2
    refine ⟨trivial, ?_⟩
    refine (callsIn_wide.2 (FAllF_any _ _ _ _)).mono ?_
    rintro e w1 ⟨rfl, rfl⟩
    gi_wp2
    have bM : Boxed (((((w.alloc (.cells #[.int .i64 most] 3)).alloc (.cells #[.slice none 0 0] 29)).alloc (.cells #[] 22)).alloc (.cells #[.slice (some ⟨w.heap.size + 1 + 1, 0, none⟩) 0 0] 29)).alloc (.cells #[.slice A xs.length c] 22)) w.heap.size 3 (.int .i64 most) := ((((Boxed.new w _ _).alloc _).alloc _).alloc _).alloc _
    have bR : Boxed (((((w.alloc (.cells #[.int .i64 most] 3)).alloc (.cells #[.slice none 0 0] 29)).alloc (.cells #[] 22)).alloc (.cells #[.slice (some ⟨w.heap.size + 1 + 1, 0, none⟩) 0 0] 29)).alloc (.cells #[.slice A xs.length c] 22)) (w.heap.size + 1) 29 (.slice none 0 0) := by
      have := (((Boxed.new (w.alloc (.cells #[.int .i64 most] 3)) 29 (.slice none 0 0)).alloc (.cells #[] 22)).alloc (.cells #[.slice (some ⟨w.heap.size + 1 + 1, 0, none⟩) 0 0] 29)).alloc (.cells #[.slice A xs.length c] 22)
      simpa using this
    have bO : Boxed (((((w.alloc (.cells #[.int .i64 most] 3)).alloc (.cells #[.slice none 0 0] 29)).alloc (.cells #[] 22)).alloc (.cells #[.slice (some ⟨w.heap.size + 1 + 1, 0, none⟩) 0 0] 29)).alloc (.cells #[.slice A xs.length c] 22)) (w.heap.size + 1 + 1 + 1) 29 (.slice (some ⟨w.heap.size + 1 + 1, 0, none⟩) 0 0) := by
      have := (Boxed.new (((w.alloc (.cells #[.int .i64 most] 3)).alloc (.cells #[.slice none 0 0] 29)).alloc (.cells #[] 22)) 29 (.slice (some ⟨w.heap.size + 1 + 1, 0, none⟩) 0 0)).alloc (.cells #[.slice A xs.length c] 22)
      simpa using this
    have bX : Boxed (((((w.alloc (.cells #[.int .i64 most] 3)).alloc (.cells #[.slice none 0 0] 29)).alloc (.cells #[] 22)).alloc (.cells #[.slice (some ⟨w.heap.size + 1 + 1, 0, none⟩) 0 0] 29)).alloc (.cells #[.slice A xs.length c] 22)) (w.heap.size + 1 + 1 + 1 + 1) 22 (.slice A xs.length c) := by
      have := Boxed.new ((((w.alloc (.cells #[.int .i64 most] 3)).alloc (.cells #[.slice none 0 0] 29)).alloc (.cells #[] 22)).alloc (.cells #[.slice (some ⟨w.heap.size + 1 + 1, 0, none⟩) 0 0] 29)) 22 (.slice A xs.length c)
      simpa using this
    have rO : (((((w.alloc (.cells #[.int .i64 most] 3)).alloc (.cells #[.slice none 0 0] 29)).alloc (.cells #[] 22)).alloc (.cells #[.slice (some ⟨w.heap.size + 1 + 1, 0, none⟩) 0 0] 29)).alloc (.cells #[.slice A xs.length c] 22)).ownsRow (w.heap.size + 2) 22 1 (.slice (some ⟨w.heap.size + 1 + 1, 0, none⟩) 0 0) 0 [] := by
      have q := World.ownsRow_lit (base := w.heap.size + 2) (e := 22) (size := 1) ((w.alloc (.cells #[.int .i64 most] 3)).alloc (.cells #[.slice none 0 0] 29)) #[] 0 (by simp) (by simp) rfl
      have q2 := (q.alloc (.cells #[.slice (some ⟨w.heap.size + 1 + 1, 0, none⟩) 0 0] 29)).alloc (.cells #[.slice A xs.length c] 22)
      simpa using q2
    have C5 : Ch No w (((((w.alloc (.cells #[.int .i64 most] 3)).alloc (.cells #[.slice none 0 0] 29)).alloc (.cells #[] 22)).alloc (.cells #[.slice (some ⟨w.heap.size + 1 + 1, 0, none⟩) 0 0] 29)).alloc (.cells #[.slice A xs.length c] 22)) := (((((Ch.refl No w).alloc _).alloc _).alloc _).alloc _).alloc _
    have z5 : (((((w.alloc (.cells #[.int .i64 most] 3)).alloc (.cells #[.slice none 0 0] 29)).alloc (.cells #[] 22)).alloc (.cells #[.slice (some ⟨w.heap.size + 1 + 1, 0, none⟩) 0 0] 29)).alloc (.cells #[.slice A xs.length c] 22)).heap.size = w.heap.size + 5 := by simp
    generalize (((((w.alloc (.cells #[.int .i64 most] 3)).alloc (.cells #[.slice none 0 0] 29)).alloc (.cells #[] 22)).alloc (.cells #[.slice (some ⟨w.heap.size + 1 + 1, 0, none⟩) 0 0] 29)).alloc (.cells #[.slice A xs.length c] 22)) = w5 at *
    refine wpIn_rangeFunc_ownG (w0 := w5) rfl (by omega) (gf := 33) (lb := #[.pointer (some ⟨w.heap.size + 1 + 1 + 1 + 1, 0, none⟩)]) rfl trivial (enters_of Try.func33 (by kernel_rfl) rfl)
      (FAll_stops 2 (by omega) (w.heap.size + 1 + 1 + 1 + 1) w.heap.size xs A c bs l0 er HX.out.2.2 w5 bX.cell (HX.out.1.ch C5 (fun _ _ h => h)) HX.out.2.1 hl) KpU.trans (KpU.bk (by omega)) (Below.refl _ _) (fun _ => rfl)
      (fun (pre : List Prt) W => (∃ v, Boxed W (w.heap.size + 1 + 1 + 1) 29 v ∧ W.ownsRow (w.heap.size + 2) 22 1 v pre.length (pre.map Prt.enc) ∧ True) ∧ (Boxed W w.heap.size 3 (.int .i64 most) ∧ Boxed W (w.heap.size + 1) 29 (.slice none 0 0)) ∧ (pre.length : Int) < most ∧ Below w.heap.size w W)
      (fun c (pre : List Prt) W => c = .ret ∧ (∃ v, Boxed W (w.heap.size + 1) 29 v ∧ W.ownsRow (w.heap.size + 2) 22 1 v pre.length (pre.map Prt.enc) ∧ True) ∧ (pre.length : Int) = most ∧ Below w.heap.size w W)
      (OwnFrom.and (Own.from (holdsRow_own _ _ _ _ 1 (fun pre : List Prt => pre.length) (fun pre : List Prt => pre.map Prt.enc) (fun (_ : List Prt) _ => True)) _) (OwnFrom.and (OwnFrom.and (Own.from (boxed_own _ _ (fun _ : List Prt => _)) _) (Own.from (boxed_own _ _ (fun _ : List Prt => _)) _)) (OwnFrom.and (ownFrom_pure _ (fun pre : List Prt => ((pre.length : Nat) : Int) < most)) (ownFrom_below (Nat.le_refl _) (by omega)))))
      (fun c => OwnFrom.and (ownFrom_pure _ (fun _ : List Prt => c = .ret)) (OwnFrom.and (Own.from (holdsRow_own _ _ _ _ 1 (fun pre : List Prt => pre.length) (fun pre : List Prt => pre.map Prt.enc) (fun (_ : List Prt) _ => True)) _) (OwnFrom.and (ownFrom_pure _ (fun pre : List Prt => ((pre.length : Nat) : Int) = most)) (ownFrom_below (Nat.le_refl _) (by omega)))))
      ⟨⟨_, bO, rO, trivial⟩, ⟨bM, bR⟩, by simp; omega, C5.same⟩
      (fun x => { tmps := #[.slice A xs.length c, .int .i64 most, undef, .pointer (some ⟨w.heap.size, 0, none⟩), .pointer (some ⟨w.heap.size + 1, 0, none⟩), .pointer (some ⟨w.heap.size + 1 + 1 + 1, 0, none⟩), Prt.enc x, .slice (some ⟨w.heap.size + 1 + 1, 0, none⟩) 0 0, .int .i64 most, .bool false, undef, .slice A xs.length c, .func (.func 33) #[] #[.pointer (some ⟨w.heap.size + 1 + 1 + 1 + 1, 0, none⟩)], Prt.enc x, undef, undef, undef, undef, undef, undef, undef, undef, undef, undef], defers := [] }) ?assign ?body ?done ?stop
    case assign =>
      intro l x W K hK
      gi_wp2
      exact hK
    case body =>
      rintro l pre x W ⟨⟨v, hv, hrow, _⟩, ⟨h3, h4⟩, hlen, hB⟩ hlt'
      have hxe : Prt.enc x = .slice x.A x.bs.length x.c := rfl
      rw [hxe]
      clear hxe
      have hc := hv.cell
      have hsz : w.heap.size + 4 ≤ W.heap.size := by have := hv.lt; omega
      have hrow2 : W.ownsRow (w.heap.size + 2) 22 1 v pre.length (pre.map Prt.enc) := hrow
      have hn3 : some w.heap.size ≠ v.ownBlock := fun e => by have := (hrow.lt _ e.symm).1; omega
      have hn4 := h4.not_row (e := 22) (by decide) hrow
      have hpm : (pre.map Prt.enc).length = pre.length := by simp
      obtain ⟨m, hmm⟩ : ∃ m : Nat, most = m := ⟨most.toNat, by omega⟩
      subst hmm
      by_cases he : pre.length + 1 = m
      · gi_wp2_with (gi_at_builtin; refine wpListIn_append_own _ rfl _ _ 29 rfl (w.heap.size + 2) 22 i0 (.slice none 0 0) 1 24 Try.underlying29 hi hz0 hz1 hz2 rfl (by decide) _ _ _ rfl (hrow.alloc _) ⟨W.heap.size, 0, none⟩ 1 1 [.slice x.A x.bs.length x.c] rfl rfl (cell_one_new _ _ _) (by simp [Value.oneCell']) (by simp [maxLen]; omega) (by omega) (by simp; omega) ?_; intro v' w1 hown' hgrow _; obtain ⟨g', cap', rfl⟩ := ownsRow_succ hown'; obtain ⟨hv1, hv2, hr2, hk2, hb2⟩ := hv.appended (by decide) hrow (by omega) (by omega) hown' hgrow; have hc1 := hv1.cell; have hf1 := hv1.frozen; have h3w := ((h3.alloc _).kept hgrow hn3); have h4w := ((h4.alloc _).kept hgrow hn4); have c3 := h3w.cell; have f4 := h4w.frozen; have c4 := h4w.cell)
        have hb3 := hb2.mono (show w.heap.size ≤ w.heap.size + 2 by omega)
        have hg2 : w.heap.size + 2 ≤ g' := (hr2.lt g' rfl).1
        rw [he] at hk2 hb3 hr2
        refine ⟨(hk2.trans (KeepsOthers.setCell _ _ _)).from _, rfl, ⟨_, (h4w.other (by omega) _).set _, ?_, trivial⟩, by simp; omega, (hB.trans hb3).setCell (p := ⟨w.heap.size + 1, 0, none⟩) (by simp) _⟩
        have q := hr2.kept (grownBy_setCell' _ (w.heap.size + 1) (.slice (some ⟨g', 0, none⟩) m cap')) (.inr (by simp [Value.ownBlock]; omega))
        simpa [he, Prt.enc] using q
      · gi_wp2_with (gi_at_builtin; refine wpListIn_append_own _ rfl _ _ 29 rfl (w.heap.size + 2) 22 i0 (.slice none 0 0) 1 24 Try.underlying29 hi hz0 hz1 hz2 rfl (by decide) _ _ _ rfl (hrow.alloc _) ⟨W.heap.size, 0, none⟩ 1 1 [.slice x.A x.bs.length x.c] rfl rfl (cell_one_new _ _ _) (by simp [Value.oneCell']) (by simp [maxLen]; omega) (by omega) (by simp; omega) ?_; intro v' w1 hown' hgrow _; obtain ⟨g', cap', rfl⟩ := ownsRow_succ hown'; obtain ⟨hv1, hv2, hr2, hk2, hb2⟩ := hv.appended (by decide) hrow (by omega) (by omega) hown' hgrow; have hc1 := hv1.cell; have hf1 := hv1.frozen; have h3w := ((h3.alloc _).kept hgrow hn3); have h4w := ((h4.alloc _).kept hgrow hn4); have c3 := h3w.cell; have f4 := h4w.frozen; have c4 := h4w.cell)
        have hb3 := hb2.mono (show w.heap.size ≤ w.heap.size + 2 by omega)
        have hg2 : w.heap.size + 2 ≤ g' := (hr2.lt g' rfl).1
        refine ⟨hk2.from _, KpU.body hb3 hrow hv hgrow, ⟨_, hv2, by simpa [Prt.enc] using hr2, trivial⟩, ⟨h3w.other (by omega) _, h4w.other (by omega) _⟩, by simp; omega, hB.trans hb3⟩
    case done =>
      rintro D ys W hD hys ⟨⟨v, hv, hrow, _⟩, ⟨h3, h4⟩, hlen, hB⟩ hK
      obtain ⟨Av, cv, rfl, _⟩ := (show OwnS W (w.heap.size + 2) 22 v (ys.map Prt.enc) by simpa [OwnS] using hrow).slice
      have hc := hv.cell
      have f4 := h4.frozen
      have c4 := h4.cell
      simp only [List.length_map] at hv hrow hc ⊢
      gi_wp2
      refine ⟨by simp, .inl ⟨_, _, rfl, run_takeDeferred ((KeepsOthers.setCell _ _ _).same D _ hK rfl), ?_⟩⟩
      have hv4 := h4.set (.slice Av ys.length cv)
      have hK4 := (KeepsOthers.setCell W ⟨w.heap.size + 1, 0, none⟩ (.slice Av ys.length cv)).same D _ hK rfl
      have hc5 := cell_kept hv4.cell (grownBy_putObj' _ D (.deferred none)) (fun r e => by cases e; exact ⟨_, hK4, rfl⟩)
      have hyl : ys.length = bs.length := by rw [← hys]; simp
      have ht : bs.take most.toNat = bs := List.take_of_length_le (by omega)
      have hr4 := hrow.kept (grownBy_setCell' W (w.heap.size + 1) (.slice Av ys.length cv)) (.inr (fun e => by have := (hrow.lt _ e).1; omega))
      refine ⟨.slice Av ys.length cv, by simp [results, Try.f16, go_sem, hc5], _, ys, rfl, by rw [ht, hys], ?_, Ch.of_below ((hB.setCell (p := ⟨w.heap.size + 1, 0, none⟩) (by simp) _).trans (belowK_b (w := w) (Nat.le_refl _) _ D _ _ (by omega) hK4 rfl rfl))⟩
      have q := ownsRow_putObj hr4 (.deferred none) hK4 rfl
      exact OwnS.lower (B := w.heap.size + 2) (by simpa [OwnS] using q) (by omega)
    case stop =>
      rintro D c pre W hD hpre ⟨rfl, ⟨v, hv, hrow, _⟩, hlen, hB⟩ hK
      gi_wp2
      refine ⟨by simp, .inl ⟨_, _, rfl, run_takeDeferred hK, ?_⟩⟩
      have hc5 := cell_kept hv.cell (grownBy_putObj' _ D (.deferred none)) (fun r e => by cases e; exact ⟨_, hK, rfl⟩)
      have ht : pre.map (·.bs) = bs.take most.toNat := by
        obtain ⟨t, ht⟩ := hpre
        rw [← ht, show most.toNat = (pre.map (·.bs)).length from by simp; omega, List.take_left']
        rfl
      refine ⟨v, by simp [results, Try.f16, go_sem, hc5], v, pre, rfl, ht, ?_, Ch.of_below (hB.trans (belowK_b (w := w) (Nat.le_refl _) W D _ _ (by omega) hK rfl rfl))⟩
      have q := ownsRow_putObj hrow (.deferred none) hK rfl
      exact OwnS.lower (B := w.heap.size + 2) (by simpa [OwnS] using q) (by omega)
end Go.Proofs.Ytdkkffmnpholdaa
