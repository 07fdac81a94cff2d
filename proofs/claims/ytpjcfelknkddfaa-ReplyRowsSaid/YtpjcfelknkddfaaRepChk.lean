/- slices.Chunk of numbers: the rows, in plain Lean; the iterator. -/
import Derived.Test.YtpjcfelknkddfaaRepWrite
import Derived.Test.YtpjcfelknkddfaaRng
namespace Go.Proofs.Ytpjcfelknkddfaa
open Go.RowKit Go.Shelf

attribute [local go_sem] Oper.semAt_some

/-- rows of n numbers, and of those that are left -/
def chk (n : Nat) : Nat → List Int → List (List Int)
  | 0, _ => []
  | f + 1, xs => if xs = [] then [] else xs.take n :: chk n f (xs.drop n)
def chks (n : Nat) (xs : List Int) : List (List Int) := chk n xs.length xs
theorem chk_fuel {n : Nat} (hn : 1 ≤ n) : ∀ (f g : Nat) (xs : List Int), xs.length ≤ f → xs.length ≤ g → chk n f xs = chk n g xs := by
  intro f
  induction f with
  | zero =>
    intro g xs h _
    obtain rfl : xs = [] := List.eq_nil_of_length_eq_zero (by omega)
    cases g <;> simp [chk]
  | succ f ih =>
    intro g xs h1 h2
    cases g with
    | zero =>
      obtain rfl : xs = [] := List.eq_nil_of_length_eq_zero (by omega)
      simp [chk]
    | succ g =>
      unfold chk
      split
      · rfl
      · rename_i hx
        have : 0 < xs.length := List.length_pos_iff.2 hx
        rw [ih g (xs.drop n) (by simp; omega) (by simp; omega)]
@[simp] theorem chks_nil (n : Nat) : chks n [] = [] := rfl
theorem chks_step {n : Nat} (hn : 1 ≤ n) {xs : List Int} (h : xs ≠ []) : chks n xs = xs.take n :: chks n (xs.drop n) := by
  have h0 : 0 < xs.length := List.length_pos_iff.2 h
  unfold chks
  rw [chk_fuel hn xs.length (xs.length - 1 + 1) xs (by omega) (by omega)]
  rw [chk, if_neg h, chk_fuel hn (xs.length - 1) (xs.drop n).length (xs.drop n) (by simp; omega) (by omega)]
theorem chks_len_le {n : Nat} (hn : 1 ≤ n) : ∀ (f : Nat) (xs : List Int), xs.length ≤ f → (chks n xs).length ≤ xs.length := by
  intro f
  induction f with
  | zero => intro xs h; rw [show xs = [] from List.eq_nil_of_length_eq_zero (by omega)]; simp
  | succ f ih =>
    intro xs h
    by_cases hx : xs = []
    · rw [hx]; simp
    · have h0 : 0 < xs.length := List.length_pos_iff.2 hx
      rw [chks_step hn hx, List.length_cons]
      have := ih (xs.drop n) (by simp; omega)
      simp at this
      omega

/-- a slice of numbers -/
structure Lng where
  A : Option Addr
  c : Nat
  xs : List Int
def Lng.enc (p : Lng) : Value := .slice p.A p.xs.length p.c

/-- what a round of slices.Chunk keeps: its two boxes, and what lay below n₀ -/
def KpC (n₀ Bs Bn : Nat) (W W' : World) : Prop := Below n₀ W W' ∧ W'.heap[Bs]? = W.heap[Bs]? ∧ W'.heap[Bn]? = W.heap[Bn]?
theorem KpC.trans {n₀ Bs Bn : Nat} {A B C : World} (h : KpC n₀ Bs Bn A B) (k : KpC n₀ Bs Bn B C) : KpC n₀ Bs Bn A C := ⟨h.1.trans k.1, k.2.1.trans h.2.1, k.2.2.trans h.2.2⟩
theorem KpC.of_no {n₀ Bs Bn : Nat} {A B : World} (h : Ch No A B) (hn : n₀ ≤ A.heap.size) (h1 : Bs < A.heap.size) (h2 : Bn < A.heap.size) : KpC n₀ Bs Bn A B :=
  ⟨⟨h.os, h.tape, h.output, h.size, fun i hi => h.block i (Nat.lt_of_lt_of_le hi hn) (fun h => h)⟩, h.block Bs h1 (fun h => h), h.block Bn h2 (fun h => h)⟩
theorem KpC.refl {n₀ Bs Bn : Nat} (A : World) : KpC n₀ Bs Bn A A := ⟨Below.refl _ _, rfl, rfl⟩

set_option maxRecDepth 100000 in
set_option maxHeartbeats 4000000 in
theorem Chunk1_in (n : Nat) (hn : 1 ≤ n) (l Bs Bn n₀ D0 : Nat) (xs : List Int) (A : Option Addr) (c : Nat) (z : Nat) (hz : 1 ≤ z) (hzm : z ≤ 9223372036854775807) (hc : xs.length ≤ c) (hl : xs.length ≤ 1000000) (hA : xs ≠ [] → ∀ a, A = some a → a.block < n₀) (J Jx : List Lng → World → Prop) (hJd : ∀ pre W W', J pre W → Ch No W W' → J pre W')
    (hY : ∀ pre x W, J pre W → (Cls W x.A (ints .i64 x.xs) ∧ x.xs.length ≤ 1000000) → pre.length < (chks z xs).length → YieldAt Fence.wide (n - 1) Try.prog l #[Lng.enc x] W fun e W' =>
      (e = .returned (.bool true) ∧ J (pre ++ [x]) W' ∧ KpC n₀ Bs Bn W W' ∧ KeepsFrom D0 W W') ∨ (e = .returned (.bool false) ∧ Jx (pre ++ [x]) W' ∧ KeepsFrom D0 W W'))
    (W : World) (hn₀ : n₀ ≤ W.heap.size) (hBs : W.cell? ⟨Bs, 0, none⟩ = some (.slice A xs.length c)) (hBn : W.cell? ⟨Bn, 0, none⟩ = some (.int .i64 z)) (hx : Cls W A (ints .i64 xs)) (h0 : J [] W) :
    CallsIn Fence.wide n Try.prog 49 #[.func (.yield l) #[] #[], .pointer (some ⟨Bs, 0, none⟩), .pointer (some ⟨Bn, 0, none⟩)] W fun e W' => (∃ v, e = .returned v) ∧
      ((∃ ys, ys.map (·.xs) = chks z xs ∧ J ys W') ∨ (∃ pre, pre.map (·.xs) <+: chks z xs ∧ Jx pre W')) := by
  refine callsIn_of_wp Try.func49 rfl trivial ?_ rfl
  simp only [Try.ntmps49, List.size_toArray, List.length_cons, List.length_nil, Nat.reduceAdd, Nat.reduceSub, Array.replicate_succ, Array.replicate_zero, List.push_toArray, List.append_toArray, List.nil_append, List.cons_append]
  have HS : Hid (Cls W A (ints .i64 xs) ∧ J [] W ∧ W.cell? ⟨Bs, 0, none⟩ = some (.slice A xs.length c) ∧ W.cell? ⟨Bn, 0, none⟩ = some (.int .i64 z)) := Lib.hid ⟨hx, h0, hBs, hBn⟩
  obtain ⟨N, hN⟩ : ∃ N, xs.length = N := ⟨_, rfl⟩
  have HN := Lib.hid (And.intro hN hA)
  rw [hN] at hc hl hBs
  clear hx h0 hN hA
  gi_wp2
  gi_loopw [4, 5] (fun i _ wr => ∃ (ps : List Lng) (o : Nat), i = .int .i64 o ∧ Hid (chks z xs = ps.map (·.xs) ++ chks z (xs.drop o)) ∧ (o = 0 ∨ z ≤ o) ∧ o ≤ N + z ∧ Hid (J ps wr ∧ KpC n₀ Bs Bn W wr)) (fun i _ _ => N - (intOf i).toNat)
  case atStart => exact ⟨[], 0, rfl, Lib.hid (by simp), .inl rfl, by omega, Lib.hid ⟨HS.out.2.1, KpC.refl W⟩⟩
  case round =>
    obtain ⟨ps, o, rfl, hp, ho, hoz, hst⟩ := hrel
    have b1 : wr.cell? ⟨Bs, 0, none⟩ = some (.slice A N c) := (World.cell?_of_block hst.out.2.2.1).trans hBs
    have b2 : wr.cell? ⟨Bn, 0, none⟩ = some (.int .i64 z) := (World.cell?_of_block hst.out.2.2.2).trans hBn
    by_cases hoN : o < N
    · obtain ⟨blk, off, hAe, _⟩ := HS.out.1.get 0 (by rw [HN.out.1]; omega)
      have hne : xs ≠ [] := by
        intro h
        have := HN.out.1
        rw [h] at this
        simp at this
        omega
      have hblk := HN.out.2 hne _ hAe
      have hcl : Cls wr A (ints .i64 xs) := by
        intro pre v post e
        obtain ⟨b', o', hA', hcell⟩ := HS.out.1 pre v post e
        rw [hAe] at hA'
        cases hA'
        exact ⟨blk, off, hAe, (hst.out.2.1.cell (p := ⟨blk, off + pre.length, none⟩) hblk).trans hcell⟩
      have hdn : xs.drop o ≠ [] := by
        intro h
        have := congrArg List.length h
        rw [List.length_drop, HN.out.1] at this
        simp at this
        omega
      have hstep := chks_step hz hdn
      have hs1 := World.block_lt_of_cell? _ _ b1
      have hs2 := World.block_lt_of_cell? _ _ b2
      simp only at hs1 hs2
      have hs0 : n₀ ≤ wr.heap.size := Nat.le_trans hn₀ hst.out.2.1.size
      have HYR : Hid (∀ W' n', ((xs.drop o).take z).length = n' → Ch No wr W' → YieldAt Fence.wide (n - 1) Try.prog l #[.slice (some ⟨blk, off + o, none⟩) n' n'] W' fun e W'' =>
          ∃ bb, e = .returned (.bool bb) ∧ ((bb = true ∧ J (ps ++ [⟨some ⟨blk, off + o, none⟩, n', (xs.drop o).take z⟩]) W'' ∧ KpC n₀ Bs Bn W W'') ∨ (bb = false ∧ Jx (ps ++ [⟨some ⟨blk, off + o, none⟩, n', (xs.drop o).take z⟩]) W''))) := Lib.hid (fun W' n' hn' hc' => by
        subst hn'
        obtain ⟨fn, tmps, assign, body, hy, hR⟩ := hY ps ⟨some ⟨blk, off + o, none⟩, ((xs.drop o).take z).length, (xs.drop o).take z⟩ W' (hJd _ _ _ hst.out.1 hc') ⟨(by
          have := ((hcl.ch hc' (fun _ _ h => h)).dropI o).takeI z
          rw [hAe] at this
          rw [ints_take, ints_drop]
          simpa [addr_add] using this), (by rw [List.length_take, List.length_drop, HN.out.1]; omega)⟩ (by rw [hp.out, hstep]; simp)
        refine ⟨fn, tmps, assign, body, hy, hR.mono ?_⟩
        rintro e W'' (⟨rfl, h1, h2, _⟩ | ⟨rfl, h1, _⟩)
        · exact ⟨true, rfl, .inl ⟨rfl, h1, (hst.out.2.trans (KpC.of_no hc' hs0 hs1 hs2)).trans h2⟩⟩
        · exact ⟨false, rfl, .inr ⟨rfl, h1⟩⟩)
      have HSTEP := Lib.hid (And.intro hstep hp.out)
      have HD : Hid (xs.drop (o + z) = (xs.drop o).drop z) := Lib.hid (by rw [List.drop_drop])
      subst hAe
      clear hcl hdn hstep hne hst
      by_cases he : o + z ≤ N
      · have hlen : ((xs.drop o).take z).length = z := by rw [List.length_take, List.length_drop, HN.out.1]; omega
        have HY := Lib.hid (HYR.out wr.drew z hlen (Ch.refl No wr).drew)
        clear hlen HYR
        gi_wp2
        gi_region
        obtain ⟨fn, tmps, assign, body, hy, hR⟩ := HY.out
        gi_wp2
        refine hR.mono ?_
        clear hy hR HY
        rintro e W3 ⟨bb, rfl, hb⟩
        rcases hb with ⟨rfl, hJ3, hk3⟩ | ⟨rfl, hJx3⟩
        · have b3 : W3.cell? ⟨Bn, 0, none⟩ = some (.int .i64 z) := (World.cell?_of_block hk3.2.2).trans hBn
          have HF := Lib.hid (And.intro hJ3 hk3)
          clear hJ3 hk3 b1 b2
          gi_wp2
          go_roundw
          case rel =>
            refine ⟨_, o + z, by go_num, Lib.hid ?_, .inr (by omega), by omega, HF⟩
            rw [HSTEP.out.2, HSTEP.out.1, HD.out]
            simp
          case measure => simp [intOf]; omega
        · have HF := Lib.hid hJx3
          clear hJx3 b1 b2
          gi_wp2
          refine bodyPost_ret (results_none rfl _ _ _) rfl ?_
          refine ⟨⟨_, rfl⟩, .inr ⟨_, ?_, HF.out⟩⟩
          rw [HSTEP.out.2, HSTEP.out.1]
          simp
      · have hlen : ((xs.drop o).take z).length = N - o := by rw [List.length_take, List.length_drop, HN.out.1]; omega
        have HY := Lib.hid (HYR.out wr.drew (N - o) hlen (Ch.refl No wr).drew)
        clear hlen HYR
        gi_wp2
        gi_region
        obtain ⟨fn, tmps, assign, body, hy, hR⟩ := HY.out
        gi_wp2
        refine hR.mono ?_
        clear hy hR HY
        rintro e W3 ⟨bb, rfl, hb⟩
        rcases hb with ⟨rfl, hJ3, hk3⟩ | ⟨rfl, hJx3⟩
        · have b3 : W3.cell? ⟨Bn, 0, none⟩ = some (.int .i64 z) := (World.cell?_of_block hk3.2.2).trans hBn
          have HF := Lib.hid (And.intro hJ3 hk3)
          clear hJ3 hk3 b1 b2
          gi_wp2
          go_roundw
          case rel =>
            refine ⟨_, o + z, by go_num, Lib.hid ?_, .inr (by omega), by omega, HF⟩
            rw [HSTEP.out.2, HSTEP.out.1, HD.out]
            simp
          case measure => simp [intOf]; omega
        · have HF := Lib.hid hJx3
          clear hJx3 b1 b2
          gi_wp2
          refine bodyPost_ret (results_none rfl _ _ _) rfl ?_
          refine ⟨⟨_, rfl⟩, .inr ⟨_, ?_, HF.out⟩⟩
          rw [HSTEP.out.2, HSTEP.out.1]
          simp
    · have hdn : xs.drop o = [] := List.drop_of_length_le (by rw [HN.out.1]; omega)
      have HF : Hid (ps.map (·.xs) = chks z xs) := Lib.hid (by rw [hp.out, hdn, chks_nil, List.append_nil])
      gi_wp2
      go_end0
      exact ⟨⟨_, rfl⟩, .inl ⟨_, HF.out, hst.out.1⟩⟩
end Go.Proofs.Ytpjcfelknkddfaa
