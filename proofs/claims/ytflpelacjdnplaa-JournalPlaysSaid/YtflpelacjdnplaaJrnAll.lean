/- journal: the iterator. -/
import Derived.Test.YtflpelacjdnplaaJrnGet
import Derived.Test.YtflpelacjdnplaaEntAll
namespace Go.Proofs.Ytflpelacjdnplaa
open Go.RowKit Go.Shelf

attribute [local go_sem] Oper.semAt_some

/-- entries with their numbers -/
def numJ (gone : Nat) (l : List Ent) (j : Nat) : List (Int × Ent) := (l.take j).mapIdx fun i a => ((gone : Int) + 1 + i, a)
theorem numJ_succ (gone : Nat) (l : List Ent) (j : Nat) (h : j < l.length) : numJ gone l (j + 1) = numJ gone l j ++ [((gone : Int) + 1 + j, l[j])] := by
  unfold numJ
  rw [List.take_succ_eq_append_getElem h, List.mapIdx_append]
  simp [List.length_take, Nat.min_eq_left (Nat.le_of_lt h)]
@[simp] theorem numJ_len (gone : Nat) (l : List Ent) (j : Nat) : (numJ gone l j).length = min j l.length := by simp [numJ]
theorem numJ_pre (gone : Nat) (l : List Ent) (j : Nat) : numJ gone l j <+: numJ gone l l.length := by
  unfold numJ
  rw [List.take_length]
  refine ⟨(l.drop j).mapIdx fun i a => ((gone : Int) + 1 + ((i + (l.take j).length : Nat) : Int), a), ?_⟩
  rw [← List.mapIdx_append, List.take_append_drop]
theorem numJ_snd (gone : Nat) (l : List Ent) (j : Nat) : (numJ gone l j).map Prod.snd = l.take j := by
  unfold numJ
  refine List.ext_getElem? fun i => ?_
  simp only [List.getElem?_map, List.getElem?_mapIdx]
  cases (l.take j)[i]? <;> rfl

set_option maxRecDepth 100000 in
set_option maxHeartbeats 4000000 in
theorem JAll1_in (n : Nat) (hn : 1 ≤ n) (l Bn n₀ jb m c gone cap : Nat) (A : Option Addr) (L : List Ent) (hjb : jb < n₀) (hA : ∀ a, A = some a → a.block < n₀) (hg : gone ≤ 1000000000000) (hm : m ≤ 1000000) (J Jx : List (Int × Ent) → World → Prop)
    (hJd : ∀ pre W W', J pre W → Ch No W W' → J pre W')
    (hY : ∀ pre x W, J pre W → pre.length < L.length → YieldAt Fence.wide (n - 1) Try.prog l (enV x) W fun e W' =>
      (e = .returned (.bool true) ∧ J (pre ++ [x]) W' ∧ KpA n₀ Bn W W') ∨ (e = .returned (.bool false) ∧ Jx (pre ++ [x]) W'))
    (W : World) (hn₀ : n₀ ≤ W.heap.size) (hBl : Bn < W.heap.size) (hBn : W.cell? ⟨Bn, 0, none⟩ = some (.pointer (some ⟨jb, 0, none⟩))) (hJr : Jr W jb A m c gone cap L) (h0 : J [] W) :
    CallsIn Fence.wide n Try.prog 58 #[.func (.yield l) #[] #[], .pointer (some ⟨Bn, 0, none⟩)] W fun e W' => (∃ v, e = .returned v) ∧
      ((∃ ys, ys = numJ gone L L.length ∧ J ys W') ∨ (∃ pre, pre <+: numJ gone L L.length ∧ Jx pre W')) := by
  refine callsIn_of_wp Try.func58 rfl trivial ?_ rfl
  simp only [Try.ntmps58, List.size_toArray, List.length_cons, List.length_nil, Nat.reduceAdd, Nat.reduceSub, Array.replicate_succ, Array.replicate_zero, List.push_toArray, List.append_toArray, List.nil_append, List.cons_append]
  have h00 : J (numJ gone L 0) W := h0
  have HJ := Lib.hid hJr
  have hLm : L.length = m := hJr.nn
  have q0 := hJr.c0
  have HLM := Lib.hid hLm
  clear hJr h0
  rw [hLm] at hY ⊢
  clear hLm
  gi_wp2
  gi_loopw [3, 10] (fun _ i wr => ∃ j : Nat, j ≤ m ∧ i = .int .i64 j ∧ Hid (J (numJ gone L j) wr ∧ KpA n₀ Bn W wr)) (fun _ i _ => m - (intOf i).toNat)
  case atStart => exact ⟨0, by omega, rfl, Lib.hid ⟨h00, Below.refl _ _, rfl⟩⟩
  case round =>
    clear h00
    obtain ⟨j, hj, rfl, hst⟩ := hrel
    have hC : Ch (fun i => n₀ ≤ i) W wr := ⟨hst.out.2.1.os, hst.out.2.1.tape, hst.out.2.1.output, hst.out.2.1.size, fun i _ hi => hst.out.2.1.block i (by omega)⟩
    have hJr1 : Jr wr jb A m c gone cap L := HJ.out.chS hC (by omega) (fun a ha => by have := hA a ha; omega)
    have hBn1 : wr.cell? ⟨Bn, 0, none⟩ = some (.pointer (some ⟨jb, 0, none⟩)) := (World.cell?_of_block hst.out.2.2).trans hBn
    have hwl1 : n₀ ≤ wr.heap.size := Nat.le_trans hn₀ hst.out.2.1.size
    have hwl2 : Bn < wr.heap.size := Nat.lt_of_lt_of_le hBl hst.out.2.1.size
    by_cases hjl : j < m
    · have hjl2 : j < L.length := by rw [HLM.out]; exact hjl
      have hsc := numJ_succ gone L j hjl2
      obtain ⟨pre, x, post, hpp, hpl⟩ : ∃ pre a post, L = pre ++ a :: post ∧ pre.length = j := ⟨L.take j, L[j], L.drop (j + 1), by rw [List.getElem_cons_drop, List.take_append_drop], by rw [List.length_take]; omega⟩
      have ha : L[j] = x := by subst hpp; subst hpl; simp
      rw [ha] at hsc
      have hrow := hJr1.row
      rw [hpp] at hrow
      obtain ⟨g, o, hAg, hcl⟩ := hrow.cls (by omega)
      have hat := fun k hk => flatE_at pre post x k hk
      rw [hpl] at hat
      have y0 := hcl (j * 6 + 0) _ (hat 0 (by omega))
      have y1 := hcl (j * 6 + 1) _ (hat 1 (by omega))
      have y2 := hcl (j * 6 + 2) _ (hat 2 (by omega))
      have y3 := hcl (j * 6 + 3) _ (hat 3 (by omega))
      have y4 := hcl (j * 6 + 4) _ (hat 4 (by omega))
      have y5 := hcl (j * 6 + 5) _ (hat 5 (by omega))
      have HY6 : Hid (wr.cell? ⟨g, o + j * 6, none⟩ = some (.int .i64 x.t) ∧ wr.cell? ⟨g, o + j * 6 + 1, none⟩ = some (.int .i64 x.arg) ∧ wr.cell? ⟨g, o + j * 6 + 2, none⟩ = some (.int .i64 x.tenant) ∧ wr.cell? ⟨g, o + j * 6 + 3, none⟩ = some (.int .i64 x.person) ∧ wr.cell? ⟨g, o + j * 6 + 4, none⟩ = some (.int .i64 x.kind) ∧ wr.cell? ⟨g, o + j * 6 + 5, none⟩ = some (.int .i64 x.code)) := Lib.hid ⟨y0, y1, y2, y3, y4, y5⟩
      have hjn : (numJ gone L j).length < L.length := by rw [numJ_len]; omega
      have HSC := Lib.hid hsc
      have HFN := Lib.hid (jr_first hJr1 hg)
      have HYR : Hid (∀ W', Ch No wr W' → YieldAt Fence.wide (n - 1) Try.prog l #[.int .i64 ((gone : Int) + 1 + j), .agg #[.int .i64 x.t, .int .i64 x.arg, .int .i64 x.tenant, .int .i64 x.person, .int .i64 x.kind, .int .i64 x.code]] W' fun e W'' =>
          ∃ b, e = .returned (.bool b) ∧ ((b = true ∧ J (numJ gone L (j + 1)) W'' ∧ KpA n₀ Bn W W'') ∨ (b = false ∧ Jx (numJ gone L (j + 1)) W''))) := Lib.hid (fun W' hc => by
        obtain ⟨fn, tmps, assign, body, hy, hR⟩ := hY _ ((gone : Int) + 1 + j, x) W' (hJd _ _ _ hst.out.1 hc) (by rw [← HLM.out]; exact hjn)
        refine ⟨fn, tmps, assign, body, hy, hR.mono ?_⟩
        rintro e W'' (⟨rfl, h1, h2⟩ | ⟨rfl, h1⟩)
        · exact ⟨true, rfl, .inl ⟨rfl, by rw [HSC.out]; exact h1, (hst.out.2.trans (KpA.of_no hc hwl1 hwl2)).trans h2⟩⟩
        · exact ⟨false, rfl, .inr ⟨rfl, by rw [HSC.out]; exact h1⟩⟩)
      subst hAg
      clear y0 y1 y2 y3 y4 y5 hat hcl hsc hjn ha hpp hpl hjl2 hrow hJr1 hC
      obtain ⟨y0, y1, y2, y3, y4, y5⟩ := HY6.out
      have z := (Blk.new wr 32 x.enc).ebox
      have HZ : Hid (EBox (wr.alloc (.cells x.enc.toArray 32)) wr.heap.size x ∧ Ch No wr (wr.alloc (.cells x.enc.toArray 32))) := Lib.hid ⟨z, (Ch.refl No wr).alloc _⟩
      clear z
      have e1 : IntKind.i64.wrap ((gone : Int) + 1 + j) = (gone : Int) + 1 + j := IntWalk.i64_in _ (by omega)
      have HCA : Hid (Ch No wr (wr.alloc (.cells #[.int .i64 x.t, .int .i64 x.arg, .int .i64 x.tenant, .int .i64 x.person, .int .i64 x.kind, .int .i64 x.code] 32)).drew) := Lib.hid (((Ch.refl No wr).alloc _).drew)
      gi_wp2
      have hBn2 := cell_al (.cells #[.int .i64 x.t, .int .i64 x.arg, .int .i64 x.tenant, .int .i64 x.person, .int .i64 x.kind, .int .i64 x.code] 32) hBn1
      have hza := HZ.out.1
      simp only [Ent.enc] at hza
      obtain ⟨z0, z1, z2, z3, z4, z5⟩ := hza
      have hfn : Fence.wide.fn 19 := trivial
      gi_region_with (first
        | (gi_at_call 19; refine (callsIn_wide.2 (HFN.out _ HCA.out)).mono ?_; rintro e w1 ⟨rfl, h1⟩; have hz1 := (HZ.out.1.no (Ch.refl No _).drew).no h1; obtain ⟨v0, v1, v2, v3, v4, v5⟩ := hz1; obtain ⟨fn, tmps, assign, body, hy, hR⟩ := HYR.out w1 (HCA.out.trans h1))
        | (refine hR.mono ?_; rintro e W3 ⟨bb, rfl, hb⟩; have HB := Lib.hid hb; clear hb)
        | (with_reducible refine And.intro hfn ?_))
      all_goals (
        rcases HB.out with ⟨rfl, hJ3, hk3⟩ | ⟨rfl, hJx3⟩
        · have HF : Hid (J (numJ gone L (j + 1)) W3 ∧ KpA n₀ Bn W W3) := Lib.hid ⟨hJ3, hk3⟩
          clear hJ3 hk3 HB z0 z1 z2 z3 z4 z5 v0 v1 v2 v3 v4 v5 y0 y1 y2 y3 y4 y5 hBn1 hBn2 hy hR h1
          gi_wp2
          go_roundw
          case rel => exact ⟨j + 1, by omega, by go_num, HF⟩
          case measure => simp [intOf]; omega
        · clear HB z0 z1 z2 z3 z4 z5 v0 v1 v2 v3 v4 v5 y0 y1 y2 y3 y4 y5 hBn1 hBn2 hy hR h1
          gi_wp2
          refine bodyPost_ret (results_none rfl _ _ _) rfl ?_
          refine ⟨⟨_, rfl⟩, .inr ⟨_, ?_, hJx3⟩⟩
          rw [← HLM.out]
          exact numJ_pre gone L (j + 1))
    · obtain rfl : j = m := by omega
      gi_wp2
      go_end0
      exact ⟨⟨_, rfl⟩, .inl ⟨_, rfl, hst.out.1⟩⟩
end Go.Proofs.Ytflpelacjdnplaa
