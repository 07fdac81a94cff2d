/- entry.Batch: the iterator, and its entries collected. -/
import Derived.Test.YtflpelacjdnplaaIter
import Derived.Test.YtflpelacjdnplaaEntRead
namespace Go.Proofs.Ytflpelacjdnplaa
open Go.RowKit Go.Shelf

attribute [local go_sem] Oper.semAt_some

/-- the entries that stand one behind the other -/
def bat (b : List Int) : List Ent := if _h : 20 ≤ b.length ∧ (readE (b.take 20)).2 = 0 then (readE (b.take 20)).1 :: bat (b.drop 20) else []
termination_by b.length
decreasing_by simp; omega
theorem bat_len (b : List Int) : (bat b).length * 20 ≤ b.length := by
  induction h : b.length using Nat.strongRecOn generalizing b with
  | ind n ih =>
    unfold bat
    by_cases hc : 20 ≤ b.length ∧ (readE (b.take 20)).2 = 0
    · rw [dif_pos hc]
      have := ih (b.drop 20).length (by simp; omega) (b.drop 20) rfl
      simp at this ⊢
      omega
    · rw [dif_neg hc]; simp
theorem bat_cons {b : List Int} (h1 : 20 ≤ b.length) (h2 : (readE (b.take 20)).2 = 0) : bat b = (readE (b.take 20)).1 :: bat (b.drop 20) := by
  rw [bat, dif_pos ⟨h1, h2⟩]
theorem bat_nil {b : List Int} (h : ¬ (20 ≤ b.length ∧ (readE (b.take 20)).2 = 0)) : bat b = [] := by
  rw [bat, dif_neg h]

theorem readE_pos {b : List Int} (h : (readE b).2 ≠ 0) : 0 < (readE b).2 := by
  unfold readE at *
  (repeat' split) <;> simp_all
/-- entries with their numbers -/
def numE (l : List Ent) (j : Nat) : List (Int × Ent) := (l.take j).mapIdx fun i a => ((i : Int), a)
theorem numE_succ (l : List Ent) (j : Nat) (h : j < l.length) : numE l (j + 1) = numE l j ++ [((j : Int), l[j])] := by
  unfold numE
  rw [List.take_succ_eq_append_getElem h, List.mapIdx_append]
  simp [List.length_take, Nat.min_eq_left (Nat.le_of_lt h)]
@[simp] theorem numE_len (l : List Ent) (j : Nat) : (numE l j).length = min j l.length := by simp [numE]
theorem numE_pre (l : List Ent) (j : Nat) : numE l j <+: numE l l.length := by
  unfold numE
  rw [List.take_length]
  refine ⟨(l.drop j).mapIdx fun i a => (((i + (l.take j).length : Nat) : Int), a), ?_⟩
  rw [← List.mapIdx_append, List.take_append_drop]
theorem numE_snd (l : List Ent) (j : Nat) : (numE l j).map Prod.snd = l.take j := by
  unfold numE
  refine List.ext_getElem? fun i => ?_
  simp only [List.getElem?_map, List.getElem?_mapIdx]
  cases (l.take j)[i]? <;> rfl
def enV (x : Int × Ent) : Array Value := #[.int .i64 x.1, x.2.val]
theorem flatEP_snoc (pre : List (Int × Ent)) (x : Int × Ent) : flatE ((pre ++ [x]).map Prod.snd) = flatE (pre.map Prod.snd) ++ x.2.enc := by simp [flatE]
theorem infoEn : (Try.prog.info? 32).map (fun i => (i.zero, i.size, i.bytes)) = some (some Ent.zero.val, 6, 48) := by kernel_rfl
theorem cls_block {w : World} {A : Option Addr} {vs : List Value} {a : Addr} (h : Cls w A vs) (ha : A = some a) : vs = [] ∨ a.block < w.heap.size := by
  subst ha
  cases vs with
  | nil => exact .inl rfl
  | cons v vs =>
    obtain ⟨b, off, e, hc⟩ := h [] v vs rfl
    cases e
    exact .inr (World.block_lt_of_cell? _ _ hc)
theorem Cls.kpa {w w' : World} {A : Option Addr} {vs : List Value} {n₀ Bn : Nat} (h : Cls w A vs) (hA : ∀ a, A = some a → vs = [] ∨ a.block < n₀) (hk : KpA n₀ Bn w w') : Cls w' A vs := by
  intro pre v post e
  obtain ⟨b, off, hb, hc⟩ := h pre v post e
  refine ⟨b, off, hb, ?_⟩
  have := (hA _ hb).resolve_left (by rw [e]; simp)
  exact (World.cell?_of_block (hk.1.block b this)).trans hc

set_option maxRecDepth 100000 in
set_option maxHeartbeats 4000000 in
theorem Batch1_in (n : Nat) (hn : 1 ≤ n) (l Bn n₀ : Nat) (Ab : Option Addr) (cb m0 : Nat) (b : List Int) (hm0 : b.length = m0) (L : List Ent) (hL : L = bat b) (hbl : m0 ≤ 1000000) (hbc : m0 ≤ cb) (hb : ∀ x ∈ b, isB x) (hA : ∀ a, Ab = some a → ints .u8 b = [] ∨ a.block < n₀) (J Jx : List (Int × Ent) → World → Prop)
    (hJd : ∀ pre W W', J pre W → Ch No W W' → J pre W')
    (hY : ∀ pre x W, J pre W → pre.length < L.length → YieldAt Fence.wide (n - 1) Try.prog l (enV x) W fun e W' =>
      (e = .returned (.bool true) ∧ J (pre ++ [x]) W' ∧ KpA n₀ Bn W W') ∨ (e = .returned (.bool false) ∧ Jx (pre ++ [x]) W'))
    (W : World) (hn₀ : n₀ ≤ W.heap.size) (hBl : Bn < W.heap.size) (hBn : W.cell? ⟨Bn, 0, none⟩ = some (.slice Ab m0 cb)) (hc : Cls W Ab (ints .u8 b)) (h0 : J [] W) :
    CallsIn Fence.wide n Try.prog 67 #[.func (.yield l) #[] #[], .pointer (some ⟨Bn, 0, none⟩)] W fun e W' => (∃ v, e = .returned v) ∧
      ((∃ ys, ys = numE L L.length ∧ J ys W') ∨ (∃ pre, pre <+: numE L L.length ∧ Jx pre W')) := by
  refine callsIn_of_wp Try.func67 rfl trivial ?_ rfl
  simp only [Try.ntmps67, List.size_toArray, List.length_cons, List.length_nil, Nat.reduceAdd, Nat.reduceSub, Array.replicate_succ, Array.replicate_zero, List.push_toArray, List.append_toArray, List.nil_append, List.cons_append]
  have h00 : J (numE L 0) W := h0
  have HX := Lib.hid (And.intro hc (And.intro hb hA))
  clear hc hb hA
  have HM := Lib.hid hm0
  have HL0 : Hid (L.drop 0 = bat (b.drop (20 * 0))) := Lib.hid (by rw [hL]; rfl)
  have hlen : L.length * 20 ≤ m0 := by rw [hL, ← hm0]; exact bat_len b
  clear hm0 hL
  gi_wp2
  gi_loopw [3] (fun i wr => ∃ j : Nat, j ≤ L.length ∧ i = .int .i64 j ∧ Hid (L.drop j = bat (b.drop (20 * j))) ∧ Hid (J (numE L j) wr ∧ KpA n₀ Bn W wr)) (fun i _ => L.length - (intOf i).toNat)
  case atStart => exact ⟨0, by omega, rfl, HL0, Lib.hid ⟨h00, Below.refl _ _, rfl⟩⟩
  case round =>
    clear h00 HL0
    obtain ⟨j, hj, rfl, hd, hst⟩ := hrel
    have hBn1 : wr.cell? ⟨Bn, 0, none⟩ = some (.slice Ab m0 cb) := (World.cell?_of_block hst.out.2.2).trans hBn
    have hcl := HX.out.1.kpa HX.out.2.2 hst.out.2
    have hwl : n₀ ≤ wr.heap.size ∧ Bn < wr.heap.size := ⟨Nat.le_trans hn₀ hst.out.2.1.size, Nat.lt_of_lt_of_le hBl hst.out.2.1.size⟩
    obtain ⟨hwl1, hwl2⟩ := hwl
    by_cases hfit : 20 * (j + 1) ≤ m0
    · obtain ⟨ab, ao, hAb, _⟩ := hcl.get 0 (by rw [HM.out]; omega)
      subst hAb
      have hlx : ((b.drop (20 * j)).take 20).length = 20 := by rw [List.length_take, List.length_drop, HM.out]; omega
      have hrd := fun w' (hc' : Cls w' (some ⟨ab, ao + 20 * j, none⟩) (ints .u8 ((b.drop (20 * j)).take 20))) c' => ERead_any w' (some ⟨ab, ao + 20 * j, none⟩) c' ((b.drop (20 * j)).take 20) hc' (fun x hx => HX.out.2.1 x (List.mem_of_mem_drop (List.mem_of_mem_take hx)))
      rw [hlx] at hrd
      have hcx : Cls wr (some ⟨ab, ao + 20 * j, none⟩) (ints .u8 ((b.drop (20 * j)).take 20)) := by
        have h1 := (hcl.dropI (20 * j)).takeI 20
        rw [← ints_drop, ← ints_take] at h1
        simpa [addr_add] using h1
      have hj2 : IntKind.i64.wrap ((j : Int) * 20) = ((20 * j : Nat) : Int) := by rw [IntKind.wrap_i64]; omega
      have hj3 : IntKind.i64.wrap (((j : Int) + 1) * 20) = ((20 * j + 20 : Nat) : Int) := by rw [IntKind.wrap_i64]; omega
      have hne : ¬ cb = 20 * j := by omega
      have hl20 : Hid (20 ≤ (b.drop (20 * j)).length) := Lib.hid (by rw [List.length_drop, HM.out]; omega)
      obtain ⟨x, hx⟩ : ∃ x, (readE ((b.drop (20 * j)).take 20)).1 = x := ⟨_, rfl⟩
      obtain ⟨er, her⟩ : ∃ er, (readE ((b.drop (20 * j)).take 20)).2 = er := ⟨_, rfl⟩
      rw [hx, her] at hrd
      simp only [Ent.val] at hrd
      have HR := Lib.hid (And.intro (hrd wr hcx (cb - 20 * j)) (And.intro hx her))
      clear hrd hcx hx her hlx hcl
      gi_wp2
      refine ⟨trivial, ?_⟩
      refine (callsIn_wide.2 HR.out.1).mono ?_
      rintro e w1 ⟨rfl, h1⟩
      have hY1 : Ch No wr (w1.alloc (.cells x.enc.toArray 32)) := h1.alloc _
      have hbx : EBox (w1.alloc (.cells x.enc.toArray 32)) w1.heap.size x := (Blk.new w1 32 x.enc).ebox
      simp only [Ent.enc] at hY1 hbx
      have HJ := Lib.hid (And.intro (hJd _ _ _ hst.out.1 hY1) (hst.out.2.trans (KpA.of_no hY1 hwl1 hwl2)))
      obtain ⟨a0, a1, a2, a3, a4, a5⟩ := hbx
      clear h1 hY1
      by_cases he0 : er = 0
      · have hcons : L.drop j = x :: bat (b.drop (20 * (j + 1))) := by
          rw [hd.out, bat_cons hl20.out (by rw [HR.out.2.2, he0]), HR.out.2.1, List.drop_drop]
          rfl
        have hjl : j < L.length := by
          have := congrArg List.length hcons
          simp at this
          omega
        have hxl : L[j] = x := by
          have := List.drop_eq_getElem_cons hjl
          rw [hcons] at this
          exact (List.cons.inj this).1.symm
        have hd1 : Hid (L.drop (j + 1) = bat (b.drop (20 * (j + 1)))) := Lib.hid (by
          have := List.drop_eq_getElem_cons hjl
          rw [hcons] at this
          exact (List.cons.inj this).2.symm)
        have hsc := numE_succ L j hjl
        rw [hxl] at hsc
        have HSC := Lib.hid hsc
        have hjn : (numE L j).length < L.length := by rw [numE_len]; omega
        subst he0
        obtain ⟨fn, tmps, assign, body, hy, hR⟩ := hY _ ((j : Int), x) _ HJ.out.1 hjn
        simp only [enV, Ent.val] at hy
        clear hcons hxl hsc hjn
        gi_wp2
        refine hR.mono ?_
        rintro e W3 (⟨rfl, hJ3, hk3⟩ | ⟨rfl, hJx3⟩)
        · have HF : Hid (J (numE L (j + 1)) W3 ∧ KpA n₀ Bn W W3) := Lib.hid ⟨by rw [HSC.out]; exact hJ3, HJ.out.2.trans hk3⟩
          clear hJ3 hk3
          gi_wp2
          go_roundw
          case rel => exact ⟨j + 1, by omega, by go_num, hd1, HF⟩
          case measure => simp [intOf]; omega
        · gi_wp2
          refine bodyPost_ret (results_none rfl _ _ _) rfl ?_
          refine ⟨⟨_, rfl⟩, .inr ⟨_, ?_, hJx3⟩⟩
          rw [← HSC.out]
          exact numE_pre L (j + 1)
      · have hnil : bat (b.drop (20 * j)) = [] := bat_nil (fun h => he0 (by rw [← HR.out.2.2]; exact h.2))
        have hjl : j = L.length := by
          have := congrArg List.length (hd.out.trans hnil)
          simp at this
          omega
        have HF : Hid (J (numE L L.length) _) := Lib.hid (by rw [← hjl]; exact HJ.out.1)
        have he1 : 0 < er := by rw [← HR.out.2.2] at he0 ⊢; exact readE_pos he0
        clear hnil he0
        gi_wp2
        refine ⟨fun f h => (by cases h), ?_⟩
        gi_wp2
        refine bodyPost_ret (results_none rfl _ _ _) rfl ?_
        exact ⟨⟨_, rfl⟩, .inl ⟨_, rfl, HF.out⟩⟩
    · have hnil : bat (b.drop (20 * j)) = [] := bat_nil (fun h => hfit (by have := h.1; rw [List.length_drop, HM.out] at this; omega))
      have hjl : j = L.length := by
        have := congrArg List.length (hd.out.trans hnil)
        simp at this
        omega
      have HF : Hid (J (numE L L.length) wr) := Lib.hid (by rw [← hjl]; exact hst.out.1)
      have hfit2 : (m0 : Int) < ((j : Int) + 1) * 20 := by omega
      clear hnil hcl hfit
      gi_wp2
      go_end0
      exact ⟨⟨_, rfl⟩, .inl ⟨_, rfl, HF.out⟩⟩

theorem Batch_any (w : World) (A : Option Addr) (n c : Nat) : Calls Try.prog 51 #[.slice A n c] w fun e w' => e = .returned (.func (.func 67) #[] #[.pointer (some ⟨w.heap.size, 0, none⟩)]) ∧ w' = w.alloc (.cells #[.slice A n c] 58) := by
  go_enter Try.func51, Try.ntmps51
  go_wp2_with fail
  go_ret
  exact ⟨rfl, rfl⟩

theorem Batch_stops (n : Nat) (hn : 1 ≤ n) (Bn n₀ : Nat) (Ab : Option Addr) (cb m0 : Nat) (b : List Int) (hm0 : b.length = m0) (L : List Ent) (hL : L = bat b) (hbl : m0 ≤ 1000000) (hbc : m0 ≤ cb) (hb : ∀ x ∈ b, isB x) (hA : ∀ a, Ab = some a → ints .u8 b = [] ∨ a.block < n₀)
    (w : World) (hn₀ : n₀ ≤ w.heap.size) (hBn : w.cell? ⟨Bn, 0, none⟩ = some (.slice Ab m0 cb)) (hc : Cls w Ab (ints .u8 b)) :
    SeqStopsK Fence.wide n Try.prog 67 #[.pointer (some ⟨Bn, 0, none⟩)] enV (KpA n₀ Bn) (fun ys => ys = numE L L.length) (fun pre => pre <+: numE L L.length) L.length w :=
  fun l J Jx W hW hJa _ hY h0 => Batch1_in n hn l Bn n₀ Ab cb m0 b hm0 L hL hbl hbc hb hA J Jx (fun pre A C hj hc => hJa pre A C none hj ⟨hc.os, hc.tape, hc.output, hc.size, fun i hi _ => hc.block i hi (fun h => h)⟩ (fun r e => by cases e)) hY W (Nat.le_trans hn₀ hW.size) (Nat.lt_of_lt_of_le (World.block_lt_of_cell? _ _ hBn) hW.size)
    ((hW.cell (p := ⟨Bn, 0, none⟩) (World.block_lt_of_cell? _ _ hBn)).trans hBn) (hc.ch (Ch.of_below (S := No) hW) (fun _ _ h => h)) h0

/-- the number that comes last is not as it should be -/
def BadE (pre : List (Int × Ent)) : Prop := ∃ p x, pre = p ++ [x] ∧ ¬ x.1 = (p.length : Int)
theorem numE_good {L : List Ent} {pre : List (Int × Ent)} (h : pre <+: numE L L.length) : ¬ BadE pre := by
  rintro ⟨p, x, rfl, hx⟩
  obtain ⟨t, ht⟩ := h
  have h1 : (numE L L.length)[p.length]? = some x := by rw [← ht]; simp
  have hpl : p.length < (numE L L.length).length := (List.getElem?_eq_some_iff.1 h1).1
  rw [numE_len, Nat.min_self] at hpl
  unfold numE at h1
  rw [List.getElem?_mapIdx, List.take_length, List.getElem?_eq_getElem hpl] at h1
  simp only [Option.map_some, Option.some.injEq] at h1
  rw [← h1] at hx
  exact hx rfl

set_option maxRecDepth 100000 in
set_option maxHeartbeats 8000000 in
theorem batch_any (w : World) (Ab : Option Addr) (cb : Nat) (b : List Int) (h : Cls w Ab (ints .u8 b)) (hb : ∀ x ∈ b, isB x) (hbl : b.length ≤ 1000000) (hbc : b.length ≤ cb) (L : List Ent) (hL : L = bat b) (most : Int) :
    Calls Try.prog 33 #[.slice Ab b.length cb, .int .i64 most] w fun e w' => ∃ v, e = .returned (.tuple #[v, .bool true]) ∧ w'.ownsRow w.heap.size 32 6 v (L.take most.toNat).length (flatE (L.take most.toNat)) ∧ Ch No w w' := by
  refine callsIn_wide (n := 3) |>.1 ?_
  refine callsIn_of_wp_marks Try.func33 rfl trivial ?_ rfl
  simp only [Try.ntmps33, List.size_toArray, List.length_cons, List.length_nil, Nat.reduceAdd, Nat.reduceSub, Array.replicate_succ, Array.replicate_zero, List.push_toArray, List.append_toArray, List.nil_append, List.cons_append]
  have hl : L.length ≤ 1000000 := by rw [hL]; have := bat_len b; omega
  obtain ⟨m0, hm0⟩ : ∃ m, b.length = m := ⟨_, rfl⟩
  have HB := Lib.hid (And.intro h hb)
  clear h hb
  have HL := Lib.hid hL
  have HM := Lib.hid hm0
  rw [hm0] at hbl hbc ⊢
  clear hL hm0
  obtain ⟨i0, hi, hz0, hz1, hz2⟩ := info_parts infoEn
  by_cases hm : most ≤ 0
  · gi_wp2
    have q := World.ownsRow_lit (base := w.heap.size) (e := 32) (size := 6) (((w.alloc (.cells #[.int .i64 most] 3)).alloc (.cells #[.slice (some ⟨w.heap.size + 1 + 1 + 1, 0, none⟩) 0 0] 45)).alloc (.cells #[.bool true] 4)) #[] 0 (by simp; omega) (by simp) rfl
    have q2 := q.alloc (.cells #[.slice (some ⟨w.heap.size + 1 + 1 + 1, 0, none⟩) 0 0] 45)
    refine ⟨.tuple #[.slice (some ⟨w.heap.size + 1 + 1 + 1, 0, none⟩) 0 0, .bool true], by simp [results, Try.f33, go_sem], _, rfl, by rw [show most.toNat = 0 from by omega]; simpa [flatE] using q2, (((((Ch.refl No w).alloc _).alloc _).alloc _).alloc _).alloc _⟩
  · gi_wp2
    refine ⟨trivial, ?_⟩
    refine (callsIn_wide.2 (Batch_any _ _ _ _)).mono ?_
    rintro e w1 ⟨rfl, rfl⟩
    gi_wp2
    have bM : Boxed ((((((w.alloc (.cells #[.int .i64 most] 3)).alloc (.cells #[.slice none 0 0] 45)).alloc (.cells #[.bool false] 4)).alloc (.cells #[] 32)).alloc (.cells #[.slice (some ⟨w.heap.size + 1 + 1 + 1, 0, none⟩) 0 0] 45)).alloc (.cells #[.slice Ab m0 cb] 58)) w.heap.size 3 (.int .i64 most) := (((((Boxed.new w _ _).alloc _).alloc _).alloc _).alloc _).alloc _
    have bR : Boxed ((((((w.alloc (.cells #[.int .i64 most] 3)).alloc (.cells #[.slice none 0 0] 45)).alloc (.cells #[.bool false] 4)).alloc (.cells #[] 32)).alloc (.cells #[.slice (some ⟨w.heap.size + 1 + 1 + 1, 0, none⟩) 0 0] 45)).alloc (.cells #[.slice Ab m0 cb] 58)) (w.heap.size + 1) 45 (.slice none 0 0) := by
      have := ((((Boxed.new (w.alloc (.cells #[.int .i64 most] 3)) 45 (.slice none 0 0)).alloc (.cells #[.bool false] 4)).alloc (.cells #[] 32)).alloc (.cells #[.slice (some ⟨w.heap.size + 1 + 1 + 1, 0, none⟩) 0 0] 45)).alloc (.cells #[.slice Ab m0 cb] 58)
      simpa using this
    have bT : Boxed ((((((w.alloc (.cells #[.int .i64 most] 3)).alloc (.cells #[.slice none 0 0] 45)).alloc (.cells #[.bool false] 4)).alloc (.cells #[] 32)).alloc (.cells #[.slice (some ⟨w.heap.size + 1 + 1 + 1, 0, none⟩) 0 0] 45)).alloc (.cells #[.slice Ab m0 cb] 58)) (w.heap.size + 1 + 1) 4 (.bool false) := by
      have := (((Boxed.new ((w.alloc (.cells #[.int .i64 most] 3)).alloc (.cells #[.slice none 0 0] 45)) 4 (.bool false)).alloc (.cells #[] 32)).alloc (.cells #[.slice (some ⟨w.heap.size + 1 + 1 + 1, 0, none⟩) 0 0] 45)).alloc (.cells #[.slice Ab m0 cb] 58)
      simpa using this
    have bO : Boxed ((((((w.alloc (.cells #[.int .i64 most] 3)).alloc (.cells #[.slice none 0 0] 45)).alloc (.cells #[.bool false] 4)).alloc (.cells #[] 32)).alloc (.cells #[.slice (some ⟨w.heap.size + 1 + 1 + 1, 0, none⟩) 0 0] 45)).alloc (.cells #[.slice Ab m0 cb] 58)) (w.heap.size + 1 + 1 + 1 + 1) 45 (.slice (some ⟨w.heap.size + 1 + 1 + 1, 0, none⟩) 0 0) := by
      have := (Boxed.new ((((w.alloc (.cells #[.int .i64 most] 3)).alloc (.cells #[.slice none 0 0] 45)).alloc (.cells #[.bool false] 4)).alloc (.cells #[] 32)) 45 (.slice (some ⟨w.heap.size + 1 + 1 + 1, 0, none⟩) 0 0)).alloc (.cells #[.slice Ab m0 cb] 58)
      simpa using this
    have bX : Boxed ((((((w.alloc (.cells #[.int .i64 most] 3)).alloc (.cells #[.slice none 0 0] 45)).alloc (.cells #[.bool false] 4)).alloc (.cells #[] 32)).alloc (.cells #[.slice (some ⟨w.heap.size + 1 + 1 + 1, 0, none⟩) 0 0] 45)).alloc (.cells #[.slice Ab m0 cb] 58)) (w.heap.size + 1 + 1 + 1 + 1 + 1) 58 (.slice Ab m0 cb) := by
      have := Boxed.new (((((w.alloc (.cells #[.int .i64 most] 3)).alloc (.cells #[.slice none 0 0] 45)).alloc (.cells #[.bool false] 4)).alloc (.cells #[] 32)).alloc (.cells #[.slice (some ⟨w.heap.size + 1 + 1 + 1, 0, none⟩) 0 0] 45)) 58 (.slice Ab m0 cb)
      simpa using this
    have rO : ((((((w.alloc (.cells #[.int .i64 most] 3)).alloc (.cells #[.slice none 0 0] 45)).alloc (.cells #[.bool false] 4)).alloc (.cells #[] 32)).alloc (.cells #[.slice (some ⟨w.heap.size + 1 + 1 + 1, 0, none⟩) 0 0] 45)).alloc (.cells #[.slice Ab m0 cb] 58)).ownsRow (w.heap.size + 3) 32 6 (.slice (some ⟨w.heap.size + 1 + 1 + 1, 0, none⟩) 0 0) 0 [] := by
      have q := World.ownsRow_lit (base := w.heap.size + 3) (e := 32) (size := 6) (((w.alloc (.cells #[.int .i64 most] 3)).alloc (.cells #[.slice none 0 0] 45)).alloc (.cells #[.bool false] 4)) #[] 0 (by simp) (by simp) rfl
      have q2 := (q.alloc (.cells #[.slice (some ⟨w.heap.size + 1 + 1 + 1, 0, none⟩) 0 0] 45)).alloc (.cells #[.slice Ab m0 cb] 58)
      simpa using q2
    have C5 : Ch No w ((((((w.alloc (.cells #[.int .i64 most] 3)).alloc (.cells #[.slice none 0 0] 45)).alloc (.cells #[.bool false] 4)).alloc (.cells #[] 32)).alloc (.cells #[.slice (some ⟨w.heap.size + 1 + 1 + 1, 0, none⟩) 0 0] 45)).alloc (.cells #[.slice Ab m0 cb] 58)) := ((((((Ch.refl No w).alloc _).alloc _).alloc _).alloc _).alloc _).alloc _
    have z5 : ((((((w.alloc (.cells #[.int .i64 most] 3)).alloc (.cells #[.slice none 0 0] 45)).alloc (.cells #[.bool false] 4)).alloc (.cells #[] 32)).alloc (.cells #[.slice (some ⟨w.heap.size + 1 + 1 + 1, 0, none⟩) 0 0] 45)).alloc (.cells #[.slice Ab m0 cb] 58)).heap.size = w.heap.size + 6 := by simp
    generalize ((((((w.alloc (.cells #[.int .i64 most] 3)).alloc (.cells #[.slice none 0 0] 45)).alloc (.cells #[.bool false] 4)).alloc (.cells #[] 32)).alloc (.cells #[.slice (some ⟨w.heap.size + 1 + 1 + 1, 0, none⟩) 0 0] 45)).alloc (.cells #[.slice Ab m0 cb] 58)) = w5 at *
    refine wpIn_rangeFunc_ownH (w0 := w5) rfl (by omega) (gf := 67) (lb := #[.pointer (some ⟨w.heap.size + 1 + 1 + 1 + 1 + 1, 0, none⟩)]) rfl trivial (enters_of Try.func67 (by kernel_rfl) rfl)
      (Batch_stops 2 (by omega) (w.heap.size + 1 + 1 + 1 + 1 + 1) w.heap.size Ab cb m0 b HM.out L HL.out hbl hbc HB.out.2 (fun a ha => cls_block HB.out.1 ha) w5 (by omega) bX.cell (HB.out.1.ch C5 (fun _ _ h => h))) KpA.trans (KpA.bk (by omega) (by omega)) (Below.refl _ _) (fun _ => rfl)
      (fun (pre : List (Int × Ent)) W => (∃ v, Boxed W (w.heap.size + 1 + 1 + 1 + 1) 45 v ∧ W.ownsRow (w.heap.size + 3) 32 6 v pre.length (flatE (pre.map Prod.snd)) ∧ True) ∧ (Boxed W w.heap.size 3 (.int .i64 most) ∧ Boxed W (w.heap.size + 1) 45 (.slice none 0 0) ∧ Boxed W (w.heap.size + 1 + 1) 4 (.bool false) ∧ Boxed W (w.heap.size + 1 + 1 + 1 + 1 + 1) 58 (.slice Ab m0 cb)) ∧ (pre.length : Int) < most ∧ Below w.heap.size w W)
      (fun c (pre : List (Int × Ent)) W => c = .ret ∧ (((∃ v, Boxed W (w.heap.size + 1) 45 v ∧ W.ownsRow (w.heap.size + 3) 32 6 v pre.length (flatE (pre.map Prod.snd)) ∧ True) ∧ Boxed W (w.heap.size + 1 + 1) 4 (.bool true) ∧ (pre.length : Int) = most ∧ Below w.heap.size w W) ∨ BadE pre))
      (OwnFrom.and (Own.from (holdsRow_own _ _ _ _ 6 (fun pre : List (Int × Ent) => pre.length) (fun pre : List (Int × Ent) => flatE (pre.map Prod.snd)) (fun (_ : List (Int × Ent)) _ => True)) _) (OwnFrom.and (OwnFrom.and (Own.from (boxed_own _ _ (fun _ : List (Int × Ent) => _)) _) (OwnFrom.and (Own.from (boxed_own _ _ (fun _ : List (Int × Ent) => _)) _) (OwnFrom.and (Own.from (boxed_own _ _ (fun _ : List (Int × Ent) => _)) _) (Own.from (boxed_own _ _ (fun _ : List (Int × Ent) => _)) _)))) (OwnFrom.and (ownFrom_pure _ (fun pre : List (Int × Ent) => ((pre.length : Nat) : Int) < most)) (ownFrom_below (Nat.le_refl _) (by omega)))))
      (fun c => fun s X Y row hs hg hr => ⟨hs.1, hs.2.imp (fun hq => (OwnFrom.and (Own.from (holdsRow_own _ _ _ _ 6 (fun pre : List (Int × Ent) => pre.length) (fun pre : List (Int × Ent) => flatE (pre.map Prod.snd)) (fun (_ : List (Int × Ent)) _ => True)) _) (OwnFrom.and (Own.from (boxed_own _ _ (fun _ : List (Int × Ent) => _)) _) (OwnFrom.and (ownFrom_pure _ (fun pre : List (Int × Ent) => ((pre.length : Nat) : Int) = most)) (ownFrom_below (Nat.le_refl _) (by omega))))) s X Y row hq hg hr) id⟩)
      ⟨⟨_, bO, rO, trivial⟩, ⟨bM, bR, bT, bX⟩, by simp; omega, C5.same⟩
      (fun x a' W => ∃ Lx, Blk W Lx 32 x.2.enc ∧ a' = { tmps := #[.slice Ab m0 cb, .int .i64 most, undef, .pointer (some ⟨w.heap.size, 0, none⟩), .pointer (some ⟨w.heap.size + 1, 0, none⟩), .pointer (some ⟨w.heap.size + 1 + 1, 0, none⟩), .pointer (some ⟨w.heap.size + 1 + 1 + 1 + 1, 0, none⟩), .int .i64 x.1, .pointer (some ⟨Lx, 0, none⟩), .slice (some ⟨w.heap.size + 1 + 1 + 1, 0, none⟩) 0 0, .int .i64 most, .bool false, undef, .slice Ab m0 cb, .func (.func 67) #[] #[.pointer (some ⟨w.heap.size + 1 + 1 + 1 + 1 + 1, 0, none⟩)], .int .i64 x.1, x.2.val, undef, undef, undef, undef, undef, undef, undef, undef, undef, undef, undef, undef, undef, undef], defers := [] })
      (fun x a' _ X Y row hs hg hr => by obtain ⟨Lx, h1, h2⟩ := hs; exact ⟨Lx, blk_own h1 hg (fun r e => (hr r e).2), h2⟩)
      ?assign ?body ?done ?stop
    case assign =>
      rintro l pre x W K ⟨⟨v, hv, hrow, _⟩, ⟨h3, h4, h5, hx⟩, hlen, hB⟩ hK
      have hI : ((∃ v, Boxed (W.alloc (.cells x.2.enc.toArray 32)) (w.heap.size + 1 + 1 + 1 + 1) 45 v ∧ (W.alloc (.cells x.2.enc.toArray 32)).ownsRow (w.heap.size + 3) 32 6 v pre.length (flatE (pre.map Prod.snd)) ∧ True) ∧ (Boxed (W.alloc (.cells x.2.enc.toArray 32)) w.heap.size 3 (.int .i64 most) ∧ Boxed (W.alloc (.cells x.2.enc.toArray 32)) (w.heap.size + 1) 45 (.slice none 0 0) ∧ Boxed (W.alloc (.cells x.2.enc.toArray 32)) (w.heap.size + 1 + 1) 4 (.bool false) ∧ Boxed (W.alloc (.cells x.2.enc.toArray 32)) (w.heap.size + 1 + 1 + 1 + 1 + 1) 58 (.slice Ab m0 cb)) ∧ (pre.length : Int) < most ∧ Below w.heap.size w (W.alloc (.cells x.2.enc.toArray 32))) := ⟨⟨v, hv.alloc _, hrow.alloc _, trivial⟩, ⟨h3.alloc _, h4.alloc _, h5.alloc _, hx.alloc _⟩, hlen, hB.alloc hB.size _⟩
      have hKp : KpA w.heap.size (w.heap.size + 1 + 1 + 1 + 1 + 1) W (W.alloc (.cells x.2.enc.toArray 32)) := KpA.of_no ((Ch.refl No W).alloc _) hB.size hx.lt
      simp only [enV, Ent.val]
      gi_wp2
      exact hK _ _ ((KeepsOthers.alloc _ _).from _) hKp hI ⟨W.heap.size, Blk.new W _ _, rfl⟩
    case body =>
      rintro l pre ⟨x1, x2⟩ a' W hl' ⟨r, hr⟩ ⟨⟨v, hv, hrow, _⟩, ⟨h3, h4, h5, hx⟩, hlen, hB⟩ ⟨Lx, hLx, rfl⟩ hlt'
      simp only at hLx ⊢
      obtain ⟨Av, cv, rfl⟩ := row_shape hrow
      have hc := hv.cell
      have hsz : w.heap.size + 6 ≤ W.heap.size := by have := hx.lt; omega
      have k0 := hLx.cell 0
      have k1 := hLx.cell 1
      have k2 := hLx.cell 2
      have k3 := hLx.cell 3
      have k4 := hLx.cell 4
      have k5 := hLx.cell 5
      simp only [Ent.enc, List.getElem?_cons_zero, List.getElem?_cons_succ] at k0 k1 k2 k3 k4 k5
      have hn3 := h3.not_row (e := 32) (by decide) hrow
      have hn4 := h4.not_row (e := 32) (by decide) hrow
      have hn5 := h5.not_row (e := 32) (by decide) hrow
      have hnx := hx.not_row (e := 32) (by decide) hrow
      have hpm : pre.length < 1000000 := by omega
      obtain ⟨m, hmm⟩ : ∃ m : Nat, most = m := ⟨most.toNat, by omega⟩
      subst hmm
      by_cases hup : x1 = (pre.length : Int)
      · subst hup
        by_cases he : pre.length + 1 = m
        · gi_wp2_with (gi_at_builtin; refine wpListIn_append_own _ rfl _ _ 45 rfl (w.heap.size + 3) 32 i0 Ent.zero.val 6 48 Try.underlying45 hi hz0 hz1 hz2 rfl (by decide) _ _ _ rfl (hrow.alloc _) ⟨W.heap.size, 0, none⟩ 1 1 x2.enc rfl rfl (cells_new _ x2.enc _) (by simp [Ent.enc, Value.oneCell']) (by simp [maxLen]; omega) (by omega) (by simp; omega) ?_; intro v' w1 hown' hgrow _; obtain ⟨g', cap', rfl⟩ := ownsRow_succ hown'; obtain ⟨hv1, hv2, hr2, hk2, hb2⟩ := hv.appended (by decide) hrow (by omega) (by omega) hown' hgrow; have hc1 := hv1.cell; have hf1 := hv1.frozen; have h3w := ((h3.alloc _).kept hgrow hn3); have h4w := ((h4.alloc _).kept hgrow hn4); have h5w := ((h5.alloc _).kept hgrow hn5); have c3 := h3w.cell; have hxw := ((hx.alloc _).kept hgrow hnx); have f4 := h4w.frozen; have c4 := h4w.cell; have f5 := h5w.frozen; have c5 := h5w.cell)
          have hb3 := hb2.mono (show w.heap.size ≤ w.heap.size + 3 by omega)
          have hg2 : w.heap.size + 3 ≤ g' := (hr2.lt g' rfl).1
          rw [he] at hk2 hb3 hr2
          refine ⟨((hk2.trans (KeepsOthers.setCell _ _ _)).trans (KeepsOthers.setCell _ _ _)).from _, rfl, .inl ⟨⟨_, ((h4w.other (by omega) _).set _).other (by omega) _, ?_, trivial⟩, ((h5w.other (by omega) _).other (by omega) _).set _, by simp; omega, ((hB.trans hb3).setCell (p := ⟨w.heap.size + 1, 0, none⟩) (by simp) _).setCell (p := ⟨w.heap.size + 1 + 1, 0, none⟩) (by simp; omega) _⟩⟩
          have q := (hr2.kept (grownBy_setCell' _ (w.heap.size + 1) (.slice (some ⟨g', 0, none⟩) m cap')) (.inr (by simp [Value.ownBlock]; omega))).kept (grownBy_setCell' _ (w.heap.size + 1 + 1) (.bool true)) (.inr (by simp [Value.ownBlock]; omega))
          rw [flatEP_snoc]
          simpa [he] using q
        · gi_wp2_with (gi_at_builtin; refine wpListIn_append_own _ rfl _ _ 45 rfl (w.heap.size + 3) 32 i0 Ent.zero.val 6 48 Try.underlying45 hi hz0 hz1 hz2 rfl (by decide) _ _ _ rfl (hrow.alloc _) ⟨W.heap.size, 0, none⟩ 1 1 x2.enc rfl rfl (cells_new _ x2.enc _) (by simp [Ent.enc, Value.oneCell']) (by simp [maxLen]; omega) (by omega) (by simp; omega) ?_; intro v' w1 hown' hgrow _; obtain ⟨g', cap', rfl⟩ := ownsRow_succ hown'; obtain ⟨hv1, hv2, hr2, hk2, hb2⟩ := hv.appended (by decide) hrow (by omega) (by omega) hown' hgrow; have hc1 := hv1.cell; have hf1 := hv1.frozen; have h3w := ((h3.alloc _).kept hgrow hn3); have h4w := ((h4.alloc _).kept hgrow hn4); have h5w := ((h5.alloc _).kept hgrow hn5); have c3 := h3w.cell; have hxw := ((hx.alloc _).kept hgrow hnx); have f4 := h4w.frozen; have c4 := h4w.cell; have f5 := h5w.frozen; have c5 := h5w.cell)
          have hb3 := hb2.mono (show w.heap.size ≤ w.heap.size + 3 by omega)
          have hg2 : w.heap.size + 3 ≤ g' := (hr2.lt g' rfl).1
          have hxw2 := hxw.other (B' := w.heap.size + 1 + 1 + 1 + 1) (by omega) (.slice (some ⟨g', 0, none⟩) (pre.length + 1) cap')
          refine ⟨hk2.from _, ⟨hb3, Eq.trans hxw2 (Eq.symm hx)⟩, ⟨_, hv2, by rw [flatEP_snoc]; simpa using hr2, trivial⟩, ⟨h3w.other (by omega) _, h4w.other (by omega) _, h5w.other (by omega) _, hxw2⟩, by simp; omega, hB.trans hb3⟩
      · have hub : (x1 == (pre.length : Int)) = false := by simpa using hup
        have HU := Lib.hid hup
        have c4 := h4.cell
        have f4 := h4.frozen
        have c5 := h5.cell
        have f5 := h5.frozen
        clear hup
        gi_wp2
        exact ⟨((KeepsOthers.setCell _ _ _).trans (KeepsOthers.setCell _ _ _)).from _, rfl, .inr ⟨pre, (x1, x2), rfl, HU.out⟩⟩
    case done =>
      rintro D ys W hD rfl ⟨⟨v, hv, hrow, _⟩, ⟨h3, h4, h5, hx⟩, hlen, hB⟩ hK
      obtain ⟨Av, cv, rfl⟩ := row_shape hrow
      rw [numE_snd, List.take_length] at hrow
      have hnl : (numE L L.length).length = L.length := by simp
      rw [hnl] at hrow hv hlen
      have hc := hv.cell
      have f4 := h4.frozen
      have c4 := h4.cell
      have f5 := h5.frozen
      have c5 := h5.cell
      gi_wp2
      refine ⟨by simp, .inl ⟨_, _, rfl, run_takeDeferred (((KeepsOthers.setCell _ _ _).trans (KeepsOthers.setCell _ _ _)).same D _ hK rfl), ?_⟩⟩
      have hv4 := (h4.set (.slice Av L.length cv)).other (B' := w.heap.size + 1 + 1) (by omega) (.bool true)
      have hv5 := (h5.other (B' := w.heap.size + 1) (by omega) (.slice Av L.length cv)).set (.bool true)
      have hK4 := ((KeepsOthers.setCell W ⟨w.heap.size + 1, 0, none⟩ (.slice Av L.length cv)).trans (KeepsOthers.setCell _ ⟨w.heap.size + 1 + 1, 0, none⟩ (.bool true))).same D _ hK rfl
      have hc5 := cell_kept hv4.cell (grownBy_putObj' _ D (.deferred none)) (fun r e => by cases e; exact ⟨_, hK4, rfl⟩)
      have hc6 := cell_kept hv5.cell (grownBy_putObj' _ D (.deferred none)) (fun r e => by cases e; exact ⟨_, hK4, rfl⟩)
      have ht : L.take most.toNat = L := List.take_of_length_le (by omega)
      have hr4 := (hrow.kept (grownBy_setCell' W (w.heap.size + 1) (.slice Av L.length cv)) (.inr (fun e => by have := (hrow.lt _ e).1; omega))).kept (grownBy_setCell' _ (w.heap.size + 1 + 1) (.bool true)) (.inr (fun e => by have := (hrow.lt _ e).1; omega))
      refine ⟨.tuple #[.slice Av L.length cv, .bool true], by simp [results, Try.f33, go_sem, hc5, hc6], _, rfl, ?_, Ch.of_below (((hB.setCell (p := ⟨w.heap.size + 1, 0, none⟩) (by simp) _).setCell (p := ⟨w.heap.size + 1 + 1, 0, none⟩) (by simp; omega) _).trans (belowK_b (w := w) (Nat.le_refl _) _ D _ _ (by omega) hK4 rfl rfl))⟩
      rw [ht]
      have q := ownsRow_putObj hr4 (.deferred none) hK4 rfl
      exact rowN_lower q (by omega)
    case stop =>
      rintro D c pre W hD hpre ⟨rfl, hor⟩ hK
      obtain ⟨⟨v, hv, hrow, _⟩, h5, hlen, hB⟩ := hor.resolve_right (numE_good hpre)
      gi_wp2
      refine ⟨by simp, .inl ⟨_, _, rfl, run_takeDeferred hK, ?_⟩⟩
      have hc5 := cell_kept hv.cell (grownBy_putObj' _ D (.deferred none)) (fun r e => by cases e; exact ⟨_, hK, rfl⟩)
      have hc6 := cell_kept h5.cell (grownBy_putObj' _ D (.deferred none)) (fun r e => by cases e; exact ⟨_, hK, rfl⟩)
      have ht : L.take most.toNat = pre.map Prod.snd := by
        obtain ⟨t, ht⟩ := hpre
        have h1 := numE_snd L L.length
        rw [← ht, List.take_length, List.map_append] at h1
        rw [← h1, show most.toNat = (pre.map Prod.snd).length from by simp; omega, List.take_left']
        rfl
      refine ⟨.tuple #[v, .bool true], by simp [results, Try.f33, go_sem, hc5, hc6], v, rfl, ?_, Ch.of_below (hB.trans (belowK_b (w := w) (Nat.le_refl _) W D _ _ (by omega) hK rfl rfl))⟩
      rw [ht, List.length_map]
      have q := ownsRow_putObj hrow (.deferred none) hK rfl
      exact rowN_lower q (by omega)
end Go.Proofs.Ytflpelacjdnplaa
