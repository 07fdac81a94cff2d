/- reply.Rows and the law's rows once more: no two rows lie in one block, and all lie in new ones. -/
import Derived.Test.YtpjcfelknkddfaaRngF
import Derived.Test.YtpjcfelknkddfaaRepRowsL
namespace Go.Proofs.Ytpjcfelknkddfaa
open Go.RowKit Go.Shelf

attribute [local go_sem] Oper.semAt_some

/-- a row that was made behind V -/
def FrL (V : World) (x : Lng) : Prop := ∀ a, x.A = some a → ∃ b, a = ⟨b, 0, none⟩ ∧ V.heap.size ≤ b
theorem OwnS.frL {w V : World} {n c : Nat} {A : Option Addr} {xx : List Int} {vs : List Value} (h : OwnS w V.drew.heap.size 2 (.slice A n c) vs) : FrL V ⟨A, c, xx⟩ := by
  rintro a ha
  rcases h.2 with ⟨h0, _⟩ | ⟨g, _, cs, h0, hb, hg, _⟩
  · cases h0
    cases ha
  · have e1 : A = some ⟨g, 0, none⟩ := by simpa using (Value.slice.inj h0).1
    have e2 : a = ⟨g, 0, none⟩ := by
      rw [show (⟨A, c, xx⟩ : Lng).A = A from rfl, e1] at ha
      exact (Option.some.inj ha).symm
    exact ⟨g, e2, hb⟩
/-- rows that lie in new blocks, each in its own -/
structure Apart (B : Nat) (ps : List Lng) : Prop where
  new : ∀ p ∈ ps, ∀ a, p.A = some a → ∃ b, a = ⟨b, 0, none⟩ ∧ B ≤ b
  own : ps.Pairwise fun p q => ∀ a b, p.A = some a → q.A = some b → a.block < b.block
theorem Apart.nil {B : Nat} : Apart B [] := ⟨fun _ h => (nomatch h), .nil⟩
theorem LngR.lt {p : Lng} {W : World} (h : LngR p W) {a : Addr} (ha : p.A = some a) : a.block < W.heap.size := by
  obtain ⟨cs, hc⟩ := h.2.1 a ha
  exact (Array.getElem?_eq_some_iff.1 hc).1
theorem Apart.snoc {B : Nat} {V : World} {pre : List Lng} {x : Lng} (h : Apart B pre) (hB : B ≤ V.heap.size) (hp : ∀ p ∈ pre, LngR p V) (hx : FrL V x) : Apart B (pre ++ [x]) := by
  refine ⟨fun p hm a ha => ?_, ?_⟩
  · rcases List.mem_append.1 hm with hm | hm
    · exact h.new p hm a ha
    · rw [show p = x from by simpa using hm] at ha
      obtain ⟨b, e, hb⟩ := hx a ha
      exact ⟨b, e, Nat.le_trans hB hb⟩
  · refine List.pairwise_append.2 ⟨h.own, List.pairwise_singleton _ _, fun p hm q hq a b ha hb => ?_⟩
    rw [show q = x from by simpa using hq] at hb
    obtain ⟨b', rfl, hb'⟩ := hx b hb
    exact Nat.lt_of_lt_of_le ((hp p hm).lt ha) hb'

set_option maxRecDepth 100000 in
set_option maxHeartbeats 8000000 in
theorem Rows1_inD (n : Nat) (hn : 3 ≤ n) (l Br Bw n₀ : Nat) (xs : List Int) (A : Option Addr) (c : Nat) (wd : Int) (z : Nat) (hz : 1 ≤ z) (hzw : (z : Int) = max wd 1) (hzm : z ≤ 9223372036854775807) (hc : xs.length ≤ c) (hl : xs.length ≤ 1000000) (hA : xs ≠ [] → ∀ a, A = some a → a.block < n₀) (J Jx : List Lng → World → Prop)
    (W : World) (hJ : OwnFrom W.heap.size J) (hJx : OwnFrom W.heap.size Jx)
    (hY : ∀ pre x W1, J pre W1 → (LngR x W1 ∧ W.heap.size + 3 ≤ W1.heap.size) → pre.length < (chks z xs).length → (∃ V, J pre V ∧ FrL V x) → YieldAt Fence.wide (n - 1) Try.prog l #[Lng.enc x] W1 fun e W' =>
      (e = .returned (.bool true) ∧ J (pre ++ [x]) W' ∧ KpR n₀ W.heap.size W1 W' ∧ KeepsFrom W.heap.size W1 W') ∨ (e = .returned (.bool false) ∧ Jx (pre ++ [x]) W' ∧ KeepsFrom W.heap.size W1 W'))
    (hn₀ : n₀ ≤ W.heap.size) (hBr : W.cell? ⟨Br, 1, none⟩ = some (.slice A xs.length c)) (hBw : W.cell? ⟨Bw, 0, none⟩ = some (.int .i64 wd)) (hx : Cls W A (ints .i64 xs)) (h0 : J [] W) :
    CallsIn Fence.wide n Try.prog 41 #[.func (.yield l) #[] #[], .pointer (some ⟨Br, 0, none⟩), .pointer (some ⟨Bw, 0, none⟩)] W fun e W' => (∃ v, e = .returned v) ∧
      ((∃ ys, ys.map (·.xs) = chks z xs ∧ J ys W') ∨ (∃ pre, pre.map (·.xs) <+: chks z xs ∧ Jx pre W')) := by
  refine callsIn_of_wp_marks Try.func41 rfl trivial ?_ rfl
  simp only [Try.ntmps41, List.size_toArray, List.length_cons, List.length_nil, Nat.reduceAdd, Nat.reduceSub, Array.replicate_succ, Array.replicate_zero, List.push_toArray, List.append_toArray, List.nil_append, List.cons_append]
  have hmax : ∀ (ts : Array TypeId) (t : TypeId) (w : World), (Builtin.max_ ts t #[.int .i64 wd, .int .i64 1]).run Try.prog w = .ok (.int .i64 z) w := fun ts t w => by
    rw [hzw]
    simp [Builtin.max_, Builtin.max2]
    split <;> omega
  have HX := Lib.hid (And.intro hx (And.intro h0 hA))
  clear hx h0 hA hzw
  have hBr2 := cell_al (.cells #[.func (.yield l) #[] #[]] 84) hBr
  have hBw2 := cell_al (.cells #[.func (.yield l) #[] #[]] 84) hBw
  gi_wp2
  refine ⟨trivial, ?_⟩
  refine ⟨fun _ => by omega, ?_⟩
  refine (callsIn_wide.2 (Chunk_any _ _ _ _ _ hz hzm)).mono ?_
  rintro e w1 ⟨rfl, rfl⟩
  have C3 : Ch No W (((W.alloc (.cells #[.func (.yield l) #[] #[]] 84)).alloc (.cells #[.slice A xs.length c] 22)).alloc (.cells #[.int .i64 z] 3)) := (((Ch.refl No W).alloc _).alloc _).alloc _
  have z3 : (((W.alloc (.cells #[.func (.yield l) #[] #[]] 84)).alloc (.cells #[.slice A xs.length c] 22)).alloc (.cells #[.int .i64 z] 3)).heap.size = W.heap.size + 3 := by simp
  have y0 : (((W.alloc (.cells #[.func (.yield l) #[] #[]] 84)).alloc (.cells #[.slice A xs.length c] 22)).alloc (.cells #[.int .i64 z] 3)).cell? ⟨W.heap.size, 0, none⟩ = some (.func (.yield l) #[] #[]) := cell_al _ (cell_al _ (by simp))
  have y1 : (((W.alloc (.cells #[.func (.yield l) #[] #[]] 84)).alloc (.cells #[.slice A xs.length c] 22)).alloc (.cells #[.int .i64 z] 3)).cell? ⟨W.heap.size + 1, 0, none⟩ = some (.slice A xs.length c) := cell_al _ (cell_nw (by simp) (by simp))
  have y2 : (((W.alloc (.cells #[.func (.yield l) #[] #[]] 84)).alloc (.cells #[.slice A xs.length c] 22)).alloc (.cells #[.int .i64 z] 3)).cell? ⟨W.heap.size + 1 + 1, 0, none⟩ = some (.int .i64 z) := cell_nw (by simp) (by simp)
  gi_wp2
  generalize (((W.alloc (.cells #[.func (.yield l) #[] #[]] 84)).alloc (.cells #[.slice A xs.length c] 22)).alloc (.cells #[.int .i64 z] 3)) = w3 at *
  have J0 : J [] w3 := hJ _ _ _ none HX.out.2.1 ⟨C3.os, C3.tape, C3.output, C3.size, fun i hi _ => C3.block i hi (fun h => h)⟩ (fun r e => by cases e)
  have HY := Lib.hid hY
  have HJ := Lib.hid (And.intro hJ hJx)
  have hn3 : n₀ ≤ w3.heap.size := by omega
  have hx3 := HX.out.1.ch C3 (fun _ _ h => h)
  clear hY hJ hJx hBr hBw hBr2 hBw2 hmax
  refine range_R (w0 := w3) rfl (by omega) (gf := 49) (lb := #[.pointer (some ⟨W.heap.size + 1, 0, none⟩), .pointer (some ⟨W.heap.size + 1 + 1, 0, none⟩)]) rfl trivial (enters_of Try.func49 (by kernel_rfl) rfl)
    (Chunk_seq (n - 1) (by omega) (W.heap.size + 1) (W.heap.size + 1 + 1) n₀ xs A c z hz hzm hc hl HX.out.2.2 w3 hn3 y1 y2 hx3)
    KpC.trans (fun V o o' ho h1 h2 => ⟨belowK_b (w := w3) hn3 V _ o o' (by omega) ho h1 h2, World.putObj_heap_other (by omega), World.putObj_heap_other (by omega)⟩) (Below.refl _ _) (fun _ => rfl)
    (fun (pre : List Lng) V => ∃ qs : List Lng, qs.map (·.xs) = pre.map (·.xs) ∧ J qs V ∧ w3.heap.size ≤ V.heap.size ∧ ∀ k, W.heap.size ≤ k → k < W.heap.size + 3 → V.heap[k]? = w3.heap[k]?)
    (fun cc (pre : List Lng) V => cc = .ret ∧ ∃ qs : List Lng, qs.map (·.xs) = pre.map (·.xs) ∧ Jx qs V)
    ?own ?ownx (fun x => OwnFrom.and (Own.from (cls_own (fun _ : Unit => x.A) (fun _ => ints .i64 x.xs)) _) (ownFrom_pure _ (fun _ : Unit => x.xs.length ≤ 1000000)))
    ⟨[], rfl, (by exact J0), Nat.le_refl _, fun _ _ _ => rfl⟩
    (fun x => { tmps := #[.func (.yield l) #[] #[], .pointer (some ⟨Br, 0, none⟩), .pointer (some ⟨Bw, 0, none⟩), .pointer (some ⟨W.heap.size, 0, none⟩), Lng.enc x, .pointer (some ⟨Br, 1, none⟩), .slice A xs.length c, .int .i64 wd, .int .i64 z, .func (.func 49) #[] #[.pointer (some ⟨W.heap.size + 1, 0, none⟩), .pointer (some ⟨W.heap.size + 1 + 1, 0, none⟩)], Lng.enc x, undef, undef, undef, undef, undef], defers := [] }) ?assign ?body ?done ?stop
  case own =>
    rintro s X Y row ⟨qs, h1, h2, h3, h4⟩ hg hr
    refine ⟨qs, h1, HJ.out.1 _ _ _ _ h2 hg (fun r e => ⟨by have := (hr r e).1; omega, (hr r e).2⟩), Nat.le_trans h3 hg.size, fun k hk1 hk2 => ?_⟩
    exact (hg.block k (by omega) (fun e => by have := (hr k e.symm).1; omega)).trans (h4 k hk1 hk2)
  case ownx =>
    rintro cc s X Y row ⟨hcc, qs, h1, h2⟩ hg hr
    exact ⟨hcc, qs, h1, HJ.out.2 _ _ _ _ h2 hg (fun r e => ⟨by have := (hr r e).1; omega, (hr r e).2⟩)⟩
  case assign =>
    intro l' x V K hK
    gi_wp2
    exact hK
  case body =>
    rintro l' pre x V ⟨qs, hq, hJq, hsz, hbx⟩ hxR hlen
    have k0 : V.cell? ⟨W.heap.size, 0, none⟩ = some (.func (.yield l) #[] #[]) := (World.cell?_of_block (hbx W.heap.size (by omega) (by omega))).trans y0
    obtain ⟨xA, xc, xx⟩ := x
    simp only [Lng.enc] at hxR ⊢
    obtain ⟨hxc, hxl⟩ := hxR
    have HCL : Hid (Calls Try.prog 43 #[.slice xA xx.length xc] V.drew fun e w' => ∃ A1 c1, e = .returned (.slice A1 xx.length c1) ∧ OwnS w' V.drew.heap.size 2 (.slice A1 xx.length c1) (ints .i64 xx) ∧ Ch No V.drew w') := Lib.hid (CloneL_any V.drew xA xc xx (hxc.ch (Ch.refl No V).drew (fun _ _ h => h)) (by omega))
    have hql : qs.length = pre.length := by have := congrArg List.length hq; simpa using this
    have HYR : Hid (∀ A5 c5 w5, OwnS w5 V.drew.heap.size 2 (.slice A5 xx.length c5) (ints .i64 xx) → Ch No V w5 → YieldAt Fence.wide (n - 1) Try.prog l #[.slice A5 xx.length c5] w5 fun e W'' =>
        ∃ bb, e = .returned (.bool bb) ∧ KeepsFrom w3.heap.size V W'' ∧ ((bb = true ∧ J (qs ++ [⟨A5, c5, xx⟩]) W'' ∧ KpC n₀ (W.heap.size + 1) (W.heap.size + 1 + 1) V W'' ∧ w3.heap.size ≤ W''.heap.size ∧ ∀ k, W.heap.size ≤ k → k < W.heap.size + 3 → W''.heap[k]? = w3.heap[k]?) ∨ (bb = false ∧ Jx (qs ++ [⟨A5, c5, xx⟩]) W''))) := Lib.hid (fun A5 c5 w5 o5 h5 => by
      have hJ5 : J qs w5 := HJ.out.1 _ _ _ none hJq ⟨h5.os, h5.tape, h5.output, h5.size, fun i hi _ => h5.block i hi (fun h => h)⟩ (fun r e => by cases e)
      have hcl5 := o5.cls
      obtain ⟨fn, tmps, assign, body, hy, hR⟩ := HY.out qs ⟨A5, c5, xx⟩ w5 hJ5 ⟨⟨hcl5.1, o5.u64, by simpa using hcl5.2.1⟩, by have := h5.size; omega⟩ (by omega) ⟨V, hJq, o5.frL⟩
      refine ⟨fn, tmps, assign, body, hy, hR.mono ?_⟩
      have hk5 : KeepsFrom w3.heap.size V w5 := ⟨h5.size, fun k q _ hq0 _ => (h5.block k (Array.getElem?_eq_some_iff.1 hq0).1 (fun h => h)).trans hq0⟩
      have hb5 : ∀ k, k < w3.heap.size → w5.heap[k]? = V.heap[k]? := fun k hk => h5.block k (by omega) (fun h => h)
      have hlow : Below n₀ V w5 := ⟨h5.os, h5.tape, h5.output, h5.size, fun i hi => h5.block i (by omega) (fun h => h)⟩
      rintro e W'' (⟨rfl, h1, h2, h3⟩ | ⟨rfl, h1, h3⟩)
      · refine ⟨true, rfl, hk5.trans (keeps_mono h3 (by omega)), .inl ⟨rfl, h1, ⟨hlow.trans h2.low, ?_, ?_⟩, by have := h2.low.size; have := h5.size; omega, fun k hk1 hk2 => ?_⟩⟩
        · rw [h2.own _ (by omega) (by omega), hb5 _ (by omega)]
        · rw [h2.own _ (by omega) (by omega), hb5 _ (by omega)]
        · rw [h2.own k hk1 hk2, hb5 k (by omega), hbx k hk1 hk2]
      · exact ⟨false, rfl, hk5.trans (keeps_mono h3 (by omega)), .inr ⟨rfl, h1⟩⟩)
    have HQ := Lib.hid hq
    have hfn : Fence.wide.fn 43 := trivial
    have hdep : Fence.wide.depth.isSome = true → 1 ≤ n - 1 - 1 := fun _ => by omega
    clear hq hJq hbx hxc hlen hsz hql
    gi_wp2
    gi_region_with (first
      | (gi_at_call 43; refine (CallsIn.inRound l' (callsIn_wide.2 HCL.out)).mono ?_; rintro e w5 ⟨A5, c5, rfl, o5, h5⟩; have k5 := h5.cell (w := V.drew) k0 (fun h => h); obtain ⟨fn, tmps, assign, body, hy, hR⟩ := HYR.out A5 c5 w5 o5 ((Ch.refl No V).drew.trans h5))
      | (refine (roundIn_any hR).mono ?_; rintro e W6 ⟨bb, rfl, hkf, hb⟩; have HB := Lib.hid (And.intro hkf hb); clear hkf hb)
      | (with_reducible refine And.intro hfn ?_) | (with_reducible refine And.intro hdep ?_))
    all_goals (
      clear hR hy k5 h5 o5
      rcases HB.out with ⟨hkf, ⟨rfl, h1, h2, h3, h4⟩ | ⟨rfl, h1⟩⟩
      · rw [z3] at hkf h3
        gi_wp2
        exact ⟨hkf, h2, ⟨qs ++ [⟨A5, c5, xx⟩], by simp [HQ.out], h1, h3, h4⟩⟩
      · rw [z3] at hkf
        gi_wp2
        exact ⟨hkf, rfl, ⟨qs ++ [⟨A5, c5, xx⟩], by simp [HQ.out], h1⟩⟩)
  case done =>
    rintro D ys V hD hys ⟨qs, hq, hJq, hsz, hbx⟩ hK
    have HF : Hid (∃ ys : List Lng, ys.map (·.xs) = chks z xs ∧ J ys (V.putObj D (.deferred none))) := Lib.hid ⟨qs, by rw [hq, hys], HJ.out.1.putObj _ hJq (by omega) hK rfl⟩
    clear hbx
    gi_wp2
    refine ⟨by simp, .inl ⟨_, _, rfl, run_takeDeferred hK, ?_⟩⟩
    exact ⟨.tuple #[], by simp [results, Try.f41, go_sem], ⟨_, rfl⟩, .inl HF.out⟩
  case stop =>
    rintro D cc pre V hD hpre ⟨rfl, qs, hq, hJq⟩ hK
    have HF : Hid (∃ pre : List Lng, pre.map (·.xs) <+: chks z xs ∧ Jx pre (V.putObj D (.deferred none))) := Lib.hid ⟨qs, by rw [hq]; exact hpre, HJ.out.2.putObj _ hJq (by omega) hK rfl⟩
    gi_wp2
    refine ⟨by simp, .inl ⟨_, _, rfl, run_takeDeferred hK, ?_⟩⟩
    exact ⟨.tuple #[], by simp [results, Try.f41, go_sem], ⟨_, rfl⟩, .inr HF.out⟩
theorem Rows_seqD (n : Nat) (hn : 3 ≤ n) (Br Bw n₀ : Nat) (xs : List Int) (A : Option Addr) (c : Nat) (wd : Int) (z : Nat) (hz : 1 ≤ z) (hzw : (z : Int) = max wd 1) (hzm : z ≤ 9223372036854775807) (hc : xs.length ≤ c) (hl : xs.length ≤ 1000000) (hA : xs ≠ [] → ∀ a, A = some a → a.block < n₀) (w : World) (hn₀ : n₀ ≤ w.heap.size) (hBr : w.cell? ⟨Br, 1, none⟩ = some (.slice A xs.length c)) (hBw : w.cell? ⟨Bw, 0, none⟩ = some (.int .i64 wd)) (hx : Cls w A (ints .i64 xs)) :
    SeqF Fence.wide n Try.prog 41 #[.pointer (some ⟨Br, 0, none⟩), .pointer (some ⟨Bw, 0, none⟩)] (fun x : Lng => #[Lng.enc x]) (fun D => KpR n₀ D) (fun D x W => LngR x W ∧ D + 3 ≤ W.heap.size) FrL (fun ys => ys.map (·.xs) = chks z xs) (fun pre => pre.map (·.xs) <+: chks z xs) (chks z xs).length w :=
  fun l J Jx W hW hJa hJx hY h0 => Rows1_inD n hn l Br Bw n₀ xs A c wd z hz hzw hzm hc hl hA J Jx W hJa hJx hY
    (Nat.le_trans hn₀ hW.size) ((hW.cell (p := ⟨Br, 1, none⟩) (World.block_lt_of_cell? _ _ hBr)).trans hBr) ((hW.cell (p := ⟨Bw, 0, none⟩) (World.block_lt_of_cell? _ _ hBw)).trans hBw) (hx.below hW) h0
set_option maxRecDepth 100000 in
set_option maxHeartbeats 8000000 in
theorem rowsD_any (w : World) (code : Int) (A : Option Addr) (c : Nat) (xs : List Int) (wd : Int) (z : Nat) (hx : Cls w A (ints .i64 xs)) (hz : 1 ≤ z) (hzw : (z : Int) = max wd 1) (hzm : z ≤ 9223372036854775807) (hc : xs.length ≤ c) (hl : xs.length ≤ 1000000) (most : Int) :
    Calls Try.prog 15 #[.agg #[.int .i64 code, .slice A xs.length c], .int .i64 wd, .int .i64 most] w fun e w' => ∃ v, ∃ ps : List Lng, e = .returned v ∧ ps.map (·.xs) = (chks z xs).take most.toNat ∧ OwnS w' w.heap.size 22 v (ps.map Lng.enc) ∧ (∀ p ∈ ps, LngR p w') ∧ Apart w.heap.size ps ∧ Ch No w w' := by
  refine callsIn_wide (n := 4) |>.1 ?_
  refine callsIn_of_wp_marks Try.func15 rfl trivial ?_ rfl
  simp only [Try.ntmps15, List.size_toArray, List.length_cons, List.length_nil, Nat.reduceAdd, Nat.reduceSub, Array.replicate_succ, Array.replicate_zero, List.push_toArray, List.append_toArray, List.nil_append, List.cons_append]
  obtain ⟨i0, hi, hz0, hz1, hz2⟩ := info_parts infoRow
  have hbl := chks_len_le hz xs.length xs (Nat.le_refl _)
  have hA0 : xs ≠ [] → ∀ a, A = some a → a.block < w.heap.size := by
    intro hne ad hd
    cases xs with
    | nil => exact absurd rfl hne
    | cons x xs =>
      obtain ⟨b, off, hA, hcell⟩ := hx [] (.int .i64 x) (ints .i64 xs) rfl
      rw [hd] at hA
      cases hA
      exact World.block_lt_of_cell? _ _ hcell
  have HX := Lib.hid (And.intro hx (And.intro hzw hA0))
  clear hx hzw hA0
  by_cases hm : most ≤ 0
  · gi_wp2
    have q := World.ownsRow_lit (base := w.heap.size) (e := 22) (size := 1) (((w.alloc (.cells #[.int .i64 code, .slice A xs.length c] 24)).alloc (.cells #[.int .i64 most] 3)).alloc (.cells #[.slice (some ⟨w.heap.size + 1 + 1 + 1, 0, none⟩) 0 0] 40)) #[] 0 (by simp; omega) (by simp) rfl
    have q2 := q.alloc (.cells #[.slice (some ⟨w.heap.size + 1 + 1 + 1, 0, none⟩) 0 0] 40)
    have q3 : (((((w.alloc (.cells #[.int .i64 code, .slice A xs.length c] 24)).alloc (.cells #[.int .i64 most] 3)).alloc (.cells #[.slice (some ⟨w.heap.size + 1 + 1 + 1, 0, none⟩) 0 0] 40)).alloc (.cells #[] 22)).alloc (.cells #[.slice (some ⟨w.heap.size + 1 + 1 + 1, 0, none⟩) 0 0] 40)).cell? ⟨w.heap.size + 1 + 1, 0, none⟩ = some (.slice (some ⟨w.heap.size + 1 + 1 + 1, 0, none⟩) 0 0) := cell_al _ (cell_al _ (cell_nw (by simp) (by simp)))
    refine ⟨.slice (some ⟨w.heap.size + 1 + 1 + 1, 0, none⟩) 0 0, by simp [results, Try.f15, go_sem], _, [], rfl, by rw [show most.toNat = 0 from by omega]; rfl, by simpa [OwnS] using q2, by simp, Apart.nil, ((((Ch.refl No w).alloc _).alloc _).alloc _).alloc _ |>.alloc _⟩
  · gi_wp2
    refine ⟨trivial, ?_⟩
    refine (callsIn_wide.2 (RowsF_any _ _ _ _ _ _)).mono ?_
    rintro e w1 ⟨rfl, rfl⟩
    gi_wp2
    have bM : Boxed (((((((w.alloc (.cells #[.int .i64 code, .slice A xs.length c] 24)).alloc (.cells #[.int .i64 most] 3)).alloc (.cells #[.slice none 0 0] 40)).alloc (.cells #[] 22)).alloc (.cells #[.slice (some ⟨w.heap.size + 1 + 1 + 1, 0, none⟩) 0 0] 40)).alloc (.cells #[.int .i64 code, .slice A xs.length c] 24)).alloc (.cells #[.int .i64 wd] 3)) (w.heap.size + 1) 3 (.int .i64 most) := by
      have := (((((Boxed.new (w.alloc (.cells #[.int .i64 code, .slice A xs.length c] 24)) 3 (.int .i64 most)).alloc (.cells #[.slice none 0 0] 40)).alloc (.cells #[] 22)).alloc (.cells #[.slice (some ⟨w.heap.size + 1 + 1 + 1, 0, none⟩) 0 0] 40)).alloc (.cells #[.int .i64 code, .slice A xs.length c] 24)).alloc (.cells #[.int .i64 wd] 3)
      simpa using this
    have bR : Boxed (((((((w.alloc (.cells #[.int .i64 code, .slice A xs.length c] 24)).alloc (.cells #[.int .i64 most] 3)).alloc (.cells #[.slice none 0 0] 40)).alloc (.cells #[] 22)).alloc (.cells #[.slice (some ⟨w.heap.size + 1 + 1 + 1, 0, none⟩) 0 0] 40)).alloc (.cells #[.int .i64 code, .slice A xs.length c] 24)).alloc (.cells #[.int .i64 wd] 3)) (w.heap.size + 1 + 1) 40 (.slice none 0 0) := by
      have := ((((Boxed.new ((w.alloc (.cells #[.int .i64 code, .slice A xs.length c] 24)).alloc (.cells #[.int .i64 most] 3)) 40 (.slice none 0 0)).alloc (.cells #[] 22)).alloc (.cells #[.slice (some ⟨w.heap.size + 1 + 1 + 1, 0, none⟩) 0 0] 40)).alloc (.cells #[.int .i64 code, .slice A xs.length c] 24)).alloc (.cells #[.int .i64 wd] 3)
      simpa using this
    have bO : Boxed (((((((w.alloc (.cells #[.int .i64 code, .slice A xs.length c] 24)).alloc (.cells #[.int .i64 most] 3)).alloc (.cells #[.slice none 0 0] 40)).alloc (.cells #[] 22)).alloc (.cells #[.slice (some ⟨w.heap.size + 1 + 1 + 1, 0, none⟩) 0 0] 40)).alloc (.cells #[.int .i64 code, .slice A xs.length c] 24)).alloc (.cells #[.int .i64 wd] 3)) (w.heap.size + 1 + 1 + 1 + 1) 40 (.slice (some ⟨w.heap.size + 1 + 1 + 1, 0, none⟩) 0 0) := by
      have := ((Boxed.new ((((w.alloc (.cells #[.int .i64 code, .slice A xs.length c] 24)).alloc (.cells #[.int .i64 most] 3)).alloc (.cells #[.slice none 0 0] 40)).alloc (.cells #[] 22)) 40 (.slice (some ⟨w.heap.size + 1 + 1 + 1, 0, none⟩) 0 0)).alloc (.cells #[.int .i64 code, .slice A xs.length c] 24)).alloc (.cells #[.int .i64 wd] 3)
      simpa using this
    have bX : (((((((w.alloc (.cells #[.int .i64 code, .slice A xs.length c] 24)).alloc (.cells #[.int .i64 most] 3)).alloc (.cells #[.slice none 0 0] 40)).alloc (.cells #[] 22)).alloc (.cells #[.slice (some ⟨w.heap.size + 1 + 1 + 1, 0, none⟩) 0 0] 40)).alloc (.cells #[.int .i64 code, .slice A xs.length c] 24)).alloc (.cells #[.int .i64 wd] 3)).cell? ⟨w.heap.size + 1 + 1 + 1 + 1 + 1, 1, none⟩ = some (.slice A xs.length c) := cell_al _ (cell_nw (by simp) (by simp))
    have bW : (((((((w.alloc (.cells #[.int .i64 code, .slice A xs.length c] 24)).alloc (.cells #[.int .i64 most] 3)).alloc (.cells #[.slice none 0 0] 40)).alloc (.cells #[] 22)).alloc (.cells #[.slice (some ⟨w.heap.size + 1 + 1 + 1, 0, none⟩) 0 0] 40)).alloc (.cells #[.int .i64 code, .slice A xs.length c] 24)).alloc (.cells #[.int .i64 wd] 3)).cell? ⟨w.heap.size + 1 + 1 + 1 + 1 + 1 + 1, 0, none⟩ = some (.int .i64 wd) := cell_nw (by simp) (by simp)
    have rO : (((((((w.alloc (.cells #[.int .i64 code, .slice A xs.length c] 24)).alloc (.cells #[.int .i64 most] 3)).alloc (.cells #[.slice none 0 0] 40)).alloc (.cells #[] 22)).alloc (.cells #[.slice (some ⟨w.heap.size + 1 + 1 + 1, 0, none⟩) 0 0] 40)).alloc (.cells #[.int .i64 code, .slice A xs.length c] 24)).alloc (.cells #[.int .i64 wd] 3)).ownsRow (w.heap.size + 3) 22 1 (.slice (some ⟨w.heap.size + 1 + 1 + 1, 0, none⟩) 0 0) 0 [] := by
      have q := World.ownsRow_lit (base := w.heap.size + 3) (e := 22) (size := 1) (((w.alloc (.cells #[.int .i64 code, .slice A xs.length c] 24)).alloc (.cells #[.int .i64 most] 3)).alloc (.cells #[.slice none 0 0] 40)) #[] 0 (by simp) (by simp) rfl
      have q2 := ((q.alloc (.cells #[.slice (some ⟨w.heap.size + 1 + 1 + 1, 0, none⟩) 0 0] 40)).alloc (.cells #[.int .i64 code, .slice A xs.length c] 24)).alloc (.cells #[.int .i64 wd] 3)
      simpa using q2
    have C5 : Ch No w (((((((w.alloc (.cells #[.int .i64 code, .slice A xs.length c] 24)).alloc (.cells #[.int .i64 most] 3)).alloc (.cells #[.slice none 0 0] 40)).alloc (.cells #[] 22)).alloc (.cells #[.slice (some ⟨w.heap.size + 1 + 1 + 1, 0, none⟩) 0 0] 40)).alloc (.cells #[.int .i64 code, .slice A xs.length c] 24)).alloc (.cells #[.int .i64 wd] 3)) := (((((((Ch.refl No w).alloc _).alloc _).alloc _).alloc _).alloc _).alloc _).alloc _
    have z5 : (((((((w.alloc (.cells #[.int .i64 code, .slice A xs.length c] 24)).alloc (.cells #[.int .i64 most] 3)).alloc (.cells #[.slice none 0 0] 40)).alloc (.cells #[] 22)).alloc (.cells #[.slice (some ⟨w.heap.size + 1 + 1 + 1, 0, none⟩) 0 0] 40)).alloc (.cells #[.int .i64 code, .slice A xs.length c] 24)).alloc (.cells #[.int .i64 wd] 3)).heap.size = w.heap.size + 7 := by simp
    generalize (((((((w.alloc (.cells #[.int .i64 code, .slice A xs.length c] 24)).alloc (.cells #[.int .i64 most] 3)).alloc (.cells #[.slice none 0 0] 40)).alloc (.cells #[] 22)).alloc (.cells #[.slice (some ⟨w.heap.size + 1 + 1 + 1, 0, none⟩) 0 0] 40)).alloc (.cells #[.int .i64 code, .slice A xs.length c] 24)).alloc (.cells #[.int .i64 wd] 3)) = w5 at *
    refine range_F (w0 := w5) rfl (by omega) (gf := 41) (lb := #[.pointer (some ⟨w.heap.size + 1 + 1 + 1 + 1 + 1, 0, none⟩), .pointer (some ⟨w.heap.size + 1 + 1 + 1 + 1 + 1 + 1, 0, none⟩)]) rfl trivial (enters_of Try.func41 (by kernel_rfl) rfl)
      (Rows_seqD 3 (by omega) (w.heap.size + 1 + 1 + 1 + 1 + 1) (w.heap.size + 1 + 1 + 1 + 1 + 1 + 1) w.heap.size xs A c wd z hz HX.out.2.1 hzm hc hl HX.out.2.2 w5 (by omega) bX bW (HX.out.1.ch C5 (fun _ _ h => h))) KpR.trans
      (fun V o o' ho h1 h2 => ⟨belowK_b (w := w5) (by omega) V _ o o' (by omega) ho h1 h2, fun k hk1 _ => World.putObj_heap_other (by omega), fun k cs hk => by
        have hkl : k ≠ w5.heap.size + 1 := by
          rintro rfl
          rw [ho] at hk
          cases hk
          cases h1
        rw [World.putObj_heap_other hkl]
        exact hk⟩) (Below.refl _ _) (fun _ => rfl)
      (fun (pre : List Lng) W => (∃ v, Boxed W (w.heap.size + 1 + 1 + 1 + 1) 40 v ∧ W.ownsRow (w.heap.size + 3) 22 1 v pre.length (pre.map Lng.enc) ∧ (∀ g, v.ownBlock = some g → g < w5.heap.size + 2 ∨ w5.heap.size + 2 + 3 ≤ g)) ∧ (Boxed W (w.heap.size + 1) 3 (.int .i64 most) ∧ Boxed W (w.heap.size + 1 + 1) 40 (.slice none 0 0)) ∧ (pre.length : Int) < most ∧ Below w.heap.size w W ∧ Apart w.heap.size pre ∧ ∀ p ∈ pre, LngR p W)
      (fun c (pre : List Lng) W => c = .ret ∧ (∃ v, Boxed W (w.heap.size + 1 + 1) 40 v ∧ W.ownsRow (w.heap.size + 3) 22 1 v pre.length (pre.map Lng.enc) ∧ True) ∧ (pre.length : Int) = most ∧ Below w.heap.size w W ∧ Apart w.heap.size pre ∧ ∀ p ∈ pre, LngR p W)
      (OwnFrom.and (Own.from (holdsRow_own _ _ _ _ 1 (fun pre : List Lng => pre.length) (fun pre : List Lng => pre.map Lng.enc) (fun (_ : List Lng) v => ∀ g, v.ownBlock = some g → g < w5.heap.size + 2 ∨ w5.heap.size + 2 + 3 ≤ g)) _) (OwnFrom.and (OwnFrom.and (Own.from (boxed_own _ _ (fun _ : List Lng => _)) _) (Own.from (boxed_own _ _ (fun _ : List Lng => _)) _)) (OwnFrom.and (ownFrom_pure _ (fun pre : List Lng => ((pre.length : Nat) : Int) < most)) (OwnFrom.and (ownFrom_below (Nat.le_refl _) (by omega)) (OwnFrom.and (ownFrom_pure _ (fun pre : List Lng => Apart w.heap.size pre)) (Own.from lngRs_own _))))))
      (fun c => OwnFrom.and (ownFrom_pure _ (fun _ : List Lng => c = .ret)) (OwnFrom.and (Own.from (holdsRow_own _ _ _ _ 1 (fun pre : List Lng => pre.length) (fun pre : List Lng => pre.map Lng.enc) (fun (_ : List Lng) _ => True)) _) (OwnFrom.and (ownFrom_pure _ (fun pre : List Lng => ((pre.length : Nat) : Int) = most)) (OwnFrom.and (ownFrom_below (Nat.le_refl _) (by omega)) (OwnFrom.and (ownFrom_pure _ (fun pre : List Lng => Apart w.heap.size pre)) (Own.from lngRs_own _))))))
      (fun x => OwnFrom.and (Own.from (lngR_own (fun _ : Unit => x)) _) (fun _ _ _ _ hs hg _ => Nat.le_trans hs hg.size))
      ⟨⟨_, bO, rO, fun g hg => by left; have : w.heap.size + 1 + 1 + 1 = g := by simpa [Value.ownBlock] using hg
                                  omega⟩, ⟨bM, bR⟩, by simp; omega, C5.same, Apart.nil, by simp⟩
      (fun x => { tmps := #[.agg #[.int .i64 code, .slice A xs.length c], .int .i64 wd, .int .i64 most, .pointer (some ⟨w.heap.size, 0, none⟩), undef, .pointer (some ⟨w.heap.size + 1, 0, none⟩), .pointer (some ⟨w.heap.size + 1 + 1, 0, none⟩), .pointer (some ⟨w.heap.size + 1 + 1 + 1 + 1, 0, none⟩), Lng.enc x, .slice (some ⟨w.heap.size + 1 + 1 + 1, 0, none⟩) 0 0, .int .i64 most, .bool false, undef, .agg #[.int .i64 code, .slice A xs.length c], .int .i64 wd, .func (.func 41) #[] #[.pointer (some ⟨w.heap.size + 1 + 1 + 1 + 1 + 1, 0, none⟩), .pointer (some ⟨w.heap.size + 1 + 1 + 1 + 1 + 1 + 1, 0, none⟩)], Lng.enc x, undef, undef, undef, undef, undef, undef, undef, undef, undef, undef], defers := [] }) ?assign ?body ?done ?stop
    case assign =>
      intro l x W K hK
      gi_wp2
      exact hK
    case body =>
      rintro l pre x W ⟨⟨v, hv, hrow, hG⟩, ⟨h3, h4⟩, hlen, hB, hap, hps⟩ ⟨hxR, hxD⟩ hlt' hfr
      have hap2 : Apart w.heap.size (pre ++ [x]) := by
        obtain ⟨V0, ⟨_, _, _, hB0, _, hps0⟩, hx0⟩ := hfr
        exact hap.snoc hB0.size hps0 hx0
      clear hfr
      have hxe : Lng.enc x = .slice x.A x.xs.length x.c := rfl
      rw [hxe]
      clear hxe
      have hc := hv.cell
      have hn3 : some (w.heap.size + 1) ≠ v.ownBlock := fun e => by have := (hrow.lt _ e.symm).1; omega
      have hn4 := h4.not_row (e := 22) (by decide) hrow
      have hpm : (pre.map Lng.enc).length = pre.length := by simp
      obtain ⟨m, hmm⟩ : ∃ m : Nat, most = m := ⟨most.toNat, by omega⟩
      subst hmm
      by_cases he : pre.length + 1 = m
      · gi_wp2_with (gi_at_builtin; refine wpListIn_appAt _ rfl _ _ 40 rfl (w.heap.size + 3) 22 i0 (.slice none 0 0) 1 24 Try.underlying40 hi hz0 hz1 hz2 rfl (by decide) _ _ _ rfl (hrow.alloc _) ⟨W.heap.size, 0, none⟩ 1 1 [.slice x.A x.xs.length x.c] rfl rfl (cell_one_new _ _ _) (by simp [Value.oneCell']) (by simp [maxLen]; omega) (by omega) (by simp; omega) ?_; intro v' w1 hown' hgrow hat; obtain ⟨g', cap', rfl⟩ := ownsRow_succ hown'; obtain ⟨hv1, hv2, hr2, hk2, hb2⟩ := hv.appended (by decide) hrow (by omega) (by omega) hown' hgrow; have hc1 := hv1.cell; have hf1 := hv1.frozen; have h3w := ((h3.alloc _).kept hgrow hn3); have h4w := ((h4.alloc _).kept hgrow hn4); have c3 := h3w.cell; have f4 := h4w.frozen; have c4 := h4w.cell)
        have hb3 := hb2.mono (show w.heap.size ≤ w.heap.size + 3 by omega)
        have hg2 : w.heap.size + 3 ≤ g' := (hr2.lt g' rfl).1
        have hku := KpR.body (D := w5.heap.size + 2) hb3 hrow hv hgrow (by omega) hxD hG
        rw [he] at hk2 hb3 hr2
        refine ⟨(hk2.trans (KeepsOthers.setCell _ _ _)).from _, rfl, ⟨_, (h4w.other (by omega) _).set _, ?_, trivial⟩, by simp; omega, (hB.trans hb3).setCell (p := ⟨w.heap.size + 1 + 1, 0, none⟩) (by simp; omega) _, hap2, ?_⟩
        rotate_left
        · rw [he] at hku
          exact snocL hps hxR (hku.trans (KpR.box (h4w.other (by omega) _) (by omega) (by omega)))
        have q := hr2.kept (grownBy_setCell' _ (w.heap.size + 1 + 1) (.slice (some ⟨g', 0, none⟩) m cap')) (.inr (by simp [Value.ownBlock]; omega))
        · simpa [he, Lng.enc] using q
      · gi_wp2_with (gi_at_builtin; refine wpListIn_appAt _ rfl _ _ 40 rfl (w.heap.size + 3) 22 i0 (.slice none 0 0) 1 24 Try.underlying40 hi hz0 hz1 hz2 rfl (by decide) _ _ _ rfl (hrow.alloc _) ⟨W.heap.size, 0, none⟩ 1 1 [.slice x.A x.xs.length x.c] rfl rfl (cell_one_new _ _ _) (by simp [Value.oneCell']) (by simp [maxLen]; omega) (by omega) (by simp; omega) ?_; intro v' w1 hown' hgrow hat; obtain ⟨g', cap', rfl⟩ := ownsRow_succ hown'; obtain ⟨hv1, hv2, hr2, hk2, hb2⟩ := hv.appended (by decide) hrow (by omega) (by omega) hown' hgrow; have hc1 := hv1.cell; have hf1 := hv1.frozen; have h3w := ((h3.alloc _).kept hgrow hn3); have h4w := ((h4.alloc _).kept hgrow hn4); have c3 := h3w.cell; have f4 := h4w.frozen; have c4 := h4w.cell)
        have hb3 := hb2.mono (show w.heap.size ≤ w.heap.size + 3 by omega)
        have hg2 : w.heap.size + 3 ≤ g' := (hr2.lt g' rfl).1
        have hku := KpR.body (D := w5.heap.size + 2) hb3 hrow hv hgrow (by omega) hxD hG
        have hG2 : ∀ g, (Value.slice (some ⟨g', 0, none⟩) (pre.length + 1) cap').ownBlock = some g → g < w5.heap.size + 2 ∨ w5.heap.size + 2 + 3 ≤ g := by
          intro g hg
          rcases hat with hat | hat
          · exact hG g (hat ▸ hg)
          · have e1 : some g = some (W.heap.size + 1) := by rw [← hg]; simpa using hat
            have e2 : g = W.heap.size + 1 := by simpa using e1
            omega
        exact ⟨hk2.from _, hku, ⟨_, hv2, by simpa [Lng.enc] using hr2, by simpa using hG2⟩, ⟨h3w.other (by omega) _, h4w.other (by omega) _⟩, by simp; omega, hB.trans hb3, hap2, snocL hps hxR hku⟩
    case done =>
      rintro D ys W hD hys ⟨⟨v, hv, hrow, _⟩, ⟨h3, h4⟩, hlen, hB, hap, hps⟩ hK
      obtain ⟨Av, cv, rfl, _⟩ := (show OwnS W (w.heap.size + 3) 22 v (ys.map Lng.enc) by simpa [OwnS] using hrow).slice
      have hc := hv.cell
      have f4 := h4.frozen
      have c4 := h4.cell
      simp only [List.length_map] at hv hrow hc ⊢
      gi_wp2
      refine ⟨by simp, .inl ⟨_, _, rfl, run_takeDeferred ((KeepsOthers.setCell _ _ _).same D _ hK rfl), ?_⟩⟩
      have hv4 := h4.set (.slice Av ys.length cv)
      have hK4 := (KeepsOthers.setCell W ⟨w.heap.size + 1 + 1, 0, none⟩ (.slice Av ys.length cv)).same D _ hK rfl
      have hc5 := cell_kept hv4.cell (grownBy_putObj' _ D (.deferred none)) (fun r e => by cases e; exact ⟨_, hK4, rfl⟩)
      have hyl : ys.length = (chks z xs).length := by rw [← hys]; simp
      have ht : (chks z xs).take most.toNat = chks z xs := List.take_of_length_le (by omega)
      have hr4 := hrow.kept (grownBy_setCell' W (w.heap.size + 1 + 1) (.slice Av ys.length cv)) (.inr (fun e => by have := (hrow.lt _ e).1; omega))
      refine ⟨.slice Av ys.length cv, by simp [results, Try.f15, go_sem, hc5], _, ys, rfl, by rw [ht, hys], ?_, fun p hp => ((hps p hp).kpr (KpR.box (n₀ := w.heap.size) (D := w5.heap.size) h4 (by omega) (by omega))).put _ hK4 rfl, hap, Ch.of_below ((hB.setCell (p := ⟨w.heap.size + 1 + 1, 0, none⟩) (by simp; omega) _).trans (belowK_b (w := w) (Nat.le_refl _) _ D _ _ (by omega) hK4 rfl rfl))⟩
      have q := ownsRow_putObj hr4 (.deferred none) hK4 rfl
      exact OwnS.lower (B := w.heap.size + 3) (by simpa [OwnS] using q) (by omega)
    case stop =>
      rintro D c pre W hD hpre ⟨rfl, ⟨v, hv, hrow, _⟩, hlen, hB, hap, hps⟩ hK
      gi_wp2
      refine ⟨by simp, .inl ⟨_, _, rfl, run_takeDeferred hK, ?_⟩⟩
      have hc5 := cell_kept hv.cell (grownBy_putObj' _ D (.deferred none)) (fun r e => by cases e; exact ⟨_, hK, rfl⟩)
      have ht : pre.map (·.xs) = (chks z xs).take most.toNat := by
        obtain ⟨t, ht⟩ := hpre
        rw [← ht, show most.toNat = (pre.map (·.xs)).length from by simp; omega, List.take_left']
        rfl
      refine ⟨v, by simp [results, Try.f15, go_sem, hc5], v, pre, rfl, ht, ?_, fun p hp => (hps p hp).put _ hK rfl, hap, Ch.of_below (hB.trans (belowK_b (w := w) (Nat.le_refl _) W D _ _ (by omega) hK rfl rfl))⟩
      have q := ownsRow_putObj hrow (.deferred none) hK rfl
      exact OwnS.lower (B := w.heap.size + 3) (by simpa [OwnS] using q) (by omega)
end Go.Proofs.Ytpjcfelknkddfaa
