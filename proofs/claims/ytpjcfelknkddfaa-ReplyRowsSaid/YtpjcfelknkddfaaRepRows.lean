/- reply.Rows: the iterator over slices.Chunk; its caller, up to so many. -/
import Derived.Test.YtpjcfelknkddfaaRepChk
namespace Go.Proofs.Ytpjcfelknkddfaa
open Go.RowKit Go.Shelf

attribute [local go_sem] Oper.semAt_some

theorem Chunk_any (w : World) (A : Option Addr) (n c z : Nat) (hz : 1 ≤ z) (hzm : z ≤ 9223372036854775807) : Calls Try.prog 42 #[.slice A n c, .int .i64 z] w fun e w' => e = .returned (.func (.func 49) #[] #[.pointer (some ⟨w.heap.size, 0, none⟩), .pointer (some ⟨w.heap.size + 1, 0, none⟩)]) ∧ w' = (w.alloc (.cells #[.slice A n c] 22)).alloc (.cells #[.int .i64 z] 3) := by
  go_enter Try.func42, Try.ntmps42
  go_wp2_with fail
  go_ret
  exact ⟨rfl, rfl⟩
theorem Chunk_seq (n : Nat) (hn : 1 ≤ n) (Bs Bn n₀ : Nat) (xs : List Int) (A : Option Addr) (c z : Nat) (hz : 1 ≤ z) (hzm : z ≤ 9223372036854775807) (hc : xs.length ≤ c) (hl : xs.length ≤ 1000000) (hA : xs ≠ [] → ∀ a, A = some a → a.block < n₀) (w : World) (hn₀ : n₀ ≤ w.heap.size) (hBs : w.cell? ⟨Bs, 0, none⟩ = some (.slice A xs.length c)) (hBn : w.cell? ⟨Bn, 0, none⟩ = some (.int .i64 z)) (hx : Cls w A (ints .i64 xs)) :
    SeqR Fence.wide n Try.prog 49 #[.pointer (some ⟨Bs, 0, none⟩), .pointer (some ⟨Bn, 0, none⟩)] (fun x : Lng => #[Lng.enc x]) (fun _ => KpC n₀ Bs Bn) (fun _ x W => Cls W x.A (ints .i64 x.xs) ∧ x.xs.length ≤ 1000000) (fun ys => ys.map (·.xs) = chks z xs) (fun pre => pre.map (·.xs) <+: chks z xs) (chks z xs).length w :=
  fun l J Jx W hW hJa _ hY h0 => Chunk1_in n hn l Bs Bn n₀ W.heap.size xs A c z hz hzm hc hl hA J Jx (fun _ _ _ hj hc => hJa _ _ _ none hj ⟨hc.os, hc.tape, hc.output, hc.size, fun i hi _ => hc.block i hi (fun h => h)⟩ (fun r e => by cases e)) hY W
    (Nat.le_trans hn₀ hW.size) ((hW.cell (p := ⟨Bs, 0, none⟩) (World.block_lt_of_cell? _ _ hBs)).trans hBs) ((hW.cell (p := ⟨Bn, 0, none⟩) (World.block_lt_of_cell? _ _ hBn)).trans hBn) (hx.below hW) h0

/-- numbers that lie in a block of numbers -/
def U64 (w : World) (A : Option Addr) : Prop := ∀ a, A = some a → ∃ cs, w.heap[a.block]? = some (.cells cs 2 (0, 0))
theorem OwnS.u64 {w : World} {B n c : Nat} {A : Option Addr} {vs : List Value} (h : OwnS w B 2 (.slice A n c) vs) : U64 w A := by
  rintro a rfl
  rcases h.2 with ⟨h0, _⟩ | ⟨g, _, cs, h0, _, hg, _⟩
  · cases h0
  · have : a = ⟨g, 0, none⟩ := by simpa using (Value.slice.inj h0).1
    rw [this]
    exact ⟨cs, hg⟩
/-- a row's numbers lie where it says -/
def LngR (p : Lng) (W : World) : Prop := Cls W p.A (ints .i64 p.xs) ∧ U64 W p.A ∧ p.xs.length ≤ p.c
theorem cls_own {β : Type} (f : β → Option Addr) (g : β → List Value) : Own (fun s W => Cls W (f s) (g s)) := fun _ _ _ _ hs hg hr => hs.congr fun _ _ hc => cell_kept hc hg hr
theorem u64_own {β : Type} (f : β → Option Addr) : Own (fun s W => U64 W (f s)) := fun _ _ _ _ hs hg hr a ha => by
  obtain ⟨cs, hc⟩ := hs a ha
  exact ⟨cs, (grownBy_keeps_cells hg hr hc rfl).trans hc⟩
theorem lngR_own {β : Type} (f : β → Lng) : Own (fun s W => LngR (f s) W) := fun s X Y row hs hg hr => ⟨cls_own (fun s => (f s).A) (fun s => ints .i64 (f s).xs) s X Y row hs.1 hg hr, u64_own (fun s => (f s).A) s X Y row hs.2.1 hg hr, hs.2.2⟩
theorem lngRs_own : Own (fun (pre : List Lng) W => ∀ p ∈ pre, LngR p W) := fun _ X Y row hs hg hr p hp => lngR_own (fun _ : Unit => p) () X Y row (hs p hp) hg hr
/-- what a round of reply.Rows keeps: what lay below n₀, its own three boxes from D on, and whatever holds numbers -/
structure KpR (n₀ D : Nat) (W W' : World) : Prop where
  low : Below n₀ W W'
  own : ∀ k, D ≤ k → k < D + 3 → W'.heap[k]? = W.heap[k]?
  num : ∀ (k : Nat) (cs : Array Value), W.heap[k]? = some (.cells cs 2 (0, 0)) → W'.heap[k]? = some (.cells cs 2 (0, 0))
theorem KpR.trans {n₀ D : Nat} {A B C : World} (h : KpR n₀ D A B) (k : KpR n₀ D B C) : KpR n₀ D A C := ⟨h.low.trans k.low, fun i h1 h2 => (k.own i h1 h2).trans (h.own i h1 h2), fun i cs hi => k.num i cs (h.num i cs hi)⟩
theorem LngR.kpr {n₀ D : Nat} {W W' : World} {p : Lng} (h : LngR p W) (k : KpR n₀ D W W') : LngR p W' := by
  refine ⟨?_, fun a ha => by obtain ⟨cs, hc⟩ := h.2.1 a ha; exact ⟨cs, k.num _ _ hc⟩, h.2.2⟩
  intro pre v post e
  obtain ⟨b, off, hA, hc⟩ := h.1 pre v post e
  obtain ⟨cs, hcs⟩ := h.2.1 _ hA
  exact ⟨b, off, hA, (World.cell?_of_block ((k.num b cs hcs).trans hcs.symm)).trans hc⟩
theorem snocL {n₀ D : Nat} {W W' : World} {pre : List Lng} {x : Lng} (h : ∀ p ∈ pre, LngR p W) (hx : LngR x W) (k : KpR n₀ D W W') : ∀ p ∈ pre ++ [x], LngR p W' := by
  intro p hp
  rcases List.mem_append.1 hp with hp | hp
  · exact (h p hp).kpr k
  · rw [show p = x from by simpa using hp]
    exact hx.kpr k

set_option maxRecDepth 100000 in
set_option maxHeartbeats 8000000 in
theorem Rows1_in (n : Nat) (hn : 3 ≤ n) (l Br Bw n₀ : Nat) (xs : List Int) (A : Option Addr) (c : Nat) (wd : Int) (z : Nat) (hz : 1 ≤ z) (hzw : (z : Int) = max wd 1) (hzm : z ≤ 9223372036854775807) (hc : xs.length ≤ c) (hl : xs.length ≤ 1000000) (hA : xs ≠ [] → ∀ a, A = some a → a.block < n₀) (J Jx : List Lng → World → Prop)
    (W : World) (hJ : OwnFrom W.heap.size J) (hJx : OwnFrom W.heap.size Jx)
    (hY : ∀ pre x W1, J pre W1 → (LngR x W1 ∧ W.heap.size + 3 ≤ W1.heap.size) → pre.length < (chks z xs).length → YieldAt Fence.wide (n - 1) Try.prog l #[Lng.enc x] W1 fun e W' =>
      (e = .returned (.bool true) ∧ J (pre ++ [x]) W' ∧ KpR n₀ W.heap.size W1 W' ∧ KeepsFrom W.heap.size W1 W') ∨ (e = .returned (.bool false) ∧ Jx (pre ++ [x]) W' ∧ KeepsFrom W.heap.size W1 W'))
    (hn₀ : n₀ ≤ W.heap.size) (hBr : W.cell? ⟨Br, 1, none⟩ = some (.slice A xs.length c)) (hBw : W.cell? ⟨Bw, 0, none⟩ = some (.int .i64 wd)) (hx : Cls W A (ints .i64 xs)) (h0 : J [] W) :
    CallsIn Fence.wide n Try.prog 41 #[.func (.yield l) #[] #[], .pointer (some ⟨Br, 0, none⟩), .pointer (some ⟨Bw, 0, none⟩)] W fun e W' => (∃ v, e = .returned v) ∧
      ((∃ ys, ys.map (·.xs) = chks z xs ∧ J ys W') ∨ (∃ pre, pre.map (·.xs) <+: chks z xs ∧ Jx pre W')) := by
  refine callsIn_of_wp_marks Try.func41 rfl trivial ?_ rfl
  simp only [Try.ntmps41, List.size_toArray, List.length_cons, List.length_nil, Nat.reduceAdd, Nat.reduceSub, Array.replicate_succ, Array.replicate_zero, List.push_toArray, List.append_toArray, List.nil_append, List.cons_append]
  have hmax : ∀ (ts : Array TypeId) (t : TypeId) (w : World), (Builtin.max_ ts t #[.int .i64 wd, .int .i64 1]).run Try.prog w = .ok (.int .i64 z) w := fun ts t w => by
    rw [hzw]
    simp [Builtin.max_, Builtin.max2]
    split <;> omega
  have HX := Lib.hid (And.intro hx (And.intro h0 hA))
  clear hx h0 hA hzw
  have hBr2 := cell_al (.cells #[.func (.yield l) #[] #[]] 84) hBr
  have hBw2 := cell_al (.cells #[.func (.yield l) #[] #[]] 84) hBw
  gi_wp2
  refine ⟨trivial, ?_⟩
  refine ⟨fun _ => by omega, ?_⟩
  refine (callsIn_wide.2 (Chunk_any _ _ _ _ _ hz hzm)).mono ?_
  rintro e w1 ⟨rfl, rfl⟩
  have C3 : Ch No W (((W.alloc (.cells #[.func (.yield l) #[] #[]] 84)).alloc (.cells #[.slice A xs.length c] 22)).alloc (.cells #[.int .i64 z] 3)) := (((Ch.refl No W).alloc _).alloc _).alloc _
  have z3 : (((W.alloc (.cells #[.func (.yield l) #[] #[]] 84)).alloc (.cells #[.slice A xs.length c] 22)).alloc (.cells #[.int .i64 z] 3)).heap.size = W.heap.size + 3 := by simp
  have y0 : (((W.alloc (.cells #[.func (.yield l) #[] #[]] 84)).alloc (.cells #[.slice A xs.length c] 22)).alloc (.cells #[.int .i64 z] 3)).cell? ⟨W.heap.size, 0, none⟩ = some (.func (.yield l) #[] #[]) := cell_al _ (cell_al _ (by simp))
  have y1 : (((W.alloc (.cells #[.func (.yield l) #[] #[]] 84)).alloc (.cells #[.slice A xs.length c] 22)).alloc (.cells #[.int .i64 z] 3)).cell? ⟨W.heap.size + 1, 0, none⟩ = some (.slice A xs.length c) := cell_al _ (cell_nw (by simp) (by simp))
  have y2 : (((W.alloc (.cells #[.func (.yield l) #[] #[]] 84)).alloc (.cells #[.slice A xs.length c] 22)).alloc (.cells #[.int .i64 z] 3)).cell? ⟨W.heap.size + 1 + 1, 0, none⟩ = some (.int .i64 z) := cell_nw (by simp) (by simp)
  gi_wp2
  generalize (((W.alloc (.cells #[.func (.yield l) #[] #[]] 84)).alloc (.cells #[.slice A xs.length c] 22)).alloc (.cells #[.int .i64 z] 3)) = w3 at *
  have J0 : J [] w3 := hJ _ _ _ none HX.out.2.1 ⟨C3.os, C3.tape, C3.output, C3.size, fun i hi _ => C3.block i hi (fun h => h)⟩ (fun r e => by cases e)
  have HY := Lib.hid hY
  have HJ := Lib.hid (And.intro hJ hJx)
  have hn3 : n₀ ≤ w3.heap.size := by omega
  have hx3 := HX.out.1.ch C3 (fun _ _ h => h)
  clear hY hJ hJx hBr hBw hBr2 hBw2 hmax
  refine range_R (w0 := w3) rfl (by omega) (gf := 49) (lb := #[.pointer (some ⟨W.heap.size + 1, 0, none⟩), .pointer (some ⟨W.heap.size + 1 + 1, 0, none⟩)]) rfl trivial (enters_of Try.func49 (by kernel_rfl) rfl)
    (Chunk_seq (n - 1) (by omega) (W.heap.size + 1) (W.heap.size + 1 + 1) n₀ xs A c z hz hzm hc hl HX.out.2.2 w3 hn3 y1 y2 hx3)
    KpC.trans (fun V o o' ho h1 h2 => ⟨belowK_b (w := w3) hn3 V _ o o' (by omega) ho h1 h2, World.putObj_heap_other (by omega), World.putObj_heap_other (by omega)⟩) (Below.refl _ _) (fun _ => rfl)
    (fun (pre : List Lng) V => ∃ qs : List Lng, qs.map (·.xs) = pre.map (·.xs) ∧ J qs V ∧ w3.heap.size ≤ V.heap.size ∧ ∀ k, W.heap.size ≤ k → k < W.heap.size + 3 → V.heap[k]? = w3.heap[k]?)
    (fun cc (pre : List Lng) V => cc = .ret ∧ ∃ qs : List Lng, qs.map (·.xs) = pre.map (·.xs) ∧ Jx qs V)
    ?own ?ownx (fun x => OwnFrom.and (Own.from (cls_own (fun _ : Unit => x.A) (fun _ => ints .i64 x.xs)) _) (ownFrom_pure _ (fun _ : Unit => x.xs.length ≤ 1000000)))
    ⟨[], rfl, (by exact J0), Nat.le_refl _, fun _ _ _ => rfl⟩
    (fun x => { tmps := #[.func (.yield l) #[] #[], .pointer (some ⟨Br, 0, none⟩), .pointer (some ⟨Bw, 0, none⟩), .pointer (some ⟨W.heap.size, 0, none⟩), Lng.enc x, .pointer (some ⟨Br, 1, none⟩), .slice A xs.length c, .int .i64 wd, .int .i64 z, .func (.func 49) #[] #[.pointer (some ⟨W.heap.size + 1, 0, none⟩), .pointer (some ⟨W.heap.size + 1 + 1, 0, none⟩)], Lng.enc x, undef, undef, undef, undef, undef], defers := [] }) ?assign ?body ?done ?stop
  case own =>
    rintro s X Y row ⟨qs, h1, h2, h3, h4⟩ hg hr
    refine ⟨qs, h1, HJ.out.1 _ _ _ _ h2 hg (fun r e => ⟨by have := (hr r e).1; omega, (hr r e).2⟩), Nat.le_trans h3 hg.size, fun k hk1 hk2 => ?_⟩
    exact (hg.block k (by omega) (fun e => by have := (hr k e.symm).1; omega)).trans (h4 k hk1 hk2)
  case ownx =>
    rintro cc s X Y row ⟨hcc, qs, h1, h2⟩ hg hr
    exact ⟨hcc, qs, h1, HJ.out.2 _ _ _ _ h2 hg (fun r e => ⟨by have := (hr r e).1; omega, (hr r e).2⟩)⟩
  case assign =>
    intro l' x V K hK
    gi_wp2
    exact hK
  case body =>
    rintro l' pre x V ⟨qs, hq, hJq, hsz, hbx⟩ hxR hlen
    have k0 : V.cell? ⟨W.heap.size, 0, none⟩ = some (.func (.yield l) #[] #[]) := (World.cell?_of_block (hbx W.heap.size (by omega) (by omega))).trans y0
    obtain ⟨xA, xc, xx⟩ := x
    simp only [Lng.enc] at hxR ⊢
    obtain ⟨hxc, hxl⟩ := hxR
    have HCL : Hid (Calls Try.prog 43 #[.slice xA xx.length xc] V.drew fun e w' => ∃ A1 c1, e = .returned (.slice A1 xx.length c1) ∧ OwnS w' V.drew.heap.size 2 (.slice A1 xx.length c1) (ints .i64 xx) ∧ Ch No V.drew w') := Lib.hid (CloneL_any V.drew xA xc xx (hxc.ch (Ch.refl No V).drew (fun _ _ h => h)) (by omega))
    have hql : qs.length = pre.length := by have := congrArg List.length hq; simpa using this
    have HYR : Hid (∀ A5 c5 w5, OwnS w5 V.drew.heap.size 2 (.slice A5 xx.length c5) (ints .i64 xx) → Ch No V w5 → YieldAt Fence.wide (n - 1) Try.prog l #[.slice A5 xx.length c5] w5 fun e W'' =>
        ∃ bb, e = .returned (.bool bb) ∧ KeepsFrom w3.heap.size V W'' ∧ ((bb = true ∧ J (qs ++ [⟨A5, c5, xx⟩]) W'' ∧ KpC n₀ (W.heap.size + 1) (W.heap.size + 1 + 1) V W'' ∧ w3.heap.size ≤ W''.heap.size ∧ ∀ k, W.heap.size ≤ k → k < W.heap.size + 3 → W''.heap[k]? = w3.heap[k]?) ∨ (bb = false ∧ Jx (qs ++ [⟨A5, c5, xx⟩]) W''))) := Lib.hid (fun A5 c5 w5 o5 h5 => by
      have hJ5 : J qs w5 := HJ.out.1 _ _ _ none hJq ⟨h5.os, h5.tape, h5.output, h5.size, fun i hi _ => h5.block i hi (fun h => h)⟩ (fun r e => by cases e)
      have hcl5 := o5.cls
      obtain ⟨fn, tmps, assign, body, hy, hR⟩ := HY.out qs ⟨A5, c5, xx⟩ w5 hJ5 ⟨⟨hcl5.1, o5.u64, by simpa using hcl5.2.1⟩, by have := h5.size; omega⟩ (by omega)
      refine ⟨fn, tmps, assign, body, hy, hR.mono ?_⟩
      have hk5 : KeepsFrom w3.heap.size V w5 := ⟨h5.size, fun k q _ hq0 _ => (h5.block k (Array.getElem?_eq_some_iff.1 hq0).1 (fun h => h)).trans hq0⟩
      have hb5 : ∀ k, k < w3.heap.size → w5.heap[k]? = V.heap[k]? := fun k hk => h5.block k (by omega) (fun h => h)
      have hlow : Below n₀ V w5 := ⟨h5.os, h5.tape, h5.output, h5.size, fun i hi => h5.block i (by omega) (fun h => h)⟩
      rintro e W'' (⟨rfl, h1, h2, h3⟩ | ⟨rfl, h1, h3⟩)
      · refine ⟨true, rfl, hk5.trans (keeps_mono h3 (by omega)), .inl ⟨rfl, h1, ⟨hlow.trans h2.low, ?_, ?_⟩, by have := h2.low.size; have := h5.size; omega, fun k hk1 hk2 => ?_⟩⟩
        · rw [h2.own _ (by omega) (by omega), hb5 _ (by omega)]
        · rw [h2.own _ (by omega) (by omega), hb5 _ (by omega)]
        · rw [h2.own k hk1 hk2, hb5 k (by omega), hbx k hk1 hk2]
      · exact ⟨false, rfl, hk5.trans (keeps_mono h3 (by omega)), .inr ⟨rfl, h1⟩⟩)
    have HQ := Lib.hid hq
    have hfn : Fence.wide.fn 43 := trivial
    have hdep : Fence.wide.depth.isSome = true → 1 ≤ n - 1 - 1 := fun _ => by omega
    clear hq hJq hbx hxc hlen hsz hql
    gi_wp2
    gi_region_with (first
      | (gi_at_call 43; refine (CallsIn.inRound l' (callsIn_wide.2 HCL.out)).mono ?_; rintro e w5 ⟨A5, c5, rfl, o5, h5⟩; have k5 := h5.cell (w := V.drew) k0 (fun h => h); obtain ⟨fn, tmps, assign, body, hy, hR⟩ := HYR.out A5 c5 w5 o5 ((Ch.refl No V).drew.trans h5))
      | (refine (roundIn_any hR).mono ?_; rintro e W6 ⟨bb, rfl, hkf, hb⟩; have HB := Lib.hid (And.intro hkf hb); clear hkf hb)
      | (with_reducible refine And.intro hfn ?_) | (with_reducible refine And.intro hdep ?_))
    all_goals (
      clear hR hy k5 h5 o5
      rcases HB.out with ⟨hkf, ⟨rfl, h1, h2, h3, h4⟩ | ⟨rfl, h1⟩⟩
      · rw [z3] at hkf h3
        gi_wp2
        exact ⟨hkf, h2, ⟨qs ++ [⟨A5, c5, xx⟩], by simp [HQ.out], h1, h3, h4⟩⟩
      · rw [z3] at hkf
        gi_wp2
        exact ⟨hkf, rfl, ⟨qs ++ [⟨A5, c5, xx⟩], by simp [HQ.out], h1⟩⟩)
  case done =>
    rintro D ys V hD hys ⟨qs, hq, hJq, hsz, hbx⟩ hK
    have HF : Hid (∃ ys : List Lng, ys.map (·.xs) = chks z xs ∧ J ys (V.putObj D (.deferred none))) := Lib.hid ⟨qs, by rw [hq, hys], HJ.out.1.putObj _ hJq (by omega) hK rfl⟩
    clear hbx
    gi_wp2
    refine ⟨by simp, .inl ⟨_, _, rfl, run_takeDeferred hK, ?_⟩⟩
    exact ⟨.tuple #[], by simp [results, Try.f41, go_sem], ⟨_, rfl⟩, .inl HF.out⟩
  case stop =>
    rintro D cc pre V hD hpre ⟨rfl, qs, hq, hJq⟩ hK
    have HF : Hid (∃ pre : List Lng, pre.map (·.xs) <+: chks z xs ∧ Jx pre (V.putObj D (.deferred none))) := Lib.hid ⟨qs, by rw [hq]; exact hpre, HJ.out.2.putObj _ hJq (by omega) hK rfl⟩
    gi_wp2
    refine ⟨by simp, .inl ⟨_, _, rfl, run_takeDeferred hK, ?_⟩⟩
    exact ⟨.tuple #[], by simp [results, Try.f41, go_sem], ⟨_, rfl⟩, .inr HF.out⟩
end Go.Proofs.Ytpjcfelknkddfaa
