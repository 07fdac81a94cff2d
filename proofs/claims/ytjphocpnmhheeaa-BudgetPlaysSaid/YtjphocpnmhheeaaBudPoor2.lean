/- Who has nothing left: collected, up to so many. -/
import Derived.Test.YtjphocpnmhheeaaBudPoor
namespace Go.Proofs.Ytjphocpnmhheeaa
open Go.RowKit Go.Shelf

attribute [local go_sem] Oper.semAt_some

theorem Poor_any (w : World) (p : Option Addr) : Calls Try.prog 37 #[.pointer p] w fun e w' => e = .returned (.func (.func 39) #[] #[.pointer (some ⟨w.heap.size, 0, none⟩)]) ∧ w' = w.alloc (.cells #[.pointer p] 57) := by
  go_enter Try.func37, Try.ntmps37
  go_wp2_with fail
  go_ret
  exact ⟨rfl, rfl⟩

theorem Poor_stops (n : Nat) (hn : 1 ≤ n) (Bn n₀ B g : Nat) (k : Option Nat) (L : List Acc) (hg : g < n₀) (hk : ∀ i, k = some i → i < n₀) (w : World) (hn₀ : n₀ ≤ w.heap.size) (hBn : w.cell? ⟨Bn, 0, none⟩ = some (.pointer (some ⟨g, 0, none⟩))) (hL : Led w B g k L) (hl : L.length ≤ 1000000) :
    SeqStopsK Fence.wide n Try.prog 39 #[.pointer (some ⟨Bn, 0, none⟩)] (fun x : Int => #[Value.int .i64 x]) (KpB n₀ Bn) (fun ys => ys = poorAll L) (fun pre => pre <+: poorAll L) (poorAll L).length w :=
  fun l J Jx W hW hJa _ hY h0 => Poor1_in n hn l Bn n₀ B g k L hg hk J Jx (fun pre A C hj hc => hJa pre A C none hj ⟨hc.os, hc.tape, hc.output, hc.size, fun i hi _ => hc.block i hi (fun h => h)⟩ (fun r e => by cases e)) hY W (Nat.le_trans hn₀ hW.size)
    ((hW.cell (p := ⟨Bn, 0, none⟩) (World.block_lt_of_cell? _ _ hBn)).trans hBn) (hL.ch (Ch.of_below (S := No) hW) (fun h => h) (fun _ _ h => h)) hl h0

theorem infoInt : (Try.prog.info? 3).map (fun i => (i.zero, i.size, i.bytes)) = some (some (.int .i64 0), 1, 8) := by kernel_rfl
theorem poorAll_len (L : List Acc) : (poorAll L).length ≤ L.length := by
  have h : ∀ j, (poorTo L j).length ≤ j := fun j => by
    have := List.length_filter_le (fun i : Nat => decide (leftI L (i : Int) = 0)) (List.range j)
    simpa [poorTo] using this
  exact h _

set_option maxRecDepth 100000 in
set_option maxHeartbeats 4000000 in
theorem poor_any (w : World) (B g : Nat) (k : Option Nat) (L : List Acc) (h : Led w B g k L) (hl : L.length ≤ 1000000) (most : Int) :
    Calls Try.prog 32 #[.pointer (some ⟨g, 0, none⟩), .int .i64 most] w fun e w' => ∃ v, e = .returned v ∧ OwnS w' w.heap.size 3 v (ints .i64 ((poorAll L).take most.toNat)) ∧ Ch No w w' := by
  refine callsIn_wide (n := 3) |>.1 ?_
  refine callsIn_of_wp_marks Try.func32 rfl trivial ?_ rfl
  simp only [Try.ntmps32, List.size_toArray, List.length_cons, List.length_nil, Nat.reduceAdd, Nat.reduceSub, Array.replicate_succ, Array.replicate_zero, List.push_toArray, List.append_toArray, List.nil_append, List.cons_append]
  have hlt := h.lt
  obtain ⟨i0, hi, hz0, hz1, hz2⟩ := info_parts infoInt
  by_cases hm : most ≤ 0
  · gi_wp2
    have ht : (poorAll L).take most.toNat = [] := by rw [show most.toNat = 0 from by omega]; rfl
    rw [ht]
    have q := World.ownsRow_lit (base := w.heap.size) (e := 3) (size := 1) ((w.alloc (.cells #[.int .i64 most] 3)).alloc (.cells #[.slice (some ⟨w.heap.size + 1 + 1, 0, none⟩) 0 0] 56)) #[] 0 (by simp; omega) (by simp) rfl
    have q2 := q.alloc (.cells #[.slice (some ⟨w.heap.size + 1 + 1, 0, none⟩) 0 0] 56)
    have q3 : (((w.alloc (.cells #[.int .i64 most] 3)).alloc (.cells #[.slice (some ⟨w.heap.size + 1 + 1, 0, none⟩) 0 0] 56)).alloc (.cells #[] 3)).cell? ⟨w.heap.size + 1, 0, none⟩ = some (.slice (some ⟨w.heap.size + 1 + 1, 0, none⟩) 0 0) := by
      have := ((Boxed.new (w.alloc (.cells #[.int .i64 most] 3)) 56 (.slice (some ⟨w.heap.size + 1 + 1, 0, none⟩) 0 0)).alloc (.cells #[] 3)).cell
      simpa using this
    refine ⟨.slice (some ⟨w.heap.size + 1 + 1, 0, none⟩) 0 0, by simp [results, Try.f32, go_sem], _, rfl, by simpa [OwnS, ints] using q2, (((Ch.refl No w).alloc _).alloc _).alloc _ |>.alloc _⟩
  · gi_wp2
    refine ⟨trivial, ?_⟩
    refine (callsIn_wide.2 (Poor_any _ _)).mono ?_
    rintro e w1 ⟨rfl, rfl⟩
    gi_wp2
    have bM : Boxed (((((w.alloc (.cells #[.int .i64 most] 3)).alloc (.cells #[.slice none 0 0] 56)).alloc (.cells #[] 3)).alloc (.cells #[.slice (some ⟨w.heap.size + 1 + 1, 0, none⟩) 0 0] 56)).alloc (.cells #[.pointer (some ⟨g, 0, none⟩)] 57)) w.heap.size 3 (.int .i64 most) := ((((Boxed.new w _ _).alloc _).alloc _).alloc _).alloc _
    have bR : Boxed (((((w.alloc (.cells #[.int .i64 most] 3)).alloc (.cells #[.slice none 0 0] 56)).alloc (.cells #[] 3)).alloc (.cells #[.slice (some ⟨w.heap.size + 1 + 1, 0, none⟩) 0 0] 56)).alloc (.cells #[.pointer (some ⟨g, 0, none⟩)] 57)) (w.heap.size + 1) 56 (.slice none 0 0) := by
      have := (((Boxed.new (w.alloc (.cells #[.int .i64 most] 3)) 56 (.slice none 0 0)).alloc (.cells #[] 3)).alloc (.cells #[.slice (some ⟨w.heap.size + 1 + 1, 0, none⟩) 0 0] 56)).alloc (.cells #[.pointer (some ⟨g, 0, none⟩)] 57)
      simpa using this
    have bO : Boxed (((((w.alloc (.cells #[.int .i64 most] 3)).alloc (.cells #[.slice none 0 0] 56)).alloc (.cells #[] 3)).alloc (.cells #[.slice (some ⟨w.heap.size + 1 + 1, 0, none⟩) 0 0] 56)).alloc (.cells #[.pointer (some ⟨g, 0, none⟩)] 57)) (w.heap.size + 1 + 1 + 1) 56 (.slice (some ⟨w.heap.size + 1 + 1, 0, none⟩) 0 0) := by
      have := (Boxed.new (((w.alloc (.cells #[.int .i64 most] 3)).alloc (.cells #[.slice none 0 0] 56)).alloc (.cells #[] 3)) 56 (.slice (some ⟨w.heap.size + 1 + 1, 0, none⟩) 0 0)).alloc (.cells #[.pointer (some ⟨g, 0, none⟩)] 57)
      simpa using this
    have bX : Boxed (((((w.alloc (.cells #[.int .i64 most] 3)).alloc (.cells #[.slice none 0 0] 56)).alloc (.cells #[] 3)).alloc (.cells #[.slice (some ⟨w.heap.size + 1 + 1, 0, none⟩) 0 0] 56)).alloc (.cells #[.pointer (some ⟨g, 0, none⟩)] 57)) (w.heap.size + 1 + 1 + 1 + 1) 57 (.pointer (some ⟨g, 0, none⟩)) := by
      have := Boxed.new ((((w.alloc (.cells #[.int .i64 most] 3)).alloc (.cells #[.slice none 0 0] 56)).alloc (.cells #[] 3)).alloc (.cells #[.slice (some ⟨w.heap.size + 1 + 1, 0, none⟩) 0 0] 56)) 57 (.pointer (some ⟨g, 0, none⟩))
      simpa using this
    have rO : (((((w.alloc (.cells #[.int .i64 most] 3)).alloc (.cells #[.slice none 0 0] 56)).alloc (.cells #[] 3)).alloc (.cells #[.slice (some ⟨w.heap.size + 1 + 1, 0, none⟩) 0 0] 56)).alloc (.cells #[.pointer (some ⟨g, 0, none⟩)] 57)).ownsRow (w.heap.size + 2) 3 1 (.slice (some ⟨w.heap.size + 1 + 1, 0, none⟩) 0 0) 0 [] := by
      have q := World.ownsRow_lit (base := w.heap.size + 2) (e := 3) (size := 1) ((w.alloc (.cells #[.int .i64 most] 3)).alloc (.cells #[.slice none 0 0] 56)) #[] 0 (by simp) (by simp) rfl
      have q2 := (q.alloc (.cells #[.slice (some ⟨w.heap.size + 1 + 1, 0, none⟩) 0 0] 56)).alloc (.cells #[.pointer (some ⟨g, 0, none⟩)] 57)
      simpa using q2
    have C5 : Ch No w (((((w.alloc (.cells #[.int .i64 most] 3)).alloc (.cells #[.slice none 0 0] 56)).alloc (.cells #[] 3)).alloc (.cells #[.slice (some ⟨w.heap.size + 1 + 1, 0, none⟩) 0 0] 56)).alloc (.cells #[.pointer (some ⟨g, 0, none⟩)] 57)) := (((((Ch.refl No w).alloc _).alloc _).alloc _).alloc _).alloc _
    have z5 : (((((w.alloc (.cells #[.int .i64 most] 3)).alloc (.cells #[.slice none 0 0] 56)).alloc (.cells #[] 3)).alloc (.cells #[.slice (some ⟨w.heap.size + 1 + 1, 0, none⟩) 0 0] 56)).alloc (.cells #[.pointer (some ⟨g, 0, none⟩)] 57)).heap.size = w.heap.size + 5 := by simp
    generalize ((((w.alloc (.cells #[.int .i64 most] 3)).alloc (.cells #[.slice none 0 0] 56)).alloc (.cells #[] 3)).alloc (.cells #[.slice (some ⟨w.heap.size + 1 + 1, 0, none⟩) 0 0] 56)).alloc (.cells #[.pointer (some ⟨g, 0, none⟩)] 57) = w5 at *
    have hpl := poorAll_len L
    refine wpIn_rangeFunc_ownG (w0 := w5) rfl (by omega) (gf := 39) (lb := #[.pointer (some ⟨w.heap.size + 1 + 1 + 1 + 1, 0, none⟩)]) rfl trivial (enters_of Try.func39 (by kernel_rfl) rfl)
      (Poor_stops 2 (by omega) (w.heap.size + 1 + 1 + 1 + 1) w.heap.size B g k L hlt (fun i hi => (h.klt hi).2) w5 (by omega) bX.cell (h.ch C5 (fun h => h) (fun _ _ h => h)) hl) KpB.trans (KpB.bk (by omega) (by omega)) (Below.refl _ _) (fun _ => rfl)
      (fun (pre : List Int) W => (∃ v, Boxed W (w.heap.size + 1 + 1 + 1) 56 v ∧ W.ownsRow (w.heap.size + 2) 3 1 v pre.length (pre.map (Value.int .i64)) ∧ True) ∧ (Boxed W w.heap.size 3 (.int .i64 most) ∧ Boxed W (w.heap.size + 1) 56 (.slice none 0 0) ∧ Boxed W (w.heap.size + 1 + 1 + 1 + 1) 57 (.pointer (some ⟨g, 0, none⟩))) ∧ (pre.length : Int) < most ∧ Below w.heap.size w W)
      (fun c (pre : List Int) W => c = .ret ∧ (∃ v, Boxed W (w.heap.size + 1) 56 v ∧ W.ownsRow (w.heap.size + 2) 3 1 v pre.length (pre.map (Value.int .i64)) ∧ True) ∧ (pre.length : Int) = most ∧ Below w.heap.size w W)
      (OwnFrom.and (Own.from (holdsRow_own _ _ _ _ 1 (fun pre : List Int => pre.length) (fun pre : List Int => pre.map (Value.int .i64)) (fun (_ : List Int) _ => True)) _) (OwnFrom.and (OwnFrom.and (Own.from (boxed_own _ _ (fun _ : List Int => _)) _) (OwnFrom.and (Own.from (boxed_own _ _ (fun _ : List Int => _)) _) (Own.from (boxed_own _ _ (fun _ : List Int => _)) _))) (OwnFrom.and (ownFrom_pure _ (fun pre : List Int => ((pre.length : Nat) : Int) < most)) (ownFrom_below (Nat.le_refl _) (by omega)))))
      (fun c => OwnFrom.and (ownFrom_pure _ (fun _ : List Int => c = .ret)) (OwnFrom.and (Own.from (holdsRow_own _ _ _ _ 1 (fun pre : List Int => pre.length) (fun pre : List Int => pre.map (Value.int .i64)) (fun (_ : List Int) _ => True)) _) (OwnFrom.and (ownFrom_pure _ (fun pre : List Int => ((pre.length : Nat) : Int) = most)) (ownFrom_below (Nat.le_refl _) (by omega)))))
      ⟨⟨_, bO, rO, trivial⟩, ⟨bM, bR, bX⟩, by simp; omega, C5.same⟩
      (fun x => { tmps := #[.pointer (some ⟨g, 0, none⟩), .int .i64 most, undef, .pointer (some ⟨w.heap.size, 0, none⟩), .pointer (some ⟨w.heap.size + 1, 0, none⟩), .pointer (some ⟨w.heap.size + 1 + 1 + 1, 0, none⟩), .int .i64 x, .slice (some ⟨w.heap.size + 1 + 1, 0, none⟩) 0 0, .int .i64 most, .bool false, undef, .pointer (some ⟨g, 0, none⟩), .func (.func 39) #[] #[.pointer (some ⟨w.heap.size + 1 + 1 + 1 + 1, 0, none⟩)], .int .i64 x, undef, undef, undef, undef, undef, undef, undef, undef, undef, undef], defers := [] }) ?assign ?body ?done ?stop
    case assign =>
      intro l x W K hK
      gi_wp2
      exact hK
    case body =>
      rintro l pre x W ⟨⟨v, hv, hrow, _⟩, ⟨h3, h4, hx⟩, hlen, hB⟩ hlt'
      have hc := hv.cell
      have hsz : w.heap.size + 5 ≤ W.heap.size := by have := hx.lt; omega
      have hrow2 : W.ownsRow (w.heap.size + 2) 3 1 v pre.length (pre.map (Value.int .i64)) := hrow
      have hn3 : some w.heap.size ≠ v.ownBlock := fun e => by have := (hrow.lt _ e.symm).1; omega
      have hn4 := h4.not_row (e := 3) (by decide) hrow
      have hnx := hx.not_row (e := 3) (by decide) hrow
      have hpm : (pre.map (Value.int .i64)).length = pre.length := by simp
      obtain ⟨m, hmm⟩ : ∃ m : Nat, most = m := ⟨most.toNat, by omega⟩
      subst hmm
      by_cases he : pre.length + 1 = m
      · gi_wp2_with (gi_at_builtin; refine wpListIn_append_own _ rfl _ _ 56 rfl (w.heap.size + 2) 3 i0 (.int .i64 0) 1 8 Try.underlying56 hi hz0 hz1 hz2 rfl (by decide) _ _ _ rfl (hrow.alloc _) ⟨W.heap.size, 0, none⟩ 1 1 [.int .i64 x] rfl rfl (cell_one_new _ _ _) (by simp [Value.oneCell']) (by simp [maxLen]; omega) (by omega) (by simp; omega) ?_; intro v' w1 hown' hgrow _; obtain ⟨g', cap', rfl⟩ := ownsRow_succ hown'; obtain ⟨hv1, hv2, hr2, hk2, hb2⟩ := hv.appended (by decide) hrow (by omega) (by omega) hown' hgrow; have hc1 := hv1.cell; have hf1 := hv1.frozen; have h3w := ((h3.alloc _).kept hgrow hn3); have h4w := ((h4.alloc _).kept hgrow hn4); have c3 := h3w.cell; have hxw := ((hx.alloc _).kept hgrow hnx); have f4 := h4w.frozen; have c4 := h4w.cell)
        have hb3 := hb2.mono (show w.heap.size ≤ w.heap.size + 2 by omega)
        have hg2 : w.heap.size + 2 ≤ g' := (hr2.lt g' rfl).1
        rw [he] at hk2 hb3 hr2
        refine ⟨(hk2.trans (KeepsOthers.setCell _ _ _)).from _, rfl, ⟨_, (h4w.other (by omega) _).set _, ?_, trivial⟩, by simp; omega, (hB.trans hb3).setCell (p := ⟨w.heap.size + 1, 0, none⟩) (by simp) _⟩
        have q := hr2.kept (grownBy_setCell' _ (w.heap.size + 1) (.slice (some ⟨g', 0, none⟩) m cap')) (.inr (by simp [Value.ownBlock]; omega))
        simpa [he] using q
      · gi_wp2_with (gi_at_builtin; refine wpListIn_append_own _ rfl _ _ 56 rfl (w.heap.size + 2) 3 i0 (.int .i64 0) 1 8 Try.underlying56 hi hz0 hz1 hz2 rfl (by decide) _ _ _ rfl (hrow.alloc _) ⟨W.heap.size, 0, none⟩ 1 1 [.int .i64 x] rfl rfl (cell_one_new _ _ _) (by simp [Value.oneCell']) (by simp [maxLen]; omega) (by omega) (by simp; omega) ?_; intro v' w1 hown' hgrow _; obtain ⟨g', cap', rfl⟩ := ownsRow_succ hown'; obtain ⟨hv1, hv2, hr2, hk2, hb2⟩ := hv.appended (by decide) hrow (by omega) (by omega) hown' hgrow; have hc1 := hv1.cell; have hf1 := hv1.frozen; have h3w := ((h3.alloc _).kept hgrow hn3); have h4w := ((h4.alloc _).kept hgrow hn4); have c3 := h3w.cell; have hxw := ((hx.alloc _).kept hgrow hnx); have f4 := h4w.frozen; have c4 := h4w.cell)
        have hb3 := hb2.mono (show w.heap.size ≤ w.heap.size + 2 by omega)
        have hg2 : w.heap.size + 2 ≤ g' := (hr2.lt g' rfl).1
        have hxw2 := hxw.other (B' := w.heap.size + 1 + 1 + 1) (by omega) (.slice (some ⟨g', 0, none⟩) (pre.length + 1) cap')
        refine ⟨hk2.from _, ⟨hb3, Eq.trans hxw2 (Eq.symm hx)⟩, ⟨_, hv2, by simpa using hr2, trivial⟩, ⟨h3w.other (by omega) _, h4w.other (by omega) _, hxw2⟩, by simp; omega, hB.trans hb3⟩
    case done =>
      rintro D ys W hD rfl ⟨⟨v, hv, hrow, _⟩, ⟨h3, h4, hx⟩, hlen, hB⟩ hK
      obtain ⟨Av, cv, rfl, _⟩ := (show OwnS W (w.heap.size + 2) 3 v (ints .i64 (poorAll L)) by simpa [OwnS, ints] using hrow).slice_ints
      have hc := hv.cell
      have f4 := h4.frozen
      have c4 := h4.cell
      gi_wp2
      refine ⟨by simp, .inl ⟨_, _, rfl, run_takeDeferred ((KeepsOthers.setCell _ _ _).same D _ hK rfl), ?_⟩⟩
      have hv4 := h4.set (.slice Av (poorAll L).length cv)
      have hK4 := (KeepsOthers.setCell W ⟨w.heap.size + 1, 0, none⟩ (.slice Av (poorAll L).length cv)).same D _ hK rfl
      have hc5 := cell_kept hv4.cell (grownBy_putObj' _ D (.deferred none)) (fun r e => by cases e; exact ⟨_, hK4, rfl⟩)
      have ht : (poorAll L).take most.toNat = poorAll L := List.take_of_length_le (by omega)
      have hr4 := hrow.kept (grownBy_setCell' W (w.heap.size + 1) (.slice Av (poorAll L).length cv)) (.inr (fun e => by have := (hrow.lt _ e).1; omega))
      refine ⟨.slice Av (poorAll L).length cv, by simp [results, Try.f32, go_sem, hc5], _, rfl, ?_, Ch.of_below ((hB.setCell (p := ⟨w.heap.size + 1, 0, none⟩) (by simp) _).trans (belowK_b (w := w) (Nat.le_refl _) _ D _ _ (by omega) hK4 rfl rfl))⟩
      rw [ht]
      have q := ownsRow_putObj hr4 (.deferred none) hK4 rfl
      exact OwnS.lower (B := w.heap.size + 2) (by simpa [OwnS, ints] using q) (by omega)
    case stop =>
      rintro D c pre W hD hpre ⟨rfl, ⟨v, hv, hrow, _⟩, hlen, hB⟩ hK
      gi_wp2
      refine ⟨by simp, .inl ⟨_, _, rfl, run_takeDeferred hK, ?_⟩⟩
      have hc5 := cell_kept hv.cell (grownBy_putObj' _ D (.deferred none)) (fun r e => by cases e; exact ⟨_, hK, rfl⟩)
      have ht : (poorAll L).take most.toNat = pre := by
        obtain ⟨t, ht⟩ := hpre
        rw [← ht, show most.toNat = pre.length from by omega, List.take_left']
        rfl
      refine ⟨v, by simp [results, Try.f32, go_sem, hc5], v, rfl, ?_, Ch.of_below (hB.trans (belowK_b (w := w) (Nat.le_refl _) W D _ _ (by omega) hK rfl rfl))⟩
      rw [ht]
      have q := ownsRow_putObj hrow (.deferred none) hK rfl
      exact OwnS.lower (B := w.heap.size + 2) (by simpa [OwnS, ints] using q) (by omega)
end Go.Proofs.Ytjphocpnmhheeaa
