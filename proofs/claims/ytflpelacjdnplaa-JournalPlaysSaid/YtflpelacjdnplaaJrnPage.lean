/- journal: Page. -/
import Derived.Test.YtflpelacjdnplaaJrnAll
namespace Go.Proofs.Ytflpelacjdnplaa
open Go.RowKit Go.Shelf

attribute [local go_sem] Oper.semAt_some

theorem JAll_any (w : World) (p : Option Addr) : Calls Try.prog 40 #[.pointer p] w fun e w' => e = .returned (.func (.func 58) #[] #[.pointer (some ⟨w.heap.size, 0, none⟩)]) ∧ w' = w.alloc (.cells #[.pointer p] 24) := by
  go_enter Try.func40, Try.ntmps40
  go_wp2_with fail
  go_ret
  exact ⟨rfl, rfl⟩
theorem JAll_stops (n : Nat) (hn : 1 ≤ n) (Bn n₀ jb m c gone cap : Nat) (A : Option Addr) (L : List Ent) (hjb : jb < n₀) (hA : ∀ a, A = some a → a.block < n₀) (hg : gone ≤ 1000000000000) (hm : m ≤ 1000000)
    (w : World) (hn₀ : n₀ ≤ w.heap.size) (hBn : w.cell? ⟨Bn, 0, none⟩ = some (.pointer (some ⟨jb, 0, none⟩))) (hJ : Jr w jb A m c gone cap L) :
    SeqStopsK Fence.wide n Try.prog 58 #[.pointer (some ⟨Bn, 0, none⟩)] enV (KpA n₀ Bn) (fun ys => ys = numJ gone L L.length) (fun pre => pre <+: numJ gone L L.length) L.length w :=
  fun l J Jx W hW hJa _ hY h0 => JAll1_in n hn l Bn n₀ jb m c gone cap A L hjb hA hg hm J Jx (fun pre A C hj hc => hJa pre A C none hj ⟨hc.os, hc.tape, hc.output, hc.size, fun i hi _ => hc.block i hi (fun h => h)⟩ (fun r e => by cases e)) hY W (Nat.le_trans hn₀ hW.size) (Nat.lt_of_lt_of_le (World.block_lt_of_cell? _ _ hBn) hW.size)
    ((hW.cell (p := ⟨Bn, 0, none⟩) (World.block_lt_of_cell? _ _ hBn)).trans hBn) (hJ.no (Ch.of_below (S := No) hW)) h0

theorem intInfo : (Try.prog.info? 3).map (fun i => (i.zero, i.size, i.bytes)) = some (some (.int .i64 0), 1, 8) := by kernel_rfl
/-- which entries a page asks for -/
def selJ (tenant from_ : Int) (pre : List (Int × Ent)) : List Int := (pre.filter fun p => decide (from_ ≤ p.1) && (decide (tenant ≤ -2) || decide (p.2.tenant = tenant))).map Prod.fst
theorem selJ_snoc (tenant from_ : Int) (pre : List (Int × Ent)) (x : Int × Ent) : selJ tenant from_ (pre ++ [x]) = selJ tenant from_ pre ++ (if decide (from_ ≤ x.1) && (decide (tenant ≤ -2) || decide (x.2.tenant = tenant)) then [x.1] else []) := by
  unfold selJ
  rw [List.filter_append, List.map_append]
  congr 1
  by_cases h : (decide (from_ ≤ x.1) && (decide (tenant ≤ -2) || decide (x.2.tenant = tenant))) = true
  · simp [List.filter, h]
  · simp only [Bool.not_eq_true] at h
    simp [List.filter, h]
theorem selJ_app (tenant from_ : Int) (pre post : List (Int × Ent)) : selJ tenant from_ (pre ++ post) = selJ tenant from_ pre ++ selJ tenant from_ post := by
  unfold selJ
  rw [List.filter_append, List.map_append]
theorem selJ_len (tenant from_ : Int) (pre : List (Int × Ent)) : (selJ tenant from_ pre).length ≤ pre.length := by
  unfold selJ
  rw [List.length_map]
  exact List.length_filter_le _ _
/-- how many a page has at most -/
def pageN (n : Int) : Nat := (min (max n 0) 16).toNat
/-- the numbers of a page -/
def pageJ (gone : Nat) (L : List Ent) (tenant from_ n : Int) : List Int := (selJ tenant from_ (numJ gone L L.length)).take (pageN n)

set_option maxRecDepth 100000 in
set_option maxHeartbeats 8000000 in
theorem JPage_any (w : World) (jb m c gone cap : Nat) (A : Option Addr) (L : List Ent) (h : Jr w jb A m c gone cap L) (hg : gone ≤ 1000000000000) (hm : m ≤ 1000000) (tenant from_ n : Int) :
    Calls Try.prog 26 #[.pointer (some ⟨jb, 0, none⟩), .int .i64 tenant, .int .i64 from_, .int .i64 n] w fun e w' => ∃ v, e = .returned v ∧ OwnS w' w.heap.size 3 v (ints .i64 (pageJ gone L tenant from_ n)) ∧ Ch No w w' := by
  refine callsIn_wide (n := 3) |>.1 ?_
  refine callsIn_of_wp_marks Try.func26 rfl trivial ?_ rfl
  simp only [Try.ntmps26, List.size_toArray, List.length_cons, List.length_nil, Nat.reduceAdd, Nat.reduceSub, Array.replicate_succ, Array.replicate_zero, List.push_toArray, List.append_toArray, List.nil_append, List.cons_append]
  have hlt := h.lt
  have hjA := fun a ha => (h.row.blk a ha).2
  have hmx := fun ts t w => run_max2 ts t n 0 w
  obtain ⟨mx, hmx0⟩ : ∃ mx, (if n < 0 then 0 else n) = mx := ⟨_, rfl⟩
  have hmn := fun ts t w => run_min2 ts t mx 16 w
  obtain ⟨N, hN⟩ : ∃ N, pageN n = N := ⟨_, rfl⟩
  have hmn0 : (if (16 : Int) < mx then 16 else mx) = (N : Int) := by
    rw [← hN]
    unfold pageN
    split at hmx0 <;> split <;> omega
  have hN16 : N ≤ 16 := by rw [← hN]; unfold pageN; omega
  rw [hmx0] at hmx
  rw [hmn0] at hmn
  have HN := Lib.hid hN
  have HJ := Lib.hid h
  clear hmx0 hmn0 hN h
  obtain ⟨i0, hi, hz0, hz1, hz2⟩ := info_parts intInfo
  gi_wp2
  refine ⟨trivial, ?_⟩
  refine (callsIn_wide.2 (JAll_any _ _)).mono ?_
  rintro e w1 ⟨rfl, rfl⟩
  gi_wp2
  have bT : Boxed (((((w.alloc (.cells #[.int .i64 tenant] 3)).alloc (.cells #[.int .i64 from_] 3)).alloc (.cells #[.int .i64 N] 3)).alloc (.cells #[.slice none 0 0] 44)).alloc (.cells #[.pointer (some ⟨jb, 0, none⟩)] 24)) w.heap.size 3 (.int .i64 tenant) := ((((Boxed.new w _ _).alloc _).alloc _).alloc _).alloc _
  have bF : Boxed (((((w.alloc (.cells #[.int .i64 tenant] 3)).alloc (.cells #[.int .i64 from_] 3)).alloc (.cells #[.int .i64 N] 3)).alloc (.cells #[.slice none 0 0] 44)).alloc (.cells #[.pointer (some ⟨jb, 0, none⟩)] 24)) (w.heap.size + 1) 3 (.int .i64 from_) := by
    have := (((Boxed.new (w.alloc (.cells #[.int .i64 tenant] 3)) 3 (.int .i64 from_)).alloc (.cells #[.int .i64 N] 3)).alloc (.cells #[.slice none 0 0] 44)).alloc (.cells #[.pointer (some ⟨jb, 0, none⟩)] 24)
    simpa using this
  have bN : Boxed (((((w.alloc (.cells #[.int .i64 tenant] 3)).alloc (.cells #[.int .i64 from_] 3)).alloc (.cells #[.int .i64 N] 3)).alloc (.cells #[.slice none 0 0] 44)).alloc (.cells #[.pointer (some ⟨jb, 0, none⟩)] 24)) (w.heap.size + 1 + 1) 3 (.int .i64 N) := by
    have := ((Boxed.new ((w.alloc (.cells #[.int .i64 tenant] 3)).alloc (.cells #[.int .i64 from_] 3)) 3 (.int .i64 N)).alloc (.cells #[.slice none 0 0] 44)).alloc (.cells #[.pointer (some ⟨jb, 0, none⟩)] 24)
    simpa using this
  have bO : Boxed (((((w.alloc (.cells #[.int .i64 tenant] 3)).alloc (.cells #[.int .i64 from_] 3)).alloc (.cells #[.int .i64 N] 3)).alloc (.cells #[.slice none 0 0] 44)).alloc (.cells #[.pointer (some ⟨jb, 0, none⟩)] 24)) (w.heap.size + 1 + 1 + 1) 44 (.slice none 0 0) := by
    have := (Boxed.new (((w.alloc (.cells #[.int .i64 tenant] 3)).alloc (.cells #[.int .i64 from_] 3)).alloc (.cells #[.int .i64 N] 3)) 44 (.slice none 0 0)).alloc (.cells #[.pointer (some ⟨jb, 0, none⟩)] 24)
    simpa using this
  have bX : Boxed (((((w.alloc (.cells #[.int .i64 tenant] 3)).alloc (.cells #[.int .i64 from_] 3)).alloc (.cells #[.int .i64 N] 3)).alloc (.cells #[.slice none 0 0] 44)).alloc (.cells #[.pointer (some ⟨jb, 0, none⟩)] 24)) (w.heap.size + 1 + 1 + 1 + 1) 24 (.pointer (some ⟨jb, 0, none⟩)) := by
    have := Boxed.new ((((w.alloc (.cells #[.int .i64 tenant] 3)).alloc (.cells #[.int .i64 from_] 3)).alloc (.cells #[.int .i64 N] 3)).alloc (.cells #[.slice none 0 0] 44)) 24 (.pointer (some ⟨jb, 0, none⟩))
    simpa using this
  have rO : (((((w.alloc (.cells #[.int .i64 tenant] 3)).alloc (.cells #[.int .i64 from_] 3)).alloc (.cells #[.int .i64 N] 3)).alloc (.cells #[.slice none 0 0] 44)).alloc (.cells #[.pointer (some ⟨jb, 0, none⟩)] 24)).ownsRow (w.heap.size + 3) 3 1 (.slice none 0 0) 0 [] := World.ownsRow_nil _ _ _ _
  have C5 : Ch No w (((((w.alloc (.cells #[.int .i64 tenant] 3)).alloc (.cells #[.int .i64 from_] 3)).alloc (.cells #[.int .i64 N] 3)).alloc (.cells #[.slice none 0 0] 44)).alloc (.cells #[.pointer (some ⟨jb, 0, none⟩)] 24)) := (((((Ch.refl No w).alloc _).alloc _).alloc _).alloc _).alloc _
  have z5 : (((((w.alloc (.cells #[.int .i64 tenant] 3)).alloc (.cells #[.int .i64 from_] 3)).alloc (.cells #[.int .i64 N] 3)).alloc (.cells #[.slice none 0 0] 44)).alloc (.cells #[.pointer (some ⟨jb, 0, none⟩)] 24)).heap.size = w.heap.size + 5 := by simp
  generalize (((((w.alloc (.cells #[.int .i64 tenant] 3)).alloc (.cells #[.int .i64 from_] 3)).alloc (.cells #[.int .i64 N] 3)).alloc (.cells #[.slice none 0 0] 44)).alloc (.cells #[.pointer (some ⟨jb, 0, none⟩)] 24)) = w5 at *
  refine wpIn_rangeFunc_ownH (w0 := w5) rfl (by omega) (gf := 58) (lb := #[.pointer (some ⟨w.heap.size + 1 + 1 + 1 + 1, 0, none⟩)]) rfl trivial (enters_of Try.func58 (by kernel_rfl) rfl)
    (JAll_stops 2 (by omega) (w.heap.size + 1 + 1 + 1 + 1) w.heap.size jb m c gone cap A L hlt hjA hg hm w5 (by omega) bX.cell (HJ.out.no C5)) KpA.trans (KpA.bk (by omega) (by omega)) (Below.refl _ _) (fun _ => rfl)
    (fun (pre : List (Int × Ent)) W => (∃ v, Boxed W (w.heap.size + 1 + 1 + 1) 44 v ∧ W.ownsRow (w.heap.size + 3) 3 1 v (selJ tenant from_ pre).length (ints .i64 (selJ tenant from_ pre)) ∧ True) ∧ (Boxed W w.heap.size 3 (.int .i64 tenant) ∧ Boxed W (w.heap.size + 1) 3 (.int .i64 from_) ∧ Boxed W (w.heap.size + 1 + 1) 3 (.int .i64 N) ∧ Boxed W (w.heap.size + 1 + 1 + 1 + 1) 24 (.pointer (some ⟨jb, 0, none⟩))) ∧ (selJ tenant from_ pre).length ≤ N ∧ Below w.heap.size w W)
    (fun cd (pre : List (Int × Ent)) W => cd = .exit 0 ∧ (∃ v, Boxed W (w.heap.size + 1 + 1 + 1) 44 v ∧ W.ownsRow (w.heap.size + 3) 3 1 v N (ints .i64 ((selJ tenant from_ pre).take N)) ∧ True) ∧ N ≤ (selJ tenant from_ pre).length ∧ Below w.heap.size w W)
    (OwnFrom.and (Own.from (holdsRow_own _ _ _ _ 1 (fun pre : List (Int × Ent) => (selJ tenant from_ pre).length) (fun pre : List (Int × Ent) => ints .i64 (selJ tenant from_ pre)) (fun (_ : List (Int × Ent)) _ => True)) _) (OwnFrom.and (OwnFrom.and (Own.from (boxed_own _ _ (fun _ : List (Int × Ent) => _)) _) (OwnFrom.and (Own.from (boxed_own _ _ (fun _ : List (Int × Ent) => _)) _) (OwnFrom.and (Own.from (boxed_own _ _ (fun _ : List (Int × Ent) => _)) _) (Own.from (boxed_own _ _ (fun _ : List (Int × Ent) => _)) _)))) (OwnFrom.and (ownFrom_pure _ (fun pre : List (Int × Ent) => (selJ tenant from_ pre).length ≤ N)) (ownFrom_below (Nat.le_refl _) (by omega)))))
    (fun cd => fun s X Y row hs hg hr => ⟨hs.1, (OwnFrom.and (Own.from (holdsRow_own _ _ _ _ 1 (fun _ : List (Int × Ent) => N) (fun pre : List (Int × Ent) => ints .i64 ((selJ tenant from_ pre).take N)) (fun (_ : List (Int × Ent)) _ => True)) _) (OwnFrom.and (ownFrom_pure _ (fun pre : List (Int × Ent) => N ≤ (selJ tenant from_ pre).length)) (ownFrom_below (Nat.le_refl _) (by omega)))) s X Y row hs.2 hg hr⟩)
    ⟨⟨_, bO, rO, trivial⟩, ⟨bT, bF, bN, bX⟩, by simp [selJ], C5.same⟩
    (fun x a' W => ∃ Lx, Blk W Lx 32 x.2.enc ∧ a' = { tmps := #[.pointer (some ⟨jb, 0, none⟩), .int .i64 tenant, .int .i64 from_, .int .i64 n, undef, .pointer (some ⟨w.heap.size, 0, none⟩), .pointer (some ⟨w.heap.size + 1, 0, none⟩), .pointer (some ⟨w.heap.size + 1 + 1, 0, none⟩), .slice none 0 0, .pointer (some ⟨w.heap.size + 1 + 1 + 1, 0, none⟩), .int .i64 x.1, .pointer (some ⟨Lx, 0, none⟩), .int .i64 n, .int .i64 mx, .int .i64 N, .pointer (some ⟨jb, 0, none⟩), .func (.func 58) #[] #[.pointer (some ⟨w.heap.size + 1 + 1 + 1 + 1, 0, none⟩)], .int .i64 x.1, x.2.val, undef, undef, undef, undef, undef, undef, undef, undef, undef, undef, undef, undef, undef, undef, undef, undef, undef, undef, undef, undef, undef, undef], defers := [] })
    (fun x a' _ X Y row hs hg hr => by obtain ⟨Lx, h1, h2⟩ := hs; exact ⟨Lx, blk_own h1 hg (fun r e => (hr r e).2), h2⟩)
    ?assign ?body ?done ?stop
  case assign =>
    rintro l pre x W K ⟨⟨v, hv, hrow, _⟩, ⟨h3, h4, h5, hx⟩, hlen, hB⟩ hK
    have hI : (∃ v, Boxed (W.alloc (.cells x.2.enc.toArray 32)) (w.heap.size + 1 + 1 + 1) 44 v ∧ (W.alloc (.cells x.2.enc.toArray 32)).ownsRow (w.heap.size + 3) 3 1 v (selJ tenant from_ pre).length (ints .i64 (selJ tenant from_ pre)) ∧ True) ∧ (Boxed (W.alloc (.cells x.2.enc.toArray 32)) w.heap.size 3 (.int .i64 tenant) ∧ Boxed (W.alloc (.cells x.2.enc.toArray 32)) (w.heap.size + 1) 3 (.int .i64 from_) ∧ Boxed (W.alloc (.cells x.2.enc.toArray 32)) (w.heap.size + 1 + 1) 3 (.int .i64 N) ∧ Boxed (W.alloc (.cells x.2.enc.toArray 32)) (w.heap.size + 1 + 1 + 1 + 1) 24 (.pointer (some ⟨jb, 0, none⟩))) ∧ (selJ tenant from_ pre).length ≤ N ∧ Below w.heap.size w (W.alloc (.cells x.2.enc.toArray 32)) := ⟨⟨v, hv.alloc _, hrow.alloc _, trivial⟩, ⟨h3.alloc _, h4.alloc _, h5.alloc _, hx.alloc _⟩, hlen, hB.alloc hB.size _⟩
    have hKp : KpA w.heap.size (w.heap.size + 1 + 1 + 1 + 1) W (W.alloc (.cells x.2.enc.toArray 32)) := KpA.of_no ((Ch.refl No W).alloc _) hB.size hx.lt
    simp only [enV, Ent.val]
    gi_wp2
    exact hK _ _ ((KeepsOthers.alloc _ _).from _) hKp hI ⟨W.heap.size, Blk.new W _ _, rfl⟩
  case body =>
    rintro l pre ⟨x1, x2⟩ a' W hl' ⟨r, hr⟩ ⟨⟨v, hv, hrow, _⟩, ⟨h3, h4, h5, hx⟩, hlen, hB⟩ ⟨Lx, hLx, rfl⟩ hlt'
    simp only at hLx ⊢
    obtain ⟨Av, cv, rfl⟩ := row_shape hrow
    obtain ⟨p, hp⟩ : ∃ p, (selJ tenant from_ pre).length = p := ⟨_, rfl⟩
    have HP := Lib.hid hp
    rw [hp] at hv hrow hlen
    have hc := hv.cell
    have c3 := h3.cell
    have c4 := h4.cell
    have c5 := h5.cell
    have hsz : w.heap.size + 5 ≤ W.heap.size := by have := hx.lt; omega
    have k2 := hLx.cell 2
    simp only [Ent.enc, List.getElem?_cons_zero, List.getElem?_cons_succ] at k2
    have hn3 : some w.heap.size ≠ (Value.slice Av p cv).ownBlock := fun e => by have := (hrow.lt _ e.symm).1; omega
    have hn4 : some (w.heap.size + 1) ≠ (Value.slice Av p cv).ownBlock := fun e => by have := (hrow.lt _ e.symm).1; omega
    have hn5 : some (w.heap.size + 1 + 1) ≠ (Value.slice Av p cv).ownBlock := fun e => by have := (hrow.lt _ e.symm).1; omega
    have hnx := hx.not_row (e := 3) (by decide) hrow
    clear hp
    by_cases hpN : p = N
    · have he : ((p : Int) == (N : Int)) = true := by rw [hpN]; simp
      have HE := Lib.hid hpN
      clear hpN
      gi_wp2
      refine ⟨KeepsFrom.refl _ _, rfl, ⟨_, hv, ?_, trivial⟩, ?_, hB⟩
      · rw [selJ_snoc, List.take_append_of_le_length (by have := HP.out; have := HE.out; omega), List.take_of_length_le (by have := HP.out; have := HE.out; omega), ← HE.out]
        exact hrow
      · rw [selJ_snoc, List.length_append, HP.out, HE.out]
        omega
    · have he : ((p : Int) == (N : Int)) = false := by simpa using (by omega : ¬ (p : Int) = (N : Int))
      have hpl : p < N := by omega
      clear hpN
      by_cases hf : from_ ≤ x1
      · by_cases ht : tenant ≤ -2
        · have HSEL : Hid ((if decide (from_ ≤ x1) && (decide (tenant ≤ -2) || decide (x2.tenant = tenant)) then [x1] else []) = [x1]) := Lib.hid (by simp [hf, ht])
          gi_wp2_with (gi_at_builtin; refine wpListIn_append_own _ rfl _ _ 44 rfl (w.heap.size + 3) 3 i0 (.int .i64 0) 1 8 Try.underlying44 hi hz0 hz1 hz2 rfl (by decide) _ _ _ rfl (hrow.alloc _) ⟨W.heap.size, 0, none⟩ 1 1 [.int .i64 x1] rfl rfl (cells_new _ [.int .i64 x1] _) (by simp [Value.oneCell']) (by simp [maxLen]; omega) (by omega) (by simp; omega) ?_; intro v' w1 hown' hgrow _; obtain ⟨g', cap', rfl⟩ := ownsRow_succ hown'; obtain ⟨hv1, hv2, hr2, hk2, hb2⟩ := hv.appended (by decide) hrow (by omega) (by omega) hown' hgrow; have hc1 := hv1.cell; have hf1 := hv1.frozen; have h3w := ((h3.alloc _).kept hgrow hn3); have h4w := ((h4.alloc _).kept hgrow hn4); have h5w := ((h5.alloc _).kept hgrow hn5); have hxw := ((hx.alloc _).kept hgrow hnx))
          have hb3 := hb2.mono (show w.heap.size ≤ w.heap.size + 3 by omega)
          have hg2 : w.heap.size + 3 ≤ g' := (hr2.lt g' rfl).1
          have hxw2 := hxw.other (B' := w.heap.size + 1 + 1 + 1) (by omega) (.slice (some ⟨g', 0, none⟩) (p + 1) cap')
          have hrr : (w1.setCell ⟨w.heap.size + 1 + 1 + 1, 0, none⟩ (.slice (some ⟨g', 0, none⟩) (p + 1) cap')).ownsRow (w.heap.size + 3) 3 1 (.slice (some ⟨g', 0, none⟩) (p + 1) cap') (selJ tenant from_ (pre ++ [(x1, x2)])).length (ints .i64 (selJ tenant from_ (pre ++ [(x1, x2)]))) := by
            rw [selJ_snoc, HSEL.out, List.length_append, HP.out]
            simpa [ints] using hr2
          refine ⟨hk2.from _, ⟨hb3, Eq.trans hxw2 (Eq.symm hx)⟩, ⟨_, hv2, ?_⟩, ⟨h3w.other (by omega) _, h4w.other (by omega) _, h5w.other (by omega) _, hxw2⟩, ?_, hB.trans hb3⟩
          · first | exact hrr | exact ⟨hrr, trivial⟩
          · rw [selJ_snoc, HSEL.out, List.length_append, HP.out]
            simp
            omega
        · by_cases hq : x2.tenant = tenant
          · have HSEL : Hid ((if decide (from_ ≤ x1) && (decide (tenant ≤ -2) || decide (x2.tenant = tenant)) then [x1] else []) = [x1]) := Lib.hid (by simp [hf, hq])
            have hqq : (x2.tenant == tenant) = true := by simpa using hq
            clear hq
            gi_wp2_with (gi_at_builtin; refine wpListIn_append_own _ rfl _ _ 44 rfl (w.heap.size + 3) 3 i0 (.int .i64 0) 1 8 Try.underlying44 hi hz0 hz1 hz2 rfl (by decide) _ _ _ rfl (hrow.alloc _) ⟨W.heap.size, 0, none⟩ 1 1 [.int .i64 x1] rfl rfl (cells_new _ [.int .i64 x1] _) (by simp [Value.oneCell']) (by simp [maxLen]; omega) (by omega) (by simp; omega) ?_; intro v' w1 hown' hgrow _; obtain ⟨g', cap', rfl⟩ := ownsRow_succ hown'; obtain ⟨hv1, hv2, hr2, hk2, hb2⟩ := hv.appended (by decide) hrow (by omega) (by omega) hown' hgrow; have hc1 := hv1.cell; have hf1 := hv1.frozen; have h3w := ((h3.alloc _).kept hgrow hn3); have h4w := ((h4.alloc _).kept hgrow hn4); have h5w := ((h5.alloc _).kept hgrow hn5); have hxw := ((hx.alloc _).kept hgrow hnx))
            have hb3 := hb2.mono (show w.heap.size ≤ w.heap.size + 3 by omega)
            have hg2 : w.heap.size + 3 ≤ g' := (hr2.lt g' rfl).1
            have hxw2 := hxw.other (B' := w.heap.size + 1 + 1 + 1) (by omega) (.slice (some ⟨g', 0, none⟩) (p + 1) cap')
            have hrr : (w1.setCell ⟨w.heap.size + 1 + 1 + 1, 0, none⟩ (.slice (some ⟨g', 0, none⟩) (p + 1) cap')).ownsRow (w.heap.size + 3) 3 1 (.slice (some ⟨g', 0, none⟩) (p + 1) cap') (selJ tenant from_ (pre ++ [(x1, x2)])).length (ints .i64 (selJ tenant from_ (pre ++ [(x1, x2)]))) := by
              rw [selJ_snoc, HSEL.out, List.length_append, HP.out]
              simpa [ints] using hr2
            refine ⟨hk2.from _, ⟨hb3, Eq.trans hxw2 (Eq.symm hx)⟩, ⟨_, hv2, ?_⟩, ⟨h3w.other (by omega) _, h4w.other (by omega) _, h5w.other (by omega) _, hxw2⟩, ?_, hB.trans hb3⟩
            · first | exact hrr | exact ⟨hrr, trivial⟩
            · rw [selJ_snoc, HSEL.out, List.length_append, HP.out]
              simp
              omega
          · have HSEL : Hid ((if decide (from_ ≤ x1) && (decide (tenant ≤ -2) || decide (x2.tenant = tenant)) then [x1] else []) = []) := Lib.hid (by simp [ht, hq])
            have hqq : (x2.tenant == tenant) = false := by simpa using hq
            clear hq
            gi_wp2
            have hrr : W.ownsRow (w.heap.size + 3) 3 1 (.slice Av p cv) (selJ tenant from_ (pre ++ [(x1, x2)])).length (ints .i64 (selJ tenant from_ (pre ++ [(x1, x2)]))) := by
              rw [selJ_snoc, HSEL.out, List.append_nil, HP.out]
              exact hrow
            refine ⟨KeepsFrom.refl _ _, ⟨Below.refl _ _, rfl⟩, ⟨_, hv, ?_⟩, ⟨h3, h4, h5, hx⟩, ?_, hB⟩
            · first | exact hrr | exact ⟨hrr, trivial⟩
            · rw [selJ_snoc, HSEL.out, List.length_append, HP.out]
              simp
              omega
      · have HSEL : Hid ((if decide (from_ ≤ x1) && (decide (tenant ≤ -2) || decide (x2.tenant = tenant)) then [x1] else []) = []) := Lib.hid (by simp [hf])
        gi_wp2
        have hrr : W.ownsRow (w.heap.size + 3) 3 1 (.slice Av p cv) (selJ tenant from_ (pre ++ [(x1, x2)])).length (ints .i64 (selJ tenant from_ (pre ++ [(x1, x2)]))) := by
          rw [selJ_snoc, HSEL.out, List.append_nil, HP.out]
          exact hrow
        refine ⟨KeepsFrom.refl _ _, ⟨Below.refl _ _, rfl⟩, ⟨_, hv, ?_⟩, ⟨h3, h4, h5, hx⟩, ?_, hB⟩
        · first | exact hrr | exact ⟨hrr, trivial⟩
        · rw [selJ_snoc, HSEL.out, List.length_append, HP.out]
          simp
          omega
  case done =>
    rintro D ys W hD rfl ⟨⟨v, hv, hrow, _⟩, ⟨h3, h4, h5, hx⟩, hlen, hB⟩ hK
    obtain ⟨Av, cv, rfl⟩ := row_shape hrow
    have hc := hv.cell
    obtain ⟨p, hp⟩ : ∃ p, (selJ tenant from_ (numJ gone L L.length)).length = p := ⟨_, rfl⟩
    have HP := Lib.hid hp
    rw [hp] at hrow hc hlen
    clear hp
    gi_wp2
    refine ⟨by simp, .inl ⟨_, _, rfl, run_takeDeferred hK, ?_⟩⟩
    refine ⟨.slice Av p cv, by simp [results, Try.f26, go_sem], _, rfl, ?_, Ch.of_below (hB.trans (belowK_b (w := w) (Nat.le_refl _) W D _ _ (by omega) hK rfl rfl))⟩
    unfold pageJ
    rw [HN.out]
    have q := ownsRow_putObj hrow (.deferred none) hK rfl
    rw [List.take_of_length_le (by rw [HP.out]; exact hlen)]
    exact OwnS.lower (B := w.heap.size + 3) (by simpa [OwnS, ints, HP.out] using q) (by omega)
  case stop =>
    rintro D cd pre W hD hpre ⟨rfl, ⟨v, hv, hrow, _⟩, hlen, hB⟩ hK
    obtain ⟨Av, cv, rfl⟩ := row_shape hrow
    have hc := hv.cell
    have HLE := Lib.hid hlen
    clear hlen
    gi_wp2
    refine ⟨by simp, .inl ⟨_, _, rfl, run_takeDeferred hK, ?_⟩⟩
    refine ⟨.slice Av N cv, by simp [results, Try.f26, go_sem], _, rfl, ?_, Ch.of_below (hB.trans (belowK_b (w := w) (Nat.le_refl _) W D _ _ (by omega) hK rfl rfl))⟩
    unfold pageJ
    rw [HN.out]
    have q := ownsRow_putObj hrow (.deferred none) hK rfl
    have ht : (selJ tenant from_ (numJ gone L L.length)).take N = (selJ tenant from_ pre).take N := by
      obtain ⟨t, ht⟩ := hpre
      rw [← ht, selJ_app, List.take_append_of_le_length HLE.out]
    rw [ht]
    have hl : ((selJ tenant from_ pre).take N).length = N := by rw [List.length_take, Nat.min_eq_left HLE.out]
    exact OwnS.lower (B := w.heap.size + 3) (by unfold OwnS; rw [ints_length, hl]; exact q) (by omega)
end Go.Proofs.Ytflpelacjdnplaa
