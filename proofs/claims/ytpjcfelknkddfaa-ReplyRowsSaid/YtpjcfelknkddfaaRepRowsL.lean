/- the law's rows: reply.Rows collected, up to so many. -/
import Derived.Test.YtpjcfelknkddfaaRepRows
namespace Go.Proofs.Ytpjcfelknkddfaa
open Go.RowKit Go.Shelf

attribute [local go_sem] Oper.semAt_some

/-- the append of a round, and where the row lies behind it -/
theorem wpListIn_appAt {F : Fence} {n : Nat} {P : Program} (w : World) {ops : Array Oper} {rest : List Oper} {o : Oper} {a : Act} {Q : Exit → Act → World → Prop}
    (hg : o.guard = none) (s x : Operand) (t : TypeId) (hop : o.op = Op.call { callee := Callee.builtin Builtin.append, args := #[s, x], argTypes := #[t, t] })
    (base : Nat) (e : TypeId) (i : TypeInfo) (z : Value) (size bytes : Nat) (h1 : P.underlying t = some (.slice e)) (h2 : P.info? e = some i) (h3 : i.zero = some z) (h4 : i.size = size) (h5 : i.bytes = bytes) (h6 : z.cells.size = size) (h7 : 0 < size)
    (v : Value) (k : Nat) (xs : List Value) (hs : a.eval s = v) (hown : w.ownsRow base e size v k xs) (ad : Addr) (m c : Nat) (news : List Value) (hx : a.eval x = .slice (some ad) m c) (hn : news.length = m * size)
    (hc : ∀ j u, news[j]? = some u → w.cell? (ad.add j) = some u) (h1c : ∀ u ∈ news, u.oneCell' = true) (b1 : k + m ≤ maxLen) (b2 : (k + m) * bytes ≤ 140737488355328) (b3 : base ≤ w.heap.size)
    (hK : ∀ v' w', w'.ownsRow base e size v' (k + m) (xs ++ news) → w.grownBy w' v.ownBlock → (v'.ownBlock = v.ownBlock ∨ v'.ownBlock = some w.heap.size) → wpListIn F n P ops Q rest (a.put o.dst v') w') :
    wpListIn F n P ops Q (o :: rest) a w := by
  refine wpListIn_plain hg fun K hK' => ?_
  obtain ⟨v', w', hrun, r1, r2, _, r4⟩ := run_append_own_at (P := P) w base t o.type e i z size bytes h1 h2 h3 h4 h5 h6 h7 v k xs hown ad m c news hn hc h1c b1 b2 b3
  unfold Oper.wpIn
  refine ⟨?_, ?_⟩
  · simp [Oper.about, hop, resolve, Target.leads, Sem.run_pure]
  · rw [Oper.semAt_plain F _ _ (by rw [hop]; intro c hc'; cases hc')]
    simp [execOp, hop, resolve, invoke, builtin, hs, hx, hrun, Result.andThen]
    exact hK' _ _ (hK v' w' r1 r2 r4)
theorem infoRow : (Try.prog.info? 22).map (fun i => (i.zero, i.size, i.bytes)) = some (some (.slice none 0 0), 1, 24) := by kernel_rfl
theorem RowsF_any (w : World) (code : Int) (A : Option Addr) (n c : Nat) (wd : Int) : Calls Try.prog 31 #[.agg #[.int .i64 code, .slice A n c], .int .i64 wd] w fun e w' => e = .returned (.func (.func 41) #[] #[.pointer (some ⟨w.heap.size, 0, none⟩), .pointer (some ⟨w.heap.size + 1, 0, none⟩)]) ∧ w' = (w.alloc (.cells #[.int .i64 code, .slice A n c] 24)).alloc (.cells #[.int .i64 wd] 3) := by
  go_enter Try.func31, Try.ntmps31
  go_wp2_with fail
  go_ret
  exact ⟨rfl, rfl⟩
theorem Rows_seq (n : Nat) (hn : 3 ≤ n) (Br Bw n₀ : Nat) (xs : List Int) (A : Option Addr) (c : Nat) (wd : Int) (z : Nat) (hz : 1 ≤ z) (hzw : (z : Int) = max wd 1) (hzm : z ≤ 9223372036854775807) (hc : xs.length ≤ c) (hl : xs.length ≤ 1000000) (hA : xs ≠ [] → ∀ a, A = some a → a.block < n₀) (w : World) (hn₀ : n₀ ≤ w.heap.size) (hBr : w.cell? ⟨Br, 1, none⟩ = some (.slice A xs.length c)) (hBw : w.cell? ⟨Bw, 0, none⟩ = some (.int .i64 wd)) (hx : Cls w A (ints .i64 xs)) :
    SeqR Fence.wide n Try.prog 41 #[.pointer (some ⟨Br, 0, none⟩), .pointer (some ⟨Bw, 0, none⟩)] (fun x : Lng => #[Lng.enc x]) (fun D => KpR n₀ D) (fun D x W => LngR x W ∧ D + 3 ≤ W.heap.size) (fun ys => ys.map (·.xs) = chks z xs) (fun pre => pre.map (·.xs) <+: chks z xs) (chks z xs).length w :=
  fun l J Jx W hW hJa hJx hY h0 => Rows1_in n hn l Br Bw n₀ xs A c wd z hz hzw hzm hc hl hA J Jx W hJa hJx hY
    (Nat.le_trans hn₀ hW.size) ((hW.cell (p := ⟨Br, 1, none⟩) (World.block_lt_of_cell? _ _ hBr)).trans hBr) ((hW.cell (p := ⟨Bw, 0, none⟩) (World.block_lt_of_cell? _ _ hBw)).trans hBw) (hx.below hW) h0
/-- a block of cells of another kind -/
theorem box_ne {W : World} {k Bo : Nat} {cs : Array Value} {t u : TypeId} {v : Value} (hv : Boxed W Bo t v) (hk : W.heap[k]? = some (.cells cs u (0, 0))) (hne : t ≠ u) : k ≠ Bo := by
  rintro rfl
  have hv' : W.heap[k]? = some (.cells #[v] t (0, 0)) := hv
  rw [hv'] at hk
  cases hk
  exact hne rfl
/-- what a body that writes its own box and row keeps -/
theorem KpR.body {n₀ D base Bo n : Nat} {W w1 : World} {v u x : Value} {vs : List Value} (hB : Below n₀ W (w1.setCell ⟨Bo, 0, none⟩ u)) (hrow : W.ownsRow base 22 1 v n vs) (hv : Boxed W Bo 40 v) (hg : (W.alloc (.cells #[x] 22)).grownBy w1 v.ownBlock) (hBo : Bo < D) (hD : D + 3 ≤ W.heap.size) (hG : ∀ g, v.ownBlock = some g → g < D ∨ D + 3 ≤ g) : KpR n₀ D W (w1.setCell ⟨Bo, 0, none⟩ u) := by
  refine ⟨hB, fun k h1 h2 => ?_, fun k cs hk => ?_⟩
  · rw [Below.heap_setCell _ _ _ _ (show k ≠ Bo by omega), hg.block k (by simp; omega) (fun e => by have := hG k e.symm; omega), Below.heap_alloc _ _ _ (by omega)]
  · have hkl := (Array.getElem?_eq_some_iff.1 hk).1
    have h1 := box_ne hv hk (by decide)
    have h2 : some k ≠ v.ownBlock := by
      intro e
      rcases hrow.2 with ⟨rfl, _⟩ | ⟨g, _, cur, rfl, _, hgg, _⟩
      · cases e
      · have : k = g := by simpa [Value.ownBlock] using e
        subst this
        rw [hgg] at hk
        cases hk
    rw [Below.heap_setCell _ _ _ _ h1, hg.block k (by simp; omega) h2, Below.heap_alloc _ _ _ hkl]
    exact hk
theorem KpR.box {n₀ D Bo : Nat} {W : World} {u v : Value} (hv : Boxed W Bo 40 v) (hn : n₀ ≤ Bo) (hD : Bo < D) : KpR n₀ D W (W.setCell ⟨Bo, 0, none⟩ u) := by
  refine ⟨(Below.refl n₀ W).setCell (p := ⟨Bo, 0, none⟩) hn _, fun k h1 _ => Below.heap_setCell _ _ _ _ (show k ≠ Bo by omega), fun k cs hk => ?_⟩
  rw [Below.heap_setCell _ _ _ _ (box_ne hv hk (by decide))]
  exact hk
theorem LngR.put {W : World} {p : Lng} (h : LngR p W) {D : Nat} {o : Obj} (o' : Obj) (hl : W.heap[D]? = some o) (ho : o.isCells = false) : LngR p (W.putObj D o') := (lngR_own (fun _ : Unit => p)).putObj (s := ()) o' h hl ho

set_option maxRecDepth 100000 in
set_option maxHeartbeats 8000000 in
theorem rowsL_any (w : World) (code : Int) (A : Option Addr) (c : Nat) (xs : List Int) (wd : Int) (z : Nat) (hx : Cls w A (ints .i64 xs)) (hz : 1 ≤ z) (hzw : (z : Int) = max wd 1) (hzm : z ≤ 9223372036854775807) (hc : xs.length ≤ c) (hl : xs.length ≤ 1000000) (most : Int) :
    Calls Try.prog 15 #[.agg #[.int .i64 code, .slice A xs.length c], .int .i64 wd, .int .i64 most] w fun e w' => ∃ v, ∃ ps : List Lng, e = .returned v ∧ ps.map (·.xs) = (chks z xs).take most.toNat ∧ OwnS w' w.heap.size 22 v (ps.map Lng.enc) ∧ (∀ p ∈ ps, LngR p w') ∧ Ch No w w' := by
  refine callsIn_wide (n := 4) |>.1 ?_
  refine callsIn_of_wp_marks Try.func15 rfl trivial ?_ rfl
  simp only [Try.ntmps15, List.size_toArray, List.length_cons, List.length_nil, Nat.reduceAdd, Nat.reduceSub, Array.replicate_succ, Array.replicate_zero, List.push_toArray, List.append_toArray, List.nil_append, List.cons_append]
  obtain ⟨i0, hi, hz0, hz1, hz2⟩ := info_parts infoRow
  have hbl := chks_len_le hz xs.length xs (Nat.le_refl _)
  have hA0 : xs ≠ [] → ∀ a, A = some a → a.block < w.heap.size := by
    intro hne ad hd
    cases xs with
    | nil => exact absurd rfl hne
    | cons x xs =>
      obtain ⟨b, off, hA, hcell⟩ := hx [] (.int .i64 x) (ints .i64 xs) rfl
      rw [hd] at hA
      cases hA
      exact World.block_lt_of_cell? _ _ hcell
  have HX := Lib.hid (And.intro hx (And.intro hzw hA0))
  clear hx hzw hA0
  by_cases hm : most ≤ 0
  · gi_wp2
    have q := World.ownsRow_lit (base := w.heap.size) (e := 22) (size := 1) (((w.alloc (.cells #[.int .i64 code, .slice A xs.length c] 24)).alloc (.cells #[.int .i64 most] 3)).alloc (.cells #[.slice (some ⟨w.heap.size + 1 + 1 + 1, 0, none⟩) 0 0] 40)) #[] 0 (by simp; omega) (by simp) rfl
    have q2 := q.alloc (.cells #[.slice (some ⟨w.heap.size + 1 + 1 + 1, 0, none⟩) 0 0] 40)
    have q3 : (((((w.alloc (.cells #[.int .i64 code, .slice A xs.length c] 24)).alloc (.cells #[.int .i64 most] 3)).alloc (.cells #[.slice (some ⟨w.heap.size + 1 + 1 + 1, 0, none⟩) 0 0] 40)).alloc (.cells #[] 22)).alloc (.cells #[.slice (some ⟨w.heap.size + 1 + 1 + 1, 0, none⟩) 0 0] 40)).cell? ⟨w.heap.size + 1 + 1, 0, none⟩ = some (.slice (some ⟨w.heap.size + 1 + 1 + 1, 0, none⟩) 0 0) := cell_al _ (cell_al _ (cell_nw (by simp) (by simp)))
    refine ⟨.slice (some ⟨w.heap.size + 1 + 1 + 1, 0, none⟩) 0 0, by simp [results, Try.f15, go_sem], _, [], rfl, by rw [show most.toNat = 0 from by omega]; rfl, by simpa [OwnS] using q2, by simp, ((((Ch.refl No w).alloc _).alloc _).alloc _).alloc _ |>.alloc _⟩
  · gi_wp2
    refine ⟨trivial, ?_⟩
    refine (callsIn_wide.2 (RowsF_any _ _ _ _ _ _)).mono ?_
    rintro e w1 ⟨rfl, rfl⟩
    gi_wp2
    have bM : Boxed (((((((w.alloc (.cells #[.int .i64 code, .slice A xs.length c] 24)).alloc (.cells #[.int .i64 most] 3)).alloc (.cells #[.slice none 0 0] 40)).alloc (.cells #[] 22)).alloc (.cells #[.slice (some ⟨w.heap.size + 1 + 1 + 1, 0, none⟩) 0 0] 40)).alloc (.cells #[.int .i64 code, .slice A xs.length c] 24)).alloc (.cells #[.int .i64 wd] 3)) (w.heap.size + 1) 3 (.int .i64 most) := by
      have := (((((Boxed.new (w.alloc (.cells #[.int .i64 code, .slice A xs.length c] 24)) 3 (.int .i64 most)).alloc (.cells #[.slice none 0 0] 40)).alloc (.cells #[] 22)).alloc (.cells #[.slice (some ⟨w.heap.size + 1 + 1 + 1, 0, none⟩) 0 0] 40)).alloc (.cells #[.int .i64 code, .slice A xs.length c] 24)).alloc (.cells #[.int .i64 wd] 3)
      simpa using this
    have bR : Boxed (((((((w.alloc (.cells #[.int .i64 code, .slice A xs.length c] 24)).alloc (.cells #[.int .i64 most] 3)).alloc (.cells #[.slice none 0 0] 40)).alloc (.cells #[] 22)).alloc (.cells #[.slice (some ⟨w.heap.size + 1 + 1 + 1, 0, none⟩) 0 0] 40)).alloc (.cells #[.int .i64 code, .slice A xs.length c] 24)).alloc (.cells #[.int .i64 wd] 3)) (w.heap.size + 1 + 1) 40 (.slice none 0 0) := by
      have := ((((Boxed.new ((w.alloc (.cells #[.int .i64 code, .slice A xs.length c] 24)).alloc (.cells #[.int .i64 most] 3)) 40 (.slice none 0 0)).alloc (.cells #[] 22)).alloc (.cells #[.slice (some ⟨w.heap.size + 1 + 1 + 1, 0, none⟩) 0 0] 40)).alloc (.cells #[.int .i64 code, .slice A xs.length c] 24)).alloc (.cells #[.int .i64 wd] 3)
      simpa using this
    have bO : Boxed (((((((w.alloc (.cells #[.int .i64 code, .slice A xs.length c] 24)).alloc (.cells #[.int .i64 most] 3)).alloc (.cells #[.slice none 0 0] 40)).alloc (.cells #[] 22)).alloc (.cells #[.slice (some ⟨w.heap.size + 1 + 1 + 1, 0, none⟩) 0 0] 40)).alloc (.cells #[.int .i64 code, .slice A xs.length c] 24)).alloc (.cells #[.int .i64 wd] 3)) (w.heap.size + 1 + 1 + 1 + 1) 40 (.slice (some ⟨w.heap.size + 1 + 1 + 1, 0, none⟩) 0 0) := by
      have := ((Boxed.new ((((w.alloc (.cells #[.int .i64 code, .slice A xs.length c] 24)).alloc (.cells #[.int .i64 most] 3)).alloc (.cells #[.slice none 0 0] 40)).alloc (.cells #[] 22)) 40 (.slice (some ⟨w.heap.size + 1 + 1 + 1, 0, none⟩) 0 0)).alloc (.cells #[.int .i64 code, .slice A xs.length c] 24)).alloc (.cells #[.int .i64 wd] 3)
      simpa using this
    have bX : (((((((w.alloc (.cells #[.int .i64 code, .slice A xs.length c] 24)).alloc (.cells #[.int .i64 most] 3)).alloc (.cells #[.slice none 0 0] 40)).alloc (.cells #[] 22)).alloc (.cells #[.slice (some ⟨w.heap.size + 1 + 1 + 1, 0, none⟩) 0 0] 40)).alloc (.cells #[.int .i64 code, .slice A xs.length c] 24)).alloc (.cells #[.int .i64 wd] 3)).cell? ⟨w.heap.size + 1 + 1 + 1 + 1 + 1, 1, none⟩ = some (.slice A xs.length c) := cell_al _ (cell_nw (by simp) (by simp))
    have bW : (((((((w.alloc (.cells #[.int .i64 code, .slice A xs.length c] 24)).alloc (.cells #[.int .i64 most] 3)).alloc (.cells #[.slice none 0 0] 40)).alloc (.cells #[] 22)).alloc (.cells #[.slice (some ⟨w.heap.size + 1 + 1 + 1, 0, none⟩) 0 0] 40)).alloc (.cells #[.int .i64 code, .slice A xs.length c] 24)).alloc (.cells #[.int .i64 wd] 3)).cell? ⟨w.heap.size + 1 + 1 + 1 + 1 + 1 + 1, 0, none⟩ = some (.int .i64 wd) := cell_nw (by simp) (by simp)
    have rO : (((((((w.alloc (.cells #[.int .i64 code, .slice A xs.length c] 24)).alloc (.cells #[.int .i64 most] 3)).alloc (.cells #[.slice none 0 0] 40)).alloc (.cells #[] 22)).alloc (.cells #[.slice (some ⟨w.heap.size + 1 + 1 + 1, 0, none⟩) 0 0] 40)).alloc (.cells #[.int .i64 code, .slice A xs.length c] 24)).alloc (.cells #[.int .i64 wd] 3)).ownsRow (w.heap.size + 3) 22 1 (.slice (some ⟨w.heap.size + 1 + 1 + 1, 0, none⟩) 0 0) 0 [] := by
      have q := World.ownsRow_lit (base := w.heap.size + 3) (e := 22) (size := 1) (((w.alloc (.cells #[.int .i64 code, .slice A xs.length c] 24)).alloc (.cells #[.int .i64 most] 3)).alloc (.cells #[.slice none 0 0] 40)) #[] 0 (by simp) (by simp) rfl
      have q2 := ((q.alloc (.cells #[.slice (some ⟨w.heap.size + 1 + 1 + 1, 0, none⟩) 0 0] 40)).alloc (.cells #[.int .i64 code, .slice A xs.length c] 24)).alloc (.cells #[.int .i64 wd] 3)
      simpa using q2
    have C5 : Ch No w (((((((w.alloc (.cells #[.int .i64 code, .slice A xs.length c] 24)).alloc (.cells #[.int .i64 most] 3)).alloc (.cells #[.slice none 0 0] 40)).alloc (.cells #[] 22)).alloc (.cells #[.slice (some ⟨w.heap.size + 1 + 1 + 1, 0, none⟩) 0 0] 40)).alloc (.cells #[.int .i64 code, .slice A xs.length c] 24)).alloc (.cells #[.int .i64 wd] 3)) := (((((((Ch.refl No w).alloc _).alloc _).alloc _).alloc _).alloc _).alloc _).alloc _
    have z5 : (((((((w.alloc (.cells #[.int .i64 code, .slice A xs.length c] 24)).alloc (.cells #[.int .i64 most] 3)).alloc (.cells #[.slice none 0 0] 40)).alloc (.cells #[] 22)).alloc (.cells #[.slice (some ⟨w.heap.size + 1 + 1 + 1, 0, none⟩) 0 0] 40)).alloc (.cells #[.int .i64 code, .slice A xs.length c] 24)).alloc (.cells #[.int .i64 wd] 3)).heap.size = w.heap.size + 7 := by simp
    generalize (((((((w.alloc (.cells #[.int .i64 code, .slice A xs.length c] 24)).alloc (.cells #[.int .i64 most] 3)).alloc (.cells #[.slice none 0 0] 40)).alloc (.cells #[] 22)).alloc (.cells #[.slice (some ⟨w.heap.size + 1 + 1 + 1, 0, none⟩) 0 0] 40)).alloc (.cells #[.int .i64 code, .slice A xs.length c] 24)).alloc (.cells #[.int .i64 wd] 3)) = w5 at *
    refine range_R (w0 := w5) rfl (by omega) (gf := 41) (lb := #[.pointer (some ⟨w.heap.size + 1 + 1 + 1 + 1 + 1, 0, none⟩), .pointer (some ⟨w.heap.size + 1 + 1 + 1 + 1 + 1 + 1, 0, none⟩)]) rfl trivial (enters_of Try.func41 (by kernel_rfl) rfl)
      (Rows_seq 3 (by omega) (w.heap.size + 1 + 1 + 1 + 1 + 1) (w.heap.size + 1 + 1 + 1 + 1 + 1 + 1) w.heap.size xs A c wd z hz HX.out.2.1 hzm hc hl HX.out.2.2 w5 (by omega) bX bW (HX.out.1.ch C5 (fun _ _ h => h))) KpR.trans
      (fun V o o' ho h1 h2 => ⟨belowK_b (w := w5) (by omega) V _ o o' (by omega) ho h1 h2, fun k hk1 _ => World.putObj_heap_other (by omega), fun k cs hk => by
        have hkl : k ≠ w5.heap.size + 1 := by
          rintro rfl
          rw [ho] at hk
          cases hk
          cases h1
        rw [World.putObj_heap_other hkl]
        exact hk⟩) (Below.refl _ _) (fun _ => rfl)
      (fun (pre : List Lng) W => (∃ v, Boxed W (w.heap.size + 1 + 1 + 1 + 1) 40 v ∧ W.ownsRow (w.heap.size + 3) 22 1 v pre.length (pre.map Lng.enc) ∧ (∀ g, v.ownBlock = some g → g < w5.heap.size + 2 ∨ w5.heap.size + 2 + 3 ≤ g)) ∧ (Boxed W (w.heap.size + 1) 3 (.int .i64 most) ∧ Boxed W (w.heap.size + 1 + 1) 40 (.slice none 0 0)) ∧ (pre.length : Int) < most ∧ Below w.heap.size w W ∧ ∀ p ∈ pre, LngR p W)
      (fun c (pre : List Lng) W => c = .ret ∧ (∃ v, Boxed W (w.heap.size + 1 + 1) 40 v ∧ W.ownsRow (w.heap.size + 3) 22 1 v pre.length (pre.map Lng.enc) ∧ True) ∧ (pre.length : Int) = most ∧ Below w.heap.size w W ∧ ∀ p ∈ pre, LngR p W)
      (OwnFrom.and (Own.from (holdsRow_own _ _ _ _ 1 (fun pre : List Lng => pre.length) (fun pre : List Lng => pre.map Lng.enc) (fun (_ : List Lng) v => ∀ g, v.ownBlock = some g → g < w5.heap.size + 2 ∨ w5.heap.size + 2 + 3 ≤ g)) _) (OwnFrom.and (OwnFrom.and (Own.from (boxed_own _ _ (fun _ : List Lng => _)) _) (Own.from (boxed_own _ _ (fun _ : List Lng => _)) _)) (OwnFrom.and (ownFrom_pure _ (fun pre : List Lng => ((pre.length : Nat) : Int) < most)) (OwnFrom.and (ownFrom_below (Nat.le_refl _) (by omega)) (Own.from lngRs_own _)))))
      (fun c => OwnFrom.and (ownFrom_pure _ (fun _ : List Lng => c = .ret)) (OwnFrom.and (Own.from (holdsRow_own _ _ _ _ 1 (fun pre : List Lng => pre.length) (fun pre : List Lng => pre.map Lng.enc) (fun (_ : List Lng) _ => True)) _) (OwnFrom.and (ownFrom_pure _ (fun pre : List Lng => ((pre.length : Nat) : Int) = most)) (OwnFrom.and (ownFrom_below (Nat.le_refl _) (by omega)) (Own.from lngRs_own _)))))
      (fun x => OwnFrom.and (Own.from (lngR_own (fun _ : Unit => x)) _) (fun _ _ _ _ hs hg _ => Nat.le_trans hs hg.size))
      ⟨⟨_, bO, rO, fun g hg => by left; have : w.heap.size + 1 + 1 + 1 = g := by simpa [Value.ownBlock] using hg
                                  omega⟩, ⟨bM, bR⟩, by simp; omega, C5.same, by simp⟩
      (fun x => { tmps := #[.agg #[.int .i64 code, .slice A xs.length c], .int .i64 wd, .int .i64 most, .pointer (some ⟨w.heap.size, 0, none⟩), undef, .pointer (some ⟨w.heap.size + 1, 0, none⟩), .pointer (some ⟨w.heap.size + 1 + 1, 0, none⟩), .pointer (some ⟨w.heap.size + 1 + 1 + 1 + 1, 0, none⟩), Lng.enc x, .slice (some ⟨w.heap.size + 1 + 1 + 1, 0, none⟩) 0 0, .int .i64 most, .bool false, undef, .agg #[.int .i64 code, .slice A xs.length c], .int .i64 wd, .func (.func 41) #[] #[.pointer (some ⟨w.heap.size + 1 + 1 + 1 + 1 + 1, 0, none⟩), .pointer (some ⟨w.heap.size + 1 + 1 + 1 + 1 + 1 + 1, 0, none⟩)], Lng.enc x, undef, undef, undef, undef, undef, undef, undef, undef, undef, undef], defers := [] }) ?assign ?body ?done ?stop
    case assign =>
      intro l x W K hK
      gi_wp2
      exact hK
    case body =>
      rintro l pre x W ⟨⟨v, hv, hrow, hG⟩, ⟨h3, h4⟩, hlen, hB, hps⟩ ⟨hxR, hxD⟩ hlt'
      have hxe : Lng.enc x = .slice x.A x.xs.length x.c := rfl
      rw [hxe]
      clear hxe
      have hc := hv.cell
      have hn3 : some (w.heap.size + 1) ≠ v.ownBlock := fun e => by have := (hrow.lt _ e.symm).1; omega
      have hn4 := h4.not_row (e := 22) (by decide) hrow
      have hpm : (pre.map Lng.enc).length = pre.length := by simp
      obtain ⟨m, hmm⟩ : ∃ m : Nat, most = m := ⟨most.toNat, by omega⟩
      subst hmm
      by_cases he : pre.length + 1 = m
      · gi_wp2_with (gi_at_builtin; refine wpListIn_appAt _ rfl _ _ 40 rfl (w.heap.size + 3) 22 i0 (.slice none 0 0) 1 24 Try.underlying40 hi hz0 hz1 hz2 rfl (by decide) _ _ _ rfl (hrow.alloc _) ⟨W.heap.size, 0, none⟩ 1 1 [.slice x.A x.xs.length x.c] rfl rfl (cell_one_new _ _ _) (by simp [Value.oneCell']) (by simp [maxLen]; omega) (by omega) (by simp; omega) ?_; intro v' w1 hown' hgrow hat; obtain ⟨g', cap', rfl⟩ := ownsRow_succ hown'; obtain ⟨hv1, hv2, hr2, hk2, hb2⟩ := hv.appended (by decide) hrow (by omega) (by omega) hown' hgrow; have hc1 := hv1.cell; have hf1 := hv1.frozen; have h3w := ((h3.alloc _).kept hgrow hn3); have h4w := ((h4.alloc _).kept hgrow hn4); have c3 := h3w.cell; have f4 := h4w.frozen; have c4 := h4w.cell)
        have hb3 := hb2.mono (show w.heap.size ≤ w.heap.size + 3 by omega)
        have hg2 : w.heap.size + 3 ≤ g' := (hr2.lt g' rfl).1
        have hku := KpR.body (D := w5.heap.size + 2) hb3 hrow hv hgrow (by omega) hxD hG
        rw [he] at hk2 hb3 hr2
        refine ⟨(hk2.trans (KeepsOthers.setCell _ _ _)).from _, rfl, ⟨_, (h4w.other (by omega) _).set _, ?_, trivial⟩, by simp; omega, (hB.trans hb3).setCell (p := ⟨w.heap.size + 1 + 1, 0, none⟩) (by simp; omega) _, ?_⟩
        rotate_left
        · rw [he] at hku
          exact snocL hps hxR (hku.trans (KpR.box (h4w.other (by omega) _) (by omega) (by omega)))
        have q := hr2.kept (grownBy_setCell' _ (w.heap.size + 1 + 1) (.slice (some ⟨g', 0, none⟩) m cap')) (.inr (by simp [Value.ownBlock]; omega))
        · simpa [he, Lng.enc] using q
      · gi_wp2_with (gi_at_builtin; refine wpListIn_appAt _ rfl _ _ 40 rfl (w.heap.size + 3) 22 i0 (.slice none 0 0) 1 24 Try.underlying40 hi hz0 hz1 hz2 rfl (by decide) _ _ _ rfl (hrow.alloc _) ⟨W.heap.size, 0, none⟩ 1 1 [.slice x.A x.xs.length x.c] rfl rfl (cell_one_new _ _ _) (by simp [Value.oneCell']) (by simp [maxLen]; omega) (by omega) (by simp; omega) ?_; intro v' w1 hown' hgrow hat; obtain ⟨g', cap', rfl⟩ := ownsRow_succ hown'; obtain ⟨hv1, hv2, hr2, hk2, hb2⟩ := hv.appended (by decide) hrow (by omega) (by omega) hown' hgrow; have hc1 := hv1.cell; have hf1 := hv1.frozen; have h3w := ((h3.alloc _).kept hgrow hn3); have h4w := ((h4.alloc _).kept hgrow hn4); have c3 := h3w.cell; have f4 := h4w.frozen; have c4 := h4w.cell)
        have hb3 := hb2.mono (show w.heap.size ≤ w.heap.size + 3 by omega)
        have hg2 : w.heap.size + 3 ≤ g' := (hr2.lt g' rfl).1
        have hku := KpR.body (D := w5.heap.size + 2) hb3 hrow hv hgrow (by omega) hxD hG
        have hG2 : ∀ g, (Value.slice (some ⟨g', 0, none⟩) (pre.length + 1) cap').ownBlock = some g → g < w5.heap.size + 2 ∨ w5.heap.size + 2 + 3 ≤ g := by
          intro g hg
          rcases hat with hat | hat
          · exact hG g (hat ▸ hg)
          · have e1 : some g = some (W.heap.size + 1) := by rw [← hg]; simpa using hat
            have e2 : g = W.heap.size + 1 := by simpa using e1
            omega
        exact ⟨hk2.from _, hku, ⟨_, hv2, by simpa [Lng.enc] using hr2, by simpa using hG2⟩, ⟨h3w.other (by omega) _, h4w.other (by omega) _⟩, by simp; omega, hB.trans hb3, snocL hps hxR hku⟩
    case done =>
      rintro D ys W hD hys ⟨⟨v, hv, hrow, _⟩, ⟨h3, h4⟩, hlen, hB, hps⟩ hK
      obtain ⟨Av, cv, rfl, _⟩ := (show OwnS W (w.heap.size + 3) 22 v (ys.map Lng.enc) by simpa [OwnS] using hrow).slice
      have hc := hv.cell
      have f4 := h4.frozen
      have c4 := h4.cell
      simp only [List.length_map] at hv hrow hc ⊢
      gi_wp2
      refine ⟨by simp, .inl ⟨_, _, rfl, run_takeDeferred ((KeepsOthers.setCell _ _ _).same D _ hK rfl), ?_⟩⟩
      have hv4 := h4.set (.slice Av ys.length cv)
      have hK4 := (KeepsOthers.setCell W ⟨w.heap.size + 1 + 1, 0, none⟩ (.slice Av ys.length cv)).same D _ hK rfl
      have hc5 := cell_kept hv4.cell (grownBy_putObj' _ D (.deferred none)) (fun r e => by cases e; exact ⟨_, hK4, rfl⟩)
      have hyl : ys.length = (chks z xs).length := by rw [← hys]; simp
      have ht : (chks z xs).take most.toNat = chks z xs := List.take_of_length_le (by omega)
      have hr4 := hrow.kept (grownBy_setCell' W (w.heap.size + 1 + 1) (.slice Av ys.length cv)) (.inr (fun e => by have := (hrow.lt _ e).1; omega))
      refine ⟨.slice Av ys.length cv, by simp [results, Try.f15, go_sem, hc5], _, ys, rfl, by rw [ht, hys], ?_, fun p hp => ((hps p hp).kpr (KpR.box (n₀ := w.heap.size) (D := w5.heap.size) h4 (by omega) (by omega))).put _ hK4 rfl, Ch.of_below ((hB.setCell (p := ⟨w.heap.size + 1 + 1, 0, none⟩) (by simp; omega) _).trans (belowK_b (w := w) (Nat.le_refl _) _ D _ _ (by omega) hK4 rfl rfl))⟩
      have q := ownsRow_putObj hr4 (.deferred none) hK4 rfl
      exact OwnS.lower (B := w.heap.size + 3) (by simpa [OwnS] using q) (by omega)
    case stop =>
      rintro D c pre W hD hpre ⟨rfl, ⟨v, hv, hrow, _⟩, hlen, hB, hps⟩ hK
      gi_wp2
      refine ⟨by simp, .inl ⟨_, _, rfl, run_takeDeferred hK, ?_⟩⟩
      have hc5 := cell_kept hv.cell (grownBy_putObj' _ D (.deferred none)) (fun r e => by cases e; exact ⟨_, hK, rfl⟩)
      have ht : pre.map (·.xs) = (chks z xs).take most.toNat := by
        obtain ⟨t, ht⟩ := hpre
        rw [← ht, show most.toNat = (pre.map (·.xs)).length from by simp; omega, List.take_left']
        rfl
      refine ⟨v, by simp [results, Try.f15, go_sem, hc5], v, pre, rfl, ht, ?_, fun p hp => (hps p hp).put _ hK rfl, Ch.of_below (hB.trans (belowK_b (w := w) (Nat.le_refl _) W D _ _ (by omega) hK rfl rfl))⟩
      have q := ownsRow_putObj hrow (.deferred none) hK rfl
      exact OwnS.lower (B := w.heap.size + 3) (by simpa [OwnS] using q) (by omega)
end Go.Proofs.Ytpjcfelknkddfaa
