/- JournalPlays: the journal and the document's, side by side. -/
import Derived.Test.YtflpelacjdnplaaJrnRef
import Derived.Test.YtflpelacjdnplaaJrnAlive
import Derived.Test.YtflpelacjdnplaaSameInts
import Derived.Test.YtflpelacjdnplaaEntEq
namespace Go.Proofs.Ytflpelacjdnplaa
open Go.RowKit

/-- a step -/
structure Jo where
  k : Int
  n : Int
  e : Ent
def Jo.enc (a : Jo) : List Value := [.int .i64 a.k, .int .i64 a.n, .int .i64 a.e.t, .int .i64 a.e.arg, .int .i64 a.e.tenant, .int .i64 a.e.person, .int .i64 a.e.kind, .int .i64 a.e.code]
set_option maxRecDepth 100000 in
theorem rd_jo {W : World} {n : Nat} {cs : List Value} (h : Rd Try.prog W (n + 3) 34 cs) : ∃ a : Jo, cs = a.enc := by
  obtain ⟨hl, hf⟩ := rd_struct h Try.underlying34
  rw [show Try.prog.cellsOf 34 = 8 from by kernel_rfl] at hl
  match cs, hl with
  | [c0, c1, c2, c3, c4, c5, c6, c7], _ =>
    simp only [List.mem_cons, List.not_mem_nil, or_false, forall_eq_or_imp, forall_eq] at hf
    rw [show Try.prog.cellsOf 3 = 1 from by kernel_rfl, show Try.prog.cellsOf 32 = 6 from by kernel_rfl] at hf
    obtain ⟨m0, rfl, _⟩ := rd_int (c := c0) hf.1 Try.underlying3
    obtain ⟨m1, rfl, _⟩ := rd_int (c := c1) hf.2.1 Try.underlying3
    obtain ⟨a, ha, _⟩ := rd_ent (cs := [c2, c3, c4, c5, c6, c7]) hf.2.2
    simp only [Ent.enc, List.cons.injEq, and_true] at ha
    obtain ⟨rfl, rfl, rfl, rfl, rfl, rfl⟩ := ha
    exact ⟨⟨m0, m1, a⟩, rfl⟩
set_option maxRecDepth 100000 in
theorem rd_jos {W : World} {n : Nat} {v : Value} (h : Rd Try.prog W (n + 4) 22 [v]) : ∃ A cap, ∃ xs : List Jo, v = .slice A xs.length cap ∧ Rws W A 8 (xs.map Jo.enc) ∧ xs.length * 64 ≤ 140737488351232 := by
  obtain ⟨A, cap, xs, rfl, hr, _, hc, hl⟩ := slice_dec (N := n + 3) (sz := 8) (B := 64) Jo.enc (fun _ => True) h Try.underlying22 (by kernel_rfl) (by kernel_rfl) (by omega) (fun r hr => by
    obtain ⟨a, ha⟩ := rd_jo hr
    exact ⟨a, ha, trivial⟩)
  exact ⟨A, cap, xs, rfl, hr, hl⟩
theorem Rws.jo {w : World} {A : Option Addr} {xs pre post : List Jo} {a : Jo} (h : Rws w A 8 (xs.map Jo.enc)) (e : xs = pre ++ a :: post) :
    ∃ b off, A = some ⟨b, off, none⟩ ∧ (w.cell? ⟨b, off + pre.length * 8, none⟩ = some (.int .i64 a.k) ∧ w.cell? ⟨b, off + pre.length * 8 + 1, none⟩ = some (.int .i64 a.n) ∧ w.cell? ⟨b, off + pre.length * 8 + 2, none⟩ = some (.int .i64 a.e.t) ∧ w.cell? ⟨b, off + pre.length * 8 + 3, none⟩ = some (.int .i64 a.e.arg) ∧ w.cell? ⟨b, off + pre.length * 8 + 4, none⟩ = some (.int .i64 a.e.tenant) ∧ w.cell? ⟨b, off + pre.length * 8 + 5, none⟩ = some (.int .i64 a.e.person) ∧ w.cell? ⟨b, off + pre.length * 8 + 6, none⟩ = some (.int .i64 a.e.kind) ∧ w.cell? ⟨b, off + pre.length * 8 + 7, none⟩ = some (.int .i64 a.e.code)) := by
  obtain ⟨_, b, off, hA, hc⟩ := h (pre.map Jo.enc) a.enc (post.map Jo.enc) (by rw [e]; simp)
  rw [List.length_map] at hc
  exact ⟨b, off, hA, hc 0 _ rfl, hc 1 _ rfl, hc 2 _ rfl, hc 3 _ rfl, hc 4 _ rfl, hc 5 _ rfl, hc 6 _ rfl, hc 7 _ rfl⟩
/-- a step in a block of its own -/
def OBox (w : World) (b : Nat) (a : Jo) : Prop := Blk w b 34 a.enc

theorem jr_lt' {w : World} {jb n c gone cap : Nat} {A : Option Addr} {xs : List Ent} (h : Jr w jb A n c gone cap xs) : ∀ k, JS jb A k → k < w.heap.size := by
  rintro k (rfl | ⟨a, ha, rfl⟩)
  · exact h.lt
  · exact (h.row.blk a ha).2
/-- the journal (nj entries M, gj let go) and the document's (n entries L, g let go) -/
structure Py (W w : World) (jb xb cap nj gj : Nat) (M : List Ent) (n g : Nat) (L : List Ent) (A : Option Addr) (c : Nat) : Prop where
  jr : ∃ Aj cj, Jr w jb Aj nj cj gj cap M ∧ ¬ JS jb Aj xb ∧ ∀ a, A = some a → ¬ JS jb Aj a.block
  nn : L.length = n
  bx : Blk w xb 30 [.slice A n c, .int .i64 g, .int .i64 cap]
  rw : Rws w A 6 (L.map Ent.enc)
  far : ∀ a, A = some a → W.heap.size ≤ a.block ∧ a.block < w.heap.size ∧ a.block ≠ xb
  ch : Ch No W w
  jl : W.heap.size ≤ jb
  xl : W.heap.size ≤ xb
section
variable {W w : World} {jb xb cap nj gj n g c : Nat} {M L : List Ent} {A : Option Addr}
theorem Py.no {w' : World} (h : Py W w jb xb cap nj gj M n g L A c) (hc : Ch No w w') : Py W w' jb xb cap nj gj M n g L A c := by
  obtain ⟨Aj, cj, h1, h2, h3⟩ := h.jr
  exact ⟨⟨Aj, cj, h1.no hc, h2, h3⟩, h.nn, h.bx.ch hc (fun h => h), h.rw.no hc, fun a ha => ⟨(h.far a ha).1, Nat.lt_of_lt_of_le (h.far a ha).2.1 hc.size, (h.far a ha).2.2⟩, h.ch.trans hc, h.jl, h.xl⟩
/-- the document's turned: another row, that is new or the same -/
theorem Py.put {w0 : World} {n' g' c' : Nat} {L' : List Ent} {A' : Option Addr} (h0 : Py W w0 jb xb cap nj gj M n g L A c) (hc : Ch No w0 w) (hn : L'.length = n') (hr : Rws w A' 6 (L'.map Ent.enc)) (hA : ∀ a, A' = some a → (w0.heap.size ≤ a.block ∧ a.block < w.heap.size) ∨ A = some a) :
    Py W (((w.setCell ⟨xb, 0, none⟩ (.slice A' n' c')).setCell ⟨xb, 1, none⟩ (.int .i64 g')).setCell ⟨xb, 2, none⟩ (.int .i64 cap)) jb xb cap nj gj M n' g' L' A' c' := by
  have h := h0.no hc
  have hx0 := h0.bx.lt
  have hq : Ch (fun k => k = xb) w (((w.setCell ⟨xb, 0, none⟩ (.slice A' n' c')).setCell ⟨xb, 1, none⟩ (.int .i64 g')).setCell ⟨xb, 2, none⟩ (.int .i64 cap)) := (((Ch.refl (fun k => k = xb) w).setCell (p := ⟨xb, 0, none⟩) (fun _ => rfl) _).setCell (p := ⟨xb, 1, none⟩) (fun _ => rfl) _).setCell (p := ⟨xb, 2, none⟩) (fun _ => rfl) _
  obtain ⟨Aj, cj, h1, h2, h3⟩ := h.jr
  obtain ⟨Aj0, cj0, h10, h20, h30⟩ := h0.jr
  have hAx : ∀ a, A' = some a → W.heap.size ≤ a.block ∧ a.block < w.heap.size ∧ a.block ≠ xb := by
    intro a ha
    rcases hA a ha with h4 | h4
    · have := h0.ch.size
      exact ⟨by omega, h4.2, by omega⟩
    · exact h.far a h4
  refine ⟨⟨Aj0, cj0, (h10.no hc).chS hq (fun e => h20 (e ▸ .inl rfl)) (fun a ha e => h20 (.inr ⟨a, ha, e⟩)), h20, fun a ha hj => ?_⟩, hn, ?_, hr.chS hq (fun a ha e => (hAx a ha).2.2 e), fun a ha => ⟨(hAx a ha).1, Nat.lt_of_lt_of_le (hAx a ha).2.1 hq.size, (hAx a ha).2.2⟩, h.ch.trans' hq (fun i hi he => by have := h0.xl; omega), h.jl, h.xl⟩
  · rcases hA a ha with h4 | h4
    · have := jr_lt' h10 a.block hj
      omega
    · exact h30 a h4 hj
  · have := ((h.bx.set 0 (.slice A' n' c')).set 1 (.int .i64 g')).set 2 (.int .i64 cap)
    simpa using this
/-- the journal turned -/
theorem Py.turn {w' : World} {Aj Aj' : Option Addr} {nj' cj cj' gj' : Nat} {M' : List Ent} (h : Py W w jb xb cap nj gj M n g L A c) (_h1 : Jr w jb Aj nj cj gj cap M) (h2 : ¬ JS jb Aj xb) (h3 : ∀ a, A = some a → ¬ JS jb Aj a.block) (hj : Jr w' jb Aj' nj' cj' gj' cap M') (hc : Ch (JS jb Aj) w w') (hn : ∀ k, JS jb Aj' k → JS jb Aj k ∨ w.heap.size ≤ k) : Py W w' jb xb cap nj' gj' M' n g L A c := by
  have hs := hc.size
  refine ⟨⟨Aj', cj', hj, fun hk => ?_, fun a ha hk => ?_⟩, h.nn, h.bx.ch hc h2, h.rw.chS hc h3, fun a ha => ⟨(h.far a ha).1, Nat.lt_of_lt_of_le (h.far a ha).2.1 hs, (h.far a ha).2.2⟩, h.ch.trans' hc (fun i hi he => ?_), h.jl, h.xl⟩
  · rcases hn _ hk with h4 | h4
    · exact h2 h4
    · have := h.bx.lt
      omega
  · rcases hn _ hk with h4 | h4
    · exact h3 a ha h4
    · have := (h.far a ha).2.1
      omega
  · have := _h1.js i he
    have := h.jl
    omega
theorem pyAddOk (h : Py W w jb xb cap nj gj M n g L A c) (x : Ent) (hx : okE x = true) (hk : nj ≠ cap) (hg : gj ≤ 1000000000000) (hl : nj ≤ 100000) (v : Int) (hv : v = (gj : Int) + nj + 1) : Calls Try.prog 15 #[.pointer (some ⟨jb, 0, none⟩), x.val] w fun e w' => e = .returned (.tuple #[.int .i64 v, .int .i64 0]) ∧ Py W w' jb xb cap (nj + 1) gj (M ++ [x]) n g L A c := by
  obtain ⟨Aj, cj, h1, h2, h3⟩ := h.jr
  rw [hv]
  refine (JAdd_ok h1 x hx hk hg hl).mono ?_
  rintro e w' ⟨rfl, A', c', q2, q3, q4⟩
  refine ⟨rfl, h.turn h1 h2 h3 q2 q3 (fun k hk => ?_)⟩
  rcases hk with rfl | ⟨a, ha, rfl⟩
  · exact .inl (.inl rfl)
  · exact (q4 a ha).imp (fun h => .inr h) id
theorem pyAddFull (h : Py W w jb xb cap nj gj M n g L A c) (x : Ent) (hx : okE x = true) (hk : nj = cap) : Calls Try.prog 15 #[.pointer (some ⟨jb, 0, none⟩), x.val] w fun e w' => e = .returned (.tuple #[.int .i64 0, .int .i64 42]) ∧ Py W w' jb xb cap nj gj M n g L A c := by
  obtain ⟨Aj, cj, h1, h2, h3⟩ := h.jr
  exact (JAdd_full h1 x hx hk).mono fun _ _ ⟨q1, q2⟩ => ⟨q1, h.no q2⟩
theorem pyAddBad (h : Py W w jb xb cap nj gj M n g L A c) (x : Ent) (hx : okE x = false) : Calls Try.prog 15 #[.pointer (some ⟨jb, 0, none⟩), x.val] w fun e w' => e = .returned (.tuple #[.int .i64 0, .int .i64 23]) ∧ Py W w' jb xb cap nj gj M n g L A c :=
  (JAdd_bad x hx w _).mono fun _ _ ⟨q1, q2⟩ => ⟨q1, h.no q2⟩
theorem pyTrim (h : Py W w jb xb cap nj gj M n g L A c) (upto : Int) (hg : gj ≤ 1000000000000) (hl : nj ≤ 100000) : Calls Try.prog 17 #[.pointer (some ⟨jb, 0, none⟩), .int .i64 upto] w fun e w' => e = .returned (.int .i64 (trimK upto gj nj)) ∧ Py W w' jb xb cap (nj - trimK upto gj nj) (gj + trimK upto gj nj) (M.drop (trimK upto gj nj)) n g L A c := by
  obtain ⟨Aj, cj, h1, h2, h3⟩ := h.jr
  refine (JTrim_any h1 upto hg hl).mono ?_
  rintro e w' ⟨rfl, A', q2, q3, q4⟩
  refine ⟨rfl, h.turn h1 h2 h3 q2 (q3.mono (fun k _ hk => .inl hk)) (fun k hk => ?_)⟩
  rcases hk with rfl | ⟨a, ha, rfl⟩
  · exact .inl (.inl rfl)
  · exact .inl (.inr (q4 a ha))
theorem pyLen (h : Py W w jb xb cap nj gj M n g L A c) : Calls Try.prog 18 #[.pointer (some ⟨jb, 0, none⟩)] w fun e w' => e = .returned (.int .i64 nj) ∧ Ch No w w' := by
  obtain ⟨Aj, cj, h1, _⟩ := h.jr
  exact JLen_any h1
theorem pyFirst (h : Py W w jb xb cap nj gj M n g L A c) (hg : gj ≤ 1000000000000) (v : Int) (hv : v = (gj : Int) + 1) : Calls Try.prog 19 #[.pointer (some ⟨jb, 0, none⟩)] w fun e w' => e = .returned (.int .i64 v) ∧ Ch No w w' := by
  obtain ⟨Aj, cj, h1, _⟩ := h.jr
  rw [hv]
  exact JFirst_any h1 hg
theorem pyNext (h : Py W w jb xb cap nj gj M n g L A c) (hg : gj ≤ 1000000000000) (hl : nj ≤ 1000000) (v : Int) (hv : v = (gj : Int) + nj + 1) : Calls Try.prog 20 #[.pointer (some ⟨jb, 0, none⟩)] w fun e w' => e = .returned (.int .i64 v) ∧ Ch No w w' := by
  obtain ⟨Aj, cj, h1, _⟩ := h.jr
  rw [hv]
  exact JNext_any h1 hg hl
theorem pyFull (h : Py W w jb xb cap nj gj M n g L A c) (b : Bool) (hb : decide (nj = cap) = b) : Calls Try.prog 21 #[.pointer (some ⟨jb, 0, none⟩)] w fun e w' => e = .returned (.bool b) ∧ Ch No w w' := by
  obtain ⟨Aj, cj, h1, _⟩ := h.jr
  rw [← hb]
  exact JFull_any h1
theorem pyGetIn (h : Py W w jb xb cap nj gj M n g L A c) {q : Nat} {x : Ent} (hx : M[q]? = some x) (hg : gj ≤ 1000000000000) (hl : nj ≤ 1000000) (i : Int) (hi : i = (gj : Int) + q + 1) : Calls Try.prog 23 #[.pointer (some ⟨jb, 0, none⟩), .int .i64 i] w fun e w' => e = .returned (.tuple #[x.val, .int .i64 0]) ∧ Ch No w w' := by
  obtain ⟨Aj, cj, h1, _⟩ := h.jr
  obtain ⟨hq, rfl⟩ := List.getElem?_eq_some_iff.1 hx
  have hM : M = M.take q ++ M[q] :: M.drop (q + 1) := by simp
  rw [hM] at h1
  exact JGet_in (M.take q) (M.drop (q + 1)) M[q] h1 hg hl q (by rw [List.length_take]; omega) i hi
theorem pyGetOut (h : Py W w jb xb cap nj gj M n g L A c) (hg : gj ≤ 1000000000000) (hl : nj ≤ 1000000) (i : Int) (hi : i ≤ gj ∨ (gj : Int) + nj < i) : Calls Try.prog 23 #[.pointer (some ⟨jb, 0, none⟩), .int .i64 i] w fun e w' => e = .returned (.tuple #[Ent.zero.val, .int .i64 4]) ∧ Ch No w w' := by
  obtain ⟨Aj, cj, h1, _⟩ := h.jr
  exact JGet_out h1 hg hl i hi
theorem pyPage (h : Py W w jb xb cap nj gj M n g L A c) (hg : gj ≤ 1000000000000) (hl : nj ≤ 1000000) (tenant f k : Int) : Calls Try.prog 26 #[.pointer (some ⟨jb, 0, none⟩), .int .i64 tenant, .int .i64 f, .int .i64 k] w fun e w' => ∃ A1 c1, e = .returned (.slice A1 (pageJ gj M tenant f k).length c1) ∧ Cls w' A1 (ints .i64 (pageJ gj M tenant f k)) ∧ Ch No w w' := by
  obtain ⟨Aj, cj, h1, _⟩ := h.jr
  refine (JPage_any w jb nj cj gj cap Aj M h1 hg hl tenant f k).mono ?_
  rintro e w' ⟨v, rfl, ho, hc⟩
  obtain ⟨A1, c1, rfl, hcl, _⟩ := ho.slice_ints
  exact ⟨A1, c1, rfl, hcl, hc⟩
theorem pyEntries (h : Py W w jb xb cap nj gj M n g L A c) (hg : gj ≤ 1000000000000) (hl : nj ≤ 1000000) (most : Int) (q : Nat) (hq : (M.take most.toNat).length = q) : Calls Try.prog 22 #[.pointer (some ⟨jb, 0, none⟩), .int .i64 most] w fun e w' => ∃ Av cv Au cu, e = .returned (.tuple #[.slice Av q cv, .slice Au q cu]) ∧ Cls w' Av (ints .i64 (((numJ gj M M.length).take most.toNat).map Prod.fst)) ∧ Rws w' Au 6 ((M.take most.toNat).map Ent.enc) ∧ Ch No w w' := by
  obtain ⟨Aj, cj, h1, _⟩ := h.jr
  refine (entries_any w jb nj cj gj cap Aj M h1 hg hl most).mono ?_
  rintro e w' ⟨v, u, rfl, h2, h3, h4⟩
  rw [hq] at h2 h3
  obtain ⟨Av, cv, rfl⟩ := row_shape h2
  obtain ⟨Au, cu, rfl⟩ := row_shape h3
  have h5 : OwnS w' w.heap.size 3 (.slice Av q cv) (ints .i64 (((numJ gj M M.length).take most.toNat).map Prod.fst)) := by
    unfold OwnS
    rw [ints_length, List.length_map, List.length_take, numJ_len, Nat.min_self, ← List.length_take, hq]
    exact h2
  exact ⟨Av, cv, Au, cu, rfl, h5.cls.1, rowE_rws h3 hq.symm, h4⟩
end
end Go.Proofs.Ytflpelacjdnplaa
