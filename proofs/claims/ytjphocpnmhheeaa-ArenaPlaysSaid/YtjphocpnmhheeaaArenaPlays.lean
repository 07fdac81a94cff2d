/- ArenaPlays: the arena, step by step, beside the document's: the walk. -/
import Derived.Test.YtjphocpnmhheeaaArnRef
import Derived.Deep.RegionHeld3
namespace Go.Proofs.Ytjphocpnmhheeaa
open Go.RowKit

/-- a step -/
structure Ao where
  k : Int
  i : Int
  n : Nd
def Ao.enc (a : Ao) : List Value := [.int .i64 a.k, .int .i32 a.i, .int .i32 a.n.l, .int .i32 a.n.r, .int .i64 a.n.c, .int .i64 a.n.s, .int .i64 a.n.mn, .int .i64 a.n.mx, .bool a.n.k]
theorem rd_ao {W : World} {n : Nat} {cs : List Value} (h : Rd Try.prog W (n + 4) 36 cs) : ∃ a : Ao, cs = a.enc ∧ -2147483648 ≤ a.i ∧ a.i ≤ 2147483647 := by
  obtain ⟨hl, hf⟩ := rd_struct h Try.underlying36
  rw [show Try.prog.cellsOf 36 = 9 from by kernel_rfl] at hl
  match cs, hl with
  | [c0, c1, c2, c3, c4, c5, c6, c7, c8], _ =>
    simp only [List.mem_cons, List.not_mem_nil, or_false, forall_eq_or_imp, forall_eq] at hf
    rw [show Try.prog.cellsOf 3 = 1 from by kernel_rfl, show Try.prog.cellsOf 21 = 1 from by kernel_rfl, show Try.prog.cellsOf 34 = 7 from by kernel_rfl] at hf
    obtain ⟨m0, rfl, _⟩ := rd_int (c := c0) hf.1 Try.underlying3
    obtain ⟨m1, rfl, b1⟩ := rd_int (c := c1) hf.2.1 Try.underlying21
    obtain ⟨a, ha⟩ := rd_node (cs := [c2, c3, c4, c5, c6, c7, c8]) hf.2.2
    simp only [Nd.enc, List.cons.injEq, and_true] at ha
    obtain ⟨rfl, rfl, rfl, rfl, rfl, rfl, rfl⟩ := ha
    have := bounds_i32 b1
    exact ⟨⟨m0, m1, a⟩, rfl, by simp; omega, by simp; omega⟩
theorem rd_aos {W : World} {n : Nat} {v : Value} (h : Rd Try.prog W (n + 5) 22 [v]) : ∃ A cap, ∃ xs : List Ao, v = .slice A xs.length cap ∧ Rws W A 9 (xs.map Ao.enc) ∧ ∀ x ∈ xs, -2147483648 ≤ x.i ∧ x.i ≤ 2147483647 := by
  obtain ⟨A, cap, xs, rfl, hr, hp, hc, hl⟩ := slice_dec (N := n + 4) (sz := 9) (B := 64) Ao.enc (fun a => -2147483648 ≤ a.i ∧ a.i ≤ 2147483647) h Try.underlying22 (by kernel_rfl) (by kernel_rfl) (by omega) (fun r hr => by
    obtain ⟨a, ha, h1, h2⟩ := rd_ao hr
    exact ⟨a, ha, h1, h2⟩)
  exact ⟨A, cap, xs, rfl, hr, hp⟩
theorem Rws.ao {w : World} {A : Option Addr} {xs pre post : List Ao} {a : Ao} (h : Rws w A 9 (xs.map Ao.enc)) (e : xs = pre ++ a :: post) :
    ∃ b off, A = some ⟨b, off, none⟩ ∧ (w.cell? ⟨b, off + pre.length * 9, none⟩ = some (.int .i64 a.k) ∧ w.cell? ⟨b, off + pre.length * 9 + 1, none⟩ = some (.int .i32 a.i) ∧ w.cell? ⟨b, off + pre.length * 9 + 2, none⟩ = some (.int .i32 a.n.l) ∧ w.cell? ⟨b, off + pre.length * 9 + 3, none⟩ = some (.int .i32 a.n.r) ∧ w.cell? ⟨b, off + pre.length * 9 + 4, none⟩ = some (.int .i64 a.n.c) ∧ w.cell? ⟨b, off + pre.length * 9 + 5, none⟩ = some (.int .i64 a.n.s) ∧ w.cell? ⟨b, off + pre.length * 9 + 6, none⟩ = some (.int .i64 a.n.mn) ∧ w.cell? ⟨b, off + pre.length * 9 + 7, none⟩ = some (.int .i64 a.n.mx) ∧ w.cell? ⟨b, off + pre.length * 9 + 8, none⟩ = some (.bool a.n.k)) := by
  obtain ⟨_, b, off, hA, hc⟩ := h (pre.map Ao.enc) a.enc (post.map Ao.enc) (by rw [e]; simp)
  rw [List.length_map] at hc
  exact ⟨b, off, hA, hc 0 _ rfl, hc 1 _ rfl, hc 2 _ rfl, hc 3 _ rfl, hc 4 _ rfl, hc 5 _ rfl, hc 6 _ rfl, hc 7 _ rfl, hc 8 _ rfl⟩

/-- the arena and the document's, side by side -/
structure Pl (w0 w : World) (g xb : Nat) (k : Option Nat) (m : Int) (L : List Nd) (RA : Option Addr) (M : List Nd) (rc : Nat) : Prop where
  sa : SA w0 w g k m L
  bx : Blk w xb 30 [.slice RA M.length rc, .int .i64 m]
  rw : Rws w RA 7 (M.map Nd.enc)
  far : ∀ b off, RA = some ⟨b, off, none⟩ → b < w.heap.size ∧ b ≠ g ∧ k ≠ some b ∧ b ≠ xb
  xg : xb ≠ g
  xk : k ≠ some xb
  x0 : w0.heap.size ≤ xb
  xl : xb < w.heap.size
theorem Pl.no {w0 w w' : World} {g xb : Nat} {k : Option Nat} {m : Int} {L : List Nd} {RA : Option Addr} {M : List Nd} {rc : Nat} (h : Pl w0 w g xb k m L RA M rc) (hc : Ch No w w') : Pl w0 w' g xb k m L RA M rc :=
  ⟨h.sa.no hc, h.bx.ch hc (fun h => h), h.rw.no hc, fun b off e => ⟨Nat.lt_of_lt_of_le (h.far b off e).1 hc.size, (h.far b off e).2⟩, h.xg, h.xk, h.x0, Nat.lt_of_lt_of_le h.xl hc.size⟩
/-- the arena has turned, in its own blocks -/
theorem Pl.turn {w0 w w' : World} {g xb : Nat} {k k' : Option Nat} {m : Int} {L L' : List Nd} {RA : Option Addr} {M : List Nd} {rc : Nat} (h : Pl w0 w g xb k m L RA M rc) (ha : Ar w' w0.heap.size g k' m L') (hc : Ch (fun i => i = g ∨ k = some i) w w') (hk : ∀ i, k' = some i → k = some i ∨ w.heap.size ≤ i) : Pl w0 w' g xb k' m L' RA M rc := by
  have hs := hc.size
  refine ⟨h.sa.more ha hc, h.bx.ch hc (fun e => e.elim h.xg h.xk), fun pre r post e => ?_, fun b off e => ?_, h.xg, fun e => ?_, h.x0, Nat.lt_of_lt_of_le h.xl hs⟩
  · obtain ⟨h1, b, off, hA, h2⟩ := h.rw pre r post e
    have hf := h.far b off hA
    exact ⟨h1, b, off, hA, fun j v hj => hc.cell (h2 j v hj) (fun he => he.elim hf.2.1 hf.2.2.1)⟩
  · have hf := h.far b off e
    refine ⟨by omega, hf.2.1, fun e2 => ?_, hf.2.2.2⟩
    rcases hk b e2 with h1 | h1
    · exact hf.2.2.1 h1
    · omega
  · rcases hk xb e with h1 | h1
    · exact h.xk h1
    · have := h.xl
      omega
theorem Pl.set {w0 w w' : World} {g xb : Nat} {k : Option Nat} {m : Int} {L L' : List Nd} {RA : Option Addr} {M : List Nd} {rc : Nat} (h : Pl w0 w g xb k m L RA M rc) (ha : Ar w' w0.heap.size g k m L') (hc : Ch (fun i => k = some i) w w') : Pl w0 w' g xb k m L' RA M rc :=
  h.turn ha (hc.mono fun _ _ h => .inr h) (fun _ h => .inl h)
/-- the document's turns: what it handed back is stored -/
theorem Pl.put {w0 w : World} {g xb : Nat} {k : Option Nat} {m : Int} {L : List Nd} {RA RA' : Option Addr} {M M' : List Nd} {rc rc' : Nat} (h : Pl w0 w g xb k m L RA M rc) (hr : Rws w RA' 7 (M'.map Nd.enc)) (hf : ∀ b off, RA' = some ⟨b, off, none⟩ → b < w.heap.size ∧ b ≠ g ∧ k ≠ some b ∧ b ≠ xb) :
    Pl w0 ((w.setCell ⟨xb, 0, none⟩ (.slice RA' M'.length rc')).setCell ⟨xb, 1, none⟩ (.int .i64 m)) g xb k m L RA' M' rc' := by
  have C : Ch (Only xb) w ((w.setCell ⟨xb, 0, none⟩ (.slice RA' M'.length rc')).setCell ⟨xb, 1, none⟩ (.int .i64 m)) := ((Ch.refl (Only xb) w).setCell (p := ⟨xb, 0, none⟩) (fun _ => rfl) _).setCell (p := ⟨xb, 1, none⟩) (fun _ => rfl) _
  have hs := C.size
  refine ⟨⟨h.sa.ar.ch C (fun e => h.xg (Eq.symm e)) (fun i hi e => h.xk (by have h1 : i = xb := e; rw [← h1]; exact hi)), h.sa.gl, h.sa.ch.trans' C (fun i hi e => by have h1 : i = xb := e; have := h.x0; omega)⟩, ?_, ?_, fun b off e => ?_, h.xg, h.xk, h.x0, by have := h.xl; omega⟩
  · have q := (h.bx.set 0 (.slice RA' M'.length rc')).set 1 (.int .i64 m)
    simpa using q
  · intro pre r post e
    obtain ⟨h1, b, off, hA, h2⟩ := hr pre r post e
    exact ⟨h1, b, off, hA, fun j v hj => C.cell (h2 j v hj) (fun he => (hf b off hA).2.2.2 he)⟩
  · have := hf b off e
    exact ⟨by omega, this.2.1, this.2.2.1, this.2.2.2⟩
/-- .. and it lies in a block of its own -/
theorem Pl.fresh {w0 w w1 : World} {g xb : Nat} {k : Option Nat} {m : Int} {L : List Nd} {RA RA' : Option Addr} {M : List Nd} {rc : Nat} (h : Pl w0 w g xb k m L RA M rc) (hf : ∀ b off, RA' = some ⟨b, off, none⟩ → w.heap.size ≤ b ∧ b < w1.heap.size) : ∀ b off, RA' = some ⟨b, off, none⟩ → b < w1.heap.size ∧ b ≠ g ∧ k ≠ some b ∧ b ≠ xb := by
  intro b off e
  have h1 := hf b off e
  have h2 := h.sa.ar.lt
  have h3 := h.xl
  refine ⟨h1.2, by omega, fun e2 => ?_, by omega⟩
  have := (h.sa.ar.klt e2).2
  omega
/-- the cells of the document's box -/
theorem Pl.box {w0 w : World} {g xb : Nat} {k : Option Nat} {m : Int} {L : List Nd} {RA : Option Addr} {M : List Nd} {rc : Nat} (h : Pl w0 w g xb k m L RA M rc) : w.cell? ⟨xb, 0, none⟩ = some (.slice RA M.length rc) ∧ w.cell? ⟨xb, 1, none⟩ = some (.int .i64 m) ∧ w.frozen? ⟨xb, 0, none⟩ = false ∧ w.frozen? ⟨xb, 1, none⟩ = false :=
  ⟨h.bx.cell 0, h.bx.cell 1, h.bx.frozen 0, h.bx.frozen 1⟩

theorem aand7 (n : Int) : ∃ r : Nat, r < 8 ∧ bits .and .i64 n 7 = r := by
  have h := i64_mask n 3 (by decide)
  have e : ((2 : Int) ^ 3 - 1) = 7 := rfl
  rw [e] at h
  refine ⟨(n % 8).toNat, by omega, ?_⟩
  rw [h]
  omega

set_option maxHeartbeats 40000000 in
set_option maxRecDepth 100000 in
theorem arenaPlays_core (W : World) (limit : Int) (A : Option Addr) (c : Nat) (xs : List Ao) (most : Int) (hx : Rws W A 9 (xs.map Ao.enc)) (hi : ∀ x ∈ xs, -2147483648 ≤ x.i ∧ x.i ≤ 2147483647) :
    Calls Try.prog 3 #[.int .i64 limit, .slice A xs.length c, .int .i64 most] W fun e w' => e = .returned (.bool true) ∧ Ch No W w' := by
  have HX := Lib.hid (And.intro hx hi)
  clear hx hi
  go_enter Try.func3, Try.ntmps3
  go_wp2_with fail
  refine (arnAlive_any _).mono ?_
  rintro e w0 ⟨rfl, C0⟩
  have HC0 : Hid (Ch No W w0) := Lib.hid C0
  clear C0
  by_cases h60 : 60 < xs.length
  · go_wp2_with fail
    go_ret
    exact ⟨rfl, HC0.out⟩
  by_cases hlo : limit < 1
  · go_wp2_with fail
    refine (ANew_bad w0 limit (by omega)).mono ?_
    rintro e w1 ⟨rfl, rfl⟩
    go_wp2_with fail
    go_ret
    exact ⟨rfl, HC0.out⟩
  by_cases hhi : 4194304 < limit
  · go_wp2_with fail
    refine (ANew_bad w0 limit (by omega)).mono ?_
    rintro e w1 ⟨rfl, rfl⟩
    go_wp2_with fail
    go_ret
    exact ⟨rfl, HC0.out⟩
  go_wp2_with fail
  refine (ANew_ok w0 limit (by omega) (by omega)).mono ?_
  rintro e w1 ⟨rfl, a1, h1⟩
  obtain ⟨g, hg⟩ : ∃ g, w0.heap.size = g := ⟨_, rfl⟩
  obtain ⟨xb, hxb⟩ : ∃ xb, w1.heap.size = xb := ⟨_, rfl⟩
  have S1 : SA w0 w1 g none limit [] := by rw [← hg]; exact SA.new (Ch.refl No w0) rfl a1 h1
  have hgl := S1.ar.lt
  have HP : Hid (∃ k RA rc, Pl w0 (w1.alloc (.cells #[.slice none 0 0, .int .i64 limit] 30)) g xb k limit [] RA [] rc) := Lib.hid ⟨none, none, 0, S1.no ((Ch.refl No w1).alloc _), by rw [← hxb]; exact Blk.new w1 _ _, fun pre r post e => (by simp at e), fun b off e => (by cases e), by omega, by simp, by rw [← hxb]; exact S1.ch.size, by simp; omega⟩
  rw [hg]
  clear hg a1 h1 S1
  go_wp2_with fail
  clear hxb hgl
  go_loopw [11, 12, 13, 14, 15, 16, 17, 18, 19, 20, 21, 22, 60] (fun _ _ _ _ _ _ _ _ _ _ _ _ i wr => ∃ (pre post : List Ao) (L : List Nd), Hid (xs = pre ++ post) ∧ i = .int .i64 pre.length ∧ Hid (L.length ≤ pre.length ∧ (L.length : Int) ≤ limit) ∧ Hid (∃ k RA rc, Pl w0 wr g xb k limit L RA L rc)) (fun _ _ _ _ _ _ _ _ _ _ _ _ i _ => xs.length - (intOf i).toNat)
  case atStart => exact ⟨[], xs, [], Lib.hid rfl, rfl, Lib.hid ⟨by simp, by simp; omega⟩, HP⟩
  case round =>
    clear HP
    obtain ⟨pre, post, L, hxp, rfl, hL0, hst⟩ := hrel
    obtain ⟨k, RA, rc, hst⟩ := hst.out
    have HP1 := Lib.hid hst
    clear hst
    obtain ⟨hL1, hL2⟩ := hL0.out
    clear hL0
    cases post with
    | nil =>
      obtain rfl : pre = xs := by have := hxp.out; simpa using this.symm
      obtain ⟨r, hr, e7⟩ := aand7 most
      clear hxp
      go_wp2_with fail
      refine (nodes_any wr _ g k limit L HP1.out.sa.ar (by omega) 1000).mono ?_
      rintro e w3 ⟨v, rfl, hrow, h3⟩
      rw [List.take_of_length_le (by simp; omega)] at hrow
      obtain ⟨A2, c2, rfl⟩ := row_shape hrow
      have HR := Lib.hid (row_rws hrow)
      have HP2 := Lib.hid (HP1.out.no h3)
      clear hrow h3 HP1
      go_wp2_with fail
      refine (nodes_any w3 _ g k limit L HP2.out.sa.ar (by omega) r).mono ?_
      rintro e w4 ⟨v, rfl, hrow, h4⟩
      obtain ⟨n2, hn2⟩ : ∃ n2, (L.take (r : Int).toNat).length = n2 := ⟨_, rfl⟩
      rw [hn2] at hrow
      have hn3 : n2 = min r L.length := by rw [← hn2]; simp
      obtain ⟨A4, c4, rfl⟩ := row_shape hrow
      have HP3 := Lib.hid (HP2.out.no h4)
      have HR3 := Lib.hid (HR.out.no h4)
      obtain ⟨t0, _, _, _⟩ := HP3.out.box
      clear hrow h4 HP2 HR hn2
      rcases Nat.lt_trichotomy r L.length with hlt | hlt | hlt
      · obtain rfl : n2 = r := by omega
        clear hn3
        go_wp2_with fail
        go_loopw [27, 207] (fun _ i wz => ∃ j : Nat, j ≤ L.length ∧ i = .int .i64 j ∧ Hid (Ch No w4 wz)) (fun _ i _ => L.length - (intOf i).toNat)
        case atStart => exact ⟨0, by omega, rfl, Lib.hid (Ch.refl No _)⟩
        case round =>
          obtain ⟨j, hj, rfl, hch⟩ := hrel
          by_cases hju : j < L.length
          · obtain ⟨x, hx1⟩ : ∃ x, L[j]? = some x := ⟨_, List.getElem?_eq_getElem hju⟩
            obtain ⟨b1, o1, rfl, l0, l1, l2, l3, l4, l5, l6⟩ := (HR3.out.no hch.out).nodeAt j hx1
            obtain ⟨b2, o2, rfl, m0, m1, m2, m3, m4, m5, m6⟩ := (HP3.out.rw.no hch.out).nodeAt j hx1
            have t0 := hch.out.cell HP3.out.box.1 (fun h => h)
            have dc : ∀ p v, wr.cell? p = some v → wr.drew.cell? p = some v := fun p v h => ((Ch.refl No wr).drew).cell h (fun h => h)
            have T1 := Lib.hid (show wr.drew.cell? ⟨b1, o1 + j * 7, none⟩ = some (.int .i32 x.l) ∧ wr.drew.cell? ⟨b1, o1 + j * 7 + 1, none⟩ = some (.int .i32 x.r) ∧ wr.drew.cell? ⟨b1, o1 + j * 7 + 2, none⟩ = some (.int .i64 x.c) ∧ wr.drew.cell? ⟨b1, o1 + j * 7 + 3, none⟩ = some (.int .i64 x.s) ∧ wr.drew.cell? ⟨b1, o1 + j * 7 + 4, none⟩ = some (.int .i64 x.mn) ∧ wr.drew.cell? ⟨b1, o1 + j * 7 + 5, none⟩ = some (.int .i64 x.mx) ∧ wr.drew.cell? ⟨b1, o1 + j * 7 + 6, none⟩ = some (.bool x.k) ∧ wr.drew.cell? ⟨xb, 0, none⟩ = some (.slice (some ⟨b2, o2, none⟩) L.length rc) ∧ wr.drew.cell? ⟨b2, o2 + j * 7, none⟩ = some (.int .i32 x.l) ∧ wr.drew.cell? ⟨b2, o2 + j * 7 + 1, none⟩ = some (.int .i32 x.r) ∧ wr.drew.cell? ⟨b2, o2 + j * 7 + 2, none⟩ = some (.int .i64 x.c) ∧ wr.drew.cell? ⟨b2, o2 + j * 7 + 3, none⟩ = some (.int .i64 x.s) ∧ wr.drew.cell? ⟨b2, o2 + j * 7 + 4, none⟩ = some (.int .i64 x.mn) ∧ wr.drew.cell? ⟨b2, o2 + j * 7 + 5, none⟩ = some (.int .i64 x.mx) ∧ wr.drew.cell? ⟨b2, o2 + j * 7 + 6, none⟩ = some (.bool x.k) from ⟨dc _ _ l0, dc _ _ l1, dc _ _ l2, dc _ _ l3, dc _ _ l4, dc _ _ l5, dc _ _ l6, dc _ _ t0, dc _ _ m0, dc _ _ m1, dc _ _ m2, dc _ _ m3, dc _ _ m4, dc _ _ m5, dc _ _ m6⟩)
            clear dc hx1 t0 l0 l1 l2 l3 l4 l5 l6 m0 m1 m2 m3 m4 m5 m6
            go_wp2_with fail
            go_region_held3 (fun w' => w'.cell? ⟨b1, o1 + j * 7, none⟩ = some (.int .i32 x.l) ∧ w'.cell? ⟨b1, o1 + j * 7 + 1, none⟩ = some (.int .i32 x.r) ∧ w'.cell? ⟨b1, o1 + j * 7 + 2, none⟩ = some (.int .i64 x.c) ∧ w'.cell? ⟨b1, o1 + j * 7 + 3, none⟩ = some (.int .i64 x.s) ∧ w'.cell? ⟨b1, o1 + j * 7 + 4, none⟩ = some (.int .i64 x.mn) ∧ w'.cell? ⟨b1, o1 + j * 7 + 5, none⟩ = some (.int .i64 x.mx) ∧ w'.cell? ⟨b1, o1 + j * 7 + 6, none⟩ = some (.bool x.k) ∧ w'.cell? ⟨xb, 0, none⟩ = some (.slice (some ⟨b2, o2, none⟩) L.length rc) ∧ w'.cell? ⟨b2, o2 + j * 7, none⟩ = some (.int .i32 x.l) ∧ w'.cell? ⟨b2, o2 + j * 7 + 1, none⟩ = some (.int .i32 x.r) ∧ w'.cell? ⟨b2, o2 + j * 7 + 2, none⟩ = some (.int .i64 x.c) ∧ w'.cell? ⟨b2, o2 + j * 7 + 3, none⟩ = some (.int .i64 x.s) ∧ w'.cell? ⟨b2, o2 + j * 7 + 4, none⟩ = some (.int .i64 x.mn) ∧ w'.cell? ⟨b2, o2 + j * 7 + 5, none⟩ = some (.int .i64 x.mx) ∧ w'.cell? ⟨b2, o2 + j * 7 + 6, none⟩ = some (.bool x.k)) (exact T1.out) (fail)
            rename_i hh
            clear hh T1
            go_wp2_with fail
            exact ⟨⟨j + 1, by omega, by go_num, Lib.hid hch.out.drew⟩, by simp [intOf]; omega⟩
          · obtain rfl : j = L.length := by omega
            go_wp2_with fail
            go_ret
            exact ⟨rfl, HC0.out.trans (HP3.out.sa.ch.trans hch.out)⟩
      · obtain rfl : n2 = L.length := by omega
        subst hlt
        clear hn3
        go_wp2_with fail
        go_loopw [27, 207] (fun _ i wz => ∃ j : Nat, j ≤ L.length ∧ i = .int .i64 j ∧ Hid (Ch No w4 wz)) (fun _ i _ => L.length - (intOf i).toNat)
        case atStart => exact ⟨0, by omega, rfl, Lib.hid (Ch.refl No _)⟩
        case round =>
          obtain ⟨j, hj, rfl, hch⟩ := hrel
          by_cases hju : j < L.length
          · obtain ⟨x, hx1⟩ : ∃ x, L[j]? = some x := ⟨_, List.getElem?_eq_getElem hju⟩
            obtain ⟨b1, o1, rfl, l0, l1, l2, l3, l4, l5, l6⟩ := (HR3.out.no hch.out).nodeAt j hx1
            obtain ⟨b2, o2, rfl, m0, m1, m2, m3, m4, m5, m6⟩ := (HP3.out.rw.no hch.out).nodeAt j hx1
            have t0 := hch.out.cell HP3.out.box.1 (fun h => h)
            have dc : ∀ p v, wr.cell? p = some v → wr.drew.cell? p = some v := fun p v h => ((Ch.refl No wr).drew).cell h (fun h => h)
            have T1 := Lib.hid (show wr.drew.cell? ⟨b1, o1 + j * 7, none⟩ = some (.int .i32 x.l) ∧ wr.drew.cell? ⟨b1, o1 + j * 7 + 1, none⟩ = some (.int .i32 x.r) ∧ wr.drew.cell? ⟨b1, o1 + j * 7 + 2, none⟩ = some (.int .i64 x.c) ∧ wr.drew.cell? ⟨b1, o1 + j * 7 + 3, none⟩ = some (.int .i64 x.s) ∧ wr.drew.cell? ⟨b1, o1 + j * 7 + 4, none⟩ = some (.int .i64 x.mn) ∧ wr.drew.cell? ⟨b1, o1 + j * 7 + 5, none⟩ = some (.int .i64 x.mx) ∧ wr.drew.cell? ⟨b1, o1 + j * 7 + 6, none⟩ = some (.bool x.k) ∧ wr.drew.cell? ⟨xb, 0, none⟩ = some (.slice (some ⟨b2, o2, none⟩) L.length rc) ∧ wr.drew.cell? ⟨b2, o2 + j * 7, none⟩ = some (.int .i32 x.l) ∧ wr.drew.cell? ⟨b2, o2 + j * 7 + 1, none⟩ = some (.int .i32 x.r) ∧ wr.drew.cell? ⟨b2, o2 + j * 7 + 2, none⟩ = some (.int .i64 x.c) ∧ wr.drew.cell? ⟨b2, o2 + j * 7 + 3, none⟩ = some (.int .i64 x.s) ∧ wr.drew.cell? ⟨b2, o2 + j * 7 + 4, none⟩ = some (.int .i64 x.mn) ∧ wr.drew.cell? ⟨b2, o2 + j * 7 + 5, none⟩ = some (.int .i64 x.mx) ∧ wr.drew.cell? ⟨b2, o2 + j * 7 + 6, none⟩ = some (.bool x.k) from ⟨dc _ _ l0, dc _ _ l1, dc _ _ l2, dc _ _ l3, dc _ _ l4, dc _ _ l5, dc _ _ l6, dc _ _ t0, dc _ _ m0, dc _ _ m1, dc _ _ m2, dc _ _ m3, dc _ _ m4, dc _ _ m5, dc _ _ m6⟩)
            clear dc hx1 t0 l0 l1 l2 l3 l4 l5 l6 m0 m1 m2 m3 m4 m5 m6
            go_wp2_with fail
            go_region_held3 (fun w' => w'.cell? ⟨b1, o1 + j * 7, none⟩ = some (.int .i32 x.l) ∧ w'.cell? ⟨b1, o1 + j * 7 + 1, none⟩ = some (.int .i32 x.r) ∧ w'.cell? ⟨b1, o1 + j * 7 + 2, none⟩ = some (.int .i64 x.c) ∧ w'.cell? ⟨b1, o1 + j * 7 + 3, none⟩ = some (.int .i64 x.s) ∧ w'.cell? ⟨b1, o1 + j * 7 + 4, none⟩ = some (.int .i64 x.mn) ∧ w'.cell? ⟨b1, o1 + j * 7 + 5, none⟩ = some (.int .i64 x.mx) ∧ w'.cell? ⟨b1, o1 + j * 7 + 6, none⟩ = some (.bool x.k) ∧ w'.cell? ⟨xb, 0, none⟩ = some (.slice (some ⟨b2, o2, none⟩) L.length rc) ∧ w'.cell? ⟨b2, o2 + j * 7, none⟩ = some (.int .i32 x.l) ∧ w'.cell? ⟨b2, o2 + j * 7 + 1, none⟩ = some (.int .i32 x.r) ∧ w'.cell? ⟨b2, o2 + j * 7 + 2, none⟩ = some (.int .i64 x.c) ∧ w'.cell? ⟨b2, o2 + j * 7 + 3, none⟩ = some (.int .i64 x.s) ∧ w'.cell? ⟨b2, o2 + j * 7 + 4, none⟩ = some (.int .i64 x.mn) ∧ w'.cell? ⟨b2, o2 + j * 7 + 5, none⟩ = some (.int .i64 x.mx) ∧ w'.cell? ⟨b2, o2 + j * 7 + 6, none⟩ = some (.bool x.k)) (exact T1.out) (fail)
            rename_i hh
            clear hh T1
            go_wp2_with fail
            exact ⟨⟨j + 1, by omega, by go_num, Lib.hid hch.out.drew⟩, by simp [intOf]; omega⟩
          · obtain rfl : j = L.length := by omega
            go_wp2_with fail
            go_ret
            exact ⟨rfl, HC0.out.trans (HP3.out.sa.ch.trans hch.out)⟩
      · obtain rfl : n2 = L.length := by omega
        clear hn3
        go_wp2_with fail
        go_loopw [27, 207] (fun _ i wz => ∃ j : Nat, j ≤ L.length ∧ i = .int .i64 j ∧ Hid (Ch No w4 wz)) (fun _ i _ => L.length - (intOf i).toNat)
        case atStart => exact ⟨0, by omega, rfl, Lib.hid (Ch.refl No _)⟩
        case round =>
          obtain ⟨j, hj, rfl, hch⟩ := hrel
          by_cases hju : j < L.length
          · obtain ⟨x, hx1⟩ : ∃ x, L[j]? = some x := ⟨_, List.getElem?_eq_getElem hju⟩
            obtain ⟨b1, o1, rfl, l0, l1, l2, l3, l4, l5, l6⟩ := (HR3.out.no hch.out).nodeAt j hx1
            obtain ⟨b2, o2, rfl, m0, m1, m2, m3, m4, m5, m6⟩ := (HP3.out.rw.no hch.out).nodeAt j hx1
            have t0 := hch.out.cell HP3.out.box.1 (fun h => h)
            have dc : ∀ p v, wr.cell? p = some v → wr.drew.cell? p = some v := fun p v h => ((Ch.refl No wr).drew).cell h (fun h => h)
            have T1 := Lib.hid (show wr.drew.cell? ⟨b1, o1 + j * 7, none⟩ = some (.int .i32 x.l) ∧ wr.drew.cell? ⟨b1, o1 + j * 7 + 1, none⟩ = some (.int .i32 x.r) ∧ wr.drew.cell? ⟨b1, o1 + j * 7 + 2, none⟩ = some (.int .i64 x.c) ∧ wr.drew.cell? ⟨b1, o1 + j * 7 + 3, none⟩ = some (.int .i64 x.s) ∧ wr.drew.cell? ⟨b1, o1 + j * 7 + 4, none⟩ = some (.int .i64 x.mn) ∧ wr.drew.cell? ⟨b1, o1 + j * 7 + 5, none⟩ = some (.int .i64 x.mx) ∧ wr.drew.cell? ⟨b1, o1 + j * 7 + 6, none⟩ = some (.bool x.k) ∧ wr.drew.cell? ⟨xb, 0, none⟩ = some (.slice (some ⟨b2, o2, none⟩) L.length rc) ∧ wr.drew.cell? ⟨b2, o2 + j * 7, none⟩ = some (.int .i32 x.l) ∧ wr.drew.cell? ⟨b2, o2 + j * 7 + 1, none⟩ = some (.int .i32 x.r) ∧ wr.drew.cell? ⟨b2, o2 + j * 7 + 2, none⟩ = some (.int .i64 x.c) ∧ wr.drew.cell? ⟨b2, o2 + j * 7 + 3, none⟩ = some (.int .i64 x.s) ∧ wr.drew.cell? ⟨b2, o2 + j * 7 + 4, none⟩ = some (.int .i64 x.mn) ∧ wr.drew.cell? ⟨b2, o2 + j * 7 + 5, none⟩ = some (.int .i64 x.mx) ∧ wr.drew.cell? ⟨b2, o2 + j * 7 + 6, none⟩ = some (.bool x.k) from ⟨dc _ _ l0, dc _ _ l1, dc _ _ l2, dc _ _ l3, dc _ _ l4, dc _ _ l5, dc _ _ l6, dc _ _ t0, dc _ _ m0, dc _ _ m1, dc _ _ m2, dc _ _ m3, dc _ _ m4, dc _ _ m5, dc _ _ m6⟩)
            clear dc hx1 t0 l0 l1 l2 l3 l4 l5 l6 m0 m1 m2 m3 m4 m5 m6
            go_wp2_with fail
            go_region_held3 (fun w' => w'.cell? ⟨b1, o1 + j * 7, none⟩ = some (.int .i32 x.l) ∧ w'.cell? ⟨b1, o1 + j * 7 + 1, none⟩ = some (.int .i32 x.r) ∧ w'.cell? ⟨b1, o1 + j * 7 + 2, none⟩ = some (.int .i64 x.c) ∧ w'.cell? ⟨b1, o1 + j * 7 + 3, none⟩ = some (.int .i64 x.s) ∧ w'.cell? ⟨b1, o1 + j * 7 + 4, none⟩ = some (.int .i64 x.mn) ∧ w'.cell? ⟨b1, o1 + j * 7 + 5, none⟩ = some (.int .i64 x.mx) ∧ w'.cell? ⟨b1, o1 + j * 7 + 6, none⟩ = some (.bool x.k) ∧ w'.cell? ⟨xb, 0, none⟩ = some (.slice (some ⟨b2, o2, none⟩) L.length rc) ∧ w'.cell? ⟨b2, o2 + j * 7, none⟩ = some (.int .i32 x.l) ∧ w'.cell? ⟨b2, o2 + j * 7 + 1, none⟩ = some (.int .i32 x.r) ∧ w'.cell? ⟨b2, o2 + j * 7 + 2, none⟩ = some (.int .i64 x.c) ∧ w'.cell? ⟨b2, o2 + j * 7 + 3, none⟩ = some (.int .i64 x.s) ∧ w'.cell? ⟨b2, o2 + j * 7 + 4, none⟩ = some (.int .i64 x.mn) ∧ w'.cell? ⟨b2, o2 + j * 7 + 5, none⟩ = some (.int .i64 x.mx) ∧ w'.cell? ⟨b2, o2 + j * 7 + 6, none⟩ = some (.bool x.k)) (exact T1.out) (fail)
            rename_i hh
            clear hh T1
            go_wp2_with fail
            exact ⟨⟨j + 1, by omega, by go_num, Lib.hid hch.out.drew⟩, by simp [intOf]; omega⟩
          · obtain rfl : j = L.length := by omega
            go_wp2_with fail
            go_ret
            exact ⟨rfl, HC0.out.trans (HP3.out.sa.ch.trans hch.out)⟩
    | cons o post =>
      have hlen : pre.length < xs.length := by rw [hxp.out]; simp
      obtain ⟨hi1, hi2⟩ := HX.out.2 o (by rw [hxp.out]; simp)
      obtain ⟨b, off, rfl, ⟨k0, k1, k2, k3, k4, k5, k6, k7, k8⟩⟩ := (HX.out.1.no (HC0.out.trans HP1.out.sa.ch)).ao hxp.out
      by_cases h0 : o.k = 0
      · have b0 : (o.k == 0) = true := by simpa using h0
        clear h0
        by_cases hlt : (L.length : Int) < limit
        · have q := fun w' (h : Ar w' w0.heap.size g k limit L) (hs : w0.heap.size ≤ w'.heap.size) => AAlloc_ok w' _ g k limit L h hs hlt (by omega)
          have HQ := Lib.hid q
          clear q
          go_wp2_with fail
          have HP2 := Lib.hid (HP1.out.no ((Ch.refl No wr).alloc (.cells #[.int .i64 o.k, .int .i32 o.i, .int .i32 o.n.l, .int .i32 o.n.r, .int .i64 o.n.c, .int .i64 o.n.s, .int .i64 o.n.mn, .int .i64 o.n.mx, .bool o.n.k] 36)))
          refine (HQ.out _ HP2.out.sa.ar HP2.out.sa.ch.size).mono ?_
          rintro e w2 ⟨rfl, kq, a2, h2, hk2⟩
          have HP3 := Lib.hid (HP2.out.turn a2 h2 hk2)
          obtain ⟨t0, t1, t2, t3⟩ := HP3.out.box
          clear a2 h2 hk2 HP1 HP2 HQ k0 k1 k2 k3 k4 k5 k6 k7 k8
          go_wp2_with fail
          refine (RAlloc_ok w2 RA rc L HP3.out.rw limit hlt (by omega)).mono ?_
          rintro e w3 ⟨RA', rc', rfl, hr, hf, h3⟩
          clear t0 t1 t2 t3
          have HP4 := Lib.hid (HP3.out.no (h3.alloc (.cells #[.slice RA' (L.length + 1) rc', .int .i64 limit] 30)))
          obtain ⟨t0, t1, t2, t3⟩ := HP4.out.box
          have hN : Hid ((L ++ [Nd.zero]).length = L.length + 1) := Lib.hid (by simp)
          have hLL : Hid ((L ++ [Nd.zero]).length ≤ pre.length + 1 ∧ ((L ++ [Nd.zero]).length : Int) ≤ limit) := Lib.hid ⟨by simp; omega, by simp; omega⟩
          have q := HP4.out.put (rc' := rc') (hr.no ((Ch.refl No w3).alloc (.cells #[.slice RA' (L.length + 1) rc', .int .i64 limit] 30))) (HP3.out.fresh (fun b off e => by have := hf b off e; exact ⟨this.1, by simp; omega⟩))
          rw [hN.out] at q
          have HPL := Lib.hid q
          clear q hr hf h3 HP3 HP4
          obtain ⟨t0, _, _, _⟩ := HPL.out.box
          rw [hN.out] at t0
          have T0 := Lib.hid t0
          clear t0
          have eN : (((L ++ [Nd.zero]).length : Nat) : Int) = (L.length : Int) + 1 := by first | rfl | (rw [hN.out]; done) | (rw [hN.out]; omega)
          have q1 := fun w' (h : Ar w' w0.heap.size g kq limit (L ++ [Nd.zero])) => ALen_any w' _ g kq limit (L ++ [Nd.zero]) h
          have q2 := fun w' (h : Ar w' w0.heap.size g kq limit (L ++ [Nd.zero])) => ARoom_any w' _ g kq limit (L ++ [Nd.zero]) h hLL.out.2 (by omega)
          try simp only [eN] at q1 q2
          have QT := Lib.hid (And.intro q1 q2)
          clear q1 q2 eN
          have hw : IntKind.i64.wrap (limit - ((L.length : Int) + 1)) = limit - ((L.length : Int) + 1) := by rw [IntKind.wrap_i64]; omega
          go_wp2_with fail
          have HPD := Lib.hid (HPL.out.no (Ch.refl No _).drew)
          have T1 := Lib.hid (((Ch.refl No _).drew).cell T0.out (fun h => h))
          clear HPL T0
          go_region_held3 (fun w' => w'.cell? ⟨xb, 0, none⟩ = some (.slice RA' (L.length + 1) rc')) (first | exact T2.out | exact T1.out) (first | (go_at_call 20; refine (QT.out.1 _ HPD.out.sa.ar).mono ?_; rintro e wl ⟨rfl, rfl⟩) | (go_at_call 21; refine (QT.out.2 _ HPD.out.sa.ar).mono ?_; rintro e wl ⟨rfl, hl⟩; have HPE := Lib.hid (HPD.out.no hl); have T2 := Lib.hid (hl.cell T1.out (fun h => h)); clear hl))
          clear T1 T2 HPD QT
          rename_i hh
          clear hh
          go_wp2_with fail
          first | refine ⟨?rel, ?measure⟩ | go_roundw
          case rel => exact ⟨pre ++ [o], post, L ++ [Nd.zero], Lib.hid (by rw [hxp.out]; simp), by simp, Lib.hid ⟨by have := hLL.out.1; simp at this ⊢; omega, hLL.out.2⟩, Lib.hid ⟨_, _, _, HPE.out⟩⟩
          case measure => simp [intOf]; omega
        · obtain rfl : (L.length : Int) = limit := by omega
          have q := fun w' (h : Ar w' w0.heap.size g k L.length L) => AAlloc_full w' _ g k L.length L h rfl (by omega)
          have HQ := Lib.hid q
          clear q
          go_wp2_with fail
          have HP2 := Lib.hid (HP1.out.no ((Ch.refl No wr).alloc (.cells #[.int .i64 o.k, .int .i32 o.i, .int .i32 o.n.l, .int .i32 o.n.r, .int .i64 o.n.c, .int .i64 o.n.s, .int .i64 o.n.mn, .int .i64 o.n.mx, .bool o.n.k] 36)))
          refine (HQ.out _ HP2.out.sa.ar).mono ?_
          rintro e w2 ⟨rfl, h2⟩
          have HP3 := Lib.hid (HP2.out.no h2)
          obtain ⟨t0, t1, t2, t3⟩ := HP3.out.box
          clear h2 HP1 HP2 HQ k0 k1 k2 k3 k4 k5 k6 k7 k8
          go_wp2_with fail
          refine (RAlloc_full w2 RA rc L L.length rfl).mono ?_
          rintro e w3 ⟨rfl, h3⟩
          clear t0 t1 t2 t3
          have HP4 := Lib.hid (HP3.out.no (h3.alloc (.cells #[.slice RA L.length rc, .int .i64 L.length] 30)))
          obtain ⟨t0, t1, t2, t3⟩ := HP4.out.box
          have hN : Hid (L.length = L.length) := Lib.hid rfl
          have hLL : Hid (L.length ≤ pre.length + 1 ∧ (L.length : Int) ≤ L.length) := Lib.hid ⟨by omega, by omega⟩
          have HPL := Lib.hid (HP4.out.put (rc' := rc) HP4.out.rw HP4.out.far)
          clear h3 HP3 HP4
          obtain ⟨t0, _, _, _⟩ := HPL.out.box
          rw [hN.out] at t0
          have T0 := Lib.hid t0
          clear t0
          have eN : (((L).length : Nat) : Int) = (L.length : Int) := by first | rfl | (rw [hN.out]; done) | (rw [hN.out]; omega)
          have q1 := fun w' (h : Ar w' w0.heap.size g k L.length (L)) => ALen_any w' _ g k L.length (L) h
          have q2 := fun w' (h : Ar w' w0.heap.size g k L.length (L)) => ARoom_any w' _ g k L.length (L) h hLL.out.2 (by omega)
          try simp only [eN] at q1 q2
          have QT := Lib.hid (And.intro q1 q2)
          clear q1 q2 eN
          have hw : IntKind.i64.wrap (L.length - ((L.length : Int))) = L.length - ((L.length : Int)) := by rw [IntKind.wrap_i64]; omega
          go_wp2_with fail
          have HPD := Lib.hid (HPL.out.no (Ch.refl No _).drew)
          have T1 := Lib.hid (((Ch.refl No _).drew).cell T0.out (fun h => h))
          clear HPL T0
          go_region_held3 (fun w' => w'.cell? ⟨xb, 0, none⟩ = some (.slice RA (L.length) rc)) (first | exact T2.out | exact T1.out) (first | (go_at_call 20; refine (QT.out.1 _ HPD.out.sa.ar).mono ?_; rintro e wl ⟨rfl, rfl⟩) | (go_at_call 21; refine (QT.out.2 _ HPD.out.sa.ar).mono ?_; rintro e wl ⟨rfl, hl⟩; have HPE := Lib.hid (HPD.out.no hl); have T2 := Lib.hid (hl.cell T1.out (fun h => h)); clear hl))
          clear T1 T2 HPD QT
          rename_i hh
          clear hh
          go_wp2_with fail
          first | refine ⟨?rel, ?measure⟩ | go_roundw
          case rel => exact ⟨pre ++ [o], post, L, Lib.hid (by rw [hxp.out]; simp), by simp, Lib.hid ⟨by have := hLL.out.1; simp at this ⊢; omega, hLL.out.2⟩, Lib.hid ⟨_, _, _, HPE.out⟩⟩
          case measure => simp [intOf]; omega
      have b0 : (o.k == 0) = false := by simpa using h0
      clear h0
      by_cases h1 : o.k = 1
      · have b1 : (o.k == 1) = true := by simpa using h1
        clear h1
        by_cases hlt : (L.length : Int) < limit
        · have q := fun w' (h : Ar w' w0.heap.size g k limit L) (hs : w0.heap.size ≤ w'.heap.size) => AAlloc_ok w' _ g k limit L h hs hlt (by omega)
          have HQ := Lib.hid q
          clear q
          go_wp2_with fail
          have HP2 := Lib.hid (HP1.out.no ((Ch.refl No wr).alloc (.cells #[.int .i64 o.k, .int .i32 o.i, .int .i32 o.n.l, .int .i32 o.n.r, .int .i64 o.n.c, .int .i64 o.n.s, .int .i64 o.n.mn, .int .i64 o.n.mx, .bool o.n.k] 36)))
          refine (HQ.out _ HP2.out.sa.ar HP2.out.sa.ch.size).mono ?_
          rintro e w2 ⟨rfl, kq, a2, h2, hk2⟩
          have HP3 := Lib.hid (HP2.out.turn a2 h2 hk2)
          obtain ⟨t0, t1, t2, t3⟩ := HP3.out.box
          clear a2 h2 hk2 HP1 HP2 HQ k0 k1 k2 k3 k4 k5 k6 k7 k8
          go_wp2_with fail
          refine (RAlloc_ok w2 RA rc L HP3.out.rw limit hlt (by omega)).mono ?_
          rintro e w3 ⟨RA', rc', rfl, hr, hf, h3⟩
          clear t0 t1 t2 t3
          have HP4 := Lib.hid (HP3.out.no (h3.alloc (.cells #[.slice RA' (L.length + 1) rc', .int .i64 limit] 30)))
          obtain ⟨t0, t1, t2, t3⟩ := HP4.out.box
          have hN : Hid ((L ++ [Nd.zero]).length = L.length + 1) := Lib.hid (by simp)
          have hLL : Hid ((L ++ [Nd.zero]).length ≤ pre.length + 1 ∧ ((L ++ [Nd.zero]).length : Int) ≤ limit) := Lib.hid ⟨by simp; omega, by simp; omega⟩
          have q := HP4.out.put (rc' := rc') (hr.no ((Ch.refl No w3).alloc (.cells #[.slice RA' (L.length + 1) rc', .int .i64 limit] 30))) (HP3.out.fresh (fun b off e => by have := hf b off e; exact ⟨this.1, by simp; omega⟩))
          rw [hN.out] at q
          have HPL := Lib.hid q
          clear q hr hf h3 HP3 HP4
          obtain ⟨t0, _, _, _⟩ := HPL.out.box
          rw [hN.out] at t0
          have T0 := Lib.hid t0
          clear t0
          have eN : (((L ++ [Nd.zero]).length : Nat) : Int) = (L.length : Int) + 1 := by first | rfl | (rw [hN.out]; done) | (rw [hN.out]; omega)
          have q1 := fun w' (h : Ar w' w0.heap.size g kq limit (L ++ [Nd.zero])) => ALen_any w' _ g kq limit (L ++ [Nd.zero]) h
          have q2 := fun w' (h : Ar w' w0.heap.size g kq limit (L ++ [Nd.zero])) => ARoom_any w' _ g kq limit (L ++ [Nd.zero]) h hLL.out.2 (by omega)
          try simp only [eN] at q1 q2
          have QT := Lib.hid (And.intro q1 q2)
          clear q1 q2 eN
          have hw : IntKind.i64.wrap (limit - ((L.length : Int) + 1)) = limit - ((L.length : Int) + 1) := by rw [IntKind.wrap_i64]; omega
          go_wp2_with fail
          have HPD := Lib.hid (HPL.out.no (Ch.refl No _).drew)
          have T1 := Lib.hid (((Ch.refl No _).drew).cell T0.out (fun h => h))
          clear HPL T0
          go_region_held3 (fun w' => w'.cell? ⟨xb, 0, none⟩ = some (.slice RA' (L.length + 1) rc')) (first | exact T2.out | exact T1.out) (first | (go_at_call 20; refine (QT.out.1 _ HPD.out.sa.ar).mono ?_; rintro e wl ⟨rfl, rfl⟩) | (go_at_call 21; refine (QT.out.2 _ HPD.out.sa.ar).mono ?_; rintro e wl ⟨rfl, hl⟩; have HPE := Lib.hid (HPD.out.no hl); have T2 := Lib.hid (hl.cell T1.out (fun h => h)); clear hl))
          clear T1 T2 HPD QT
          rename_i hh
          clear hh
          go_wp2_with fail
          first | refine ⟨?rel, ?measure⟩ | go_roundw
          case rel => exact ⟨pre ++ [o], post, L ++ [Nd.zero], Lib.hid (by rw [hxp.out]; simp), by simp, Lib.hid ⟨by have := hLL.out.1; simp at this ⊢; omega, hLL.out.2⟩, Lib.hid ⟨_, _, _, HPE.out⟩⟩
          case measure => simp [intOf]; omega
        · obtain rfl : (L.length : Int) = limit := by omega
          have q := fun w' (h : Ar w' w0.heap.size g k L.length L) => AAlloc_full w' _ g k L.length L h rfl (by omega)
          have HQ := Lib.hid q
          clear q
          go_wp2_with fail
          have HP2 := Lib.hid (HP1.out.no ((Ch.refl No wr).alloc (.cells #[.int .i64 o.k, .int .i32 o.i, .int .i32 o.n.l, .int .i32 o.n.r, .int .i64 o.n.c, .int .i64 o.n.s, .int .i64 o.n.mn, .int .i64 o.n.mx, .bool o.n.k] 36)))
          refine (HQ.out _ HP2.out.sa.ar).mono ?_
          rintro e w2 ⟨rfl, h2⟩
          have HP3 := Lib.hid (HP2.out.no h2)
          obtain ⟨t0, t1, t2, t3⟩ := HP3.out.box
          clear h2 HP1 HP2 HQ k0 k1 k2 k3 k4 k5 k6 k7 k8
          go_wp2_with fail
          refine (RAlloc_full w2 RA rc L L.length rfl).mono ?_
          rintro e w3 ⟨rfl, h3⟩
          clear t0 t1 t2 t3
          have HP4 := Lib.hid (HP3.out.no (h3.alloc (.cells #[.slice RA L.length rc, .int .i64 L.length] 30)))
          obtain ⟨t0, t1, t2, t3⟩ := HP4.out.box
          have hN : Hid (L.length = L.length) := Lib.hid rfl
          have hLL : Hid (L.length ≤ pre.length + 1 ∧ (L.length : Int) ≤ L.length) := Lib.hid ⟨by omega, by omega⟩
          have HPL := Lib.hid (HP4.out.put (rc' := rc) HP4.out.rw HP4.out.far)
          clear h3 HP3 HP4
          obtain ⟨t0, _, _, _⟩ := HPL.out.box
          rw [hN.out] at t0
          have T0 := Lib.hid t0
          clear t0
          have eN : (((L).length : Nat) : Int) = (L.length : Int) := by first | rfl | (rw [hN.out]; done) | (rw [hN.out]; omega)
          have q1 := fun w' (h : Ar w' w0.heap.size g k L.length (L)) => ALen_any w' _ g k L.length (L) h
          have q2 := fun w' (h : Ar w' w0.heap.size g k L.length (L)) => ARoom_any w' _ g k L.length (L) h hLL.out.2 (by omega)
          try simp only [eN] at q1 q2
          have QT := Lib.hid (And.intro q1 q2)
          clear q1 q2 eN
          have hw : IntKind.i64.wrap (L.length - ((L.length : Int))) = L.length - ((L.length : Int)) := by rw [IntKind.wrap_i64]; omega
          go_wp2_with fail
          have HPD := Lib.hid (HPL.out.no (Ch.refl No _).drew)
          have T1 := Lib.hid (((Ch.refl No _).drew).cell T0.out (fun h => h))
          clear HPL T0
          go_region_held3 (fun w' => w'.cell? ⟨xb, 0, none⟩ = some (.slice RA (L.length) rc)) (first | exact T2.out | exact T1.out) (first | (go_at_call 20; refine (QT.out.1 _ HPD.out.sa.ar).mono ?_; rintro e wl ⟨rfl, rfl⟩) | (go_at_call 21; refine (QT.out.2 _ HPD.out.sa.ar).mono ?_; rintro e wl ⟨rfl, hl⟩; have HPE := Lib.hid (HPD.out.no hl); have T2 := Lib.hid (hl.cell T1.out (fun h => h)); clear hl))
          clear T1 T2 HPD QT
          rename_i hh
          clear hh
          go_wp2_with fail
          first | refine ⟨?rel, ?measure⟩ | go_roundw
          case rel => exact ⟨pre ++ [o], post, L, Lib.hid (by rw [hxp.out]; simp), by simp, Lib.hid ⟨by have := hLL.out.1; simp at this ⊢; omega, hLL.out.2⟩, Lib.hid ⟨_, _, _, HPE.out⟩⟩
          case measure => simp [intOf]; omega
      have b1 : (o.k == 1) = false := by simpa using h1
      clear h1
      by_cases h2 : o.k = 2
      · have b2 : (o.k == 2) = true := by simpa using h2
        clear h2
        have BO := Blk.new wr 36 o.enc
        unfold Ao.enc at BO
        have hks : ∀ i, k = some i → i < wr.heap.size := fun i hi => (HP1.out.sa.ar.klt hi).2
        by_cases hin : inA L o.i
        · obtain ⟨hin1, hin2⟩ := hin
          obtain ⟨p, hp⟩ : ∃ p : Nat, (p : Int) + 1 = o.i := ⟨(o.i - 1).toNat, by omega⟩
          obtain ⟨P, y, Q, hPQ, hPl, hset⟩ := cut_at L p (by omega)
          have q := fun w' (h : Ar w' w0.heap.size g k limit L) => ASet_ok w' _ g k limit P Q y (hPQ ▸ h) (by omega) o.n
          have q2 := fun w' (h : Rws w' RA 7 (L.map Nd.enc)) => RSet_ok w' RA rc L P Q y hPQ h limit (by omega) o.n
          rw [hPl, hp] at q q2
          simp only [Nd.val] at q q2
          have HQ := Lib.hid (And.intro q q2)
          have hN : Hid ((P ++ o.n :: Q).length = L.length) := Lib.hid (by rw [hPQ]; simp)
          have HBO := Lib.hid (And.intro BO hks)
          clear q q2 hp hPQ hPl hset hin1 hin2 BO hks
          go_wp2_with fail
          have HP2 := Lib.hid (HP1.out.no ((Ch.refl No wr).alloc (.cells #[.int .i64 o.k, .int .i32 o.i, .int .i32 o.n.l, .int .i32 o.n.r, .int .i64 o.n.c, .int .i64 o.n.s, .int .i64 o.n.mn, .int .i64 o.n.mx, .bool o.n.k] 36)))
          refine (HQ.out.1 _ HP2.out.sa.ar).mono ?_
          rintro e w2 ⟨rfl, a2, h2⟩
          have HP3 := Lib.hid (HP2.out.set a2 h2)
          obtain ⟨t0, t1, t2, t3⟩ := HP3.out.box
          have BO2 := HBO.out.1.ch h2 (fun e => Nat.lt_irrefl _ (HBO.out.2 _ e))
          have z1 := BO2.cell 1
          have z2 := BO2.cell 2
          have z3 := BO2.cell 3
          have z4 := BO2.cell 4
          have z5 := BO2.cell 5
          have z6 := BO2.cell 6
          have z7 := BO2.cell 7
          have z8 := BO2.cell 8
          simp only [List.getElem?_cons_zero, List.getElem?_cons_succ] at z1 z2 z3 z4 z5 z6 z7 z8
          clear a2 h2 HP1 HP2 BO2 HBO k0 k1 k2 k3 k4 k5 k6 k7 k8
          go_wp2_with fail
          refine (HQ.out.2 w2 HP3.out.rw).mono ?_
          rintro e w3 ⟨RA', rc', rfl, hr, hf, h3⟩
          clear t0 t1 t2 t3 z1 z2 z3 z4 z5 z6 z7 z8 HQ
          have HP4 := Lib.hid (HP3.out.no (h3.alloc (.cells #[.slice RA' L.length rc', .int .i64 limit] 30)))
          obtain ⟨t0, t1, t2, t3⟩ := HP4.out.box
          have hLL : Hid ((P ++ o.n :: Q).length ≤ pre.length + 1 ∧ ((P ++ o.n :: Q).length : Int) ≤ limit) := Lib.hid (by rw [hN.out]; exact ⟨by omega, by omega⟩)
          have q := HP4.out.put (rc' := rc') (hr.no ((Ch.refl No w3).alloc (.cells #[.slice RA' L.length rc', .int .i64 limit] 30))) (HP3.out.fresh (fun b off e => by have := hf b off e; exact ⟨this.1, by simp; omega⟩))
          rw [hN.out] at q
          have HPL := Lib.hid q
          clear q hr hf h3 HP3 HP4
          obtain ⟨t0, _, _, _⟩ := HPL.out.box
          rw [hN.out] at t0
          have T0 := Lib.hid t0
          clear t0
          have eN : (((P ++ o.n :: Q).length : Nat) : Int) = (L.length : Int) := by first | rfl | (rw [hN.out]; done) | (rw [hN.out]; omega)
          have q1 := fun w' (h : Ar w' w0.heap.size g k limit (P ++ o.n :: Q)) => ALen_any w' _ g k limit (P ++ o.n :: Q) h
          have q2 := fun w' (h : Ar w' w0.heap.size g k limit (P ++ o.n :: Q)) => ARoom_any w' _ g k limit (P ++ o.n :: Q) h hLL.out.2 (by omega)
          try simp only [eN] at q1 q2
          have QT := Lib.hid (And.intro q1 q2)
          clear q1 q2 eN
          have hw : IntKind.i64.wrap (limit - ((L.length : Int))) = limit - ((L.length : Int)) := by rw [IntKind.wrap_i64]; omega
          go_wp2_with fail
          have HPD := Lib.hid (HPL.out.no (Ch.refl No _).drew)
          have T1 := Lib.hid (((Ch.refl No _).drew).cell T0.out (fun h => h))
          clear HPL T0
          go_region_held3 (fun w' => w'.cell? ⟨xb, 0, none⟩ = some (.slice RA' (L.length) rc')) (first | exact T2.out | exact T1.out) (first | (go_at_call 20; refine (QT.out.1 _ HPD.out.sa.ar).mono ?_; rintro e wl ⟨rfl, rfl⟩) | (go_at_call 21; refine (QT.out.2 _ HPD.out.sa.ar).mono ?_; rintro e wl ⟨rfl, hl⟩; have HPE := Lib.hid (HPD.out.no hl); have T2 := Lib.hid (hl.cell T1.out (fun h => h)); clear hl))
          clear T1 T2 HPD QT
          rename_i hh
          clear hh
          go_wp2_with fail
          first | refine ⟨?rel, ?measure⟩ | go_roundw
          case rel => exact ⟨pre ++ [o], post, P ++ o.n :: Q, Lib.hid (by rw [hxp.out]; simp), by simp, Lib.hid ⟨by have := hLL.out.1; simp at this ⊢; omega, hLL.out.2⟩, Lib.hid ⟨_, _, _, HPE.out⟩⟩
          case measure => simp [intOf]; omega
        · have q := fun w' (h : Ar w' w0.heap.size g k limit L) => ASet_no w' _ g k limit L h o.i ⟨hi1, hi2⟩ hin o.n
          have q2 := fun w' => RSet_no w' RA rc L limit o.i ⟨hi1, hi2⟩ (by omega) hin o.n
          simp only [Nd.val] at q q2
          have HQ := Lib.hid (And.intro q q2)
          have HBO := Lib.hid (And.intro BO hks)
          clear q q2 hin BO hks
          go_wp2_with fail
          have HP2 := Lib.hid (HP1.out.no ((Ch.refl No wr).alloc (.cells #[.int .i64 o.k, .int .i32 o.i, .int .i32 o.n.l, .int .i32 o.n.r, .int .i64 o.n.c, .int .i64 o.n.s, .int .i64 o.n.mn, .int .i64 o.n.mx, .bool o.n.k] 36)))
          refine (HQ.out.1 _ HP2.out.sa.ar).mono ?_
          rintro e w2 ⟨rfl, h2⟩
          have HP3 := Lib.hid (HP2.out.no h2)
          obtain ⟨t0, t1, t2, t3⟩ := HP3.out.box
          have BO2 := HBO.out.1.ch h2 (fun h => h)
          have z1 := BO2.cell 1
          have z2 := BO2.cell 2
          have z3 := BO2.cell 3
          have z4 := BO2.cell 4
          have z5 := BO2.cell 5
          have z6 := BO2.cell 6
          have z7 := BO2.cell 7
          have z8 := BO2.cell 8
          simp only [List.getElem?_cons_zero, List.getElem?_cons_succ] at z1 z2 z3 z4 z5 z6 z7 z8
          clear h2 HP1 HP2 BO2 HBO k0 k1 k2 k3 k4 k5 k6 k7 k8
          go_wp2_with fail
          refine (HQ.out.2 w2).mono ?_
          rintro e w3 ⟨rfl, h3⟩
          clear t0 t1 t2 t3 z1 z2 z3 z4 z5 z6 z7 z8 HQ
          have HP4 := Lib.hid (HP3.out.no (h3.alloc (.cells #[.slice RA L.length rc, .int .i64 limit] 30)))
          obtain ⟨t0, t1, t2, t3⟩ := HP4.out.box
          have hN : Hid (L.length = L.length) := Lib.hid rfl
          have hLL : Hid (L.length ≤ pre.length + 1 ∧ (L.length : Int) ≤ limit) := Lib.hid ⟨by omega, by omega⟩
          have HPL := Lib.hid (HP4.out.put (rc' := rc) HP4.out.rw HP4.out.far)
          clear h3 HP3 HP4
          obtain ⟨t0, _, _, _⟩ := HPL.out.box
          rw [hN.out] at t0
          have T0 := Lib.hid t0
          clear t0
          have eN : (((L).length : Nat) : Int) = (L.length : Int) := by first | rfl | (rw [hN.out]; done) | (rw [hN.out]; omega)
          have q1 := fun w' (h : Ar w' w0.heap.size g k limit (L)) => ALen_any w' _ g k limit (L) h
          have q2 := fun w' (h : Ar w' w0.heap.size g k limit (L)) => ARoom_any w' _ g k limit (L) h hLL.out.2 (by omega)
          try simp only [eN] at q1 q2
          have QT := Lib.hid (And.intro q1 q2)
          clear q1 q2 eN
          have hw : IntKind.i64.wrap (limit - ((L.length : Int))) = limit - ((L.length : Int)) := by rw [IntKind.wrap_i64]; omega
          go_wp2_with fail
          have HPD := Lib.hid (HPL.out.no (Ch.refl No _).drew)
          have T1 := Lib.hid (((Ch.refl No _).drew).cell T0.out (fun h => h))
          clear HPL T0
          go_region_held3 (fun w' => w'.cell? ⟨xb, 0, none⟩ = some (.slice RA (L.length) rc)) (first | exact T2.out | exact T1.out) (first | (go_at_call 20; refine (QT.out.1 _ HPD.out.sa.ar).mono ?_; rintro e wl ⟨rfl, rfl⟩) | (go_at_call 21; refine (QT.out.2 _ HPD.out.sa.ar).mono ?_; rintro e wl ⟨rfl, hl⟩; have HPE := Lib.hid (HPD.out.no hl); have T2 := Lib.hid (hl.cell T1.out (fun h => h)); clear hl))
          clear T1 T2 HPD QT
          rename_i hh
          clear hh
          go_wp2_with fail
          first | refine ⟨?rel, ?measure⟩ | go_roundw
          case rel => exact ⟨pre ++ [o], post, L, Lib.hid (by rw [hxp.out]; simp), by simp, Lib.hid ⟨by have := hLL.out.1; simp at this ⊢; omega, hLL.out.2⟩, Lib.hid ⟨_, _, _, HPE.out⟩⟩
          case measure => simp [intOf]; omega
      have b2 : (o.k == 2) = false := by simpa using h2
      clear h2
      by_cases h3 : o.k = 3
      · have b3 : (o.k == 3) = true := by simpa using h3
        clear h3
        have BO := Blk.new wr 36 o.enc
        unfold Ao.enc at BO
        by_cases hin : inA L o.i
        · have q2 := fun w' => RHas_any w' RA rc L limit o.i ⟨hi1, hi2⟩ (by omega)
          rw [decide_eq_true hin] at q2
          obtain ⟨hin1, hin2⟩ := hin
          obtain ⟨p, hp⟩ : ∃ p : Nat, (p : Int) + 1 = o.i := ⟨(o.i - 1).toNat, by omega⟩
          obtain ⟨P, y, Q, hPQ, hPl, _⟩ := cut_at L p (by omega)
          have hyp : Hid (L[p]? = some y) := Lib.hid (by rw [hPQ, ← hPl]; simp)
          have q := fun w' (h : Ar w' w0.heap.size g k limit L) => AGet_ok w' _ g k limit P Q y (hPQ ▸ h) (by omega)
          rw [hPl, hp] at q
          simp only [Nd.val] at q
          have hw1 : IntKind.i32.wrap (o.i - 1) = (p : Int) := by rw [← hp, IntKind.wrap_i32]; omega
          have hpl : p < L.length := by omega
          have HQ := Lib.hid (And.intro q q2)
          have HBO := Lib.hid BO
          clear q q2 hp hPQ hPl hin1 hin2 BO
          go_wp2_with fail
          have HP2 := Lib.hid (HP1.out.no ((Ch.refl No wr).alloc (.cells #[.int .i64 o.k, .int .i32 o.i, .int .i32 o.n.l, .int .i32 o.n.r, .int .i64 o.n.c, .int .i64 o.n.s, .int .i64 o.n.mn, .int .i64 o.n.mx, .bool o.n.k] 36)))
          refine (HQ.out.1 _ HP2.out.sa.ar).mono ?_
          rintro e w2 ⟨rfl, h2⟩
          have HP3 := Lib.hid (HP2.out.no (h2.alloc (.cells #[.int .i32 y.l, .int .i32 y.r, .int .i64 y.c, .int .i64 y.s, .int .i64 y.mn, .int .i64 y.mx, .bool y.k] 34)))
          have NB := Lib.hid (NBox.new w2 y)
          have BO2 := Lib.hid (HBO.out.ch (h2.alloc (.cells #[.int .i32 y.l, .int .i32 y.r, .int .i64 y.c, .int .i64 y.s, .int .i64 y.mn, .int .i64 y.mx, .bool y.k] 34)) (fun h => h))
          obtain ⟨t0, t1, t2, t3⟩ := HP3.out.box
          have z1 := BO2.out.cell 1
          simp only [List.getElem?_cons_zero, List.getElem?_cons_succ] at z1
          clear h2 HP1 HP2 HBO k0 k1 k2 k3 k4 k5 k6 k7 k8
          go_wp2_with fail
          refine (HQ.out.2 _).mono ?_
          rintro e w3 ⟨rfl, h3⟩
          clear t0 t1 t2 t3 z1 HQ
          have HP4 := Lib.hid (HP3.out.no h3)
          obtain ⟨t0, _, _, _⟩ := HP4.out.box
          have z1 := (BO2.out.ch h3 (fun h => h)).cell 1
          simp only [List.getElem?_cons_zero, List.getElem?_cons_succ] at z1
          obtain ⟨n0, n1, n2, n3, n4, n5, n6⟩ := NB.out.no h3
          obtain ⟨rb, ro, rfl, l0, l1, l2, l3, l4, l5, l6⟩ := HP4.out.rw.nodeAt p hyp.out
          clear NB BO2 HP3 h3
          go_wp2_with fail
          replace n0 := in_cell n0; replace n1 := in_cell n1; replace n2 := in_cell n2; replace n3 := in_cell n3; replace n4 := in_cell n4; replace n5 := in_cell n5; replace n6 := in_cell n6; replace l0 := in_cell l0; replace l1 := in_cell l1; replace l2 := in_cell l2; replace l3 := in_cell l3; replace l4 := in_cell l4; replace l5 := in_cell l5; replace l6 := in_cell l6; replace t0 := in_cell t0; replace z1 := in_cell z1
          (refine wp_region_in (Ch No _) (by kernel_rfl) (by kernel_rfl) (Ch.refl _ _) (fun _ h => ch_drawn h) ?_)
          repeat (go_big_quiet_step (fail))
          (refine wpQuiet_nil ?_; intro wq0 hw'; obtain ⟨pw, hw''⟩ := hw'; subst hw'')
          clear n0 n1 n2 n3 n4 n5 n6 l0 l1 l2 l3 l4 l5 l6 t0 z1 hyp
          have HPL := Lib.hid (HP4.out.no pw.h)
          have hN : Hid (L.length = L.length) := Lib.hid rfl
          have hLL : Hid (L.length ≤ pre.length + 1 ∧ (L.length : Int) ≤ limit) := Lib.hid ⟨by omega, by omega⟩
          clear HP4
          obtain ⟨t0, _, _, _⟩ := HPL.out.box
          rw [hN.out] at t0
          have T0 := Lib.hid t0
          clear t0
          have eN : (((L).length : Nat) : Int) = (L.length : Int) := by first | rfl | (rw [hN.out]; done) | (rw [hN.out]; omega)
          have q1 := fun w' (h : Ar w' w0.heap.size g k limit (L)) => ALen_any w' _ g k limit (L) h
          have q2 := fun w' (h : Ar w' w0.heap.size g k limit (L)) => ARoom_any w' _ g k limit (L) h hLL.out.2 (by omega)
          try simp only [eN] at q1 q2
          have QT := Lib.hid (And.intro q1 q2)
          clear q1 q2 eN
          have hw : IntKind.i64.wrap (limit - ((L.length : Int))) = limit - ((L.length : Int)) := by rw [IntKind.wrap_i64]; omega
          go_wp2_with fail
          have HPD := Lib.hid (HPL.out.no (Ch.refl No _).drew)
          have T1 := Lib.hid (((Ch.refl No _).drew).cell T0.out (fun h => h))
          clear HPL T0
          go_region_held3 (fun w' => w'.cell? ⟨xb, 0, none⟩ = some (.slice (some ⟨rb, ro, none⟩) (L.length) rc)) (first | exact T2.out | exact T1.out) (first | (go_at_call 20; refine (QT.out.1 _ HPD.out.sa.ar).mono ?_; rintro e wl ⟨rfl, rfl⟩) | (go_at_call 21; refine (QT.out.2 _ HPD.out.sa.ar).mono ?_; rintro e wl ⟨rfl, hl⟩; have HPE := Lib.hid (HPD.out.no hl); have T2 := Lib.hid (hl.cell T1.out (fun h => h)); clear hl))
          clear T1 T2 HPD QT
          rename_i hh
          clear hh
          go_wp2_with fail
          first | refine ⟨?rel, ?measure⟩ | go_roundw
          case rel => exact ⟨pre ++ [o], post, L, Lib.hid (by rw [hxp.out]; simp), by simp, Lib.hid ⟨by have := hLL.out.1; simp at this ⊢; omega, hLL.out.2⟩, Lib.hid ⟨_, _, _, HPE.out⟩⟩
          case measure => simp [intOf]; omega
        · have q2 := fun w' => RHas_any w' RA rc L limit o.i ⟨hi1, hi2⟩ (by omega)
          rw [decide_eq_false hin] at q2
          have q := fun w' (h : Ar w' w0.heap.size g k limit L) => AGet_no w' _ g k limit L h o.i ⟨hi1, hi2⟩ hin
          simp only [Nd.val, Nd.zero] at q
          have HQ := Lib.hid (And.intro q q2)
          have HBO := Lib.hid BO
          clear q q2 hin BO
          go_wp2_with fail
          have HP2 := Lib.hid (HP1.out.no ((Ch.refl No wr).alloc (.cells #[.int .i64 o.k, .int .i32 o.i, .int .i32 o.n.l, .int .i32 o.n.r, .int .i64 o.n.c, .int .i64 o.n.s, .int .i64 o.n.mn, .int .i64 o.n.mx, .bool o.n.k] 36)))
          refine (HQ.out.1 _ HP2.out.sa.ar).mono ?_
          rintro e w2 ⟨rfl, h2⟩
          have HP3 := Lib.hid (HP2.out.no (h2.alloc (.cells #[.int .i32 0, .int .i32 0, .int .i64 0, .int .i64 0, .int .i64 0, .int .i64 0, .bool false] 34)))
          have NB := Lib.hid (NBox.new w2 Nd.zero)
          have BO2 := Lib.hid (HBO.out.ch (h2.alloc (.cells #[.int .i32 0, .int .i32 0, .int .i64 0, .int .i64 0, .int .i64 0, .int .i64 0, .bool false] 34)) (fun h => h))
          obtain ⟨t0, t1, t2, t3⟩ := HP3.out.box
          have z1 := BO2.out.cell 1
          simp only [List.getElem?_cons_zero, List.getElem?_cons_succ] at z1
          clear h2 HP1 HP2 HBO k0 k1 k2 k3 k4 k5 k6 k7 k8
          go_wp2_with fail
          refine (HQ.out.2 _).mono ?_
          rintro e w3 ⟨rfl, h3⟩
          clear t0 t1 t2 t3 z1 HQ
          have HP4 := Lib.hid (HP3.out.no h3)
          obtain ⟨n0, n1, n2, n3, n4, n5, n6⟩ := NB.out.no h3
          simp only [Nd.zero] at n0 n1 n2 n3 n4 n5 n6
          clear NB BO2 HP3 h3
          go_wp2_with fail
          replace n0 := in_cell n0; replace n1 := in_cell n1; replace n2 := in_cell n2; replace n3 := in_cell n3; replace n4 := in_cell n4; replace n5 := in_cell n5; replace n6 := in_cell n6
          (refine wp_region_in (Ch No _) (by kernel_rfl) (by kernel_rfl) (Ch.refl _ _) (fun _ h => ch_drawn h) ?_)
          repeat (go_big_quiet_step (fail))
          (refine wpQuiet_nil ?_; intro wq0 hw'; obtain ⟨pw, hw''⟩ := hw'; subst hw'')
          clear n0 n1 n2 n3 n4 n5 n6
          have HPL := Lib.hid (HP4.out.no pw.h)
          have hN : Hid (L.length = L.length) := Lib.hid rfl
          have hLL : Hid (L.length ≤ pre.length + 1 ∧ (L.length : Int) ≤ limit) := Lib.hid ⟨by omega, by omega⟩
          clear HP4
          obtain ⟨t0, _, _, _⟩ := HPL.out.box
          rw [hN.out] at t0
          have T0 := Lib.hid t0
          clear t0
          have eN : (((L).length : Nat) : Int) = (L.length : Int) := by first | rfl | (rw [hN.out]; done) | (rw [hN.out]; omega)
          have q1 := fun w' (h : Ar w' w0.heap.size g k limit (L)) => ALen_any w' _ g k limit (L) h
          have q2 := fun w' (h : Ar w' w0.heap.size g k limit (L)) => ARoom_any w' _ g k limit (L) h hLL.out.2 (by omega)
          try simp only [eN] at q1 q2
          have QT := Lib.hid (And.intro q1 q2)
          clear q1 q2 eN
          have hw : IntKind.i64.wrap (limit - ((L.length : Int))) = limit - ((L.length : Int)) := by rw [IntKind.wrap_i64]; omega
          go_wp2_with fail
          have HPD := Lib.hid (HPL.out.no (Ch.refl No _).drew)
          have T1 := Lib.hid (((Ch.refl No _).drew).cell T0.out (fun h => h))
          clear HPL T0
          go_region_held3 (fun w' => w'.cell? ⟨xb, 0, none⟩ = some (.slice RA (L.length) rc)) (first | exact T2.out | exact T1.out) (first | (go_at_call 20; refine (QT.out.1 _ HPD.out.sa.ar).mono ?_; rintro e wl ⟨rfl, rfl⟩) | (go_at_call 21; refine (QT.out.2 _ HPD.out.sa.ar).mono ?_; rintro e wl ⟨rfl, hl⟩; have HPE := Lib.hid (HPD.out.no hl); have T2 := Lib.hid (hl.cell T1.out (fun h => h)); clear hl))
          clear T1 T2 HPD QT
          rename_i hh
          clear hh
          go_wp2_with fail
          first | refine ⟨?rel, ?measure⟩ | go_roundw
          case rel => exact ⟨pre ++ [o], post, L, Lib.hid (by rw [hxp.out]; simp), by simp, Lib.hid ⟨by have := hLL.out.1; simp at this ⊢; omega, hLL.out.2⟩, Lib.hid ⟨_, _, _, HPE.out⟩⟩
          case measure => simp [intOf]; omega
      have b3 : (o.k == 3) = false := by simpa using h3
      clear h3
      have HPL := Lib.hid (HP1.out.no ((Ch.refl No wr).alloc (.cells #[.int .i64 o.k, .int .i32 o.i, .int .i32 o.n.l, .int .i32 o.n.r, .int .i64 o.n.c, .int .i64 o.n.s, .int .i64 o.n.mn, .int .i64 o.n.mx, .bool o.n.k] 36)))
      have hN : Hid (L.length = L.length) := Lib.hid rfl
      have hLL : Hid (L.length ≤ pre.length + 1 ∧ (L.length : Int) ≤ limit) := Lib.hid ⟨by omega, by omega⟩
      clear HP1
      obtain ⟨t0, _, _, _⟩ := HPL.out.box
      rw [hN.out] at t0
      have T0 := Lib.hid t0
      clear t0
      have eN : (((L).length : Nat) : Int) = (L.length : Int) := by first | rfl | (rw [hN.out]; done) | (rw [hN.out]; omega)
      have q1 := fun w' (h : Ar w' w0.heap.size g k limit (L)) => ALen_any w' _ g k limit (L) h
      have q2 := fun w' (h : Ar w' w0.heap.size g k limit (L)) => ARoom_any w' _ g k limit (L) h hLL.out.2 (by omega)
      try simp only [eN] at q1 q2
      have QT := Lib.hid (And.intro q1 q2)
      clear q1 q2 eN
      have hw : IntKind.i64.wrap (limit - ((L.length : Int))) = limit - ((L.length : Int)) := by rw [IntKind.wrap_i64]; omega
      go_wp2_with fail
      have HPD := Lib.hid (HPL.out.no (Ch.refl No _).drew)
      have T1 := Lib.hid (((Ch.refl No _).drew).cell T0.out (fun h => h))
      clear HPL T0
      go_region_held3 (fun w' => w'.cell? ⟨xb, 0, none⟩ = some (.slice RA (L.length) rc)) (first | exact T2.out | exact T1.out) (first | (go_at_call 20; refine (QT.out.1 _ HPD.out.sa.ar).mono ?_; rintro e wl ⟨rfl, rfl⟩) | (go_at_call 21; refine (QT.out.2 _ HPD.out.sa.ar).mono ?_; rintro e wl ⟨rfl, hl⟩; have HPE := Lib.hid (HPD.out.no hl); have T2 := Lib.hid (hl.cell T1.out (fun h => h)); clear hl))
      clear T1 T2 HPD QT
      rename_i hh
      clear hh
      go_wp2_with fail
      first | refine ⟨?rel, ?measure⟩ | go_roundw
      case rel => exact ⟨pre ++ [o], post, L, Lib.hid (by rw [hxp.out]; simp), by simp, Lib.hid ⟨by have := hLL.out.1; simp at this ⊢; omega, hLL.out.2⟩, Lib.hid ⟨_, _, _, HPE.out⟩⟩
      case measure => simp [intOf]; omega

theorem arenaPlays_walk (W : World) (a0 : Int) (A1 : Option Addr) (n1 c1 : Nat) (a2 : Int) (_w0 : (Lit.int .i64 a0).wf = true) (R : Rd Try.prog W 8 22 [.slice A1 n1 c1]) (_w2 : (Lit.int .i64 a2).wf = true) :
    Calls Try.prog 3 #[.int .i64 a0, .slice A1 n1 c1, .int .i64 a2] W fun e w' => e = .returned (.bool true) ∧ Below W.heap.size W w' := by
  obtain ⟨A, c, xs, hv, hx, hi⟩ := rd_aos R
  obtain ⟨rfl, rfl, rfl⟩ := Value.slice.inj hv
  exact (arenaPlays_core W a0 _ _ xs a2 hx hi).mono fun _ _ ⟨h1, h2⟩ => ⟨h1, h2.same⟩
end Go.Proofs.Ytjphocpnmhheeaa
