/- ArenaKeeps: what is set is got, and nothing else is turned: the walk. -/
import Derived.Test.YtjphocpnmhheeaaArenaFills
namespace Go.Proofs.Ytjphocpnmhheeaa
open Go.RowKit

/-- a node as it comes in -/
theorem rd_node {W : World} {n : Nat} {cs : List Value} (h : Rd Try.prog W (n + 3) 34 cs) : ∃ a : Nd, cs = a.enc := by
  obtain ⟨hl, hf⟩ := rd_struct h Try.underlying34
  rw [show Try.prog.cellsOf 34 = 7 from by kernel_rfl] at hl
  match cs, hl with
  | [c0, c1, c2, c3, c4, c5, c6], _ =>
    simp only [List.mem_cons, List.not_mem_nil, or_false, forall_eq_or_imp, forall_eq] at hf
    rw [show Try.prog.cellsOf 21 = 1 from by kernel_rfl, show Try.prog.cellsOf 32 = 4 from by kernel_rfl, show Try.prog.cellsOf 4 = 1 from by kernel_rfl] at hf
    obtain ⟨m0, rfl, _⟩ := rd_int (c := c0) hf.1 Try.underlying21
    obtain ⟨m1, rfl, _⟩ := rd_int (c := c1) hf.2.1 Try.underlying21
    obtain ⟨m6, rfl⟩ := rd_bool (c := c6) hf.2.2.2 Try.underlying4
    obtain ⟨_, hg⟩ := rd_struct (cs := [c2, c3, c4, c5]) hf.2.2.1 Try.underlying32
    simp only [List.mem_cons, List.not_mem_nil, or_false, forall_eq_or_imp, forall_eq] at hg
    rw [show Try.prog.cellsOf 3 = 1 from by kernel_rfl, show Try.prog.cellsOf 2 = 1 from by kernel_rfl] at hg
    obtain ⟨m2, rfl, _⟩ := rd_int (c := c2) hg.1 Try.underlying3
    obtain ⟨m3, rfl, _⟩ := rd_int (c := c3) hg.2.1 Try.underlying2
    obtain ⟨m4, rfl, _⟩ := rd_int (c := c4) hg.2.2.1 Try.underlying2
    obtain ⟨m5, rfl, _⟩ := rd_int (c := c5) hg.2.2.2 Try.underlying2
    exact ⟨⟨m0, m1, m2, m3, m4, m5, m6⟩, rfl⟩
/-- a row of nodes as it comes in -/
theorem rd_nodes {W : World} {n : Nat} {v : Value} (h : Rd Try.prog W (n + 4) 49 [v]) : ∃ A cap, ∃ xs : List Nd, v = .slice A xs.length cap ∧ Rws W A 7 (xs.map Nd.enc) ∧ xs.length * 48 ≤ 140737488351232 := by
  obtain ⟨A, cap, xs, rfl, hr, _, hc, hl⟩ := slice_dec (N := n + 3) (sz := 7) (B := 48) Nd.enc (fun _ => True) h Try.underlying49 (by kernel_rfl) (by kernel_rfl) (by omega) (fun r hr => by
    obtain ⟨a, ha⟩ := rd_node hr
    exact ⟨a, ha, trivial⟩)
  exact ⟨A, cap, xs, rfl, hr, hl⟩
theorem Rws.no {w w' : World} {A : Option Addr} {sz : Nat} {rows : List (List Value)} (h : Rws w A sz rows) (hc : Ch No w w') : Rws w' A sz rows := by
  intro pre r post e
  obtain ⟨h1, b, off, hA, h2⟩ := h pre r post e
  exact ⟨h1, b, off, hA, fun j v hj => hc.cell (h2 j v hj) (fun h => h)⟩
/-- the cells of a node in a row of them -/
theorem Rws.node {w : World} {A : Option Addr} {xs pre post : List Nd} {a : Nd} (h : Rws w A 7 (xs.map Nd.enc)) (e : xs = pre ++ a :: post) :
    ∃ b off, A = some ⟨b, off, none⟩ ∧ (w.cell? ⟨b, off + pre.length * 7, none⟩ = some (.int .i32 a.l) ∧ w.cell? ⟨b, off + pre.length * 7 + 1, none⟩ = some (.int .i32 a.r) ∧ w.cell? ⟨b, off + pre.length * 7 + 2, none⟩ = some (.int .i64 a.c) ∧ w.cell? ⟨b, off + pre.length * 7 + 3, none⟩ = some (.int .i64 a.s) ∧ w.cell? ⟨b, off + pre.length * 7 + 4, none⟩ = some (.int .i64 a.mn) ∧ w.cell? ⟨b, off + pre.length * 7 + 5, none⟩ = some (.int .i64 a.mx) ∧ w.cell? ⟨b, off + pre.length * 7 + 6, none⟩ = some (.bool a.k)) := by
  obtain ⟨_, b, off, hA, hc⟩ := h (pre.map Nd.enc) a.enc (post.map Nd.enc) (by rw [e]; simp)
  rw [List.length_map] at hc
  exact ⟨b, off, hA, hc 0 _ rfl, hc 1 _ rfl, hc 2 _ rfl, hc 3 _ rfl, hc 4 _ rfl, hc 5 _ rfl, hc 6 _ rfl⟩
/-- a row of a call's own reads as its nodes -/
theorem row_rws {w : World} {B : Nat} {A : Option Addr} {c : Nat} {xs : List Nd} (h : w.ownsRow B 34 7 (.slice A xs.length c) xs.length (flatN xs)) : Rws w A 7 (xs.map Nd.enc) := by
  intro pre r post e
  obtain ⟨p, q, rfl, rfl, e2⟩ := List.map_eq_append_iff.1 e
  obtain ⟨a, q', rfl, rfl, rfl⟩ := List.map_eq_cons_iff.1 e2
  refine ⟨rfl, ?_⟩
  rcases h.2 with ⟨_, h0⟩ | ⟨g, cap, cur, hv, _⟩
  · simp at h0
  · have hA : A = some ⟨g, 0, none⟩ := (Value.slice.inj hv).1
    subst hA
    refine ⟨g, 0, rfl, ?_⟩
    intro j v hj
    have hj7 : j < 7 := by have := (List.getElem?_eq_some_iff.1 hj).1; simpa [Nd.enc] using this
    rw [List.length_map, Nat.zero_add]
    have h1 := h.cellAt (p.length * 7 + j) (by rw [List.length_append, List.length_cons]; omega)
    rw [flatN_at p q' a j hj7, hj] at h1
    exact h1

/-- the box of a node -/
def NBox (w : World) (b : Nat) (a : Nd) : Prop := w.cell? ⟨b, 0, none⟩ = some (.int .i32 a.l) ∧ w.cell? ⟨b, 1, none⟩ = some (.int .i32 a.r) ∧ w.cell? ⟨b, 2, none⟩ = some (.int .i64 a.c) ∧ w.cell? ⟨b, 3, none⟩ = some (.int .i64 a.s) ∧ w.cell? ⟨b, 4, none⟩ = some (.int .i64 a.mn) ∧ w.cell? ⟨b, 5, none⟩ = some (.int .i64 a.mx) ∧ w.cell? ⟨b, 6, none⟩ = some (.bool a.k)
theorem NBox.new (w : World) (a : Nd) : NBox (w.alloc (.cells a.enc.toArray 34)) w.heap.size a := by
  have h := Blk.new w 34 a.enc
  exact ⟨h.cell 0, h.cell 1, h.cell 2, h.cell 3, h.cell 4, h.cell 5, h.cell 6⟩
theorem NBox.ch {S : Nat → Prop} {w w' : World} {b : Nat} {a : Nd} (h : NBox w b a) (hc : Ch S w w') (hn : ¬ S b) : NBox w' b a :=
  ⟨hc.cell h.1 hn, hc.cell h.2.1 hn, hc.cell h.2.2.1 hn, hc.cell h.2.2.2.1 hn, hc.cell h.2.2.2.2.1 hn, hc.cell h.2.2.2.2.2.1 hn, hc.cell h.2.2.2.2.2.2 hn⟩
theorem NBox.no {w w' : World} {b : Nat} {a : Nd} (h : NBox w b a) (hc : Ch No w w') : NBox w' b a := h.ch hc (fun h => h)

theorem Rws.nodeAt {w : World} {A : Option Addr} {xs : List Nd} {a : Nd} (h : Rws w A 7 (xs.map Nd.enc)) (i : Nat) (e : xs[i]? = some a) :
    ∃ b off, A = some ⟨b, off, none⟩ ∧ (w.cell? ⟨b, off + i * 7, none⟩ = some (.int .i32 a.l) ∧ w.cell? ⟨b, off + i * 7 + 1, none⟩ = some (.int .i32 a.r) ∧ w.cell? ⟨b, off + i * 7 + 2, none⟩ = some (.int .i64 a.c) ∧ w.cell? ⟨b, off + i * 7 + 3, none⟩ = some (.int .i64 a.s) ∧ w.cell? ⟨b, off + i * 7 + 4, none⟩ = some (.int .i64 a.mn) ∧ w.cell? ⟨b, off + i * 7 + 5, none⟩ = some (.int .i64 a.mx) ∧ w.cell? ⟨b, off + i * 7 + 6, none⟩ = some (.bool a.k)) := by
  obtain ⟨hi, rfl⟩ := List.getElem?_eq_some_iff.1 e
  have h1 := h.node (pre := xs.take i) (a := xs[i]) (post := xs.drop (i + 1)) (by rw [← List.drop_eq_getElem_cons hi, List.take_append_drop])
  rw [List.length_take, Nat.min_eq_left (Nat.le_of_lt hi)] at h1
  exact h1
theorem cut_at (l : List Nd) (p : Nat) (h : p < l.length) : ∃ P y Q, l = P ++ y :: Q ∧ P.length = p ∧ ∀ a, P ++ a :: Q = l.set p a := by
  refine ⟨l.take p, l[p], l.drop (p + 1), by rw [← List.drop_eq_getElem_cons h, List.take_append_drop], by simp; omega, fun a => ?_⟩
  rw [List.set_eq_take_append_cons_drop, if_pos h]

theorem take_next (pre : List Nd) (x : Nd) (m : Nat) (h : pre.length < m) : (pre ++ [x]).take m = pre.take m ++ [x] := by
  rw [List.take_of_length_le (by simp; omega), List.take_of_length_le (by omega)]
theorem take_full (pre : List Nd) (x : Nd) (m : Nat) (h : m ≤ pre.length) : (pre ++ [x]).take m = pre.take m := by
  rw [List.take_append_of_le_length h]

set_option maxHeartbeats 16000000 in
set_option maxRecDepth 100000 in
theorem arenaKeeps_core (W : World) (limit : Int) (A : Option Addr) (c : Nat) (xs : List Nd) (at' : Int) (nd : Nd) (hat : -2147483648 ≤ at' ∧ at' ≤ 2147483647) (hx : Rws W A 7 (xs.map Nd.enc)) (hl : xs.length ≤ 140737488351232) :
    Calls Try.prog 4 #[.int .i64 limit, .slice A xs.length c, .int .i32 at', nd.val] W fun e w' => e = .returned (.bool true) ∧ Ch No W w' := by
  have HX := Lib.hid hx
  clear hx
  obtain ⟨hat1, hat2⟩ := hat
  unfold Nd.val
  go_enter Try.func4, Try.ntmps4
  go_wp2_with fail
  have HN0 := Lib.hid (And.intro (NBox.new W nd) ((Ch.refl No W).alloc (.cells nd.enc.toArray 34)))
  refine (arnAlive_any _).mono ?_
  rintro e w0 ⟨rfl, C0⟩
  have HC0 : Hid (NBox w0 W.heap.size nd ∧ Ch No W w0) := Lib.hid ⟨HN0.out.1.no C0, HN0.out.2.trans C0⟩
  clear C0 HN0
  obtain ⟨nb, hnb⟩ : ∃ nb, W.heap.size = nb := ⟨_, rfl⟩
  rw [hnb] at HC0 ⊢
  clear hnb
  by_cases hlo : limit < 1
  · go_wp2_with fail
    go_ret
    exact ⟨rfl, HC0.out.2⟩
  by_cases hhi : 60 < limit
  · go_wp2_with fail
    go_ret
    exact ⟨rfl, HC0.out.2⟩
  by_cases h60 : 60 < xs.length
  · go_wp2_with fail
    go_ret
    exact ⟨rfl, HC0.out.2⟩
  go_wp2_with fail
  obtain ⟨m, rfl⟩ : ∃ m : Nat, limit = m := ⟨limit.toNat, by omega⟩
  refine (ANew_ok w0 m (by omega) (by omega)).mono ?_
  rintro e w1 ⟨rfl, a1, h1⟩
  obtain ⟨g, hg⟩ : ∃ g, w0.heap.size = g := ⟨_, rfl⟩
  have HS : Hid (∃ k, SA w0 w1 g k m (([] : List Nd).take m)) := Lib.hid ⟨none, by rw [← hg, List.take_nil]; exact SA.new (Ch.refl No w0) rfl a1 h1⟩
  rw [hg]
  clear hg a1 h1
  go_wp2_with fail
  go_loopw [11, 13, 14, 15, 42] (fun cn _ _ _ i wr => ∃ (pre post : List Nd) (u : Nat), Hid (xs = pre ++ post ∧ u = min pre.length m) ∧ i = .int .i64 pre.length ∧ cn = .int .i64 u ∧ u ≤ m ∧ Hid (∃ k, SA w0 wr g k m (pre.take m))) (fun _ _ _ _ i _ => xs.length - (intOf i).toNat)
  case atStart => exact ⟨[], xs, 0, Lib.hid ⟨rfl, by simp⟩, rfl, rfl, by omega, HS⟩
  case round =>
    clear HS
    obtain ⟨pre, post, u, hx, rfl, rfl, hum, hst⟩ := hrel
    cases post with
    | nil =>
      obtain rfl : pre = xs := by have := hx.out.1; simpa using this.symm
      obtain ⟨k, hst⟩ := hst.out
      have hul : (pre.take m).length = u := by rw [List.length_take]; exact (by rw [hx.out.2]; omega)
      have hup : u ≤ pre.length := by have := hx.out.2; omega
      obtain ⟨b0, b1, b2, b3, b4, b5, b6⟩ := HC0.out.1.no hst.ch
      have HST := Lib.hid hst
      clear hx
      have hcase : at' < 1 ∨ ((u : Int) < at' ∧ 1 ≤ at') ∨ (1 ≤ at' ∧ at' ≤ u) := by omega
      rcases hcase with hc | ⟨hc, hc'⟩ | ⟨hc1, hc2⟩
      · have hno : ¬ inA (pre.take m) at' := by
          rintro ⟨x, y⟩
          rw [hul] at y
          omega
        have q := ASet_no wr _ g k m _ hst.ar at' ⟨hat1, hat2⟩ hno nd
        simp only [Nd.val] at q
        have HQ := Lib.hid q
        clear q hno
        go_wp2_with fail
        refine HQ.out.mono ?_
        rintro e w2 ⟨rfl, h2⟩
        have H2 := Lib.hid (HST.out.no h2)
        obtain ⟨L, hL⟩ : ∃ L, pre.take m = L := ⟨_, rfl⟩
        have HL : Hid (∀ i, i < L.length → L[i]? = pre[i]?) := Lib.hid (fun i hi => by rw [← hL] at hi ⊢; simp at hi; rw [List.getElem?_take, if_pos (by omega)])
        rw [hL] at H2
        have hLu : Hid (L.length = u) := Lib.hid (by rw [← hL]; exact hul)
        clear h2 HST HQ b0 b1 b2 b3 b4 b5 b6 hul hL
        go_wp2_with fail
        refine (nodes_any w2 _ g k m L H2.out.ar (by have := hLu.out; omega) 1000).mono ?_
        rintro e w3 ⟨v, rfl, hrow, h3⟩
        rw [List.take_of_length_le (by have := hLu.out; simp; omega)] at hrow
        obtain ⟨A2, c2, rfl⟩ := row_shape hrow
        have HR := Lib.hid (row_rws hrow)
        have H3 := Lib.hid (H2.out.ch.trans h3)
        rw [hLu.out]
        clear hrow h3 H2
        go_wp2_with fail
        go_loopw [19, 20, 21, 106] (fun _ _ _ i wr => ∃ j : Nat, j ≤ u ∧ i = .int .i64 j ∧ Hid (Ch No w3 wr)) (fun _ _ _ i _ => u - (intOf i).toNat)
        case atStart => exact ⟨0, by omega, rfl, Lib.hid (Ch.refl No _)⟩
        case round =>
          obtain ⟨j, hj, rfl, hch⟩ := hrel
          by_cases hju : j < u
          · obtain ⟨x, hx1⟩ : ∃ x, L[j]? = some x := ⟨_, List.getElem?_eq_getElem (by have := hLu.out; omega)⟩
            have hx2 : pre[j]? = some x := by rw [← HL.out j (by have := hLu.out; omega)]; exact hx1
            have hjp : j < pre.length := (List.getElem?_eq_some_iff.1 hx2).1
            obtain ⟨b1, o1, rfl, ⟨l0, l1, l2, l3, l4, l5, l6⟩⟩ := (HR.out.no hch.out).nodeAt j hx1
            obtain ⟨b2, o2, rfl, ⟨k0, k1, k2, k3, k4, k5, k6⟩⟩ := (HX.out.no ((HC0.out.2.trans (H3.out.trans hch.out)).alloc (.cells #[.int .i32 x.l, .int .i32 x.r, .int .i64 x.c, .int .i64 x.s, .int .i64 x.mn, .int .i64 x.mx, .bool x.k] 34))).nodeAt j hx2
            clear hx1 hx2
            go_wp2_with fail
            exact ⟨⟨j + 1, by omega, by go_num, Lib.hid ((hch.out.alloc _).alloc _)⟩, by simp [intOf]; omega⟩
          · obtain rfl : j = u := by omega
            go_wp2_with fail
            go_ret
            exact ⟨rfl, HC0.out.2.trans (H3.out.trans hch.out)⟩
      · have hno : ¬ inA (pre.take m) at' := by
          rintro ⟨x, y⟩
          rw [hul] at y
          omega
        have q := ASet_no wr _ g k m _ hst.ar at' ⟨hat1, hat2⟩ hno nd
        simp only [Nd.val] at q
        have HQ := Lib.hid q
        clear q hno
        go_wp2_with fail
        refine HQ.out.mono ?_
        rintro e w2 ⟨rfl, h2⟩
        have H2 := Lib.hid (HST.out.no h2)
        obtain ⟨L, hL⟩ : ∃ L, pre.take m = L := ⟨_, rfl⟩
        have HL : Hid (∀ i, i < L.length → L[i]? = pre[i]?) := Lib.hid (fun i hi => by rw [← hL] at hi ⊢; simp at hi; rw [List.getElem?_take, if_pos (by omega)])
        rw [hL] at H2
        have hLu : Hid (L.length = u) := Lib.hid (by rw [← hL]; exact hul)
        clear h2 HST HQ b0 b1 b2 b3 b4 b5 b6 hul hL
        go_wp2_with fail
        refine (nodes_any w2 _ g k m L H2.out.ar (by have := hLu.out; omega) 1000).mono ?_
        rintro e w3 ⟨v, rfl, hrow, h3⟩
        rw [List.take_of_length_le (by have := hLu.out; simp; omega)] at hrow
        obtain ⟨A2, c2, rfl⟩ := row_shape hrow
        have HR := Lib.hid (row_rws hrow)
        have H3 := Lib.hid (H2.out.ch.trans h3)
        rw [hLu.out]
        clear hrow h3 H2
        go_wp2_with fail
        go_loopw [19, 20, 21, 106] (fun _ _ _ i wr => ∃ j : Nat, j ≤ u ∧ i = .int .i64 j ∧ Hid (Ch No w3 wr)) (fun _ _ _ i _ => u - (intOf i).toNat)
        case atStart => exact ⟨0, by omega, rfl, Lib.hid (Ch.refl No _)⟩
        case round =>
          obtain ⟨j, hj, rfl, hch⟩ := hrel
          by_cases hju : j < u
          · obtain ⟨x, hx1⟩ : ∃ x, L[j]? = some x := ⟨_, List.getElem?_eq_getElem (by have := hLu.out; omega)⟩
            have hx2 : pre[j]? = some x := by rw [← HL.out j (by have := hLu.out; omega)]; exact hx1
            have hjp : j < pre.length := (List.getElem?_eq_some_iff.1 hx2).1
            obtain ⟨b1, o1, rfl, ⟨l0, l1, l2, l3, l4, l5, l6⟩⟩ := (HR.out.no hch.out).nodeAt j hx1
            obtain ⟨b2, o2, rfl, ⟨k0, k1, k2, k3, k4, k5, k6⟩⟩ := (HX.out.no ((HC0.out.2.trans (H3.out.trans hch.out)).alloc (.cells #[.int .i32 x.l, .int .i32 x.r, .int .i64 x.c, .int .i64 x.s, .int .i64 x.mn, .int .i64 x.mx, .bool x.k] 34))).nodeAt j hx2
            clear hx1 hx2
            go_wp2_with fail
            exact ⟨⟨j + 1, by omega, by go_num, Lib.hid ((hch.out.alloc _).alloc _)⟩, by simp [intOf]; omega⟩
          · obtain rfl : j = u := by omega
            go_wp2_with fail
            go_ret
            exact ⟨rfl, HC0.out.2.trans (H3.out.trans hch.out)⟩
      · obtain ⟨p, hp⟩ : ∃ p : Nat, at' = (p : Int) + 1 := ⟨(at' - 1).toNat, by omega⟩
        obtain ⟨P, y, Q, hPQ, hPl, hset⟩ := cut_at (pre.take m) p (by omega)
        have q := ASet_ok wr _ g k m P Q y (hPQ ▸ hst.ar) (by omega) nd
        rw [hPl, ← hp, hset nd] at q
        simp only [Nd.val] at q
        have HQ := Lib.hid q
        clear q
        have hP := Lib.hid (And.intro hp (And.intro hPQ hPl))
        clear hp hPQ hPl hset
        go_wp2_with fail
        refine HQ.out.mono ?_
        rintro e w2 ⟨rfl, a2, h2⟩
        have H2 := Lib.hid (HST.out.set a2 h2)
        obtain ⟨L, hL⟩ : ∃ L, (pre.take m).set p nd = L := ⟨_, rfl⟩
        have HL : Hid (∀ i, i < L.length → (i = p → L[i]? = some nd) ∧ (i ≠ p → L[i]? = pre[i]?)) := Lib.hid (fun i hi => by
          rw [← hL] at hi ⊢
          simp at hi
          refine ⟨fun e => ?_, fun e => ?_⟩
          · subst e; rw [List.getElem?_set_self (by simp; omega)]
          · rw [List.getElem?_set_ne (by omega), List.getElem?_take, if_pos (by omega)])
        rw [hL] at H2
        have hLu : Hid (L.length = u) := Lib.hid (by rw [← hL, List.length_set]; exact hul)
        clear a2 h2 HST HQ b0 b1 b2 b3 b4 b5 b6 hul hL
        go_wp2_with fail
        refine (nodes_any w2 _ g k m L H2.out.ar (by have := hLu.out; omega) 1000).mono ?_
        rintro e w3 ⟨v, rfl, hrow, h3⟩
        rw [List.take_of_length_le (by have := hLu.out; simp; omega)] at hrow
        obtain ⟨A2, c2, rfl⟩ := row_shape hrow
        have HR := Lib.hid (row_rws hrow)
        have H3 := Lib.hid (H2.out.ch.trans h3)
        rw [hLu.out]
        clear hrow h3 H2
        go_wp2_with fail
        go_loopw [19, 20, 21, 106] (fun _ _ _ i wr => ∃ j : Nat, j ≤ u ∧ i = .int .i64 j ∧ Hid (Ch No w3 wr)) (fun _ _ _ i _ => u - (intOf i).toNat)
        case atStart => exact ⟨0, by omega, rfl, Lib.hid (Ch.refl No _)⟩
        case round =>
          obtain ⟨j, hj, rfl, hch⟩ := hrel
          by_cases hju : j < u
          · obtain ⟨x, hx1⟩ : ∃ x, L[j]? = some x := ⟨_, List.getElem?_eq_getElem (by have := hLu.out; omega)⟩
            have hjl : j < L.length := (List.getElem?_eq_some_iff.1 hx1).1
            have hjp : j < pre.length := by have := hLu.out; omega
            by_cases hjq : j = p
            · have hjq' : ((j : Int) == at' - 1) = true := by have := hP.out.1; simp; omega
              have hxn := (HL.out j hjl).1 hjq
              rw [hxn] at hx1
              obtain rfl : nd = x := Option.some.inj hx1
              obtain ⟨z, hx2⟩ : ∃ z, pre[j]? = some z := ⟨_, List.getElem?_eq_getElem hjp⟩
              obtain ⟨b1, o1, rfl, ⟨l0, l1, l2, l3, l4, l5, l6⟩⟩ := (HR.out.no hch.out).nodeAt j hxn
              obtain ⟨b2, o2, rfl, ⟨k0, k1, k2, k3, k4, k5, k6⟩⟩ := (HX.out.no ((HC0.out.2.trans (H3.out.trans hch.out)).alloc (.cells #[.int .i32 nd.l, .int .i32 nd.r, .int .i64 nd.c, .int .i64 nd.s, .int .i64 nd.mn, .int .i64 nd.mx, .bool nd.k] 34))).nodeAt j hx2
              obtain ⟨b0, b1, b2, b3, b4, b5, b6⟩ := HC0.out.1.no (((H3.out.trans hch.out).alloc (.cells #[.int .i32 nd.l, .int .i32 nd.r, .int .i64 nd.c, .int .i64 nd.s, .int .i64 nd.mn, .int .i64 nd.mx, .bool nd.k] 34)).alloc (.cells #[.int .i32 z.l, .int .i32 z.r, .int .i64 z.c, .int .i64 z.s, .int .i64 z.mn, .int .i64 z.mx, .bool z.k] 34))
              clear hx1 hx2 hxn hjq
              go_wp2_with fail
              exact ⟨⟨j + 1, by omega, by go_num, Lib.hid ((hch.out.alloc _).alloc _)⟩, by simp [intOf]; omega⟩
            · have hjq' : ((j : Int) == at' - 1) = false := by have := hP.out.1; simp; omega
              have hx2 : pre[j]? = some x := by rw [← (HL.out j hjl).2 hjq]; exact hx1
              obtain ⟨b1, o1, rfl, ⟨l0, l1, l2, l3, l4, l5, l6⟩⟩ := (HR.out.no hch.out).nodeAt j hx1
              obtain ⟨b2, o2, rfl, ⟨k0, k1, k2, k3, k4, k5, k6⟩⟩ := (HX.out.no ((HC0.out.2.trans (H3.out.trans hch.out)).alloc (.cells #[.int .i32 x.l, .int .i32 x.r, .int .i64 x.c, .int .i64 x.s, .int .i64 x.mn, .int .i64 x.mx, .bool x.k] 34))).nodeAt j hx2
              clear hx1 hx2 hjq
              go_wp2_with fail
              exact ⟨⟨j + 1, by omega, by go_num, Lib.hid ((hch.out.alloc _).alloc _)⟩, by simp [intOf]; omega⟩
          · obtain rfl : j = u := by omega
            go_wp2_with fail
            go_ret
            exact ⟨rfl, HC0.out.2.trans (H3.out.trans hch.out)⟩
    | cons x post =>
      have hlen : pre.length < xs.length := by rw [hx.out.1]; simp
      obtain ⟨k, hst⟩ := hst.out
      obtain ⟨b, off, rfl, ⟨k0, k1, k2, k3, k4, k5, k6⟩⟩ := (HX.out.no (HC0.out.2.trans hst.ch)).node hx.out.1
      have hul : (pre.take m).length = u := by rw [List.length_take]; exact (by rw [hx.out.2]; omega)
      by_cases hfull : u < m
      · have q := fun w' (h : SA w0 w' g k m (pre.take m)) => AAlloc_ok w' _ g k m _ h.ar h.ch.size (by rw [hul]; omega) (by omega)
        rw [hul] at q
        have HQ := Lib.hid q
        have HST := Lib.hid hst
        have HU := Lib.hid hul
        have hpm : Hid (pre.length < m) := Lib.hid (by have := hx.out.2; omega)
        clear q hst hul
        go_wp2_with fail
        have HNB := Lib.hid (NBox.new wr x)
        have HS2 := Lib.hid (HST.out.no ((Ch.refl No wr).alloc (.cells x.enc.toArray 34)))
        refine (HQ.out _ HS2.out).mono ?_
        rintro e w2 ⟨rfl, kq, a2, h2, _⟩
        have H2 := Lib.hid (HS2.out.more a2 h2)
        obtain ⟨n0, n1, n2, n3, n4, n5, n6⟩ := HNB.out.ch h2 (fun he => by
          have h1 := HST.out.ar.lt
          rcases he with he | he
          · omega
          · have := (HST.out.ar.klt he).2; omega)
        clear a2 h2 HST HQ HNB HS2 k0 k1 k2 k3 k4 k5 k6
        have q := ASet_ok w2 _ g kq m (pre.take m) [] Nd.zero H2.out.ar (by rw [HU.out]; omega) x
        rw [HU.out] at q
        simp only [Nd.val] at q
        have HQ := Lib.hid q
        clear q
        go_wp2_with fail
        refine HQ.out.mono ?_
        rintro e w3 ⟨rfl, a3, h3⟩
        have H3 : Hid (∃ k, SA w0 w3 g k m ((pre ++ [x]).take m)) := Lib.hid ⟨_, by rw [take_next pre x m hpm.out]; exact H2.out.set a3 h3⟩
        clear a3 h3 H2 HQ n0 n1 n2 n3 n4 n5 n6
        go_wp2_with fail
        go_roundw
        case rel => exact ⟨pre ++ [x], post, u + 1, Lib.hid ⟨by rw [hx.out.1]; simp, by have h1 := hx.out.2; have h2 := hpm.out; simp; omega⟩, by simp, by go_num, by omega, H3⟩
        case measure => simp [intOf]; omega
      · obtain rfl : u = m := by omega
        have q := fun w' (h : SA w0 w' g k u (pre.take u)) => AAlloc_full w' _ g k u _ h.ar (by rw [hul]) (by omega)
        have HQ := Lib.hid q
        have HST := Lib.hid hst
        have hpm : Hid (u ≤ pre.length) := Lib.hid (by have := hx.out.2; omega)
        clear q hst hul
        go_wp2_with fail
        have HS2 := Lib.hid (HST.out.no ((Ch.refl No wr).alloc (.cells x.enc.toArray 34)))
        refine (HQ.out _ HS2.out).mono ?_
        rintro e w2 ⟨rfl, h2⟩
        have H3 : Hid (∃ k, SA w0 w2 g k u ((pre ++ [x]).take u)) := Lib.hid ⟨_, by rw [take_full pre x u hpm.out]; exact HS2.out.no h2⟩
        clear h2 HST HQ HS2 k0 k1 k2 k3 k4 k5 k6
        go_wp2_with fail
        go_roundw
        case rel => exact ⟨pre ++ [x], post, u, Lib.hid ⟨by rw [hx.out.1]; simp, by have h1 := hx.out.2; have h2 := hpm.out; simp; omega⟩, by simp, rfl, by omega, H3⟩
        case measure => simp [intOf]; omega
theorem arenaKeeps_walk (W : World) (a0 : Int) (A1 : Option Addr) (n1 c1 : Nat) (a2 : Int) (cs : Array Value) (_w0 : (Lit.int .i64 a0).wf = true) (R : Rd Try.prog W 8 49 [.slice A1 n1 c1]) (w2 : (Lit.int .i32 a2).wf = true) (R3 : Rd Try.prog W 8 34 cs.toList) :
    Calls Try.prog 4 #[.int .i64 a0, .slice A1 n1 c1, .int .i32 a2, .agg cs] W fun e w' => e = .returned (.bool true) ∧ Below W.heap.size W w' := by
  obtain ⟨A, c, xs, hv, hx, hl⟩ := rd_nodes R
  obtain ⟨rfl, rfl, rfl⟩ := Value.slice.inj hv
  obtain ⟨nd, hnd⟩ := rd_node R3
  have hcs : cs = nd.enc.toArray := by rw [← hnd]
  subst hcs
  exact (arenaKeeps_core W a0 _ _ xs a2 nd (by have := bounds_i32 w2; omega) hx (by omega)).mono fun _ _ ⟨h1, h2⟩ => ⟨h1, h2.same⟩
end Go.Proofs.Ytjphocpnmhheeaa
