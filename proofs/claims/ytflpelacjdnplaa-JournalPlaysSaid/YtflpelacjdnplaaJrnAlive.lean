/- journal: the document's example. -/
import Derived.Test.YtflpelacjdnplaaJrnEnt
namespace Go.Proofs.Ytflpelacjdnplaa
open Go.RowKit

/-- an entry of a tenant's -/
def entT (t : Int) : Ent := ⟨0, 0, t, 0, 0, 0⟩
theorem js_no {W w w' : World} {jb n c gone cap : Nat} {A : Option Addr} {xs : List Ent} (h : Ch No W w) (hj : Jr w jb A n c gone cap xs) (hb : W.heap.size ≤ jb) (k : Ch (JS jb A) w w') : Ch No W w' :=
  h.trans' k (fun i hi he => by have := hj.js i he; omega)
theorem only_no {W w w' : World} {jb : Nat} (h : Ch No W w) (hb : W.heap.size ≤ jb) (k : Ch (fun i => i = jb) w w') : Ch No W w' :=
  h.trans' k (fun i hi he => by omega)

set_option maxHeartbeats 8000000 in
set_option maxRecDepth 100000 in
theorem jrnAlive_any (W : World) : Calls Try.prog 12 #[] W fun e w' => e = .returned (.bool true) ∧ Ch No W w' := by
  have HN : Hid (∀ w, Calls Try.prog 13 #[.int .i64 1] w fun e w' => ∃ jb, e = .returned (.tuple #[.pointer (some ⟨jb, 0, none⟩), .int .i64 0]) ∧ w.heap.size ≤ jb ∧ Jr w' jb none 0 0 0 1 [] ∧ Ch No w w') := Lib.hid (fun w => JNew_ok 1 (by omega) (by omega) w)
  have HN0 := Lib.hid (fun w => JNew_bad 0 (by omega) w)
  have HA1 : Hid (∀ w jb A c, Jr w jb A 0 c 0 1 [] → Calls Try.prog 15 #[.pointer (some ⟨jb, 0, none⟩), .agg #[.int .i64 0, .int .i64 0, .int .i64 3, .int .i64 0, .int .i64 0, .int .i64 0]] w fun e w' => e = .returned (.tuple #[.int .i64 1, .int .i64 0]) ∧ ∃ A' c', Jr w' jb A' 1 c' 0 1 [entT 3] ∧ Ch (JS jb A) w w') :=
    Lib.hid (fun w jb A c h => (JAdd_ok h (entT 3) (by decide) (by omega) (by omega) (by omega)).mono fun _ _ ⟨h1, A', c', h2, h3, _⟩ => ⟨by rw [h1]; rfl, A', c', h2, h3⟩)
  have HA2 : Hid (∀ w jb A c xs, Jr w jb A 1 c 0 1 xs → Calls Try.prog 15 #[.pointer (some ⟨jb, 0, none⟩), .agg #[.int .i64 0, .int .i64 0, .int .i64 0, .int .i64 0, .int .i64 0, .int .i64 0]] w fun e w' => e = .returned (.tuple #[.int .i64 0, .int .i64 42]) ∧ Ch No w w') :=
    Lib.hid (fun w jb A c xs h => JAdd_full h (entT 0) (by decide) rfl)
  have HF : Hid (∀ w jb A c xs, Jr w jb A 1 c 0 1 xs → Calls Try.prog 21 #[.pointer (some ⟨jb, 0, none⟩)] w fun e w' => e = .returned (.bool true) ∧ Ch No w w') := Lib.hid (fun w jb A c xs h => JFull_any h)
  have HT : Hid (∀ w jb A c x, Jr w jb A 1 c 0 1 [x] → Calls Try.prog 17 #[.pointer (some ⟨jb, 0, none⟩), .int .i64 1] w fun e w' => e = .returned (.int .i64 1) ∧ ∃ A' c', Jr w' jb A' 0 c' 1 1 [] ∧ Ch (fun k => k = jb) w w') :=
    Lib.hid (fun w jb A c x h => (JTrim_any h 1 (by omega) (by omega)).mono fun _ _ ⟨h1, A', h2, h3, _⟩ => ⟨h1, A', _, h2, h3⟩)
  have HA3 : Hid (∀ w jb A c, Jr w jb A 0 c 1 1 [] → Calls Try.prog 15 #[.pointer (some ⟨jb, 0, none⟩), .agg #[.int .i64 0, .int .i64 0, .int .i64 4, .int .i64 0, .int .i64 0, .int .i64 0]] w fun e w' => e = .returned (.tuple #[.int .i64 2, .int .i64 0]) ∧ ∃ A' c', Jr w' jb A' 1 c' 1 1 [entT 4] ∧ Ch (JS jb A) w w') :=
    Lib.hid (fun w jb A c h => (JAdd_ok h (entT 4) (by decide) (by omega) (by omega) (by omega)).mono fun _ _ ⟨h1, A', c', h2, h3, _⟩ => ⟨by rw [h1]; rfl, A', c', h2, h3⟩)
  have HG1 : Hid (∀ w jb A c, Jr w jb A 1 c 1 1 [entT 4] → Calls Try.prog 23 #[.pointer (some ⟨jb, 0, none⟩), .int .i64 2] w fun e w' => e = .returned (.tuple #[.agg #[.int .i64 0, .int .i64 0, .int .i64 4, .int .i64 0, .int .i64 0, .int .i64 0], .int .i64 0]) ∧ Ch No w w') :=
    Lib.hid (fun w jb A c h => JGet_in [] [] (entT 4) h (by omega) (by omega) 0 rfl 2 (by omega))
  have HG2 : Hid (∀ w jb A c, Jr w jb A 1 c 1 1 [entT 4] → Calls Try.prog 23 #[.pointer (some ⟨jb, 0, none⟩), .int .i64 1] w fun e w' => e = .returned (.tuple #[.agg #[.int .i64 0, .int .i64 0, .int .i64 0, .int .i64 0, .int .i64 0, .int .i64 0], .int .i64 4]) ∧ Ch No w w') :=
    Lib.hid (fun w jb A c h => JGet_out h (by omega) (by omega) 1 (by omega))
  have HE : Hid (∀ w jb A c, Jr w jb A 1 c 1 1 [entT 4] → Calls Try.prog 22 #[.pointer (some ⟨jb, 0, none⟩), .int .i64 9] w fun e w' => ∃ g cv Au cu, e = .returned (.tuple #[.slice (some ⟨g, 0, none⟩) 1 cv, .slice Au 1 cu]) ∧ w'.cell? ⟨g, 0, none⟩ = some (.int .i64 2) ∧ Ch No w w') :=
    Lib.hid (fun w jb A c h => (entries_any w jb 1 c 1 1 A [entT 4] h (by omega) (by omega) 9).mono fun _ w' ⟨v, u, h1, h2, h3, h4⟩ => by
      obtain ⟨Av, cv, rfl⟩ := row_shape h2
      obtain ⟨Au, cu, rfl⟩ := row_shape h3
      have h5 : OwnS w' w.heap.size 3 (.slice Av 1 cv) (ints .i64 [2]) := h2
      obtain ⟨q1, q2, _⟩ := h5.cls
      obtain ⟨g, o, hA, hc⟩ := q1.get 0 (by simp)
      rcases h5.2 with ⟨hv, _⟩ | ⟨g2, cap, cur, hv, _⟩
      · cases hv
      · cases hv
        cases hA
        exact ⟨g, cv, Au, cu, h1, by simpa using hc, h4⟩)
  have HP4 : Hid (∀ w jb A c, Jr w jb A 1 c 1 1 [entT 4] → Calls Try.prog 26 #[.pointer (some ⟨jb, 0, none⟩), .int .i64 4, .int .i64 0, .int .i64 9] w fun e w' => ∃ A1 c1, e = .returned (.slice A1 1 c1) ∧ Ch No w w') :=
    Lib.hid (fun w jb A c h => (JPage_any w jb 1 c 1 1 A [entT 4] h (by omega) (by omega) 4 0 9).mono fun _ w' ⟨v, h1, h2, h4⟩ => by
      obtain ⟨A1, c1, rfl, _⟩ := h2.slice
      exact ⟨A1, c1, h1, h4⟩)
  have HP3 : Hid (∀ w jb A c, Jr w jb A 1 c 1 1 [entT 4] → Calls Try.prog 26 #[.pointer (some ⟨jb, 0, none⟩), .int .i64 3, .int .i64 0, .int .i64 9] w fun e w' => ∃ A1 c1, e = .returned (.slice A1 0 c1) ∧ Ch No w w') :=
    Lib.hid (fun w jb A c h => (JPage_any w jb 1 c 1 1 A [entT 4] h (by omega) (by omega) 3 0 9).mono fun _ w' ⟨v, h1, h2, h4⟩ => by
      obtain ⟨A1, c1, rfl, _⟩ := h2.slice
      exact ⟨A1, c1, h1, h4⟩)
  have HQ : Hid (∀ w jb A c, Jr w jb A 1 c 1 1 [entT 4] → (Calls Try.prog 19 #[.pointer (some ⟨jb, 0, none⟩)] w fun e w' => e = .returned (.int .i64 2) ∧ Ch No w w') ∧ (Calls Try.prog 20 #[.pointer (some ⟨jb, 0, none⟩)] w fun e w' => e = .returned (.int .i64 3) ∧ Ch No w w') ∧ (Calls Try.prog 18 #[.pointer (some ⟨jb, 0, none⟩)] w fun e w' => e = .returned (.int .i64 1) ∧ Ch No w w')) :=
    Lib.hid (fun w jb A c h => ⟨JFirst_any h (by omega), JNext_any h (by omega) (by omega), JLen_any h⟩)
  go_enter Try.func12, Try.ntmps12
  go_wp2_with fail
  refine (HN.out _).mono ?_
  rintro e w1 ⟨jb, rfl, hb, j1, h1⟩
  have H1 := Lib.hid (And.intro j1 (And.intro hb h1))
  clear j1 hb h1
  go_wp2_with fail
  refine (HA1.out _ _ _ _ H1.out.1).mono ?_
  rintro e w2 ⟨rfl, A2, c2, j2, h2⟩
  have H2 := Lib.hid (And.intro j2 (js_no H1.out.2.2 H1.out.1 H1.out.2.1 h2))
  clear j2 h2
  go_wp2_with fail
  refine (HA2.out _ _ _ _ _ H2.out.1).mono ?_
  rintro e w3 ⟨rfl, h3⟩
  have H3 := Lib.hid (And.intro (H2.out.1.no h3) (H2.out.2.trans h3))
  clear h3
  go_wp2_with fail
  refine (HF.out _ _ _ _ _ H3.out.1).mono ?_
  rintro e w4 ⟨rfl, h4⟩
  have H4 := Lib.hid (And.intro (H3.out.1.no h4) (H3.out.2.trans h4))
  clear h4
  go_wp2_with fail
  refine (HT.out _ _ _ _ _ H4.out.1).mono ?_
  rintro e w5 ⟨rfl, A5, c5, j5, h5⟩
  have H5 := Lib.hid (And.intro j5 (only_no H4.out.2 H1.out.2.1 h5))
  clear j5 h5
  go_wp2_with fail
  refine (HA3.out _ _ _ _ H5.out.1).mono ?_
  rintro e w6 ⟨rfl, A6, c6, j6, h6⟩
  have H6 := Lib.hid (And.intro j6 (js_no H5.out.2 H5.out.1 H1.out.2.1 h6))
  clear j6 h6
  go_wp2_with fail
  refine (HG1.out _ _ _ _ H6.out.1).mono ?_
  rintro e w7 ⟨rfl, h7⟩
  have k7 : (w7.alloc (.cells (entT 4).enc.toArray 32)).cell? ⟨w7.heap.size, 2, none⟩ = some (.int .i64 4) := (Blk.new w7 32 (entT 4).enc).cell 2
  have g7 : Ch No w6 (w7.alloc (.cells (entT 4).enc.toArray 32)) := h7.alloc _
  have H7 := Lib.hid (And.intro (H6.out.1.no g7) (And.intro (H6.out.2.trans g7) k7))
  clear h7 k7 g7
  go_wp2_with fail
  refine (HG2.out _ _ _ _ H7.out.1).mono ?_
  rintro e w8 ⟨rfl, h8⟩
  have g8 : Ch No (w7.alloc (.cells (entT 4).enc.toArray 32)) (w8.alloc (.cells (entT 0).enc.toArray 32)) := h8.alloc _
  have H8 := Lib.hid (And.intro (H7.out.1.no g8) (And.intro (H7.out.2.1.trans g8) (g8.cell H7.out.2.2 (fun h => h))))
  clear h8 g8
  go_wp2_with fail
  refine (HN0.out _).mono ?_
  rintro e w9 ⟨rfl, h9⟩
  have H9 := Lib.hid (And.intro (H8.out.1.no h9) (And.intro (H8.out.2.1.trans h9) (h9.cell H8.out.2.2 (fun h => h))))
  clear h9
  go_wp2_with fail
  refine (HE.out _ _ _ _ H9.out.1).mono ?_
  rintro e w10 ⟨g, cv, Au, cu, rfl, ka, h10⟩
  have H10 := Lib.hid (And.intro (H9.out.1.no h10) (And.intro (H9.out.2.1.trans h10) (And.intro (h10.cell H9.out.2.2 (fun h => h)) ka)))
  clear h10 ka
  go_wp2_with fail
  refine (HP4.out _ _ _ _ H10.out.1).mono ?_
  rintro e w11 ⟨A11, c11, rfl, h11⟩
  have H11 := Lib.hid (And.intro (H10.out.1.no h11) (And.intro (H10.out.2.1.trans h11) (And.intro (h11.cell H10.out.2.2.1 (fun h => h)) (h11.cell H10.out.2.2.2 (fun h => h)))))
  clear h11
  go_wp2_with fail
  refine (HP3.out _ _ _ _ H11.out.1).mono ?_
  rintro e w12 ⟨A12, c12, rfl, h12⟩
  have H12 := Lib.hid (And.intro (H11.out.1.no h12) (And.intro (H11.out.2.1.trans h12) (And.intro (h12.cell H11.out.2.2.1 (fun h => h)) (h12.cell H11.out.2.2.2 (fun h => h)))))
  clear h12
  have kx := H12.out.2.2.1
  have ka := H12.out.2.2.2
  go_wp2_with fail
  refine ((HQ.out _ _ _ _ H12.out.1).1).mono ?_
  rintro e w13 ⟨rfl, h13⟩
  have H13 := Lib.hid (And.intro (H12.out.1.no h13) (H12.out.2.1.trans h13))
  clear h13 kx ka
  go_wp2_with fail
  refine ((HQ.out _ _ _ _ H13.out.1).2.1).mono ?_
  rintro e w14 ⟨rfl, h14⟩
  have H14 := Lib.hid (And.intro (H13.out.1.no h14) (H13.out.2.trans h14))
  clear h14
  go_wp2_with fail
  refine ((HQ.out _ _ _ _ H14.out.1).2.2).mono ?_
  rintro e w15 ⟨rfl, h15⟩
  have H15 := Lib.hid (H14.out.2.trans h15)
  clear h15
  go_wp2_with fail
  go_ret
  exact ⟨rfl, H15.out⟩
end Go.Proofs.Ytflpelacjdnplaa
