/- ArenaSwaps: two nodes that are set to what the other had have it: the walk. -/
import Derived.Test.YtjphocpnmhheeaaArenaKeeps
import Derived.Deep.RegionHeld3
namespace Go.Proofs.Ytjphocpnmhheeaa
open Go.RowKit

theorem and255 (n : Int) : ∃ r : Nat, r < 256 ∧ bits .and .i64 n 255 = r := by
  have h := i64_mask n 8 (by decide)
  have e : ((2 : Int) ^ 8 - 1) = 255 := rfl
  rw [e] at h
  refine ⟨(n % 256).toNat, by omega, ?_⟩
  rw [h]
  omega

/-- a node is set, by its number from 0 on -/
theorem ASet_at (w : World) (B g : Nat) (k : Option Nat) (lim : Int) (l : List Nd) (h : Ar w B g k lim l) (p : Nat) (hp : p < l.length) (hl : l.length ≤ 1000) (b : Nd) :
    Calls Try.prog 16 #[.pointer (some ⟨g, 0, none⟩), .int .i32 ((p : Int) + 1), b.val] w fun e w' => e = .returned (.int .i64 0) ∧ Ar w' B g k lim (l.set p b) ∧ Ch (fun i => k = some i) w w' := by
  obtain ⟨P, y, Q, e, hP, hs⟩ := cut_at l p hp
  have q := ASet_ok w B g k lim P Q y (e ▸ h) (by omega) b
  rw [hP, hs b] at q
  exact q
theorem AGet_at (w : World) (B g : Nat) (k : Option Nat) (lim : Int) (l : List Nd) (h : Ar w B g k lim l) (p : Nat) (a : Nd) (hp : l[p]? = some a) (hl : l.length ≤ 1000) :
    Calls Try.prog 18 #[.pointer (some ⟨g, 0, none⟩), .int .i32 ((p : Int) + 1)] w fun e w' => e = .returned (.tuple #[a.val, .int .i64 0]) ∧ Ch No w w' := by
  obtain ⟨hi, rfl⟩ := List.getElem?_eq_some_iff.1 hp
  obtain ⟨P, y, Q, e, hP, hs⟩ := cut_at l p hi
  have hy : l[p] = y := by simp [e, ← hP]
  rw [hy]
  have q := AGet_ok w B g k lim P Q y (e ▸ h) (by omega)
  rw [hP] at q
  exact q

def Four (w : World) (bx bz b o p q : Nat) (x y : Nd) : Prop := w.cell? ⟨bx, 0, none⟩ = some (.int .i32 x.l) ∧ w.cell? ⟨bx, 1, none⟩ = some (.int .i32 x.r) ∧ w.cell? ⟨bx, 2, none⟩ = some (.int .i64 x.c) ∧ w.cell? ⟨bx, 3, none⟩ = some (.int .i64 x.s) ∧ w.cell? ⟨bx, 4, none⟩ = some (.int .i64 x.mn) ∧ w.cell? ⟨bx, 5, none⟩ = some (.int .i64 x.mx) ∧ w.cell? ⟨bx, 6, none⟩ = some (.bool x.k) ∧ w.cell? ⟨bz, 0, none⟩ = some (.int .i32 y.l) ∧ w.cell? ⟨bz, 1, none⟩ = some (.int .i32 y.r) ∧ w.cell? ⟨bz, 2, none⟩ = some (.int .i64 y.c) ∧ w.cell? ⟨bz, 3, none⟩ = some (.int .i64 y.s) ∧ w.cell? ⟨bz, 4, none⟩ = some (.int .i64 y.mn) ∧ w.cell? ⟨bz, 5, none⟩ = some (.int .i64 y.mx) ∧ w.cell? ⟨bz, 6, none⟩ = some (.bool y.k) ∧ w.cell? ⟨b, o + p * 7, none⟩ = some (.int .i32 x.l) ∧ w.cell? ⟨b, o + p * 7 + 1, none⟩ = some (.int .i32 x.r) ∧ w.cell? ⟨b, o + p * 7 + 2, none⟩ = some (.int .i64 x.c) ∧ w.cell? ⟨b, o + p * 7 + 3, none⟩ = some (.int .i64 x.s) ∧ w.cell? ⟨b, o + p * 7 + 4, none⟩ = some (.int .i64 x.mn) ∧ w.cell? ⟨b, o + p * 7 + 5, none⟩ = some (.int .i64 x.mx) ∧ w.cell? ⟨b, o + p * 7 + 6, none⟩ = some (.bool x.k) ∧ w.cell? ⟨b, o + q * 7, none⟩ = some (.int .i32 y.l) ∧ w.cell? ⟨b, o + q * 7 + 1, none⟩ = some (.int .i32 y.r) ∧ w.cell? ⟨b, o + q * 7 + 2, none⟩ = some (.int .i64 y.c) ∧ w.cell? ⟨b, o + q * 7 + 3, none⟩ = some (.int .i64 y.s) ∧ w.cell? ⟨b, o + q * 7 + 4, none⟩ = some (.int .i64 y.mn) ∧ w.cell? ⟨b, o + q * 7 + 5, none⟩ = some (.int .i64 y.mx) ∧ w.cell? ⟨b, o + q * 7 + 6, none⟩ = some (.bool y.k)
theorem Four.ch {S : Nat → Prop} {w w' : World} {bx bz b o p q : Nat} {x y : Nd} (h : Four w bx bz b o p q x y) (hc : Ch S w w') (n1 : ¬ S bx) (n2 : ¬ S bz) (n3 : ¬ S b) : Four w' bx bz b o p q x y := by
  obtain ⟨m0, m1, m2, m3, m4, m5, m6, m7, m8, m9, m10, m11, m12, m13, m14, m15, m16, m17, m18, m19, m20, m21, m22, m23, m24, m25, m26, m27⟩ := h
  exact ⟨hc.cell m0 n1, hc.cell m1 n1, hc.cell m2 n1, hc.cell m3 n1, hc.cell m4 n1, hc.cell m5 n1, hc.cell m6 n1, hc.cell m7 n2, hc.cell m8 n2, hc.cell m9 n2, hc.cell m10 n2, hc.cell m11 n2, hc.cell m12 n2, hc.cell m13 n2, hc.cell m14 n3, hc.cell m15 n3, hc.cell m16 n3, hc.cell m17 n3, hc.cell m18 n3, hc.cell m19 n3, hc.cell m20 n3, hc.cell m21 n3, hc.cell m22 n3, hc.cell m23 n3, hc.cell m24 n3, hc.cell m25 n3, hc.cell m26 n3, hc.cell m27 n3⟩
theorem Four.box {w : World} {bx bz b o p q : Nat} {x y : Nd} (h : Four w bx bz b o p q x y) : NBox w bx x ∧ NBox w bz y := by
  obtain ⟨m0, m1, m2, m3, m4, m5, m6, m7, m8, m9, m10, m11, m12, m13, m14, m15, m16, m17, m18, m19, m20, m21, m22, m23, m24, m25, m26, m27⟩ := h
  exact ⟨⟨m0, m1, m2, m3, m4, m5, m6⟩, ⟨m7, m8, m9, m10, m11, m12, m13⟩⟩
def Three (w : World) (b1 o1 b2 o2 b o j : Nat) (x : Nd) : Prop := w.cell? ⟨b1, o1 + j * 7, none⟩ = some (.int .i32 x.l) ∧ w.cell? ⟨b1, o1 + j * 7 + 1, none⟩ = some (.int .i32 x.r) ∧ w.cell? ⟨b1, o1 + j * 7 + 2, none⟩ = some (.int .i64 x.c) ∧ w.cell? ⟨b1, o1 + j * 7 + 3, none⟩ = some (.int .i64 x.s) ∧ w.cell? ⟨b1, o1 + j * 7 + 4, none⟩ = some (.int .i64 x.mn) ∧ w.cell? ⟨b1, o1 + j * 7 + 5, none⟩ = some (.int .i64 x.mx) ∧ w.cell? ⟨b1, o1 + j * 7 + 6, none⟩ = some (.bool x.k) ∧ w.cell? ⟨b2, o2 + j * 7, none⟩ = some (.int .i32 x.l) ∧ w.cell? ⟨b2, o2 + j * 7 + 1, none⟩ = some (.int .i32 x.r) ∧ w.cell? ⟨b2, o2 + j * 7 + 2, none⟩ = some (.int .i64 x.c) ∧ w.cell? ⟨b2, o2 + j * 7 + 3, none⟩ = some (.int .i64 x.s) ∧ w.cell? ⟨b2, o2 + j * 7 + 4, none⟩ = some (.int .i64 x.mn) ∧ w.cell? ⟨b2, o2 + j * 7 + 5, none⟩ = some (.int .i64 x.mx) ∧ w.cell? ⟨b2, o2 + j * 7 + 6, none⟩ = some (.bool x.k) ∧ w.cell? ⟨b, o + j * 7, none⟩ = some (.int .i32 x.l) ∧ w.cell? ⟨b, o + j * 7 + 1, none⟩ = some (.int .i32 x.r) ∧ w.cell? ⟨b, o + j * 7 + 2, none⟩ = some (.int .i64 x.c) ∧ w.cell? ⟨b, o + j * 7 + 3, none⟩ = some (.int .i64 x.s) ∧ w.cell? ⟨b, o + j * 7 + 4, none⟩ = some (.int .i64 x.mn) ∧ w.cell? ⟨b, o + j * 7 + 5, none⟩ = some (.int .i64 x.mx) ∧ w.cell? ⟨b, o + j * 7 + 6, none⟩ = some (.bool x.k)
theorem Three.no {w w' : World} {b1 o1 b2 o2 b o j : Nat} {x : Nd} (h : Three w b1 o1 b2 o2 b o j x) (hc : Ch No w w') : Three w' b1 o1 b2 o2 b o j x := by
  obtain ⟨m0, m1, m2, m3, m4, m5, m6, m7, m8, m9, m10, m11, m12, m13, m14, m15, m16, m17, m18, m19, m20⟩ := h
  exact ⟨hc.cell m0 (fun h => h), hc.cell m1 (fun h => h), hc.cell m2 (fun h => h), hc.cell m3 (fun h => h), hc.cell m4 (fun h => h), hc.cell m5 (fun h => h), hc.cell m6 (fun h => h), hc.cell m7 (fun h => h), hc.cell m8 (fun h => h), hc.cell m9 (fun h => h), hc.cell m10 (fun h => h), hc.cell m11 (fun h => h), hc.cell m12 (fun h => h), hc.cell m13 (fun h => h), hc.cell m14 (fun h => h), hc.cell m15 (fun h => h), hc.cell m16 (fun h => h), hc.cell m17 (fun h => h), hc.cell m18 (fun h => h), hc.cell m19 (fun h => h), hc.cell m20 (fun h => h)⟩
theorem Rws.ch {S : Nat → Prop} {w w' : World} {A : Option Addr} {sz : Nat} {rows : List (List Value)} (h : Rws w A sz rows) (hc : Ch S w w') (hn : ∀ b off, A = some ⟨b, off, none⟩ → ¬ S b) : Rws w' A sz rows := by
  intro pre r post e
  obtain ⟨h1, b, off, hA, h2⟩ := h pre r post e
  exact ⟨h1, b, off, hA, fun j v hj => hc.cell (h2 j v hj) (hn b off hA)⟩
theorem row_far {w : World} {B : Nat} {A : Option Addr} {c : Nat} {xs : List Nd} (h : w.ownsRow B 34 7 (.slice A xs.length c) xs.length (flatN xs)) : ∀ b off, A = some ⟨b, off, none⟩ → B ≤ b ∧ b < w.heap.size := by
  intro b off e
  subst e
  rcases h.2 with ⟨h1, h0⟩ | ⟨g, cap, cur, hv, _⟩
  · cases h1
  · cases hv
    exact h.lt _ rfl
theorem swap_p (l : List Nd) (p q : Nat) (x y : Nd) (hx : l[p]? = some x) (hy : l[q]? = some y) : ((l.set p y).set q x)[p]? = some y := by
  have hp := (List.getElem?_eq_some_iff.1 hx).1
  by_cases h : q = p
  · subst h
    rw [hx] at hy
    cases hy
    rw [List.getElem?_set_self (by simpa using hp)]
  · rw [List.getElem?_set_ne h, List.getElem?_set_self hp]
theorem swap_q (l : List Nd) (p q : Nat) (x y : Nd) (hy : l[q]? = some y) : ((l.set p y).set q x)[q]? = some x := by
  have hq := (List.getElem?_eq_some_iff.1 hy).1
  rw [List.getElem?_set_self (by simpa using hq)]
theorem swap_back (l : List Nd) (p q : Nat) (x y : Nd) (hx : l[p]? = some x) (hy : l[q]? = some y) : ((((l.set p y).set q x).set p x).set q y) = l := by
  have hp := (List.getElem?_eq_some_iff.1 hx).1
  have hq := (List.getElem?_eq_some_iff.1 hy).1
  refine List.ext_getElem? fun i => ?_
  by_cases h1 : q = i
  · subst h1
    rw [List.getElem?_set_self (by simpa using hq), hy]
  · rw [List.getElem?_set_ne h1]
    by_cases h2 : p = i
    · subst h2
      rw [List.getElem?_set_self (by simpa using hp), hx]
    · rw [List.getElem?_set_ne h2, List.getElem?_set_ne h1, List.getElem?_set_ne h2]

set_option maxHeartbeats 16000000 in
set_option maxRecDepth 100000 in
theorem arenaSwaps_core (W : World) (A : Option Addr) (c : Nat) (xs : List Nd) (i1 k1 : Int) (hx : Rws W A 7 (xs.map Nd.enc)) :
    Calls Try.prog 6 #[.slice A xs.length c, .int .i64 i1, .int .i64 k1] W fun e w' => e = .returned (.bool true) ∧ Ch No W w' := by
  have HX := Lib.hid hx
  clear hx
  go_enter Try.func6, Try.ntmps6
  go_wp2_with fail
  refine (arnAlive_any _).mono ?_
  rintro e w0 ⟨rfl, C0⟩
  have HC0 : Hid (Ch No W w0) := Lib.hid C0
  clear C0
  by_cases h0 : xs.length = 0
  · go_wp2_with fail
    go_ret
    exact ⟨rfl, HC0.out⟩
  by_cases h60 : 60 < xs.length
  · go_wp2_with fail
    go_ret
    exact ⟨rfl, HC0.out⟩
  have h0' : ((xs.length : Int) == 0) = false := by simpa using h0
  go_wp2_with fail
  refine (ANew_ok w0 xs.length (by omega) (by omega)).mono ?_
  rintro e w1 ⟨rfl, a1, h1⟩
  obtain ⟨g, hg⟩ : ∃ g, w0.heap.size = g := ⟨_, rfl⟩
  have HS : Hid (∃ k, SA w0 w1 g k xs.length ([] : List Nd)) := Lib.hid ⟨none, by rw [← hg]; exact SA.new (Ch.refl No w0) rfl a1 h1⟩
  rw [hg]
  clear hg a1 h1
  go_wp2_with fail
  go_loopw [10, 11, 12, 46] (fun _ _ _ i wr => ∃ (pre post : List Nd), Hid (xs = pre ++ post) ∧ i = .int .i64 pre.length ∧ Hid (∃ k, SA w0 wr g k xs.length pre)) (fun _ _ _ i _ => xs.length - (intOf i).toNat)
  case atStart => exact ⟨[], xs, Lib.hid rfl, rfl, HS⟩
  case round =>
    clear HS
    obtain ⟨pre, post, hx, rfl, hst⟩ := hrel
    cases post with
    | cons x post =>
      have hlen : pre.length < xs.length := by rw [hx.out]; simp
      obtain ⟨k, hst⟩ := hst.out
      obtain ⟨b, off, rfl, ⟨k0, k1, k2, k3, k4, k5, k6⟩⟩ := (HX.out.no (HC0.out.trans hst.ch)).node hx.out
      have q := fun w' (h : SA w0 w' g k xs.length pre) => AAlloc_ok w' _ g k xs.length _ h.ar h.ch.size (by omega) (by omega)
      have HQ := Lib.hid q
      have HST := Lib.hid hst
      clear q hst
      go_wp2_with fail
      have HNB := Lib.hid (NBox.new wr x)
      have HS2 := Lib.hid (HST.out.no ((Ch.refl No wr).alloc (.cells x.enc.toArray 34)))
      refine (HQ.out _ HS2.out).mono ?_
      rintro e w2 ⟨rfl, kq, a2, h2, _⟩
      have H2 := Lib.hid (HS2.out.more a2 h2)
      obtain ⟨n0, n1, n2, n3, n4, n5, n6⟩ := HNB.out.ch h2 (fun he => by
        have h1 := HST.out.ar.lt
        rcases he with he | he
        · omega
        · have := (HST.out.ar.klt he).2; omega)
      clear a2 h2 HST HQ HNB HS2 k0 k1 k2 k3 k4 k5 k6
      have q := ASet_ok w2 _ g kq xs.length pre [] Nd.zero H2.out.ar (by omega) x
      simp only [Nd.val] at q
      have HQ := Lib.hid q
      clear q
      go_wp2_with fail
      refine HQ.out.mono ?_
      rintro e w3 ⟨rfl, a3, h3⟩
      have H3 : Hid (∃ k, SA w0 w3 g k xs.length (pre ++ [x])) := Lib.hid ⟨_, H2.out.set a3 h3⟩
      clear a3 h3 H2 HQ n0 n1 n2 n3 n4 n5 n6
      go_wp2_with fail
      go_roundw
      case rel => exact ⟨pre ++ [x], post, Lib.hid (by rw [hx.out]; simp), by simp, H3⟩
      case measure => simp [intOf]; omega
    | nil =>
      obtain rfl : pre = xs := by have := hx.out; simpa using this.symm
      obtain ⟨k, hst⟩ := hst.out
      have HST := Lib.hid hst
      obtain ⟨r1, hr1, e1⟩ := and255 i1
      obtain ⟨r2, hr2, e2⟩ := and255 k1
      clear hst hx
      go_wp2_with fail
      refine (nodes_any _ _ g k _ pre HST.out.ar (by omega) 1000).mono ?_
      rintro e w3 ⟨v, rfl, hrow, h3⟩
      rw [List.take_of_length_le (by simp; omega)] at hrow
      obtain ⟨A2, c2, rfl⟩ := row_shape hrow
      have HF := Lib.hid (row_far hrow)
      have HKL := Lib.hid (fun i (hi : k = some i) => HST.out.ar.klt hi)
      have HKN : Hid (∀ b off, A2 = some ⟨b, off, none⟩ → ¬ k = some b) := Lib.hid (fun b off e1 e2 => by
        have h1 := HF.out b off e1
        have h2 := (HKL.out b e2).2
        omega)
      have HR := Lib.hid (row_rws hrow)
      have H3 := Lib.hid (HST.out.no h3)
      clear hrow h3 HKL HF
      go_wp2_with fail
      obtain ⟨p, hp⟩ : ∃ p, r1 % pre.length = p := ⟨_, rfl⟩
      obtain ⟨q, hq⟩ : ∃ q, r2 % pre.length = q := ⟨_, rfl⟩
      have t1 : Int.tmod (r1 : Int) (pre.length : Int) = (p : Int) := by rw [Int.tmod_eq_emod_of_nonneg (by omega), ← hp]; simp
      have t2 : Int.tmod (r2 : Int) (pre.length : Int) = (q : Int) := by rw [Int.tmod_eq_emod_of_nonneg (by omega), ← hq]; simp
      have hpl : p < pre.length := by rw [← hp]; exact Nat.mod_lt _ (by omega)
      have hql : q < pre.length := by rw [← hq]; exact Nat.mod_lt _ (by omega)
      have w1 : IntKind.i32.wrap (1 + (p : Int)) = 1 + (p : Int) := by rw [IntKind.wrap_i32]; omega
      have w2 : IntKind.i32.wrap (1 + (q : Int)) = 1 + (q : Int) := by rw [IntKind.wrap_i32]; omega
      clear hp hq
      go_region_held3 (fun _ => True) (trivial) (fail)
      obtain ⟨pv, hpv⟩ : ∃ pv, IntKind.i32.wrap (IntKind.i64.wrap (1 + (p : Int))) = pv := ⟨_, rfl⟩
      obtain ⟨qv, hqv⟩ : ∃ qv, IntKind.i32.wrap (IntKind.i64.wrap (1 + (q : Int))) = qv := ⟨_, rfl⟩
      rw [hpv, hqv]
      have v1 : IntKind.i64.wrap (1 + (p : Int)) = 1 + (p : Int) := by rw [IntKind.wrap_i64]; omega
      have v2 : IntKind.i64.wrap (1 + (q : Int)) = 1 + (q : Int) := by rw [IntKind.wrap_i64]; omega
      have hp1 : (p : Int) + 1 = pv := by rw [← hpv, v1, w1]; omega
      have hq1 : (q : Int) + 1 = qv := by rw [← hqv, v2, w2]; omega
      have hw1 : IntKind.i32.wrap (pv - 1) = (p : Int) := by rw [← hp1, IntKind.wrap_i32]; omega
      have hw2 : IntKind.i32.wrap (qv - 1) = (q : Int) := by rw [← hq1, IntKind.wrap_i32]; omega
      obtain ⟨x, hx⟩ : ∃ x, pre[p]? = some x := ⟨_, List.getElem?_eq_getElem hpl⟩
      obtain ⟨y, hy⟩ : ∃ y, pre[q]? = some y := ⟨_, List.getElem?_eq_getElem hql⟩
      have g1 := fun w' L z (h : Ar w' w0.heap.size g k pre.length L) (hl : L.length = pre.length) (hz : L[p]? = some z) => AGet_at w' _ g k _ L h p z hz (by omega)
      have g2 := fun w' L z (h : Ar w' w0.heap.size g k pre.length L) (hl : L.length = pre.length) (hz : L[q]? = some z) => AGet_at w' _ g k _ L h q z hz (by omega)
      have s1 := fun w' L z (h : Ar w' w0.heap.size g k pre.length L) (hl : L.length = pre.length) => ASet_at w' _ g k _ L h p (by omega) (by omega) z
      have s2 := fun w' L z (h : Ar w' w0.heap.size g k pre.length L) (hl : L.length = pre.length) => ASet_at w' _ g k _ L h q (by omega) (by omega) z
      simp only [hp1, Nd.val] at g1 s1
      simp only [hq1, Nd.val] at g2 s2
      have G1 := Lib.hid g1
      have G2 := Lib.hid g2
      have S1 := Lib.hid s1
      have S2 := Lib.hid s2
      have H4 := Lib.hid (H3.out.no (Ch.refl No w3).drew)
      have HR4 := Lib.hid (HR.out.no (Ch.refl No w3).drew)
      have HXY := Lib.hid (And.intro hx hy)
      obtain ⟨b, o, rfl, hL⟩ := (HX.out.no (HC0.out.trans H4.out.ch)).nodeAt p hx
      have NB := Lib.hid (fun (e : k = some b) => by
        have h1 := HST.out.ar.klt e
        have h2 := World.block_lt_of_cell? _ _ ((HX.out.nodeAt p hx).elim fun b' h => h.elim fun o' h => by
          obtain ⟨e1, h1, _⟩ := h
          cases e1
          exact h1)
        have h3 := HC0.out.size
        simp only at h2
        omega : ¬ k = some b)
      clear HST
      clear g1 g2 s1 s2 hpv hqv hp1 hq1 v1 v2 H3 HR e1 e2 t1 t2 w1 w2 hr1 hr2 hx hy hL
      generalize w3.drew = w4 at *
      go_wp2_with fail
      refine (G1.out _ _ _ H4.out.ar rfl HXY.out.1).mono ?_
      rintro e w5 ⟨rfl, h5⟩
      have H5 := Lib.hid (H4.out.no (h5.alloc (.cells #[.int .i32 x.l, .int .i32 x.r, .int .i64 x.c, .int .i64 x.s, .int .i64 x.mn, .int .i64 x.mx, .bool x.k] 34)))
      have HR5 := Lib.hid (HR4.out.no (h5.alloc (.cells #[.int .i32 x.l, .int .i32 x.r, .int .i64 x.c, .int .i64 x.s, .int .i64 x.mn, .int .i64 x.mx, .bool x.k] 34)))
      have B5 := Lib.hid (NBox.new w5 x)
      have K5 : Hid (∀ i, k = some i → i < w5.heap.size) := Lib.hid (fun i hi => Nat.lt_of_lt_of_le (H4.out.ar.klt hi).2 h5.size)
      clear h5 H4 HR4
      go_wp2_with fail
      refine (G2.out _ _ _ H5.out.ar rfl HXY.out.2).mono ?_
      rintro e w6 ⟨rfl, h6⟩
      have H6 := Lib.hid (H5.out.no (h6.alloc (.cells #[.int .i32 y.l, .int .i32 y.r, .int .i64 y.c, .int .i64 y.s, .int .i64 y.mn, .int .i64 y.mx, .bool y.k] 34)))
      have HR6 := Lib.hid (HR5.out.no (h6.alloc (.cells #[.int .i32 y.l, .int .i32 y.r, .int .i64 y.c, .int .i64 y.s, .int .i64 y.mn, .int .i64 y.mx, .bool y.k] 34)))
      have B6 := Lib.hid (B5.out.no (h6.alloc (.cells #[.int .i32 y.l, .int .i32 y.r, .int .i64 y.c, .int .i64 y.s, .int .i64 y.mn, .int .i64 y.mx, .bool y.k] 34)))
      have B6' := Lib.hid (NBox.new w6 y)
      have K6 : Hid (∀ i, k = some i → i < w6.heap.size) := Lib.hid (fun i hi => Nat.lt_of_lt_of_le (H5.out.ar.klt hi).2 h6.size)
      clear h6 H5 HR5 B5
      go_wp2_with fail
      have N := Lib.hid (And.intro (fun (e : k = some w5.heap.size) => Nat.lt_irrefl _ (K5.out _ e)) (And.intro (fun (e : k = some w6.heap.size) => Nat.lt_irrefl _ (K6.out _ e)) NB.out))
      obtain ⟨b', o', eb, l0, l1, l2, l3, l4, l5, l6⟩ := (HX.out.no (HC0.out.trans H6.out.ch)).nodeAt p HXY.out.1
      cases eb
      obtain ⟨b', o', eb, m0, m1, m2, m3, m4, m5, m6⟩ := (HX.out.no (HC0.out.trans H6.out.ch)).nodeAt q HXY.out.2
      cases eb
      obtain ⟨x0, x1, x2, x3, x4, x5, x6⟩ := B6.out
      obtain ⟨y0, y1, y2, y3, y4, y5, y6⟩ := B6'.out
      have F6 : Hid (Four (w6.alloc (.cells #[.int .i32 y.l, .int .i32 y.r, .int .i64 y.c, .int .i64 y.s, .int .i64 y.mn, .int .i64 y.mx, .bool y.k] 34)) w5.heap.size w6.heap.size b o p q x y) := Lib.hid ⟨x0, x1, x2, x3, x4, x5, x6, y0, y1, y2, y3, y4, y5, y6, l0, l1, l2, l3, l4, l5, l6, m0, m1, m2, m3, m4, m5, m6⟩
      clear x0 x1 x2 x3 x4 x5 x6 y0 y1 y2 y3 y4 y5 y6 l0 l1 l2 l3 l4 l5 l6 m0 m1 m2 m3 m4 m5 m6 B6 B6' K5 K6 NB
      generalize w6.alloc (.cells #[.int .i32 y.l, .int .i32 y.r, .int .i64 y.c, .int .i64 y.s, .int .i64 y.mn, .int .i64 y.mx, .bool y.k] 34) = w7 at *
      generalize w6.heap.size = bz at *
      generalize w5.heap.size = bx at *
      have H7 := Lib.hid (H6.out.no (Ch.refl No w7).drew)
      have HR7 := Lib.hid (HR6.out.no (Ch.refl No w7).drew)
      have F7 := Lib.hid (F6.out.ch (Ch.refl No w7).drew (fun h => h) (fun h => h) (fun h => h))
      clear H6 HR6 F6
      go_region_held3 (fun w' => w'.cell? ⟨bx, 0, none⟩ = some (.int .i32 x.l) ∧ w'.cell? ⟨bx, 1, none⟩ = some (.int .i32 x.r) ∧ w'.cell? ⟨bx, 2, none⟩ = some (.int .i64 x.c) ∧ w'.cell? ⟨bx, 3, none⟩ = some (.int .i64 x.s) ∧ w'.cell? ⟨bx, 4, none⟩ = some (.int .i64 x.mn) ∧ w'.cell? ⟨bx, 5, none⟩ = some (.int .i64 x.mx) ∧ w'.cell? ⟨bx, 6, none⟩ = some (.bool x.k) ∧ w'.cell? ⟨bz, 0, none⟩ = some (.int .i32 y.l) ∧ w'.cell? ⟨bz, 1, none⟩ = some (.int .i32 y.r) ∧ w'.cell? ⟨bz, 2, none⟩ = some (.int .i64 y.c) ∧ w'.cell? ⟨bz, 3, none⟩ = some (.int .i64 y.s) ∧ w'.cell? ⟨bz, 4, none⟩ = some (.int .i64 y.mn) ∧ w'.cell? ⟨bz, 5, none⟩ = some (.int .i64 y.mx) ∧ w'.cell? ⟨bz, 6, none⟩ = some (.bool y.k) ∧ w'.cell? ⟨b, o + p * 7, none⟩ = some (.int .i32 x.l) ∧ w'.cell? ⟨b, o + p * 7 + 1, none⟩ = some (.int .i32 x.r) ∧ w'.cell? ⟨b, o + p * 7 + 2, none⟩ = some (.int .i64 x.c) ∧ w'.cell? ⟨b, o + p * 7 + 3, none⟩ = some (.int .i64 x.s) ∧ w'.cell? ⟨b, o + p * 7 + 4, none⟩ = some (.int .i64 x.mn) ∧ w'.cell? ⟨b, o + p * 7 + 5, none⟩ = some (.int .i64 x.mx) ∧ w'.cell? ⟨b, o + p * 7 + 6, none⟩ = some (.bool x.k) ∧ w'.cell? ⟨b, o + q * 7, none⟩ = some (.int .i32 y.l) ∧ w'.cell? ⟨b, o + q * 7 + 1, none⟩ = some (.int .i32 y.r) ∧ w'.cell? ⟨b, o + q * 7 + 2, none⟩ = some (.int .i64 y.c) ∧ w'.cell? ⟨b, o + q * 7 + 3, none⟩ = some (.int .i64 y.s) ∧ w'.cell? ⟨b, o + q * 7 + 4, none⟩ = some (.int .i64 y.mn) ∧ w'.cell? ⟨b, o + q * 7 + 5, none⟩ = some (.int .i64 y.mx) ∧ w'.cell? ⟨b, o + q * 7 + 6, none⟩ = some (.bool y.k)) (first | exact F9.out | exact F8.out | exact F7.out) (first | (have HH := H8; clear HH; go_at_call 16; refine (S2.out _ _ x H8.out.ar (by simp)).mono ?_; rintro e w9 ⟨rfl, a9, h9⟩; have H9 := Lib.hid (H8.out.set a9 h9); have HR9 := Lib.hid (HR8.out.ch h9 HKN.out); have F9 := Lib.hid (F8.out.ch h9 N.out.1 N.out.2.1 N.out.2.2); clear a9 h9) | (go_at_call 16; refine (S1.out _ _ y H7.out.ar rfl).mono ?_; rintro e w8 ⟨rfl, a8, h8⟩; have H8 := Lib.hid (H7.out.set a8 h8); have HR8 := Lib.hid (HR7.out.ch h8 HKN.out); have F8 := Lib.hid (F7.out.ch h8 N.out.1 N.out.2.1 N.out.2.2); clear a8 h8))
      clear H7 HR7 F7 H8 HR8 F8
      rename_i hh
      clear hh hw1 hw2
      go_wp2_with fail
      refine (G1.out _ _ y H9.out.ar (by simp) (swap_p _ _ _ _ _ HXY.out.1 HXY.out.2)).mono ?_
      rintro e wA ⟨rfl, hA⟩
      have HA := Lib.hid (H9.out.no (hA.alloc (.cells #[.int .i32 y.l, .int .i32 y.r, .int .i64 y.c, .int .i64 y.s, .int .i64 y.mn, .int .i64 y.mx, .bool y.k] 34)))
      have HRA := Lib.hid (HR9.out.no (hA.alloc (.cells #[.int .i32 y.l, .int .i32 y.r, .int .i64 y.c, .int .i64 y.s, .int .i64 y.mn, .int .i64 y.mx, .bool y.k] 34)))
      have FA := Lib.hid (F9.out.ch (hA.alloc (.cells #[.int .i32 y.l, .int .i32 y.r, .int .i64 y.c, .int .i64 y.s, .int .i64 y.mn, .int .i64 y.mx, .bool y.k] 34)) (fun h => h) (fun h => h) (fun h => h))
      have BA := Lib.hid (NBox.new wA y)
      clear hA H9 HR9 F9
      go_wp2_with fail
      refine (G2.out _ _ x HA.out.ar (by simp) (swap_q _ _ _ _ _ HXY.out.2)).mono ?_
      rintro e wB ⟨rfl, hB⟩
      have HB := Lib.hid (HA.out.no (hB.alloc (.cells #[.int .i32 x.l, .int .i32 x.r, .int .i64 x.c, .int .i64 x.s, .int .i64 x.mn, .int .i64 x.mx, .bool x.k] 34)))
      have HRB := Lib.hid (HRA.out.no (hB.alloc (.cells #[.int .i32 x.l, .int .i32 x.r, .int .i64 x.c, .int .i64 x.s, .int .i64 x.mn, .int .i64 x.mx, .bool x.k] 34)))
      have FB := Lib.hid (FA.out.ch (hB.alloc (.cells #[.int .i32 x.l, .int .i32 x.r, .int .i64 x.c, .int .i64 x.s, .int .i64 x.mn, .int .i64 x.mx, .bool x.k] 34)) (fun h => h) (fun h => h) (fun h => h))
      obtain ⟨u0, u1, u2, u3, u4, u5, u6⟩ := BA.out.no (hB.alloc (.cells #[.int .i32 x.l, .int .i32 x.r, .int .i64 x.c, .int .i64 x.s, .int .i64 x.mn, .int .i64 x.mx, .bool x.k] 34))
      obtain ⟨x0, x1, x2, x3, x4, x5, x6⟩ := FB.out.box.1
      obtain ⟨y0, y1, y2, y3, y4, y5, y6⟩ := FB.out.box.2
      clear hB HA HRA FA BA
      go_wp2_with fail
      refine (S1.out _ _ x HB.out.ar (by simp)).mono ?_
      rintro e wC ⟨rfl, aC, hC⟩
      have HCC := Lib.hid (HB.out.set aC hC)
      have HRC := Lib.hid (HRB.out.ch hC HKN.out)
      have FC := Lib.hid (FB.out.ch hC N.out.1 N.out.2.1 N.out.2.2)
      clear u0 u1 u2 u3 u4 u5 u6 x0 x1 x2 x3 x4 x5 x6 y0 y1 y2 y3 y4 y5 y6 HB HRB FB aC hC
      obtain ⟨y0, y1, y2, y3, y4, y5, y6⟩ := FC.out.box.2
      go_wp2_with fail
      refine (S2.out _ _ y HCC.out.ar (by simp)).mono ?_
      rintro e wD ⟨rfl, aD, hD⟩
      rw [swap_back _ _ _ _ _ HXY.out.1 HXY.out.2] at aD
      have HD := Lib.hid (HCC.out.set aD hD)
      have HRD := Lib.hid (HRC.out.ch hD HKN.out)
      clear y0 y1 y2 y3 y4 y5 y6 HCC HRC FC aD hD G1 G2 S1 S2 HXY N
      go_wp2_with fail
      refine (nodes_any _ _ g k _ pre HD.out.ar (by omega) 1000).mono ?_
      rintro e wE ⟨v, rfl, hrow, hE⟩
      rw [List.take_of_length_le (by simp; omega)] at hrow
      obtain ⟨A3, c3, rfl⟩ := row_shape hrow
      have HN := Lib.hid (row_rws hrow)
      have HRE := Lib.hid (HRD.out.no hE)
      have HE := Lib.hid (HD.out.ch.trans hE)
      clear hrow hE HD HRD
      go_wp2_with fail
      go_loopw [27, 165] (fun _ i wr => ∃ j : Nat, j ≤ pre.length ∧ i = .int .i64 j ∧ Hid (Ch No wE wr)) (fun _ i _ => pre.length - (intOf i).toNat)
      case atStart => exact ⟨0, by omega, rfl, Lib.hid (Ch.refl No _)⟩
      case round =>
        obtain ⟨j, hj, rfl, hch⟩ := hrel
        by_cases hju : j < pre.length
        · obtain ⟨x, hx1⟩ : ∃ x, pre[j]? = some x := ⟨_, List.getElem?_eq_getElem hju⟩
          obtain ⟨b1, o1, rfl, l0, l1, l2, l3, l4, l5, l6⟩ := (HN.out.no hch.out).nodeAt j hx1
          obtain ⟨b2, o2, rfl, m0, m1, m2, m3, m4, m5, m6⟩ := (HRE.out.no hch.out).nodeAt j hx1
          obtain ⟨b3, o3, eb, n0, n1, n2, n3, n4, n5, n6⟩ := (HX.out.no (HC0.out.trans (HE.out.trans hch.out))).nodeAt j hx1
          cases eb
          have T0 : Hid (Three wr b1 o1 b2 o2 b o j x) := Lib.hid ⟨l0, l1, l2, l3, l4, l5, l6, m0, m1, m2, m3, m4, m5, m6, n0, n1, n2, n3, n4, n5, n6⟩
          clear hx1 l0 l1 l2 l3 l4 l5 l6 m0 m1 m2 m3 m4 m5 m6 n0 n1 n2 n3 n4 n5 n6
          go_wp2_with fail
          have T1 := Lib.hid (T0.out.no (Ch.refl No wr).drew)
          clear T0
          go_region_held3 (fun w' => w'.cell? ⟨b1, o1 + j * 7, none⟩ = some (.int .i32 x.l) ∧ w'.cell? ⟨b1, o1 + j * 7 + 1, none⟩ = some (.int .i32 x.r) ∧ w'.cell? ⟨b1, o1 + j * 7 + 2, none⟩ = some (.int .i64 x.c) ∧ w'.cell? ⟨b1, o1 + j * 7 + 3, none⟩ = some (.int .i64 x.s) ∧ w'.cell? ⟨b1, o1 + j * 7 + 4, none⟩ = some (.int .i64 x.mn) ∧ w'.cell? ⟨b1, o1 + j * 7 + 5, none⟩ = some (.int .i64 x.mx) ∧ w'.cell? ⟨b1, o1 + j * 7 + 6, none⟩ = some (.bool x.k) ∧ w'.cell? ⟨b2, o2 + j * 7, none⟩ = some (.int .i32 x.l) ∧ w'.cell? ⟨b2, o2 + j * 7 + 1, none⟩ = some (.int .i32 x.r) ∧ w'.cell? ⟨b2, o2 + j * 7 + 2, none⟩ = some (.int .i64 x.c) ∧ w'.cell? ⟨b2, o2 + j * 7 + 3, none⟩ = some (.int .i64 x.s) ∧ w'.cell? ⟨b2, o2 + j * 7 + 4, none⟩ = some (.int .i64 x.mn) ∧ w'.cell? ⟨b2, o2 + j * 7 + 5, none⟩ = some (.int .i64 x.mx) ∧ w'.cell? ⟨b2, o2 + j * 7 + 6, none⟩ = some (.bool x.k) ∧ w'.cell? ⟨b, o + j * 7, none⟩ = some (.int .i32 x.l) ∧ w'.cell? ⟨b, o + j * 7 + 1, none⟩ = some (.int .i32 x.r) ∧ w'.cell? ⟨b, o + j * 7 + 2, none⟩ = some (.int .i64 x.c) ∧ w'.cell? ⟨b, o + j * 7 + 3, none⟩ = some (.int .i64 x.s) ∧ w'.cell? ⟨b, o + j * 7 + 4, none⟩ = some (.int .i64 x.mn) ∧ w'.cell? ⟨b, o + j * 7 + 5, none⟩ = some (.int .i64 x.mx) ∧ w'.cell? ⟨b, o + j * 7 + 6, none⟩ = some (.bool x.k)) (exact T1.out) (fail)
          rename_i hh
          clear hh
          go_wp2_with fail
          exact ⟨⟨j + 1, by omega, by go_num, Lib.hid hch.out.drew⟩, by simp [intOf]; omega⟩
        · obtain rfl : j = pre.length := by omega
          go_wp2_with fail
          go_ret
          exact ⟨rfl, HC0.out.trans (HE.out.trans hch.out)⟩
theorem arenaSwaps_walk (W : World) (A0 : Option Addr) (n0 c0 : Nat) (a1 a2 : Int) (R : Rd Try.prog W 8 49 [.slice A0 n0 c0]) (_w1 : (Lit.int .i64 a1).wf = true) (_w2 : (Lit.int .i64 a2).wf = true) :
    Calls Try.prog 6 #[.slice A0 n0 c0, .int .i64 a1, .int .i64 a2] W fun e w' => e = .returned (.bool true) ∧ Below W.heap.size W w' := by
  obtain ⟨A, c, xs, hv, hx, _⟩ := rd_nodes R
  obtain ⟨rfl, rfl, rfl⟩ := Value.slice.inj hv
  exact (arenaSwaps_core W _ _ xs a1 a2 hx).mono fun _ _ ⟨h1, h2⟩ => ⟨h1, h2.same⟩
end Go.Proofs.Ytjphocpnmhheeaa
