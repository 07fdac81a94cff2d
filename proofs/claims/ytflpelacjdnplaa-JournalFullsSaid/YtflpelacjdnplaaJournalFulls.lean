/- JournalFulls: a journal that is full takes one for each that is let go: the walk. -/
import Derived.Test.YtflpelacjdnplaaJrnAlive
namespace Go.Proofs.Ytflpelacjdnplaa
open Go.RowKit

/-- a journal of so many entries, and nothing old has turned -/
def Jn (W w : World) (jb n gone C : Nat) : Prop := ∃ A c xs, Jr w jb A n c gone C xs ∧ Ch No W w
section
variable {W w : World} {jb n gone C : Nat}
theorem Jn.no {w' : World} (h : Jn W w jb n gone C) (k : Ch No w w') : Jn W w' jb n gone C := by
  obtain ⟨A, c, xs, h1, h2⟩ := h
  exact ⟨A, c, xs, h1.no k, h2.trans k⟩
theorem jnAdd (h : Jn W w jb n gone C) (hb : W.heap.size ≤ jb) (x : Ent) (hx : okE x = true) (hn : n ≠ C) (hg : gone ≤ 1000000000000) (hl : n ≤ 100000) (v : Int) (hv : v = (gone : Int) + n + 1) : Calls Try.prog 15 #[.pointer (some ⟨jb, 0, none⟩), x.val] w fun e w' => e = .returned (.tuple #[.int .i64 v, .int .i64 0]) ∧ Jn W w' jb (n + 1) gone C := by
  obtain ⟨A, c, xs, h1, h2⟩ := h
  rw [hv]
  exact (JAdd_ok h1 x hx hn hg hl).mono fun _ _ ⟨q1, A', c', q2, q3, _⟩ => ⟨q1, A', c', _, q2, js_no h2 h1 hb q3⟩
theorem jnAddFull (h : Jn W w jb n gone C) (x : Ent) (hx : okE x = true) (hn : n = C) : Calls Try.prog 15 #[.pointer (some ⟨jb, 0, none⟩), x.val] w fun e w' => e = .returned (.tuple #[.int .i64 0, .int .i64 42]) ∧ Jn W w' jb n gone C := by
  obtain ⟨A, c, xs, h1, h2⟩ := h
  exact (JAdd_full h1 x hx hn).mono fun _ _ ⟨q1, q2⟩ => ⟨q1, A, c, xs, h1.no q2, h2.trans q2⟩
theorem jnFull (h : Jn W w jb n gone C) : Calls Try.prog 21 #[.pointer (some ⟨jb, 0, none⟩)] w fun e w' => e = .returned (.bool (decide (n = C))) ∧ Jn W w' jb n gone C := by
  obtain ⟨A, c, xs, h1, h2⟩ := h
  exact (JFull_any h1).mono fun _ _ ⟨q1, q2⟩ => ⟨q1, A, c, xs, h1.no q2, h2.trans q2⟩
theorem jnTrim (h : Jn W w jb n gone C) (hb : W.heap.size ≤ jb) (upto : Int) (hg : gone ≤ 1000000000000) (hl : n ≤ 100000) : Calls Try.prog 17 #[.pointer (some ⟨jb, 0, none⟩), .int .i64 upto] w fun e w' => e = .returned (.int .i64 (trimK upto gone n)) ∧ Jn W w' jb (n - trimK upto gone n) (gone + trimK upto gone n) C := by
  obtain ⟨A, c, xs, h1, h2⟩ := h
  exact (JTrim_any h1 upto hg hl).mono fun _ _ ⟨q1, A', q2, q3, _⟩ => ⟨q1, A', _, _, q2, only_no h2 hb q3⟩
theorem jnNext (h : Jn W w jb n gone C) (hg : gone ≤ 1000000000000) (hl : n ≤ 1000000) (v : Int) (hv : v = (gone : Int) + n + 1) : Calls Try.prog 20 #[.pointer (some ⟨jb, 0, none⟩)] w fun e w' => e = .returned (.int .i64 v) ∧ Jn W w' jb n gone C := by
  obtain ⟨A, c, xs, h1, h2⟩ := h
  rw [hv]
  exact (JNext_any h1 hg hl).mono fun _ _ ⟨q1, q2⟩ => ⟨q1, A, c, xs, h1.no q2, h2.trans q2⟩
theorem jnFirst (h : Jn W w jb n gone C) (hg : gone ≤ 1000000000000) (v : Int) (hv : v = (gone : Int) + 1) : Calls Try.prog 19 #[.pointer (some ⟨jb, 0, none⟩)] w fun e w' => e = .returned (.int .i64 v) ∧ Jn W w' jb n gone C := by
  obtain ⟨A, c, xs, h1, h2⟩ := h
  rw [hv]
  exact (JFirst_any h1 hg).mono fun _ _ ⟨q1, q2⟩ => ⟨q1, A, c, xs, h1.no q2, h2.trans q2⟩
theorem Jn.ch (h : Jn W w jb n gone C) : Ch No W w := by
  obtain ⟨_, _, _, _, h⟩ := h
  exact h
end

set_option maxHeartbeats 8000000 in
set_option maxRecDepth 100000 in
theorem journalFulls_core (W : World) (cap0 : Int) (A : Option Addr) (c : Nat) (ts : List Int) (hx : Cls W A (ints .i64 ts)) (hl : ts.length ≤ 140737488351232) :
    Calls Try.prog 6 #[.int .i64 cap0, .slice A ts.length c] W fun e w' => e = .returned (.bool true) ∧ Ch No W w' := by
  have al := fun w => jrnAlive_any w
  have hq1 : bits .and .i64 cap0 31 = cap0 % 32 := i64_mask cap0 5 (by omega)
  obtain ⟨C, hC⟩ : ∃ C : Nat, (1 : Int) + cap0 % 32 = C := ⟨(1 + cap0 % 32).toNat, by omega⟩
  have hC1 : 1 ≤ C := by omega
  have hC32 : C ≤ 32 := by omega
  obtain ⟨N, hN⟩ : ∃ N, ts.length = N := ⟨_, rfl⟩
  have HX := Lib.hid (And.intro hN hx)
  rw [hN] at hl ⊢
  clear hN hx
  by_cases h40 : 40 < N
  · go_enter Try.func6, Try.ntmps6
    go_wp2_with fail
    refine (al _).mono ?_
    rintro e w1 ⟨rfl, h1⟩
    have H1 := Lib.hid h1
    clear h1 al
    go_wp2_with fail
    go_ret
    exact ⟨rfl, H1.out⟩
  have HNW := Lib.hid (fun w => JNew_ok C hC1 (by omega) w)
  have hTT : ∀ t : Int, bits .and .i64 t 127 = t % 128 := fun t => i64_mask t 7 (by omega)
  have HTT := Lib.hid hTT
  clear hTT
  go_enter Try.func6, Try.ntmps6
  go_wp2_with fail
  refine (al _).mono ?_
  rintro e w1 ⟨rfl, h1⟩
  have H1 := Lib.hid h1
  clear h1 al
  go_wp2_with fail
  refine (HNW.out _).mono ?_
  rintro e w2 ⟨jb, rfl, hb, j2, h2⟩
  have HB : Hid (W.heap.size ≤ jb) := Lib.hid (Nat.le_trans H1.out.size hb)
  have J2 : Hid (Jn W w2 jb 0 0 C) := Lib.hid ⟨_, _, _, j2, H1.out.trans h2⟩
  clear j2 h2 hb H1 HNW
  go_wp2_with fail
  go_loopw [7, 8, 9, 33] (fun nx _ _ i wr => ∃ k : Nat, k ≤ C ∧ nx = .int .i64 ((k : Int) + 1) ∧ i = .int .i64 k ∧ Hid (Jn W wr jb k 0 C)) (fun _ _ _ i _ => C - (intOf i).toNat)
  case atStart => exact ⟨0, by omega, rfl, rfl, J2⟩
  case round =>
    clear J2
    obtain ⟨k, hk, rfl, rfl, hj⟩ := hrel
    by_cases hkC : k < C
    · have HA := Lib.hid (jnAdd hj.out HB.out (entT 0) (by decide) (by omega) (by omega) (by omega) ((k : Int) + 1) (by omega))
      simp only [Ent.val, entT] at HA
      go_wp2_with fail
      refine HA.out.mono ?_
      rintro e w3 ⟨rfl, j3⟩
      have J3 := Lib.hid j3
      clear j3 HA
      go_wp2_with fail
      go_roundw
      case rel => exact ⟨k + 1, by omega, by simp, by simp, J3⟩
      case measure => simp [intOf]; omega
    · have hkk : C ≤ k := by omega
      have J3 : Hid (Jn W wr jb C 0 C) := by
        have : k = C := by omega
        rw [← this]
        rw [← this] at hj
        exact hj
      have hNC : ¬ C < k := by omega
      have HKC : Hid (k = C) := Lib.hid (by omega)
      clear hj hk hkC hq1 hC
      go_wp2_with fail
      clear hkk hNC
      generalize decide (k < C) = bd at *
      generalize decide ((k : Int) < (C : Int)) = bd2 at *
      go_loopw [7, 11, 12, 13, 14, 15, 16, 17, 18, 53] (fun nx _ _ _ _ _ _ _ _ i wr2 => ∃ (pre post : List Int) (p gone : Nat) (z : Int), Hid (ts = pre ++ post ∧ pre.length = p) ∧ i = .int .i64 p ∧ nx = .int .i64 z ∧ Hid (z = (gone : Int) + C + 1 ∧ gone ≤ 32 * p) ∧ Hid (Jn W wr2 jb C gone C)) (fun _ _ _ _ _ _ _ _ _ i _ => N - (intOf i).toNat)
      case atStart => exact ⟨[], ts, 0, 0, _, Lib.hid ⟨rfl, rfl⟩, rfl, rfl, Lib.hid ⟨by rw [HKC.out]; omega, by omega⟩, J3⟩
      case round =>
        clear J3
        obtain ⟨pre, post, p, gone, z, hxp, rfl, rfl, hz, hj⟩ := hrel
        have hln := congrArg List.length hxp.out.1
        rw [HX.out.1, List.length_append, hxp.out.2] at hln
        cases post with
        | nil =>
          simp at hln
          have hn1 : N ≤ p := by omega
          have HE := Lib.hid hj.out.ch
          clear hln
          go_wp2_with fail
          go_ret
          exact ⟨rfl, HE.out⟩
        | cons t post =>
          rw [List.length_cons] at hln
          have hlt : p < N := by omega
          have hp40 : p ≤ 40 := by omega
          clear hln
          obtain ⟨b, o, rfl, kt⟩ := (HX.out.2.ch hj.out.ch (fun _ _ h => h)).at hxp.out.1
          rw [hxp.out.2] at kt
          have hgl := hz.out.2
          have hgb : gone ≤ 1280 := by omega
          have HGL := Lib.hid hgl
          clear hgl
          have ht := HTT.out t
          have HA := Lib.hid (jnAddFull hj.out (entT 0) (by decide) rfl)
          have HBD := Lib.hid (fun w p => JAdd_bad (entT 99) (by decide) w p)
          have HFU := Lib.hid (fun w' (h : Jn W w' jb C gone C) => by have := jnFull h; rw [decide_eq_true rfl] at this; exact this)
          obtain ⟨kk, hkk2⟩ : ∃ kk, trimK (t % 128) gone C = kk := ⟨_, rfl⟩
          have hkle : kk ≤ C := by rw [← hkk2]; exact trimK_le _ _ _
          have HTR := Lib.hid (fun w' (h : Jn W w' jb C gone C) => by have := jnTrim h HB.out (t % 128) (by omega) (by omega); rw [hkk2] at this; exact this)
          clear hkk2
          simp only [Ent.val, entT] at HA HBD
          go_wp2_with fail
          refine HA.out.mono ?_
          rintro e w3 ⟨rfl, j3⟩
          have J3 := Lib.hid j3
          clear j3 HA kt
          go_wp2_with fail
          refine (HBD.out _ _).mono ?_
          rintro e w4 ⟨rfl, h4⟩
          have J4 := Lib.hid (J3.out.no h4)
          clear h4 J3 HBD
          go_wp2_with fail
          refine (HFU.out _ J4.out).mono ?_
          rintro e w5 ⟨rfl, j5⟩
          have J5 := Lib.hid j5
          clear j5 J4 HFU
          go_wp2_with fail
          refine (HTR.out _ J5.out).mono ?_
          rintro e w6 ⟨rfl, j6⟩
          have J6 := Lib.hid j6
          clear j6 J5 HTR ht
          go_wp2_with fail
          go_loopw [7, 17, 18, 85] (fun nx _ _ i wr3 => ∃ (q : Nat) (y : Int), q ≤ kk ∧ i = .int .i64 q ∧ nx = .int .i64 y ∧ Hid (y = (gone : Int) + C + 1 + q) ∧ Hid (Jn W wr3 jb (C - kk + q) (gone + kk) C)) (fun _ _ _ i _ => kk - (intOf i).toNat)
          case atStart => exact ⟨0, _, by omega, rfl, rfl, Lib.hid (by rw [hz.out.1]; omega), J6⟩
          case round =>
            clear J6
            obtain ⟨q, y, hq, rfl, rfl, hy, hj6⟩ := hrel
            by_cases hqk : q < kk
            · have hyy := hy.out
              have HA := Lib.hid (jnAdd hj6.out HB.out (entT 0) (by decide) (by omega) (by omega) (by omega) y (by omega))
              have e1 : y + 1 ≤ 9223372036854775807 := by omega
              have e2 : -9223372036854775808 ≤ y + 1 := by omega
              clear hyy
              simp only [Ent.val, entT] at HA
              go_wp2_with fail
              refine HA.out.mono ?_
              rintro e w7 ⟨rfl, j7⟩
              have J7 := Lib.hid j7
              clear j7 HA
              go_wp2_with fail
              go_roundw
              case rel => exact ⟨q + 1, y + 1, by omega, by simp, by simp, Lib.hid (by have := hy.out; omega), J7⟩
              case measure => simp [intOf]; omega
            · have hqk2 : ¬ kk < q := by omega
              have hkq : kk ≤ q := by omega
              have J8 : Hid (Jn W wr jb C (gone + kk) C) := by
                have h1 : C - kk + q = C := by omega
                rw [h1] at hj6
                exact hj6
              have HY : Hid (y = ((gone + kk : Nat) : Int) + C + 1) := Lib.hid (by have := hy.out; omega)
              clear hj6 hq hqk
              have HFU := Lib.hid (fun w' (h : Jn W w' jb C (gone + kk) C) => by have := jnFull h; rw [decide_eq_true rfl] at this; exact this)
              have HNX := Lib.hid (fun w' (h : Jn W w' jb C (gone + kk) C) => jnNext h (by omega) (by omega) y HY.out)
              obtain ⟨f, hf⟩ : ∃ f : Int, f = ((gone + kk : Nat) : Int) + 1 := ⟨_, rfl⟩
              have HFI := Lib.hid (fun w' (h : Jn W w' jb C (gone + kk) C) => jnFirst h (by omega) f hf)
              have e1 : y - (C : Int) = f := by have := HY.out; omega
              have e2 : f ≤ 9223372036854775807 := by omega
              have e3 : -9223372036854775808 ≤ f := by omega
              clear hf
              go_wp2_with fail
              refine (HFU.out _ J8.out).mono ?_
              rintro e w9 ⟨rfl, j9⟩
              have J9 := Lib.hid j9
              clear j9 J8 HFU
              go_wp2_with fail
              refine (HNX.out _ J9.out).mono ?_
              rintro e w10 ⟨rfl, j10⟩
              have J10 := Lib.hid j10
              clear j10 J9 HNX
              go_wp2_with fail
              refine (HFI.out _ J10.out).mono ?_
              rintro e w11 ⟨rfl, j11⟩
              have J11 := Lib.hid j11
              clear j11 J10 HFI
              go_wp2_with fail
              go_roundw
              case rel => exact ⟨pre ++ [t], post, p + 1, gone + kk, y, Lib.hid ⟨by rw [hxp.out.1]; simp, by simp [hxp.out.2]⟩, by simp, rfl, Lib.hid ⟨HY.out, by have := HGL.out; omega⟩, J11⟩
              case measure => simp [intOf]; omega
set_option maxRecDepth 100000 in
theorem journalFulls_walk (W : World) (a0 : Int) (a1 : Option Addr) (cap1 : Nat) (xs1 : List Int) (_w0 : (Lit.int .i64 a0).wf = true) (c1 : Cls W a1 (ints .i64 xs1)) (_l1 : xs1.length ≤ cap1) (b1 : xs1.length * 8 ≤ 140737488351232) (_w1 : ∀ x ∈ xs1, (Lit.int .i64 x).wf = true) :
    Calls Try.prog 6 #[.int .i64 a0, .slice a1 xs1.length cap1] W fun e w' => e = .returned (.bool true) ∧ Below W.heap.size W w' :=
  (journalFulls_core W a0 a1 cap1 xs1 c1 (by omega)).mono fun _ _ ⟨h1, h2⟩ => ⟨h1, h2.same⟩
end Go.Proofs.Ytflpelacjdnplaa
