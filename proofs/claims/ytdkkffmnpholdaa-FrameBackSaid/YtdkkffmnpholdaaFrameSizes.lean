/- FrameSizes: a frame is two bytes longer than its body, and tells how long that is: the walk. -/
import Derived.Test.YtdkkffmnpholdaaFrameWraps
namespace Go.Proofs.Ytdkkffmnpholdaa
open Go.RowKit

theorem putB2 (n : Nat) : putB n 2 = [((n / 256 % 256 : Nat) : Int), ((n % 256 : Nat) : Int)] := by simp [putB]
theorem two_wrp (xs ms : List Int) (h : xs.length ≤ 1024) : two (wrp xs ++ ms) = xs.length := by
  unfold two wrp
  rw [putB2]
  simp [getN]
  omega
theorem nxt_wrp (xs ms : List Int) (h : xs.length ≤ 1024) : nxt (wrp xs ++ ms) = .ok xs ms := by
  have h2 := two_wrp xs ms h
  unfold nxt
  rw [if_neg (by simp; omega), h2, if_neg (by omega), if_neg (by simp; omega)]
  congr 1
  · unfold wrp
    rw [List.append_assoc, List.drop_left' (by simp), List.take_left' rfl]
  · rw [List.drop_left' (by simp; omega)]
theorem nxt_cut (xs : List Int) (h : xs.length ≤ 1024) (n : Nat) (hn : n < xs.length + 2) : nxt ((wrp xs).take n) = .short := by
  unfold nxt
  have hl : ((wrp xs).take n).length = n := by rw [List.length_take, wrp_len]; omega
  by_cases h2 : n < 2
  · rw [if_pos (by omega)]
  · have h3 : two ((wrp xs).take n) = xs.length := by
      have := two_wrp xs [] h
      unfold two at *
      rw [List.append_nil] at this
      rw [List.take_take, Nat.min_eq_left (by omega), this]
    rw [if_neg (by omega), h3, if_neg (by omega), if_pos (by omega)]

set_option maxHeartbeats 8000000 in
set_option maxRecDepth 100000 in
theorem frameSizes_core (W : World) (A : Option Addr) (c : Nat) (xs : List Int) (A' : Option Addr) (c' : Nat) (ms : List Int) (hx : Cls W A (ints .u8 xs)) (hb : ∀ x ∈ xs, isB x) (hl : xs.length ≤ 140737488351232) (hm : Cls W A' (ints .u8 ms)) (hmb : ∀ x ∈ ms, isB x) (hml : ms.length ≤ 140737488351232) :
    Calls Try.prog 7 #[.slice A xs.length c, .slice A' ms.length c'] W fun e w' => e = .returned (.bool true) ∧ Ch No W w' := by
  have HX := Lib.hid (And.intro (And.intro hx hb) (And.intro hm hmb))
  clear hx hb hm hmb
  go_enter Try.func7, Try.ntmps7
  go_wp2_with fail
  refine (frmAlive_any _).mono ?_
  rintro e w0 ⟨rfl, C0⟩
  have HC0 := Lib.hid C0
  clear C0
  by_cases h10 : 1024 < xs.length
  · go_wp2_with fail
    go_ret
    exact ⟨rfl, HC0.out⟩
  by_cases h100 : 100 < ms.length
  · go_wp2_with fail
    go_ret
    exact ⟨rfl, HC0.out⟩
  go_wp2_with fail
  obtain ⟨a, b, hab, ha, hb, hw⟩ : ∃ a b : Nat, 256 * a + b = xs.length ∧ a < 256 ∧ b < 256 ∧ wrp xs = (a : Int) :: (b : Int) :: xs := ⟨xs.length / 256 % 256, xs.length % 256, by omega, by omega, by omega, by simp [wrp, putB2]⟩
  have hfb := wrp_isB HX.out.1.2
  have q1 := FWrap_ok w0 A c xs (HX.out.1.1.ch HC0.out (fun _ _ h => h)) (by omega)
  have hn1 := nxt_wrp xs ms (by omega)
  have hn2 := nxt_cut xs (by omega) (xs.length + 1) (by omega)
  obtain ⟨fs, hfs⟩ : ∃ fs, wrp xs = fs := ⟨_, rfl⟩
  rw [hfs] at q1 hfb hn1 hn2 hw
  have hfl : fs.length = xs.length + 2 := by rw [hw]; simp
  have HF := Lib.hid (And.intro hw (And.intro hfb (And.intro hn1 (And.intro hn2 (And.intro hfl hab)))))
  have hfl2 : (fs.length : Int) = (xs.length : Int) + 2 := by omega
  have hv : (a : Int) * 256 + b = xs.length := by omega
  clear hfs hfl hfb hn1 hn2 hw hab
  refine q1.mono ?_
  clear q1
  rintro e w1 ⟨A1, c1, rfl, o1, h1⟩
  obtain ⟨A1', c1', e1, X1, hle1⟩ := o1.slice_ints
  obtain ⟨rfl, rfl⟩ : A1 = A1' ∧ c1 = c1' := by simpa using e1
  have H1 := Lib.hid (And.intro X1 (HC0.out.trans h1))
  clear o1 h1 e1 X1 HC0
  have o2 : OwnS (w1.alloc (.cells #[] 5)) w1.heap.size 5 (.slice (some ⟨w1.heap.size, 0, none⟩) 0 0) (ints .u8 []) := by simpa [ints] using OwnS.lit w1 w1.heap.size 5 [] (Nat.le_refl _) (by simp)
  go_wp2_with (at_builtin; refine appI rfl _ _ 22 5 rfl .u8 0 1 Try.underlying22 u8info w1.heap.size (some ⟨w1.heap.size, 0, none⟩) 0 [] rfl o2 A1 c1 fs rfl (H1.out.1.ch ((Ch.refl No w1).alloc _) (fun _ _ h => h)) ?hn ?hb ?hB ?_)
  case hn => simp [maxLen]; omega
  case hb => simp; omega
  case hB => simp
  intro A2 c2 w2 o2' h2 _
  have C12 : Ch No w1 w2 := ((Ch.refl No w1).alloc _).trans' h2 (fun i hi he => by
    have he' : w1.heap.size = i := by simpa [Value.ownBlock] using he
    omega)
  have o3 : OwnS w2 w1.heap.size 5 (.slice A2 fs.length c2) (ints .u8 fs) := by simpa using o2'
  have H2 := Lib.hid (And.intro o3 C12)
  clear o2 o2' h2 o3 C12
  go_wp2_with (at_builtin; refine appI rfl _ _ 22 5 rfl .u8 0 1 Try.underlying22 u8info w1.heap.size A2 c2 fs rfl H2.out.1 A' c' ms rfl (HX.out.2.1.ch (H1.out.2.trans H2.out.2) (fun _ _ h => h)) ?hn ?hb ?hB ?_)
  case hn => simp [maxLen]; omega
  case hb => simp; omega
  case hB => exact H2.out.2.size
  intro A3 c3 w3 o3' h3 _
  have C13 : Ch No w1 w3 := H2.out.2.trans' h3 (fun i hi he => by have := (H2.out.1.ge i he).1; omega)
  obtain ⟨A3', c3', e3, X3, _⟩ := o3'.slice_ints
  obtain ⟨rfl, rfl⟩ : A3 = A3' ∧ c3 = c3' := by simpa using e3
  have H3 := Lib.hid (And.intro X3 C13)
  have hlen3 : (fs ++ ms).length = fs.length + ms.length := by simp
  clear o3' h3 C13 e3 X3 H2
  have q := FNext_any w3 A3 c3 (fs ++ ms) H3.out.1 (fun x hx => (List.mem_append.1 hx).elim (HF.out.2.1 x) (HX.out.2.2 x)) (by rw [hlen3]; omega)
  rw [HF.out.2.2.1, hlen3] at q
  unfold NextP at q
  simp only [Nx.body, Nx.rest, Nx.err] at q
  have HQ := Lib.hid q
  clear q hlen3
  go_wp2_with fail
  refine HQ.out.mono ?_
  rintro e w4 ⟨A4, c4, A5, c5, rfl, X4, X5, _, _, _, _, h4⟩
  have H4 : Hid (Cls w4 A1 (ints .u8 fs) ∧ Cls w4 A4 (ints .u8 xs) ∧ Cls w4 A5 (ints .u8 ms) ∧ Ch No W w4) := Lib.hid ⟨H1.out.1.ch (H3.out.2.trans h4) (fun _ _ h => h), X4, X5, H1.out.2.trans (H3.out.2.trans h4)⟩
  clear X4 X5 h4 HQ H3
  have q := FNext_any w4 A1 c1 (fs.take (xs.length + 1)) (by rw [ints_take]; exact H4.out.1.takeI _) (fun x hx => HF.out.2.1 x (List.mem_of_mem_take hx)) (by rw [List.length_take]; omega)
  rw [HF.out.2.2.2.1, show (fs.take (xs.length + 1)).length = xs.length + 1 from by rw [List.length_take, HF.out.2.2.2.2.1]; omega] at q
  unfold NextP at q
  simp only [Nx.body, Nx.rest, Nx.err] at q
  have HQ := Lib.hid q
  clear q
  go_wp2_with fail
  refine HQ.out.mono ?_
  rintro e w5 ⟨A6, c6, A7, c7, rfl, _, _, _, _, _, _, h5⟩
  clear HQ
  have K1 := H4.out.1.ch h5 (fun _ _ h => h)
  have K2 := H4.out.2.1.ch h5 (fun _ _ h => h)
  have K3 := H4.out.2.2.1.ch h5 (fun _ _ h => h)
  have K4 := H4.out.2.2.2.trans h5
  have hx0 := HX.out.1.1.ch K4 (fun _ _ h => h)
  have hm0 := HX.out.2.1.ch K4 (fun _ _ h => h)
  obtain ⟨b0, of0, rfl, k0⟩ := K1.at (pre := []) (x := (a : Int)) (post := (b : Int) :: xs) HF.out.1
  obtain ⟨b1, of1, e1, k1⟩ := K1.at (pre := [(a : Int)]) (x := (b : Int)) (post := xs) HF.out.1
  cases e1
  have ls : ∀ p : In (Ch No w5), Calls Try.prog 14 #[.slice A4 xs.length c4, .slice A xs.length c] p.w fun e w' => e = .returned (.bool true) ∧ Ch No p.w w' :=
    fun p => by
      have q := Same_any p.w A4 c4 xs A c xs (K2.ch p.h (fun _ _ h => h)) (hx0.ch p.h (fun _ _ h => h)) HX.out.1.2 HX.out.1.2
      rw [show decide (xs = xs) = true from by simp] at q
      exact q.mono fun e w' ⟨h1, h2⟩ => ⟨h1, h2 ▸ Ch.refl No _⟩
  have ls2 : ∀ p : In (Ch No w5), Calls Try.prog 14 #[.slice A5 ms.length c5, .slice A' ms.length c'] p.w fun e w' => e = .returned (.bool true) ∧ Ch No p.w w' :=
    fun p => by
      have q := Same_any p.w A5 c5 ms A' c' ms (K3.ch p.h (fun _ _ h => h)) (hm0.ch p.h (fun _ _ h => h)) HX.out.2.2 HX.out.2.2
      rw [show decide (ms = ms) = true from by simp] at q
      exact q.mono fun e w' ⟨h1, h2⟩ => ⟨h1, h2 ▸ Ch.refl No _⟩
  have HK := Lib.hid K4
  have g0 := in_cell k0
  have g1 := in_cell k1
  have hw1 : IntKind.i64.wrap ((a : Int) * 256) = (a : Int) * 256 := by rw [IntKind.wrap_i64]; omega
  simp only [List.length_nil, Nat.add_zero, List.length_cons, Nat.zero_add] at g0 g1
  clear K1 K2 K3 K4 hx0 hm0 k0 k1 H4 h5
  go_wp2_with fail
  (refine wp_region_in (Ch No _) (by kernel_rfl) (by kernel_rfl) (Ch.refl _ _) (fun _ h => ch_drawn h) ?_)
  repeat (go_big_quiet_step (exact in_ch (by with_reducible first | exact ls _ | exact ls2 _)))
  (refine wpQuiet_nil ?_; intro wq0 hw'; obtain ⟨pw, hw''⟩ := hw'; subst hw'')
  go_wp2_with fail
  go_ret
  exact ⟨rfl, HK.out.trans pw.h⟩

theorem frameSizes_walk (W : World) (a0 : Option Addr) (cap0 : Nat) (xs0 : List Int) (a1 : Option Addr) (cap1 : Nat) (xs1 : List Int) (c0 : Cls W a0 (ints .u8 xs0)) (_l0 : xs0.length ≤ cap0) (b0 : xs0.length * 1 ≤ 140737488351232) (w0 : ∀ x ∈ xs0, (Lit.int .u8 x).wf = true)
    (c1 : Cls W a1 (ints .u8 xs1)) (_l1 : xs1.length ≤ cap1) (b1 : xs1.length * 1 ≤ 140737488351232) (w1 : ∀ x ∈ xs1, (Lit.int .u8 x).wf = true) :
    Calls Try.prog 7 #[.slice a0 xs0.length cap0, .slice a1 xs1.length cap1] W fun e w' => e = .returned (.bool true) ∧ Below W.heap.size W w' :=
  (frameSizes_core W a0 cap0 xs0 a1 cap1 xs1 c0 (isB_of w0) (by omega) c1 (isB_of w1) (by omega)).mono fun e w' ⟨h1, h2⟩ => ⟨h1, h2.same⟩
end Go.Proofs.Ytdkkffmnpholdaa
