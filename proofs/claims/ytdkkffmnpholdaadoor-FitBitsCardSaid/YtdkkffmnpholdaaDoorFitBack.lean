/- FitBack: what fits is the same, back; turned there and back it is the same; places tell it: the walk. -/
import Derived.Test.YtdkkffmnpholdaaDoorFitPlain
import Derived.Test.YtdkkffmnpholdaaDoorRead
namespace Go.Proofs.YtdkkffmnpholdaaDoor
open Go.RowKit

/-- all places of a number's bits -/
theorem all_any (W : World) (hT : TabAt 0 Lib.deBruijn64tab W) (m L : Nat) (hm : m < 18446744073709551616) (hL : (plc m).length = L) (w : World) (hw : Ch No W w) :
    Calls Tryd.prog 25 #[.int .u64 m, .int .i64 100] w fun e w' => ∃ A c, e = .returned (.slice A L c) ∧ OwnS w' w.heap.size 3 (.slice A L c) (ints .i64 (plc m)) ∧ Cls w' A (ints .i64 (plc m)) ∧ Ch No w w' := by
  subst hL
  refine (places_any w m hm (tab_ch hT hw) 100).mono ?_
  rintro e w' ⟨v, rfl, hv, h⟩
  rw [List.take_of_length_le (by have := plc_len m; simp; omega)] at hv
  obtain ⟨A, c, rfl, h1, _⟩ := hv.slice_ints
  exact ⟨A, c, rfl, hv, h1, h⟩
theorem Of_same (w : World) (A : Option Addr) (c L m : Nat) (xs : List Int) (h : Cls w A (ints .i64 xs)) (hL : xs.length = L) (hl : xs.length ≤ 1000) (hm : ofB xs = m) :
    Calls Tryd.prog 26 #[.slice A L c] w fun e w' => e = .returned (.int .u64 m) ∧ w = w' := by
  subst hL
  subst hm
  exact Of_any w A c xs h (by omega)
theorem Rot_to (n : Nat) (b : Int) (r : Nat) (hn : n < 18446744073709551616) (hr : rotl n (b % 64).toNat = r) (w : World) : Calls Tryd.prog 22 #[.int .u64 n, .int .i64 b] w fun e w' => e = .returned (.int .u64 r) ∧ w = w' := by
  subst hr
  exact Rot_any n b hn w
theorem Sign_to (n : Nat) (b s : Int) (hs : sgn n (hld b) = s) (w : World) : Calls Tryd.prog 20 #[.int .u64 n, .int .i64 b] w fun e w' => e = .returned (.int .i64 s) ∧ w = w' := by
  subst hs
  exact Sign_any n b w
theorem Low_to (n : Nat) (b : Int) (r : Nat) (hn : n < 18446744073709551616) (hr : lowB n b = r) (w : World) : Calls Tryd.prog 18 #[.int .u64 n, .int .i64 b] w fun e w' => e = .returned (.int .u64 r) ∧ w = w' := by
  subst hr
  exact Low_any n b w hn

set_option maxHeartbeats 4000000 in
set_option maxRecDepth 100000 in
theorem fitBack_core (W : World) (n : Nat) (by0 : Int) (hn : n < 18446744073709551616) (hT : TabAt 0 Lib.deBruijn64tab W) :
    Calls Tryd.prog 5 #[.int .u64 n, .int .i64 by0] W fun e w' => e = .returned (.bool true) ∧ Ch No W w' := by
  have al := fitAlive_any W hT
  obtain ⟨h, hh⟩ : ∃ h, n / 4294967296 = h := ⟨_, rfl⟩
  obtain ⟨l, hl⟩ : ∃ l, n % 4294967296 = l := ⟨_, rfl⟩
  have c1 : ∀ w, Calls Tryd.prog 28 #[.int .u64 n] w fun e w' => e = .returned (.tuple #[.int .u32 h, .int .u32 l]) ∧ w = w' := fun w => by
    have q := Halves_any n hn w
    rw [hh, hl] at q
    exact q
  have c2 : ∀ w, Calls Tryd.prog 29 #[.int .u32 h, .int .u32 l] w fun e w' => e = .returned (.int .u64 n) ∧ w = w' := fun w => by
    have q := Join_any h l (by omega) (by omega) w
    rw [show h * 4294967296 + l = n from by omega] at q
    exact q
  have hq : (n : Int) / 4294967296 = (h : Int) := by omega
  have hh1 : h < 4294967296 := by omega
  obtain ⟨L, hL⟩ : ∃ L, (plc n).length = L := ⟨_, rfl⟩
  have c3 := all_any W hT n L hn hL
  have c4 := fun w A c h1 => Of_same w A c L n (plc n) h1 hL (by have := plc_len n; omega) (ofB_plc n hn)
  have c5 := Sign_to n 64 (wrap64 n) (sgn_64 n hn)
  have c6 := Low_to n 64 n hn (by rw [show (64 : Int) = ((64 : Nat) : Int) from rfl, lowB_nat n 64 (by omega)]; exact Nat.mod_eq_of_lt hn)
  have c7 := Low_to n 0 0 hn (by rw [show (0 : Int) = ((0 : Nat) : Int) from rfl, lowB_nat n 0 (by omega)]; simp [Nat.mod_one])
  obtain ⟨b, hb, hbe⟩ : ∃ b : Nat, b < 65536 ∧ bits .and .i64 by0 65535 = b := by
    have h := i64_mask by0 16 (by decide)
    have e : ((2 : Int) ^ 16 - 1) = 65535 := rfl
    rw [e] at h
    exact ⟨(by0 % 2 ^ 16).toNat, by omega, by rw [h]; omega⟩
  obtain ⟨k, hk, hke, hkb⟩ := and63 (b : Int)
  have hk64 : ((b : Int) % 64).toNat = k := by omega
  obtain ⟨r, hr⟩ : ∃ r, rotl n k = r := ⟨_, rfl⟩
  have hr64 : r < 18446744073709551616 := by rw [← hr]; exact rotl_lt n k hn hk
  have c8 := Rot_to n b r hn (by rw [hk64, hr])
  have hnb : IntKind.i64.wrap (-(b : Int)) = -(b : Int) := by rw [IntKind.wrap_i64]; omega
  have c9 := Rot_to r (-(b : Int)) n hr64 (by
    rw [← hr, rotl_rotl n k _ hn hk (by omega)]
    rw [show (k + (-(b : Int) % 64).toNat) % 64 = 0 from by omega]
    exact rotl_zero n hn)
  have c10 := Rot_to n (k : Int) r hn (by rw [show ((k : Int) % 64).toNat = k from by omega, hr])
  have c11 := all_any W hT r L hr64 (by rw [← hr, rotl_count n k hn hk, hL])
  obtain ⟨x, hx⟩ : ∃ x, n % 2 ^ 16 = x := ⟨_, rfl⟩
  have hx1 : x < 65536 := by rw [← hx]; exact Nat.mod_lt _ (by decide)
  have hsb := sgn_bounds n 16 (by omega)
  obtain ⟨u, hu1, hu2, hu3⟩ := sgn_low n 16 (by omega)
  obtain ⟨s, hs⟩ : ∃ s, sgn n 16 = s := ⟨_, rfl⟩
  rw [hs] at hsb hu1
  have hs1 : -32768 ≤ s ∧ s ≤ 32767 := by simp at hsb; omega
  have c12 := Sign_to n 16 s (by rw [show hld 16 = 16 from by decide, hs])
  have c13 : ∀ w, Calls Tryd.prog 11 #[.int .i64 s] w fun e w' => e = .returned (.tuple #[.int .i16 s, .bool true]) ∧ w = w' := fun w => by
    have q := To_i16 s w
    rw [if_pos hs1, decide_eq_true hs1] at q
    exact q
  have hw16 : IntKind.u16.wrap s = (x : Int) := by
    have e1 : IntKind.u16.wrap s = s % 65536 := by simp [IntKind.wrap, IntKind.bits, IntKind.signed]
    rw [IntKind.wrap_u64] at hu1
    rw [e1, ← hx, ← hu3]
    have : ((2 : Nat) ^ 16) = 65536 := rfl
    rw [this]
    omega
  have c14 := Low_to n 16 x hn (by rw [show (16 : Int) = ((16 : Nat) : Int) from rfl, lowB_nat n 16 (by omega), hx])
  have c15 := Sign_to x 16 s (by rw [show hld 16 = 16 from by decide, ← hx, sgn_mod, hs])
  obtain ⟨hs2, hs3⟩ := hs1
  have HA := Lib.hid (And.intro c1 (And.intro c2 (And.intro c3 (And.intro c4 (And.intro c5 (And.intro c6 c7))))))
  have HB := Lib.hid (And.intro c8 (And.intro c9 (And.intro c10 c11)))
  have HC := Lib.hid (And.intro c12 (And.intro c13 (And.intro c14 c15)))
  clear c1 c2 c3 c4 c5 c6 c7 c8 c9 c10 c11 c12 c13 c14 c15 hT hsb hu1 hu2 hu3 hs hx hr hkb hk64 hL hh hl
  go_enter Tryd.func5, Tryd.ntmps5
  go_wp2_with fail
  refine al.mono ?_
  rintro e w1 ⟨rfl, h1⟩
  have H1 := Lib.hid h1
  clear h1 al
  go_wp2_with fail
  refine (HA.out.1 _).mono ?_
  rintro e w2 ⟨rfl, rfl⟩
  go_wp2_with fail
  refine (HA.out.2.1 _).mono ?_
  rintro e w2 ⟨rfl, rfl⟩
  go_wp2_with fail
  refine (HA.out.2.2.1 _ H1.out).mono ?_
  rintro e w2 ⟨A, c, rfl, _, h3, h4⟩
  have H2 := Lib.hid (H1.out.trans h4)
  have HL := Lib.hid h3
  clear h3 h4
  go_wp2_with fail
  refine (HA.out.2.2.2.1 _ _ _ HL.out).mono ?_
  rintro e w3 ⟨rfl, rfl⟩
  clear HL H1
  go_wp2_with fail
  refine (HA.out.2.2.2.2.1 _).mono ?_
  rintro e w3 ⟨rfl, rfl⟩
  go_wp2_with fail
  refine (HA.out.2.2.2.2.2.1 _).mono ?_
  rintro e w3 ⟨rfl, rfl⟩
  go_wp2_with fail
  refine (HA.out.2.2.2.2.2.2 _).mono ?_
  rintro e w3 ⟨rfl, rfl⟩
  go_wp2_with fail
  refine (HB.out.1 _).mono ?_
  rintro e w3 ⟨rfl, rfl⟩
  go_wp2_with fail
  refine (HB.out.2.1 _).mono ?_
  rintro e w3 ⟨rfl, rfl⟩
  go_wp2_with fail
  refine (HB.out.1 _).mono ?_
  rintro e w3 ⟨rfl, rfl⟩
  go_wp2_with fail
  refine (HB.out.2.2.1 _).mono ?_
  rintro e w3 ⟨rfl, rfl⟩
  go_wp2_with fail
  refine (HB.out.1 _).mono ?_
  rintro e w3 ⟨rfl, rfl⟩
  go_wp2_with fail
  refine (HB.out.2.2.2 _ H2.out).mono ?_
  rintro e w3 ⟨A1, c1, rfl, _, _, h4⟩
  have H3 := Lib.hid (H2.out.trans h4)
  clear h4 H2
  go_wp2_with fail
  refine (HA.out.2.2.1 _ H3.out).mono ?_
  rintro e w4 ⟨A2, c2, rfl, _, _, h4⟩
  have H4 := Lib.hid (H3.out.trans h4)
  clear h4 H3
  go_wp2_with fail
  refine (HC.out.1 _).mono ?_
  rintro e w3 ⟨rfl, rfl⟩
  go_wp2_with fail
  refine (HC.out.2.1 _).mono ?_
  rintro e w3 ⟨rfl, rfl⟩
  go_wp2_with fail
  refine (HC.out.2.2.1 _).mono ?_
  rintro e w3 ⟨rfl, rfl⟩
  go_wp2_with fail
  refine (HC.out.2.2.1 _).mono ?_
  rintro e w3 ⟨rfl, rfl⟩
  go_wp2_with fail
  refine (HC.out.2.2.2 _).mono ?_
  rintro e w3 ⟨rfl, rfl⟩
  go_wp2_with fail
  go_ret
  exact ⟨rfl, H4.out⟩
theorem fitBack_walk (W : World) (a0 a1 : Int) (w0 : (Lit.int .u64 a0).wf = true) (_w1 : (Lit.int .i64 a1).wf = true) (hT : TabAt 0 Lib.deBruijn64tab W) :
    Calls Tryd.prog 5 #[.int .u64 a0, .int .i64 a1] W fun e w' => e = .returned (.bool true) ∧ Below W.heap.size W w' := by
  obtain ⟨a, rfl, ha⟩ := wf_u64 w0
  exact (fitBack_core W a a1 ha hT).mono fun _ _ ⟨h1, h2⟩ => ⟨h1, h2.same⟩
end Go.Proofs.YtdkkffmnpholdaaDoor
