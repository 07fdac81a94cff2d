/- FitBits: of all numbers and counts the lowest bits, the bits turned round, and their places, are as the document says: the walk. -/
import Derived.Test.YtdkkffmnpholdaaDoorFitBack
import Derived.Test.YtdkkffmnpholdaaDoorFitRefs
namespace Go.Proofs.YtdkkffmnpholdaaDoor
open Go.RowKit

set_option maxHeartbeats 4000000 in
set_option maxRecDepth 100000 in
theorem fitBits_core (W : World) (n : Nat) (b by0 : Int) (A : Option Addr) (c : Nat) (xs : List Int) (hn : n < 18446744073709551616) (hx : Cls W A (ints .i64 xs)) (hxl : xs.length ≤ 140737488351232) (hT : TabAt 0 Lib.deBruijn64tab W) :
    Calls Tryd.prog 4 #[.int .u64 n, .int .i64 b, .int .i64 by0, .slice A xs.length c] W fun e w' => e = .returned (.bool true) ∧ Ch No W w' := by
  have al := fitAlive_any W hT
  by_cases h200 : 200 < xs.length
  · obtain ⟨L, hL⟩ : ∃ L, xs.length = L := ⟨_, rfl⟩
    rw [hL] at h200 hxl ⊢
    clear hT hx hL
    go_enter Tryd.func4, Tryd.ntmps4
    go_wp2_with fail
    refine al.mono ?_
    rintro e w1 ⟨rfl, h1⟩
    have H1 := Lib.hid h1
    clear h1 al
    go_wp2_with fail
    go_ret
    exact ⟨rfl, H1.out⟩
  have k0 := fun w => RPlaces_any n w hn
  have k1 := fun w => Low_any n b w hn
  have k2 := fun w => RLow_any n b w hn
  have k3 := fun w => Sign_any n b w
  have k4 := fun w => RSign_any n b w hn
  have k5 := fun w => Rot_any n by0 hn w
  have k6 := fun w => RRot_any n by0 w hn
  generalize lowB n b = v1 at *
  generalize sgn n (hld b) = v2 at *
  generalize rotl n (by0 % 64).toNat = v3 at *
  have hpl := plc_len n
  obtain ⟨L, hL⟩ : ∃ L, (plc n).length = L := ⟨_, rfl⟩
  have k7 := all_any W hT n L hn hL
  obtain ⟨m, hm, hme⟩ : ∃ m : Nat, m < 16 ∧ bits .and .i64 b 15 = m := by
    have h := i64_mask b 4 (by decide)
    have e : ((2 : Int) ^ 4 - 1) = 15 := rfl
    rw [e] at h
    exact ⟨(b % 2 ^ 4).toNat, by omega, by rw [h]; omega⟩
  have k8 : ∀ w, Ch No W w → Calls Tryd.prog 25 #[.int .u64 n, .int .i64 m] w fun e w' => ∃ A c, e = .returned (.slice A (min m L) c) ∧ Ch No w w' := fun w hw => by
    refine (places_any w n hn (tab_ch hT hw) m).mono ?_
    rintro e w' ⟨v, rfl, hv, h⟩
    obtain ⟨A, c, rfl, _, _⟩ := hv.slice_ints
    refine ⟨A, c, ?_, h⟩
    rw [List.length_take, hL]
    rfl
  have k9 := fun w (hw : Ch No W w) => Of_any w A c xs (hx.ch hw (fun _ _ h => h)) (by omega)
  have k10 := fun w (hw : Ch No W w) => ROf_any w A c xs (hx.ch hw (fun _ _ h => h)) (by omega)
  generalize ofB xs = v4 at *
  have k11 := fun w A1 c1 A2 c2 h1 h2 => SameI_any w A1 c1 (plc n) A2 c2 (plc n) h1 h2 (by omega)
  rw [hL] at hpl k0
  simp only [hL, decide_true] at k11
  obtain ⟨X, hX⟩ : ∃ X, xs.length = X := ⟨_, rfl⟩
  rw [hX] at k9 k10 h200 hxl ⊢
  generalize plc n = ps at *
  have HA := Lib.hid (And.intro k0 (And.intro k1 (And.intro k2 (And.intro k3 (And.intro k4 (And.intro k5 (And.intro k6 (And.intro k7 (And.intro k8 (And.intro k9 (And.intro k10 k11)))))))))))
  clear k0 k1 k2 k3 k4 k5 k6 k7 k8 k9 k10 k11 hT hx hL hX
  have hmL : (m ≤ L ∧ min m L = m) ∨ (L < m ∧ min m L = L) := by omega
  rcases hmL with ⟨hmL, hmin⟩ | ⟨hmL, hmin⟩
  all_goals
    rw [hmin] at HA
    clear hmin
    go_enter Tryd.func4, Tryd.ntmps4
    go_wp2_with fail
    refine al.mono ?_
    rintro e w1 ⟨rfl, h1⟩
    have H1 := Lib.hid h1
    clear h1 al
    go_wp2_with fail
    refine (HA.out.1 _).mono ?_
    rintro e w2 ⟨A2, c2, rfl, s2, h2⟩
    have H2 := Lib.hid (And.intro (H1.out.trans h2) s2)
    clear h2 s2 H1
    go_wp2_with fail
    refine (HA.out.2.1 _).mono ?_
    rintro e w3 ⟨rfl, rfl⟩
    go_wp2_with fail
    refine (HA.out.2.2.1 _).mono ?_
    rintro e w3 ⟨rfl, rfl⟩
    go_wp2_with fail
    refine (HA.out.2.2.2.1 _).mono ?_
    rintro e w3 ⟨rfl, rfl⟩
    go_wp2_with fail
    refine (HA.out.2.2.2.2.1 _).mono ?_
    rintro e w3 ⟨rfl, rfl⟩
    go_wp2_with fail
    refine (HA.out.2.2.2.2.2.1 _).mono ?_
    rintro e w3 ⟨rfl, rfl⟩
    go_wp2_with fail
    refine (HA.out.2.2.2.2.2.2.1 _).mono ?_
    rintro e w3 ⟨rfl, rfl⟩
    go_wp2_with fail
    refine (HA.out.2.2.2.2.2.2.2.1 _ H2.out.1).mono ?_
    rintro e w3 ⟨A3, c3, rfl, _, s3, h3⟩
    have H3 := Lib.hid (And.intro (H2.out.1.trans h3) (And.intro (H2.out.2.ch h3 (fun _ _ h => h)) s3))
    clear h3 s3 H2
    go_wp2_with fail
    refine (HA.out.2.2.2.2.2.2.2.2.2.2.2 _ _ _ _ _ H3.out.2.2 H3.out.2.1).mono ?_
    rintro e w4 ⟨rfl, h4⟩
    have H4 := Lib.hid (H3.out.1.trans h4)
    clear h4 H3
    go_wp2_with fail
    refine (HA.out.2.2.2.2.2.2.2.2.1 _ H4.out).mono ?_
    rintro e w5 ⟨A5, c5, rfl, h5⟩
    have H5 := Lib.hid (H4.out.trans h5)
    clear h5 H4
    go_wp2_with fail
    refine (HA.out.2.2.2.2.2.2.2.2.2.1 _ H5.out).mono ?_
    rintro e w6 ⟨rfl, rfl⟩
    go_wp2_with fail
    refine (HA.out.2.2.2.2.2.2.2.2.2.2.1 _ H5.out).mono ?_
    rintro e w6 ⟨rfl, rfl⟩
    go_wp2_with fail
    go_ret
    exact ⟨rfl, H5.out⟩
theorem fitBits_walk (W : World) (a0 a1 a2 : Int) (A : Option Addr) (c : Nat) (xs : List Int) (w0 : (Lit.int .u64 a0).wf = true) (_w1 : (Lit.int .i64 a1).wf = true) (_w2 : (Lit.int .i64 a2).wf = true) (hx : Cls W A (ints .i64 xs)) (_hc : xs.length ≤ c) (hl : xs.length * 8 ≤ 140737488351232) (_hw : ∀ x ∈ xs, (Lit.int .i64 x).wf = true) (hT : TabAt 0 Lib.deBruijn64tab W) :
    Calls Tryd.prog 4 #[.int .u64 a0, .int .i64 a1, .int .i64 a2, .slice A xs.length c] W fun e w' => e = .returned (.bool true) ∧ Below W.heap.size W w' := by
  obtain ⟨a, rfl, ha⟩ := wf_u64 w0
  exact (fitBits_core W a a1 a2 A c xs ha hx (by omega) hT).mono fun _ _ ⟨h1, h2⟩ => ⟨h1, h2.same⟩
end Go.Proofs.YtdkkffmnpholdaaDoor
