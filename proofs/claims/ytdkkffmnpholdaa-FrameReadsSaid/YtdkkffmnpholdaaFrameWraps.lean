/- FrameWraps: of all bodies the frame, or the error, is as said: the walk. -/
import Derived.Test.YtdkkffmnpholdaaFrmAlive
import Derived.Test.YtdkkffmnpholdaaRead
namespace Go.Proofs.Ytdkkffmnpholdaa
open Go.RowKit

theorem isB_of {xs : List Int} (h : ∀ x ∈ xs, (Lit.int .u8 x).wf = true) : ∀ x ∈ xs, isB x := fun x hx => by
  have := bounds_u8 (h x hx)
  unfold isB
  omega
theorem wrp_isB {xs : List Int} (h : ∀ x ∈ xs, isB x) : ∀ x ∈ wrp xs, isB x := fun x hx => by
  rcases List.mem_append.1 hx with hx | hx
  · exact putB_isB _ _ x hx
  · exact h x hx

set_option maxHeartbeats 4000000 in
set_option maxRecDepth 100000 in
theorem frameWraps_core (W : World) (A : Option Addr) (c : Nat) (xs : List Int) (hx : Cls W A (ints .u8 xs)) (hb : ∀ x ∈ xs, isB x) (hl : xs.length ≤ 140737488351232) :
    Calls Try.prog 4 #[.slice A xs.length c] W fun e w' => e = .returned (.bool true) ∧ Ch No W w' := by
  have HX := Lib.hid (And.intro hx hb)
  clear hx hb
  go_enter Try.func4, Try.ntmps4
  go_wp2_with fail
  refine (frmAlive_any _).mono ?_
  rintro e w0 ⟨rfl, C0⟩
  have HC0 := Lib.hid C0
  clear C0
  by_cases h30 : 3000 < xs.length
  · go_wp2_with fail
    go_ret
    exact ⟨rfl, HC0.out⟩
  by_cases h10 : 1024 < xs.length
  · go_wp2_with fail
    refine (FWrap_long w0 A c xs (by omega) h10).mono ?_
    rintro e w1 ⟨rfl, rfl⟩
    go_wp2_with fail
    refine (FRWrap_long w0 A c xs (by omega) h10).mono ?_
    rintro e w1 ⟨rfl, rfl⟩
    go_wp2_with fail
    have q := Same_any w0 none 0 [] none 0 [] (Cls.nil _ _) (Cls.nil _ _) (by simp) (by simp)
    rw [show decide (([] : List Int) = []) = true from rfl] at q
    refine q.mono ?_
    rintro e w1 ⟨rfl, rfl⟩
    clear q
    go_wp2_with fail
    go_ret
    exact ⟨rfl, HC0.out⟩
  · go_wp2_with fail
    obtain ⟨fs, hfs⟩ : ∃ fs, wrp xs = fs := ⟨_, rfl⟩
    have hfb := wrp_isB HX.out.2
    have q1 := FWrap_ok w0 A c xs (HX.out.1.ch HC0.out (fun _ _ h => h)) (by omega)
    have q2 := fun w' h => FRWrap_ok w' A c xs h (by omega)
    rw [hfs] at q1 q2 hfb
    have HQ := Lib.hid (And.intro q1 (And.intro q2 hfb))
    clear q1 q2 hfb hfs
    refine HQ.out.1.mono ?_
    rintro e w1 ⟨A1, c1, rfl, o1, h1⟩
    obtain ⟨A1', c1', e1, X1, _⟩ := o1.slice_ints
    obtain ⟨rfl, rfl⟩ : A1 = A1' ∧ c1 = c1' := by simpa using e1
    have H1 := Lib.hid (And.intro X1 (HC0.out.trans h1))
    clear o1 h1 e1 X1 HC0
    go_wp2_with fail
    refine (HQ.out.2.1 w1 (HX.out.1.ch H1.out.2 (fun _ _ h => h))).mono ?_
    rintro e w2 ⟨A2, c2, rfl, o2, h2⟩
    obtain ⟨A2', c2', e2, X2, _⟩ := o2.slice_ints
    obtain ⟨rfl, rfl⟩ : A2 = A2' ∧ c2 = c2' := by simpa using e2
    have H2 := Lib.hid (And.intro (H1.out.1.ch h2 (fun _ _ h => h)) (And.intro X2 (H1.out.2.trans h2)))
    clear o2 h2 e2 X2 H1
    go_wp2_with fail
    have q := Same_any w2 A1 c1 fs A2 c2 fs H2.out.1 H2.out.2.1 HQ.out.2.2 HQ.out.2.2
    rw [show decide (fs = fs) = true from by simp] at q
    refine q.mono ?_
    rintro e w3 ⟨rfl, rfl⟩
    clear q
    go_wp2_with fail
    go_ret
    exact ⟨rfl, H2.out.2.2⟩

theorem frameWraps_walk (W : World) (a0 : Option Addr) (cap0 : Nat) (xs0 : List Int) (c0 : Cls W a0 (ints .u8 xs0)) (_l0 : xs0.length ≤ cap0) (b0 : xs0.length * 1 ≤ 140737488351232) (w0 : ∀ x ∈ xs0, (Lit.int .u8 x).wf = true) :
    Calls Try.prog 4 #[.slice a0 xs0.length cap0] W fun e w' => e = .returned (.bool true) ∧ Below W.heap.size W w' :=
  (frameWraps_core W a0 cap0 xs0 c0 (isB_of w0) (by omega)).mono fun e w' ⟨h1, h2⟩ => ⟨h1, h2.same⟩
end Go.Proofs.Ytdkkffmnpholdaa
