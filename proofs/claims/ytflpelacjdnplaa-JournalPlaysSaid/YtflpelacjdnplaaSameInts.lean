/- The references' SameInts: what it comes to. -/
import Derived.Test.YtflpelacjdnplaaProg
import Derived.Test.YtflpelacjdnplaaMem
import Derived.Deep.LoopGhost
namespace Go.Proofs.Ytflpelacjdnplaa
open Go.RowKit

set_option maxHeartbeats 1000000 in
theorem SameI_any (w : World) (A1 : Option Addr) (c1 : Nat) (xs : List Int) (A2 : Option Addr) (c2 : Nat) (ys : List Int) (h1 : Cls w A1 (ints .i64 xs)) (h2 : Cls w A2 (ints .i64 ys)) (hl : xs.length ≤ 1000000000) :
    Calls Try.prog 25 #[.slice A1 xs.length c1, .slice A2 ys.length c2] w fun e w' => e = .returned (.bool (decide (xs = ys))) ∧ Ch No w w' := by
  have HC := Lib.hid (And.intro h1 h2)
  clear h1 h2
  by_cases hn : xs.length = ys.length
  · obtain ⟨n, hxn⟩ : ∃ n, xs.length = n := ⟨_, rfl⟩
    have hyn : ys.length = n := by omega
    rw [hxn, hyn]
    rw [hxn] at hl
    have HN := Lib.hid (And.intro hxn hyn)
    clear hn hxn hyn
    go_enter Try.func25, Try.ntmps25
    go_wp2_with fail
    go_loopw [5] (fun i wr => ∃ pre p q : List Int, Hid (xs = pre ++ p ∧ ys = pre ++ q) ∧ i = .int .i64 pre.length ∧ Hid (Ch No w wr)) (fun i _ => n - (intOf i).toNat)
    case atStart => exact ⟨[], xs, ys, Lib.hid ⟨rfl, rfl⟩, rfl, Lib.hid (Ch.refl _ _)⟩
    case round =>
      obtain ⟨pre, p, q, hx, rfl, hw⟩ := hrel
      have e1 := congrArg List.length hx.out.1
      have e2 := congrArg List.length hx.out.2
      rw [HN.out.1, List.length_append] at e1
      rw [HN.out.2, List.length_append] at e2
      cases p with
      | nil =>
        have hq : q = [] := List.eq_nil_of_length_eq_zero (by simp at e1; omega)
        have hxy : Hid (xs = ys) := Lib.hid (by rw [hx.out.1, hx.out.2, hq])
        simp at e1
        clear e2
        go_wp2_with fail
        go_ret
        exact ⟨ret_bool (by rw [decide_eq_true hxy.out]), hw.out⟩
      | cons x p =>
        cases q with
        | nil => simp at e1 e2; omega
        | cons y q =>
          obtain ⟨b1, o1, rfl, hc1⟩ := (HC.out.1.ch hw.out (fun _ _ h => h)).at hx.out.1
          obtain ⟨b2, o2, rfl, hc2⟩ := (HC.out.2.ch hw.out (fun _ _ h => h)).at hx.out.2
          have hlt : pre.length < n := by simp at e1; omega
          clear e1 e2
          by_cases hxy : x = y
          · subst hxy
            go_wp2_with fail
            go_region
            go_wp2_with fail
            go_roundw
            case rel => exact ⟨pre ++ [x], p, q, Lib.hid ⟨by rw [hx.out.1]; simp, by rw [hx.out.2]; simp⟩, by simp, Lib.hid hw.out.drew⟩
            case measure => simp [intOf]; omega
          · have hne : (x == y) = false := by simpa using hxy
            have HX := Lib.hid hxy
            clear hxy
            go_wp2_with fail
            go_region
            go_wp2_with fail
            go_ret
            refine ⟨ret_bool ?_, hw.out.drew⟩
            rw [decide_eq_false]
            intro h
            have h' := hx.out.1.symm.trans (h.trans hx.out.2)
            rw [List.append_cancel_left_eq] at h'
            exact HX.out (List.cons.inj h').1
  · have HX := Lib.hid hn
    have hnb : ((xs.length : Int) == (ys.length : Int)) = false := by simp; omega
    obtain ⟨n, hxn⟩ : ∃ n, xs.length = n := ⟨_, rfl⟩
    obtain ⟨m, hym⟩ : ∃ m, ys.length = m := ⟨_, rfl⟩
    rw [hxn, hym] at hnb hn ⊢
    clear hxn hym hl
    go_enter Try.func25, Try.ntmps25
    go_wp2_with fail
    go_ret
    exact ⟨ret_bool (by rw [decide_eq_false]; intro h; exact HX.out (by rw [h])), Ch.refl _ _⟩
end Go.Proofs.Ytflpelacjdnplaa
