/- The reference's small functions on rows of numbers: what they come to. -/
import Derived.Test.YtjphocpnmhheeaaProg
import Derived.Test.YtjphocpnmhheeaaOwn
import Derived.Test.YtjphocpnmhheeaaNum
import Derived.Test.YtjphocpnmhheeaaLexF
import Derived.Deep.LoopGhost
namespace Go.Proofs.Ytjphocpnmhheeaa
open Go.RowKit

set_option maxHeartbeats 1000000 in
theorem RIn_any (w : World) (A : Option Addr) (c : Nat) (xs : List Int) (h : Cls w A (ints .i64 xs)) (hl : xs.length ≤ 100000000000000) (n : Int) :
    Calls Try.prog 33 #[.slice A xs.length c, .int .i64 n] w fun e w' => e = .returned (.bool (decide (n ∈ xs))) ∧ w = w' := by
  have HC := Lib.hid h
  clear h
  go_enter Try.func33, Try.ntmps33
  go_wp2_with fail
  go_loop [5] (fun i => ∃ pre post : List Int, Hid (xs = pre ++ post) ∧ i = .int .i64 pre.length ∧ Hid (n ∉ pre)) (fun i => xs.length - (intOf i).toNat)
  case atStart => exact ⟨[], xs, rfl, rfl, Lib.hid (by simp)⟩
  case round =>
    obtain ⟨pre, post, hx, rfl, hn⟩ := hrel
    cases post with
    | nil =>
      obtain rfl : pre = xs := by have := hx.out; simpa using this.symm
      go_wp2_with fail
      go_ret
      exact ⟨ret_bool (by simpa using hn.out), rfl⟩
    | cons x post =>
      have hlen : pre.length < xs.length := by rw [hx.out]; simp
      obtain ⟨b, off, rfl, hcx⟩ := HC.out.at hx.out
      by_cases hxn : x = n
      · have hb : (x == n) = true := by simpa using hxn
        go_wp2_with fail
        go_ret
        exact ⟨ret_bool (by rw [hx.out]; simp [hxn]), rfl⟩
      · have hb : (x == n) = false := by simpa using hxn
        have hm : Hid (n ∉ pre ++ [x]) := Lib.hid (by simp only [List.mem_append, List.mem_singleton, not_or]; exact ⟨hn.out, fun e => hxn e.symm⟩)
        clear hxn
        go_wp2_with fail
        go_round
        case rel => exact ⟨pre ++ [x], post, by rw [hx.out]; simp [Hid], by simp, hm⟩
        case measure => simp [intOf]; omega
set_option maxHeartbeats 1000000 in
theorem RCount_any (w : World) (A : Option Addr) (c : Nat) (xs : List Int) (h : Cls w A (ints .i64 xs)) (hl : xs.length ≤ 100000000000000) (n : Int) :
    Calls Try.prog 27 #[.slice A xs.length c, .int .i64 n] w fun e w' => e = .returned (.int .i64 (xs.count n : Nat)) ∧ w = w' := by
  have HC := Lib.hid h
  clear h
  go_enter Try.func27, Try.ntmps27
  go_wp2_with fail
  go_loop [5, 6] (fun k i => ∃ pre post : List Int, Hid (xs = pre ++ post) ∧ i = .int .i64 pre.length ∧ k = .int .i64 (pre.count n : Nat)) (fun _ i => xs.length - (intOf i).toNat)
  case atStart => exact ⟨[], xs, rfl, rfl, by simp⟩
  case round =>
    obtain ⟨pre, post, hx, rfl, rfl⟩ := hrel
    cases post with
    | nil =>
      obtain rfl : pre = xs := by have := hx.out; simpa using this.symm
      go_wp2_with fail
      go_ret
      exact ⟨rfl, rfl⟩
    | cons x post =>
      have hlen : pre.length < xs.length := by rw [hx.out]; simp
      obtain ⟨b, off, rfl, hcx⟩ := HC.out.at hx.out
      have hcl : pre.count n ≤ pre.length := List.count_le_length
      by_cases hxn : x = n
      · have hb : (x == n) = true := by simpa using hxn
        have hm : Hid ((pre ++ [x]).count n = pre.count n + 1) := Lib.hid (by simp [hxn])
        clear hxn
        go_wp2_with fail
        go_round
        case rel => exact ⟨pre ++ [x], post, by rw [hx.out]; simp [Hid], by simp, by rw [hm.out]; simp⟩
        case measure => simp [intOf]; omega
      · have hb : (x == n) = false := by simpa using hxn
        have hm : Hid ((pre ++ [x]).count n = pre.count n) := Lib.hid (by simp [List.count_append, List.count_cons, hb])
        clear hxn
        go_wp2_with fail
        go_round
        case rel => exact ⟨pre ++ [x], post, by rw [hx.out]; simp [Hid], by simp, by rw [hm.out]⟩
        case measure => simp [intOf]; omega
set_option maxHeartbeats 1000000 in
theorem RMost_any (w : World) (A : Option Addr) (c : Nat) (pre post : List Int) (x : Int) (h : Cls w A (ints .i64 (pre ++ x :: post))) :
    Calls Try.prog 28 #[.slice A (pre ++ x :: post).length c, .int .i64 (pre.length : Nat)] w fun e w' => e = .returned (.int .i64 (max x 0)) ∧ w = w' := by
  obtain ⟨b, off, rfl, hcx⟩ := h.at rfl
  have hlen : pre.length < (pre ++ x :: post).length := by simp
  generalize (pre ++ x :: post).length = n at *
  clear h
  by_cases hx : x < 0
  · rw [show max x 0 = 0 from by omega]
    go_enter Try.func28, Try.ntmps28
    go_wp2_with fail
    go_ret
    exact ⟨rfl, rfl⟩
  · rw [show max x 0 = x from by omega]
    go_enter Try.func28, Try.ntmps28
    go_wp2_with fail
    go_ret
    exact ⟨rfl, rfl⟩
set_option maxHeartbeats 1000000 in
theorem RSameInts_any (w : World) (A : Option Addr) (c : Nat) (xs : List Int) (A' : Option Addr) (c' : Nat) (ys : List Int) (h : Cls w A (ints .i64 xs)) (h' : Cls w A' (ints .i64 ys)) (hl : xs.length ≤ 100000000000000) :
    Calls Try.prog 31 #[.slice A xs.length c, .slice A' ys.length c'] w fun e w' => e = .returned (.bool (decide (xs = ys))) ∧ Ch No w w' := by
  have HC := Lib.hid (And.intro h h')
  clear h h'
  by_cases hxy : xs.length = ys.length
  · have hb : ((xs.length : Int) == (ys.length : Int)) = true := by simp only [beq_iff_eq]; omega
    have HE := Lib.hid hxy
    clear hxy
    go_enter Try.func31, Try.ntmps31
    go_wp2_with fail
    go_loopw [5] (fun i wr => ∃ pre post post' : List Int, Hid (xs = pre ++ post ∧ ys = pre ++ post') ∧ i = .int .i64 pre.length ∧ Hid (Ch No w wr)) (fun i _ => xs.length - (intOf i).toNat)
    case atStart => exact ⟨[], xs, ys, Lib.hid ⟨rfl, rfl⟩, rfl, Lib.hid (Ch.refl No w)⟩
    case round =>
      obtain ⟨pre, post, post', hx, rfl, hc⟩ := hrel
      cases post with
      | nil =>
        obtain rfl : pre = xs := by have := hx.out.1; simpa using this.symm
        have hy : ys = pre := by
          have h1 := hx.out.2
          have h2 := congrArg List.length h1
          rw [List.length_append, ← HE.out] at h2
          have h3 : post' = [] := List.eq_nil_of_length_eq_zero (by omega)
          rw [h1, h3, List.append_nil]
        have hq : decide (pre = ys) = true := by rw [hy]; simp
        have HQ := Lib.hid hq
        clear hq hy
        go_wp2_with fail
        go_ret
        exact ⟨ret_bool HQ.out.symm, hc.out⟩
      | cons x post =>
        have hlen : pre.length < xs.length := by rw [hx.out.1]; simp
        cases post' with
        | nil =>
          exfalso
          have h1 := congrArg List.length hx.out.2
          have := HE.out
          simp at h1
          omega
        | cons y post' =>
          have hlen' : pre.length < ys.length := by rw [hx.out.2]; simp
          obtain ⟨b, off, rfl, hcx⟩ := (HC.out.1.ch hc.out (fun _ _ h => h)).at hx.out.1
          obtain ⟨b', off', rfl, hcy⟩ := (HC.out.2.ch hc.out (fun _ _ h => h)).at hx.out.2
          by_cases hxy : x = y
          · have hbb : (x == y) = true := by simpa using hxy
            have hm : Hid (xs = (pre ++ [x]) ++ post ∧ ys = (pre ++ [x]) ++ post') := Lib.hid ⟨by rw [hx.out.1]; simp, by rw [hx.out.2, hxy]; simp⟩
            clear hxy
            go_wp2_with fail
            go_region
            all_goals (try go_wp2)
            all_goals go_roundw
            case rel => exact ⟨pre ++ [x], post, post', hm, by simp, Lib.hid hc.out.drew⟩
            case measure => simp [intOf]; omega
          · have hbb : (x == y) = false := by simpa using hxy
            have hq : decide (xs = ys) = false := by
              simp only [decide_eq_false_iff_not]
              intro e
              rw [hx.out.1, hx.out.2] at e
              have := List.append_cancel_left e
              simp only [List.cons.injEq] at this
              exact hxy this.1
            have HQ := Lib.hid hq
            clear hxy hq
            go_wp2_with fail
            go_region
            all_goals (try go_wp2)
            all_goals go_ret
            all_goals exact ⟨ret_bool HQ.out.symm, hc.out.drew⟩
  · have hb : ((xs.length : Int) == (ys.length : Int)) = false := by simp only [beq_eq_false_iff_ne, ne_eq]; omega
    have hne : decide (xs = ys) = false := by simp only [decide_eq_false_iff_not]; intro e; exact hxy (by rw [e])
    rw [hne]
    clear hxy hne
    go_enter Try.func31, Try.ntmps31
    go_wp2_with fail
    go_ret
    exact ⟨rfl, Ch.refl No w⟩
end Go.Proofs.Ytjphocpnmhheeaa
