/- ArenaFills: an arena has as many nodes as it may, and no more: the walk. -/
import Derived.Test.YtjphocpnmhheeaaArnAlive
import Derived.Test.YtjphocpnmhheeaaRead
namespace Go.Proofs.Ytjphocpnmhheeaa
open Go.RowKit

theorem and127 (n : Int) : ∃ r : Nat, r < 128 ∧ bits .and .i64 n 127 = r := by
  have h := i64_mask n 7 (by decide)
  have e : ((2 : Int) ^ 7 - 1) = 127 := rfl
  rw [e] at h
  refine ⟨(n % 128).toNat, by omega, ?_⟩
  rw [h]
  omega
theorem rep_cut (m p : Nat) (h : p < m) : List.replicate m Nd.zero = List.replicate p Nd.zero ++ Nd.zero :: List.replicate (m - 1 - p) Nd.zero := by
  rw [← List.replicate_succ, List.replicate_append_replicate]
  congr 1
  omega

set_option maxHeartbeats 8000000 in
set_option maxRecDepth 100000 in
theorem arenaFills_core (W : World) (limit i : Int) (hi : -2147483648 ≤ i ∧ i ≤ 2147483647) :
    Calls Try.prog 5 #[.int .i64 limit, .int .i32 i] W fun e w' => e = .returned (.bool true) ∧ Ch No W w' := by
  obtain ⟨r, hr, hk⟩ := and127 limit
  obtain ⟨hi1, hi2⟩ := hi
  go_enter Try.func5, Try.ntmps5
  go_wp2_with fail
  refine (arnAlive_any _).mono ?_
  rintro e w0 ⟨rfl, C0⟩
  have HC0 := Lib.hid C0
  clear C0
  go_wp2_with fail
  refine (ANew_ok w0 (1 + (r : Int)) (by omega) (by omega)).mono ?_
  rintro e w1 ⟨rfl, a1, h1⟩
  obtain ⟨g, hg⟩ : ∃ g, w0.heap.size = g := ⟨_, rfl⟩
  have HS : Hid (∃ k, SA W w1 g k (1 + (r : Int)) (List.replicate 0 Nd.zero)) := Lib.hid ⟨none, by rw [← hg]; exact SA.new HC0.out rfl a1 h1⟩
  rw [hg]
  clear hg a1 h1
  go_wp2_with fail
  go_loopw [7, 8, 9, 10, 11] (fun n _ _ _ _ wr => ∃ j : Nat, j ≤ r + 1 ∧ n = .int .i64 (j + 1) ∧ Hid (∃ k, SA W wr g k (1 + (r : Int)) (List.replicate j Nd.zero))) (fun n _ _ _ _ _ => r + 2 - (intOf n).toNat)
  case atStart => exact ⟨0, by omega, rfl, HS⟩
  case round =>
    clear HS
    obtain ⟨j, hj, rfl, hst⟩ := hrel
    obtain ⟨k, hst⟩ := hst.out
    by_cases hjl : j < r + 1
    · have q := AAlloc_ok wr _ g k (1 + (r : Int)) _ hst.ar hst.ch.size (by rw [List.length_replicate]; omega) (by omega)
      rw [List.length_replicate] at q
      have HQ := Lib.hid q
      have HST := Lib.hid hst
      clear q hst
      go_wp2_with fail
      refine HQ.out.mono ?_
      rintro e w2 ⟨rfl, k2, a2, h2, _⟩
      have H2 := Lib.hid (HST.out.more a2 h2)
      clear a2 h2 HST HQ
      have q := AGet_ok w2 _ g k2 (1 + (r : Int)) (List.replicate j Nd.zero) [] Nd.zero H2.out.ar (by rw [List.length_replicate]; omega)
      rw [List.length_replicate] at q
      simp only [Nd.val, Nd.zero] at q
      have HQ := Lib.hid q
      clear q
      go_wp2_with fail
      refine HQ.out.mono ?_
      rintro e w3 ⟨rfl, h3⟩
      have H3 := Lib.hid (H2.out.no h3)
      clear h3 H2 HQ
      have S3 := Lib.hid (H3.out.no ((Ch.refl No w3).alloc (.cells #[.int .i32 0, .int .i32 0, .int .i64 0, .int .i64 0, .int .i64 0, .int .i64 0, .bool false] 34)))
      go_wp2_with fail
      have q := ARoom_any _ _ g k2 (1 + (r : Int)) _ S3.out.ar (by simp; omega) (by omega)
      simp only [List.length_append, List.length_replicate, List.length_cons, List.length_nil, Nat.zero_add] at q
      rw [show (1 + (r : Int)) - ((j + 1 : Nat) : Int) = 1 + (r : Int) - ((j : Int) + 1) from by omega] at q
      have HQ := Lib.hid q
      clear q
      refine HQ.out.mono ?_
      rintro e w4 ⟨rfl, h4⟩
      have H4 := Lib.hid (S3.out.no h4)
      clear h4 S3 HQ
      go_wp2_with fail
      have q := ALen_any w4 _ g k2 (1 + (r : Int)) _ H4.out.ar
      simp only [List.length_append, List.length_replicate, List.length_cons, List.length_nil, Nat.zero_add] at q
      rw [show ((j + 1 : Nat) : Int) = (j : Int) + 1 from by omega] at q
      have HQ := Lib.hid q
      clear q
      refine HQ.out.mono ?_
      rintro e w5 ⟨rfl, rfl⟩
      clear HQ
      go_wp2_with fail
      go_roundw
      case rel => exact ⟨j + 1, by omega, by go_num, Lib.hid ⟨k2, by rw [List.replicate_succ']; exact H4.out⟩⟩
      case measure => simp [intOf]; omega
    · obtain rfl : j = r + 1 := by omega
      have q1 := AAlloc_full wr _ g k (1 + (r : Int)) _ hst.ar (by rw [List.length_replicate]; omega) (by omega)
      have HST := Lib.hid hst
      clear hst
      have hcase : (1 ≤ i ∧ i ≤ (r : Int) + 1) ∨ i < 1 ∨ ((r : Int) + 1 < i ∧ 1 ≤ i) := by omega
      rcases hcase with ⟨hc1, hc2⟩ | hc | ⟨hc, hc'⟩
      · obtain ⟨p, hpi⟩ : ∃ p : Nat, i = (p : Int) + 1 := ⟨(i - 1).toNat, by omega⟩
        have hp : p < r + 1 := by omega
        have hcut := rep_cut (r + 1) p hp
        have q2 := fun w' (h : Ar w' W.heap.size g k (1 + (r : Int)) (List.replicate p Nd.zero ++ Nd.zero :: List.replicate (r + 1 - 1 - p) Nd.zero)) => AGet_ok w' _ g k (1 + (r : Int)) (List.replicate p Nd.zero) (List.replicate (r + 1 - 1 - p) Nd.zero) Nd.zero h (by rw [List.length_replicate]; omega)
        have q3 := fun w' (h : Ar w' W.heap.size g k (1 + (r : Int)) (List.replicate p Nd.zero ++ Nd.zero :: List.replicate (r + 1 - 1 - p) Nd.zero)) => ASet_ok w' _ g k (1 + (r : Int)) (List.replicate p Nd.zero) (List.replicate (r + 1 - 1 - p) Nd.zero) Nd.zero h (by rw [List.length_replicate]; omega) ⟨0, 0, 0, 0, 0, 0, true⟩
        rw [List.length_replicate, ← hpi] at q2 q3
        rw [← hcut] at q2
        have q3' := fun w' (h : Ar w' W.heap.size g k (1 + (r : Int)) (List.replicate (r + 1) Nd.zero)) => q3 w' (hcut ▸ h)
        clear q3
        have q3 := q3'
        clear q3'
        simp only [Nd.val, Nd.zero] at q2 q3
        have HQ := Lib.hid (And.intro q1 (And.intro q2 q3))
        clear q1 q2 q3 hcut hpi hp
        go_wp2_with fail
        refine HQ.out.1.mono ?_
        rintro e w2 ⟨rfl, h2⟩
        have H2 := Lib.hid (HST.out.no h2)
        clear h2 HST
        go_wp2_with fail
        refine (HQ.out.2.1 w2 H2.out.ar).mono ?_
        rintro e w3 ⟨rfl, h3⟩
        have H3 := Lib.hid (H2.out.no (h3.alloc (.cells #[.int .i32 0, .int .i32 0, .int .i64 0, .int .i64 0, .int .i64 0, .int .i64 0, .bool false] 34)))
        clear h3 H2
        go_wp2_with fail
        refine (HQ.out.2.2 _ H3.out.ar).mono ?_
        rintro e w4 ⟨rfl, a4, h4⟩
        have H4 := Lib.hid (H3.out.set a4 h4)
        clear a4 h4 H3 HQ
        go_wp2_with fail
        go_ret
        exact ⟨ret_bool (by first | rfl | (simp; done) | (simp; omega)), H4.out.ch⟩
      · have hno : ¬ inA (List.replicate (r + 1) Nd.zero) i := by
          rintro ⟨x, y⟩
          rw [List.length_replicate] at y
          omega
        have q2 := fun w' (h : Ar w' W.heap.size g k (1 + (r : Int)) (List.replicate (r + 1) Nd.zero)) => AGet_no w' _ g k (1 + (r : Int)) _ h i ⟨hi1, hi2⟩ hno
        have q3 := fun w' (h : Ar w' W.heap.size g k (1 + (r : Int)) (List.replicate (r + 1) Nd.zero)) => ASet_no w' _ g k (1 + (r : Int)) _ h i ⟨hi1, hi2⟩ hno ⟨0, 0, 0, 0, 0, 0, true⟩
        simp only [Nd.val, Nd.zero] at q2 q3
        have HQ := Lib.hid (And.intro q1 (And.intro q2 q3))
        clear q1 q2 q3 hno
        go_wp2_with fail
        refine HQ.out.1.mono ?_
        rintro e w2 ⟨rfl, h2⟩
        have H2 := Lib.hid (HST.out.no h2)
        clear h2 HST
        go_wp2_with fail
        refine (HQ.out.2.1 w2 H2.out.ar).mono ?_
        rintro e w3 ⟨rfl, h3⟩
        have H3 := Lib.hid (H2.out.no (h3.alloc (.cells #[.int .i32 0, .int .i32 0, .int .i64 0, .int .i64 0, .int .i64 0, .int .i64 0, .bool false] 34)))
        clear h3 H2
        go_wp2_with fail
        refine (HQ.out.2.2 _ H3.out.ar).mono ?_
        rintro e w4 ⟨rfl, h4⟩
        have H4 := Lib.hid (H3.out.no h4)
        clear h4 H3 HQ
        go_wp2_with fail
        go_ret
        exact ⟨ret_bool (by first | rfl | (simp; done) | (simp; omega)), H4.out.ch⟩
      · have hno : ¬ inA (List.replicate (r + 1) Nd.zero) i := by
          rintro ⟨x, y⟩
          rw [List.length_replicate] at y
          omega
        have q2 := fun w' (h : Ar w' W.heap.size g k (1 + (r : Int)) (List.replicate (r + 1) Nd.zero)) => AGet_no w' _ g k (1 + (r : Int)) _ h i ⟨hi1, hi2⟩ hno
        have q3 := fun w' (h : Ar w' W.heap.size g k (1 + (r : Int)) (List.replicate (r + 1) Nd.zero)) => ASet_no w' _ g k (1 + (r : Int)) _ h i ⟨hi1, hi2⟩ hno ⟨0, 0, 0, 0, 0, 0, true⟩
        simp only [Nd.val, Nd.zero] at q2 q3
        have HQ := Lib.hid (And.intro q1 (And.intro q2 q3))
        clear q1 q2 q3 hno
        go_wp2_with fail
        refine HQ.out.1.mono ?_
        rintro e w2 ⟨rfl, h2⟩
        have H2 := Lib.hid (HST.out.no h2)
        clear h2 HST
        go_wp2_with fail
        refine (HQ.out.2.1 w2 H2.out.ar).mono ?_
        rintro e w3 ⟨rfl, h3⟩
        have H3 := Lib.hid (H2.out.no (h3.alloc (.cells #[.int .i32 0, .int .i32 0, .int .i64 0, .int .i64 0, .int .i64 0, .int .i64 0, .bool false] 34)))
        clear h3 H2
        go_wp2_with fail
        refine (HQ.out.2.2 _ H3.out.ar).mono ?_
        rintro e w4 ⟨rfl, h4⟩
        have H4 := Lib.hid (H3.out.no h4)
        clear h4 H3 HQ
        go_wp2_with fail
        go_ret
        exact ⟨ret_bool (by first | rfl | (simp; done) | (simp; omega)), H4.out.ch⟩

theorem arenaFills_walk (W : World) (a0 a1 : Int) (_w0 : (Lit.int .i64 a0).wf = true) (w1 : (Lit.int .i32 a1).wf = true) :
    Calls Try.prog 5 #[.int .i64 a0, .int .i32 a1] W fun e w' => e = .returned (.bool true) ∧ Below W.heap.size W w' :=
  (arenaFills_core W a0 a1 (by have := bounds_i32 w1; omega)).mono fun _ _ ⟨h1, h2⟩ => ⟨h1, h2.same⟩
end Go.Proofs.Ytjphocpnmhheeaa
