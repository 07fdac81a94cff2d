/- The example of arena's chapter holds. -/
import Derived.Test.YtjphocpnmhheeaaArnAll
import Derived.Test.YtjphocpnmhheeaaQuiet
namespace Go.Proofs.Ytjphocpnmhheeaa
open Go.RowKit

/-- an arena of the call's own -/
structure SA (W w : World) (g : Nat) (k : Option Nat) (lim : Int) (l : List Nd) : Prop where
  ar : Ar w W.heap.size g k lim l
  gl : W.heap.size ≤ g
  ch : Ch No W w
theorem SA.no {W w w' : World} {g : Nat} {k : Option Nat} {lim : Int} {l : List Nd} (h : SA W w g k lim l) (hc : Ch No w w') : SA W w' g k lim l := ⟨h.ar.no hc, h.gl, h.ch.trans hc⟩
theorem SA.more {W w w' : World} {g : Nat} {k k' : Option Nat} {lim : Int} {l l' : List Nd} (h : SA W w g k lim l) (ha : Ar w' W.heap.size g k' lim l') (hc : Ch (fun i => i = g ∨ k = some i) w w') : SA W w' g k' lim l' :=
  ⟨ha, h.gl, h.ch.trans' hc (fun i hi he => by
    have := h.gl
    rcases he with he | he
    · omega
    · have := (h.ar.klt he).1; omega)⟩
theorem SA.set {W w w' : World} {g : Nat} {k : Option Nat} {lim : Int} {l l' : List Nd} (h : SA W w g k lim l) (ha : Ar w' W.heap.size g k lim l') (hc : Ch (fun i => k = some i) w w') : SA W w' g k lim l' :=
  h.more ha (hc.mono (fun _ _ h => .inr h))
theorem SA.new {W w w' : World} {g : Nat} {lim : Int} (hW : Ch No W w) (hg : g = w.heap.size) (ha : Ar w' w.heap.size g none lim []) (hc : Ch No w w') : SA W w' g none lim [] :=
  ⟨ha.lower hW.size, by have := hW.size; omega, hW.trans hc⟩

set_option maxHeartbeats 4000000 in
set_option maxRecDepth 100000 in
theorem arnAlive_any (W : World) : Calls Try.prog 12 #[] W fun e w' => e = .returned (.bool true) ∧ Ch No W w' := by
  go_enter Try.func12, Try.ntmps12
  go_wp2_with fail
  refine (ANew_ok W 1 (by omega) (by omega)).mono ?_
  rintro e w1 ⟨rfl, a1, h1⟩
  have H1 := Lib.hid (SA.new (Ch.refl No W) rfl a1 h1)
  clear a1 h1
  obtain ⟨g, hg⟩ : ∃ g, W.heap.size = g := ⟨_, rfl⟩
  have HG := Lib.hid hg
  rw [hg]
  rw [hg] at H1
  clear hg
  go_wp2_with fail
  refine (AAlloc_ok w1 _ g none 1 [] H1.out.ar H1.out.ch.size (by simp) (by omega)).mono ?_
  rintro e w2 ⟨rfl, k2, a2, h2, _⟩
  have H2 := Lib.hid (H1.out.more a2 h2)
  clear a2 h2 H1
  simp only [List.length_nil, List.nil_append] at H2 ⊢
  go_wp2_with fail
  refine (AAlloc_full w2 _ g k2 1 [Nd.zero] H2.out.ar (by simp) (by omega)).mono ?_
  rintro e w3 ⟨rfl, h3⟩
  have H3 := Lib.hid (H2.out.no h3)
  clear h3 H2
  go_wp2_with fail
  have q := ASet_ok w3 _ g k2 1 [] [] Nd.zero H3.out.ar (by simp) ⟨7, 0, 0, 0, 0, 0, false⟩
  simp only [List.length_nil, List.nil_append, Nd.val] at q
  refine q.mono ?_
  rintro e w4 ⟨rfl, a4, h4⟩
  have H4 := Lib.hid (H3.out.set a4 h4)
  clear q a4 h4 H3
  go_wp2_with fail
  have q := AGet_ok w4 _ g k2 1 [] [] ⟨7, 0, 0, 0, 0, 0, false⟩ H4.out.ar (by simp)
  simp only [List.length_nil, Nd.val] at q
  refine q.mono ?_
  rintro e w5 ⟨rfl, h5⟩
  have H5 := Lib.hid (H4.out.no h5)
  clear q h5 H4
  go_wp2_with fail
  have S5 := Lib.hid (H5.out.no ((Ch.refl No w5).alloc (.cells #[.int .i32 7, .int .i32 0, .int .i64 0, .int .i64 0, .int .i64 0, .int .i64 0, .bool false] 34)))
  have N5 : (w5.alloc (.cells #[.int .i32 7, .int .i32 0, .int .i64 0, .int .i64 0, .int .i64 0, .int .i64 0, .bool false] 34)).cell? ⟨w5.heap.size, 0, none⟩ = some (.int .i32 7) := (Blk.new w5 34 [.int .i32 7, .int .i32 0, .int .i64 0, .int .i64 0, .int .i64 0, .int .i64 0, .bool false]).cell 0
  obtain ⟨b5, hb5⟩ : ∃ b5, w5.heap.size = b5 := ⟨_, rfl⟩
  rw [hb5] at N5 ⊢
  generalize w5.alloc (.cells #[.int .i32 7, .int .i32 0, .int .i64 0, .int .i64 0, .int .i64 0, .int .i64 0, .bool false] 34) = v5 at *
  clear H5 hb5
  have q := AGet_no v5 _ g k2 1 [⟨7, 0, 0, 0, 0, 0, false⟩] S5.out.ar 2 ⟨by omega, by omega⟩ (fun h => by have := h.2; simp at this)
  simp only [Nd.val, Nd.zero] at q
  refine q.mono ?_
  rintro e w6 ⟨rfl, h6⟩
  have H6 := Lib.hid (S5.out.no h6)
  have N6 := h6.cell N5 (fun h => h)
  clear q h6 S5 N5
  go_wp2_with fail
  have S6 := Lib.hid (H6.out.no ((Ch.refl No w6).alloc (.cells #[.int .i32 0, .int .i32 0, .int .i64 0, .int .i64 0, .int .i64 0, .int .i64 0, .bool false] 34)))
  have N7 := cell_al (.cells #[.int .i32 0, .int .i32 0, .int .i64 0, .int .i64 0, .int .i64 0, .int .i64 0, .bool false] 34) N6
  generalize w6.alloc (.cells #[.int .i32 0, .int .i32 0, .int .i64 0, .int .i64 0, .int .i64 0, .int .i64 0, .bool false] 34) = v6 at *
  clear H6 N6
  refine (ANew_bad v6 0 (by omega)).mono ?_
  rintro e w7 ⟨rfl, rfl⟩
  go_wp2_with fail
  refine (nodes_any v6 _ g k2 1 [⟨7, 0, 0, 0, 0, 0, false⟩] S6.out.ar (by simp) 9).mono ?_
  rintro e w8 ⟨v8, rfl, r8, h8⟩
  obtain ⟨A8, c8, rfl⟩ := row_shape r8
  have H8 := Lib.hid (S6.out.no h8)
  have N8 := h8.cell N7 (fun h => h)
  have hl8 : (List.take (9 : Int).toNat [(⟨7, 0, 0, 0, 0, 0, false⟩ : Nd)]).length = 1 := rfl
  rw [hl8]
  clear r8 h8 S6 N7 hl8
  go_wp2_with fail
  have q := ALen_any w8 _ g k2 1 [⟨7, 0, 0, 0, 0, 0, false⟩] H8.out.ar
  simp only [List.length_cons, List.length_nil, Nat.zero_add] at q
  refine q.mono ?_
  rintro e w9 ⟨rfl, rfl⟩
  clear q
  go_wp2_with fail
  have q := ARoom_any w8 _ g k2 1 [⟨7, 0, 0, 0, 0, 0, false⟩] H8.out.ar (by simp) (by omega)
  rw [show (1 : Int) - (([(⟨7, 0, 0, 0, 0, 0, false⟩ : Nd)].length : Nat) : Int) = 0 from rfl] at q
  refine q.mono ?_
  rintro e w9 ⟨rfl, h9⟩
  have H9 := Lib.hid (H8.out.ch.trans h9)
  clear q h9
  go_wp2_with fail
  go_ret
  exact ⟨rfl, H9.out⟩
end Go.Proofs.Ytjphocpnmhheeaa
