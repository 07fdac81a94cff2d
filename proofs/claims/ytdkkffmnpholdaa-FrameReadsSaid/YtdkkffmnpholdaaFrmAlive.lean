/- The example of frame's chapter holds. -/
import Derived.Lib.SlBytesConst
import Derived.Test.YtdkkffmnpholdaaFrmAll
import Derived.Test.YtdkkffmnpholdaaFrmSame
namespace Go.Proofs.Ytdkkffmnpholdaa
open Go.RowKit

theorem Cls.litM (w : World) (t : TypeId) (vs : List Value) (m : Nat × Nat) : Cls (w.alloc (.cells vs.toArray t m)) (some ⟨w.heap.size, 0, none⟩) vs := by
  intro pre v post e
  refine ⟨_, _, rfl, ?_⟩
  have h := cell_of_row (w.alloc (.cells vs.toArray t m)) w.heap.size (0 + pre.length) vs.toArray t m (heap_alloc_new w _)
  rw [h]
  simp [e]

set_option maxHeartbeats 4000000 in
set_option maxRecDepth 100000 in
theorem frmAlive_any (w : World) : Calls Try.prog 9 #[] w fun e w' => e = .returned (.bool true) ∧ Ch No w w' := by
  have hcv := fun (w : World) (C : Array Value) (n c : Nat) => Lib.run_convert_bytes_const (P := Try.prog) w 22 5 C n c Try.underlying22 Try.underlying5
  go_enter Try.func9, Try.ntmps9
  go_wp2_with fail
  have q := FWrap_ok (w.alloc (.cells #[.int .u8 97, .int .u8 98] 5 (2, 3))) (some ⟨w.heap.size, 0, none⟩) 2 [97, 98] (Cls.litM w 5 [.int .u8 97, .int .u8 98] (2, 3)) (by simp)
  rw [show wrp [97, 98] = [0, 2, 97, 98] from by decide] at q
  refine q.mono ?_
  rintro e w1 ⟨A1, c1, rfl, o1, h1⟩
  obtain ⟨A1', c1', e1, X1, _⟩ := o1.slice_ints
  obtain ⟨rfl, rfl⟩ : A1 = A1' ∧ c1 = c1' := by simpa using e1
  have HC1 := Lib.hid (((Ch.refl No w).alloc (.cells #[.int .u8 97, .int .u8 98] 5 (2, 3))).trans h1)
  have s1 := conv_bytes w1 A1 c1 [0, 2, 97, 98] X1
  have t1 : (strOfNums [0, 2, 97, 98]).toList = [0, 2, 97, 98] := by rw [ByteArray.toList_eq]; rfl
  simp only [List.length_cons, List.length_nil, Nat.zero_add, Nat.reduceAdd] at s1
  clear q o1 e1 X1 h1
  go_wp2_with fail
  clear s1 t1
  have q := FNext_any (w1.alloc (.cells #[.int .u8 0, .int .u8 1, .int .u8 120, .int .u8 121, .int .u8 122] 5 (5, 6))) (some ⟨w1.heap.size, 0, none⟩) 5 [0, 1, 120, 121, 122] (Cls.litM w1 5 [.int .u8 0, .int .u8 1, .int .u8 120, .int .u8 121, .int .u8 122] (5, 6)) (by unfold isB; decide) (by simp)
  rw [show nxt [0, 1, 120, 121, 122] = .ok [120] [121, 122] from rfl] at q
  unfold NextP at q
  simp only [Nx.body, Nx.rest, Nx.err] at q
  refine q.mono ?_
  rintro e w2 ⟨A2, c2, A3, c3, rfl, X2, X3, _, _, _, _, h2⟩
  have H2 : Hid (Ch No w w2 ∧ Cls w2 A2 (ints .u8 [120]) ∧ Cls w2 A3 (ints .u8 [121, 122])) := Lib.hid ⟨(HC1.out.alloc _).trans h2, X2, X3⟩
  clear q X2 X3 h2 HC1
  go_wp2_with fail
  have q := FNext_any (w2.alloc (.cells #[.int .u8 4, .int .u8 1] 5)) (some ⟨w2.heap.size, 0, none⟩) 2 [4, 1] (Cls.lit w2 5 [.int .u8 4, .int .u8 1]) (by unfold isB; decide) (by simp)
  rw [show nxt [4, 1] = .long from rfl] at q
  unfold NextP at q
  simp only [Nx.body, Nx.rest, Nx.err] at q
  refine q.mono ?_
  rintro e w3 ⟨A4, c4, A5, c5, rfl, _, _, _, _, _, _, h3⟩
  have H3 : Hid (Ch No w w3 ∧ Cls w3 A2 (ints .u8 [120]) ∧ Cls w3 A3 (ints .u8 [121, 122])) := by
    have hc := ((Ch.refl No w2).alloc (.cells #[.int .u8 4, .int .u8 1] 5)).trans h3
    exact Lib.hid ⟨H2.out.1.trans hc, H2.out.2.1.ch hc (fun _ _ h => h), H2.out.2.2.ch hc (fun _ _ h => h)⟩
  clear q h3 H2
  go_wp2_with fail
  have q := FNext_any (w3.alloc (.cells #[.int .u8 0, .int .u8 1] 5)) (some ⟨w3.heap.size, 0, none⟩) 2 [0, 1] (Cls.lit w3 5 [.int .u8 0, .int .u8 1]) (by unfold isB; decide) (by simp)
  rw [show nxt [0, 1] = .short from rfl] at q
  unfold NextP at q
  simp only [Nx.body, Nx.rest, Nx.err] at q
  refine q.mono ?_
  rintro e w4 ⟨A6, c6, A7, c7, rfl, _, _, _, _, _, _, h4⟩
  have H4 : Hid (Ch No w w4 ∧ Cls w4 A2 (ints .u8 [120]) ∧ Cls w4 A3 (ints .u8 [121, 122])) := by
    have hc := ((Ch.refl No w3).alloc (.cells #[.int .u8 0, .int .u8 1] 5)).trans h4
    exact Lib.hid ⟨H3.out.1.trans hc, H3.out.2.1.ch hc (fun _ _ h => h), H3.out.2.2.ch hc (fun _ _ h => h)⟩
  clear q h4 H3
  have hs : Spl [0, 1, 97, 0, 0, 0] [[97], []] [0] 0 := .ok rfl (.ok rfl (.short rfl))
  go_wp2_with fail
  have q := FSplit_any (w4.alloc (.cells #[.int .u8 0, .int .u8 1, .int .u8 97, .int .u8 0, .int .u8 0, .int .u8 0] 5 (6, 7))) (some ⟨w4.heap.size, 0, none⟩) 6 [0, 1, 97, 0, 0, 0] [[97], []] [0] 0 hs (Cls.litM w4 5 [.int .u8 0, .int .u8 1, .int .u8 97, .int .u8 0, .int .u8 0, .int .u8 0] (6, 7)) (by unfold isB; decide) (by simp)
  refine q.mono ?_
  rintro e w5 ⟨O, co, L, cl, rfl, _, _, h5⟩
  have H5 : Hid (Ch No w w5 ∧ Cls w5 A2 (ints .u8 [120]) ∧ Cls w5 A3 (ints .u8 [121, 122])) := by
    have hc := ((Ch.refl No w4).alloc (.cells #[.int .u8 0, .int .u8 1, .int .u8 97, .int .u8 0, .int .u8 0, .int .u8 0] 5 (6, 7))).trans h5
    exact Lib.hid ⟨H4.out.1.trans hc, H4.out.2.1.ch hc (fun _ _ h => h), H4.out.2.2.ch hc (fun _ _ h => h)⟩
  clear q h5 H4
  have s1 := conv_bytes w5 A2 c2 [120] H5.out.2.1
  have s2 := conv_bytes w5 A3 c3 [121, 122] H5.out.2.2
  simp only [List.length_cons, List.length_nil, Nat.zero_add, Nat.reduceAdd] at s1 s2
  have t1 : (strOfNums [120]).toList = [120] := by rw [ByteArray.toList_eq]; rfl
  have t2 : (strOfNums [121, 122]).toList = [121, 122] := by rw [ByteArray.toList_eq]; rfl
  go_wp2_with fail
  clear s1 s2 t1 t2
  have q := fall_any (w5.alloc (.cells #[.int .u8 0, .int .u8 1, .int .u8 97, .int .u8 0, .int .u8 0, .int .u8 0] 5 (6, 7))) (some ⟨w5.heap.size, 0, none⟩) 6 [0, 1, 97, 0, 0, 0] [[97], []] [0] 0 hs (Cls.litM w5 5 [.int .u8 0, .int .u8 1, .int .u8 97, .int .u8 0, .int .u8 0, .int .u8 0] (6, 7)) (by unfold isB; decide) (by simp) 9
  refine q.mono ?_
  rintro e w6 ⟨v, ps, rfl, hp, o6, h6⟩
  obtain ⟨A8, c8, rfl, _, _⟩ := o6.slice
  have hl : (ps.map Prt.enc).length = 2 := by
    have := congrArg List.length hp
    simpa using this
  rw [hl]
  have H6 := Lib.hid ((H5.out.1.alloc (.cells #[.int .u8 0, .int .u8 1, .int .u8 97, .int .u8 0, .int .u8 0, .int .u8 0] 5 (6, 7))).trans h6)
  clear q hp o6 h6 hl
  go_wp2_with fail
  go_ret
  exact ⟨rfl, H6.out⟩
end Go.Proofs.Ytdkkffmnpholdaa
