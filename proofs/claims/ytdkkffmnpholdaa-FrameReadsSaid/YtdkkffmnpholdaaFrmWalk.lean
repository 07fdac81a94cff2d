/- frame: Wrap and Next: what they come to. -/
import Derived.Test.YtdkkffmnpholdaaFrmLaw
namespace Go.Proofs.Ytdkkffmnpholdaa
open Go.RowKit

/-- a body's frame -/
def wrp (xs : List Int) : List Int := putB xs.length 2 ++ xs
@[simp] theorem wrp_len (xs : List Int) : (wrp xs).length = xs.length + 2 := by simp [wrp]; omega

set_option maxHeartbeats 2000000 in
set_option maxRecDepth 100000 in
theorem FWrap_long (w : World) (A : Option Addr) (c : Nat) (xs : List Int) (hl : xs.length ≤ 140737488351232) (h : 1024 < xs.length) :
    Calls Try.prog 17 #[.slice A xs.length c] w fun e w' => e = .returned (.tuple #[.slice none 0 0, .int .i64 2]) ∧ w = w' := by
  go_enter Try.func17, Try.ntmps17
  go_wp2_with fail
  go_ret2
  exact ⟨rfl, rfl⟩

set_option maxHeartbeats 2000000 in
set_option maxRecDepth 100000 in
theorem FWrap_ok (w : World) (A : Option Addr) (c : Nat) (xs : List Int) (hx : Cls w A (ints .u8 xs)) (h : xs.length ≤ 1024) :
    Calls Try.prog 17 #[.slice A xs.length c] w fun e w' => ∃ A' c', e = .returned (.tuple #[.slice A' (wrp xs).length c', .int .i64 0]) ∧ OwnS w' w.heap.size 5 (.slice A' (wrp xs).length c') (ints .u8 (wrp xs)) ∧ Ch No w w' := by
  have HX := Lib.hid hx
  clear hx
  go_enter Try.func17, Try.ntmps17
  go_wp2_with fail
  have b0 := Wr.new w w.heap.size
  have C0 : Ch No w (w.alloc (.cells #[.slice none 0 0] 58)) := (Ch.refl No w).alloc _
  generalize w.alloc (.cells #[.slice none 0 0] 58) = w0 at *
  refine (Put_any xs.length 2 w0 w.heap.size w.heap.size none [] b0 C0.size (by simp)).mono ?_
  rintro e w1 ⟨rfl, k1, b1, h1, _⟩
  have C1 := C0.wr0 b0 (Nat.le_refl _) (Nat.le_refl _) h1
  rw [show ([] ++ putB xs.length (heldB 2)) = putB xs.length 2 from rfl] at b1
  have HB1 := Lib.hid (And.intro b1 C1)
  clear b0 C0 h1 b1 C1
  go_wp2_with fail
  refine (WRaw_any w1 w.heap.size w.heap.size k1 _ HB1.out.1 HB1.out.2.size A c xs (HX.out.ch HB1.out.2 (fun _ _ h => h)) (by simp; omega)).mono ?_
  rintro e w2 ⟨rfl, k2, b2, h2, _⟩
  have C2 := HB1.out.2.wr0 HB1.out.1 (Nat.le_refl _) (Nat.le_refl _) h2
  have HB2 : Hid (Wr w2 w.heap.size w.heap.size k2 (wrp xs) ∧ Ch No w w2) := Lib.hid ⟨b2, C2⟩
  clear HB1 h2 b2 C2
  go_wp2_with fail
  refine (Done_any w2 w.heap.size w.heap.size k2 _ HB2.out.1 (by simp; omega)).mono ?_
  rintro e w3 ⟨A3, c3, rfl, o3, h3⟩
  have HP := Lib.hid (And.intro (o3.lower HB2.out.2.size) (HB2.out.2.trans h3))
  clear o3 h3 HB2
  go_wp2_with fail
  go_ret2
  exact ⟨A3, c3, rfl, HP.out.1, HP.out.2⟩

/-- a body and what stands behind it have been handed back, in blocks of the call's own -/
def NextP (w : World) (x : Nx) (e : Ending) (w' : World) : Prop :=
  ∃ A1 c1 A2 c2, e = .returned (.tuple #[.slice A1 x.body.length c1, .slice A2 x.rest.length c2, .int .i64 x.err]) ∧ Cls w' A1 (ints .u8 x.body) ∧ Cls w' A2 (ints .u8 x.rest) ∧
    (∀ a, A1 = some a → w.heap.size ≤ a.block ∧ a.block < w'.heap.size) ∧ (∀ a, A2 = some a → w.heap.size ≤ a.block ∧ a.block < w'.heap.size) ∧ U8 w' A1 ∧ U8 w' A2 ∧ Ch No w w'
theorem NextP.none {w w' : World} (x : Nx) (hb : x.body = []) (hr : x.rest = []) (h : Ch No w w') : NextP w x (.returned (.tuple #[.slice none 0 0, .slice none 0 0, .int .i64 x.err])) w' :=
  ⟨.none, 0, .none, 0, by rw [hb, hr]; rfl, by rw [hb]; exact Cls.nil _ _, by rw [hr]; exact Cls.nil _ _, (by simp), (by simp), U8.none _, U8.none _, h⟩

set_option maxHeartbeats 4000000 in
set_option maxRecDepth 100000 in
theorem FNext_any (w : World) (A : Option Addr) (c : Nat) (xs : List Int) (hx : Cls w A (ints .u8 xs)) (hb : ∀ x ∈ xs, isB x) (hl : xs.length ≤ 100000000) :
    Calls Try.prog 10 #[.slice A xs.length c] w (NextP w (nxt xs)) := by
  have HX := Lib.hid (And.intro hx hb)
  have htw := two_lt hb
  clear hx hb
  go_enter Try.func10, Try.ntmps10
  go_wp2_with fail
  refine (Open_u8 w A c xs HX.out.1 (by omega)).mono ?_
  rintro e w1 ⟨g, A1, c1, rfl, r1, hg1, hA1, u1, h1⟩
  have HU1 : Hid (U8 w1 A1 ∧ ∀ a, A1 = some a → a.block ≠ g) := Lib.hid ⟨u1, r1.ne⟩
  have H1 := Lib.hid (And.intro r1 (And.intro hg1 (And.intro hA1 h1)))
  clear r1 hg1 hA1 u1 h1
  go_wp2_with fail
  by_cases h2 : xs.length < 2
  · have HN : Hid (nxt xs = .short) := Lib.hid (by unfold nxt; rw [if_pos h2])
    have q := Get_any w1 g A1 c1 xs false H1.out.1 HX.out.2 2
    unfold GetP at q
    rw [show heldB 2 = 2 from rfl, show tkB xs false 2 = true from by simp [tkB]; omega, show tkO xs false 2 = [] from by unfold tkO; rw [if_pos (by simp [tkB]; omega)]] at q
    refine q.mono ?_
    rintro e w2 ⟨A2, c2, rfl, r2, _, h2'⟩
    have H2 := Lib.hid (And.intro r2 (H1.out.2.2.2.rd0 H1.out.2.1 h2'))
    clear q r2 h2' H1
    go_wp2_with fail
    refine (Bad_any w2 g A2 c2 _ true H2.out.1).mono ?_
    rintro e w3 ⟨rfl, rfl⟩
    go_wp2_with fail
    go_ret3
    rw [HN.out]
    exact NextP.none .short rfl rfl H2.out.2
  · have hbad : tkB xs false 2 = false := by simp [tkB]; omega
    have q := Get_any w1 g A1 c1 xs false H1.out.1 HX.out.2 2
    unfold GetP at q
    rw [show heldB 2 = 2 from rfl, hbad, show tkO xs false 2 = xs.take 2 from by unfold tkO; rw [hbad]; rfl, show tkR xs false 2 = xs.drop 2 from by unfold tkR; rw [hbad]; rfl, show getN (xs.take 2) = two xs from rfl] at q
    refine q.mono ?_
    rintro e w2 ⟨A2, c2, rfl, r2, hA2, h2'⟩
    have hA2' : ∀ a, A2 = some a → w.heap.size ≤ a.block ∧ a.block < w2.heap.size := fun a ha => by
      obtain ⟨a0, h0, h1⟩ := hA2 a ha
      have := H1.out.2.2.1 a0 h0
      have := h2'.size
      omega
    have HU2 : Hid (U8 w2 A2) := Lib.hid ((HU1.out.1.ch h2' (fun a ha he => HU1.out.2 a ha he)).blk hA2)
    have H2 := Lib.hid (And.intro r2 (And.intro (H1.out.2.2.2.rd0 H1.out.2.1 h2') (And.intro hA2' H1.out.2.1)))
    clear q r2 h2' H1 hA2 hA2' hbad
    obtain ⟨n, hn⟩ : ∃ n, two xs = n := ⟨_, rfl⟩
    rw [hn] at htw ⊢
    have hdl : (xs.drop 2).length = xs.length - 2 := by simp
    have HN := Lib.hid (And.intro hn hdl)
    obtain ⟨ys, hys⟩ : ∃ ys, xs.drop 2 = ys := ⟨_, rfl⟩
    rw [hys] at hdl
    have H3 : Hid (Rdr w2 g A2 c2 ys false ∧ Ch No w w2 ∧ (∀ a, A2 = some a → w.heap.size ≤ a.block ∧ a.block < w2.heap.size) ∧ w.heap.size ≤ g) := by rw [← hys]; exact H2
    have HY := Lib.hid hys
    clear hn hys H2
    go_wp2_with fail
    refine (Bad_any w2 g A2 c2 _ false H3.out.1).mono ?_
    rintro e w3 ⟨rfl, rfl⟩
    by_cases h3 : 1024 < n
    · go_wp2_with fail
      go_ret3
      have hnx : nxt xs = .long := by unfold nxt; rw [if_neg h2, if_pos (by rw [HN.out.1]; exact h3)]
      rw [hnx]
      exact NextP.none .long rfl rfl H3.out.2.1
    · go_wp2_with fail
      have q := RRaw_any w2 g A2 c2 ys false H3.out.1 n (by omega)
      unfold TakeP at q
      rw [Int.toNat_natCast] at q
      by_cases h4 : xs.length < 2 + n
      · have hnx : nxt xs = .short := by unfold nxt; rw [if_neg h2, if_neg (by rw [HN.out.1]; exact h3), if_pos (by rw [HN.out.1]; exact h4)]
        rw [show tkB ys false n = true from by simp [tkB]; omega, show tkO ys false n = [] from by unfold tkO; rw [if_pos (by simp [tkB]; omega)]] at q
        refine q.mono ?_
        rintro e w3 ⟨A3, c3, A4, c4, rfl, _, _, r3, _, h3'⟩
        have H4 := Lib.hid (And.intro r3 (H3.out.2.1.rd0 H3.out.2.2.2 h3'))
        clear q r3 h3' H3
        have HNX := Lib.hid hnx
        clear hnx
        go_wp2_with fail
        refine (Bad_any w3 g A4 c4 _ true H4.out.1).mono ?_
        rintro e w4 ⟨rfl, rfl⟩
        go_wp2_with fail
        go_ret3
        rw [HNX.out]
        exact NextP.none .short rfl rfl H4.out.2
      · have hbad : tkB ys false n = false := by simp [tkB]; omega
        have hnx : nxt xs = .ok (ys.take n) (ys.drop n) := by
          unfold nxt
          rw [if_neg h2, if_neg (by rw [HN.out.1]; exact h3), if_neg (by rw [HN.out.1]; exact h4), HN.out.1, ← HY.out, List.drop_drop]
        rw [hbad, show tkO ys false n = ys.take n from by unfold tkO; rw [hbad]; rfl, show tkR ys false n = ys.drop n from by unfold tkR; rw [hbad]; rfl] at q
        have hl2 : (ys.take n).length = n := by rw [List.length_take]; omega
        have hld : (ys.drop n).length ≤ 100000000 := by rw [List.length_drop]; omega
        obtain ⟨bs, hbs⟩ : ∃ bs, ys.take n = bs := ⟨_, rfl⟩
        obtain ⟨rs, hrs⟩ : ∃ rs, ys.drop n = rs := ⟨_, rfl⟩
        rw [hbs, hrs] at q hnx
        rw [hrs] at hld
        have HNX := Lib.hid hnx
        clear hbs hrs hl2 hnx
        refine q.mono ?_
        rintro e w3 ⟨A3, c3, A4, c4, rfl, L3, hA3, r3, hA4, h3'⟩
        have hr3 := H3.out.1.ne
        have HU3 : Hid (U8 w3 A3 ∧ U8 w3 A4) := by
          have := HU2.out.ch h3' (fun a ha he => hr3 a ha he)
          exact Lib.hid ⟨this.blk hA3, this.blk hA4⟩
        have H4 : Hid (Rdr w3 g A4 c4 rs false ∧ Ch No w w3 ∧ Cls w3 A3 (ints .u8 bs) ∧ (∀ a, A3 = some a → w.heap.size ≤ a.block ∧ a.block < w3.heap.size ∧ a.block ≠ g) ∧ (∀ a, A4 = some a → w.heap.size ≤ a.block ∧ a.block < w3.heap.size ∧ a.block ≠ g) ∧ w.heap.size ≤ g) := by
          refine Lib.hid ⟨r3, H3.out.2.1.rd0 H3.out.2.2.2 h3', L3, ?_, ?_, H3.out.2.2.2⟩
          · intro a ha
            obtain ⟨a0, h0, h1⟩ := hA3 a ha
            have := H3.out.2.2.1 a0 h0
            have := h3'.size
            have h5 := hr3 a0 h0
            exact ⟨by omega, by omega, by rw [h1]; exact h5⟩
          · intro a ha
            obtain ⟨a0, h0, h1⟩ := hA4 a ha
            have := H3.out.2.2.1 a0 h0
            have := h3'.size
            have h5 := hr3 a0 h0
            exact ⟨by omega, by omega, by rw [h1]; exact h5⟩
        clear q L3 hA3 r3 hA4 h3' hr3 H3 hbad
        go_wp2_with fail
        refine (Bad_any w3 g A4 c4 _ false H4.out.1).mono ?_
        rintro e w4 ⟨rfl, rfl⟩
        go_wp2_with fail
        have q := Rest_any w3 g A4 c4 rs false H4.out.1 (by omega)
        unfold TakeP at q
        rw [(tk_all rfl).1] at q
        refine q.mono ?_
        rintro e w5 ⟨A5, c5, A6, c6, rfl, L5, hA5, r5, hA6, h5'⟩
        have H5 : Hid (NextP w (.ok bs rs) (.returned (.tuple #[.slice A3 bs.length c3, .slice A5 rs.length c5, .int .i64 0])) w5) := by
          refine Lib.hid ⟨A3, c3, A5, c5, rfl, H4.out.2.2.1.ch h5' (fun a ha he => (H4.out.2.2.2.1 a ha).2.2 he), L5, ?_, ?_, HU3.out.1.ch h5' (fun a ha he => (H4.out.2.2.2.1 a ha).2.2 he), (HU3.out.2.ch h5' (fun a ha he => (H4.out.2.2.2.2.1 a ha).2.2 he)).blk hA5, H4.out.2.1.rd0 H4.out.2.2.2.2.2 h5'⟩
          · intro a ha
            have := H4.out.2.2.2.1 a ha
            have := h5'.size
            omega
          · intro a ha
            obtain ⟨a0, h0, h1⟩ := hA5 a ha
            have := H4.out.2.2.2.2.1 a0 h0
            have := h5'.size
            omega
        clear q L5 hA5 r5 hA6 h5' H4
        go_wp2_with fail
        go_ret3
        rw [HNX.out]
        exact H5.out
end Go.Proofs.Ytdkkffmnpholdaa
