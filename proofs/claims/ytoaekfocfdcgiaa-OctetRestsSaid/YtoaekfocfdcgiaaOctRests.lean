/- OctetRests: bytes that are read in parts of whatever length, and the rest, are all of them: the walk. -/
import Derived.Test.YtoaekfocfdcgiaaOctAlive
import Derived.Test.YtoaekfocfdcgiaaRead
namespace Go.Proofs.Ytoaekfocfdcgiaa
open Go.RowKit

/-- a reader, and a slice of the call's own beyond block F that holds what was read -/
structure RSt (W w : World) (F g : Nat) (A : Option Addr) (c : Nat) (left : List Int) (bad : Bool) (got : Value) (rd : List Int) : Prop where
  rdr : Rdr w g A c left bad
  own : OwnS w F 5 got (ints .u8 rd)
  ch : Ch No W w
  gF : g < F
  aF : ∀ a, A = some a → a.block < F
  le : F ≤ w.heap.size
  gW : W.heap.size ≤ g
theorem RSt.step {W w w' : World} {F g : Nat} {A A2 : Option Addr} {c c2 : Nat} {left l2 : List Int} {bad b2 : Bool} {got : Value} {rd : List Int} (h : RSt W w F g A c left bad got rd)
    (hr : Rdr w' g A2 c2 l2 b2) (hA : ∀ a, A2 = some a → ∃ a0, A = some a0 ∧ a.block = a0.block) (hc : Ch (Only g) w w') : RSt W w' F g A2 c2 l2 b2 got rd := by
  refine ⟨hr, h.own.ch hc (fun k hk he => ?_), h.ch.rd0 h.gW hc, h.gF, fun a ha => ?_, Nat.le_trans h.le hc.size, h.gW⟩
  · have e : k = g := he
    have := (h.own.ge k hk).1
    have := h.gF
    omega
  · obtain ⟨a0, h0, h1⟩ := hA a ha
    rw [h1]
    exact h.aF a0 h0
theorem RSt.app {W w w' : World} {F g : Nat} {A A1 : Option Addr} {c c1 : Nat} {left : List Int} {bad : Bool} {got : Value} {rd xs : List Int} (h : RSt W w F g A c left bad got rd)
    (ho : OwnS w' F 5 (.slice A1 (rd ++ xs).length c1) (ints .u8 (rd ++ xs))) (hc : Ch (fun i => got.ownBlock = some i) w w') : RSt W w' F g A c left bad (.slice A1 (rd ++ xs).length c1) (rd ++ xs) := by
  refine ⟨h.rdr.ch hc (fun he => ?_) (fun a ha he => ?_), ho, h.ch.trans' hc (fun i hi he => ?_), h.gF, h.aF, Nat.le_trans h.le hc.size, h.gW⟩
  · have := (h.own.ge g he).1
    have := h.gF
    omega
  · have := (h.own.ge _ he).1
    have := h.aF a ha
    omega
  · have := (h.own.ge i he).1
    have := h.gF
    have := h.gW
    omega

set_option maxHeartbeats 4000000 in
set_option maxRecDepth 100000 in
theorem octetRests_core (W : World) (Ab : Option Addr) (cb : Nat) (bs : List Int) (As : Option Addr) (cs : Nat) (sizes : List Int) (hb : Cls W Ab (ints .u8 bs)) (hs : Cls W As (ints .i64 sizes)) (hbb : ∀ x ∈ bs, isB x) (hss : ∀ x ∈ sizes, wfI x)
    (hlb : bs.length ≤ 140737488351232) (hls : sizes.length ≤ 140737488351232) :
    Calls Try.prog 8 #[.slice Ab bs.length cb, .slice As sizes.length cs] W fun e w' => e = .returned (.bool true) ∧ Ch No W w' := by
  go_enter Try.func8, Try.ntmps8
  go_wp2_with fail
  refine (octAlive_any _).mono ?_
  rintro e w0 ⟨rfl, C0⟩
  have HC0 := Lib.hid C0
  clear C0
  by_cases h200 : 200 < bs.length
  · go_wp2_with fail
    go_ret
    exact ⟨rfl, HC0.out⟩
  by_cases h60 : 60 < sizes.length
  · go_wp2_with fail
    go_ret
    exact ⟨rfl, HC0.out⟩
  go_wp2_with fail
  refine (Open_any w0 Ab cb bs (hb.ch HC0.out (fun _ _ h => h)) (by omega)).mono ?_
  rintro e w1 ⟨g, A1, c1, rfl, r1, hg1, hA1, h1⟩
  have S1 : RSt W (w1.alloc (.cells #[] 5)) w1.heap.size g A1 c1 bs false (.slice (some ⟨w1.heap.size, 0, none⟩) 0 0) [] :=
    ⟨r1.ch ((Ch.refl No w1).alloc _) (fun h => h) (fun _ _ h => h), by simpa [ints] using OwnS.lit w1 w1.heap.size 5 [] (Nat.le_refl _) (by simp), (HC0.out.trans h1).alloc _, r1.lt, fun a ha => (hA1 a ha).2, by simp, Nat.le_trans HC0.out.size hg1⟩
  have HS1 := Lib.hid S1
  clear r1 hg1 hA1 h1 S1
  go_wp2_with fail
  clear HC0
  go_loopw [6, 8, 9, 10, 26] (fun got _ _ _ i wr => ∃ (pre post : List Int) (A2 : Option Addr) (c2 : Nat) (rd left : List Int), Hid (sizes = pre ++ post) ∧ i = .int .i64 pre.length ∧ Hid (bs = rd ++ left) ∧ Hid (RSt W wr w1.heap.size g A2 c2 left false got rd)) (fun _ _ _ _ i _ => sizes.length - (intOf i).toNat)
  case atStart => exact ⟨[], sizes, A1, c1, [], bs, rfl, rfl, rfl, HS1⟩
  case round =>
    clear HS1
    obtain ⟨pre, post, A2, c2, rd, left, hx, rfl, hbd, hst⟩ := hrel
    have hll : left.length ≤ 200 := by have := congrArg List.length hbd.out; simp at this; omega
    have hrl : rd.length ≤ 200 := by have := congrArg List.length hbd.out; simp at this; omega
    obtain ⟨G, cg, rfl, _⟩ := hst.out.own.slice_ints
    cases post with
    | nil =>
      obtain rfl : pre = sizes := by have := hx.out; simpa using this.symm
      obtain ⟨t1, t2, t3⟩ := tk_all (xs := left) rfl
      go_wp2_with fail
      have q := Rest_any wr g A2 c2 left false hst.out.rdr (by omega)
      unfold TakeP at q
      rw [t1, t2, t3] at q
      refine q.mono ?_
      rintro e w2 ⟨A3, c3, A4, c4, rfl, L3, b3, r4, hA4, h2⟩
      have S2 := hst.out.step r4 hA4 h2
      obtain ⟨G', cg', eg, Lg, _⟩ := S2.own.slice_ints
      obtain ⟨rfl, rfl⟩ : G = G' ∧ cg = cg' := by simpa using eg
      have HS2 := Lib.hid S2
      have HL3 := Lib.hid L3
      clear q t1 t2 t3 L3 b3 r4 hA4 h2 S2 eg Lg hst
      go_wp2_with (at_builtin; refine appI rfl _ _ 25 5 rfl .u8 0 1 Try.underlying25 u8info w1.heap.size G cg rd rfl HS2.out.own A3 c3 left rfl HL3.out ?hn ?hb ?hB ?_)
      case hn => simp [maxLen]; omega
      case hb => omega
      case hB => exact HS2.out.le
      intro A5 c5 w3 o5 h5 _
      have S3 := HS2.out.app (xs := left) (A1 := A5) (c1 := c5) (by simpa using o5) h5
      have HS3 := Lib.hid S3
      obtain ⟨A6, c6, e6, L6, _⟩ := o5.slice_ints
      obtain ⟨rfl, rfl⟩ : A5 = A6 ∧ c5 = c6 := by simpa using e6
      have qs := Same_any w3 A5 c5 (rd ++ left) Ab cb bs L6 (hb.ch S3.ch (fun _ _ h => h)) (fun x hx => hbb x (by rw [hbd.out]; exact hx)) hbb
      rw [← hbd.out] at qs
      simp only [decide_true] at qs
      have hlen : rd.length + left.length = bs.length := by rw [hbd.out]; simp
      have HQ := Lib.hid qs
      clear S3 o5 h5 e6 L6 qs HS2 HL3
      rw [hlen]
      go_wp2_with fail
      refine HQ.out.mono ?_
      rintro e w4 ⟨rfl, rfl⟩
      go_wp2_with fail
      refine (Left_any _ _ _ _ _ _ HS3.out.rdr).mono ?_
      rintro e w5 ⟨rfl, rfl⟩
      go_wp2_with fail
      go_ret
      exact ⟨rfl, HS3.out.ch⟩
    | cons n post =>
      have hlen : pre.length < sizes.length := by rw [hx.out]; simp
      obtain ⟨blk, off, rfl, hcx⟩ := (hs.ch hst.out.ch (fun _ _ h => h)).at hx.out
      have hn := hss n (by rw [hx.out]; simp)
      unfold wfI at hn
      have q := RRaw_any wr g A2 c2 left false hst.out.rdr n (by omega)
      go_wp2_with fail
      refine (Left_any wr g A2 c2 left false hst.out.rdr).mono ?_
      rintro e w2 ⟨rfl, rfl⟩
      go_wp2_with fail
      unfold TakeP at q
      by_cases hbig : (left.length : Int) < n
      · have t1 : tkB left false n.toNat = true := by simp [tkB]; omega
        have t2 : tkO left false n.toNat = [] := by simp [tkO, t1]
        have t3 : tkR left false n.toNat = left := by simp [tkR, t1]
        rw [t1, t2, t3] at q
        refine q.mono ?_
        rintro e w3 ⟨A3, c3, A4, c4, rfl, L3, b3, r4, hA4, h2⟩
        have HS2 := Lib.hid (hst.out.step r4 hA4 h2)
        clear q t1 t2 t3 L3 b3 r4 hA4 h2 hst
        go_wp2_with fail
        refine (Bad_any _ _ _ _ _ _ HS2.out.rdr).mono ?_
        rintro e w4 ⟨rfl, rfl⟩
        go_wp2_with fail
        refine (Left_any _ _ _ _ _ _ HS2.out.rdr).mono ?_
        rintro e w4 ⟨rfl, rfl⟩
        go_wp2_with fail
        have q2 := RRaw_any _ _ _ _ _ _ HS2.out.rdr 0 (by omega)
        unfold TakeP at q2
        rw [show tkB left true (Int.toNat 0) = true from rfl, show tkO left true (Int.toNat 0) = [] from rfl, show tkR left true (Int.toNat 0) = left from rfl] at q2
        refine q2.mono ?_
        rintro e w4 ⟨A5, c5, A6, c6, rfl, _, _, r6, hA6, h6⟩
        have HS3 := Lib.hid (HS2.out.step r6 hA6 h6)
        clear q2 r6 hA6 h6 HS2
        go_wp2_with fail
        have q3 := Get_any _ _ _ _ _ _ HS3.out.rdr (fun x hx => hbb x (by rw [hbd.out]; simp [hx])) 1
        unfold GetP at q3
        rw [show tkB left true (heldB 1) = true from rfl, show tkO left true (heldB 1) = [] from rfl, show tkR left true (heldB 1) = left from rfl, show getN [] = 0 from rfl] at q3
        refine q3.mono ?_
        rintro e w5 ⟨A7, c7, rfl, r7, hA7, h7⟩
        have HS4 := Lib.hid (HS3.out.step r7 hA7 h7)
        clear q3 r7 hA7 h7 HS3
        go_wp2_with fail
        have q4 := Rest_any _ _ _ _ _ _ HS4.out.rdr (by omega)
        unfold TakeP at q4
        rw [show tkB left true left.length = true from rfl, show tkO left true left.length = [] from rfl, show tkR left true left.length = left from rfl] at q4
        refine q4.mono ?_
        rintro e w6 ⟨A8, c8, A9, c9, rfl, _, _, r9, hA9, h9⟩
        have HS5 := Lib.hid (HS4.out.step r9 hA9 h9)
        clear q4 r9 hA9 h9 HS4
        go_wp2_with fail
        go_ret
        exact ⟨rfl, HS5.out.ch⟩
      · have t1 : tkB left false n.toNat = false := by simp [tkB]; omega
        have t2 : tkO left false n.toNat = left.take n.toNat := by simp [tkO, t1]
        have t3 : tkR left false n.toNat = left.drop n.toNat := by simp [tkR, t1]
        rw [t1, t2, t3] at q
        have tl : (left.take n.toNat).length = n.toNat := by rw [List.length_take]; omega
        have tr : (left.drop n.toNat).length = left.length - n.toNat := by rw [List.length_drop]
        have hjoin : bs = (rd ++ left.take n.toNat) ++ left.drop n.toNat := by rw [List.append_assoc, List.take_append_drop]; exact hbd.out
        obtain ⟨xs, hxs⟩ : ∃ xs, left.take n.toNat = xs := ⟨_, rfl⟩
        obtain ⟨l2, hl2⟩ : ∃ l2, left.drop n.toNat = l2 := ⟨_, rfl⟩
        rw [hxs, hl2] at q hjoin
        rw [hxs] at tl
        rw [hl2] at tr
        have HJ := Lib.hid hjoin
        clear hjoin hxs hl2 t1 t2 t3
        by_cases hn0 : n < 0
        · obtain rfl : xs = [] := List.eq_nil_of_length_eq_zero (by omega)
          have hll2 : l2.length = left.length := by omega
          clear tl tr
          refine q.mono ?_
          rintro e w3 ⟨A3, c3, A4, c4, rfl, L3, b3, r4, hA4, h2⟩
          have HS2 := Lib.hid (hst.out.step r4 hA4 h2)
          have HL3 := Lib.hid L3
          clear q L3 b3 r4 hA4 h2 hst
          go_wp2_with fail
          refine (Bad_any _ _ _ _ _ _ HS2.out.rdr).mono ?_
          rintro e w4 ⟨rfl, rfl⟩
          go_wp2_with fail
          refine (Left_any _ _ _ _ _ _ HS2.out.rdr).mono ?_
          rintro e w4 ⟨rfl, rfl⟩
          go_wp2_with (at_builtin; refine appI rfl _ _ 25 5 rfl .u8 0 1 Try.underlying25 u8info w1.heap.size G cg rd rfl HS2.out.own A3 c3 [] rfl HL3.out ?hn ?hb ?hB ?_)
          case hn => simp [maxLen]; omega
          case hb => simp; omega
          case hB => exact HS2.out.le
          intro A5 c5 w5 o5 h5 _
          have HS3 := Lib.hid (HS2.out.app (xs := []) (A1 := A5) (c1 := c5) (by simpa using o5) h5)
          clear o5 h5 HS2 HL3
          go_wp2_with fail
          go_roundw
          case rel => exact ⟨pre ++ [n], post, A4, c4, rd ++ [], l2, by rw [hx.out]; simp [Hid], by simp, HJ, by simpa using HS3⟩
          case measure => simp [intOf]; omega
        · obtain rfl : n = (xs.length : Int) := by omega
          have hll2 : l2.length + xs.length = left.length := by omega
          clear tl tr
          refine q.mono ?_
          rintro e w3 ⟨A3, c3, A4, c4, rfl, L3, b3, r4, hA4, h2⟩
          have HS2 := Lib.hid (hst.out.step r4 hA4 h2)
          have HL3 := Lib.hid L3
          clear q L3 b3 r4 hA4 h2 hst
          go_wp2_with fail
          refine (Bad_any _ _ _ _ _ _ HS2.out.rdr).mono ?_
          rintro e w4 ⟨rfl, rfl⟩
          go_wp2_with fail
          refine (Left_any _ _ _ _ _ _ HS2.out.rdr).mono ?_
          rintro e w4 ⟨rfl, rfl⟩
          go_wp2_with (at_builtin; refine appI rfl _ _ 25 5 rfl .u8 0 1 Try.underlying25 u8info w1.heap.size G cg rd rfl HS2.out.own A3 c3 xs rfl HL3.out ?hn ?hb ?hB ?_)
          case hn => simp [maxLen]; omega
          case hb => simp; omega
          case hB => exact HS2.out.le
          intro A5 c5 w5 o5 h5 _
          have HS3 := Lib.hid (HS2.out.app (xs := xs) (A1 := A5) (c1 := c5) (by simpa using o5) h5)
          clear o5 h5 HS2 HL3
          go_wp2_with fail
          go_roundw
          case rel => exact ⟨pre ++ [(xs.length : Int)], post, A4, c4, rd ++ xs, l2, by rw [hx.out]; simp [Hid], by simp, HJ, by simpa using HS3⟩
          case measure => simp [intOf]; omega

theorem octetRests_walk (W : World) (a0 : Option Addr) (cap0 : Nat) (xs0 : List Int) (a1 : Option Addr) (cap1 : Nat) (xs1 : List Int) (c0 : Cls W a0 (ints .u8 xs0)) (_l0 : xs0.length ≤ cap0) (b0 : xs0.length * 1 ≤ 140737488351232) (w0 : ∀ x ∈ xs0, (Lit.int .u8 x).wf = true)
    (c1 : Cls W a1 (ints .i64 xs1)) (_l1 : xs1.length ≤ cap1) (b1 : xs1.length * 8 ≤ 140737488351232) (w1 : ∀ x ∈ xs1, (Lit.int .i64 x).wf = true) :
    Calls Try.prog 8 #[.slice a0 xs0.length cap0, .slice a1 xs1.length cap1] W fun e w' => e = .returned (.bool true) ∧ Below W.heap.size W w' :=
  (octetRests_core W a0 cap0 xs0 a1 cap1 xs1 c0 c1 (fun x hx => by have := bounds_u8 (w0 x hx); unfold isB; omega) (fun x hx => by have := bounds_i64 (w1 x hx); unfold wfI; omega) (by omega) (by omega)).mono fun e w' ⟨h1, h2⟩ => ⟨h1, h2.same⟩
end Go.Proofs.Ytoaekfocfdcgiaa
