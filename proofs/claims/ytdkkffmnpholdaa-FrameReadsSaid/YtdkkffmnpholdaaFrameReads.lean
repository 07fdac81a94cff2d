/- FrameReads: of all bytes the first frame, all frames, and what is left, are as the document says: the walk. -/
import Derived.Test.YtdkkffmnpholdaaFrmAllR
import Derived.Test.YtdkkffmnpholdaaFrmSame
import Derived.Test.YtdkkffmnpholdaaFrmRef
import Derived.Test.YtdkkffmnpholdaaFrameWraps
import Derived.Test.YtdkkffmnpholdaaPert
import Derived.Deep.Cut
namespace Go.Proofs.Ytdkkffmnpholdaa
open Go.RowKit

theorem run_min2 (ts : Array TypeId) (t : TypeId) (a b : Int) (w : World) : (Builtin.min_ ts t #[.int .i64 a, .int .i64 b]).run Try.prog w = .ok (.int .i64 (if b < a then b else a)) w := by
  simp [Builtin.min_, Builtin.min2]
theorem and7 (n : Int) : ∃ r : Nat, r < 8 ∧ bits .and .i64 n 7 = r := by
  have h := i64_mask n 3 (by decide)
  have e : ((2 : Int) ^ 3 - 1) = 7 := rfl
  rw [e] at h
  refine ⟨(n % 8).toNat, by omega, ?_⟩
  rw [h]
  omega
theorem Bds.takeB {w : World} {O : Option Addr} {bs : List (List Int)} (h : Bds w O bs) (n : Nat) : Bds w O (bs.take n) := by
  obtain ⟨ps, h1, h2, h3⟩ := h
  refine ⟨ps.take n, by rw [List.map_take, h1], ?_, fun p hp => h3 p (List.mem_of_mem_take hp)⟩
  rw [List.map_take]
  exact h2.takeI n
theorem cls_lt {w : World} {A : Option Addr} {xs : List Int} (h : Cls w A (ints .u8 xs)) : xs ≠ [] → ∀ ad, A = some ad → ad.block < w.heap.size := by
  intro hne ad hd
  cases xs with
  | nil => exact absurd rfl hne
  | cons x xs =>
    obtain ⟨b, off, hA, hc⟩ := h [] (.int .u8 x) (ints .u8 xs) rfl
    rw [hd] at hA
    cases hA
    exact World.block_lt_of_cell? _ _ hc
/-- what lies there while the answers are held against each other -/
structure Frd (W : World) (A B1 R1 B2 R2 L1 L2 O1 O2 : Option Addr) (xs nb nr l : List Int) (bs : List (List Int)) (w : World) : Prop where
  hx : Cls w A (ints .u8 xs)
  b1 : Cls w B1 (ints .u8 nb)
  r1 : Cls w R1 (ints .u8 nr)
  b2 : Cls w B2 (ints .u8 nb)
  r2 : Cls w R2 (ints .u8 nr)
  l1 : Cls w L1 (ints .u8 l)
  l2 : Cls w L2 (ints .u8 l)
  o1 : Bds w O1 bs
  o2 : Bds w O2 bs
  ch : Ch No W w
theorem Frd.no {W : World} {A B1 R1 B2 R2 L1 L2 O1 O2 : Option Addr} {xs nb nr l : List Int} {bs : List (List Int)} {w w' : World} (h : Frd W A B1 R1 B2 R2 L1 L2 O1 O2 xs nb nr l bs w) (hc : Ch No w w') : Frd W A B1 R1 B2 R2 L1 L2 O1 O2 xs nb nr l bs w' :=
  ⟨h.hx.ch hc (fun _ _ h => h), h.b1.ch hc (fun _ _ h => h), h.r1.ch hc (fun _ _ h => h), h.b2.ch hc (fun _ _ h => h), h.r2.ch hc (fun _ _ h => h), h.l1.ch hc (fun _ _ h => h), h.l2.ch hc (fun _ _ h => h), h.o1.no hc, h.o2.no hc, h.ch.trans hc⟩

set_option maxHeartbeats 8000000 in
set_option maxRecDepth 100000 in
theorem frameReads_core (W : World) (A : Option Addr) (c : Nat) (xs : List Int) (most : Int) (hx : Cls W A (ints .u8 xs)) (hb : ∀ x ∈ xs, isB x) (hc : xs.length ≤ c) (hxl : xs.length ≤ 140737488351232) :
    Calls Try.prog 3 #[.slice A xs.length c, .int .i64 most] W fun e w' => e = .returned (.bool true) ∧ Ch No W w' := by
  have al := fun w => frmAlive_any w
  obtain ⟨N, hN⟩ : ∃ N, xs.length = N := ⟨_, rfl⟩
  by_cases h3 : 3000 < N
  · rw [hN] at hxl ⊢
    clear hx hb hc hN
    go_enter Try.func3, Try.ntmps3
    go_wp2_with fail
    refine (al _).mono ?_
    rintro e w1 ⟨rfl, h1⟩
    have H1 := Lib.hid h1
    clear h1 al
    go_wp2_with fail
    go_ret
    exact ⟨rfl, H1.out⟩
  obtain ⟨bs, l, er, hs⟩ := spl_all xs
  obtain ⟨hs1, hs2, hs3⟩ := spl_len hs
  obtain ⟨m0, l0⟩ := spl_mem hs isB hb
  obtain ⟨m, hm8, hme⟩ := and7 most
  have K1 := fun w (h : Cls w A (ints .u8 xs)) => FNext_any w A c xs h hb (by omega)
  have K2 := fun w (h : Cls w A (ints .u8 xs)) => FRNext_any w A c xs h hb hc (by omega)
  have K3 := fun w (h : Cls w A (ints .u8 xs)) => FSplit_any w A c xs bs l er hs h hb (by omega)
  have K4 := fun w (h : Cls w A (ints .u8 xs)) => FRSplit_any w A c xs bs l er hs h hb hc (cls_lt h) (by omega)
  have K5 := fun w (h : Cls w A (ints .u8 xs)) k => fallR_any w A c xs bs l er hs h hb (by omega) k
  obtain ⟨k, hk⟩ : ∃ k : Nat, min m bs.length = k := ⟨_, rfl⟩
  have hkl : k ≤ bs.length := by omega
  have hmin : ∀ (ts : Array TypeId) (t : TypeId) (w : World), (Builtin.min_ ts t #[.int .i64 m, .int .i64 bs.length]).run Try.prog w = .ok (.int .i64 k) w := fun ts t w => by
    rw [run_min2]
    congr 2
    split <;> omega
  have htm : bs.take m = bs.take k := by
    rw [← hk]
    by_cases h : m ≤ bs.length
    · rw [Nat.min_eq_left h]
    · rw [Nat.min_eq_right (by omega), List.take_of_length_le (by omega), List.take_of_length_le (Nat.le_refl _)]
  have ht1 : bs.take 10000 = bs := List.take_of_length_le (by omega)
  have htl : (bs.take k).length = k := by rw [List.length_take]; omega
  have hnx : (∀ x ∈ (nxt xs).body, isB x) ∧ (∀ x ∈ (nxt xs).rest, isB x) := by
    cases h : nxt xs with
    | short => exact ⟨by simp [Nx.body], by simp [Nx.rest]⟩
    | long => exact ⟨by simp [Nx.body], by simp [Nx.rest]⟩
    | ok b r => exact nxt_mem h isB hb
  have hE0 : (nxt xs).err = 0 ∨ (nxt xs).err = 2 ∨ (nxt xs).err = 20 := by cases nxt xs <;> simp [Nx.err]
  unfold NextP at K1
  unfold RNextP at K2
  unfold SplitP at K3
  unfold RSplitP at K4
  generalize (nxt xs).body = nb at *
  generalize (nxt xs).rest = nr at *
  generalize (nxt xs).err = ne at *
  have S1 := fun w A1 c1 A2 c2 h1 h2 => Same_any w A1 c1 nb A2 c2 nb h1 h2 hnx.1 hnx.1
  have S2 := fun w A1 c1 A2 c2 h1 h2 => Same_any w A1 c1 nr A2 c2 nr h1 h2 hnx.2 hnx.2
  have S3 := fun w A1 c1 A2 c2 h1 h2 => Same_any w A1 c1 l A2 c2 l h1 h2 l0 l0
  have S4 := fun w O1 c1 O2 c2 h1 h2 => FSame_any w O1 c1 bs O2 c2 bs h1 h2 m0 m0 (by omega)
  have mk : ∀ b ∈ bs.take k, ∀ x ∈ b, isB x := fun b hb => m0 b (List.mem_of_mem_take hb)
  have S5 := fun w O1 c1 O2 c2 h1 h2 => FSame_any w O1 c1 (bs.take k) O2 c2 (bs.take k) h1 h2 mk mk (by omega)
  rw [htl] at S5
  simp only [decide_true] at S1 S2 S3 S4 S5
  have K6 : ∀ w, Cls w A (ints .u8 xs) → Calls Try.prog 16 #[.slice A xs.length c, .int .i64 10000] w fun e w' => ∃ O co, e = .returned (.slice O bs.length co) ∧ Bds w' O bs ∧ Ch No w w' := fun w h => by
    refine (K5 w h 10000).mono ?_
    rintro e w' ⟨v, ps, rfl, h1, h2, h3, h4⟩
    rw [show (10000 : Int).toNat = 10000 from rfl, ht1] at h1
    obtain ⟨O, co, rfl, h5, _⟩ := h2.slice
    exact ⟨O, co, by rw [← h1]; simp, ⟨ps, h1, h5, fun p hp => (h3 p hp).1⟩, h4⟩
  have K7 : ∀ w, Cls w A (ints .u8 xs) → Calls Try.prog 16 #[.slice A xs.length c, .int .i64 m] w fun e w' => ∃ O co, e = .returned (.slice O k co) ∧ Bds w' O (bs.take k) ∧ Ch No w w' := fun w h => by
    refine (K5 w h m).mono ?_
    rintro e w' ⟨v, ps, rfl, h1, h2, h3, h4⟩
    rw [Int.toNat_natCast, htm] at h1
    obtain ⟨O, co, rfl, h5, _⟩ := h2.slice
    refine ⟨O, co, ?_, ⟨ps, h1, h5, fun p hp => (h3 p hp).1⟩, h4⟩
    rw [List.length_map, show ps.length = k from by rw [← htl, ← h1]; simp]
  obtain ⟨M, hM⟩ : ∃ M, bs.length = M := ⟨_, rfl⟩
  have HX := Lib.hid hx
  have HK := Lib.hid (And.intro K1 (And.intro K2 (And.intro K3 (And.intro K4 (And.intro K6 K7)))))
  replace S1 := fun w A1 c1 A2 c2 h1 h2 => (S1 w A1 c1 A2 c2 h1 h2).mono (R' := fun e w' => e = .returned (.bool true) ∧ Ch No w w') (fun e w' h => ⟨h.1, h.2 ▸ Ch.refl No w⟩)
  replace S2 := fun w A1 c1 A2 c2 h1 h2 => (S2 w A1 c1 A2 c2 h1 h2).mono (R' := fun e w' => e = .returned (.bool true) ∧ Ch No w w') (fun e w' h => ⟨h.1, h.2 ▸ Ch.refl No w⟩)
  replace S3 := fun w A1 c1 A2 c2 h1 h2 => (S3 w A1 c1 A2 c2 h1 h2).mono (R' := fun e w' => e = .returned (.bool true) ∧ Ch No w w') (fun e w' h => ⟨h.1, h.2 ▸ Ch.refl No w⟩)
  have HSm := Lib.hid (And.intro S1 (And.intro S2 (And.intro S3 (And.intro S4 S5))))
  rw [hN, hM] at HK
  rw [hM] at hkl hmin HSm
  rw [hN] at hxl ⊢
  clear K1 K2 K3 K4 K5 K6 K7 S1 S2 S3 S4 S5 hx hb hs m0 l0 mk hnx htm ht1 htl hs1 hs2 hs3 hE0 hk hN hM
  go_enter Try.func3, Try.ntmps3
  go_wp2_with fail
  refine (al _).mono ?_
  rintro e w1 ⟨rfl, h1⟩
  have H1 := Lib.hid (And.intro (HX.out.ch h1 (fun _ _ h => h)) h1)
  clear h1 al
  go_wp2_with fail
  refine (HK.out.1 _ H1.out.1).mono ?_
  rintro e w2 ⟨B1, c1, R1, d1, rfl, s1, s2, _, _, _, _, h2⟩
  have H2 := Lib.hid (And.intro s1 (And.intro s2 (And.intro (H1.out.1.ch h2 (fun _ _ h => h)) (H1.out.2.trans h2))))
  clear s1 s2 h2 H1
  go_wp2_with fail
  refine (HK.out.2.1 _ H2.out.2.2.1).mono ?_
  rintro e w3 ⟨B2, c2, R2, d2, rfl, s1, s2, _, _, _, _, h3⟩
  have H3 := Lib.hid (And.intro s1 (And.intro s2 (And.intro (H2.out.1.ch h3 (fun _ _ h => h)) (And.intro (H2.out.2.1.ch h3 (fun _ _ h => h)) (And.intro (H2.out.2.2.1.ch h3 (fun _ _ h => h)) (H2.out.2.2.2.trans h3))))))
  clear s1 s2 h3 H2
  go_wp2_with fail
  refine (HK.out.2.2.1 _ H3.out.2.2.2.2.1).mono ?_
  rintro e w4 ⟨O1, co1, L1, cl1, rfl, s1, s2, h4⟩
  have H4 := Lib.hid (And.intro s1 (And.intro s2 (And.intro h4 (H3.out.2.2.2.2.1.ch h4 (fun _ _ h => h)))))
  clear s1 s2 h4
  go_wp2_with fail
  refine (HK.out.2.2.2.1 _ H4.out.2.2.2).mono ?_
  rintro e w5 ⟨O2, co2, L2, cl2, rfl, s1, s2, hco, h5⟩
  have F5 : Hid (Frd W A B1 R1 B2 R2 L1 L2 O1 O2 xs nb nr l bs w5) := Lib.hid (by
    obtain ⟨t1, t2, t3, t4, t5, t6⟩ := H3.out
    obtain ⟨u1, u2, u3, u4⟩ := H4.out
    exact ⟨u4.ch h5 (fun _ _ h => h), (t3.ch u3 (fun _ _ h => h)).ch h5 (fun _ _ h => h), (t4.ch u3 (fun _ _ h => h)).ch h5 (fun _ _ h => h), (t1.ch u3 (fun _ _ h => h)).ch h5 (fun _ _ h => h), (t2.ch u3 (fun _ _ h => h)).ch h5 (fun _ _ h => h), u2.ch h5 (fun _ _ h => h), s2, u1.no h5, s1, (t6.trans u3).trans h5⟩)
  clear s1 s2 h5 H3 H4
  have hkc : k ≤ co2 := by omega
  go_upto_region 10 with fail
  refine region_pert (T := Frd W A B1 R1 B2 R2 L1 L2 O1 O2 xs nb nr l bs) (s := 44) (by kernel_rfl) (fun hT => ?_) (F5.out.no (Ch.refl No w5).drew)
  clear F5
  generalize w5.drew = wd at *
  refine wpP_take [44] (i := 0) (v := ?v0) rfl (by kernel_rfl) (by kernel_rfl) (by kernel_rfl) (fun w w' h hc => h.no hc) (fun _ _ _ h => by cases h.1) _ _ _ _ (by kernel_rfl) (by kernel_rfl) (by kernel_rfl) (Or.inl ⟨by kernel_rfl, fun w' hw' => ?y0⟩) hT ?r0
  case y0 =>
    go_simp
    all_goals first | exact quiet_value | exact ⟨rfl, Ch.refl _ _⟩
  case r0 =>
    simp only [Act.put]
    refine wpP_take [44] (i := 1) (v := ?v1) rfl (by kernel_rfl) (by kernel_rfl) (by kernel_rfl) (fun w w' h hc => h.no hc) (fun _ _ _ h => by cases h.1) _ _ _ _ (by kernel_rfl) (by kernel_rfl) (by kernel_rfl) (Or.inl ⟨by kernel_rfl, fun w' hw' => ?y1⟩) hT ?r1
    case y1 =>
      go_simp
      all_goals first | exact quiet_value | exact ⟨rfl, Ch.refl _ _⟩
    case r1 =>
      simp only [Act.put]
      refine wpP_take [44] (i := 2) (v := .bool true) rfl (by kernel_rfl) (by kernel_rfl) (by kernel_rfl) (fun w w' h hc => h.no hc) (fun _ _ _ h => by cases h.1) _ _ _ _ (by kernel_rfl) (by kernel_rfl) (by kernel_rfl) (Or.inl ⟨by kernel_rfl, fun w' hw' => ?y2⟩) hT ?r2
      case y2 =>
        go_simp
        all_goals first | exact quiet_value | exact ⟨rfl, Ch.refl _ _⟩
      case r2 =>
        simp only [Act.put]
        refine wpP_take [44] (i := 3) (v := .bool true) rfl (by kernel_rfl) (by kernel_rfl) (by kernel_rfl) (fun w w' h hc => h.no hc) (fun _ _ _ h => by cases h.1) _ _ _ _ (by kernel_rfl) (by kernel_rfl) (by kernel_rfl) (Or.inl ⟨by kernel_rfl, fun w' hw' => ?y3⟩) hT ?r3
        case y3 =>
          go_simp
          all_goals first | exact quiet_value | exact ⟨rfl, Ch.refl _ _⟩
        case r3 =>
          simp only [Act.put]
          refine wpP_take [44] (i := 4) (v := ?v4) rfl (by kernel_rfl) (by kernel_rfl) (by kernel_rfl) (fun w w' h hc => h.no hc) (fun _ _ _ h => by cases h.1) _ _ _ _ (by kernel_rfl) (by kernel_rfl) (by kernel_rfl) (Or.inl ⟨by kernel_rfl, fun w' hw' => ?y4⟩) hT ?r4
          case y4 =>
            go_simp
            all_goals first | exact quiet_value | exact ⟨rfl, Ch.refl _ _⟩
          case r4 =>
            simp only [Act.put]
            refine wpP_take [44] (i := 5) (v := ?v5) rfl (by kernel_rfl) (by kernel_rfl) (by kernel_rfl) (fun w w' h hc => h.no hc) (fun _ _ _ h => by cases h.1) _ _ _ _ (by kernel_rfl) (by kernel_rfl) (by kernel_rfl) (Or.inl ⟨by kernel_rfl, fun w' hw' => ?y5⟩) hT ?r5
            case y5 =>
              go_simp
              all_goals first | exact quiet_value | exact ⟨rfl, Ch.refl _ _⟩
            case r5 =>
              simp only [Act.put]
              refine wpP_take [44] (i := 6) (v := .bool true) rfl (by kernel_rfl) (by kernel_rfl) (by kernel_rfl) (fun w w' h hc => h.no hc) (fun _ _ _ h => by cases h.1) _ _ _ _ (by kernel_rfl) (by kernel_rfl) (by kernel_rfl) (Or.inl ⟨by kernel_rfl, fun w' hw' => ?y6⟩) hT ?r6
              case y6 =>
                go_simp
                exact quiet_enter (HSm.out.1 _ _ _ _ _ hw'.b1 hw'.b2)
              case r6 =>
                simp only [Act.put]
                refine wpP_take [44] (i := 7) (v := .bool true) rfl (by kernel_rfl) (by kernel_rfl) (by kernel_rfl) (fun w w' h hc => h.no hc) (fun _ _ _ h => by cases h.1) _ _ _ _ (by kernel_rfl) (by kernel_rfl) (by kernel_rfl) (Or.inl ⟨by kernel_rfl, fun w' hw' => ?y7⟩) hT ?r7
                case y7 =>
                  go_simp
                  all_goals first | exact quiet_value | exact ⟨rfl, Ch.refl _ _⟩
                case r7 =>
                  simp only [Act.put]
                  refine wpP_take [44] (i := 8) (v := .bool true) rfl (by kernel_rfl) (by kernel_rfl) (by kernel_rfl) (fun w w' h hc => h.no hc) (fun _ _ _ h => by cases h.1) _ _ _ _ (by kernel_rfl) (by kernel_rfl) (by kernel_rfl) (Or.inl ⟨by kernel_rfl, fun w' hw' => ?y8⟩) hT ?r8
                  case y8 =>
                    go_simp
                    all_goals first | exact quiet_value | exact ⟨rfl, Ch.refl _ _⟩
                  case r8 =>
                    simp only [Act.put]
                    refine wpP_take [44] (i := 9) (v := ?v9) rfl (by kernel_rfl) (by kernel_rfl) (by kernel_rfl) (fun w w' h hc => h.no hc) (fun _ _ _ h => by cases h.1) _ _ _ _ (by kernel_rfl) (by kernel_rfl) (by kernel_rfl) (Or.inl ⟨by kernel_rfl, fun w' hw' => ?y9⟩) hT ?r9
                    case y9 =>
                      go_simp
                      all_goals first | exact quiet_value | exact ⟨rfl, Ch.refl _ _⟩
                    case r9 =>
                      simp only [Act.put]
                      refine wpP_take [44] (i := 10) (v := ?v10) rfl (by kernel_rfl) (by kernel_rfl) (by kernel_rfl) (fun w w' h hc => h.no hc) (fun _ _ _ h => by cases h.1) _ _ _ _ (by kernel_rfl) (by kernel_rfl) (by kernel_rfl) (Or.inl ⟨by kernel_rfl, fun w' hw' => ?y10⟩) hT ?r10
                      case y10 =>
                        go_simp
                        all_goals first | exact quiet_value | exact ⟨rfl, Ch.refl _ _⟩
                      case r10 =>
                        simp only [Act.put]
                        refine wpP_take [44] (i := 11) (v := .bool true) rfl (by kernel_rfl) (by kernel_rfl) (by kernel_rfl) (fun w w' h hc => h.no hc) (fun _ _ _ h => by cases h.1) _ _ _ _ (by kernel_rfl) (by kernel_rfl) (by kernel_rfl) (Or.inl ⟨by kernel_rfl, fun w' hw' => ?y11⟩) hT ?r11
                        case y11 =>
                          go_simp
                          exact quiet_enter (HSm.out.2.1 _ _ _ _ _ hw'.r1 hw'.r2)
                        case r11 =>
                          simp only [Act.put]
                          refine wpP_take [44] (i := 12) (v := .bool true) rfl (by kernel_rfl) (by kernel_rfl) (by kernel_rfl) (fun w w' h hc => h.no hc) (fun _ _ _ h => by cases h.1) _ _ _ _ (by kernel_rfl) (by kernel_rfl) (by kernel_rfl) (Or.inl ⟨by kernel_rfl, fun w' hw' => ?y12⟩) hT ?r12
                          case y12 =>
                            go_simp
                            all_goals first | exact quiet_value | exact ⟨rfl, Ch.refl _ _⟩
                          case r12 =>
                            simp only [Act.put]
                            refine wpP_take [44] (i := 13) (v := .bool true) rfl (by kernel_rfl) (by kernel_rfl) (by kernel_rfl) (fun w w' h hc => h.no hc) (fun _ _ _ h => by cases h.1) _ _ _ _ (by kernel_rfl) (by kernel_rfl) (by kernel_rfl) (Or.inl ⟨by kernel_rfl, fun w' hw' => ?y13⟩) hT ?r13
                            case y13 =>
                              go_simp
                              all_goals first | exact quiet_value | exact ⟨rfl, Ch.refl _ _⟩
                            case r13 =>
                              simp only [Act.put]
                              refine wpP_take [44] (i := 14) (v := ?v14) rfl (by kernel_rfl) (by kernel_rfl) (by kernel_rfl) (fun w w' h hc => h.no hc) (fun _ _ _ h => by cases h.1) _ _ _ _ (by kernel_rfl) (by kernel_rfl) (by kernel_rfl) (Or.inl ⟨by kernel_rfl, fun w' hw' => ?y14⟩) hT ?r14
                              case y14 =>
                                go_simp
                                all_goals first | exact quiet_value | exact ⟨rfl, Ch.refl _ _⟩
                              case r14 =>
                                simp only [Act.put]
                                refine wpP_take [44] (i := 15) (v := ?v15) rfl (by kernel_rfl) (by kernel_rfl) (by kernel_rfl) (fun w w' h hc => h.no hc) (fun _ _ _ h => by cases h.1) _ _ _ _ (by kernel_rfl) (by kernel_rfl) (by kernel_rfl) (Or.inl ⟨by kernel_rfl, fun w' hw' => ?y15⟩) hT ?r15
                                case y15 =>
                                  go_simp
                                  all_goals first | exact quiet_value | exact ⟨rfl, Ch.refl _ _⟩
                                case r15 =>
                                  simp only [Act.put]
                                  refine wpP_take [44] (i := 16) (v := .bool true) rfl (by kernel_rfl) (by kernel_rfl) (by kernel_rfl) (fun w w' h hc => h.no hc) (fun _ _ _ h => by cases h.1) _ _ _ _ (by kernel_rfl) (by kernel_rfl) (by kernel_rfl) (Or.inl ⟨by kernel_rfl, fun w' hw' => ?y16⟩) hT ?r16
                                  case y16 =>
                                    go_simp
                                    all_goals first | exact quiet_value | exact ⟨rfl, Ch.refl _ _⟩
                                  case r16 =>
                                    simp only [Act.put]
                                    refine wpP_take [44] (i := 17) (v := .bool true) rfl (by kernel_rfl) (by kernel_rfl) (by kernel_rfl) (fun w w' h hc => h.no hc) (fun _ _ _ h => by cases h.1) _ _ _ _ (by kernel_rfl) (by kernel_rfl) (by kernel_rfl) (Or.inl ⟨by kernel_rfl, fun w' hw' => ?y17⟩) hT ?r17
                                    case y17 =>
                                      go_simp
                                      all_goals first | exact quiet_value | exact ⟨rfl, Ch.refl _ _⟩
                                    case r17 =>
                                      simp only [Act.put]
                                      refine wpP_take [44] (i := 18) (v := .bool true) rfl (by kernel_rfl) (by kernel_rfl) (by kernel_rfl) (fun w w' h hc => h.no hc) (fun _ _ _ h => by cases h.1) _ _ _ _ (by kernel_rfl) (by kernel_rfl) (by kernel_rfl) (Or.inl ⟨by kernel_rfl, fun w' hw' => ?y18⟩) hT ?r18
                                      case y18 =>
                                        go_simp
                                        all_goals first | exact quiet_value | exact ⟨rfl, Ch.refl _ _⟩
                                      case r18 =>
                                        simp only [Act.put]
                                        refine wpP_take [44] (i := 19) (v := ?v19) rfl (by kernel_rfl) (by kernel_rfl) (by kernel_rfl) (fun w w' h hc => h.no hc) (fun _ _ _ h => by cases h.1) _ _ _ _ (by kernel_rfl) (by kernel_rfl) (by kernel_rfl) (Or.inl ⟨by kernel_rfl, fun w' hw' => ?y19⟩) hT ?r19
                                        case y19 =>
                                          go_simp
                                          all_goals first | exact quiet_value | exact ⟨rfl, Ch.refl _ _⟩
                                        case r19 =>
                                          simp only [Act.put]
                                          refine wpP_take [44] (i := 20) (v := ?v20) rfl (by kernel_rfl) (by kernel_rfl) (by kernel_rfl) (fun w w' h hc => h.no hc) (fun _ _ _ h => by cases h.1) _ _ _ _ (by kernel_rfl) (by kernel_rfl) (by kernel_rfl) (Or.inl ⟨by kernel_rfl, fun w' hw' => ?y20⟩) hT ?r20
                                          case y20 =>
                                            go_simp
                                            all_goals first | exact quiet_value | exact ⟨rfl, Ch.refl _ _⟩
                                          case r20 =>
                                            simp only [Act.put]
                                            refine wpP_take [44] (i := 21) (v := .bool true) rfl (by kernel_rfl) (by kernel_rfl) (by kernel_rfl) (fun w w' h hc => h.no hc) (fun _ _ _ h => by cases h.1) _ _ _ _ (by kernel_rfl) (by kernel_rfl) (by kernel_rfl) (Or.inl ⟨by kernel_rfl, fun w' hw' => ?y21⟩) hT ?r21
                                            case y21 =>
                                              go_simp
                                              exact quiet_enter (HSm.out.2.2.2.1 _ _ _ _ _ hw'.o1 hw'.o2)
                                            case r21 =>
                                              simp only [Act.put]
                                              refine wpP_take [44] (i := 22) (v := .bool true) rfl (by kernel_rfl) (by kernel_rfl) (by kernel_rfl) (fun w w' h hc => h.no hc) (fun _ _ _ h => by cases h.1) _ _ _ _ (by kernel_rfl) (by kernel_rfl) (by kernel_rfl) (Or.inl ⟨by kernel_rfl, fun w' hw' => ?y22⟩) hT ?r22
                                              case y22 =>
                                                go_simp
                                                all_goals first | exact quiet_value | exact ⟨rfl, Ch.refl _ _⟩
                                              case r22 =>
                                                simp only [Act.put]
                                                refine wpP_take [44] (i := 23) (v := .bool true) rfl (by kernel_rfl) (by kernel_rfl) (by kernel_rfl) (fun w w' h hc => h.no hc) (fun _ _ _ h => by cases h.1) _ _ _ _ (by kernel_rfl) (by kernel_rfl) (by kernel_rfl) (Or.inl ⟨by kernel_rfl, fun w' hw' => ?y23⟩) hT ?r23
                                                case y23 =>
                                                  go_simp
                                                  all_goals first | exact quiet_value | exact ⟨rfl, Ch.refl _ _⟩
                                                case r23 =>
                                                  simp only [Act.put]
                                                  refine wpP_take [44] (i := 24) (v := ?v24) rfl (by kernel_rfl) (by kernel_rfl) (by kernel_rfl) (fun w w' h hc => h.no hc) (fun _ _ _ h => by cases h.1) _ _ _ _ (by kernel_rfl) (by kernel_rfl) (by kernel_rfl) (Or.inl ⟨by kernel_rfl, fun w' hw' => ?y24⟩) hT ?r24
                                                  case y24 =>
                                                    go_simp
                                                    all_goals first | exact quiet_value | exact ⟨rfl, Ch.refl _ _⟩
                                                  case r24 =>
                                                    simp only [Act.put]
                                                    refine wpP_take [44] (i := 25) (v := ?v25) rfl (by kernel_rfl) (by kernel_rfl) (by kernel_rfl) (fun w w' h hc => h.no hc) (fun _ _ _ h => by cases h.1) _ _ _ _ (by kernel_rfl) (by kernel_rfl) (by kernel_rfl) (Or.inl ⟨by kernel_rfl, fun w' hw' => ?y25⟩) hT ?r25
                                                    case y25 =>
                                                      go_simp
                                                      all_goals first | exact quiet_value | exact ⟨rfl, Ch.refl _ _⟩
                                                    case r25 =>
                                                      simp only [Act.put]
                                                      refine wpP_take [44] (i := 26) (v := .bool true) rfl (by kernel_rfl) (by kernel_rfl) (by kernel_rfl) (fun w w' h hc => h.no hc) (fun _ _ _ h => by cases h.1) _ _ _ _ (by kernel_rfl) (by kernel_rfl) (by kernel_rfl) (Or.inl ⟨by kernel_rfl, fun w' hw' => ?y26⟩) hT ?r26
                                                      case y26 =>
                                                        go_simp
                                                        exact quiet_enter (HSm.out.2.2.1 _ _ _ _ _ hw'.l1 hw'.l2)
                                                      case r26 =>
                                                        simp only [Act.put]
                                                        refine wpP_take [44] (i := 27) (v := .bool true) rfl (by kernel_rfl) (by kernel_rfl) (by kernel_rfl) (fun w w' h hc => h.no hc) (fun _ _ _ h => by cases h.1) _ _ _ _ (by kernel_rfl) (by kernel_rfl) (by kernel_rfl) (Or.inl ⟨by kernel_rfl, fun w' hw' => ?y27⟩) hT ?r27
                                                        case y27 =>
                                                          go_simp
                                                          all_goals first | exact quiet_value | exact ⟨rfl, Ch.refl _ _⟩
                                                        case r27 =>
                                                          simp only [Act.put]
                                                          refine wpP_take [44] (i := 28) (v := .bool true) rfl (by kernel_rfl) (by kernel_rfl) (by kernel_rfl) (fun w w' h hc => h.no hc) (fun _ _ _ h => by cases h.1) _ _ _ _ (by kernel_rfl) (by kernel_rfl) (by kernel_rfl) (Or.inl ⟨by kernel_rfl, fun w' hw' => ?y28⟩) hT ?r28
                                                          case y28 =>
                                                            go_simp
                                                            all_goals first | exact quiet_value | exact ⟨rfl, Ch.refl _ _⟩
                                                          case r28 =>
                                                            simp only [Act.put]
                                                            refine wpP_take [44] (i := 29) (v := ?v29) rfl (by kernel_rfl) (by kernel_rfl) (by kernel_rfl) (fun w w' h hc => h.no hc) (fun _ _ _ h => by cases h.1) _ _ _ _ (by kernel_rfl) (by kernel_rfl) (by kernel_rfl) (Or.inl ⟨by kernel_rfl, fun w' hw' => ?y29⟩) hT ?r29
                                                            case y29 =>
                                                              go_simp
                                                              all_goals first | exact quiet_value | exact ⟨rfl, Ch.refl _ _⟩
                                                            case r29 =>
                                                              simp only [Act.put]
                                                              refine wpP_take [44] (i := 31) (v := ?v31) rfl (by kernel_rfl) (by kernel_rfl) (by kernel_rfl) (fun w w' h hc => h.no hc) (fun _ _ _ h => by cases h.1) _ _ _ _ (by kernel_rfl) (by kernel_rfl) (by kernel_rfl) (Or.inl ⟨by kernel_rfl, fun w' hw' => ?y31⟩) hT ?r31
                                                              case y31 =>
                                                                go_simp
                                                                all_goals first | exact quiet_value | exact ⟨rfl, Ch.refl _ _⟩
                                                              case r31 =>
                                                                simp only [Act.put]
                                                                refine wpP_1 (i := 30) rfl (by kernel_rfl) (fun u6 hu6 K hK => ?_)
                                                                go_simp
                                                                go_at_call 16
                                                                refine (HK.out.2.2.2.2.1 _ (hT.no hu6).hx).mono ?_
                                                                rintro e w7 ⟨O7, co7, rfl, s7, h7⟩
                                                                have G7 := Lib.hid (And.intro s7 ((hT.no hu6).no h7))
                                                                clear s7 h7 hu6 hT
                                                                go_simp
                                                                refine hK.out _ _ (fun _ => G7.out.2) ?_
                                                                clear hK K
                                                                try simp only [Act.put]
                                                                refine wpP_1 (i := 32) rfl (by kernel_rfl) (fun u7 hu7 K hK => ?_)
                                                                go_simp
                                                                go_at_call 15
                                                                refine (HSm.out.2.2.2.1 _ _ _ _ _ (G7.out.1.no hu7) (G7.out.2.no hu7).o2).mono ?_
                                                                rintro e w8 ⟨rfl, h8⟩
                                                                have hT := (G7.out.2.no hu7).no h8
                                                                clear h8 hu7 G7
                                                                go_simp
                                                                refine hK.out _ _ (fun _ => hT) ?_
                                                                clear hK K
                                                                try simp only [Act.put]
                                                                refine wpP_take [44] (i := 33) (v := .bool true) rfl (by kernel_rfl) (by kernel_rfl) (by kernel_rfl) (fun w w' h hc => h.no hc) (fun _ _ _ h => by cases h.1) _ _ _ _ (by kernel_rfl) (by kernel_rfl) (by kernel_rfl) (Or.inl ⟨by kernel_rfl, fun w' hw' => ?y33⟩) hT ?r33
                                                                case y33 =>
                                                                  go_simp
                                                                  all_goals first | exact quiet_value | exact ⟨rfl, Ch.refl _ _⟩
                                                                case r33 =>
                                                                  simp only [Act.put]
                                                                  refine wpP_take [44] (i := 34) (v := .bool true) rfl (by kernel_rfl) (by kernel_rfl) (by kernel_rfl) (fun w w' h hc => h.no hc) (fun _ _ _ h => by cases h.1) _ _ _ _ (by kernel_rfl) (by kernel_rfl) (by kernel_rfl) (Or.inl ⟨by kernel_rfl, fun w' hw' => ?y34⟩) hT ?r34
                                                                  case y34 =>
                                                                    go_simp
                                                                    all_goals first | exact quiet_value | exact ⟨rfl, Ch.refl _ _⟩
                                                                  case r34 =>
                                                                    simp only [Act.put]
                                                                    refine wpP_take [44] (i := 35) (v := ?v35) rfl (by kernel_rfl) (by kernel_rfl) (by kernel_rfl) (fun w w' h hc => h.no hc) (fun _ _ _ h => by cases h.1) _ _ _ _ (by kernel_rfl) (by kernel_rfl) (by kernel_rfl) (Or.inl ⟨by kernel_rfl, fun w' hw' => ?y35⟩) hT ?r35
                                                                    case y35 =>
                                                                      go_simp
                                                                      all_goals first | exact quiet_value | exact ⟨rfl, Ch.refl _ _⟩
                                                                    case r35 =>
                                                                      simp only [Act.put]
                                                                      refine wpP_take [44] (i := 36) (v := ?v36) rfl (by kernel_rfl) (by kernel_rfl) (by kernel_rfl) (fun w w' h hc => h.no hc) (fun _ _ _ h => by cases h.1) _ _ _ _ (by kernel_rfl) (by kernel_rfl) (by kernel_rfl) (Or.inl ⟨by kernel_rfl, fun w' hw' => ?y36⟩) hT ?r36
                                                                      case y36 =>
                                                                        go_simp
                                                                        all_goals first | exact quiet_value | exact ⟨rfl, Ch.refl _ _⟩
                                                                      case r36 =>
                                                                        simp only [Act.put]
                                                                        refine wpP_take [44] (i := 37) (v := ?v37) rfl (by kernel_rfl) (by kernel_rfl) (by kernel_rfl) (fun w w' h hc => h.no hc) (fun _ _ _ h => by cases h.1) _ _ _ _ (by kernel_rfl) (by kernel_rfl) (by kernel_rfl) (Or.inl ⟨by kernel_rfl, fun w' hw' => ?y37⟩) hT ?r37
                                                                        case y37 =>
                                                                          go_simp
                                                                          all_goals first | exact quiet_value | exact ⟨rfl, Ch.refl _ _⟩
                                                                        case r37 =>
                                                                          simp only [Act.put]
                                                                          refine wpP_take [44] (i := 39) (v := ?v39) rfl (by kernel_rfl) (by kernel_rfl) (by kernel_rfl) (fun w w' h hc => h.no hc) (fun _ _ _ h => by cases h.1) _ _ _ _ (by kernel_rfl) (by kernel_rfl) (by kernel_rfl) (Or.inl ⟨by kernel_rfl, fun w' hw' => ?y39⟩) hT ?r39
                                                                          case y39 =>
                                                                            go_simp
                                                                            all_goals first | exact quiet_value | exact ⟨rfl, Ch.refl _ _⟩
                                                                          case r39 =>
                                                                            simp only [Act.put]
                                                                            refine wpP_take [44] (i := 40) (v := ?v40) rfl (by kernel_rfl) (by kernel_rfl) (by kernel_rfl) (fun w w' h hc => h.no hc) (fun _ _ _ h => by cases h.1) _ _ _ _ (by kernel_rfl) (by kernel_rfl) (by kernel_rfl) (Or.inl ⟨by kernel_rfl, fun w' hw' => ?y40⟩) hT ?r40
                                                                            case y40 =>
                                                                              go_simp
                                                                              all_goals first | exact quiet_value | exact ⟨rfl, Ch.refl _ _⟩
                                                                            case r40 =>
                                                                              simp only [Act.put]
                                                                              refine wpP_take [44] (i := 41) (v := ?v41) rfl (by kernel_rfl) (by kernel_rfl) (by kernel_rfl) (fun w w' h hc => h.no hc) (fun _ _ _ h => by cases h.1) _ _ _ _ (by kernel_rfl) (by kernel_rfl) (by kernel_rfl) (Or.inl ⟨by kernel_rfl, fun w' hw' => ?y41⟩) hT ?r41
                                                                              case y41 =>
                                                                                go_simp
                                                                                all_goals first | exact quiet_value | exact ⟨rfl, Ch.refl _ _⟩
                                                                              case r41 =>
                                                                                simp only [Act.put]
                                                                                refine wpP_1 (i := 38) rfl (by kernel_rfl) (fun u8 hu8 K hK => ?_)
                                                                                go_simp
                                                                                go_at_call 16
                                                                                refine (HK.out.2.2.2.2.2 _ (hT.no hu8).hx).mono ?_
                                                                                rintro e w9 ⟨O9, co9, rfl, s9, h9⟩
                                                                                have G9 := Lib.hid (And.intro s9 ((hT.no hu8).no h9))
                                                                                clear s9 h9 hu8 hT
                                                                                go_simp
                                                                                refine hK.out _ _ (fun _ => G9.out.2) ?_
                                                                                clear hK K
                                                                                try simp only [Act.put]
                                                                                refine wpP_1 (i := 42) rfl (by kernel_rfl) (fun u9 hu9 K hK => ?_)
                                                                                go_simp
                                                                                go_at_call 15
                                                                                refine (HSm.out.2.2.2.2 _ _ _ _ _ (G9.out.1.no hu9) ((G9.out.2.no hu9).o2.takeB k)).mono ?_
                                                                                rintro e w10 ⟨rfl, h10⟩
                                                                                have hT := (G9.out.2.no hu9).no h10
                                                                                clear h10 hu9 G9
                                                                                go_simp
                                                                                refine hK.out _ _ (fun _ => hT) ?_
                                                                                clear hK K
                                                                                try simp only [Act.put]
                                                                                refine wpP_1 (i := 43) rfl (by kernel_rfl) (fun u10 hu10 K hK => ?_)
                                                                                replace hT := hT.no hu10
                                                                                clear hu10
                                                                                go_simp
                                                                                refine hK.out _ _ (fun _ => hT) ?_
                                                                                clear hK K
                                                                                try simp only [Act.put]
                                                                                refine wpP_1 (i := 44) rfl (by kernel_rfl) (fun u11 hu11 K hK => ?_)
                                                                                replace hT := hT.no hu11
                                                                                clear hu11
                                                                                go_simp
                                                                                refine hK.out _ _ (fun _ => hT) ?_
                                                                                clear hK K
                                                                                try simp only [Act.put]
                                                                                refine wpP_done (eq_of_beq (by kernel_rfl)) (fun w11 h11 => ⟨by first | rfl | trivial, ?_⟩) _
                                                                                have G11 := Lib.hid ((hT.no h11).ch)
                                                                                clear h11 hT
                                                                                go_wp2_with fail
                                                                                go_ret
                                                                                exact ⟨rfl, G11.out⟩

theorem frameReads_walk (W : World) (a0 : Option Addr) (cap0 : Nat) (xs0 : List Int) (most : Int) (c0 : Cls W a0 (ints .u8 xs0)) (l0 : xs0.length ≤ cap0) (b0 : xs0.length * 1 ≤ 140737488351232) (w0 : ∀ x ∈ xs0, (Lit.int .u8 x).wf = true) (_w1 : (Lit.int .i64 most).wf = true) :
    Calls Try.prog 3 #[.slice a0 xs0.length cap0, .int .i64 most] W fun e w' => e = .returned (.bool true) ∧ Below W.heap.size W w' :=
  (frameReads_core W a0 cap0 xs0 most c0 (isB_of w0) l0 (by omega)).mono fun e w' ⟨h1, h2⟩ => ⟨h1, h2.same⟩
end Go.Proofs.Ytdkkffmnpholdaa
