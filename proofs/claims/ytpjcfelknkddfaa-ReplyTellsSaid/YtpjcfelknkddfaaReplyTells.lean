/- ReplyTells: of all replies and bytes every answer is as the document says: the walk. -/
import Derived.Test.YtpjcfelknkddfaaRepArg
import Derived.Test.YtpjcfelknkddfaaRepTell
import Derived.Test.YtpjcfelknkddfaaPert
import Derived.Deep.Cut
namespace Go.Proofs.Ytpjcfelknkddfaa
open Go.RowKit

/-- a reply's box -/
def BoxR (w : World) (g : Nat) (t : TypeId) (code : Int) (A : Option Addr) (n c : Nat) : Prop := Blk w g t [.int .i64 code, .slice A n c]
section
variable {w w' : World} {g : Nat} {t : TypeId} {code : Int} {A : Option Addr} {n c : Nat}
theorem BoxR.no (h : BoxR w g t code A n c) (hc : Ch No w w') : BoxR w' g t code A n c := Blk.ch h hc (fun h => h)
theorem BoxR.alloc (h : BoxR w g t code A n c) (o : Obj) : BoxR (w.alloc o) g t code A n c := Blk.alloc h o
theorem BoxR.c0 (h : BoxR w g t code A n c) : w.cell? ⟨g, 0, none⟩ = some (.int .i64 code) := Blk.cell h 0
theorem BoxR.c1 (h : BoxR w g t code A n c) : w.cell? ⟨g, 1, none⟩ = some (.slice A n c) := Blk.cell h 1
end
/-- the arguments and the answers, as the comparison reads them -/
structure TP (W w : World) (g5 : Nat) (code0 : Int) (A0 : Option Addr) (N c0 : Nat) (xs0 : List Int) (g6 : Nat) (code1 : Int) (A1 : Option Addr) (K c1 : Nat) (xs1 : List Int) (A3 A4 : Option Addr) (wo : List Int) (g15 g17 : Nat) (rc : Int) (A5 : Option Addr) (R c5 : Nat) (A6 : Option Addr) (c6 : Nat) (rn : List Int) : Prop where
  ch : Ch No W w
  b5 : BoxR w g5 24 code0 A0 N c0
  hx : Cls w A0 (ints .i64 xs0)
  b6 : BoxR w g6 24 code1 A1 K c1
  hy : Cls w A1 (ints .i64 xs1)
  h3 : Cls w A3 (ints .u8 wo)
  h4 : Cls w A4 (ints .u8 wo)
  b15 : BoxR w g15 24 rc A5 R c5
  h5 : Cls w A5 (ints .i64 rn)
  b17 : BoxR w g17 32 rc A6 R c6
  h6 : Cls w A6 (ints .i64 rn)
theorem TP.no {W w w' : World} {g5 : Nat} {code0 : Int} {A0 : Option Addr} {N c0 : Nat} {xs0 : List Int} {g6 : Nat} {code1 : Int} {A1 : Option Addr} {K c1 : Nat} {xs1 : List Int} {A3 A4 : Option Addr} {wo : List Int} {g15 g17 : Nat} {rc : Int} {A5 : Option Addr} {R c5 : Nat} {A6 : Option Addr} {c6 : Nat} {rn : List Int}
    (h : TP W w g5 code0 A0 N c0 xs0 g6 code1 A1 K c1 xs1 A3 A4 wo g15 g17 rc A5 R c5 A6 c6 rn) (k : Ch No w w') : TP W w' g5 code0 A0 N c0 xs0 g6 code1 A1 K c1 xs1 A3 A4 wo g15 g17 rc A5 R c5 A6 c6 rn :=
  ⟨h.ch.trans k, h.b5.no k, h.hx.ch k (fun _ _ h => h), h.b6.no k, h.hy.ch k (fun _ _ h => h), h.h3.ch k (fun _ _ h => h), h.h4.ch k (fun _ _ h => h), h.b15.no k, h.h5.ch k (fun _ _ h => h), h.b17.no k, h.h6.ch k (fun _ _ h => h)⟩
/-- the arguments alone -/
structure TA (W w : World) (g5 : Nat) (code0 : Int) (A0 : Option Addr) (N c0 : Nat) (g6 : Nat) (code1 : Int) (A1 : Option Addr) (K c1 : Nat) : Prop where
  ch : Ch No W w
  b5 : BoxR w g5 24 code0 A0 N c0
  b6 : BoxR w g6 24 code1 A1 K c1
theorem TA.no {W w w' : World} {g5 : Nat} {code0 : Int} {A0 : Option Addr} {N c0 : Nat} {g6 : Nat} {code1 : Int} {A1 : Option Addr} {K c1 : Nat}
    (h : TA W w g5 code0 A0 N c0 g6 code1 A1 K c1) (k : Ch No w w') : TA W w' g5 code0 A0 N c0 g6 code1 A1 K c1 := ⟨h.ch.trans k, h.b5.no k, h.b6.no k⟩

theorem and7 (n : Int) : ∃ r : Nat, r < 8 ∧ bits .and .i64 n 7 = r := by
  have h := i64_mask n 3 (by decide)
  have e : ((2 : Int) ^ 3 - 1) = 7 := rfl
  rw [e] at h
  refine ⟨(n % 8).toNat, by omega, ?_⟩
  rw [h]
  omega
theorem rNums_le (b : List Int) : (rNums b).length ≤ 120 := by
  unfold rNums
  split
  · next h =>
    rw [nums_len]
    unfold rErr at h
    split at h
    · cases h
    split at h
    · cases h
    omega
  · simp
set_option maxHeartbeats 16000000 in
set_option maxRecDepth 100000 in
theorem replyTells_core (W : World) (code0 : Int) (A0 : Option Addr) (c0 : Nat) (xs0 : List Int) (code1 : Int) (A1 : Option Addr) (c1 : Nat) (xs1 : List Int) (Ab : Option Addr) (cb : Nat) (b : List Int) (width most : Int)
    (hx : Cls W A0 (ints .i64 xs0)) (hc0 : xs0.length ≤ c0) (hn0 : xs0.length ≤ 140737488351232) (hy : Cls W A1 (ints .i64 xs1)) (hn1 : xs1.length ≤ 140737488351232) (hb : Cls W Ab (ints .u8 b)) (hbb : ∀ z ∈ b, isB z) (hbc : b.length ≤ cb) (hbl : b.length ≤ 140737488351232) (hwd : width ≤ 9223372036854775807) :
    Calls Try.prog 3 #[.agg #[.int .i64 code0, .slice A0 xs0.length c0], .agg #[.int .i64 code1, .slice A1 xs1.length c1], .slice Ab b.length cb, .int .i64 width, .int .i64 most] W fun e w' => e = .returned (.bool true) ∧ Ch No W w' := by
  have al := fun w => repAlive_any w
  obtain ⟨N, hN⟩ : ∃ N, xs0.length = N := ⟨_, rfl⟩
  obtain ⟨K, hK⟩ : ∃ K, xs1.length = K := ⟨_, rfl⟩
  obtain ⟨M, hM⟩ : ∃ M, b.length = M := ⟨_, rfl⟩
  have HX := Lib.hid (And.intro hN hx)
  have HY := Lib.hid (And.intro hK hy)
  have HB := Lib.hid (And.intro hM (And.intro hb hbb))
  rw [hN] at hn0 hc0 ⊢
  rw [hK] at hn1 ⊢
  rw [hM] at hbl hbc ⊢
  clear hN hK hM hx hy hb hbb
  have HW := Lib.hid hwd
  clear hwd
  have X0 : Hid (TA W ((W.alloc (.cells #[.int .i64 code0, .slice A0 N c0] 24)).alloc (.cells #[.int .i64 code1, .slice A1 K c1] 24)) W.heap.size code0 A0 N c0 (W.heap.size + 1) code1 A1 K c1) := Lib.hid ⟨((Ch.refl No W).alloc _).alloc _, BoxR.alloc (Blk.new W 24 [.int .i64 code0, .slice A0 N c0]) _, by
    have := Blk.new (W.alloc (.cells #[.int .i64 code0, .slice A0 N c0] 24)) 24 [.int .i64 code1, .slice A1 K c1]
    have e : (W.alloc (.cells #[.int .i64 code0, .slice A0 N c0] 24)).heap.size = W.heap.size + 1 := by simp
    rw [e] at this
    exact this⟩
  go_enter Try.func3, Try.ntmps3
  go_wp2_with fail
  refine (al _).mono ?_
  rintro e w1 ⟨rfl, h1⟩
  have X1 := Lib.hid (X0.out.no h1)
  clear X0 h1 al
  have g5 : ∃ g, W.heap.size = g := ⟨_, rfl⟩
  have k0 := X1.out.b5.c0
  have k1 := X1.out.b5.c1
  have k2 := X1.out.b6.c0
  have k3 := X1.out.b6.c1
  clear g5
  by_cases h200 : 200 < N
  · go_wp2_with fail
    go_ret
    exact ⟨rfl, X1.out.ch⟩
  by_cases h201 : 200 < K
  · go_wp2_with fail
    go_ret
    exact ⟨rfl, X1.out.ch⟩
  by_cases h1100 : 1100 < M
  · go_wp2_with fail
    go_ret
    exact ⟨rfl, X1.out.ch⟩
  have q := RepW_any code0 A0 c0 xs0 w1 (HX.out.2.ch X1.out.ch (fun _ _ h => h)) (by rw [HX.out.1]; omega)
  have q' := fun w h => RRepW_any code0 A0 c0 xs0 w h (by rw [HX.out.1]; omega)
  rw [HX.out.1] at q q'
  obtain ⟨we, hwe⟩ : ∃ we, wErr code0 N = we := ⟨_, rfl⟩
  obtain ⟨wo, hwo⟩ : ∃ wo, wOut code0 xs0 = wo := ⟨_, rfl⟩
  rw [hwe, hwo] at q q'
  obtain ⟨J, hJ⟩ : ∃ J, wo.length = J := ⟨_, rfl⟩
  have HJ : Hid (wo.length = J ∧ ∀ x ∈ wo, isB x) := Lib.hid ⟨hJ, by
    rw [← hwo]
    unfold wOut
    split
    · next h => exact repB_isB (wErr_ok h).1 (wErr_ok h).2
    · simp⟩
  unfold WriteP at q q'
  rw [hJ] at q q'
  have HQ := Lib.hid (And.intro q q')
  clear q q' hwe hwo hJ
  go_wp2_with fail
  refine HQ.out.1.mono ?_
  rintro e w2 ⟨A3, c3, rfl, o3, h2⟩
  have X2 := Lib.hid (And.intro (X1.out.no h2) o3.cls.1)
  clear h2 o3 X1 k0 k1 k2 k3
  have k0 := X2.out.1.b5.c0
  have k1 := X2.out.1.b5.c1
  go_wp2_with fail
  refine (HQ.out.2 w2 (HX.out.2.ch X2.out.1.ch (fun _ _ h => h))).mono ?_
  rintro e w3 ⟨A4, c4, rfl, o4, h3⟩
  have X3 := Lib.hid (And.intro (X2.out.1.no h3) (And.intro (X2.out.2.ch h3 (fun _ _ h => h)) o4.cls.1))
  clear h3 o4 X2 k0 k1 HQ
  have q := RepR_any w3 Ab cb b (HB.out.2.1.ch X3.out.1.ch (fun _ _ h => h)) HB.out.2.2 (by rw [HB.out.1]; omega)
  have q' := fun w h => RRepR_any w Ab cb b h HB.out.2.2 (by rw [HB.out.1]; exact hbc) (by rw [HB.out.1]; omega)
  unfold ReadP at q q'
  rw [HB.out.1] at q q'
  generalize rErr b = er at *
  generalize rCode b = rc at *
  obtain ⟨rn, hrn⟩ : ∃ rn, rNums b = rn := ⟨_, rfl⟩
  rw [hrn] at q q'
  obtain ⟨R, hR⟩ : ∃ R, rn.length = R := ⟨_, rfl⟩
  have hRM : R ≤ 100000000 := by rw [← hR, ← hrn]; have := rNums_le b; omega
  rw [hR] at q q'
  have HQ := Lib.hid (And.intro q q')
  have HR := Lib.hid hR
  clear q q' hR hrn
  go_wp2_with fail
  refine HQ.out.1.mono ?_
  rintro e w4 ⟨A5, c5, rfl, s5, l5, h4⟩
  have X4 : Hid (TA W (w4.alloc (.cells #[.int .i64 rc, .slice A5 R c5] 24)) W.heap.size code0 A0 N c0 (W.heap.size + 1) code1 A1 K c1 ∧ Cls (w4.alloc (.cells #[.int .i64 rc, .slice A5 R c5] 24)) A3 (ints .u8 wo) ∧ Cls (w4.alloc (.cells #[.int .i64 rc, .slice A5 R c5] 24)) A4 (ints .u8 wo) ∧ BoxR (w4.alloc (.cells #[.int .i64 rc, .slice A5 R c5] 24)) w4.heap.size 24 rc A5 R c5 ∧ Cls (w4.alloc (.cells #[.int .i64 rc, .slice A5 R c5] 24)) A5 (ints .i64 rn)) := by
    have hc := h4.alloc (.cells #[.int .i64 rc, .slice A5 R c5] 24)
    exact Lib.hid ⟨X3.out.1.no hc, X3.out.2.1.ch hc (fun _ _ h => h), X3.out.2.2.ch hc (fun _ _ h => h), Blk.new w4 24 [.int .i64 rc, .slice A5 R c5], s5.ch ((Ch.refl No w4).alloc _) (fun _ _ h => h)⟩
  clear h4 s5 X3
  go_upto_region 8 with fail
  generalize w4.alloc (.cells #[.int .i64 rc, .slice A5 R c5] 24) = w5 at *
  generalize w4.heap.size = g15 at *
  go_wp2_with fail
  refine (HQ.out.2 w5 (HB.out.2.1.ch X4.out.1.ch (fun _ _ h => h))).mono ?_
  rintro e w6 ⟨A6, c6, rfl, s6, l6, h6⟩
  have F0 : Hid (TP W (w6.alloc (.cells #[.int .i64 rc, .slice A6 R c6] 32)) W.heap.size code0 A0 N c0 xs0 (W.heap.size + 1) code1 A1 K c1 xs1 A3 A4 wo g15 w6.heap.size rc A5 R c5 A6 c6 rn) := by
    have hc := h6.alloc (.cells #[.int .i64 rc, .slice A6 R c6] 32)
    have ht := X4.out.1.no hc
    exact Lib.hid ⟨ht.ch, ht.b5, HX.out.2.ch ht.ch (fun _ _ h => h), ht.b6, HY.out.2.ch ht.ch (fun _ _ h => h), X4.out.2.1.ch hc (fun _ _ h => h), X4.out.2.2.1.ch hc (fun _ _ h => h), X4.out.2.2.2.1.no hc, X4.out.2.2.2.2.ch hc (fun _ _ h => h), Blk.new w6 32 [.int .i64 rc, .slice A6 R c6], s6.ch ((Ch.refl No w6).alloc _) (fun _ _ h => h)⟩
  clear h6 s6 X4 HQ
  obtain ⟨d, hd⟩ : ∃ d, decide (code0 = code1 ∧ xs0 = xs1) = d := ⟨_, rfl⟩
  have HRM := Lib.hid hRM
  have HSm : Hid ((∀ w' : World, Cls w' A3 (ints .u8 wo) → Cls w' A4 (ints .u8 wo) → Calls Try.prog 12 #[.slice A3 J c3, .slice A4 J c4] w' fun e w'' => e = .returned (.bool true) ∧ Ch No w' w'') ∧
      (∀ w' : World, Cls w' A5 (ints .i64 rn) → Cls w' A6 (ints .i64 rn) → Calls Try.prog 13 #[.agg #[.int .i64 rc, .slice A5 R c5], .agg #[.int .i64 rc, .slice A6 R c6]] w' fun e w'' => e = .returned (.bool true) ∧ Ch No w' w'') ∧
      (∀ w' : World, Cls w' A0 (ints .i64 xs0) → Cls w' A1 (ints .i64 xs1) → Calls Try.prog 14 #[.agg #[.int .i64 code0, .slice A0 N c0], .agg #[.int .i64 code1, .slice A1 K c1]] w' fun e w'' => e = .returned (.bool d) ∧ Ch No w' w'') ∧
      (∀ w' : World, Cls w' A0 (ints .i64 xs0) → Cls w' A1 (ints .i64 xs1) → Calls Try.prog 13 #[.agg #[.int .i64 code0, .slice A0 N c0], .agg #[.int .i64 code1, .slice A1 K c1]] w' fun e w'' => e = .returned (.bool d) ∧ Ch No w' w'')) := Lib.hid (by
    refine ⟨fun w' h1 h2 => ?_, fun w' h1 h2 => ?_, fun w' h1 h2 => ?_, fun w' h1 h2 => ?_⟩
    · have q := Same_any w' A3 c3 wo A4 c4 wo h1 h2 HJ.out.2 HJ.out.2
      rw [HJ.out.1] at q
      simp only [decide_true] at q
      exact q.mono fun e w'' k => ⟨k.1, k.2 ▸ Ch.refl _ _⟩
    · have q := RRepSame_any rc A5 c5 rn rc A6 c6 rn w' h1 h2 (by rw [HR.out]; exact HRM.out)
      rw [HR.out] at q
      simp only [true_and, decide_true] at q
      exact q
    · have q := RepSame_any code0 A0 c0 xs0 code1 A1 c1 xs1 w' h1 h2 (by rw [HX.out.1]; omega)
      rw [HX.out.1, HY.out.1, hd] at q
      exact q
    · have q := RRepSame_any code0 A0 c0 xs0 code1 A1 c1 xs1 w' h1 h2 (by rw [HX.out.1]; omega)
      rw [HX.out.1, HY.out.1, hd] at q
      exact q)
  clear hd HRM hRM HR
  go_upto_region 9 with fail
  generalize w6.alloc (.cells #[.int .i64 rc, .slice A6 R c6] 32) = w7 at *
  generalize w6.heap.size = g17 at *
  generalize W.heap.size = g5 at *
  refine region_pert (T := fun w' => TP W w' g5 code0 A0 N c0 xs0 (g5 + 1) code1 A1 K c1 xs1 A3 A4 wo g15 g17 rc A5 R c5 A6 c6 rn) (s := 28) (by kernel_rfl) (fun hT => ?_) (F0.out.no (Ch.refl No w7).drew)
  clear F0
  generalize w7.drew = wd at *
  refine wpP_take [2, 3, 6, 9, 14, 17, 20, 28] (i := 0) (v := ?v0) rfl (by kernel_rfl) (by kernel_rfl) (by kernel_rfl) (fun w w' h hc => h.no hc) (fun _ _ _ h => by cases h.1) _ _ _ _ (by kernel_rfl) (by kernel_rfl) (by kernel_rfl) (Or.inl ⟨by kernel_rfl, fun w' hw' => ?y0⟩) hT ?r0
  case y0 =>
    go_simp
    all_goals first | exact quiet_value | exact ⟨rfl, Ch.refl _ _⟩
  case r0 =>
    simp only [Act.put]
    refine wpP_take [2, 3, 6, 9, 14, 17, 20, 28] (i := 1) (v := ?v1) rfl (by kernel_rfl) (by kernel_rfl) (by kernel_rfl) (fun w w' h hc => h.no hc) (fun _ _ _ h => by cases h.1) _ _ _ _ (by kernel_rfl) (by kernel_rfl) (by kernel_rfl) (Or.inl ⟨by kernel_rfl, fun w' hw' => ?y1⟩) hT ?r1
    case y1 =>
      go_simp
      all_goals first | exact quiet_value | exact ⟨rfl, Ch.refl _ _⟩
    case r1 =>
      simp only [Act.put]
      refine wpP_take [3, 6, 9, 14, 17, 20, 28] (i := 2) (v := .bool false) rfl (by kernel_rfl) (by kernel_rfl) (by kernel_rfl) (fun w w' h hc => h.no hc) (fun _ _ _ h => by cases h.1) _ _ _ _ (by kernel_rfl) (by kernel_rfl) (by kernel_rfl) (Or.inl ⟨by kernel_rfl, fun w' hw' => ?y2⟩) hT ?r2
      case y2 =>
        go_simp
        all_goals first | exact quiet_value | exact ⟨rfl, Ch.refl _ _⟩
      case r2 =>
        simp only [Act.put]
        refine wpP_take [6, 9, 14, 17, 20, 28] (i := 3) (v := .bool false) rfl (by kernel_rfl) (by kernel_rfl) (by kernel_rfl) (fun w w' h hc => h.no hc) (fun _ _ _ h => by cases h.1) _ _ _ _ (by kernel_rfl) (by kernel_rfl) (by kernel_rfl) (Or.inl ⟨by kernel_rfl, fun w' hw' => ?y3⟩) hT ?r3
        case y3 =>
          go_simp
          all_goals first | exact quiet_value | exact ⟨rfl, Ch.refl _ _⟩
        case r3 =>
          simp only [Act.put]
          refine wpP_take [6, 9, 14, 17, 20, 28] (i := 4) (v := ?v4) rfl (by kernel_rfl) (by kernel_rfl) (by kernel_rfl) (fun w w' h hc => h.no hc) (fun _ _ _ h => by cases h.1) _ _ _ _ (by kernel_rfl) (by kernel_rfl) (by kernel_rfl) (Or.inl ⟨by kernel_rfl, fun w' hw' => ?y4⟩) hT ?r4
          case y4 =>
            go_simp
            all_goals first | exact quiet_value | exact ⟨rfl, Ch.refl _ _⟩
          case r4 =>
            simp only [Act.put]
            refine wpP_take [6, 9, 14, 17, 20, 28] (i := 5) (v := ?v5) rfl (by kernel_rfl) (by kernel_rfl) (by kernel_rfl) (fun w w' h hc => h.no hc) (fun _ _ _ h => by cases h.1) _ _ _ _ (by kernel_rfl) (by kernel_rfl) (by kernel_rfl) (Or.inl ⟨by kernel_rfl, fun w' hw' => ?y5⟩) hT ?r5
            case y5 =>
              go_simp
              all_goals first | exact quiet_value | exact ⟨rfl, Ch.refl _ _⟩
            case r5 =>
              simp only [Act.put]
              refine wpP_take [9, 14, 17, 20, 28] (i := 6) (v := .bool true) rfl (by kernel_rfl) (by kernel_rfl) (by kernel_rfl) (fun w w' h hc => h.no hc) (fun _ _ _ h => by cases h.1) _ _ _ _ (by kernel_rfl) (by kernel_rfl) (by kernel_rfl) (Or.inl ⟨by kernel_rfl, fun w' hw' => ?y6⟩) hT ?r6
              case y6 =>
                go_simp
                exact quiet_enter (HSm.out.1 _ hw'.h3 hw'.h4)
              case r6 =>
                simp only [Act.put]
                refine wpP_take [8, 9, 14, 17, 20, 28] (i := 7) (v := .bool false) rfl (by kernel_rfl) (by kernel_rfl) (by kernel_rfl) (fun w w' h hc => h.no hc) (fun _ _ _ h => by cases h.1) _ _ _ _ (by kernel_rfl) (by kernel_rfl) (by kernel_rfl) (Or.inl ⟨by kernel_rfl, fun w' hw' => ?y7⟩) hT ?r7
                case y7 =>
                  go_simp
                  all_goals first | exact quiet_value | exact ⟨rfl, Ch.refl _ _⟩
                case r7 =>
                  simp only [Act.put]
                  refine wpP_take [9, 14, 17, 20, 28] (i := 8) (v := .bool false) rfl (by kernel_rfl) (by kernel_rfl) (by kernel_rfl) (fun w w' h hc => h.no hc) (fun _ _ _ h => by cases h.1) _ _ _ _ (by kernel_rfl) (by kernel_rfl) (by kernel_rfl) (Or.inl ⟨by kernel_rfl, fun w' hw' => ?y8⟩) hT ?r8
                  case y8 =>
                    go_simp
                    all_goals first | exact quiet_value | exact ⟨rfl, Ch.refl _ _⟩
                  case r8 =>
                    simp only [Act.put]
                    refine wpP_take [14, 17, 20, 28] (i := 9) (v := .bool false) rfl (by kernel_rfl) (by kernel_rfl) (by kernel_rfl) (fun w w' h hc => h.no hc) (fun _ _ _ h => by cases h.1) _ _ _ _ (by kernel_rfl) (by kernel_rfl) (by kernel_rfl) (Or.inl ⟨by kernel_rfl, fun w' hw' => ?y9⟩) hT ?r9
                    case y9 =>
                      go_simp
                      all_goals first | exact quiet_value | exact ⟨rfl, Ch.refl _ _⟩
                    case r9 =>
                      simp only [Act.put]
                      refine wpP_take [12, 13, 14, 17, 20, 28] (i := 10) (v := ?v10) rfl (by kernel_rfl) (by kernel_rfl) (by kernel_rfl) (fun w w' h hc => h.no hc) (fun _ _ _ h => by cases h.1) _ _ _ _ (by kernel_rfl) (by kernel_rfl) (by kernel_rfl) (Or.inl ⟨by kernel_rfl, fun w' hw' => ?y10⟩) hT ?r10
                      case y10 =>
                        go_simp
                        all_goals first | exact quiet_value | exact ⟨rfl, Ch.refl _ _⟩
                      case r10 =>
                        simp only [Act.put]
                        refine wpP_take [12, 13, 14, 17, 20, 28] (i := 11) (v := ?v11) rfl (by kernel_rfl) (by kernel_rfl) (by kernel_rfl) (fun w w' h hc => h.no hc) (fun _ _ _ h => by cases h.1) _ _ _ _ (by kernel_rfl) (by kernel_rfl) (by kernel_rfl) (Or.inl ⟨by kernel_rfl, fun w' hw' => ?y11⟩) hT ?r11
                        case y11 =>
                          go_simp
                          all_goals first | exact quiet_value | exact ⟨rfl, Ch.refl _ _⟩
                        case r11 =>
                          simp only [Act.put]
                          refine wpP_take [13, 14, 17, 20, 28] (i := 12) (v := .bool false) rfl (by kernel_rfl) (by kernel_rfl) (by kernel_rfl) (fun w w' h hc => h.no hc) (fun _ _ _ h => by cases h.1) _ _ _ _ (by kernel_rfl) (by kernel_rfl) (by kernel_rfl) (Or.inl ⟨by kernel_rfl, fun w' hw' => ?y12⟩) hT ?r12
                          case y12 =>
                            go_simp
                            all_goals first | exact quiet_value | exact ⟨rfl, Ch.refl _ _⟩
                          case r12 =>
                            simp only [Act.put]
                            refine wpP_take [14, 17, 20, 28] (i := 13) (v := .bool false) rfl (by kernel_rfl) (by kernel_rfl) (by kernel_rfl) (fun w w' h hc => h.no hc) (fun _ _ _ h => by cases h.1) _ _ _ _ (by kernel_rfl) (by kernel_rfl) (by kernel_rfl) (Or.inl ⟨by kernel_rfl, fun w' hw' => ?y13⟩) hT ?r13
                            case y13 =>
                              go_simp
                              all_goals first | exact quiet_value | exact ⟨rfl, Ch.refl _ _⟩
                            case r13 =>
                              simp only [Act.put]
                              refine wpP_take [17, 20, 28] (i := 14) (v := .bool false) rfl (by kernel_rfl) (by kernel_rfl) (by kernel_rfl) (fun w w' h hc => h.no hc) (fun _ _ _ h => by cases h.1) _ _ _ _ (by kernel_rfl) (by kernel_rfl) (by kernel_rfl) (Or.inl ⟨by kernel_rfl, fun w' hw' => ?y14⟩) hT ?r14
                              case y14 =>
                                go_simp
                                all_goals first | exact quiet_value | exact ⟨rfl, Ch.refl _ _⟩
                              case r14 =>
                                simp only [Act.put]
                                refine wpP_take [17, 20, 28] (i := 15) (v := ?v15) rfl (by kernel_rfl) (by kernel_rfl) (by kernel_rfl) (fun w w' h hc => h.no hc) (fun _ _ _ h => by cases h.1) _ _ _ _ (by kernel_rfl) (by kernel_rfl) (by kernel_rfl) (Or.inl ⟨by kernel_rfl, fun w' hw' => ?y15⟩) hT ?r15
                                case y15 =>
                                  have k0 := hw'.b15.c0
                                  have k1 := hw'.b15.c1
                                  go_simp
                                  all_goals first | exact quiet_value | exact ⟨rfl, Ch.refl _ _⟩
                                case r15 =>
                                  simp only [Act.put]
                                  refine wpP_take [17, 20, 28] (i := 16) (v := ?v16) rfl (by kernel_rfl) (by kernel_rfl) (by kernel_rfl) (fun w w' h hc => h.no hc) (fun _ _ _ h => by cases h.1) _ _ _ _ (by kernel_rfl) (by kernel_rfl) (by kernel_rfl) (Or.inl ⟨by kernel_rfl, fun w' hw' => ?y16⟩) hT ?r16
                                  case y16 =>
                                    have k0 := hw'.b17.c0
                                    have k1 := hw'.b17.c1
                                    go_simp
                                    all_goals first | exact quiet_value | exact ⟨rfl, Ch.refl _ _⟩
                                  case r16 =>
                                    simp only [Act.put]
                                    refine wpP_take [20, 28] (i := 17) (v := .bool true) rfl (by kernel_rfl) (by kernel_rfl) (by kernel_rfl) (fun w w' h hc => h.no hc) (fun _ _ _ h => by cases h.1) _ _ _ _ (by kernel_rfl) (by kernel_rfl) (by kernel_rfl) (Or.inl ⟨by kernel_rfl, fun w' hw' => ?y17⟩) hT ?r17
                                    case y17 =>
                                      go_simp
                                      exact quiet_enter (HSm.out.2.1 _ hw'.h5 hw'.h6)
                                    case r17 =>
                                      simp only [Act.put]
                                      refine wpP_take [19, 20, 28] (i := 18) (v := .bool false) rfl (by kernel_rfl) (by kernel_rfl) (by kernel_rfl) (fun w w' h hc => h.no hc) (fun _ _ _ h => by cases h.1) _ _ _ _ (by kernel_rfl) (by kernel_rfl) (by kernel_rfl) (Or.inl ⟨by kernel_rfl, fun w' hw' => ?y18⟩) hT ?r18
                                      case y18 =>
                                        go_simp
                                        all_goals first | exact quiet_value | exact ⟨rfl, Ch.refl _ _⟩
                                      case r18 =>
                                        simp only [Act.put]
                                        refine wpP_take [20, 28] (i := 19) (v := .bool false) rfl (by kernel_rfl) (by kernel_rfl) (by kernel_rfl) (fun w w' h hc => h.no hc) (fun _ _ _ h => by cases h.1) _ _ _ _ (by kernel_rfl) (by kernel_rfl) (by kernel_rfl) (Or.inl ⟨by kernel_rfl, fun w' hw' => ?y19⟩) hT ?r19
                                        case y19 =>
                                          go_simp
                                          all_goals first | exact quiet_value | exact ⟨rfl, Ch.refl _ _⟩
                                        case r19 =>
                                          simp only [Act.put]
                                          refine wpP_take [28] (i := 20) (v := .bool false) rfl (by kernel_rfl) (by kernel_rfl) (by kernel_rfl) (fun w w' h hc => h.no hc) (fun _ _ _ h => by cases h.1) _ _ _ _ (by kernel_rfl) (by kernel_rfl) (by kernel_rfl) (Or.inl ⟨by kernel_rfl, fun w' hw' => ?y20⟩) hT ?r20
                                          case y20 =>
                                            go_simp
                                            all_goals first | exact quiet_value | exact ⟨rfl, Ch.refl _ _⟩
                                          case r20 =>
                                            simp only [Act.put]
                                            refine wpP_take [23, 27, 28] (i := 21) (v := ?v21) rfl (by kernel_rfl) (by kernel_rfl) (by kernel_rfl) (fun w w' h hc => h.no hc) (fun _ _ _ h => by cases h.1) _ _ _ _ (by kernel_rfl) (by kernel_rfl) (by kernel_rfl) (Or.inl ⟨by kernel_rfl, fun w' hw' => ?y21⟩) hT ?r21
                                            case y21 =>
                                              have k0 := hw'.b5.c0
                                              have k1 := hw'.b5.c1
                                              go_simp
                                              all_goals first | exact quiet_value | exact ⟨rfl, Ch.refl _ _⟩
                                            case r21 =>
                                              simp only [Act.put]
                                              refine wpP_take [23, 27, 28] (i := 22) (v := ?v22) rfl (by kernel_rfl) (by kernel_rfl) (by kernel_rfl) (fun w w' h hc => h.no hc) (fun _ _ _ h => by cases h.1) _ _ _ _ (by kernel_rfl) (by kernel_rfl) (by kernel_rfl) (Or.inl ⟨by kernel_rfl, fun w' hw' => ?y22⟩) hT ?r22
                                              case y22 =>
                                                have k0 := hw'.b6.c0
                                                have k1 := hw'.b6.c1
                                                go_simp
                                                all_goals first | exact quiet_value | exact ⟨rfl, Ch.refl _ _⟩
                                              case r22 =>
                                                simp only [Act.put]
                                                refine wpP_take [27, 28] (i := 23) (v := .bool d) rfl (by kernel_rfl) (by kernel_rfl) (by kernel_rfl) (fun w w' h hc => h.no hc) (fun _ _ _ h => by cases h.1) _ _ _ _ (by kernel_rfl) (by kernel_rfl) (by kernel_rfl) (Or.inl ⟨by kernel_rfl, fun w' hw' => ?y23⟩) hT ?r23
                                                case y23 =>
                                                  go_simp
                                                  exact quiet_enter (HSm.out.2.2.1 _ hw'.hx hw'.hy)
                                                case r23 =>
                                                  simp only [Act.put]
                                                  refine wpP_take [26, 27, 28] (i := 24) (v := ?v24) rfl (by kernel_rfl) (by kernel_rfl) (by kernel_rfl) (fun w w' h hc => h.no hc) (fun _ _ _ h => by cases h.1) _ _ _ _ (by kernel_rfl) (by kernel_rfl) (by kernel_rfl) (Or.inl ⟨by kernel_rfl, fun w' hw' => ?y24⟩) hT ?r24
                                                  case y24 =>
                                                    have k0 := hw'.b5.c0
                                                    have k1 := hw'.b5.c1
                                                    go_simp
                                                    all_goals first | exact quiet_value | exact ⟨rfl, Ch.refl _ _⟩
                                                  case r24 =>
                                                    simp only [Act.put]
                                                    refine wpP_take [26, 27, 28] (i := 25) (v := ?v25) rfl (by kernel_rfl) (by kernel_rfl) (by kernel_rfl) (fun w w' h hc => h.no hc) (fun _ _ _ h => by cases h.1) _ _ _ _ (by kernel_rfl) (by kernel_rfl) (by kernel_rfl) (Or.inl ⟨by kernel_rfl, fun w' hw' => ?y25⟩) hT ?r25
                                                    case y25 =>
                                                      have k0 := hw'.b6.c0
                                                      have k1 := hw'.b6.c1
                                                      go_simp
                                                      all_goals first | exact quiet_value | exact ⟨rfl, Ch.refl _ _⟩
                                                    case r25 =>
                                                      simp only [Act.put]
                                                      refine wpP_take [27, 28] (i := 26) (v := .bool d) rfl (by kernel_rfl) (by kernel_rfl) (by kernel_rfl) (fun w w' h hc => h.no hc) (fun _ _ _ h => by cases h.1) _ _ _ _ (by kernel_rfl) (by kernel_rfl) (by kernel_rfl) (Or.inl ⟨by kernel_rfl, fun w' hw' => ?y26⟩) hT ?r26
                                                      case y26 =>
                                                        go_simp
                                                        exact quiet_enter (HSm.out.2.2.2 _ hw'.hx hw'.hy)
                                                      case r26 =>
                                                        simp only [Act.put]
                                                        refine wpP_take [28] (i := 27) (v := .bool false) rfl (by kernel_rfl) (by kernel_rfl) (by kernel_rfl) (fun w w' h hc => h.no hc) (fun _ _ _ h => by cases h.1) _ _ _ _ (by kernel_rfl) (by kernel_rfl) (by kernel_rfl) (Or.inl ⟨by kernel_rfl, fun w' hw' => ?y27⟩) hT ?r27
                                                        case y27 =>
                                                          go_simp
                                                          all_goals first | exact quiet_value | exact ⟨rfl, Ch.refl _ _⟩
                                                        case r27 =>
                                                          simp only [Act.put]
                                                          refine wpP_1 (i := 28) rfl (by kernel_rfl) (fun u hu K hK => ?_)
                                                          replace hT := hT.no hu
                                                          clear hu
                                                          go_simp
                                                          refine hK.out _ _ (fun _ => hT) ?_
                                                          clear hK K
                                                          try simp only [Act.put]
                                                          refine wpP_done (eq_of_beq (by kernel_rfl)) (fun u h => ⟨by first | rfl | trivial, ?_⟩) _
                                                          have G : Hid (TA W u g5 code0 A0 N c0 (g5 + 1) code1 A1 K c1) := Lib.hid ⟨(hT.no h).ch, (hT.no h).b5, (hT.no h).b6⟩
                                                          clear h hT HSm HJ
                                                          obtain ⟨z, hzw⟩ : ∃ z : Nat, (z : Int) = max width 1 := ⟨(max width 1).toNat, by omega⟩
                                                          obtain ⟨y, hyw⟩ : ∃ y : Nat, (y : Int) = min (z : Int) 1000 := ⟨(min (z : Int) 1000).toNat, by omega⟩
                                                          have hz1 : 1 ≤ z := by omega
                                                          have hy1 : 1 ≤ y := by omega
                                                          have hy2 : y ≤ 1000 := by omega
                                                          have hzm : z ≤ 9223372036854775807 := by have := HW.out; omega
                                                          have HZ := Lib.hid (And.intro hzw hyw)
                                                          have hR := fun (w : World) (h : Cls w A0 (ints .i64 xs0)) (m : Int) => rowsL_any w code0 A0 c0 xs0 width z h hz1 hzw hzm (by rw [HX.out.1]; exact hc0) (by rw [HX.out.1]; omega) m
                                                          rw [HX.out.1, chks_cut hz1 (by rw [HX.out.1]; omega) hyw] at hR
                                                          have hcnt := chks_count hy1 N xs0 (by rw [HX.out.1]; omega)
                                                          rw [HX.out.1] at hcnt
                                                          have hL200 : (N + y - 1) / y ≤ N := by
                                                            rcases Nat.eq_zero_or_pos N with h0 | h0
                                                            · rw [h0, Nat.div_eq_of_lt (by omega)]; omega
                                                            · have h5 : N + y - 1 ≤ N * y := by
                                                                obtain ⟨n', rfl⟩ : ∃ n', N = n' + 1 := ⟨N - 1, by omega⟩
                                                                rw [Nat.add_mul]
                                                                have := Nat.mul_le_mul_left n' hy1
                                                                omega
                                                              calc (N + y - 1) / y ≤ (N * y) / y := Nat.div_le_div_right h5
                                                                _ = N := Nat.mul_div_cancel _ (by omega)
                                                          have hdv : ((N : Int) + (y : Int) - 1) / (y : Int) = (((N + y - 1) / y : Nat) : Int) := by
                                                            rw [show (N : Int) + (y : Int) - 1 = ((N + y - 1 : Nat) : Int) from by omega, Int.natCast_ediv]
                                                          obtain ⟨L, hL⟩ : ∃ L, (N + y - 1) / y = L := ⟨_, rfl⟩
                                                          rw [hL] at hcnt hL200 hdv
                                                          obtain ⟨cs, hcs⟩ : ∃ cs, chks y xs0 = cs := ⟨_, rfl⟩
                                                          rw [hcs] at hcnt hR
                                                          have HR := Lib.hid hR
                                                          have HC := Lib.hid (And.intro hcnt hcs)
                                                          have HD := Lib.hid hdv
                                                          clear hR hcnt hcs hL hdv
                                                          go_upto_region 12 with fail
                                                          rw [show (if (1000 : Int) < (if width < 1 then 1 else width) then (1000 : Int) else (if width < 1 then 1 else width)) = (y : Int) from by (repeat' split) <;> omega]
                                                          rw [show (if width < 1 then (1 : Int) else width) = (z : Int) from by split <;> omega]
                                                          have k0 := G.out.b5.c0
                                                          have k1 := G.out.b5.c1
                                                          clear hzw hyw hzm
                                                          go_wp2_with fail
                                                          refine (HR.out u (HX.out.2.ch G.out.ch (fun _ _ h => h)) 1000).mono ?_
                                                          rintro e w8 ⟨v, ps, rfl, hp, o8, hl8, h8⟩
                                                          rw [List.take_of_length_le (by rw [HC.out.1]; simp; omega)] at hp
                                                          have hpl : ps.length = L := by
                                                            have := congrArg List.length hp
                                                            rw [HC.out.1] at this
                                                            simpa using this
                                                          obtain ⟨A8, c8, rfl, cl8, le8⟩ := o8.slice
                                                          rw [List.length_map, hpl]
                                                          have G8 := Lib.hid (And.intro (G.out.no h8) (And.intro cl8 (And.intro hl8 (And.intro hp hpl))))
                                                          clear o8 cl8 hl8 hp hpl h8 G k0 k1
                                                          have k0 := G8.out.1.b5.c0
                                                          have k1 := G8.out.1.b5.c1
                                                          obtain ⟨r, hr8, hr⟩ := and7 most
                                                          go_wp2_with fail
                                                          rotate_left
                                                          · exact absurd HD.out.symm (by assumption)
                                                          refine (HR.out w8 (HX.out.2.ch G8.out.1.ch (fun _ _ h => h)) (r : Int)).mono ?_
                                                          rintro e w9 ⟨v2, ps2, rfl, hp2, o9, _, h9⟩
                                                          have hl2 : ps2.length = min r L := by
                                                            have := congrArg List.length hp2
                                                            rw [List.length_map, List.length_take, HC.out.1, Int.toNat_natCast] at this
                                                            exact this
                                                          obtain ⟨A9, c9, rfl, _, _⟩ := o9.slice
                                                          rw [List.length_map, hl2]
                                                          have G9 := Lib.hid (And.intro (G8.out.1.no h9) (And.intro (G8.out.2.1.ch h9 (fun _ _ h => h)) (And.intro (fun p hp => (G8.out.2.2.1 p hp).1.ch h9 (fun _ _ h => h)) G8.out.2.2.2)))
                                                          clear o9 hp2 hl2 h9 G8 k0 k1
                                                          have k0 := G9.out.1.b5.c0
                                                          have k1 := G9.out.1.b5.c1
                                                          by_cases hrl : r ≤ L
                                                          · rw [Nat.min_eq_left hrl]
                                                            go_wp2_with fail
                                                            clear hr hr8 k0 k1
                                                            go_loopw [21, 22, 122] (fun _ _ i wr => ∃ (q1 q2 : List Lng) (q : Nat), Hid (ps = q1 ++ q2 ∧ q1.length = q) ∧ i = .int .i64 q ∧ Hid (Ch No w9 wr)) (fun _ _ i _ => L - (intOf i).toNat)
                                                            case atStart => exact ⟨[], ps, 0, Lib.hid ⟨rfl, rfl⟩, rfl, Lib.hid (Ch.refl _ _)⟩
                                                            case round =>
                                                              obtain ⟨q1, q2, q, hq, rfl, hw⟩ := hrel
                                                              have hln := congrArg List.length hq.out.1
                                                              rw [G9.out.2.2.2.2, List.length_append, hq.out.2] at hln
                                                              cases q2 with
                                                              | nil =>
                                                                simp at hln
                                                                have hq1 : L ≤ q := by omega
                                                                clear hln
                                                                go_wp2_with fail
                                                                go_ret
                                                                exact ⟨rfl, (G9.out.1.no hw.out).ch⟩
                                                              | cons p q2 =>
                                                                rw [List.length_cons] at hln
                                                                have hqL : q < L := by omega
                                                                clear hln
                                                                have hat := chks_at hy1 (q1.map (·.xs)) (q2.map (·.xs)) p.xs xs0 (by rw [HC.out.2, ← G9.out.2.2.2.1, hq.out.1]; simp)
                                                                rw [List.length_map, hq.out.2, HX.out.1] at hat
                                                                obtain ⟨hpx, hlt⟩ := hat
                                                                have GW := Lib.hid (G9.out.1.no hw.out)
                                                                have k0 := GW.out.b5.c0
                                                                have k1 := GW.out.b5.c1
                                                                obtain ⟨bb, off, hA, hcell⟩ := (G9.out.2.1.ch hw.out (fun _ _ h => h)) (q1.map Lng.enc) (Lng.enc p) (q2.map Lng.enc) (by rw [hq.out.1]; simp)
                                                                rw [List.length_map, hq.out.2] at hcell
                                                                subst hA
                                                                unfold Lng.enc at hcell
                                                                obtain ⟨PL, hPL⟩ : ∃ n, p.xs.length = n := ⟨_, rfl⟩
                                                                obtain ⟨o, ho⟩ : ∃ o, q * y = o := ⟨_, rfl⟩
                                                                rw [ho] at hpx hlt
                                                                rw [hPL] at hcell
                                                                have hPL2 : PL = min y (N - o) := by rw [← hPL, hpx, List.length_take, List.length_drop, HX.out.1]
                                                                have hqy : (q : Int) * (y : Int) = (o : Int) := by rw [← ho]; simp
                                                                have hqy2 : ((q : Int) + 1) * (y : Int) = (o : Int) + (y : Int) := by rw [Int.add_mul, hqy]; simp
                                                                have HP := Lib.hid (And.intro hpx hPL)
                                                                clear hpx hPL ho
                                                                by_cases hb : N < o + y
                                                                · have hpl : PL = N - o := by omega
                                                                  clear hPL2
                                                                  have hc1 : Cls wr p.A (ints .i64 p.xs) := (G9.out.2.2.1 p (by rw [hq.out.1]; simp)).ch hw.out (fun _ _ h => h)
                                                                  have hc2 : Cls wr (A0.map (·.add o)) (ints .i64 p.xs) := by
                                                                    have := ((HX.out.2.ch GW.out.ch (fun _ _ h => h)).dropI o).takeI y
                                                                    rw [← ints_drop, ← ints_take, ← HP.out.1] at this
                                                                    exact this
                                                                  have qs := SameL_any wr p.A p.c p.xs (A0.map (·.add o)) (c0 - o) p.xs hc1 hc2 (by rw [HP.out.2]; omega)
                                                                  rw [HP.out.2, hpl] at qs
                                                                  simp only [decide_true] at qs
                                                                  have HQ := Lib.hid qs
                                                                  clear qs hc1 hc2
                                                                  go_wp2_with fail
                                                                  try rw [show o + y - o = y from by omega]
                                                                  refine HQ.out.mono ?_
                                                                  rintro e w10 ⟨rfl, h10⟩
                                                                  have H10 := Lib.hid (hw.out.trans h10)
                                                                  clear h10 HQ
                                                                  go_wp2_with fail
                                                                  go_roundw
                                                                  case rel => exact ⟨q1 ++ [p], q2, q + 1, Lib.hid ⟨by rw [hq.out.1]; simp, by simp [hq.out.2]⟩, by simp, H10⟩
                                                                  case measure => simp [intOf]; omega
                                                                · have hpl : PL = y := by omega
                                                                  clear hPL2
                                                                  have hc1 : Cls wr p.A (ints .i64 p.xs) := (G9.out.2.2.1 p (by rw [hq.out.1]; simp)).ch hw.out (fun _ _ h => h)
                                                                  have hc2 : Cls wr (A0.map (·.add o)) (ints .i64 p.xs) := by
                                                                    have := ((HX.out.2.ch GW.out.ch (fun _ _ h => h)).dropI o).takeI y
                                                                    rw [← ints_drop, ← ints_take, ← HP.out.1] at this
                                                                    exact this
                                                                  have qs := SameL_any wr p.A p.c p.xs (A0.map (·.add o)) (c0 - o) p.xs hc1 hc2 (by rw [HP.out.2]; omega)
                                                                  rw [HP.out.2, hpl] at qs
                                                                  simp only [decide_true] at qs
                                                                  have HQ := Lib.hid qs
                                                                  clear qs hc1 hc2
                                                                  go_wp2_with fail
                                                                  try rw [show o + y - o = y from by omega]
                                                                  refine HQ.out.mono ?_
                                                                  rintro e w10 ⟨rfl, h10⟩
                                                                  have H10 := Lib.hid (hw.out.trans h10)
                                                                  clear h10 HQ
                                                                  go_wp2_with fail
                                                                  go_roundw
                                                                  case rel => exact ⟨q1 ++ [p], q2, q + 1, Lib.hid ⟨by rw [hq.out.1]; simp, by simp [hq.out.2]⟩, by simp, H10⟩
                                                                  case measure => simp [intOf]; omega
                                                          · rw [Nat.min_eq_right (by omega)]
                                                            go_wp2_with fail
                                                            clear hr hr8 k0 k1
                                                            go_loopw [21, 22, 122] (fun _ _ i wr => ∃ (q1 q2 : List Lng) (q : Nat), Hid (ps = q1 ++ q2 ∧ q1.length = q) ∧ i = .int .i64 q ∧ Hid (Ch No w9 wr)) (fun _ _ i _ => L - (intOf i).toNat)
                                                            case atStart => exact ⟨[], ps, 0, Lib.hid ⟨rfl, rfl⟩, rfl, Lib.hid (Ch.refl _ _)⟩
                                                            case round =>
                                                              obtain ⟨q1, q2, q, hq, rfl, hw⟩ := hrel
                                                              have hln := congrArg List.length hq.out.1
                                                              rw [G9.out.2.2.2.2, List.length_append, hq.out.2] at hln
                                                              cases q2 with
                                                              | nil =>
                                                                simp at hln
                                                                have hq1 : L ≤ q := by omega
                                                                clear hln
                                                                go_wp2_with fail
                                                                go_ret
                                                                exact ⟨rfl, (G9.out.1.no hw.out).ch⟩
                                                              | cons p q2 =>
                                                                rw [List.length_cons] at hln
                                                                have hqL : q < L := by omega
                                                                clear hln
                                                                have hat := chks_at hy1 (q1.map (·.xs)) (q2.map (·.xs)) p.xs xs0 (by rw [HC.out.2, ← G9.out.2.2.2.1, hq.out.1]; simp)
                                                                rw [List.length_map, hq.out.2, HX.out.1] at hat
                                                                obtain ⟨hpx, hlt⟩ := hat
                                                                have GW := Lib.hid (G9.out.1.no hw.out)
                                                                have k0 := GW.out.b5.c0
                                                                have k1 := GW.out.b5.c1
                                                                obtain ⟨bb, off, hA, hcell⟩ := (G9.out.2.1.ch hw.out (fun _ _ h => h)) (q1.map Lng.enc) (Lng.enc p) (q2.map Lng.enc) (by rw [hq.out.1]; simp)
                                                                rw [List.length_map, hq.out.2] at hcell
                                                                subst hA
                                                                unfold Lng.enc at hcell
                                                                obtain ⟨PL, hPL⟩ : ∃ n, p.xs.length = n := ⟨_, rfl⟩
                                                                obtain ⟨o, ho⟩ : ∃ o, q * y = o := ⟨_, rfl⟩
                                                                rw [ho] at hpx hlt
                                                                rw [hPL] at hcell
                                                                have hPL2 : PL = min y (N - o) := by rw [← hPL, hpx, List.length_take, List.length_drop, HX.out.1]
                                                                have hqy : (q : Int) * (y : Int) = (o : Int) := by rw [← ho]; simp
                                                                have hqy2 : ((q : Int) + 1) * (y : Int) = (o : Int) + (y : Int) := by rw [Int.add_mul, hqy]; simp
                                                                have HP := Lib.hid (And.intro hpx hPL)
                                                                clear hpx hPL ho
                                                                by_cases hb : N < o + y
                                                                · have hpl : PL = N - o := by omega
                                                                  clear hPL2
                                                                  have hc1 : Cls wr p.A (ints .i64 p.xs) := (G9.out.2.2.1 p (by rw [hq.out.1]; simp)).ch hw.out (fun _ _ h => h)
                                                                  have hc2 : Cls wr (A0.map (·.add o)) (ints .i64 p.xs) := by
                                                                    have := ((HX.out.2.ch GW.out.ch (fun _ _ h => h)).dropI o).takeI y
                                                                    rw [← ints_drop, ← ints_take, ← HP.out.1] at this
                                                                    exact this
                                                                  have qs := SameL_any wr p.A p.c p.xs (A0.map (·.add o)) (c0 - o) p.xs hc1 hc2 (by rw [HP.out.2]; omega)
                                                                  rw [HP.out.2, hpl] at qs
                                                                  simp only [decide_true] at qs
                                                                  have HQ := Lib.hid qs
                                                                  clear qs hc1 hc2
                                                                  go_wp2_with fail
                                                                  try rw [show o + y - o = y from by omega]
                                                                  refine HQ.out.mono ?_
                                                                  rintro e w10 ⟨rfl, h10⟩
                                                                  have H10 := Lib.hid (hw.out.trans h10)
                                                                  clear h10 HQ
                                                                  go_wp2_with fail
                                                                  go_roundw
                                                                  case rel => exact ⟨q1 ++ [p], q2, q + 1, Lib.hid ⟨by rw [hq.out.1]; simp, by simp [hq.out.2]⟩, by simp, H10⟩
                                                                  case measure => simp [intOf]; omega
                                                                · have hpl : PL = y := by omega
                                                                  clear hPL2
                                                                  have hc1 : Cls wr p.A (ints .i64 p.xs) := (G9.out.2.2.1 p (by rw [hq.out.1]; simp)).ch hw.out (fun _ _ h => h)
                                                                  have hc2 : Cls wr (A0.map (·.add o)) (ints .i64 p.xs) := by
                                                                    have := ((HX.out.2.ch GW.out.ch (fun _ _ h => h)).dropI o).takeI y
                                                                    rw [← ints_drop, ← ints_take, ← HP.out.1] at this
                                                                    exact this
                                                                  have qs := SameL_any wr p.A p.c p.xs (A0.map (·.add o)) (c0 - o) p.xs hc1 hc2 (by rw [HP.out.2]; omega)
                                                                  rw [HP.out.2, hpl] at qs
                                                                  simp only [decide_true] at qs
                                                                  have HQ := Lib.hid qs
                                                                  clear qs hc1 hc2
                                                                  go_wp2_with fail
                                                                  try rw [show o + y - o = y from by omega]
                                                                  refine HQ.out.mono ?_
                                                                  rintro e w10 ⟨rfl, h10⟩
                                                                  have H10 := Lib.hid (hw.out.trans h10)
                                                                  clear h10 HQ
                                                                  go_wp2_with fail
                                                                  go_roundw
                                                                  case rel => exact ⟨q1 ++ [p], q2, q + 1, Lib.hid ⟨by rw [hq.out.1]; simp, by simp [hq.out.2]⟩, by simp, H10⟩
                                                                  case measure => simp [intOf]; omega

theorem replyTells_walk (W : World) (cs0 cs1 : Array Value) (a2 : Option Addr) (cap2 : Nat) (xs2 : List Int) (a3 a4 : Int) (rd0 : Rd Try.prog W 8 24 cs0.toList) (rd1 : Rd Try.prog W 8 24 cs1.toList) (c2 : Cls W a2 (ints .u8 xs2)) (l2 : xs2.length ≤ cap2) (b2 : xs2.length * 1 ≤ 140737488351232) (w2 : ∀ x ∈ xs2, (Lit.int .u8 x).wf = true) (w3 : (Lit.int .i64 a3).wf = true) (_w4 : (Lit.int .i64 a4).wf = true) :
    Calls Try.prog 3 #[.agg cs0, .agg cs1, .slice a2 xs2.length cap2, .int .i64 a3, .int .i64 a4] W fun e w' => e = .returned (.bool true) ∧ Below W.heap.size W w' := by
  obtain ⟨code, A, c, xs, rfl, _, hx, hc, hl, _⟩ := rep_arg rd0
  obtain ⟨code1, A1, c1, xs1, rfl, _, hx1, _, hl1, _⟩ := rep_arg rd1
  exact (replyTells_core W code A c xs code1 A1 c1 xs1 a2 cap2 xs2 a3 a4 hx hc hl hx1 hl1 c2 (isB_of w2) l2 (by omega) (bounds_i64 w3).2).mono fun e w' ⟨h1, h2⟩ => ⟨h1, h2.same⟩
end Go.Proofs.Ytpjcfelknkddfaa
