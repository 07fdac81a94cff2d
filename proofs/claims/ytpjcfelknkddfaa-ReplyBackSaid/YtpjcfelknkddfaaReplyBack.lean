/- ReplyBack: what is written is read as it; what is read, and written, is these bytes again: the walk. -/
import Derived.Test.YtpjcfelknkddfaaRepArg
import Derived.Deep.Cut
namespace Go.Proofs.Ytpjcfelknkddfaa
open Go.RowKit

/-- a reply's box, in a world behind another one -/
structure RBox (W w : World) (g : Nat) (code : Int) (A : Option Addr) (n c : Nat) : Prop where
  ch : Ch No W w
  blk : Blk w g 24 [.int .i64 code, .slice A n c]
theorem RBox.no {W w w' : World} {g : Nat} {code : Int} {A : Option Addr} {n c : Nat} (h : RBox W w g code A n c) (hc : Ch No w w') : RBox W w' g code A n c := ⟨h.ch.trans hc, h.blk.ch hc (fun h => h)⟩
theorem RBox.alloc {W w : World} {g : Nat} {code : Int} {A : Option Addr} {n c : Nat} (h : RBox W w g code A n c) (o : Obj) : RBox W (w.alloc o) g code A n c := ⟨h.ch.alloc _, h.blk.alloc _⟩
theorem RBox.c0 {W w : World} {g : Nat} {code : Int} {A : Option Addr} {n c : Nat} (h : RBox W w g code A n c) : w.cell? ⟨g, 0, none⟩ = some (.int .i64 code) := h.blk.cell 0
theorem RBox.c1 {W w : World} {g : Nat} {code : Int} {A : Option Addr} {n c : Nat} (h : RBox W w g code A n c) : w.cell? ⟨g, 1, none⟩ = some (.slice A n c) := h.blk.cell 1
theorem RBox.new (W w : World) (code : Int) (A : Option Addr) (n c : Nat) (h : Ch No W w) : RBox W (w.alloc (.cells #[.int .i64 code, .slice A n c] 24)) w.heap.size code A n c := ⟨h.alloc _, Blk.new w _ [.int .i64 code, .slice A n c]⟩

set_option maxHeartbeats 8000000 in
set_option maxRecDepth 100000 in
/-- the second half: what is read, is written -/
theorem replyBack_core (W : World) (code : Int) (A : Option Addr) (c : Nat) (ns : List Int) (Ab : Option Addr) (cb : Nat) (b : List Int) (hx : Cls W A (ints .i64 ns)) (hw : ∀ x ∈ ns, -9223372036854775808 ≤ x ∧ x ≤ 9223372036854775807) (hnl : ns.length ≤ 140737488351232) (hb : Cls W Ab (ints .u8 b)) (hbb : ∀ z ∈ b, isB z) (hbl : b.length ≤ 140737488351232) :
    Calls Try.prog 4 #[.agg #[.int .i64 code, .slice A ns.length c], .slice Ab b.length cb] W fun e w' => e = .returned (.bool true) ∧ Ch No W w' := by
  have al := fun w => repAlive_any w
  obtain ⟨N, hN⟩ : ∃ N, ns.length = N := ⟨_, rfl⟩
  obtain ⟨M, hM⟩ : ∃ M, b.length = M := ⟨_, rfl⟩
  have HX := Lib.hid (And.intro hN (And.intro hx hw))
  have HB := Lib.hid (And.intro hM (And.intro hb hbb))
  rw [hN] at hnl ⊢
  rw [hM] at hbl ⊢
  clear hN hM hx hw hb hbb
  have B0 := Lib.hid (RBox.new W W code A N c (Ch.refl _ _))
  go_enter Try.func4, Try.ntmps4
  go_wp2_with fail
  refine (al _).mono ?_
  rintro e w1 ⟨rfl, h1⟩
  have B1 := Lib.hid (B0.out.no h1)
  clear B0 h1 al
  have k0 := B1.out.c0
  have k1 := B1.out.c1
  by_cases h200 : 200 < N
  · go_wp2_with fail
    go_ret
    exact ⟨rfl, B1.out.ch⟩
  by_cases h1100 : 1100 < M
  · go_wp2_with fail
    go_ret
    exact ⟨rfl, B1.out.ch⟩
  have q := RepW_any code A c ns w1 (HX.out.2.1.ch B1.out.ch (fun _ _ h => h)) (by rw [HX.out.1]; omega)
  rw [HX.out.1] at q
  obtain ⟨we, hwe⟩ : ∃ we, wErr code N = we := ⟨_, rfl⟩
  obtain ⟨wo, hwo⟩ : ∃ wo, wOut code ns = wo := ⟨_, rfl⟩
  rw [hwe, hwo] at q
  have HQ := Lib.hid q
  have HO := Lib.hid (And.intro hwe hwo)
  clear q hwe hwo
  go_wp2_with fail
  refine HQ.out.mono ?_
  rintro e w2 ⟨A2, c2, rfl, o2, h2⟩
  have B2 := Lib.hid (B1.out.no h2)
  have O2 := Lib.hid o2.cls.1
  clear B1 h2 o2 HQ k0 k1
  by_cases hwe : we = 0
  · subst hwe
    obtain ⟨hc, hn⟩ := wErr_ok HO.out.1
    have hwo : wo = repB code ns := by rw [← HO.out.2]; unfold wOut; rw [HX.out.1, HO.out.1, if_pos rfl]
    have hlw : wo.length = 2 + 8 * N := by rw [hwo, repB_len, HX.out.1]
    have hn2 : ns.length ≤ 120 := by rw [HX.out.1]; exact hn
    have q := RepR_any w2 A2 c2 wo O2.out (by rw [hwo]; exact repB_isB hc hn2) (by omega)
    unfold ReadP at q
    rw [hwo, rErr_repB hn2, rCode_repB hn2, rNums_repB hn2 HX.out.2.2, repB_len, HX.out.1] at q
    have HQ := Lib.hid q
    rw [hlw]
    clear q hlw hwo hc hn2 O2
    go_wp2_with fail
    refine HQ.out.mono ?_
    rintro e w3 ⟨A3, c3, rfl, s3, _, h3⟩
    have B3 := Lib.hid (And.intro ((B2.out.no h3).alloc (.cells #[.int .i64 code, .slice A3 N c3] 24)) (And.intro (Blk.new w3 24 [.int .i64 code, .slice A3 N c3]) (s3.ch ((Ch.refl No w3).alloc (.cells #[.int .i64 code, .slice A3 N c3] 24)) (fun _ _ h => h))))
    clear h3 s3 B2 HQ
    have k0 := B3.out.1.c0
    have k1 := B3.out.1.c1
    have k2 := B3.out.2.1.cell 0
    have k3 := B3.out.2.1.cell 1
    simp only [List.getElem?_cons_zero, List.getElem?_cons_succ] at k2 k3
    go_wp2_with fail
    have q := RepSame_any code A3 c3 ns code A c ns _ B3.out.2.2 (HX.out.2.1.ch B3.out.1.ch (fun _ _ h => h)) (by rw [HX.out.1]; omega)
    rw [HX.out.1] at q
    simp only [true_and, decide_true] at q
    refine q.mono ?_
    clear q
    rintro e w4 ⟨rfl, h4⟩
    have BT := Lib.hid (B3.out.1.no h4)
    clear B3 h4 k0 k1 k2 k3
    have k1 := BT.out.c1
    go_wp2_with fail
    have q := RepR_any _ Ab cb b (HB.out.2.1.ch BT.out.ch (fun _ _ h => h)) HB.out.2.2 (by rw [HB.out.1]; omega)
    unfold ReadP at q
    rw [HB.out.1] at q
    obtain ⟨er, her⟩ : ∃ er, rErr b = er := ⟨_, rfl⟩
    obtain ⟨rc, hrc⟩ : ∃ rc, rCode b = rc := ⟨_, rfl⟩
    obtain ⟨rn, hrn⟩ : ∃ rn, rNums b = rn := ⟨_, rfl⟩
    rw [her, hrc, hrn] at q
    have HR := Lib.hid (And.intro her (And.intro hrc hrn))
    clear her hrc hrn
    refine q.mono ?_
    clear q
    rintro e w5 ⟨A5, c5, rfl, s5, _, h5⟩
    by_cases her : er = 0
    · subst her
      have hag := rep_again HB.out.2.2 HR.out.1
      rw [HR.out.2.1, HR.out.2.2] at hag
      obtain ⟨hg1, hg2⟩ := hag
      have HG := Lib.hid (And.intro hg1 hg2)
      have hr120 := (wErr_ok hg1).2
      obtain ⟨R, hR⟩ : ∃ R, rn.length = R := ⟨_, rfl⟩
      rw [hR] at hr120
      have B5 := Lib.hid (And.intro ((BT.out.no h5).alloc (.cells #[.int .i64 rc, .slice A5 R c5] 24)) (And.intro (Blk.new w5 24 [.int .i64 rc, .slice A5 R c5]) (And.intro (s5.ch ((Ch.refl No w5).alloc (.cells #[.int .i64 rc, .slice A5 R c5] 24)) (fun _ _ h => h)) hR)))
      rw [hR]
      clear BT h5 s5 hg1 hg2 hR
      have k2 := B5.out.2.1.cell 0
      have k3 := B5.out.2.1.cell 1
      simp only [List.getElem?_cons_zero, List.getElem?_cons_succ] at k2 k3
      go_wp2_with fail
      have q := RepW_any rc A5 c5 rn _ B5.out.2.2.1 (by rw [B5.out.2.2.2]; omega)
      rw [HG.out.1, HG.out.2] at q
      unfold WriteP at q
      rw [HB.out.1, B5.out.2.2.2] at q
      refine q.mono ?_
      clear q k2 k3
      rintro e w6 ⟨A6, c6, rfl, o6, h6⟩
      have q := Same_any w6 A6 c6 b Ab cb b o6.cls.1 (HB.out.2.1.ch (B5.out.1.ch.trans h6) (fun _ _ h => h)) HB.out.2.2 HB.out.2.2
      rw [HB.out.1] at q
      have B6 := Lib.hid (And.intro (B5.out.1.ch.trans h6) q)
      clear q h6 o6 B5
      go_wp2_with fail
      refine B6.out.2.mono ?_
      rintro e w7 ⟨rfl, rfl⟩
      simp only [decide_true]
      go_wp2_with fail
      go_ret
      exact ⟨rfl, B6.out.1⟩
    · have hrc : rc = 0 := by
        rw [← HR.out.2.1]
        unfold rCode
        rw [if_neg (by rw [HR.out.1]; exact her)]
      have hrn : rn = [] := by
        rw [← HR.out.2.2]
        unfold rNums
        rw [if_neg (by rw [HR.out.1]; exact her)]
      subst hrc
      subst hrn
      have B5 := Lib.hid (And.intro ((BT.out.no h5).alloc (.cells #[.int .i64 0, .slice A5 0 c5] 24)) (And.intro (Blk.new w5 24 [.int .i64 0, .slice A5 0 c5]) (s5.ch ((Ch.refl No w5).alloc (.cells #[.int .i64 0, .slice A5 0 c5] 24)) (fun _ _ h => h))))
      simp only [List.length_nil]
      clear BT h5 s5
      have k2 := B5.out.2.1.cell 0
      have k3 := B5.out.2.1.cell 1
      simp only [List.getElem?_cons_zero, List.getElem?_cons_succ] at k2 k3
      go_wp2_with fail
      refine (RepSame_any 0 A5 c5 [] 0 none 0 [] _ B5.out.2.2 (Cls.nil _ _) (by simp)).mono ?_
      rintro e w6 ⟨rfl, h6⟩
      simp only [true_and, decide_true]
      have B6 := Lib.hid (B5.out.1.ch.trans h6)
      clear h6 B5 k2 k3
      go_wp2_with fail
      go_ret
      exact ⟨rfl, B6.out⟩
  · have BT := B2
    clear B2 O2
    go_wp2_with fail
    have q := RepR_any _ Ab cb b (HB.out.2.1.ch BT.out.ch (fun _ _ h => h)) HB.out.2.2 (by rw [HB.out.1]; omega)
    unfold ReadP at q
    rw [HB.out.1] at q
    obtain ⟨er, her⟩ : ∃ er, rErr b = er := ⟨_, rfl⟩
    obtain ⟨rc, hrc⟩ : ∃ rc, rCode b = rc := ⟨_, rfl⟩
    obtain ⟨rn, hrn⟩ : ∃ rn, rNums b = rn := ⟨_, rfl⟩
    rw [her, hrc, hrn] at q
    have HR := Lib.hid (And.intro her (And.intro hrc hrn))
    clear her hrc hrn
    refine q.mono ?_
    clear q
    rintro e w5 ⟨A5, c5, rfl, s5, _, h5⟩
    by_cases her : er = 0
    · subst her
      have hag := rep_again HB.out.2.2 HR.out.1
      rw [HR.out.2.1, HR.out.2.2] at hag
      obtain ⟨hg1, hg2⟩ := hag
      have HG := Lib.hid (And.intro hg1 hg2)
      have hr120 := (wErr_ok hg1).2
      obtain ⟨R, hR⟩ : ∃ R, rn.length = R := ⟨_, rfl⟩
      rw [hR] at hr120
      have B5 := Lib.hid (And.intro ((BT.out.no h5).alloc (.cells #[.int .i64 rc, .slice A5 R c5] 24)) (And.intro (Blk.new w5 24 [.int .i64 rc, .slice A5 R c5]) (And.intro (s5.ch ((Ch.refl No w5).alloc (.cells #[.int .i64 rc, .slice A5 R c5] 24)) (fun _ _ h => h)) hR)))
      rw [hR]
      clear BT h5 s5 hg1 hg2 hR
      have k2 := B5.out.2.1.cell 0
      have k3 := B5.out.2.1.cell 1
      simp only [List.getElem?_cons_zero, List.getElem?_cons_succ] at k2 k3
      go_wp2_with fail
      have q := RepW_any rc A5 c5 rn _ B5.out.2.2.1 (by rw [B5.out.2.2.2]; omega)
      rw [HG.out.1, HG.out.2] at q
      unfold WriteP at q
      rw [HB.out.1, B5.out.2.2.2] at q
      refine q.mono ?_
      clear q k2 k3
      rintro e w6 ⟨A6, c6, rfl, o6, h6⟩
      have q := Same_any w6 A6 c6 b Ab cb b o6.cls.1 (HB.out.2.1.ch (B5.out.1.ch.trans h6) (fun _ _ h => h)) HB.out.2.2 HB.out.2.2
      rw [HB.out.1] at q
      have B6 := Lib.hid (And.intro (B5.out.1.ch.trans h6) q)
      clear q h6 o6 B5
      go_wp2_with fail
      refine B6.out.2.mono ?_
      rintro e w7 ⟨rfl, rfl⟩
      simp only [decide_true]
      go_wp2_with fail
      go_ret
      exact ⟨rfl, B6.out.1⟩
    · have hrc : rc = 0 := by
        rw [← HR.out.2.1]
        unfold rCode
        rw [if_neg (by rw [HR.out.1]; exact her)]
      have hrn : rn = [] := by
        rw [← HR.out.2.2]
        unfold rNums
        rw [if_neg (by rw [HR.out.1]; exact her)]
      subst hrc
      subst hrn
      have B5 := Lib.hid (And.intro ((BT.out.no h5).alloc (.cells #[.int .i64 0, .slice A5 0 c5] 24)) (And.intro (Blk.new w5 24 [.int .i64 0, .slice A5 0 c5]) (s5.ch ((Ch.refl No w5).alloc (.cells #[.int .i64 0, .slice A5 0 c5] 24)) (fun _ _ h => h))))
      simp only [List.length_nil]
      clear BT h5 s5
      have k2 := B5.out.2.1.cell 0
      have k3 := B5.out.2.1.cell 1
      simp only [List.getElem?_cons_zero, List.getElem?_cons_succ] at k2 k3
      go_wp2_with fail
      refine (RepSame_any 0 A5 c5 [] 0 none 0 [] _ B5.out.2.2 (Cls.nil _ _) (by simp)).mono ?_
      rintro e w6 ⟨rfl, h6⟩
      simp only [true_and, decide_true]
      have B6 := Lib.hid (B5.out.1.ch.trans h6)
      clear h6 B5 k2 k3
      go_wp2_with fail
      go_ret
      exact ⟨rfl, B6.out⟩

theorem replyBack_walk (W : World) (cs0 : Array Value) (a1 : Option Addr) (cap1 : Nat) (xs1 : List Int) (rd0 : Rd Try.prog W 8 24 cs0.toList) (c1 : Cls W a1 (ints .u8 xs1)) (_l1 : xs1.length ≤ cap1) (b1 : xs1.length * 1 ≤ 140737488351232) (w1 : ∀ x ∈ xs1, (Lit.int .u8 x).wf = true) :
    Calls Try.prog 4 #[.agg cs0, .slice a1 xs1.length cap1] W fun e w' => e = .returned (.bool true) ∧ Below W.heap.size W w' := by
  obtain ⟨code, A, c, xs, rfl, _, hx, _, hl, hw⟩ := rep_arg rd0
  exact (replyBack_core W code A c xs a1 cap1 xs1 hx hw hl c1 (isB_of w1) (by omega)).mono fun e w' ⟨h1, h2⟩ => ⟨h1, h2.same⟩
end Go.Proofs.Ytpjcfelknkddfaa
