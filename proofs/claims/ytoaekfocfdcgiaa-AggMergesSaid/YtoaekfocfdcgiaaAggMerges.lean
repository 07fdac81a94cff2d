/- AggMerges: merging goes in any order, and nothing is nothing: the walk. -/
import Derived.Test.YtoaekfocfdcgiaaAggAlive
import Derived.Test.YtoaekfocfdcgiaaPert
import Derived.Test.YtoaekfocfdcgiaaStep
import Derived.Deep.Cut
namespace Go.Proofs.Ytoaekfocfdcgiaa
open Go.RowKit

theorem run_min2 (ts : Array TypeId) (t : TypeId) (a b : Int) (w : World) : (Builtin.min_ ts t #[.int .i64 a, .int .i64 b]).run Try.prog w = .ok (.int .i64 (if b < a then b else a)) w := by
  simp [Builtin.min_, Builtin.min2]
theorem tells_zero {a : Ag} {xs : List Int} (h : Tells a xs) (hc : a.c < 1) : a = agNone := by
  have : xs = [] := by
    have := h.c
    cases xs with
    | nil => rfl
    | cons x xs => simp at this; omega
  subst this
  exact h.unique tells_none
theorem merge_none {a b : Ag} {xs : List Int} (h : Tells a xs) (hb : b.c < 1) : agMerge a b = a ∧ agMerge b a = a := by
  unfold agMerge
  by_cases hc : a.c < 1
  · rw [if_pos hc, if_pos hb, if_pos hb, if_pos hc, tells_zero h hc]
    exact ⟨rfl, rfl⟩
  · rw [if_neg hc, if_pos hb, if_pos hb, if_neg hc]
    exact ⟨rfl, rfl⟩
theorem none_none {b : Ag} (hb : b.c < 1) : agMerge b b = agNone := by
  unfold agMerge
  rw [if_pos hb, if_pos hb]
theorem blk_drw {w : World} {g : Nat} {t : TypeId} {vs : List Value} (h : Blk w g t vs) : Blk w.drew g t vs := h
/-- what lies there while the answers are told -/
structure Mg (g0 g1 g2 g3 : Nat) (x y z o : Ag) (A B : Option Addr) (a b : List Int) (w : World) : Prop where
  x : Blk w g0 63 [.int .i64 x.c, .int .i64 x.s, .int .i64 x.l, .int .i64 x.h]
  y : Blk w g1 63 [.int .i64 y.c, .int .i64 y.s, .int .i64 y.l, .int .i64 y.h]
  z : Blk w g2 63 [.int .i64 z.c, .int .i64 z.s, .int .i64 z.l, .int .i64 z.h]
  o : Blk w g3 63 [.int .i64 o.c, .int .i64 o.s, .int .i64 o.l, .int .i64 o.h]
  ra : Cls w A (ints .i64 a)
  rb : Cls w B (ints .i64 b)
  fa : ∀ ad, A = some ad → a = [] ∨ ad.block < g0
  fb : ∀ ad, B = some ad → b = [] ∨ ad.block < g0
theorem Mg.no {g0 g1 g2 g3 : Nat} {x y z o : Ag} {A B : Option Addr} {a b : List Int} (w w' : World) (h : Mg g0 g1 g2 g3 x y z o A B a b w) (hc : Ch No w w') : Mg g0 g1 g2 g3 x y z o A B a b w' :=
  ⟨h.x.ch hc (fun h => h), h.y.ch hc (fun h => h), h.z.ch hc (fun h => h), h.o.ch hc (fun h => h), h.ra.ch hc (fun _ _ h => h), h.rb.ch hc (fun _ _ h => h), h.fa, h.fb⟩
theorem Mg.grow {S : Nat → Prop} {g0 : Nat} {x y z o : Ag} {A B : Option Addr} {a b : List Int} {w w' : World} (h : Mg g0 (g0 + 1) (g0 + 1 + 1) (g0 + 1 + 1 + 1) x y z o A B a b w) (hc : Ch S w w') (hS : ∀ k, S k → g0 + 1 + 1 + 1 + 1 ≤ k) : Mg g0 (g0 + 1) (g0 + 1 + 1) (g0 + 1 + 1 + 1) x y z o A B a b w' := by
  refine ⟨h.x.ch hc (fun h => by have := hS _ h; omega), h.y.ch hc (fun h => by have := hS _ h; omega), h.z.ch hc (fun h => by have := hS _ h; omega), h.o.ch hc (fun h => by have := hS _ h; omega), ?_, ?_, h.fa, h.fb⟩
  · by_cases h0 : a = []
    · rw [h0]; exact Cls.nil _ _
    · exact h.ra.ch hc (fun ad hd hs => by have := hS _ hs; have := (h.fa ad hd).resolve_left h0; omega)
  · by_cases h0 : b = []
    · rw [h0]; exact Cls.nil _ _
    · exact h.rb.ch hc (fun ad hd hs => by have := hS _ hs; have := (h.fb ad hd).resolve_left h0; omega)
theorem cls_far {w : World} {A : Option Addr} {a : List Int} (h : Cls w A (ints .i64 a)) {ad : Addr} (hd : A = some ad) : a = [] ∨ ad.block < w.heap.size := by
  cases a with
  | nil => exact .inl rfl
  | cons x xs =>
    obtain ⟨b, off, hA, hc⟩ := h [] (.int .i64 x) (ints .i64 xs) rfl
    rw [hd] at hA
    cases hA
    exact .inr (World.block_lt_of_cell? _ _ hc)

set_option maxHeartbeats 40000000 in
set_option maxRecDepth 100000 in
theorem aggMerges_core (W : World) (A B C : Option Addr) (ca cb cc : Nat) (a b c : List Int) (n : Int) (ha : Cls W A (ints .i64 a)) (hb : Cls W B (ints .i64 b)) (hc : Cls W C (ints .i64 c)) (wa : ∀ x ∈ a, wfI x) (wb : ∀ x ∈ b, wfI x) (wc : ∀ x ∈ c, wfI x) (hla : a.length ≤ 17592186044416) (hlb : b.length ≤ 17592186044416) (hlc : c.length ≤ 17592186044416) :
    Calls Try.prog 13 #[.slice A a.length ca, .slice B b.length cb, .slice C c.length cc, .int .i64 n] W fun e w' => e = .returned (.bool true) ∧ Ch No W w' := by
  obtain ⟨la, ea⟩ : ∃ l, a.length = l := ⟨_, rfl⟩
  obtain ⟨lb, eb⟩ : ∃ l, b.length = l := ⟨_, rfl⟩
  obtain ⟨lc, ec⟩ : ∃ l, c.length = l := ⟨_, rfl⟩
  have al := fun w => aggAlive_any w
  by_cases hbig : 100 < la ∨ 100 < lb ∨ 100 < lc
  · rw [ea] at hla ⊢
    rw [eb] at hlb ⊢
    rw [ec] at hlc ⊢
    clear ea eb ec ha hb hc wa wb wc
    by_cases h1 : 100 < la
    all_goals by_cases h2 : 100 < lb
    all_goals by_cases h3 : 100 < lc
    all_goals try (exfalso; omega)
    all_goals
      clear hbig
      go_enter Try.func13, Try.ntmps13
      go_wp2_with fail
      refine (al _).mono ?_
      rintro e w1 ⟨rfl, h1⟩
      have H1 := Lib.hid h1
      clear h1 al
      go_wp2_with fail
      go_ret
      exact ⟨rfl, H1.out⟩
  have ka : la ≤ 100 := by omega
  have kb : lb ≤ 100 := by omega
  have kc : lc ≤ 100 := by omega
  have T1 := tells_of a wa (by omega)
  have T2 := tells_of b wb (by omega)
  have T3 := tells_of c wc (by omega)
  have T12 := T1.merge T2 (by omega)
  have T21 := T2.merge T1 (by omega)
  have T23 := T2.merge T3 (by omega)
  have T1_23 := T1.merge T23 (by rw [List.length_append]; omega)
  have T12_3 := T12.merge T3 (by rw [List.length_append]; omega)
  have TA := tells_of (a ++ b) (fun x hx => (List.mem_append.1 hx).elim (wa x) (wb x)) (by rw [List.length_append]; omega)
  have e1 : agMerge (agOf b) (agOf a) = agMerge (agOf a) (agOf b) := (T21.perm List.perm_append_comm).unique T12
  have e2 : agMerge (agMerge (agOf a) (agOf b)) (agOf c) = agMerge (agOf a) (agMerge (agOf b) (agOf c)) := by
    rw [List.append_assoc] at T12_3
    exact T12_3.unique T1_23
  have e3 : agOf (a ++ b) = agMerge (agOf a) (agOf b) := TA.unique T12
  have hmn := fun ts t w => run_min2 ts t n 0 w
  obtain ⟨mn, hm0⟩ : ∃ mn, (if (0 : Int) < n then 0 else n) = mn := ⟨_, rfl⟩
  rw [hm0] at hmn
  have hmn1 : mn < 1 := by split at hm0 <;> omega
  obtain ⟨o, ho⟩ : ∃ o : Ag, (⟨mn, 9, 3, -2⟩ : Ag) = o := ⟨_, rfl⟩
  have hoc : o.c < 1 := by rw [← ho]; exact hmn1
  obtain ⟨e4, e5⟩ := merge_none T1 hoc
  have e6 := none_none hoc
  have OA := fun w (h : Cls w A (ints .i64 a)) => LOf_any a A ca w h (by omega)
  have OB := fun w (h : Cls w B (ints .i64 b)) => LOf_any b B cb w h (by omega)
  have OC := fun w (h : Cls w C (ints .i64 c)) => LOf_any c C cc w h (by omega)
  have OAB := fun w D cd (h : Cls w D (ints .i64 (a ++ b))) => LOf_any (a ++ b) D cd w h (by rw [List.length_append]; omega)
  rw [e3, List.length_append, ea, eb] at OAB
  have M1 := fun w => LMerge_any (agOf a) (agOf b) w
  have M2 := fun w => LMerge_any (agOf b) (agOf a) w
  have M3 := fun w => LMerge_any (agOf b) (agOf c) w
  have M4 := fun w => LMerge_any (agOf a) (agMerge (agOf b) (agOf c)) w
  have M5 := fun w => LMerge_any (agMerge (agOf a) (agOf b)) (agOf c) w
  have M6 := fun w => LMerge_any (agOf a) o w
  have M7 := fun w => LMerge_any o (agOf a) w
  have M8 := fun w => LMerge_any o o w
  rw [e1] at M2
  rw [e2] at M5
  rw [e4] at M6
  rw [e5] at M7
  rw [e6] at M8
  generalize agMerge (agOf a) (agMerge (agOf b) (agOf c)) = r at *
  generalize agMerge (agOf a) (agOf b) = p at *
  generalize agMerge (agOf b) (agOf c) = q at *
  generalize agOf a = x at *
  generalize agOf b = y at *
  generalize agOf c = z at *
  have HX := Lib.hid (And.intro ha (And.intro hb hc))
  rw [ea] at OA hla ⊢
  rw [eb] at OB hlb ⊢
  rw [ec] at OC hlc ⊢
  unfold agV at M1 M2 M3 M4 M5 M6 M7 M8 OA OB OC OAB
  simp only [agNone] at M8
  have HO := Lib.hid (And.intro OA (And.intro OB (And.intro OC OAB)))
  have HM := Lib.hid (And.intro M1 (And.intro M2 (And.intro M3 (And.intro M4 (And.intro M5 (And.intro M6 (And.intro M7 M8)))))))
  have HE := Lib.hid (And.intro ea (And.intro eb ho))
  clear ha hb hc wa wb wc T1 T2 T3 T12 T21 T23 T1_23 T12_3 TA e1 e2 e3 e4 e5 e6 hoc hm0 OA OB OC OAB M1 M2 M3 M4 M5 M6 M7 M8 ea eb ec ho hbig
  go_enter Try.func13, Try.ntmps13
  go_wp2_with fail
  refine (al _).mono ?_
  rintro e w1 ⟨rfl, h1⟩
  have H1 := Lib.hid h1
  clear h1 al
  go_wp2_with fail
  refine (HO.out.1 _ (HX.out.1.ch H1.out (fun _ _ h => h))).mono ?_
  rintro e w2 ⟨rfl, h2⟩
  have H2 := Lib.hid (H1.out.trans h2)
  clear h2
  go_wp2_with fail
  refine (HO.out.2.1 _ (HX.out.2.1.ch H2.out (fun _ _ h => h))).mono ?_
  rintro e w3 ⟨rfl, h3⟩
  have H3 := Lib.hid (H2.out.trans h3)
  clear h3
  go_wp2_with fail
  refine (HO.out.2.2.1 _ (HX.out.2.2.ch H3.out (fun _ _ h => h))).mono ?_
  rintro e w4 ⟨rfl, h4⟩
  have H4 := Lib.hid (H3.out.trans h4)
  clear h4
  go_upto_region 8 with fail
  have hT0 : Hid (Mg w4.heap.size (w4.heap.size + 1) (w4.heap.size + 1 + 1) (w4.heap.size + 1 + 1 + 1) x y z o A B a b ((((w4.alloc (.cells #[.int .i64 x.c, .int .i64 x.s, .int .i64 x.l, .int .i64 x.h] 63)).alloc (.cells #[.int .i64 y.c, .int .i64 y.s, .int .i64 y.l, .int .i64 y.h] 63)).alloc (.cells #[.int .i64 z.c, .int .i64 z.s, .int .i64 z.l, .int .i64 z.h] 63)).alloc (.cells #[.int .i64 mn, .int .i64 9, .int .i64 3, .int .i64 (-2)] 63)).drew ∧ Ch No W ((((w4.alloc (.cells #[.int .i64 x.c, .int .i64 x.s, .int .i64 x.l, .int .i64 x.h] 63)).alloc (.cells #[.int .i64 y.c, .int .i64 y.s, .int .i64 y.l, .int .i64 y.h] 63)).alloc (.cells #[.int .i64 z.c, .int .i64 z.s, .int .i64 z.l, .int .i64 z.h] 63)).alloc (.cells #[.int .i64 mn, .int .i64 9, .int .i64 3, .int .i64 (-2)] 63)).drew) := Lib.hid (by
    have b0 := (((Blk.new w4 63 [.int .i64 x.c, .int .i64 x.s, .int .i64 x.l, .int .i64 x.h]).alloc (.cells #[.int .i64 y.c, .int .i64 y.s, .int .i64 y.l, .int .i64 y.h] 63)).alloc (.cells #[.int .i64 z.c, .int .i64 z.s, .int .i64 z.l, .int .i64 z.h] 63)).alloc (.cells #[.int .i64 mn, .int .i64 9, .int .i64 3, .int .i64 (-2)] 63)
    have b1 := ((Blk.new (w4.alloc (.cells #[.int .i64 x.c, .int .i64 x.s, .int .i64 x.l, .int .i64 x.h] 63)) 63 [.int .i64 y.c, .int .i64 y.s, .int .i64 y.l, .int .i64 y.h]).alloc (.cells #[.int .i64 z.c, .int .i64 z.s, .int .i64 z.l, .int .i64 z.h] 63)).alloc (.cells #[.int .i64 mn, .int .i64 9, .int .i64 3, .int .i64 (-2)] 63)
    have b2 := (Blk.new ((w4.alloc (.cells #[.int .i64 x.c, .int .i64 x.s, .int .i64 x.l, .int .i64 x.h] 63)).alloc (.cells #[.int .i64 y.c, .int .i64 y.s, .int .i64 y.l, .int .i64 y.h] 63)) 63 [.int .i64 z.c, .int .i64 z.s, .int .i64 z.l, .int .i64 z.h]).alloc (.cells #[.int .i64 mn, .int .i64 9, .int .i64 3, .int .i64 (-2)] 63)
    have b3 := Blk.new (((w4.alloc (.cells #[.int .i64 x.c, .int .i64 x.s, .int .i64 x.l, .int .i64 x.h] 63)).alloc (.cells #[.int .i64 y.c, .int .i64 y.s, .int .i64 y.l, .int .i64 y.h] 63)).alloc (.cells #[.int .i64 z.c, .int .i64 z.s, .int .i64 z.l, .int .i64 z.h] 63)) 63 [.int .i64 mn, .int .i64 9, .int .i64 3, .int .i64 (-2)]
    have hc4 := (((((Ch.refl No w4).alloc (.cells #[.int .i64 x.c, .int .i64 x.s, .int .i64 x.l, .int .i64 x.h] 63)).alloc (.cells #[.int .i64 y.c, .int .i64 y.s, .int .i64 y.l, .int .i64 y.h] 63)).alloc (.cells #[.int .i64 z.c, .int .i64 z.s, .int .i64 z.l, .int .i64 z.h] 63)).alloc (.cells #[.int .i64 mn, .int .i64 9, .int .i64 3, .int .i64 (-2)] 63)).drew
    have hs := H4.out.size
    have hca := (HX.out.1.ch H4.out (fun _ _ h => h)).ch hc4 (fun _ _ h => h)
    have hcb := (HX.out.2.1.ch H4.out (fun _ _ h => h)).ch hc4 (fun _ _ h => h)
    rw [← HE.out.2.2]
    exact ⟨⟨blk_drw (by simpa using b0), blk_drw (by simpa using b1), blk_drw (by simpa using b2), blk_drw (by simpa using b3), hca, hcb, fun ad hd => (cls_far HX.out.1 hd).imp id (fun h => by omega), fun ad hd => (cls_far HX.out.2.1 hd).imp id (fun h => by omega)⟩, H4.out.trans hc4⟩)
  have hlow : W.heap.size ≤ w4.heap.size := H4.out.size
  refine region_pert (T := Mg w4.heap.size (w4.heap.size + 1) (w4.heap.size + 1 + 1) (w4.heap.size + 1 + 1 + 1) x y z o A B a b) (s := 59) (by kernel_rfl) (fun hT => ?_) hT0.out.1
  generalize w4.heap.size = g0 at *
  have HC := Lib.hid hT0.out.2
  generalize ((((w4.alloc (.cells #[.int .i64 x.c, .int .i64 x.s, .int .i64 x.l, .int .i64 x.h] 63)).alloc (.cells #[.int .i64 y.c, .int .i64 y.s, .int .i64 y.l, .int .i64 y.h] 63)).alloc (.cells #[.int .i64 z.c, .int .i64 z.s, .int .i64 z.l, .int .i64 z.h] 63)).alloc (.cells #[.int .i64 mn, .int .i64 9, .int .i64 3, .int .i64 (-2)] 63)).drew = wd at *
  clear hT0
  refine wpP_take [3, 7, 9, 23, 26, 30, 34, 38, 42, 46, 50, 59] (i := 0) (v := ?v0) rfl (by kernel_rfl) (by kernel_rfl) (by kernel_rfl) (fun w w' h hc => h.no w w' hc) (fun _ _ _ h => by cases h.1) _ _ _ _ (by kernel_rfl) (by kernel_rfl) (by kernel_rfl) (Or.inl ⟨by kernel_rfl, fun w' hw' => ?y0⟩) hT ?r0
  case y0 =>
    go_simp
    all_goals first | exact quiet_value | exact ⟨rfl, Ch.refl _ _⟩
  case r0 =>
    simp only [Act.put]
    refine wpP_take [3, 7, 9, 23, 26, 30, 34, 38, 42, 46, 50, 59] (i := 1) (v := ?v1) rfl (by kernel_rfl) (by kernel_rfl) (by kernel_rfl) (fun w w' h hc => h.no w w' hc) (fun _ _ _ h => by cases h.1) _ _ _ _ (by kernel_rfl) (by kernel_rfl) (by kernel_rfl) (Or.inl ⟨by kernel_rfl, fun w' hw' => ?y1⟩) hT ?r1
    case y1 =>
      have k0 := hw'.x.cell 0
      have k1 := hw'.x.cell 1
      have k2 := hw'.x.cell 2
      have k3 := hw'.x.cell 3
      simp only [List.getElem?_cons_zero, List.getElem?_cons_succ] at k0 k1 k2 k3
      go_simp
      all_goals first | exact quiet_value | exact ⟨rfl, Ch.refl _ _⟩
    case r1 =>
      simp only [Act.put]
      refine wpP_take [3, 7, 9, 23, 26, 30, 34, 38, 42, 46, 50, 59] (i := 2) (v := ?v2) rfl (by kernel_rfl) (by kernel_rfl) (by kernel_rfl) (fun w w' h hc => h.no w w' hc) (fun _ _ _ h => by cases h.1) _ _ _ _ (by kernel_rfl) (by kernel_rfl) (by kernel_rfl) (Or.inl ⟨by kernel_rfl, fun w' hw' => ?y2⟩) hT ?r2
      case y2 =>
        have k0 := hw'.y.cell 0
        have k1 := hw'.y.cell 1
        have k2 := hw'.y.cell 2
        have k3 := hw'.y.cell 3
        simp only [List.getElem?_cons_zero, List.getElem?_cons_succ] at k0 k1 k2 k3
        go_simp
        all_goals first | exact quiet_value | exact ⟨rfl, Ch.refl _ _⟩
      case r2 =>
        simp only [Act.put]
        refine wpP_take [7, 9, 23, 26, 30, 34, 38, 42, 46, 50, 59] (i := 3) (v := .agg #[.int .i64 p.c, .int .i64 p.s, .int .i64 p.l, .int .i64 p.h]) rfl (by kernel_rfl) (by kernel_rfl) (by kernel_rfl) (fun w w' h hc => h.no w w' hc) (fun _ _ _ h => by cases h.1) _ _ _ _ (by kernel_rfl) (by kernel_rfl) (by kernel_rfl) (Or.inl ⟨by kernel_rfl, fun w' hw' => ?y3⟩) hT ?r3
        case y3 =>
          go_simp
          exact quiet_enter (HM.out.1 _)
        case r3 =>
          simp only [Act.put]
          refine wpP_take [7, 9, 23, 26, 30, 34, 38, 42, 46, 50, 59] (i := 4) (v := ?v4) rfl (by kernel_rfl) (by kernel_rfl) (by kernel_rfl) (fun w w' h hc => h.no w w' hc) (fun _ _ _ h => by cases h.1) _ _ _ _ (by kernel_rfl) (by kernel_rfl) (by kernel_rfl) (Or.inl ⟨by kernel_rfl, fun w' hw' => ?y4⟩) hT ?r4
          case y4 =>
            go_simp
            all_goals first | exact quiet_value | exact ⟨rfl, Ch.refl _ _⟩
          case r4 =>
            simp only [Act.put]
            refine wpP_take [7, 9, 23, 26, 30, 34, 38, 42, 46, 50, 59] (i := 5) (v := ?v5) rfl (by kernel_rfl) (by kernel_rfl) (by kernel_rfl) (fun w w' h hc => h.no w w' hc) (fun _ _ _ h => by cases h.1) _ _ _ _ (by kernel_rfl) (by kernel_rfl) (by kernel_rfl) (Or.inl ⟨by kernel_rfl, fun w' hw' => ?y5⟩) hT ?r5
            case y5 =>
              have k0 := hw'.y.cell 0
              have k1 := hw'.y.cell 1
              have k2 := hw'.y.cell 2
              have k3 := hw'.y.cell 3
              simp only [List.getElem?_cons_zero, List.getElem?_cons_succ] at k0 k1 k2 k3
              go_simp
              all_goals first | exact quiet_value | exact ⟨rfl, Ch.refl _ _⟩
            case r5 =>
              simp only [Act.put]
              refine wpP_take [7, 9, 23, 26, 30, 34, 38, 42, 46, 50, 59] (i := 6) (v := ?v6) rfl (by kernel_rfl) (by kernel_rfl) (by kernel_rfl) (fun w w' h hc => h.no w w' hc) (fun _ _ _ h => by cases h.1) _ _ _ _ (by kernel_rfl) (by kernel_rfl) (by kernel_rfl) (Or.inl ⟨by kernel_rfl, fun w' hw' => ?y6⟩) hT ?r6
              case y6 =>
                have k0 := hw'.x.cell 0
                have k1 := hw'.x.cell 1
                have k2 := hw'.x.cell 2
                have k3 := hw'.x.cell 3
                simp only [List.getElem?_cons_zero, List.getElem?_cons_succ] at k0 k1 k2 k3
                go_simp
                all_goals first | exact quiet_value | exact ⟨rfl, Ch.refl _ _⟩
              case r6 =>
                simp only [Act.put]
                refine wpP_take [9, 23, 26, 30, 34, 38, 42, 46, 50, 59] (i := 7) (v := .agg #[.int .i64 p.c, .int .i64 p.s, .int .i64 p.l, .int .i64 p.h]) rfl (by kernel_rfl) (by kernel_rfl) (by kernel_rfl) (fun w w' h hc => h.no w w' hc) (fun _ _ _ h => by cases h.1) _ _ _ _ (by kernel_rfl) (by kernel_rfl) (by kernel_rfl) (Or.inl ⟨by kernel_rfl, fun w' hw' => ?y7⟩) hT ?r7
                case y7 =>
                  go_simp
                  exact quiet_enter (HM.out.2.1 _)
                case r7 =>
                  simp only [Act.put]
                  refine wpP_take [9, 23, 26, 30, 34, 38, 42, 46, 50, 59] (i := 8) (v := ?v8) rfl (by kernel_rfl) (by kernel_rfl) (by kernel_rfl) (fun w w' h hc => h.no w w' hc) (fun _ _ _ h => by cases h.1) _ _ _ _ (by kernel_rfl) (by kernel_rfl) (by kernel_rfl) (Or.inl ⟨by kernel_rfl, fun w' hw' => ?y8⟩) hT ?r8
                  case y8 =>
                    go_simp
                    all_goals first | exact quiet_value | exact ⟨rfl, Ch.refl _ _⟩
                  case r8 =>
                    simp only [Act.put]
                    refine wpP_take [23, 26, 30, 34, 38, 42, 46, 50, 59] (i := 9) (v := ?v9) rfl (by kernel_rfl) (by kernel_rfl) (by kernel_rfl) (fun w w' h hc => h.no w w' hc) (fun _ _ _ h => by cases h.1) _ _ _ _ (by kernel_rfl) (by kernel_rfl) (by kernel_rfl) (Or.inl ⟨by kernel_rfl, fun w' hw' => ?y9⟩) hT ?r9
                    case y9 =>
                      go_simp
                      all_goals first | exact quiet_value | exact ⟨rfl, Ch.refl _ _⟩
                    case r9 =>
                      simp only [Act.put]
                      refine wpP_take [16, 21, 23, 26, 30, 34, 38, 42, 46, 50, 59] (i := 10) (v := ?v10) rfl (by kernel_rfl) (by kernel_rfl) (by kernel_rfl) (fun w w' h hc => h.no w w' hc) (fun _ _ _ h => by cases h.1) _ _ _ _ (by kernel_rfl) (by kernel_rfl) (by kernel_rfl) (Or.inl ⟨by kernel_rfl, fun w' hw' => ?y10⟩) hT ?r10
                      case y10 =>
                        go_simp
                        all_goals first | exact quiet_value | exact ⟨rfl, Ch.refl _ _⟩
                      case r10 =>
                        simp only [Act.put]
                        refine wpP_take [16, 21, 23, 26, 30, 34, 38, 42, 46, 50, 59] (i := 11) (v := ?v11) rfl (by kernel_rfl) (by kernel_rfl) (by kernel_rfl) (fun w w' h hc => h.no w w' hc) (fun _ _ _ h => by cases h.1) _ _ _ _ (by kernel_rfl) (by kernel_rfl) (by kernel_rfl) (Or.inl ⟨by kernel_rfl, fun w' hw' => ?y11⟩) hT ?r11
                        case y11 =>
                          have k0 := hw'.x.cell 0
                          have k1 := hw'.x.cell 1
                          have k2 := hw'.x.cell 2
                          have k3 := hw'.x.cell 3
                          simp only [List.getElem?_cons_zero, List.getElem?_cons_succ] at k0 k1 k2 k3
                          go_simp
                          all_goals first | exact quiet_value | exact ⟨rfl, Ch.refl _ _⟩
                        case r11 =>
                          simp only [Act.put]
                          refine wpP_take [15, 16, 21, 23, 26, 30, 34, 38, 42, 46, 50, 59] (i := 12) (v := ?v12) rfl (by kernel_rfl) (by kernel_rfl) (by kernel_rfl) (fun w w' h hc => h.no w w' hc) (fun _ _ _ h => by cases h.1) _ _ _ _ (by kernel_rfl) (by kernel_rfl) (by kernel_rfl) (Or.inl ⟨by kernel_rfl, fun w' hw' => ?y12⟩) hT ?r12
                          case y12 =>
                            go_simp
                            all_goals first | exact quiet_value | exact ⟨rfl, Ch.refl _ _⟩
                          case r12 =>
                            simp only [Act.put]
                            refine wpP_take [15, 16, 21, 23, 26, 30, 34, 38, 42, 46, 50, 59] (i := 13) (v := ?v13) rfl (by kernel_rfl) (by kernel_rfl) (by kernel_rfl) (fun w w' h hc => h.no w w' hc) (fun _ _ _ h => by cases h.1) _ _ _ _ (by kernel_rfl) (by kernel_rfl) (by kernel_rfl) (Or.inl ⟨by kernel_rfl, fun w' hw' => ?y13⟩) hT ?r13
                            case y13 =>
                              have k0 := hw'.y.cell 0
                              have k1 := hw'.y.cell 1
                              have k2 := hw'.y.cell 2
                              have k3 := hw'.y.cell 3
                              simp only [List.getElem?_cons_zero, List.getElem?_cons_succ] at k0 k1 k2 k3
                              go_simp
                              all_goals first | exact quiet_value | exact ⟨rfl, Ch.refl _ _⟩
                            case r13 =>
                              simp only [Act.put]
                              refine wpP_take [15, 16, 21, 23, 26, 30, 34, 38, 42, 46, 50, 59] (i := 14) (v := ?v14) rfl (by kernel_rfl) (by kernel_rfl) (by kernel_rfl) (fun w w' h hc => h.no w w' hc) (fun _ _ _ h => by cases h.1) _ _ _ _ (by kernel_rfl) (by kernel_rfl) (by kernel_rfl) (Or.inl ⟨by kernel_rfl, fun w' hw' => ?y14⟩) hT ?r14
                              case y14 =>
                                have k0 := hw'.z.cell 0
                                have k1 := hw'.z.cell 1
                                have k2 := hw'.z.cell 2
                                have k3 := hw'.z.cell 3
                                simp only [List.getElem?_cons_zero, List.getElem?_cons_succ] at k0 k1 k2 k3
                                go_simp
                                all_goals first | exact quiet_value | exact ⟨rfl, Ch.refl _ _⟩
                              case r14 =>
                                simp only [Act.put]
                                refine wpP_take [16, 21, 23, 26, 30, 34, 38, 42, 46, 50, 59] (i := 15) (v := .agg #[.int .i64 q.c, .int .i64 q.s, .int .i64 q.l, .int .i64 q.h]) rfl (by kernel_rfl) (by kernel_rfl) (by kernel_rfl) (fun w w' h hc => h.no w w' hc) (fun _ _ _ h => by cases h.1) _ _ _ _ (by kernel_rfl) (by kernel_rfl) (by kernel_rfl) (Or.inl ⟨by kernel_rfl, fun w' hw' => ?y15⟩) hT ?r15
                                case y15 =>
                                  go_simp
                                  exact quiet_enter (HM.out.2.2.1 _)
                                case r15 =>
                                  simp only [Act.put]
                                  refine wpP_take [21, 23, 26, 30, 34, 38, 42, 46, 50, 59] (i := 16) (v := .agg #[.int .i64 r.c, .int .i64 r.s, .int .i64 r.l, .int .i64 r.h]) rfl (by kernel_rfl) (by kernel_rfl) (by kernel_rfl) (fun w w' h hc => h.no w w' hc) (fun _ _ _ h => by cases h.1) _ _ _ _ (by kernel_rfl) (by kernel_rfl) (by kernel_rfl) (Or.inl ⟨by kernel_rfl, fun w' hw' => ?y16⟩) hT ?r16
                                  case y16 =>
                                    go_simp
                                    exact quiet_enter (HM.out.2.2.2.1 _)
                                  case r16 =>
                                    simp only [Act.put]
                                    refine wpP_take [23, 26, 30, 34, 38, 42, 46, 50, 59] (i := 17) (v := ?v17) rfl (by kernel_rfl) (by kernel_rfl) (by kernel_rfl) (fun w w' h hc => h.no w w' hc) (fun _ _ _ h => by cases h.1) _ _ _ _ (by kernel_rfl) (by kernel_rfl) (by kernel_rfl) (Or.inl ⟨by kernel_rfl, fun w' hw' => ?y17⟩) hT ?r17
                                    case y17 =>
                                      go_simp
                                      all_goals first | exact quiet_value | exact ⟨rfl, Ch.refl _ _⟩
                                    case r17 =>
                                      simp only [Act.put]
                                      refine wpP_take [21, 23, 26, 30, 34, 38, 42, 46, 50, 59] (i := 18) (v := ?v18) rfl (by kernel_rfl) (by kernel_rfl) (by kernel_rfl) (fun w w' h hc => h.no w w' hc) (fun _ _ _ h => by cases h.1) _ _ _ _ (by kernel_rfl) (by kernel_rfl) (by kernel_rfl) (Or.inl ⟨by kernel_rfl, fun w' hw' => ?y18⟩) hT ?r18
                                      case y18 =>
                                        go_simp
                                        all_goals first | exact quiet_value | exact ⟨rfl, Ch.refl _ _⟩
                                      case r18 =>
                                        simp only [Act.put]
                                        refine wpP_take [21, 23, 26, 30, 34, 38, 42, 46, 50, 59] (i := 19) (v := ?v19) rfl (by kernel_rfl) (by kernel_rfl) (by kernel_rfl) (fun w w' h hc => h.no w w' hc) (fun _ _ _ h => by cases h.1) _ _ _ _ (by kernel_rfl) (by kernel_rfl) (by kernel_rfl) (Or.inl ⟨by kernel_rfl, fun w' hw' => ?y19⟩) hT ?r19
                                        case y19 =>
                                          have k0 := hw'.x.cell 0
                                          have k1 := hw'.x.cell 1
                                          have k2 := hw'.x.cell 2
                                          have k3 := hw'.x.cell 3
                                          simp only [List.getElem?_cons_zero, List.getElem?_cons_succ] at k0 k1 k2 k3
                                          go_simp
                                          all_goals first | exact quiet_value | exact ⟨rfl, Ch.refl _ _⟩
                                        case r19 =>
                                          simp only [Act.put]
                                          refine wpP_take [21, 23, 26, 30, 34, 38, 42, 46, 50, 59] (i := 20) (v := ?v20) rfl (by kernel_rfl) (by kernel_rfl) (by kernel_rfl) (fun w w' h hc => h.no w w' hc) (fun _ _ _ h => by cases h.1) _ _ _ _ (by kernel_rfl) (by kernel_rfl) (by kernel_rfl) (Or.inl ⟨by kernel_rfl, fun w' hw' => ?y20⟩) hT ?r20
                                          case y20 =>
                                            have k0 := hw'.y.cell 0
                                            have k1 := hw'.y.cell 1
                                            have k2 := hw'.y.cell 2
                                            have k3 := hw'.y.cell 3
                                            simp only [List.getElem?_cons_zero, List.getElem?_cons_succ] at k0 k1 k2 k3
                                            go_simp
                                            all_goals first | exact quiet_value | exact ⟨rfl, Ch.refl _ _⟩
                                          case r20 =>
                                            simp only [Act.put]
                                            refine wpP_take [23, 26, 30, 34, 38, 42, 46, 50, 59] (i := 21) (v := .agg #[.int .i64 p.c, .int .i64 p.s, .int .i64 p.l, .int .i64 p.h]) rfl (by kernel_rfl) (by kernel_rfl) (by kernel_rfl) (fun w w' h hc => h.no w w' hc) (fun _ _ _ h => by cases h.1) _ _ _ _ (by kernel_rfl) (by kernel_rfl) (by kernel_rfl) (Or.inl ⟨by kernel_rfl, fun w' hw' => ?y21⟩) hT ?r21
                                            case y21 =>
                                              go_simp
                                              exact quiet_enter (HM.out.1 _)
                                            case r21 =>
                                              simp only [Act.put]
                                              refine wpP_take [23, 26, 30, 34, 38, 42, 46, 50, 59] (i := 22) (v := ?v22) rfl (by kernel_rfl) (by kernel_rfl) (by kernel_rfl) (fun w w' h hc => h.no w w' hc) (fun _ _ _ h => by cases h.1) _ _ _ _ (by kernel_rfl) (by kernel_rfl) (by kernel_rfl) (Or.inl ⟨by kernel_rfl, fun w' hw' => ?y22⟩) hT ?r22
                                              case y22 =>
                                                have k0 := hw'.z.cell 0
                                                have k1 := hw'.z.cell 1
                                                have k2 := hw'.z.cell 2
                                                have k3 := hw'.z.cell 3
                                                simp only [List.getElem?_cons_zero, List.getElem?_cons_succ] at k0 k1 k2 k3
                                                go_simp
                                                all_goals first | exact quiet_value | exact ⟨rfl, Ch.refl _ _⟩
                                              case r22 =>
                                                simp only [Act.put]
                                                refine wpP_take [26, 30, 34, 38, 42, 46, 50, 59] (i := 23) (v := .agg #[.int .i64 r.c, .int .i64 r.s, .int .i64 r.l, .int .i64 r.h]) rfl (by kernel_rfl) (by kernel_rfl) (by kernel_rfl) (fun w w' h hc => h.no w w' hc) (fun _ _ _ h => by cases h.1) _ _ _ _ (by kernel_rfl) (by kernel_rfl) (by kernel_rfl) (Or.inl ⟨by kernel_rfl, fun w' hw' => ?y23⟩) hT ?r23
                                                case y23 =>
                                                  go_simp
                                                  exact quiet_enter (HM.out.2.2.2.2.1 _)
                                                case r23 =>
                                                  simp only [Act.put]
                                                  refine wpP_take [25, 26, 30, 34, 38, 42, 46, 50, 59] (i := 24) (v := ?v24) rfl (by kernel_rfl) (by kernel_rfl) (by kernel_rfl) (fun w w' h hc => h.no w w' hc) (fun _ _ _ h => by cases h.1) _ _ _ _ (by kernel_rfl) (by kernel_rfl) (by kernel_rfl) (Or.inl ⟨by kernel_rfl, fun w' hw' => ?y24⟩) hT ?r24
                                                  case y24 =>
                                                    go_simp
                                                    all_goals first | exact quiet_value | exact ⟨rfl, Ch.refl _ _⟩
                                                  case r24 =>
                                                    simp only [Act.put]
                                                    refine wpP_take [26, 30, 34, 38, 42, 46, 50, 59] (i := 25) (v := ?v25) rfl (by kernel_rfl) (by kernel_rfl) (by kernel_rfl) (fun w w' h hc => h.no w w' hc) (fun _ _ _ h => by cases h.1) _ _ _ _ (by kernel_rfl) (by kernel_rfl) (by kernel_rfl) (Or.inl ⟨by kernel_rfl, fun w' hw' => ?y25⟩) hT ?r25
                                                    case y25 =>
                                                      go_simp
                                                      all_goals first | exact quiet_value | exact ⟨rfl, Ch.refl _ _⟩
                                                    case r25 =>
                                                      simp only [Act.put]
                                                      refine wpP_take [30, 34, 38, 42, 46, 50, 59] (i := 26) (v := ?v26) rfl (by kernel_rfl) (by kernel_rfl) (by kernel_rfl) (fun w w' h hc => h.no w w' hc) (fun _ _ _ h => by cases h.1) _ _ _ _ (by kernel_rfl) (by kernel_rfl) (by kernel_rfl) (Or.inl ⟨by kernel_rfl, fun w' hw' => ?y26⟩) hT ?r26
                                                      case y26 =>
                                                        go_simp
                                                        all_goals first | exact quiet_value | exact ⟨rfl, Ch.refl _ _⟩
                                                      case r26 =>
                                                        simp only [Act.put]
                                                        refine wpP_take [30, 34, 38, 42, 46, 50, 59] (i := 27) (v := ?v27) rfl (by kernel_rfl) (by kernel_rfl) (by kernel_rfl) (fun w w' h hc => h.no w w' hc) (fun _ _ _ h => by cases h.1) _ _ _ _ (by kernel_rfl) (by kernel_rfl) (by kernel_rfl) (Or.inl ⟨by kernel_rfl, fun w' hw' => ?y27⟩) hT ?r27
                                                        case y27 =>
                                                          go_simp
                                                          all_goals first | exact quiet_value | exact ⟨rfl, Ch.refl _ _⟩
                                                        case r27 =>
                                                          simp only [Act.put]
                                                          refine wpP_take [30, 34, 38, 42, 46, 50, 59] (i := 28) (v := ?v28) rfl (by kernel_rfl) (by kernel_rfl) (by kernel_rfl) (fun w w' h hc => h.no w w' hc) (fun _ _ _ h => by cases h.1) _ _ _ _ (by kernel_rfl) (by kernel_rfl) (by kernel_rfl) (Or.inl ⟨by kernel_rfl, fun w' hw' => ?y28⟩) hT ?r28
                                                          case y28 =>
                                                            have k0 := hw'.x.cell 0
                                                            have k1 := hw'.x.cell 1
                                                            have k2 := hw'.x.cell 2
                                                            have k3 := hw'.x.cell 3
                                                            simp only [List.getElem?_cons_zero, List.getElem?_cons_succ] at k0 k1 k2 k3
                                                            go_simp
                                                            all_goals first | exact quiet_value | exact ⟨rfl, Ch.refl _ _⟩
                                                          case r28 =>
                                                            simp only [Act.put]
                                                            refine wpP_take [30, 34, 38, 42, 46, 50, 59] (i := 29) (v := ?v29) rfl (by kernel_rfl) (by kernel_rfl) (by kernel_rfl) (fun w w' h hc => h.no w w' hc) (fun _ _ _ h => by cases h.1) _ _ _ _ (by kernel_rfl) (by kernel_rfl) (by kernel_rfl) (Or.inl ⟨by kernel_rfl, fun w' hw' => ?y29⟩) hT ?r29
                                                            case y29 =>
                                                              have k0 := hw'.o.cell 0
                                                              have k1 := hw'.o.cell 1
                                                              have k2 := hw'.o.cell 2
                                                              have k3 := hw'.o.cell 3
                                                              simp only [List.getElem?_cons_zero, List.getElem?_cons_succ] at k0 k1 k2 k3
                                                              go_simp
                                                              all_goals first | exact quiet_value | exact ⟨rfl, Ch.refl _ _⟩
                                                            case r29 =>
                                                              simp only [Act.put]
                                                              refine wpP_take [34, 38, 42, 46, 50, 59] (i := 30) (v := .agg #[.int .i64 x.c, .int .i64 x.s, .int .i64 x.l, .int .i64 x.h]) rfl (by kernel_rfl) (by kernel_rfl) (by kernel_rfl) (fun w w' h hc => h.no w w' hc) (fun _ _ _ h => by cases h.1) _ _ _ _ (by kernel_rfl) (by kernel_rfl) (by kernel_rfl) (Or.inl ⟨by kernel_rfl, fun w' hw' => ?y30⟩) hT ?r30
                                                              case y30 =>
                                                                go_simp
                                                                exact quiet_enter (HM.out.2.2.2.2.2.1 _)
                                                              case r30 =>
                                                                simp only [Act.put]
                                                                refine wpP_take [32, 33, 34, 38, 42, 46, 50, 59] (i := 31) (v := ?v31) rfl (by kernel_rfl) (by kernel_rfl) (by kernel_rfl) (fun w w' h hc => h.no w w' hc) (fun _ _ _ h => by cases h.1) _ _ _ _ (by kernel_rfl) (by kernel_rfl) (by kernel_rfl) (Or.inl ⟨by kernel_rfl, fun w' hw' => ?y31⟩) hT ?r31
                                                                case y31 =>
                                                                  have k0 := hw'.x.cell 0
                                                                  have k1 := hw'.x.cell 1
                                                                  have k2 := hw'.x.cell 2
                                                                  have k3 := hw'.x.cell 3
                                                                  simp only [List.getElem?_cons_zero, List.getElem?_cons_succ] at k0 k1 k2 k3
                                                                  go_simp
                                                                  all_goals first | exact quiet_value | exact ⟨rfl, Ch.refl _ _⟩
                                                                case r31 =>
                                                                  simp only [Act.put]
                                                                  refine wpP_take [33, 34, 38, 42, 46, 50, 59] (i := 32) (v := ?v32) rfl (by kernel_rfl) (by kernel_rfl) (by kernel_rfl) (fun w w' h hc => h.no w w' hc) (fun _ _ _ h => by cases h.1) _ _ _ _ (by kernel_rfl) (by kernel_rfl) (by kernel_rfl) (Or.inl ⟨by kernel_rfl, fun w' hw' => ?y32⟩) hT ?r32
                                                                  case y32 =>
                                                                    go_simp
                                                                    all_goals first | exact quiet_value | exact ⟨rfl, Ch.refl _ _⟩
                                                                  case r32 =>
                                                                    simp only [Act.put]
                                                                    refine wpP_take [34, 38, 42, 46, 50, 59] (i := 33) (v := ?v33) rfl (by kernel_rfl) (by kernel_rfl) (by kernel_rfl) (fun w w' h hc => h.no w w' hc) (fun _ _ _ h => by cases h.1) _ _ _ _ (by kernel_rfl) (by kernel_rfl) (by kernel_rfl) (Or.inl ⟨by kernel_rfl, fun w' hw' => ?y33⟩) hT ?r33
                                                                    case y33 =>
                                                                      go_simp
                                                                      all_goals first | exact quiet_value | exact ⟨rfl, Ch.refl _ _⟩
                                                                    case r33 =>
                                                                      simp only [Act.put]
                                                                      refine wpP_take [38, 42, 46, 50, 59] (i := 34) (v := ?v34) rfl (by kernel_rfl) (by kernel_rfl) (by kernel_rfl) (fun w w' h hc => h.no w w' hc) (fun _ _ _ h => by cases h.1) _ _ _ _ (by kernel_rfl) (by kernel_rfl) (by kernel_rfl) (Or.inl ⟨by kernel_rfl, fun w' hw' => ?y34⟩) hT ?r34
                                                                      case y34 =>
                                                                        go_simp
                                                                        all_goals first | exact quiet_value | exact ⟨rfl, Ch.refl _ _⟩
                                                                      case r34 =>
                                                                        simp only [Act.put]
                                                                        refine wpP_take [38, 42, 46, 50, 59] (i := 35) (v := ?v35) rfl (by kernel_rfl) (by kernel_rfl) (by kernel_rfl) (fun w w' h hc => h.no w w' hc) (fun _ _ _ h => by cases h.1) _ _ _ _ (by kernel_rfl) (by kernel_rfl) (by kernel_rfl) (Or.inl ⟨by kernel_rfl, fun w' hw' => ?y35⟩) hT ?r35
                                                                        case y35 =>
                                                                          go_simp
                                                                          all_goals first | exact quiet_value | exact ⟨rfl, Ch.refl _ _⟩
                                                                        case r35 =>
                                                                          simp only [Act.put]
                                                                          refine wpP_take [38, 42, 46, 50, 59] (i := 36) (v := ?v36) rfl (by kernel_rfl) (by kernel_rfl) (by kernel_rfl) (fun w w' h hc => h.no w w' hc) (fun _ _ _ h => by cases h.1) _ _ _ _ (by kernel_rfl) (by kernel_rfl) (by kernel_rfl) (Or.inl ⟨by kernel_rfl, fun w' hw' => ?y36⟩) hT ?r36
                                                                          case y36 =>
                                                                            have k0 := hw'.o.cell 0
                                                                            have k1 := hw'.o.cell 1
                                                                            have k2 := hw'.o.cell 2
                                                                            have k3 := hw'.o.cell 3
                                                                            simp only [List.getElem?_cons_zero, List.getElem?_cons_succ] at k0 k1 k2 k3
                                                                            go_simp
                                                                            all_goals first | exact quiet_value | exact ⟨rfl, Ch.refl _ _⟩
                                                                          case r36 =>
                                                                            simp only [Act.put]
                                                                            refine wpP_take [38, 42, 46, 50, 59] (i := 37) (v := ?v37) rfl (by kernel_rfl) (by kernel_rfl) (by kernel_rfl) (fun w w' h hc => h.no w w' hc) (fun _ _ _ h => by cases h.1) _ _ _ _ (by kernel_rfl) (by kernel_rfl) (by kernel_rfl) (Or.inl ⟨by kernel_rfl, fun w' hw' => ?y37⟩) hT ?r37
                                                                            case y37 =>
                                                                              have k0 := hw'.x.cell 0
                                                                              have k1 := hw'.x.cell 1
                                                                              have k2 := hw'.x.cell 2
                                                                              have k3 := hw'.x.cell 3
                                                                              simp only [List.getElem?_cons_zero, List.getElem?_cons_succ] at k0 k1 k2 k3
                                                                              go_simp
                                                                              all_goals first | exact quiet_value | exact ⟨rfl, Ch.refl _ _⟩
                                                                            case r37 =>
                                                                              simp only [Act.put]
                                                                              refine wpP_take [42, 46, 50, 59] (i := 38) (v := .agg #[.int .i64 x.c, .int .i64 x.s, .int .i64 x.l, .int .i64 x.h]) rfl (by kernel_rfl) (by kernel_rfl) (by kernel_rfl) (fun w w' h hc => h.no w w' hc) (fun _ _ _ h => by cases h.1) _ _ _ _ (by kernel_rfl) (by kernel_rfl) (by kernel_rfl) (Or.inl ⟨by kernel_rfl, fun w' hw' => ?y38⟩) hT ?r38
                                                                              case y38 =>
                                                                                go_simp
                                                                                exact quiet_enter (HM.out.2.2.2.2.2.2.1 _)
                                                                              case r38 =>
                                                                                simp only [Act.put]
                                                                                refine wpP_take [40, 41, 42, 46, 50, 59] (i := 39) (v := ?v39) rfl (by kernel_rfl) (by kernel_rfl) (by kernel_rfl) (fun w w' h hc => h.no w w' hc) (fun _ _ _ h => by cases h.1) _ _ _ _ (by kernel_rfl) (by kernel_rfl) (by kernel_rfl) (Or.inl ⟨by kernel_rfl, fun w' hw' => ?y39⟩) hT ?r39
                                                                                case y39 =>
                                                                                  have k0 := hw'.x.cell 0
                                                                                  have k1 := hw'.x.cell 1
                                                                                  have k2 := hw'.x.cell 2
                                                                                  have k3 := hw'.x.cell 3
                                                                                  simp only [List.getElem?_cons_zero, List.getElem?_cons_succ] at k0 k1 k2 k3
                                                                                  go_simp
                                                                                  all_goals first | exact quiet_value | exact ⟨rfl, Ch.refl _ _⟩
                                                                                case r39 =>
                                                                                  simp only [Act.put]
                                                                                  refine wpP_take [41, 42, 46, 50, 59] (i := 40) (v := ?v40) rfl (by kernel_rfl) (by kernel_rfl) (by kernel_rfl) (fun w w' h hc => h.no w w' hc) (fun _ _ _ h => by cases h.1) _ _ _ _ (by kernel_rfl) (by kernel_rfl) (by kernel_rfl) (Or.inl ⟨by kernel_rfl, fun w' hw' => ?y40⟩) hT ?r40
                                                                                  case y40 =>
                                                                                    go_simp
                                                                                    all_goals first | exact quiet_value | exact ⟨rfl, Ch.refl _ _⟩
                                                                                  case r40 =>
                                                                                    simp only [Act.put]
                                                                                    refine wpP_take [42, 46, 50, 59] (i := 41) (v := ?v41) rfl (by kernel_rfl) (by kernel_rfl) (by kernel_rfl) (fun w w' h hc => h.no w w' hc) (fun _ _ _ h => by cases h.1) _ _ _ _ (by kernel_rfl) (by kernel_rfl) (by kernel_rfl) (Or.inl ⟨by kernel_rfl, fun w' hw' => ?y41⟩) hT ?r41
                                                                                    case y41 =>
                                                                                      go_simp
                                                                                      all_goals first | exact quiet_value | exact ⟨rfl, Ch.refl _ _⟩
                                                                                    case r41 =>
                                                                                      simp only [Act.put]
                                                                                      refine wpP_take [46, 50, 59] (i := 42) (v := ?v42) rfl (by kernel_rfl) (by kernel_rfl) (by kernel_rfl) (fun w w' h hc => h.no w w' hc) (fun _ _ _ h => by cases h.1) _ _ _ _ (by kernel_rfl) (by kernel_rfl) (by kernel_rfl) (Or.inl ⟨by kernel_rfl, fun w' hw' => ?y42⟩) hT ?r42
                                                                                      case y42 =>
                                                                                        go_simp
                                                                                        all_goals first | exact quiet_value | exact ⟨rfl, Ch.refl _ _⟩
                                                                                      case r42 =>
                                                                                        simp only [Act.put]
                                                                                        refine wpP_take [46, 50, 59] (i := 43) (v := ?v43) rfl (by kernel_rfl) (by kernel_rfl) (by kernel_rfl) (fun w w' h hc => h.no w w' hc) (fun _ _ _ h => by cases h.1) _ _ _ _ (by kernel_rfl) (by kernel_rfl) (by kernel_rfl) (Or.inl ⟨by kernel_rfl, fun w' hw' => ?y43⟩) hT ?r43
                                                                                        case y43 =>
                                                                                          go_simp
                                                                                          all_goals first | exact quiet_value | exact ⟨rfl, Ch.refl _ _⟩
                                                                                        case r43 =>
                                                                                          simp only [Act.put]
                                                                                          refine wpP_take [46, 50, 59] (i := 44) (v := ?v44) rfl (by kernel_rfl) (by kernel_rfl) (by kernel_rfl) (fun w w' h hc => h.no w w' hc) (fun _ _ _ h => by cases h.1) _ _ _ _ (by kernel_rfl) (by kernel_rfl) (by kernel_rfl) (Or.inl ⟨by kernel_rfl, fun w' hw' => ?y44⟩) hT ?r44
                                                                                          case y44 =>
                                                                                            have k0 := hw'.o.cell 0
                                                                                            have k1 := hw'.o.cell 1
                                                                                            have k2 := hw'.o.cell 2
                                                                                            have k3 := hw'.o.cell 3
                                                                                            simp only [List.getElem?_cons_zero, List.getElem?_cons_succ] at k0 k1 k2 k3
                                                                                            go_simp
                                                                                            all_goals first | exact quiet_value | exact ⟨rfl, Ch.refl _ _⟩
                                                                                          case r44 =>
                                                                                            simp only [Act.put]
                                                                                            refine wpP_take [46, 50, 59] (i := 45) (v := ?v45) rfl (by kernel_rfl) (by kernel_rfl) (by kernel_rfl) (fun w w' h hc => h.no w w' hc) (fun _ _ _ h => by cases h.1) _ _ _ _ (by kernel_rfl) (by kernel_rfl) (by kernel_rfl) (Or.inl ⟨by kernel_rfl, fun w' hw' => ?y45⟩) hT ?r45
                                                                                            case y45 =>
                                                                                              have k0 := hw'.o.cell 0
                                                                                              have k1 := hw'.o.cell 1
                                                                                              have k2 := hw'.o.cell 2
                                                                                              have k3 := hw'.o.cell 3
                                                                                              simp only [List.getElem?_cons_zero, List.getElem?_cons_succ] at k0 k1 k2 k3
                                                                                              go_simp
                                                                                              all_goals first | exact quiet_value | exact ⟨rfl, Ch.refl _ _⟩
                                                                                            case r45 =>
                                                                                              simp only [Act.put]
                                                                                              refine wpP_take [50, 59] (i := 46) (v := .agg #[.int .i64 0, .int .i64 0, .int .i64 0, .int .i64 0]) rfl (by kernel_rfl) (by kernel_rfl) (by kernel_rfl) (fun w w' h hc => h.no w w' hc) (fun _ _ _ h => by cases h.1) _ _ _ _ (by kernel_rfl) (by kernel_rfl) (by kernel_rfl) (Or.inl ⟨by kernel_rfl, fun w' hw' => ?y46⟩) hT ?r46
                                                                                              case y46 =>
                                                                                                go_simp
                                                                                                exact quiet_enter (HM.out.2.2.2.2.2.2.2 _)
                                                                                              case r46 =>
                                                                                                simp only [Act.put]
                                                                                                refine wpP_take [48, 49, 50, 59] (i := 47) (v := ?v47) rfl (by kernel_rfl) (by kernel_rfl) (by kernel_rfl) (fun w w' h hc => h.no w w' hc) (fun _ _ _ h => by cases h.1) _ _ _ _ (by kernel_rfl) (by kernel_rfl) (by kernel_rfl) (Or.inl ⟨by kernel_rfl, fun w' hw' => ?y47⟩) hT ?r47
                                                                                                case y47 =>
                                                                                                  go_simp
                                                                                                  all_goals first | exact quiet_value | exact ⟨rfl, Ch.refl _ _⟩
                                                                                                case r47 =>
                                                                                                  simp only [Act.put]
                                                                                                  refine wpP_take [49, 50, 59] (i := 48) (v := ?v48) rfl (by kernel_rfl) (by kernel_rfl) (by kernel_rfl) (fun w w' h hc => h.no w w' hc) (fun _ _ _ h => by cases h.1) _ _ _ _ (by kernel_rfl) (by kernel_rfl) (by kernel_rfl) (Or.inl ⟨by kernel_rfl, fun w' hw' => ?y48⟩) hT ?r48
                                                                                                  case y48 =>
                                                                                                    go_simp
                                                                                                    all_goals first | exact quiet_value | exact ⟨rfl, Ch.refl _ _⟩
                                                                                                  case r48 =>
                                                                                                    simp only [Act.put]
                                                                                                    refine wpP_take [50, 59] (i := 49) (v := ?v49) rfl (by kernel_rfl) (by kernel_rfl) (by kernel_rfl) (fun w w' h hc => h.no w w' hc) (fun _ _ _ h => by cases h.1) _ _ _ _ (by kernel_rfl) (by kernel_rfl) (by kernel_rfl) (Or.inl ⟨by kernel_rfl, fun w' hw' => ?y49⟩) hT ?r49
                                                                                                    case y49 =>
                                                                                                      go_simp
                                                                                                      all_goals first | exact quiet_value | exact ⟨rfl, Ch.refl _ _⟩
                                                                                                    case r49 =>
                                                                                                      simp only [Act.put]
                                                                                                      refine wpP_take [59] (i := 50) (v := ?v50) rfl (by kernel_rfl) (by kernel_rfl) (by kernel_rfl) (fun w w' h hc => h.no w w' hc) (fun _ _ _ h => by cases h.1) _ _ _ _ (by kernel_rfl) (by kernel_rfl) (by kernel_rfl) (Or.inl ⟨by kernel_rfl, fun w' hw' => ?y50⟩) hT ?r50
                                                                                                      case y50 =>
                                                                                                        go_simp
                                                                                                        all_goals first | exact quiet_value | exact ⟨rfl, Ch.refl _ _⟩
                                                                                                      case r50 =>
                                                                                                        simp only [Act.put]
                                                                                                        refine wpP_take [54, 57, 59] (i := 51) (v := ?v51) rfl (by kernel_rfl) (by kernel_rfl) (by kernel_rfl) (fun w w' h hc => h.no w w' hc) (fun _ _ _ h => by cases h.1) _ _ _ _ (by kernel_rfl) (by kernel_rfl) (by kernel_rfl) (Or.inl ⟨by kernel_rfl, fun w' hw' => ?y51⟩) hT ?r51
                                                                                                        case y51 =>
                                                                                                          go_simp
                                                                                                          all_goals first | exact quiet_value | exact ⟨rfl, Ch.refl _ _⟩
                                                                                                        case r51 =>
                                                                                                          simp only [Act.put]
                                                                                                          refine wpP_take [54, 57, 59] (i := 52) (v := ?v52) rfl (by kernel_rfl) (by kernel_rfl) (by kernel_rfl) (fun w w' h hc => h.no w w' hc) (fun _ _ _ h => by cases h.1) _ _ _ _ (by kernel_rfl) (by kernel_rfl) (by kernel_rfl) (Or.inl ⟨by kernel_rfl, fun w' hw' => ?y52⟩) hT ?r52
                                                                                                          case y52 =>
                                                                                                            have k0 := hw'.x.cell 0
                                                                                                            have k1 := hw'.x.cell 1
                                                                                                            have k2 := hw'.x.cell 2
                                                                                                            have k3 := hw'.x.cell 3
                                                                                                            simp only [List.getElem?_cons_zero, List.getElem?_cons_succ] at k0 k1 k2 k3
                                                                                                            go_simp
                                                                                                            all_goals first | exact quiet_value | exact ⟨rfl, Ch.refl _ _⟩
                                                                                                          case r52 =>
                                                                                                            simp only [Act.put]
                                                                                                            refine wpP_take [54, 57, 59] (i := 53) (v := ?v53) rfl (by kernel_rfl) (by kernel_rfl) (by kernel_rfl) (fun w w' h hc => h.no w w' hc) (fun _ _ _ h => by cases h.1) _ _ _ _ (by kernel_rfl) (by kernel_rfl) (by kernel_rfl) (Or.inl ⟨by kernel_rfl, fun w' hw' => ?y53⟩) hT ?r53
                                                                                                            case y53 =>
                                                                                                              have k0 := hw'.y.cell 0
                                                                                                              have k1 := hw'.y.cell 1
                                                                                                              have k2 := hw'.y.cell 2
                                                                                                              have k3 := hw'.y.cell 3
                                                                                                              simp only [List.getElem?_cons_zero, List.getElem?_cons_succ] at k0 k1 k2 k3
                                                                                                              go_simp
                                                                                                              all_goals first | exact quiet_value | exact ⟨rfl, Ch.refl _ _⟩
                                                                                                            case r53 =>
                                                                                                              simp only [Act.put]
                                                                                                              refine wpP_take [57, 59] (i := 54) (v := .agg #[.int .i64 p.c, .int .i64 p.s, .int .i64 p.l, .int .i64 p.h]) rfl (by kernel_rfl) (by kernel_rfl) (by kernel_rfl) (fun w w' h hc => h.no w w' hc) (fun _ _ _ h => by cases h.1) _ _ _ _ (by kernel_rfl) (by kernel_rfl) (by kernel_rfl) (Or.inl ⟨by kernel_rfl, fun w' hw' => ?y54⟩) hT ?r54
                                                                                                              case y54 =>
                                                                                                                go_simp
                                                                                                                exact quiet_enter (HM.out.1 _)
                                                                                                              case r54 =>
                                                                                                                simp only [Act.put]
                                                                                                                refine wpP_take [57, 59] (i := 56) (v := ?v56) rfl (by kernel_rfl) (by kernel_rfl) (by kernel_rfl) (fun w w' h hc => h.no w w' hc) (fun _ _ _ h => by cases h.1) _ _ _ _ (by kernel_rfl) (by kernel_rfl) (by kernel_rfl) (Or.inl ⟨by kernel_rfl, fun w' hw' => ?y56⟩) hT ?r56
                                                                                                                case y56 =>
                                                                                                                  go_simp
                                                                                                                  all_goals first | exact quiet_value | exact ⟨rfl, Ch.refl _ _⟩
                                                                                                                case r56 =>
                                                                                                                  simp only [Act.put]
                                                                                                                  refine wpP_take [59] (i := 58) (v := ?v58) rfl (by kernel_rfl) (by kernel_rfl) (by kernel_rfl) (fun w w' h hc => h.no w w' hc) (fun _ _ _ h => by cases h.1) _ _ _ _ (by kernel_rfl) (by kernel_rfl) (by kernel_rfl) (Or.inl ⟨by kernel_rfl, fun w' hw' => ?y58⟩) hT ?r58
                                                                                                                  case y58 =>
                                                                                                                    go_simp
                                                                                                                    all_goals first | exact quiet_value | exact ⟨rfl, Ch.refl _ _⟩
                                                                                                                  case r58 =>
                                                                                                                    simp only [Act.put]
                                                                                                                    refine wpP_1 (i := 55) rfl (by kernel_rfl) (fun w5 hw5 K hK => ?_)
                                                                                                                    have H5 := Lib.hid (And.intro (hT.no _ _ hw5) (HC.out.trans hw5))
                                                                                                                    clear hw5 hT
                                                                                                                    go_simp
                                                                                                                    have H6 : Hid (Mg g0 (g0 + 1) (g0 + 1 + 1) (g0 + 1 + 1 + 1) x y z o A B a b (w5.alloc (.cells #[] 2)) ∧ Ch No W (w5.alloc (.cells #[] 2)) ∧ OwnS (w5.alloc (.cells #[] 2)) (g0 + 1 + 1 + 1 + 1) 2 (.slice (some ⟨w5.heap.size, 0, none⟩) 0 0) []) := Lib.hid ⟨H5.out.1.no _ _ ((Ch.refl No w5).alloc _), H5.out.2.alloc _, OwnS.lit w5 (g0 + 1 + 1 + 1 + 1) 2 [] (by have := H5.out.1.o.lt; omega) (by simp)⟩
                                                                                                                    refine hK.out _ _ (fun _ => H6.out.1) ?_
                                                                                                                    clear hK K
                                                                                                                    try simp only [Act.put]
                                                                                                                    refine wpP_1 (i := 57) rfl (by kernel_rfl) (fun w6 hw6 K hK => ?_)
                                                                                                                    have H7 := Lib.hid (And.intro (H6.out.1.no _ _ hw6) (And.intro (H6.out.2.1.trans hw6) (H6.out.2.2.ch hw6 (fun _ _ h => h))))
                                                                                                                    clear hw6 H6 H5
                                                                                                                    refine step_unguard (E' := True) (by kernel_rfl) ?_
                                                                                                                    refine step_app0 (by rfl) (.tmp 93) (.tmp 94) 61 2 (by rfl) .i64 0 8 Try.underlying61 (by kernel_rfl) (g0 + 1 + 1 + 1 + 1) (some ⟨w5.heap.size, 0, none⟩) 0 (by simp [Act.eval]) H7.out.2.2 A ca la a HE.out.1 (by rfl) H7.out.1.ra (by simp [maxLen]; omega) (by omega) (by have := H7.out.1.o.lt; omega) ?_
                                                                                                                    intro A7 c7 w7 o7 h7
                                                                                                                    have H8 := Lib.hid (And.intro (H7.out.1.grow h7 (fun k hk => (H7.out.2.2.ge k hk).1)) (And.intro (H7.out.2.1.trans' h7 (fun k hi hk => by have := (H7.out.2.2.ge k hk).1;  omega)) o7))
                                                                                                                    clear o7 h7 H7
                                                                                                                    refine hK.out _ _ (fun _ => H8.out.1) ?_
                                                                                                                    clear hK K
                                                                                                                    try simp only [Act.put]
                                                                                                                    refine wpP_1 (i := 59) rfl (by kernel_rfl) (fun w8 hw8 K hK => ?_)
                                                                                                                    have H9 := Lib.hid (And.intro (H8.out.1.no _ _ hw8) (And.intro (H8.out.2.1.trans hw8) (H8.out.2.2.ch hw8 (fun _ _ h => h))))
                                                                                                                    clear hw8 H8
                                                                                                                    refine step_unguard (E' := True) (by kernel_rfl) ?_
                                                                                                                    refine step_appI (by rfl) (.tmp 95) (.tmp 96) 61 2 (by rfl) .i64 0 8 Try.underlying61 (by kernel_rfl) (g0 + 1 + 1 + 1 + 1) A7 c7 la a HE.out.1 (by rfl) H9.out.2.2 B cb lb b HE.out.2.1 (by rfl) H9.out.1.rb (by simp [maxLen]; omega) (by omega) (by have := H9.out.1.o.lt; omega) ?_
                                                                                                                    intro A9 c9 w9 o9 h9
                                                                                                                    have H10 := Lib.hid (And.intro (H9.out.2.1.trans' h9 (fun k hi hk => by have := (H9.out.2.2.ge k hk).1;  omega)) o9)
                                                                                                                    clear o9 h9 H9
                                                                                                                    refine hK.out _ _ (fun h => nomatch (show true = false from h)) ?_
                                                                                                                    clear hK K
                                                                                                                    try simp only [Act.put]
                                                                                                                    refine wpP_1 (i := 60) rfl (by kernel_rfl) (fun w10 hw10 K hK => ?_)
                                                                                                                    have H11 := Lib.hid (And.intro (H10.out.1.trans hw10) (H10.out.2.ch hw10 (fun _ _ h => h)).cls.1)
                                                                                                                    clear hw10 H10
                                                                                                                    go_simp
                                                                                                                    go_at_call 41
                                                                                                                    refine (HO.out.2.2.2 _ _ _ H11.out.2).mono ?_
                                                                                                                    rintro e w11 ⟨rfl, h11⟩
                                                                                                                    have H12 := Lib.hid (H11.out.1.trans h11)
                                                                                                                    clear h11 H11
                                                                                                                    go_simp
                                                                                                                    refine hK.out _ _ (fun h => nomatch (show true = false from h)) ?_
                                                                                                                    clear hK K
                                                                                                                    try simp only [Act.put]
                                                                                                                    have he := eqlAgg
                                                                                                                    refine wpP_1 (i := 61) rfl (by kernel_rfl) (fun w12 hw12 K hK => ?_)
                                                                                                                    have H13 := Lib.hid (H12.out.trans hw12)
                                                                                                                    clear hw12 H12
                                                                                                                    go_simp
                                                                                                                    refine hK.out _ _ (fun h => nomatch (show true = false from h)) ?_
                                                                                                                    clear hK K
                                                                                                                    try simp only [Act.put]
                                                                                                                    refine wpP_1 (i := 62) rfl (by kernel_rfl) (fun w13 hw13 K hK => ?_)
                                                                                                                    have H14 := Lib.hid (H13.out.trans hw13)
                                                                                                                    clear hw13 H13
                                                                                                                    go_simp
                                                                                                                    refine hK.out _ _ (fun h => nomatch (show true = false from h)) ?_
                                                                                                                    clear hK K
                                                                                                                    try simp only [Act.put]
                                                                                                                    refine wpP_1 (i := 63) rfl (by kernel_rfl) (fun w14 hw14 K hK => ?_)
                                                                                                                    have H15 := Lib.hid (H14.out.trans hw14)
                                                                                                                    clear hw14 H14
                                                                                                                    go_simp
                                                                                                                    refine hK.out _ _ (fun h => nomatch (show true = false from h)) ?_
                                                                                                                    clear hK K
                                                                                                                    try simp only [Act.put]
                                                                                                                    refine wpP_done (eq_of_beq (by kernel_rfl)) (fun w15 hw15 => ⟨by first | rfl | trivial, ?_⟩) _
                                                                                                                    have H16 := Lib.hid (H15.out.trans hw15)
                                                                                                                    clear hw15 H15
                                                                                                                    go_wp2_with fail
                                                                                                                    go_ret
                                                                                                                    exact ⟨rfl, H16.out⟩

theorem aggMerges_walk (W : World) (A : Option Addr) (ca : Nat) (a : List Int) (B : Option Addr) (cb : Nat) (b : List Int) (C : Option Addr) (cc : Nat) (c : List Int) (n : Int) (ha : Cls W A (ints .i64 a)) (_la : a.length ≤ ca) (ba : a.length * 8 ≤ 140737488351232) (wa : ∀ x ∈ a, (Lit.int .i64 x).wf = true) (hb : Cls W B (ints .i64 b)) (_lb : b.length ≤ cb) (bb : b.length * 8 ≤ 140737488351232) (wb : ∀ x ∈ b, (Lit.int .i64 x).wf = true) (hc : Cls W C (ints .i64 c)) (_lc : c.length ≤ cc) (bc : c.length * 8 ≤ 140737488351232) (wc : ∀ x ∈ c, (Lit.int .i64 x).wf = true) (_wn : (Lit.int .i64 n).wf = true) :
    Calls Try.prog 13 #[.slice A a.length ca, .slice B b.length cb, .slice C c.length cc, .int .i64 n] W fun e w' => e = .returned (.bool true) ∧ Below W.heap.size W w' :=
  (aggMerges_core W A B C ca cb cc a b c n ha hb hc (fun x h => by have := bounds_i64 (wa x h); unfold wfI; omega) (fun x h => by have := bounds_i64 (wb x h); unfold wfI; omega) (fun x h => by have := bounds_i64 (wc x h); unfold wfI; omega) (by omega) (by omega) (by omega)).mono fun e w' ⟨h1, h2⟩ => ⟨h1, h2.same⟩
end Go.Proofs.Ytoaekfocfdcgiaa
