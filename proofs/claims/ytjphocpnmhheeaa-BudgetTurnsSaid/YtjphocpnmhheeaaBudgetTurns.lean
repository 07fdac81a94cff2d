/- BudgetTurns: in whichever order they are spent budgets end the same: the walk. -/
import Derived.Test.YtjphocpnmhheeaaBudSteps
import Derived.Test.YtjphocpnmhheeaaRead
namespace Go.Proofs.Ytjphocpnmhheeaa
open Go.RowKit

/-- what is turned at k is not what lies at g and k' -/
def Apart (k : Option Nat) (g' : Nat) (k' : Option Nat) : Prop := ∀ j, k = some j → j ≠ g' ∧ ∀ i, k' = some i → i ≠ j
theorem Apart.lo {k k' : Option Nat} {g' n : Nat} (h : ∀ j, k = some j → j < n) (hg : n ≤ g') (hk : ∀ i, k' = some i → n ≤ i) : Apart k g' k' :=
  fun j hj => ⟨by have := h j hj; omega, fun i hi => by have := h j hj; have := hk i hi; omega⟩
theorem Apart.hi {k k' : Option Nat} {g' n : Nat} (h : ∀ j, k = some j → n ≤ j) (hg : g' < n) (hk : ∀ i, k' = some i → i < n) : Apart k g' k' :=
  fun j hj => ⟨by have := h j hj; omega, fun i hi => by have := h j hj; have := hk i hi; omega⟩
theorem Led.other {w w' : World} {B g' : Nat} {k k' : Option Nat} {L : List Acc} (h : Led w B g' k' L) (hc : Ch (fun j => k = some j) w w') (ap : Apart k g' k') : Led w' B g' k' L :=
  h.ch hc (fun e => (ap g' e).1 rfl) (fun i hi e => (ap i e).2 i hi rfl)

structure ST (W w : World) (ga : Nat) (ka : Option Nat) (La : List Acc) (gb : Nat) (kb : Option Nat) (Lb : List Acc) (gc : Nat) (kc : Option Nat) (Lc : List Acc) : Prop where
  a : Led w W.heap.size ga ka La
  b : Led w W.heap.size gb kb Lb
  c : Led w W.heap.size gc kc Lc
  ab : Apart ka gb kb
  ac : Apart ka gc kc
  ba : Apart kb ga ka
  bc : Apart kb gc kc
  ca : Apart kc ga ka
  cb : Apart kc gb kb
  ch : Ch No W w
section
variable {W w w' : World} {ga gb gc : Nat} {ka kb kc : Option Nat} {La Lb Lc L : List Acc}
theorem ST.no (h : ST W w ga ka La gb kb Lb gc kc Lc) (hc : Ch No w w') : ST W w' ga ka La gb kb Lb gc kc Lc :=
  ⟨h.a.ch hc (fun h => h) (fun _ _ h => h), h.b.ch hc (fun h => h) (fun _ _ h => h), h.c.ch hc (fun h => h) (fun _ _ h => h), h.ab, h.ac, h.ba, h.bc, h.ca, h.cb, h.ch.trans hc⟩
theorem ST.sa (h : ST W w ga ka La gb kb Lb gc kc Lc) (hl : Led w' W.heap.size ga ka L) (hc : Ch (fun j => ka = some j) w w') : ST W w' ga ka L gb kb Lb gc kc Lc :=
  ⟨hl, h.b.other hc h.ab, h.c.other hc h.ac, h.ab, h.ac, h.ba, h.bc, h.ca, h.cb, Led.no h.ch h.a (Nat.le_refl _) hc⟩
theorem ST.sb (h : ST W w ga ka La gb kb Lb gc kc Lc) (hl : Led w' W.heap.size gb kb L) (hc : Ch (fun j => kb = some j) w w') : ST W w' ga ka La gb kb L gc kc Lc :=
  ⟨h.a.other hc h.ba, hl, h.c.other hc h.bc, h.ab, h.ac, h.ba, h.bc, h.ca, h.cb, Led.no h.ch h.b (Nat.le_refl _) hc⟩
theorem ST.sc (h : ST W w ga ka La gb kb Lb gc kc Lc) (hl : Led w' W.heap.size gc kc L) (hc : Ch (fun j => kc = some j) w w') : ST W w' ga ka La gb kb Lb gc kc L :=
  ⟨h.a.other hc h.ca, h.b.other hc h.cb, hl, h.ab, h.ac, h.ba, h.bc, h.ca, h.cb, Led.no h.ch h.c (Nat.le_refl _) hc⟩
end
/-- what c is asked to spend -/
def lessOf (n : Nat) (ys : List Int) : List Int := ys.filter fun y => decide (¬ y = n)
theorem lessOf_hit (n : Nat) (ys : List Int) (y : Int) (h : ¬ y = n) : lessOf n (ys ++ [y]) = lessOf n ys ++ [y] := by simp [lessOf, List.filter_append, h]
theorem lessOf_miss (n : Nat) (ys : List Int) (y : Int) (h : y = n) : lessOf n (ys ++ [y]) = lessOf n ys := by simp [lessOf, List.filter_append, h]
theorem lessOf_count (n : Nat) (ys : List Int) (k : Int) (h : ¬ k = n) : (lessOf n ys).count k = ys.count k := by
  unfold lessOf
  rw [List.count_filter]
  simpa using h
theorem lessOf_none (n : Nat) (ys : List Int) : (lessOf n ys).count (n : Int) = 0 := by
  rw [List.count_eq_zero]
  simp [lessOf]
theorem take_snoc (ys : List Int) (j : Nat) (h : j < ys.length) : ys.take (j + 1) = ys.take j ++ [ys[j]] := List.take_succ_eq_append_getElem h

set_option maxHeartbeats 16000000 in
set_option maxRecDepth 100000 in
theorem budgetTurns_core (W : World) (A : Option Addr) (c : Nat) (xs : List Int) (A1 : Option Addr) (c1 : Nat) (ys : List Int) (ex : Int) (hx : Cls W A (ints .i64 xs)) (hw : ∀ x ∈ xs, wfI x) (hl : xs.length ≤ 17592186044404)
    (hy : Cls W A1 (ints .i64 ys)) (hwy : ∀ x ∈ ys, wfI x) (hly : ys.length ≤ 17592186044404) (hwe : wfI ex) :
    Calls Try.prog 9 #[.slice A xs.length c, .slice A1 ys.length c1, .int .i64 ex] W fun e w' => e = .returned (.bool true) ∧ Ch No W w' := by
  have HX := Lib.hid (And.intro (And.intro hx hw) (And.intro hy (And.intro hwy hwe)))
  unfold wfI at hwe
  clear hx hw hy hwy
  go_enter Try.func9, Try.ntmps9
  go_wp2_with fail
  refine (budAlive_any _).mono ?_
  rintro e w0 ⟨rfl, C0⟩
  have HC0 := Lib.hid C0
  clear C0
  by_cases h40 : 40 < xs.length
  · go_wp2_with fail
    go_ret
    exact ⟨rfl, HC0.out⟩
  by_cases h200 : 200 < ys.length
  · go_wp2_with fail
    go_ret
    exact ⟨rfl, HC0.out⟩
  go_wp2_with fail
  refine (BNew_any w0 A c xs (HX.out.1.1.ch HC0.out (fun _ _ h => h)) HX.out.1.2 (by omega)).mono ?_
  rintro e w1 ⟨ga, ka, rfl, L1, hg1, h1⟩
  have HS1 := Lib.hid (And.intro L1 (HC0.out.trans h1))
  clear L1 h1
  go_wp2_with fail
  refine (BNew_any w1 A c xs (HX.out.1.1.ch HS1.out.2 (fun _ _ h => h)) HX.out.1.2 (by omega)).mono ?_
  rintro e w2 ⟨gb, kb, rfl, L2, hg2, h2⟩
  have HS2 : Hid (Led w2 w0.heap.size ga ka (newL xs) ∧ Led w2 w1.heap.size gb kb (newL xs) ∧ Ch No W w2 ∧ ga < w1.heap.size ∧ (∀ i, ka = some i → i < w1.heap.size) ∧ w1.heap.size ≤ gb ∧ w0.heap.size ≤ w1.heap.size) :=
    Lib.hid ⟨HS1.out.1.ch h2 (fun h => h) (fun _ _ h => h), L2, HS1.out.2.trans h2, HS1.out.1.lt, fun i hi => (HS1.out.1.klt hi).2, hg2, by have := HS1.out.1.lt; omega⟩
  clear L2 h2 hg1 hg2 HS1
  have o2 : OwnS (w2.alloc (.cells #[] 3)) w2.heap.size 3 (.slice (some ⟨w2.heap.size, 0, none⟩) 0 0) (ints .i64 []) := by simpa [ints] using OwnS.lit w2 w2.heap.size 3 [] (Nat.le_refl _) (by simp)
  have C2 : Ch No W (w2.alloc (.cells #[] 3)) := HS2.out.2.2.1.alloc _
  go_wp2_with (at_builtin; refine appI rfl _ _ 56 3 rfl .i64 0 8 Try.underlying56 infoInt w2.heap.size (some ⟨w2.heap.size, 0, none⟩) 0 [] rfl o2 A c xs rfl (HX.out.1.1.ch C2 (fun _ _ h => h)) ?hn ?hb ?hB ?_)
  case hn => simp [maxLen]; omega
  case hb => simp; omega
  case hB => simp
  intro Ao co w3 o3 h3 hat
  have o3' : OwnS w3 w2.heap.size 3 (.slice Ao xs.length co) (ints .i64 xs) := by simpa using o3
  have C23 : Ch No w2 w3 := ((Ch.refl No w2).alloc _).trans' h3 (fun i hi he => by
    have he' : w2.heap.size = i := by simpa [Value.ownBlock] using he
    omega)
  have HS3 : Hid (OwnS w3 w2.heap.size 3 (.slice Ao xs.length co) (ints .i64 xs) ∧ Ch No w2 w3) := Lib.hid ⟨o3', C23⟩
  clear o2 C2 o3 h3 hat o3' C23
  have hs3 := HS3.out.2.size
  go_wp2_with (at_builtin; refine app1i rfl _ _ 56 3 rfl .i64 0 8 Try.underlying56 infoInt w2.heap.size Ao co xs ex rfl HS3.out.1 1 rfl ?hn ?hb ?hB ?_)
  case hn => simp [maxLen]; omega
  case hb => omega
  case hB => exact hs3
  intro g4 c4 w4 o4 h4 hat4
  have C24 : Ch No w2 w4 := HS3.out.2.trans' h4 (fun i hi he => by have := (HS3.out.1.ge i he).1; omega)
  obtain ⟨A4, c4', e4, X4, _⟩ := o4.slice_ints
  obtain ⟨rfl, rfl⟩ : some ⟨g4, 0, none⟩ = A4 ∧ c4 = c4' := by simpa using e4
  have HS4 := Lib.hid (And.intro X4 C24)
  clear o4 h4 hat4 C24 e4 X4 HS3
  have q := BNew_any w4 (some ⟨g4, 0, none⟩) c4 (xs ++ [ex]) HS4.out.1 (fun x hx => (List.mem_append.1 hx).elim (HX.out.1.2 x) (fun h => (show x = ex by simpa using h) ▸ HX.out.2.2.2)) (by simp; omega)
  rw [show (xs ++ [ex]).length = xs.length + 1 from by simp] at q
  go_wp2_with fail
  refine q.mono ?_
  rintro e w5 ⟨gc, kc, rfl, L5, hg5, h5⟩
  have hx24 := HS4.out.2.size
  have HS : Hid (ST W w5 ga ka (aft (newL xs) (ys.take 0)) gb kb (aft (newL xs) (ys.reverse.take 0)) gc kc (aft (newL (xs ++ [ex])) (lessOf xs.length (ys.take 0)))) := by
    obtain ⟨a1, a2, a3, a4, a5, a6, a7⟩ := HS2.out
    have C25 : Ch No w2 w5 := HS4.out.2.trans h5
    have hb1 := a2.lt
    have hb2 : ∀ i, kb = some i → w1.heap.size ≤ i ∧ i < w2.heap.size := fun i hi => a2.klt hi
    have hc2 : ∀ i, kc = some i → w4.heap.size ≤ i := fun i hi => (L5.klt hi).1
    have hW2 := a3.size
    have hW0 := HC0.out.size
    have hg12 := a1.lt
    refine Lib.hid ⟨(a1.ch C25 (fun h => h) (fun _ _ h => h)).lower hW0, (a2.ch C25 (fun h => h) (fun _ _ h => h)).lower (by omega), L5.lower (by omega), ?_, ?_, ?_, ?_, ?_, ?_, a3.trans C25⟩
    · exact Apart.lo a5 a6 (fun i hi => (hb2 i hi).1)
    · exact Apart.lo (n := w4.heap.size) (fun j hj => by have := a5 j hj; omega) hg5 hc2
    · exact Apart.hi (fun j hj => (hb2 j hj).1) a4 a5
    · exact Apart.lo (n := w4.heap.size) (fun j hj => by have := (hb2 j hj).2; omega) hg5 hc2
    · exact Apart.hi hc2 (by omega) (fun i hi => by have := a5 i hi; omega)
    · exact Apart.hi hc2 (by omega) (fun i hi => by have := (hb2 i hi).2; omega)
  clear L5 h5 hg5 hx24 hs3 q HS4 HS2 HC0
  go_wp2_with fail
  go_loopw [10, 43] (fun _ i wr => ∃ j : Nat, j ≤ ys.length ∧ i = .int .i64 j ∧ Hid (ST W wr ga ka (aft (newL xs) (ys.take j)) gb kb (aft (newL xs) (ys.reverse.take j)) gc kc (aft (newL (xs ++ [ex])) (lessOf xs.length (ys.take j))))) (fun _ i _ => ys.length - (intOf i).toNat)
  case atStart => exact ⟨0, by omega, rfl, HS⟩
  case round =>
    clear HS
    obtain ⟨j, hj, rfl, hst⟩ := hrel
    by_cases hjl : j < ys.length
    · obtain ⟨b, off, hA1, _⟩ := HX.out.2.1.get j hjl
      obtain ⟨m, hm⟩ : ∃ m, ys.length = m + 1 + j := ⟨ys.length - 1 - j, by omega⟩
      have hml : m < ys.length := by omega
      have hcs : ∀ w', Ch No W w' → w'.cell? ⟨b, off + j, none⟩ = some (.int .i64 ys[j]) ∧ w'.cell? ⟨b, off + m, none⟩ = some (.int .i64 ys[m]) := fun w' hw' => by
        obtain ⟨b1, o1, e1, k1⟩ := (HX.out.2.1.ch hw' (fun _ _ h => h)).get j hjl
        obtain ⟨b2, o2, e2, k2⟩ := (HX.out.2.1.ch hw' (fun _ _ h => h)).get m hml
        rw [hA1] at e1 e2
        cases e1
        cases e2
        exact ⟨k1, k2⟩
      have ht : ys.take (j + 1) = ys.take j ++ [ys[j]] := take_snoc ys j hjl
      have hr : ys.reverse.take (j + 1) = ys.reverse.take j ++ [ys[m]] := by
        rw [take_snoc ys.reverse j (by simpa using hjl), List.getElem_reverse]
        congr 3
        omega
      obtain ⟨y, hy⟩ : ∃ y, ys[j] = y := ⟨_, rfl⟩
      obtain ⟨z, hz⟩ : ∃ z, ys[m] = z := ⟨_, rfl⟩
      rw [hy, hz] at hcs
      rw [hy] at ht
      rw [hz] at hr
      have HT := Lib.hid (And.intro ht (And.intro hr hcs))
      clear ht hr hy hz hcs
      subst hA1
      have i1 : 0 ≤ (ys.length : Int) - 1 - j := by omega
      have i2 : (ys.length : Int) - 1 - j < ys.length := by omega
      have i4 : ((ys.length : Int) - 1 - j).toNat = m := by omega
      have HM := Lib.hid hm
      clear hm
      have hcx := (HT.out.2.2 wr hst.out.ch).1
      have q1 := Lib.hid (BSpend_any wr W.heap.size ga ka _ hst.out.a y)
      go_wp2_with fail
      refine q1.out.mono ?_
      clear q1
      rintro e w2 ⟨rfl, L2, h2⟩
      have hst2 := Lib.hid (hst.out.sa L2 h2)
      clear L2 h2 hst hcx
      have hcx := (HT.out.2.2 w2 hst2.out.ch).2
      have q1 := Lib.hid (BSpend_any w2 W.heap.size gb kb _ hst2.out.b z)
      go_wp2_with fail
      refine q1.out.mono ?_
      clear q1
      rintro e w3 ⟨rfl, L3, h3⟩
      have hst3 := Lib.hid (hst2.out.sb L3 h3)
      clear L3 h3 hst2 hcx
      have hcx := (HT.out.2.2 w3 hst3.out.ch).1
      by_cases hyx : y = (xs.length : Int)
      · have hb1 : (y == (xs.length : Int)) = true := by simpa using hyx
        have HF := Lib.hid hyx
        clear hyx
        go_wp2_with fail
        go_roundw
        case rel =>
          refine ⟨j + 1, by omega, by go_num, Lib.hid ?_⟩
          rw [HT.out.1, HT.out.2.1, aft_snoc, aft_snoc, lessOf_miss _ _ _ HF.out]
          exact hst3.out
        case measure => simp [intOf]; omega
      · have hb1 : (y == (xs.length : Int)) = false := by simpa using hyx
        have HF := Lib.hid hyx
        have q1 := Lib.hid (BSpend_any w3 W.heap.size gc kc _ hst3.out.c y)
        clear hyx
        go_wp2_with fail
        refine q1.out.mono ?_
        clear q1
        rintro e w4 ⟨rfl, L4, h4⟩
        have hst4 := Lib.hid (hst3.out.sc L4 h4)
        clear L4 h4 hst3 hcx
        go_wp2_with fail
        go_roundw
        case rel =>
          refine ⟨j + 1, by omega, by go_num, Lib.hid ?_⟩
          rw [HT.out.1, HT.out.2.1, aft_snoc, aft_snoc, lessOf_hit _ _ _ HF.out, aft_snoc]
          exact hst4.out
        case measure => simp [intOf]; omega
    · obtain rfl : j = ys.length := by omega
      rw [List.take_length, show ys.reverse.take ys.length = ys.reverse from by rw [List.take_of_length_le (by simp)]] at hst
      go_wp2_with fail
      go_loopw [11, 12, 13, 14, 15, 16, 17, 78] (fun _ _ _ _ _ _ _ i wr => ∃ pre post : List Int, Hid (xs = pre ++ post) ∧ i = .int .i64 pre.length ∧ Hid (ST W wr ga ka (aft (newL xs) ys) gb kb (aft (newL xs) ys.reverse) gc kc (aft (newL (xs ++ [ex])) (lessOf xs.length ys)))) (fun _ _ _ _ _ _ _ i _ => xs.length - (intOf i).toNat)
      case atStart => exact ⟨[], xs, rfl, rfl, hst⟩
      case round =>
        clear hst
        obtain ⟨pre, post, hx, rfl, hst⟩ := hrel
        have hwx : ∀ x ∈ xs, wfI x := HX.out.1.2
        have hwx' : ∀ x ∈ xs ++ [ex], wfI x := fun x hx => (List.mem_append.1 hx).elim (HX.out.1.2 x) (fun h => (show x = ex by simpa using h) ▸ HX.out.2.2.2)
        cases post with
        | nil =>
          obtain rfl : pre = xs := by have := hx.out; simpa using this.symm
          have q1 := BLeft_any wr W.heap.size gc kc _ hst.out.c (pre.length : Nat)
          rw [aft_left (xs := pre ++ [ex]) (post := []) rfl hwx', err_at (by simp), lessOf_none] at q1
          have q2 := fun w' h => BLen_any w' W.heap.size gc kc (aft (newL (pre ++ [ex])) (lessOf pre.length ys)) h
          have q3 := fun w' h => BLen_any w' W.heap.size ga ka (aft (newL pre) ys) h
          have q4 := fun w' h => BSpent_any w' W.heap.size gc kc (aft (newL (pre ++ [ex])) (lessOf pre.length ys)) h (pre.length : Nat)
          rw [aft_spent (xs := pre ++ [ex]) (post := []) rfl hwx', lessOf_none] at q4
          rw [show (((aft (newL (pre ++ [ex])) (lessOf pre.length ys)).length : Nat) : Int) = (pre.length : Int) + 1 from by simp] at q2
          rw [show (((aft (newL pre) ys).length : Nat) : Int) = (pre.length : Int) from by simp] at q3
          have hcase : (ex < 0 ∧ max ex 0 = 0) ∨ (ex = 0 ∧ max ex 0 = 0) ∨ (0 < ex ∧ max ex 0 = ex) := by omega
          have hm : max ex 0 - min (max ex 0) ((0 : Nat) : Int) = max ex 0 ∧ min (max ex 0) ((0 : Nat) : Int) = 0 := by omega
          rw [hm.1] at q1
          rw [hm.2] at q4
          clear hm hwx hwx'
          generalize max ex 0 = m at *
          have HQ := Lib.hid (And.intro q1 (And.intro q2 (And.intro q3 q4)))
          clear q1 q2 q3 q4
          rcases hcase with ⟨hn, rfl⟩ | ⟨rfl, rfl⟩ | ⟨hn, rfl⟩
          all_goals
            go_wp2_with fail
            refine HQ.out.1.mono ?_
            rintro e w6 ⟨rfl, h6⟩
            have hst6 := Lib.hid (hst.out.no h6)
            clear h6 hst
            go_wp2_with fail
            refine (HQ.out.2.1 w6 hst6.out.c).mono ?_
            rintro e w7 ⟨rfl, rfl⟩
            go_wp2_with fail
            refine (HQ.out.2.2.1 w6 hst6.out.a).mono ?_
            rintro e w7 ⟨rfl, rfl⟩
            go_wp2_with fail
            refine (HQ.out.2.2.2 w6 hst6.out.c).mono ?_
            rintro e w7 ⟨rfl, rfl⟩
            go_wp2_with fail
            go_ret
            exact ⟨rfl, hst6.out.ch⟩
        | cons x post =>
          have hlen : pre.length < xs.length := by rw [hx.out]; simp
          have q1 := BLeft_any wr W.heap.size ga ka _ hst.out.a (pre.length : Nat)
          rw [aft_left hx.out hwx, err_at (by simpa using hlen)] at q1
          have q2 := fun w' h => BLeft_any w' W.heap.size gb kb (aft (newL xs) ys.reverse) h (pre.length : Nat)
          rw [aft_left hx.out hwx, err_at (by simpa using hlen), List.count_reverse] at q2
          have q3 := fun w' h => BLeft_any w' W.heap.size gc kc (aft (newL (xs ++ [ex])) (lessOf xs.length ys)) h (pre.length : Nat)
          rw [aft_left (xs := xs ++ [ex]) (pre := pre) (x := x) (post := post ++ [ex]) (by rw [hx.out]; simp) hwx', err_at (by simp; omega), lessOf_count _ _ _ (by omega)] at q3
          have q4 := fun w' h => BSpent_any w' W.heap.size ga ka (aft (newL xs) ys) h (pre.length : Nat)
          have q5 := fun w' h => BSpent_any w' W.heap.size gb kb (aft (newL xs) ys.reverse) h (pre.length : Nat)
          rw [aft_spent hx.out hwx] at q4
          rw [aft_spent hx.out hwx, List.count_reverse] at q5
          clear hwx hwx'
          generalize min (max x 0) ((ys.count ((pre.length : Nat) : Int) : Nat) : Int) = u at *
          generalize max x 0 - u = v at *
          have HQ := Lib.hid (And.intro q1 (And.intro q2 (And.intro q3 (And.intro q4 q5))))
          clear q1 q2 q3 q4 q5
          go_wp2_with fail
          refine HQ.out.1.mono ?_
          rintro e w6 ⟨rfl, h6⟩
          have hst6 := Lib.hid (hst.out.no h6)
          clear h6 hst
          go_wp2_with fail
          refine (HQ.out.2.1 w6 hst6.out.b).mono ?_
          rintro e w7 ⟨rfl, h7⟩
          have hst7 := Lib.hid (hst6.out.no h7)
          clear h7 hst6
          go_wp2_with fail
          refine (HQ.out.2.2.1 w7 hst7.out.c).mono ?_
          rintro e w8 ⟨rfl, h8⟩
          have hst8 := Lib.hid (hst7.out.no h8)
          clear h8 hst7
          go_wp2_with fail
          refine (HQ.out.2.2.2.1 w8 hst8.out.a).mono ?_
          rintro e w9 ⟨rfl, rfl⟩
          go_wp2_with fail
          refine (HQ.out.2.2.2.2 w8 hst8.out.b).mono ?_
          rintro e w9 ⟨rfl, rfl⟩
          go_wp2_with fail
          go_roundw
          case rel => exact ⟨pre ++ [x], post, by rw [hx.out]; simp [Hid], by simp, hst8⟩
          case measure => simp [intOf]; omega

theorem budgetTurns_walk (W : World) (a0 : Option Addr) (cap0 : Nat) (xs0 : List Int) (a1 : Option Addr) (cap1 : Nat) (xs1 : List Int) (a2 : Int) (c0 : Cls W a0 (ints .i64 xs0)) (_l0 : xs0.length ≤ cap0) (b0 : xs0.length * 8 ≤ 140737488351232) (w0 : ∀ x ∈ xs0, (Lit.int .i64 x).wf = true)
    (c1 : Cls W a1 (ints .i64 xs1)) (_l1 : xs1.length ≤ cap1) (b1 : xs1.length * 8 ≤ 140737488351232) (w1 : ∀ x ∈ xs1, (Lit.int .i64 x).wf = true) (w2 : (Lit.int .i64 a2).wf = true) :
    Calls Try.prog 9 #[.slice a0 xs0.length cap0, .slice a1 xs1.length cap1, .int .i64 a2] W fun e w' => e = .returned (.bool true) ∧ Below W.heap.size W w' :=
  (budgetTurns_core W a0 cap0 xs0 a1 cap1 xs1 a2 c0 (fun x hx => by have := bounds_i64 (w0 x hx); unfold wfI; omega) (by omega) c1 (fun x hx => by have := bounds_i64 (w1 x hx); unfold wfI; omega) (by omega) (by have := bounds_i64 w2; unfold wfI; omega)).mono fun e w' ⟨h1, h2⟩ => ⟨h1, h2.same⟩
end Go.Proofs.Ytjphocpnmhheeaa
