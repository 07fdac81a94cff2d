/- BudgetPlays: of all budgets, and each row of places, every answer is as said: the walk. -/
import Derived.Test.YtjphocpnmhheeaaBudSteps
import Derived.Test.YtjphocpnmhheeaaBudSums
import Derived.Test.YtjphocpnmhheeaaRead
namespace Go.Proofs.Ytjphocpnmhheeaa
open Go.RowKit

theorem spent_get (L : List Acc) (y : Int) (k : Nat) (h : ∀ a ∈ L, a.Ok) : spentI (spendL L y) (k : Nat) = spentI L (k : Nat) + (if y = k ∧ spendE L y = 0 then 1 else 0) := by
  unfold spentI
  rw [if_pos (by omega), if_pos (by omega), Int.toNat_natCast, spendL_get]
  cases hl : L[k]? with
  | none =>
    have hk : L.length ≤ k := List.getElem?_eq_none_iff.1 hl
    have : ¬ (y = k ∧ spendE L y = 0) := by
      rintro ⟨rfl, h2⟩
      unfold spendE at h2
      rw [if_neg (by omega)] at h2
      omega
    rw [if_neg this]
    rfl
  | some a =>
    have hk : k < L.length := (List.getElem?_eq_some_iff.1 hl).1
    obtain ⟨o1, o2, o3⟩ := h a (List.mem_of_getElem? hl)
    simp only [Option.map_some]
    by_cases hy : y = k
    · have hlf : leftI L y = a.m - a.s := by unfold leftI; rw [hy, if_pos (by omega), Int.toNat_natCast, hl]
      have hse : spendE L y = if a.m - a.s = 0 then 32 else 0 := by unfold spendE; rw [if_pos ⟨by omega, by omega⟩, hlf]
      rw [hse]
      by_cases hz : a.m - a.s = 0
      · rw [if_pos hz, if_neg (by omega), if_neg (by omega)]; simp
      · rw [if_neg hz, if_pos ⟨hy, by omega⟩, if_pos ⟨hy, rfl⟩]
    · rw [if_neg (fun e => hy e.1), if_neg (fun e => hy e.1)]
      simp

/-- what is done, as the reference keeps it -/
def Dn (L : List Acc) (D : List Int) : Prop := ∀ k : Nat, k < L.length → ((D.count (k : Int) : Nat) : Int) = spentI L (k : Nat)
theorem Dn.hit {L : List Acc} {D : List Int} {y : Int} (h : Dn L D) (ho : ∀ a ∈ L, a.Ok) (hy : spendE L y = 0) : Dn (spendL L y) (D ++ [y]) := by
  intro k hk
  rw [spendL_len] at hk
  rw [spent_get L y k ho, List.count_append, List.count_singleton, ← h k hk]
  by_cases e : y = k
  · simp [e, e ▸ hy]
  · simp [e]
theorem Dn.miss {L : List Acc} {D : List Int} {y : Int} (h : Dn L D) (ho : ∀ a ∈ L, a.Ok) (hy : ¬ spendE L y = 0) : Dn (spendL L y) D := by
  intro k hk
  rw [spendL_len] at hk
  rw [spent_get L y k ho, ← h k hk]
  simp [hy]

structure SP (W w : World) (B g : Nat) (k : Option Nat) (xs : List Int) (L : List Acc) (n : Nat) (v : Value) (D : List Int) : Prop where
  sb : SB W w g k xs L n
  own : OwnS w B 3 v (ints .i64 D)
  dn : Dn L D
  dl : D.length ≤ n
  ap : ∀ i, v.ownBlock = some i → i ≠ g ∧ k ≠ some i
theorem SP.no {W w w' : World} {B g n : Nat} {k : Option Nat} {xs : List Int} {L : List Acc} {v : Value} {D : List Int} (h : SP W w B g k xs L n v D) (hc : Ch No w w') : SP W w' B g k xs L n v D :=
  ⟨h.sb.no hc, h.own.ch hc (fun _ _ h => h), h.dn, h.dl, h.ap⟩
/-- one is spent at y, noted or not -/
theorem SP.spend {W w w' : World} {B g n : Nat} {k : Option Nat} {xs : List Int} {L : List Acc} {v : Value} {D : List Int} {y : Int} (h : SP W w B g k xs L n v D) (hl : Led w' W.heap.size g k (spendL L y)) (hc : Ch (fun j => k = some j) w w') (hy : ¬ spendE L y = 0) : SP W w' B g k xs (spendL L y) (n + 1) v D :=
  ⟨h.sb.spend y hl hc, h.own.ch hc (fun i hi he => (h.ap i hi).2 he), h.dn.miss h.sb.led.ok hy, by have := h.dl; omega, h.ap⟩

theorem cut_at {xs : List Int} {y : Int} (h : 0 ≤ y ∧ y < xs.length) : ∃ p x q, xs = p ++ x :: q ∧ y = (p.length : Nat) := by
  refine ⟨xs.take y.toNat, xs[y.toNat]'(by omega), xs.drop (y.toNat + 1), ?_, ?_⟩
  · rw [List.getElem_cons_drop, List.take_append_drop]
  · rw [List.length_take]; omega
theorem and7 (n : Int) : ∃ r : Nat, r < 8 ∧ bits .and .i64 n 7 = r := by
  have h := i64_mask n 3 (by decide)
  have e : ((2 : Int) ^ 3 - 1) = 7 := rfl
  rw [e] at h
  refine ⟨(n % 8).toNat, by omega, ?_⟩
  rw [h]
  omega

set_option maxHeartbeats 16000000 in
set_option maxRecDepth 100000 in
theorem budgetPlays_core (W : World) (A : Option Addr) (c : Nat) (xs : List Int) (A1 : Option Addr) (c1 : Nat) (ys : List Int) (n : Int) (hx : Cls W A (ints .i64 xs)) (hw : ∀ x ∈ xs, wfI x) (hl : xs.length ≤ 17592186044404)
    (hy : Cls W A1 (ints .i64 ys)) (hwy : ∀ x ∈ ys, wfI x) (hly : ys.length ≤ 17592186044404) :
    Calls Try.prog 7 #[.slice A xs.length c, .slice A1 ys.length c1, .int .i64 n] W fun e w' => e = .returned (.bool true) ∧ Ch No W w' := by
  have HX := Lib.hid (And.intro (And.intro hx hw) (And.intro hy hwy))
  clear hx hw hy hwy
  go_enter Try.func7, Try.ntmps7
  go_wp2_with fail
  refine (budAlive_any _).mono ?_
  rintro e w0 ⟨rfl, C0⟩
  have HC0 := Lib.hid C0
  clear C0
  by_cases h40 : 40 < xs.length
  · go_wp2_with fail
    go_ret
    exact ⟨rfl, HC0.out⟩
  by_cases h200 : 200 < ys.length
  · go_wp2_with fail
    go_ret
    exact ⟨rfl, HC0.out⟩
  go_wp2_with fail
  refine (BNew_any w0 A c xs (HX.out.1.1.ch HC0.out (fun _ _ h => h)) HX.out.1.2 (by omega)).mono ?_
  rintro e w1 ⟨g, k, rfl, L1, hg1, h1⟩
  go_wp2_with fail
  have HS : Hid (SP W (w1.alloc (.cells #[] 3)) W.heap.size g k xs (newL xs) 0 (.slice (some ⟨w1.heap.size, 0, none⟩) 0 0) []) := by
    have C1 : Ch No W w1 := HC0.out.trans h1
    have hg := L1.lt
    refine Lib.hid ⟨SB.no (w := w1) ⟨L1.lower HC0.out.size, rfl, by rw [totS_new]; simp, C1⟩ ((Ch.refl No w1).alloc _), (by simpa [ints] using OwnS.lit w1 w1.heap.size 3 [] (Nat.le_refl _) (by simp) : OwnS _ w1.heap.size _ _ _).lower C1.size, ?_, by simp, ?_⟩
    · intro j hj
      rw [newL_len] at hj
      obtain ⟨p, x, q, hx, e⟩ := cut_at (xs := xs) (y := (j : Nat)) ⟨by omega, by omega⟩
      obtain rfl : j = p.length := by omega
      rw [hx, newL_spent]
      simp
    · intro i hi
      have hi' : w1.heap.size = i := by simpa [Value.ownBlock] using hi
      exact ⟨by omega, fun e => by have := (L1.klt e).2; omega⟩
  clear L1 hg1 h1 HC0
  go_loopw [8, 10, 11, 12, 13, 34] (fun d _ _ _ _ i wr => ∃ (pre post D : List Int) (L : List Acc) (Ad : Option Addr) (cd : Nat), Hid (ys = pre ++ post) ∧ i = .int .i64 pre.length ∧ d = .slice Ad D.length cd ∧ Hid (SP W wr W.heap.size g k xs L pre.length (.slice Ad D.length cd) D)) (fun _ _ _ _ _ i _ => ys.length - (intOf i).toNat)
  case atStart => exact ⟨[], ys, [], newL xs, _, _, rfl, rfl, rfl, HS⟩
  case round =>
    clear HS
    obtain ⟨pre, post, D, L, Ad, cd, hy, rfl, rfl, hst⟩ := hrel
    have hdl := hst.out.dl
    have hLl := hst.out.sb.len
    cases post with
    | nil =>
      obtain rfl : pre = ys := by have := hy.out; simpa using this.symm
      have hap := hst.out.ap
      have hst0 : Hid (SP W (wr.alloc (.cells #[] 3)) W.heap.size g k xs L pre.length (.slice Ad D.length cd) D ∧ OwnS (wr.alloc (.cells #[] 3)) W.heap.size 3 (.slice (some ⟨wr.heap.size, 0, none⟩) 0 0) (ints .i64 (poorTo L 0)) ∧ ∀ i, (Value.slice (some ⟨wr.heap.size, 0, none⟩) 0 0).ownBlock = some i → (Value.slice Ad D.length cd).ownBlock ≠ some i ∧ i ≠ g ∧ k ≠ some i) := by
        refine Lib.hid ⟨hst.out.no ((Ch.refl No wr).alloc _), (by simpa [ints, poorTo] using OwnS.lit wr wr.heap.size 3 [] (Nat.le_refl _) (by simp) : OwnS _ wr.heap.size _ _ _).lower hst.out.sb.ch.size, ?_⟩
        intro i hi
        have hi' : wr.heap.size = i := by simpa [Value.ownBlock] using hi
        have := hst.out.sb.led.lt
        exact ⟨fun e => by have := (hst.out.own.ge i e).2; omega, by omega, fun e => by have := (hst.out.sb.led.klt e).2; omega⟩
      clear hap hst
      go_wp2_with fail
      go_loopw [14, 15, 16, 17, 18, 89] (fun nn _ _ _ _ i wr => ∃ (p q ns : List Int) (An : Option Addr) (cn : Nat), Hid (xs = p ++ q ∧ poorTo L p.length = ns) ∧ i = .int .i64 p.length ∧ nn = .slice An ns.length cn ∧ ns.length ≤ p.length ∧ Hid (SP W wr W.heap.size g k xs L pre.length (.slice Ad D.length cd) D ∧ OwnS wr W.heap.size 3 (.slice An ns.length cn) (ints .i64 ns) ∧ ∀ i, (Value.slice An ns.length cn).ownBlock = some i → (Value.slice Ad D.length cd).ownBlock ≠ some i ∧ i ≠ g ∧ k ≠ some i)) (fun _ _ _ _ _ i _ => xs.length - (intOf i).toNat)
      case atStart => exact ⟨[], xs, [], _, _, Lib.hid ⟨rfl, rfl⟩, rfl, rfl, Nat.le_refl _, hst0⟩
      case round =>
        clear hst0
        obtain ⟨p, q, ns, An, cn, hx, rfl, rfl, hnl, hst⟩ := hrel
        cases q with
        | nil =>
          obtain rfl : p = xs := by have := hx.out.1; simpa using this.symm
          have hpa : poorAll L = ns := by unfold poorAll; rw [hLl]; exact hx.out.2
          have q1 := fun w' h => BLen_any w' W.heap.size g k L h
          rw [show ((L.length : Nat) : Int) = (p.length : Int) from by rw [hLl]] at q1
          have q2 := fun w' h => poor_any w' W.heap.size g k L h (by omega) 1000
          rw [hpa, List.take_of_length_le (by have : (1000 : Int).toNat = 1000 := rfl
                                              omega)] at q2
          have q3 := fun w' A' c' h h' => RSameInts_any w' A' c' ns An cn ns h h' (by omega)
          rw [show decide (ns = ns) = true from by simp] at q3
          obtain ⟨r, hr8, hk⟩ := and7 n
          have q4 := fun w' h => poor_any w' W.heap.size g k L h (by omega) r
          rw [hpa, Int.toNat_natCast] at q4
          obtain ⟨tk, htk⟩ : ∃ tk, ns.take r = tk := ⟨_, rfl⟩
          rw [htk] at q4
          have htl : tk.length = min r ns.length := by rw [← htk]; simp
          have hcase : (r < ns.length ∧ tk.length = r) ∨ (r = ns.length ∧ tk.length = ns.length) ∨ (ns.length < r ∧ tk.length = ns.length) := by omega
          have HQ := Lib.hid (And.intro q1 (And.intro q2 (And.intro q3 q4)))
          obtain ⟨An', cn', e1, XN, _⟩ := hst.out.2.1.slice_ints
          obtain ⟨rfl, rfl⟩ : An = An' ∧ cn = cn' := by simpa using e1
          have HS : Hid (Led wr W.heap.size g k L ∧ Cls wr An (ints .i64 ns) ∧ Ch No W wr) := Lib.hid ⟨hst.out.1.sb.led, XN, hst.out.1.sb.ch⟩
          clear q1 q2 q3 q4 hpa hLl htk htl e1 XN hst
          obtain ⟨tn, htn⟩ : ∃ tn, tk.length = tn := ⟨_, rfl⟩
          rw [htn] at hcase
          have HT := Lib.hid htn
          clear htn
          rcases hcase with ⟨hc, rfl⟩ | ⟨rfl, rfl⟩ | ⟨hc, rfl⟩
          all_goals
            go_wp2_with fail
            refine (HQ.out.1 wr HS.out.1).mono ?_
            rintro e w2 ⟨rfl, rfl⟩
            go_wp2_with fail
            refine (HQ.out.2.1 wr HS.out.1).mono ?_
            rintro e w2 ⟨v2, rfl, o2, h2⟩
            obtain ⟨A2, c2, rfl, X2, _⟩ := o2.slice_ints
            have H2 : Hid (Led w2 W.heap.size g k L ∧ Cls w2 An (ints .i64 ns) ∧ Cls w2 A2 (ints .i64 ns) ∧ Ch No W w2) := Lib.hid ⟨HS.out.1.ch h2 (fun h => h) (fun _ _ h => h), HS.out.2.1.ch h2 (fun _ _ h => h), X2, HS.out.2.2.trans h2⟩
            clear o2 h2 X2
            go_wp2_with fail
            refine (HQ.out.2.2.1 w2 A2 c2 H2.out.2.2.1 H2.out.2.1).mono ?_
            rintro e w3 ⟨rfl, h3⟩
            have H3 := Lib.hid (And.intro (H2.out.1.ch h3 (fun h => h) (fun _ _ h => h)) (H2.out.2.2.2.trans h3))
            clear h3
            go_wp2_with fail
            refine (HQ.out.2.2.2 w3 H3.out.1).mono ?_
            rintro e w4 ⟨v4, rfl, o4, h4⟩
            obtain ⟨A4, c4, rfl, X4, _⟩ := o4.slice_ints
            have H4 := Lib.hid (H3.out.2.trans h4)
            clear o4 h4 X4
            rw [HT.out]
            go_wp2_with fail
            go_ret
            exact ⟨rfl, H4.out⟩
        | cons x q =>
          have hlen : p.length < xs.length := by rw [hx.out.1]; simp
          have hxs := hx.out.1
          obtain ⟨hsum, hl0, hs0, her⟩ := hst.out.1.sb.at hxs
          have hdn := hst.out.1.dn p.length (by omega)
          have q1 := fun w' h => RMost_any w' A c p q x h
          rw [← hxs] at q1
          have q2 := fun w' h => RCount_any w' Ad cd D h (by omega) (p.length : Nat)
          rw [hdn] at q2
          have q3 := fun w' h => BLeft_any w' W.heap.size g k L h (p.length : Nat)
          rw [her] at q3
          have q4 := fun w' h => BSpent_any w' W.heap.size g k L h (p.length : Nat)
          have hhit := poorTo_hit L p.length
          have hmiss := poorTo_miss L p.length
          rw [hx.out.2] at hhit hmiss
          have hm1 : max x 0 ≤ 9223372036854775807 := by have := HX.out.1.2 x (by rw [hxs]; simp); unfold wfI at this; omega
          obtain ⟨s, hs⟩ : ∃ s, spentI L (p.length : Nat) = s := ⟨_, rfl⟩
          obtain ⟨d, hd⟩ : ∃ d, leftI L (p.length : Nat) = d := ⟨_, rfl⟩
          obtain ⟨m, hm⟩ : ∃ m, max x 0 = m := ⟨_, rfl⟩
          rw [hs] at q2 q4 hsum hs0
          rw [hd] at q3 hhit hmiss hsum hl0
          rw [hm] at q1 hsum hm1
          have hmd : m - s = d := by omega
          have HQ := Lib.hid (And.intro q1 (And.intro q2 (And.intro q3 q4)))
          clear q1 q2 q3 q4 hxs her hdn hs hd hm hsum
          obtain ⟨Ad', cd', e1, XD, _⟩ := hst.out.1.own.slice_ints
          obtain ⟨rfl, rfl⟩ : Ad = Ad' ∧ cd = cd' := by simpa using e1
          have HXD := Lib.hid XD
          clear e1 XD
          by_cases hz : d = 0
          · have hh := Lib.hid (hhit hz)
            have hms : m - s = 0 := by omega
            have HMS := Lib.hid hms
            subst hz
            clear hhit hmiss hmd
            go_wp2_with fail
            refine (HQ.out.1 wr (HX.out.1.1.ch hst.out.1.sb.ch (fun _ _ h => h))).mono ?_
            rintro e w2 ⟨rfl, rfl⟩
            go_wp2_with fail
            refine (HQ.out.2.1 wr HXD.out).mono ?_
            rintro e w2 ⟨rfl, rfl⟩
            go_wp2_with fail
            refine (HQ.out.2.2.1 wr hst.out.1.sb.led).mono ?_
            rintro e w2 ⟨rfl, h2⟩
            have hst2 : Hid (SP W w2 W.heap.size g k xs L pre.length (.slice Ad D.length cd) D ∧ OwnS w2 W.heap.size 3 (.slice An ns.length cn) (ints .i64 ns) ∧ ∀ i, (Value.slice An ns.length cn).ownBlock = some i → (Value.slice Ad D.length cd).ownBlock ≠ some i ∧ i ≠ g ∧ k ≠ some i) := Lib.hid ⟨hst.out.1.no h2, hst.out.2.1.ch h2 (fun _ _ h => h), hst.out.2.2⟩
            have HXD2 := Lib.hid (HXD.out.ch h2 (fun _ _ h => h))
            clear h2 hst HXD
            go_wp2_with fail
            refine (HQ.out.2.2.2 w2 hst2.out.1.sb.led).mono ?_
            rintro e w3 ⟨rfl, rfl⟩
            go_wp2_with fail
            refine (HQ.out.2.1 w2 HXD2.out).mono ?_
            rintro e w3 ⟨rfl, rfl⟩
            go_wp2_with (at_builtin; refine app1i rfl _ _ 56 3 rfl .i64 0 8 Try.underlying56 infoInt W.heap.size An cn ns _ rfl hst2.out.2.1 1 rfl ?hn ?hb ?hB ?_)
            case hn => simp [maxLen]; omega
            case hb => omega
            case hB => exact hst2.out.1.sb.ch.size
            intro g4 c4 w4 o4 h4 hat
            have HF : Hid (SP W w4 W.heap.size g k xs L pre.length (.slice Ad D.length cd) D ∧ OwnS w4 W.heap.size 3 (.slice (some ⟨g4, 0, none⟩) (ns.length + 1) c4) (ints .i64 (ns ++ [(p.length : Int)])) ∧ ∀ i, (Value.slice (some ⟨g4, 0, none⟩) (ns.length + 1) c4).ownBlock = some i → (Value.slice Ad D.length cd).ownBlock ≠ some i ∧ i ≠ g ∧ k ≠ some i) := by
              obtain ⟨k1, k2, k3⟩ := hst2.out
              have hlt' := k1.sb.led.lt
              have hklt := fun i (hi : k = some i) => (k1.sb.led.klt hi).2
              have hdlt := fun i (hi : (Value.slice Ad D.length cd).ownBlock = some i) => (k1.own.ge i hi).2
              refine Lib.hid ⟨⟨⟨k1.sb.led.ch h4 (fun he => (k3 _ he).2.1 rfl) (fun i hi he => (k3 i he).2.2 hi), k1.sb.ms, k1.sb.tot, k1.sb.ch.trans' h4 (fun i hi he => by have := (k2.ge i he).1; omega)⟩, k1.own.ch h4 (fun i hi he => (k3 i he).1 hi), k1.dn, k1.dl, k1.ap⟩, by simpa using o4, ?_⟩
              intro i hi
              have hi' : g4 = i := by simpa [Value.ownBlock] using hi
              subst hi'
              rcases hat with hat | hat
              · exact k3 g4 hat
              · exact ⟨fun e => by have := hdlt g4 e; omega, by omega, fun e => by have := hklt g4 e; omega⟩
            clear o4 h4 hat hst2 HXD2
            go_wp2_with fail
            go_roundw
            case rel => exact ⟨p ++ [x], q, ns ++ [(p.length : Int)], _, c4, Lib.hid ⟨by rw [hx.out.1]; simp, by rw [List.length_append]; exact hh.out⟩, by simp, by simp; rfl, by simp; omega, by simpa using HF⟩
            case measure => simp [intOf]; omega
          · have hh := Lib.hid (hmiss hz)
            have hms : (m == s) = false := by simp only [beq_eq_false_iff_ne, ne_eq]; omega
            have hdz : (d == 0) = false := by simpa using hz
            clear hhit hmiss hz
            go_wp2_with fail
            refine (HQ.out.1 wr (HX.out.1.1.ch hst.out.1.sb.ch (fun _ _ h => h))).mono ?_
            rintro e w2 ⟨rfl, rfl⟩
            go_wp2_with fail
            refine (HQ.out.2.1 wr HXD.out).mono ?_
            rintro e w2 ⟨rfl, rfl⟩
            go_wp2_with fail
            refine (HQ.out.2.2.1 wr hst.out.1.sb.led).mono ?_
            rintro e w2 ⟨rfl, h2⟩
            have hst2 : Hid (SP W w2 W.heap.size g k xs L pre.length (.slice Ad D.length cd) D ∧ OwnS w2 W.heap.size 3 (.slice An ns.length cn) (ints .i64 ns) ∧ ∀ i, (Value.slice An ns.length cn).ownBlock = some i → (Value.slice Ad D.length cd).ownBlock ≠ some i ∧ i ≠ g ∧ k ≠ some i) := Lib.hid ⟨hst.out.1.no h2, hst.out.2.1.ch h2 (fun _ _ h => h), hst.out.2.2⟩
            have HXD2 := Lib.hid (HXD.out.ch h2 (fun _ _ h => h))
            clear h2 hst HXD
            go_wp2_with fail
            refine (HQ.out.2.2.2 w2 hst2.out.1.sb.led).mono ?_
            rintro e w3 ⟨rfl, rfl⟩
            go_wp2_with fail
            refine (HQ.out.2.1 w2 HXD2.out).mono ?_
            rintro e w3 ⟨rfl, rfl⟩
            go_wp2_with fail
            go_roundw
            case rel => exact ⟨p ++ [x], q, ns, An, cn, Lib.hid ⟨by rw [hx.out.1]; simp, by rw [List.length_append]; exact hh.out⟩, by simp, rfl, by simp; omega, hst2⟩
            case measure => simp [intOf]; omega
    | cons y post =>
      have hlen : pre.length < ys.length := by rw [hy.out]; simp
      obtain ⟨b, off, rfl, hcy⟩ := (HX.out.2.1.ch hst.out.sb.ch (fun _ _ h => h)).at hy.out
      have hwy := HX.out.2.2 y (by rw [hy.out]; simp)
      unfold wfI at hwy
      by_cases hr : 0 ≤ y ∧ y < xs.length
      · obtain ⟨p, x, q, hxs, rfl⟩ := cut_at hr
        obtain ⟨hsum, hl0, hs0, her⟩ := hst.out.sb.at hxs
        have hlt : p.length < xs.length := by omega
        have q1 := BSpend_any wr W.heap.size g k L hst.out.sb.led (p.length : Nat)
        have hse : spendE L (p.length : Nat) = if leftI L (p.length : Nat) = 0 then 32 else 0 := by unfold spendE; rw [if_pos ⟨by omega, by omega⟩]
        have hdn := hst.out.dn p.length (by omega)
        have q2 := fun w' h => RCount_any w' Ad cd D h (by omega) (p.length : Nat)
        rw [hdn] at q2
        have hm1 : max x 0 ≤ 9223372036854775807 := by have := HX.out.1.2 x (by rw [hxs]; simp); unfold wfI at this; omega
        have q3 := fun w' h => RMost_any w' A c p q x h
        rw [← hxs] at q3
        rw [← hsum] at q3 hm1
        have HSE := Lib.hid hse
        have HXS := Lib.hid hxs
        clear hse hdn hxs her hsum
        by_cases hz : leftI L (p.length : Nat) = 0
        · rw [HSE.out, if_pos hz] at q1
          rw [hz, Int.zero_add] at q3
          have HN : Hid (¬ spendE L (p.length : Nat) = 0) := Lib.hid (by rw [HSE.out, if_pos hz]; decide)
          obtain ⟨s, hs⟩ : ∃ s, spentI L (p.length : Nat) = s := ⟨_, rfl⟩
          rw [hs] at q2 q3
          have HQ := Lib.hid (And.intro q1 (And.intro q2 q3))
          clear q1 q2 q3 hz hs hl0 hs0 hm1
          go_wp2_with fail
          refine HQ.out.1.mono ?_
          rintro e w2 ⟨rfl, L2, h2⟩
          have hst2 := Lib.hid (hst.out.spend L2 h2 HN.out)
          clear L2 h2 hst
          go_wp2_with fail
          obtain ⟨Ad', cd', e1, XD, _⟩ := hst2.out.own.slice_ints
          obtain ⟨rfl, rfl⟩ : Ad = Ad' ∧ cd = cd' := by simpa using e1
          have HXD := Lib.hid XD
          clear e1 XD
          refine (HQ.out.2.1 w2 HXD.out).mono ?_
          rintro e w3 ⟨rfl, rfl⟩
          go_wp2_with fail
          refine (HQ.out.2.2 w2 (HX.out.1.1.ch hst2.out.sb.ch (fun _ _ h => h))).mono ?_
          rintro e w3 ⟨rfl, rfl⟩
          go_wp2_with fail
          go_roundw
          case rel => exact ⟨pre ++ [((p.length : Nat) : Int)], post, D, _, Ad, cd, by rw [hy.out]; simp [Hid], by simp, rfl, by rw [List.length_append]; exact hst2⟩
          case measure => simp [intOf]; omega
        · rw [HSE.out, if_neg hz] at q1
          have HN : Hid (spendE L (p.length : Nat) = 0) := Lib.hid (by rw [HSE.out, if_neg hz])
          obtain ⟨s, hs⟩ : ∃ s, spentI L (p.length : Nat) = s := ⟨_, rfl⟩
          rw [hs] at q2 q3 hm1
          obtain ⟨m, hm⟩ : ∃ m, leftI L (p.length : Nat) + s = m := ⟨_, rfl⟩
          rw [hm] at q3 hm1
          have hsm : (s == m) = false := by simp only [beq_eq_false_iff_ne, ne_eq]; omega
          have HQ := Lib.hid (And.intro q1 (And.intro q2 q3))
          clear q1 q2 q3 hz hs hl0 hs0 hm1 hm
          go_wp2_with fail
          refine HQ.out.1.mono ?_
          rintro e w2 ⟨rfl, L2, h2⟩
          have hap := hst.out.ap
          have hst2 : Hid (SB W w2 g k xs (spendL L (p.length : Nat)) (pre.length + 1) ∧ OwnS w2 W.heap.size 3 (.slice Ad D.length cd) (ints .i64 D) ∧ Dn (spendL L (p.length : Nat)) (D ++ [(p.length : Int)])) :=
            Lib.hid ⟨hst.out.sb.spend _ L2 h2, hst.out.own.ch h2 (fun i hi he => (hap i hi).2 he), hst.out.dn.hit hst.out.sb.led.ok HN.out⟩
          have HA := Lib.hid hap
          clear L2 h2 hst hap
          go_wp2_with fail
          obtain ⟨Ad', cd', e1, XD, _⟩ := hst2.out.2.1.slice_ints
          obtain ⟨rfl, rfl⟩ : Ad = Ad' ∧ cd = cd' := by simpa using e1
          have HXD := Lib.hid XD
          clear e1 XD
          refine (HQ.out.2.1 w2 HXD.out).mono ?_
          rintro e w3 ⟨rfl, rfl⟩
          go_wp2_with fail
          refine (HQ.out.2.2 w2 (HX.out.1.1.ch hst2.out.1.ch (fun _ _ h => h))).mono ?_
          rintro e w3 ⟨rfl, rfl⟩
          go_wp2_with (at_builtin; refine app1i rfl _ _ 56 3 rfl .i64 0 8 Try.underlying56 infoInt W.heap.size Ad cd D _ rfl hst2.out.2.1 1 rfl ?hn ?hb ?hB ?_)
          case hn => simp [maxLen]; omega
          case hb => omega
          case hB => exact hst2.out.1.ch.size
          intro g4 c4 w4 o4 h4 hat
          have HF : Hid (SP W w4 W.heap.size g k xs (spendL L (p.length : Nat)) (pre.length + 1) (.slice (some ⟨g4, 0, none⟩) (D ++ [(p.length : Int)]).length c4) (D ++ [(p.length : Int)])) := by
            have hlt' := hst2.out.1.led.lt
            have hklt := fun i (hi : k = some i) => (hst2.out.1.led.klt hi).2
            refine Lib.hid ⟨⟨hst2.out.1.led.ch h4 (fun he => (HA.out _ he).1 rfl) (fun i hi he => (HA.out i he).2 hi), hst2.out.1.ms, hst2.out.1.tot, hst2.out.1.ch.trans' h4 (fun i hi he => by have := (hst2.out.2.1.ge i he).1; omega)⟩, by simpa using o4, hst2.out.2.2, by simp; omega, ?_⟩
            intro i hi
            have hi' : g4 = i := by simpa [Value.ownBlock] using hi
            subst hi'
            rcases hat with hat | hat
            · exact HA.out g4 hat
            · exact ⟨by omega, fun e => by have := hklt g4 e; omega⟩
          clear o4 h4 hat hst2 HA
          go_wp2_with fail
          go_roundw
          case rel => exact ⟨pre ++ [((p.length : Nat) : Int)], post, D ++ [(p.length : Int)], _, _, c4, by rw [hy.out]; simp [Hid], by simp, by simp; rfl, by rw [List.length_append]; exact HF⟩
          case measure => simp [intOf]; omega
      · have q1 := BSpend_any wr W.heap.size g k L hst.out.sb.led y
        rw [show spendE L y = 4 from by unfold spendE; rw [if_neg (by omega)]] at q1
        have HN : Hid (¬ spendE L y = 0) := Lib.hid (by unfold spendE; rw [if_neg (by omega)]; decide)
        have q2 := fun w' h => BSpent_any w' W.heap.size g k (spendL L y) h y
        rw [spentI_out (l := spendL L y) (by rw [spendL_len]; omega)] at q2
        have HQ := Lib.hid (And.intro q1 q2)
        have hcase : y < 0 ∨ (0 ≤ y ∧ decide (y < (xs.length : Int)) = false) := by simp only [decide_eq_false_iff_not]; omega
        clear q1 q2 hr
        rcases hcase with hc | ⟨hc0, hc⟩
        all_goals
          go_wp2_with fail
          refine HQ.out.1.mono ?_
          rintro e w2 ⟨rfl, L2, h2⟩
          have hst2 := Lib.hid (hst.out.spend L2 h2 HN.out)
          clear L2 h2 hst
          go_wp2_with fail
          refine (HQ.out.2 w2 hst2.out.sb.led).mono ?_
          rintro e w3 ⟨rfl, rfl⟩
          go_wp2_with fail
          go_roundw
          case rel => exact ⟨pre ++ [y], post, D, _, Ad, cd, by rw [hy.out]; simp [Hid], by simp, rfl, by rw [List.length_append]; exact hst2⟩
          case measure => simp [intOf]; omega

theorem budgetPlays_walk (W : World) (a0 : Option Addr) (cap0 : Nat) (xs0 : List Int) (a1 : Option Addr) (cap1 : Nat) (xs1 : List Int) (a2 : Int) (c0 : Cls W a0 (ints .i64 xs0)) (_l0 : xs0.length ≤ cap0) (b0 : xs0.length * 8 ≤ 140737488351232) (w0 : ∀ x ∈ xs0, (Lit.int .i64 x).wf = true)
    (c1 : Cls W a1 (ints .i64 xs1)) (_l1 : xs1.length ≤ cap1) (b1 : xs1.length * 8 ≤ 140737488351232) (w1 : ∀ x ∈ xs1, (Lit.int .i64 x).wf = true) (_w2 : (Lit.int .i64 a2).wf = true) :
    Calls Try.prog 7 #[.slice a0 xs0.length cap0, .slice a1 xs1.length cap1, .int .i64 a2] W fun e w' => e = .returned (.bool true) ∧ Below W.heap.size W w' :=
  (budgetPlays_core W a0 cap0 xs0 a1 cap1 xs1 a2 c0 (fun x hx => by have := bounds_i64 (w0 x hx); unfold wfI; omega) (by omega) c1 (fun x hx => by have := bounds_i64 (w1 x hx); unfold wfI; omega) (by omega)).mono fun e w' ⟨h1, h2⟩ => ⟨h1, h2.same⟩
end Go.Proofs.Ytjphocpnmhheeaa
