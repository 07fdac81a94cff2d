/- The reference's reader: what Raw, Get, Num come to. -/
import Derived.Test.YtflpelacjdnplaaOctGet
import Derived.Test.YtflpelacjdnplaaRefs
import Derived.Test.YtflpelacjdnplaaSign
import Derived.Test.YtflpelacjdnplaaRefLow
import Derived.Deep.RegionWith
import Derived.Deep.RegionHeld3
import Derived.Deep.AppendLies
namespace Go.Proofs.Ytflpelacjdnplaa
open Go.RowKit

/-- a reader of the reference, as a value -/
def rdV (A : Option Addr) (n c : Nat) (bad : Bool) : Value := .agg #[.slice A n c, .bool bad]
/-- a step of it: the reader behind it, and a value -/
def RRawP (w : World) (xs : List Int) (bad : Bool) (n : Nat) (e : Ending) (w' : World) : Prop :=
  ∃ A1 c1 A2 c2, e = .returned (.tuple #[rdV A2 (tkR xs bad n).length c2 (tkB xs bad n), .slice A1 (tkO xs bad n).length c1]) ∧ Cls w' A1 (ints .u8 (tkO xs bad n)) ∧ Cls w' A2 (ints .u8 (tkR xs bad n)) ∧ Ch No w w' ∧ (tkR xs bad n).length ≤ c2

theorem rr_bad {w w' : World} {A : Option Addr} {c n : Nat} {xs : List Int} {bad : Bool} (h : Cls w A (ints .u8 xs)) (hC : Ch No w w') (hb : tkB xs bad n = true) (hc : xs.length ≤ c) :
    RRawP w xs bad n (.returned (.tuple #[rdV A xs.length c true, .slice none 0 0])) w' := by
  have e1 : tkO xs bad n = [] := by unfold tkO; rw [if_pos hb]
  have e2 : tkR xs bad n = xs := by unfold tkR; rw [if_pos hb]
  refine ⟨none, 0, A, c, by rw [e1, e2, hb]; rfl, by rw [e1]; exact Cls.nil _ _, by rw [e2]; exact h.ch hC (fun _ _ h => h), hC, by rw [e2]; exact hc⟩
theorem rr_ok {w w' : World} {A A2 : Option Addr} {c n : Nat} {xs : List Int} (h : Cls w A (ints .u8 xs)) (hC : Ch No w w') (hn : n ≤ xs.length) (hc : xs.length ≤ c) (hA : (c = n ∧ A2 = A) ∨ A2 = A.map (·.add n)) :
    RRawP w xs false n (.returned (.tuple #[rdV A2 (xs.length - n) (c - n) false, .slice A n c])) w' := by
  have hb : tkB xs false n = false := by simp [tkB]; omega
  have e1 : tkO xs false n = xs.take n := by simp [tkO, hb]
  have e2 : tkR xs false n = xs.drop n := by simp [tkR, hb]
  have h' := h.ch hC (fun _ _ h => h)
  refine ⟨A, c, A2, c - n, ?_, ?_, ?_, hC, ?_⟩
  · rw [e1, e2, hb, List.length_take, List.length_drop, Nat.min_eq_left hn]
  · rw [e1, ints_take]; exact h'.takeI n
  · rw [e2, ints_drop]
    rcases hA with ⟨h1, rfl⟩ | rfl
    · rw [List.drop_eq_nil_of_le (by simp; omega)]
      exact Cls.nil _ _
    · exact h'.dropI n
  · rw [e2, List.length_drop]; omega

theorem rr_zero {w w' : World} {A : Option Addr} {c : Nat} {xs : List Int} (h : Cls w A (ints .u8 xs)) (hC : Ch No w w') (hc : xs.length ≤ c) :
    RRawP w xs false 0 (.returned (.tuple #[rdV A xs.length c false, .slice A 0 c])) w' :=
  ⟨A, c, A, c, by simp [tkO, tkR, tkB], by simpa [tkO, tkB, ints] using Cls.nil w' A, by simpa [tkR, tkB] using h.ch hC (fun _ _ h => h), hC, by simpa [tkR, tkB] using hc⟩

set_option maxHeartbeats 1000000 in
theorem RRaw2_any (w : World) (A : Option Addr) (c : Nat) (xs : List Int) (bad : Bool) (h : Cls w A (ints .u8 xs)) (hc : xs.length ≤ c) (hm : xs.length ≤ 100000000000000) (n : Int) (hn : n ≤ 9223372036854775807) :
    Calls Try.prog 66 #[rdV A xs.length c bad, .int .i64 n] w (RRawP w xs bad n.toNat) := by
  have HC := Lib.hid h
  clear h
  by_cases h0 : n < 0
  · rw [show n.toNat = 0 from by omega]
    cases bad with
    | true =>
      have HB : Hid (tkB xs true 0 = true) := Lib.hid rfl
      unfold rdV
      go_enter Try.func66, Try.ntmps66
      go_wp2_with fail
      exact bodyPost_ret (v := .tuple #[rdV A xs.length c true, .slice none 0 0]) (by simp [rdV, results, Try.results66, go_sem]) rfl (rr_bad HC.out (by repeat (first | exact Ch.refl _ _ | apply Ch.alloc | apply Ch.drewN | apply Ch.drew)) HB.out hc)
    | false =>
      unfold rdV
      go_enter Try.func66, Try.ntmps66
      go_wp2_with fail
      exact bodyPost_ret (v := .tuple #[rdV A xs.length c false, .slice A 0 c]) (by simp [rdV, results, Try.results66, go_sem]) rfl (rr_zero HC.out (by repeat (first | exact Ch.refl _ _ | apply Ch.alloc | apply Ch.drewN | apply Ch.drew)) hc)
  · obtain ⟨k, rfl⟩ : ∃ k : Nat, n = k := ⟨n.toNat, by omega⟩
    rw [show ((k : Nat) : Int).toNat = k from by omega]
    by_cases hb : tkB xs bad k = true
    · have hq : bad = true ∨ xs.length < k := by simpa [tkB] using hb
      have HB := Lib.hid hb
      clear hb
      cases bad with
      | true =>
        unfold rdV
        go_enter Try.func66, Try.ntmps66
        go_wp2_with fail
        exact bodyPost_ret (v := .tuple #[rdV A xs.length c true, .slice none 0 0]) (by simp [rdV, results, Try.results66, go_sem]) rfl (rr_bad HC.out (by repeat (first | exact Ch.refl _ _ | apply Ch.alloc | apply Ch.drewN | apply Ch.drew)) HB.out hc)
      | false =>
        have hlt : xs.length < k := by simpa using hq
        unfold rdV
        go_enter Try.func66, Try.ntmps66
        go_wp2_with fail
        exact bodyPost_ret (v := .tuple #[rdV A xs.length c true, .slice none 0 0]) (by simp [rdV, results, Try.results66, go_sem]) rfl (rr_bad HC.out (by repeat (first | exact Ch.refl _ _ | apply Ch.alloc | apply Ch.drewN | apply Ch.drew)) HB.out hc)
    · have hq : bad = false ∧ ¬ xs.length < k := by simpa [tkB] using hb
      obtain ⟨rfl, hlt⟩ := hq
      clear hb
      by_cases hck : c = k
      · subst hck
        unfold rdV
        go_enter Try.func66, Try.ntmps66
        go_wp2_with fail
        have hz := rr_ok (A2 := A) HC.out (w' := (w.alloc (.cells #[.slice A 0 0, .bool false] 98)).alloc (.cells #[.slice A 0 0, .bool false] 98)) (by repeat (first | exact Ch.refl _ _ | apply Ch.alloc | apply Ch.drewN | apply Ch.drew)) (by omega) hc (.inl ⟨rfl, rfl⟩)
        rw [Nat.sub_self, show xs.length - c = 0 from by omega] at hz
        exact bodyPost_ret (v := .tuple #[rdV A 0 0 false, .slice A c c]) (by simp [rdV, results, Try.results66, go_sem]) rfl hz
      · have hck' : k < c := by omega
        clear hck
        unfold rdV
        go_enter Try.func66, Try.ntmps66
        go_wp2_with fail
        exact bodyPost_ret (v := .tuple #[rdV (A.map (·.add k)) (xs.length - k) (c - k) false, .slice A k c]) (by simp [rdV, results, Try.results66, go_sem]) rfl (rr_ok HC.out (by repeat (first | exact Ch.refl _ _ | apply Ch.alloc | apply Ch.drewN | apply Ch.drew)) (by omega) hc (.inr rfl))

theorem sgn_split (n r : Nat) : sgn n (r + 1) = ((n % 2 ^ r : Nat) : Int) - ((bitAt n r * 2 ^ r : Nat) : Int) := by
  have h1 := low_step n r
  have h2 := bitAt_le n r
  have h3 : n % 2 ^ r < 2 ^ r := Nat.mod_lt _ (Nat.two_pow_pos r)
  have h4 : (2 : Nat) ^ (r + 1) = 2 ^ r + 2 ^ r := by rw [Nat.pow_succ]; omega
  unfold sgn
  rw [if_neg (by omega), Nat.add_sub_cancel, h1]
  have h5 : ((2 : Int) ^ (r + 1)) = ((2 ^ (r + 1) : Nat) : Int) := by simp
  rw [h5, h4]
  generalize (2 : Nat) ^ r = p at *
  have h6 : bitAt n r = 0 ∨ bitAt n r = 1 := by omega
  rcases h6 with h6 | h6 <;> rw [h6] <;> split <;> omega

set_option maxHeartbeats 2000000 in
theorem RSign_any (n : Nat) (b : Int) (w : World) (hn : n < 2 ^ 64) : Calls Try.prog 65 #[.int .u64 n, .int .i64 b] w fun e w' => e = .returned (.int .i64 (sgn n (hld b))) ∧ w = w' := by
  have hl := hld_le b
  have hh := fun w => RHeld_64 b w
  generalize hld b = h at *
  cases h with
  | zero =>
    go_enter Try.func65, Try.ntmps65
    go_wp2_with fail
    refine (hh _).mono ?_
    rintro e w1 ⟨rfl, rfl⟩
    go_wp2_with fail
    go_ret
    exact ⟨rfl, rfl⟩
  | succ r =>
    have hlow := fun w => RLow_any n ((r : Int)) w hn
    have hlo : lowB n (r : Int) = n % 2 ^ r := by
      unfold lowB
      rw [show hld (r : Int) = r from by unfold hld; omega]
    rw [hlo] at hlow
    have hbt := fun w => Bit_any n r w hn (by omega)
    have hpw := fun w => Power_any r w (by omega)
    have hp2 : pow2 r = 2 ^ r := rfl
    have hb := bitAt_le n r
    have hsg := sgn_split n r
    have hlt : n % 2 ^ r < 2 ^ r := Nat.mod_lt _ (Nat.two_pow_pos r)
    have hq63 : 2 ^ r ≤ 2 ^ 63 := Nat.pow_le_pow_right (by omega) (by omega)
    have hr0 : r = 0 → 2 ^ r = 1 := fun h => by simp [h]
    have hr1 : r ≠ 0 → 2 ^ r % 2 = 0 := fun h => by
      obtain ⟨k, rfl⟩ : ∃ k, r = k + 1 := ⟨r - 1, by omega⟩
      rw [Nat.pow_succ, Nat.mul_mod_left]
    rw [hp2] at hpw
    clear hp2 hlo
    generalize sgn n (r + 1) = v at *
    generalize n % 2 ^ r = l at *
    generalize 2 ^ r = q at *
    rcases (by omega : bitAt n r = 0 ∨ bitAt n r = 1) with h6 | h6
    · rw [h6] at hbt hsg
      obtain rfl : v = (l : Int) := by simpa using hsg
      clear hsg hb h6 hr0 hr1
      have HH := Lib.hid (And.intro hh (And.intro hlow hbt))
      clear hh hlow hbt hpw
      go_enter Try.func65, Try.ntmps65
      go_wp2_with fail
      refine (HH.out.1 _).mono ?_
      rintro e w1 ⟨rfl, rfl⟩
      go_wp2_with fail
      refine (HH.out.2.1 _).mono ?_
      rintro e w1 ⟨rfl, rfl⟩
      go_wp2_with fail
      refine (HH.out.2.2 _).mono ?_
      rintro e w1 ⟨rfl, rfl⟩
      go_wp2_with fail
      go_ret
      exact ⟨rfl, rfl⟩
    · rw [h6] at hbt hsg
      have hv : v = (l : Int) - (q : Int) := by rw [hsg]; omega
      have HV := Lib.hid (And.intro hv (And.intro hr0 hr1))
      clear hsg hb h6 hv hr0 hr1
      have HH := Lib.hid (And.intro hh (And.intro hlow (And.intro hbt hpw)))
      clear hh hlow hbt hpw
      go_enter Try.func65, Try.ntmps65
      go_wp2_with fail
      refine (HH.out.1 _).mono ?_
      rintro e w1 ⟨rfl, rfl⟩
      go_wp2_with fail
      refine (HH.out.2.1 _).mono ?_
      rintro e w1 ⟨rfl, rfl⟩
      go_wp2_with fail
      refine (HH.out.2.2.1 _).mono ?_
      rintro e w1 ⟨rfl, rfl⟩
      go_wp2_with fail
      go_loop [5, 6] (fun o k => (k = .int .i64 0 ∧ o = .int .i64 l) ∨ (k = .int .i64 1 ∧ o = .int .i64 ((l : Int) - (q / 2 : Nat))) ∨ (k = .int .i64 2 ∧ o = .int .i64 ((l : Int) - (q / 2 : Nat) - (q / 2 : Nat)))) (fun _ k => 2 - (intOf k).toNat)
      case atStart => exact .inl ⟨rfl, rfl⟩
      case round =>
        obtain ⟨p, hp⟩ : ∃ p, q / 2 = p := ⟨_, rfl⟩
        have hpq : p ≤ 2 ^ 62 := by omega
        have HPQ := Lib.hid hp
        have hqp : ((q : Int) / 2) = (p : Int) := by omega
        rw [hp] at hrel
        clear hp
        rcases hrel with ⟨rfl, rfl⟩ | ⟨rfl, rfl⟩ | ⟨rfl, rfl⟩
        · go_wp2_with fail
          refine (HH.out.2.2.2 _).mono ?_
          rintro e w1 ⟨rfl, rfl⟩
          go_wp2_with fail
          go_round
          case rel => exact .inr (.inl ⟨rfl, by rw [HPQ.out]⟩)
          case measure => simp [intOf]
        · go_wp2_with fail
          refine (HH.out.2.2.2 _).mono ?_
          rintro e w1 ⟨rfl, rfl⟩
          go_wp2_with fail
          go_round
          case rel => exact .inr (.inr ⟨rfl, by rw [HPQ.out]⟩)
          case measure => simp [intOf]
        · by_cases hr : r = 0
          · have hq1 := HV.out.2.1 hr
            subst hr
            go_wp2_with fail
            go_ret
            have := HV.out.1
            exact ⟨by rw [this]; simp; omega, rfl⟩
          · have hq2 := HV.out.2.2 hr
            go_wp2_with fail
            go_ret
            have := HV.out.1
            have := HPQ.out
            exact ⟨by rw [HV.out.1]; simp; omega, rfl⟩

theorem Cls.keep {w w' : World} {A : Option Addr} {k : IntKind} {xs : List Int} {g : Nat} {t : TypeId} {vs : List Value} (h : Cls w A (ints k xs)) (hb : Blk w g t vs) (hvs : ∀ n, Value.int k n ∉ vs) (hc : Ch (Only g) w w') : Cls w' A (ints k xs) := by
  intro pre v post e
  obtain ⟨b, off, hA, hcell⟩ := h pre v post e
  refine ⟨b, off, hA, hc.cell hcell (fun he => ?_)⟩
  have he' : b = g := he
  subst he'
  rw [hb.cell] at hcell
  have hv : v ∈ ints k xs := by rw [e]; simp
  obtain ⟨n, _, rfl⟩ := List.mem_map.1 hv
  exact hvs n (List.mem_of_getElem? hcell)

set_option maxHeartbeats 2000000 in
theorem RGet2_any (w : World) (A : Option Addr) (c : Nat) (xs : List Int) (bad : Bool) (h : Cls w A (ints .u8 xs)) (hb : ∀ x ∈ xs, isB x) (hc : xs.length ≤ c) (hm : xs.length ≤ 100000000000000) (size : Int) :
    Calls Try.prog 50 #[rdV A xs.length c bad, .int .i64 size] w fun e w' =>
      ∃ A2 c2, e = .returned (.tuple #[rdV A2 (tkR xs bad (heldB size)).length c2 (tkB xs bad (heldB size)), .int .u64 (getN (tkO xs bad (heldB size)) : Nat)]) ∧ Cls w' A2 (ints .u8 (tkR xs bad (heldB size))) ∧ Ch No w w' ∧ (tkR xs bad (heldB size)).length ≤ c2 := by
  obtain ⟨hh1, hh8⟩ := heldB_le size
  have ho := fun w => RHeld_18 size w
  generalize heldB size = s at *
  have hraw := fun w' (hC : Ch No w w') => RRaw2_any w' A c xs bad (h.ch hC (fun _ _ h => h)) hc hm (s : Int) (by omega)
  have hl := tkO_len xs bad s
  have hy : ∀ x ∈ tkO xs bad s, isB x := fun x hx => hb x (tkO_mem hx)
  have HY := Lib.hid hy
  clear h hy hb
  unfold RRawP at hraw
  simp only [Int.toNat_natCast] at hraw
  generalize tkO xs bad s = ys at *
  generalize tkR xs bad s = zs at *
  generalize tkB xs bad s = b2 at *
  unfold rdV at *
  have HH := Lib.hid (And.intro ho hraw)
  clear ho hraw
  go_enter Try.func50, Try.ntmps50
  go_wp2_with fail
  have B0 : Blk ((w.alloc (.cells #[.slice A xs.length c, .bool bad] 98)).alloc (.cells #[.slice none 0 0, .bool false] 98)) w.heap.size 98 [.slice A xs.length c, .bool bad] := (Blk.new w 98 [.slice A xs.length c, .bool bad]).alloc _
  have B4 : Blk ((w.alloc (.cells #[.slice A xs.length c, .bool bad] 98)).alloc (.cells #[.slice none 0 0, .bool false] 98)) (w.heap.size + 1) 98 [.slice none 0 0, .bool false] := by simpa using Blk.new (w.alloc (.cells #[.slice A xs.length c, .bool bad] 98)) 98 [.slice none 0 0, .bool false]
  have C2 : Ch No w ((w.alloc (.cells #[.slice A xs.length c, .bool bad] 98)).alloc (.cells #[.slice none 0 0, .bool false] 98)) := ((Ch.refl No w).alloc _).alloc _
  generalize (w.alloc (.cells #[.slice A xs.length c, .bool bad] 98)).alloc (.cells #[.slice none 0 0, .bool false] 98) = w2 at *
  have HB := Lib.hid (And.intro B0 (And.intro B4 C2))
  have k0 := B0.cell 0
  have k1 := B0.cell 1
  simp only [List.getElem?_cons_zero, List.getElem?_cons_succ] at k0 k1
  have hne : w.heap.size ≠ w.heap.size + 1 := by omega
  clear B0 B4 C2
  go_region_with (first | (go_at_call 41; refine (HH.out.1 _).mono ?_; rintro e w' ⟨rfl, rfl⟩) | (go_at_call 66; refine (HH.out.2 _ (HB.out.2.2.drew)).mono ?_; rintro e w1 ⟨A1, c1, A2, c2, rfl, L1, L2, h5, hc2⟩; have B1 := HB.out.1.ch (((Ch.refl No w2).drew).trans h5) (fun h => h); have f0 := B1.frozen 0; have f1 := B1.frozen 1; have q0 := B1.cell 0; have q1 := B1.cell 1; simp only [List.getElem?_cons_zero, List.getElem?_cons_succ] at q0 q1; have HL := Lib.hid (And.intro L1 (And.intro L2 h5)); clear L1 L2 h5))
  all_goals
    have B4 := HB.out.2.1.ch (((Ch.refl No w2).drew).trans HL.out.2.2) (fun h => h)
    have C1 := HB.out.2.2.drew.trans HL.out.2.2
    have C3 : Ch (Only w.heap.size) w1 ((w1.setCell ⟨w.heap.size, 0, none⟩ (.slice A2 zs.length c2)).setCell ⟨w.heap.size, 1, none⟩ (.bool b2)) := ((Ch.refl (Only w.heap.size) w1).setCell (p := ⟨w.heap.size, 0, none⟩) (fun _ => rfl) _).setCell (p := ⟨w.heap.size, 1, none⟩) (fun _ => rfl) _
    have HN : Hid (Blk ((w1.setCell ⟨w.heap.size, 0, none⟩ (.slice A2 zs.length c2)).setCell ⟨w.heap.size, 1, none⟩ (.bool b2)) w.heap.size 98 [.slice A2 zs.length c2, .bool b2] ∧ Blk ((w1.setCell ⟨w.heap.size, 0, none⟩ (.slice A2 zs.length c2)).setCell ⟨w.heap.size, 1, none⟩ (.bool b2)) (w.heap.size + 1) 98 [.slice none 0 0, .bool false] ∧ Ch No w ((w1.setCell ⟨w.heap.size, 0, none⟩ (.slice A2 zs.length c2)).setCell ⟨w.heap.size, 1, none⟩ (.bool b2)) ∧
        Cls ((w1.setCell ⟨w.heap.size, 0, none⟩ (.slice A2 zs.length c2)).setCell ⟨w.heap.size, 1, none⟩ (.bool b2)) A1 (ints .u8 ys) ∧ Cls ((w1.setCell ⟨w.heap.size, 0, none⟩ (.slice A2 zs.length c2)).setCell ⟨w.heap.size, 1, none⟩ (.bool b2)) A2 (ints .u8 zs)) :=
      Lib.hid ⟨(B1.set 0 _).set 1 _, B4.ch C3 (fun h => by have h' : w.heap.size + 1 = w.heap.size := h; omega), C1.trans' C3 (fun i hi he => by have h' : i = w.heap.size := he; omega), HL.out.1.keep B1 (by simp) C3, HL.out.2.1.keep B1 (by simp) C3⟩
    generalize (w1.setCell ⟨w.heap.size, 0, none⟩ (.slice A2 zs.length c2)).setCell ⟨w.heap.size, 1, none⟩ (.bool b2) = w3 at *
    clear f0 f1 q0 q1 HL B1 B4 C1 C3 HB k0 k1
    have k0 := HN.out.1.cell 0
    have k1 := HN.out.1.cell 1
    have f0 := HN.out.2.1.frozen 0
    have f1 := HN.out.2.1.frozen 1
    have q0 := HN.out.2.1.cell 0
    have q1 := HN.out.2.1.cell 1
    simp only [List.getElem?_cons_zero, List.getElem?_cons_succ] at k0 k1 q0 q1
    go_wp2_with fail
    go_loop [7, 8] (fun n i => ∃ pre post : List Int, Hid (ys = pre ++ post) ∧ i = .int .i64 pre.length ∧ n = .int .u64 (getN pre : Nat)) (fun _ i => ys.length - (intOf i).toNat)
    case atStart => exact ⟨[], ys, rfl, rfl, rfl⟩
    case round =>
      obtain ⟨pre, post, hx, rfl, rfl⟩ := hrel
      cases post with
      | nil =>
        obtain rfl : pre = ys := by have := hx.out; simpa using this.symm
        go_wp2_with fail
        have C5 : Ch (Only (w.heap.size + 1)) w3 ((w3.setCell ⟨w.heap.size + 1, 0, none⟩ (.slice A2 zs.length c2)).setCell ⟨w.heap.size + 1, 1, none⟩ (.bool b2)) := ((Ch.refl (Only (w.heap.size + 1)) w3).setCell (p := ⟨w.heap.size + 1, 0, none⟩) (fun _ => rfl) _).setCell (p := ⟨w.heap.size + 1, 1, none⟩) (fun _ => rfl) _
        have B5 := (HN.out.2.1.set 0 (.slice A2 zs.length c2)).set 1 (.bool b2)
        have L5 := HN.out.2.2.2.2.keep HN.out.2.1 (by simp) C5
        have C6 := HN.out.2.2.1.trans' C5 (fun i hi he => by have h' : i = w.heap.size + 1 := he; omega)
        generalize (w3.setCell ⟨w.heap.size + 1, 0, none⟩ (.slice A2 zs.length c2)).setCell ⟨w.heap.size + 1, 1, none⟩ (.bool b2) = w5 at *
        have z0 := B5.cell 0
        have z1 := B5.cell 1
        simp only [List.set_cons_zero, List.set_cons_succ, List.getElem?_cons_zero, List.getElem?_cons_succ] at z0 z1
        exact bodyPost_ret (v := .tuple #[.agg #[.slice A2 zs.length c2, .bool b2], .int .u64 (getN pre : Nat)]) (by simp [results, Try.results50, go_sem, z0, z1]) rfl ⟨A2, c2, rfl, L5, C6, hc2⟩
      | cons x post =>
        have hlen : pre.length < ys.length := by rw [hx.out]; simp
        obtain ⟨blk, off, rfl, hcx⟩ := HN.out.2.2.2.1.at hx.out
        have hxb := HY.out x (by rw [hx.out]; simp)
        unfold isB at hxb
        have hp := getN_lt (xs := pre) (fun y hy => HY.out y (by rw [hx.out]; simp [hy]))
        have hp2 : 256 ^ pre.length ≤ 256 ^ 7 := Nat.pow_le_pow_right (by decide) (by omega)
        obtain ⟨m, hm⟩ : ∃ m, getN pre = m := ⟨_, rfl⟩
        rw [hm] at hp ⊢
        have hmm : m < 72057594037927936 := by have : (256 : Nat) ^ 7 = 72057594037927936 := rfl; omega
        have HM := Lib.hid hm
        clear hm hp hp2
        go_wp2_with fail
        go_round
        case rel =>
          refine ⟨pre ++ [x], post, by rw [hx.out]; simp [Hid], by simp, ?_⟩
          rw [getN_snoc, HM.out]
          first | rfl | (simp; omega)
        case measure => simp [intOf]; omega
end Go.Proofs.Ytflpelacjdnplaa
