/- The references of chapter 1: Rot, In, Of, Places: what each comes to. -/
import Derived.Test.YtdkkffmnpholdaaDoorFitRefLow
import Derived.Test.YtdkkffmnpholdaaDoorSameInts
namespace Go.Proofs.YtdkkffmnpholdaaDoor
open Go.RowKit

theorem rotl_step (n j k : Nat) (hj : j < 64) (hk : k < 64) : rotl (n % 2 ^ (j + 1)) k = rotl (n % 2 ^ j) k + bitAt n j * 2 ^ ((j + k) % 64) := by
  have hs := low_step n j
  have hb := bitAt_le n j
  have hlt : n % 2 ^ j < 2 ^ j := Nat.mod_lt _ (Nat.two_pow_pos j)
  have e64 : (18446744073709551616 : Nat) = 2 ^ 64 := rfl
  unfold rotl
  rw [hs]
  generalize bitAt n j = t at *
  generalize n % 2 ^ j = x at *
  by_cases h : j + k < 64
  · rw [Nat.mod_eq_of_lt h]
    have p1 : 2 ^ (j + 1) ≤ 2 ^ (64 - k) := Nat.pow_le_pow_right (by decide) (by omega)
    have p2 : (2 : Nat) ^ (j + 1) = 2 ^ j + 2 ^ j := by rw [Nat.pow_succ]; omega
    have p3 : t * 2 ^ j ≤ 2 ^ j := by
      rcases (by omega : t = 0 ∨ t = 1) with rfl | rfl <;> simp
    have p4 : 2 ^ (64 - k) * 2 ^ k = 18446744073709551616 := by rw [e64, ← Nat.pow_add]; congr 1; omega
    have q1 : x + t * 2 ^ j < 2 ^ (64 - k) := by omega
    have q2 : x < 2 ^ (64 - k) := by omega
    have m1 : (x + t * 2 ^ j) * 2 ^ k < 18446744073709551616 := by rw [← p4]; exact Nat.mul_lt_mul_of_pos_right q1 (Nat.two_pow_pos k)
    have m2 : x * 2 ^ k < 18446744073709551616 := by rw [← p4]; exact Nat.mul_lt_mul_of_pos_right q2 (Nat.two_pow_pos k)
    rw [Nat.mod_eq_of_lt m1, Nat.mod_eq_of_lt m2, Nat.div_eq_of_lt q1, Nat.div_eq_of_lt q2, Nat.add_mul, Nat.pow_add, Nat.mul_assoc]
    omega
  · have e1 : (j + k) % 64 = j - (64 - k) := by omega
    have e2 : 2 ^ j = 2 ^ (64 - k) * 2 ^ (j - (64 - k)) := by rw [← Nat.pow_add]; congr 1; omega
    rw [e1]
    have d1 : (x + t * 2 ^ j) / 2 ^ (64 - k) = x / 2 ^ (64 - k) + t * 2 ^ (j - (64 - k)) := by
      rw [e2, Nat.mul_left_comm, Nat.add_mul_div_left _ _ (Nat.two_pow_pos _)]
    have d2 : (x + t * 2 ^ j) * 2 ^ k % 18446744073709551616 = x * 2 ^ k % 18446744073709551616 := by
      have e3 : 2 ^ j * 2 ^ k = 18446744073709551616 * 2 ^ (j - (64 - k)) := by rw [e64, ← Nat.pow_add, ← Nat.pow_add]; congr 1; omega
      rw [Nat.add_mul, Nat.mul_assoc, e3, Nat.mul_left_comm, Nat.add_mul_mod_self_left]
    rw [d1, d2]
    omega
theorem rotl_nil (k : Nat) : rotl 0 k = 0 := by simp [rotl]

set_option maxHeartbeats 2000000 in
theorem RRot_any (n : Nat) (b : Int) (w : World) (hn : n < 18446744073709551616) : Calls Tryd.prog 23 #[.int .u64 n, .int .i64 b] w fun e w' => e = .returned (.int .u64 (rotl n (b % 64).toNat : Nat)) ∧ w = w' := by
  obtain ⟨r, hr⟩ : ∃ r, b.tmod 64 = r := ⟨_, rfl⟩
  obtain ⟨k, hk⟩ : ∃ k, (b % 64).toNat = k := ⟨_, rfl⟩
  have hrb : (0 ≤ r ∧ r = k ∧ k < 64) ∨ (r < 0 ∧ -64 < r ∧ r + 64 = k ∧ k < 64) := by
    rw [← hr, ← hk]
    rcases Int.le_total 0 b with h | h
    · rw [Int.tmod_eq_emod_of_nonneg h]; omega
    · obtain ⟨c, rfl⟩ : ∃ c, b = -c := ⟨-b, by omega⟩
      rw [Int.neg_tmod, Int.tmod_eq_emod_of_nonneg (by omega)]
      omega
  rw [hk]
  clear hk
  have hfin : Hid (rotl (n % 2 ^ 64) k = rotl n k) := Lib.hid (by rw [Nat.mod_eq_of_lt hn])
  have tm : ∀ j : Nat, j < 64 → k < 64 → ((j : Int) + (k : Int)).tmod 64 = (((j + k) % 64 : Nat) : Int) := fun j _ _ => by
    rw [Int.tmod_eq_emod_of_nonneg (by omega)]; omega
  have HT := Lib.hid tm
  clear tm
  rcases hrb with ⟨hr0, hrk, hk64⟩ | ⟨hr0, hr1, hrk, hk64⟩
  all_goals
    go_enter Tryd.func23, Tryd.ntmps23
    go_wp2_with fail
    go_loop [5, 6] (fun o i => ∃ j : Nat, j ≤ 64 ∧ i = .int .i64 j ∧ o = .int .u64 ((rotl (n % 2 ^ j) k : Nat) : Int)) (fun _ i => 64 - (intOf i).toNat)
    case atStart => exact ⟨0, by omega, rfl, by simp [Nat.mod_one, rotl_nil]⟩
    case round =>
      obtain ⟨j, hj, rfl, rfl⟩ := hrel
      by_cases hj64 : j < 64
      · have hs := rotl_step n j k hj64 hk64
        have hlt := rotl_lt (n % 2 ^ (j + 1)) k (Nat.lt_of_le_of_lt (Nat.mod_le _ _) hn) hk64
        have htm := HT.out j hj64 hk64
        have hb := bitAt_le n j
        have hbt := fun w => Bit_any n j w hn (by omega)
        obtain ⟨p, hp⟩ : ∃ p, (j + k) % 64 = p := ⟨_, rfl⟩
        rw [hp] at hs htm
        have hpl : p < 64 := by omega
        have hpw := fun w => Power_any p w (by omega)
        have hp2 : pow2 p = 2 ^ p := rfl
        obtain ⟨q, hq⟩ : ∃ q, pow2 p = q := ⟨_, rfl⟩
        obtain ⟨o, ho⟩ : ∃ o, rotl (n % 2 ^ j) k = o := ⟨_, rfl⟩
        obtain ⟨bt, hbt2⟩ : ∃ x, bitAt n j = x := ⟨_, rfl⟩
        obtain ⟨t, ht⟩ : ∃ t, bt * q = t := ⟨_, rfl⟩
        rw [hbt2, ho, ← hp2, hq, ht] at hs
        rw [hbt2] at hbt hb
        rw [hq] at hpw
        rw [ho]
        rw [hs] at hlt
        have hm : IntKind.u64.wrap ((bt : Int) * (q : Int)) = (t : Int) := by
          rw [← Int.natCast_mul, ht, IntKind.wrap_u64]
          omega
        have HS : Hid (rotl (n % 2 ^ (j + 1)) k = o + t) := Lib.hid hs
        clear hs hp2 hq ho hbt2 ht hp
        go_wp2_with fail
        refine (hbt _).mono ?_
        rintro e w1 ⟨rfl, rfl⟩
        go_wp2_with fail
        refine (hpw _).mono ?_
        rintro e w1 ⟨rfl, rfl⟩
        go_wp2_with fail
        go_round
        case rel => exact ⟨j + 1, by omega, by go_num, by rw [HS.out]; simp⟩
        case measure => simp [intOf]; omega
      · obtain rfl : j = 64 := by omega
        have hf := hfin.out
        generalize rotl (n % 2 ^ 64) k = q at *
        have HF := Lib.hid hf
        clear hf
        go_wp2_with fail
        go_ret
        exact ⟨ret_int (by rw [HF.out]), rfl⟩

theorem In_any (w : World) (A : Option Addr) (c : Nat) (xs : List Int) (n : Int) (h : Cls w A (ints .i64 xs)) (hl : xs.length ≤ 1000000) :
    Calls Tryd.prog 37 #[.slice A xs.length c, .int .i64 n] w fun e w' => e = .returned (.bool (decide (n ∈ xs))) ∧ w = w' := by
  have HC := Lib.hid h
  clear h
  go_enter Tryd.func37, Tryd.ntmps37
  go_wp2_with fail
  go_loop [5] (fun i => ∃ pre post : List Int, Hid (xs = pre ++ post ∧ n ∉ pre) ∧ i = .int .i64 pre.length) (fun i => xs.length - (intOf i).toNat)
  case atStart => exact ⟨[], xs, Lib.hid ⟨rfl, by simp⟩, rfl⟩
  case round =>
    obtain ⟨pre, post, hx, rfl⟩ := hrel
    cases post with
    | nil =>
      obtain rfl : pre = xs := by have := hx.out.1; simpa using this.symm
      go_wp2_with fail
      go_ret
      exact ⟨ret_bool (by rw [decide_eq_false hx.out.2]), rfl⟩
    | cons x post =>
      have hlen : pre.length < xs.length := by rw [hx.out.1]; simp
      obtain ⟨b, off, rfl, hcx⟩ := HC.out.at hx.out.1
      by_cases hxn : x = n
      · subst hxn
        go_wp2_with fail
        go_ret
        exact ⟨ret_bool (by rw [decide_eq_true]; rw [hx.out.1]; simp), rfl⟩
      · have hne : (x == n) = false := by simpa using hxn
        have HX := Lib.hid hxn
        clear hxn
        go_wp2_with fail
        go_round
        case rel =>
          refine ⟨pre ++ [x], post, Lib.hid ⟨by rw [hx.out.1]; simp, ?_⟩, by simp⟩
          intro hm
          rcases List.mem_append.1 hm with h | h
          · exact hx.out.2 h
          · exact HX.out (List.mem_singleton.1 h).symm
        case measure => simp [intOf]; omega

set_option maxHeartbeats 2000000 in
theorem ROf_any (w : World) (A : Option Addr) (c : Nat) (xs : List Int) (h : Cls w A (ints .i64 xs)) (hl : xs.length ≤ 1000000) :
    Calls Tryd.prog 27 #[.slice A xs.length c] w fun e w' => e = .returned (.int .u64 (ofB xs : Nat)) ∧ w = w' := by
  have hin := fun (j : Nat) => In_any w A c xs j h hl
  have hbit : ∀ j : Nat, j < 64 → decide ((j : Int) ∈ xs) = (ofB xs).testBit j := fun j hj => by
    rw [ofB_bit, Bool.eq_iff_iff, decide_eq_true_eq, decide_eq_true_eq]
    exact ⟨fun h => ⟨hj, h⟩, fun h => h.2⟩
  have hn := ofB_lt xs
  generalize ofB xs = n at *
  obtain ⟨L, hL⟩ : ∃ L, xs.length = L := ⟨_, rfl⟩
  rw [hL] at hin ⊢
  have HB := Lib.hid (And.intro hin hbit)
  clear hin hbit h hL
  have hfin : Hid (n % 2 ^ 64 = n) := Lib.hid (Nat.mod_eq_of_lt hn)
  go_enter Tryd.func27, Tryd.ntmps27
  go_wp2_with fail
  go_loop [3, 4] (fun o i => ∃ j : Nat, j ≤ 64 ∧ i = .int .i64 j ∧ o = .int .u64 ((n % 2 ^ j : Nat) : Int)) (fun _ i => 64 - (intOf i).toNat)
  case atStart => exact ⟨0, by omega, rfl, by simp [Nat.mod_one]⟩
  case round =>
    obtain ⟨j, hj, rfl, rfl⟩ := hrel
    by_cases hj64 : j < 64
    · have hs := low_step n j
      have hlt : n % 2 ^ (j + 1) ≤ n := Nat.mod_le _ _
      have hi := HB.out.1 j
      have hbt := bitAt_test n j
      rw [HB.out.2 j hj64, ← hbt] at hi
      have hb := bitAt_le n j
      have hpw := fun w => Power_any j w (by omega)
      have hp2 : pow2 j = 2 ^ j := rfl
      obtain ⟨q, hq⟩ : ∃ q, pow2 j = q := ⟨_, rfl⟩
      obtain ⟨o, ho⟩ : ∃ o, n % 2 ^ j = o := ⟨_, rfl⟩
      rw [ho, ← hp2, hq] at hs
      rw [hq] at hpw
      rw [ho]
      rcases (by omega : bitAt n j = 0 ∨ bitAt n j = 1) with h0 | h0
      · rw [h0] at hi hs
        have HS : Hid (n % 2 ^ (j + 1) = o) := Lib.hid (by omega)
        have HI : Hid (Calls Tryd.prog 37 #[.slice A L c, .int .i64 j] w fun e w' => e = .returned (.bool false) ∧ w = w') := Lib.hid hi
        clear hs hi hbt hp2 hq ho h0
        go_wp2_with fail
        refine HI.out.mono ?_
        rintro e w1 ⟨rfl, rfl⟩
        go_wp2_with fail
        go_round
        case rel => exact ⟨j + 1, by omega, by go_num, by rw [HS.out]⟩
        case measure => simp [intOf]; omega
      · rw [h0] at hi hs
        have HS : Hid (n % 2 ^ (j + 1) = o + q) := Lib.hid (by omega)
        have hoq : o + q < 18446744073709551616 := by omega
        have HI : Hid (Calls Tryd.prog 37 #[.slice A L c, .int .i64 j] w fun e w' => e = .returned (.bool true) ∧ w = w') := Lib.hid hi
        clear hs hi hbt hp2 hq ho h0
        go_wp2_with fail
        refine HI.out.mono ?_
        rintro e w1 ⟨rfl, rfl⟩
        go_wp2_with fail
        refine (hpw _).mono ?_
        rintro e w1 ⟨rfl, rfl⟩
        go_wp2_with fail
        go_round
        case rel => exact ⟨j + 1, by omega, by go_num, by rw [HS.out]; simp⟩
        case measure => simp [intOf]; omega
    · obtain rfl : j = 64 := by omega
      have hf := hfin.out
      generalize n % 2 ^ 64 = q at *
      have HF := Lib.hid hf
      clear hf
      go_wp2_with fail
      go_ret
      exact ⟨ret_int (by rw [HF.out]), rfl⟩

/-- the places below j -/
def plcTo (n j : Nat) : List Int := ((List.range j).filter fun i => n.testBit i).map fun i : Nat => (i : Int)
theorem plcTo_succ (n j : Nat) : plcTo n (j + 1) = if n.testBit j then plcTo n j ++ [(j : Int)] else plcTo n j := by
  unfold plcTo
  rw [List.range_succ, List.filter_append, List.map_append]
  by_cases h : n.testBit j = true
  · rw [if_pos h, List.filter_cons_of_pos h]; simp
  · rw [if_neg h, List.filter_cons_of_neg h]; simp
theorem plcTo_len (n j : Nat) : (plcTo n j).length ≤ j := by
  have := List.length_filter_le (fun i => n.testBit i) (List.range j)
  simpa [plcTo] using this

set_option maxHeartbeats 2000000 in
theorem RPlaces_any (n : Nat) (w : World) (hn : n < 18446744073709551616) :
    Calls Tryd.prog 17 #[.int .u64 n] w fun e w' => ∃ A c, e = .returned (.slice A (plc n).length c) ∧ Cls w' A (ints .i64 (plc n)) ∧ Ch No w w' := by
  have H64 : Hid (plcTo n 64 = plc n) := Lib.hid rfl
  go_enter Tryd.func17, Tryd.ntmps17
  go_wp2_with fail
  have S0 : Hid (OwnS (w.alloc (.cells #[] 3)) w.heap.size 3 (.slice (some ⟨w.heap.size, 0, none⟩) 0 0) (ints .i64 (plcTo n 0)) ∧ Ch No w (w.alloc (.cells #[] 3))) :=
    Lib.hid ⟨by simpa [ints, plcTo] using OwnS.lit w w.heap.size 3 [] (Nat.le_refl _) (by simp), (Ch.refl No w).alloc _⟩
  go_loopw [3, 4] (fun out i wr => ∃ j : Nat, j ≤ 64 ∧ i = .int .i64 j ∧ Hid (OwnS wr w.heap.size 3 out (ints .i64 (plcTo n j)) ∧ Ch No w wr)) (fun _ i _ => 64 - (intOf i).toNat)
  case atStart => exact ⟨0, by omega, rfl, S0⟩
  case round =>
    clear S0
    obtain ⟨j, hj, rfl, hst⟩ := hrel
    have hl := plcTo_len n j
    have hsu := plcTo_succ n j
    obtain ⟨ys, hys⟩ : ∃ ys, plcTo n j = ys := ⟨_, rfl⟩
    rw [hys] at hst hl hsu
    obtain ⟨A, c, rfl, L, _⟩ := hst.out.1.slice_ints
    have hsz := hst.out.2.size
    by_cases hj64 : j < 64
    · have hbt := fun w => Bit_any n j w hn (by omega)
      have htb := bitAt_test n j
      have hb := bitAt_le n j
      clear hys L
      rcases (by omega : bitAt n j = 0 ∨ bitAt n j = 1) with h0 | h0
      · rw [h0] at hbt htb
        have HS : Hid (plcTo n (j + 1) = ys) := Lib.hid (by rw [hsu, ← htb]; rfl)
        clear hsu htb hb h0
        go_wp2_with fail
        refine (hbt _).mono ?_
        rintro e w1 ⟨rfl, rfl⟩
        go_wp2_with fail
        go_roundw
        case rel => exact ⟨j + 1, by omega, by go_num, by rw [HS.out]; exact hst⟩
        case measure => simp [intOf]; omega
      · rw [h0] at hbt htb
        have HS : Hid (plcTo n (j + 1) = ys ++ [(j : Int)]) := Lib.hid (by rw [hsu, ← htb]; rfl)
        clear hsu htb hb h0
        go_wp2_with fail
        refine (hbt _).mono ?_
        rintro e w1 ⟨rfl, rfl⟩
        go_wp2_with (at_builtin; refine app1i rfl _ _ 42 3 rfl .i64 0 8 Tryd.underlying42 infoInt w.heap.size A c ys (j : Int) rfl hst.out.1 1 rfl ?hn ?hb hsz ?_)
        case hn => simp [maxLen]; omega
        case hb => omega
        intro g1 c1 w2 o2 h2 _
        have HO : Hid (OwnS w2 w.heap.size 3 (.slice (some ⟨g1, 0, none⟩) (ys.length + 1) c1) (ints .i64 (plcTo n (j + 1))) ∧ Ch No w w2) := by
          refine Lib.hid ⟨?_, hst.out.2.trans' h2 (fun i hi he => ?_)⟩
          · rw [HS.out]
            simpa using o2
          · have := (hst.out.1.ge i he).1
            omega
        clear o2 h2 hst
        go_wp2_with fail
        go_roundw
        case rel => exact ⟨j + 1, by omega, by go_num, HO⟩
        case measure => simp [intOf]; omega
    · obtain rfl : j = 64 := by omega
      have HY : Hid (ys = plc n) := Lib.hid (by rw [← hys, H64.out])
      have HL := Lib.hid L
      clear hys hsu L
      go_wp2_with fail
      go_ret
      exact ⟨A, c, by rw [← HY.out]; rfl, by rw [← HY.out]; exact HL.out, hst.out.2⟩
end Go.Proofs.YtdkkffmnpholdaaDoor
