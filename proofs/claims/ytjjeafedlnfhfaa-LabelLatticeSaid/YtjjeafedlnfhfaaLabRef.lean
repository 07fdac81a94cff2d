/- The reference's functions of labels: what each comes to. -/
import Derived.Test.YtjjeafedlnfhfaaLabWalk
import Derived.Test.YtjjeafedlnfhfaaRefBit
namespace Go.Proofs.Ytjjeafedlnfhfaa
open Go.RowKit

theorem bitAt_int (n i : Nat) : (((bitAt n i : Nat) : Int) == 1) = n.testBit i := by
  rw [← bitAt_test, Bool.eq_iff_iff]
  simp
  omega

theorem Has_any (l c i : Nat) (w : World) (hc : c < 65536) (hi : i ≤ 1000000) :
    Calls Try.prog 35 #[.agg #[.int .u8 l, .int .u16 c], .int .i64 i] w fun e w' => e = .returned (.bool (c.testBit i)) ∧ Ch No w w' := by
  have hb := bitAt_int c i
  go_enter Try.func35, Try.ntmps35
  go_wp2_with fail
  refine (Bit_any c i _ (by omega) hi).mono ?_
  rintro e w' ⟨rfl, rfl⟩
  go_wp2_with fail
  go_ret
  exact ⟨rfl, (by repeat (first | exact Ch.refl _ _ | apply Ch.alloc | apply Ch.drewN))⟩

/-- the categories that both have, or either -/
def boN (all : Bool) (c d : Nat) : Nat := if all then anN c d else orN c d
theorem boN_lt (all : Bool) {c d : Nat} (hc : c < 65536) (hd : d < 65536) : boN all c d < 65536 := by
  unfold boN
  split
  · exact anN_lt d hc
  · exact orN_lt hc hd
theorem boN_bit (all : Bool) (c d j : Nat) : (boN all c d).testBit j = ((c.testBit j && d.testBit j) || (!all && (c.testBit j || d.testBit j))) := by
  unfold boN anN orN
  cases all <;> simp <;> cases c.testBit j <;> simp
theorem mod_step (x j : Nat) : x % 2 ^ (j + 1) = x % 2 ^ j + if x.testBit j then 2 ^ j else 0 := by
  rw [Nat.mod_pow_succ, Nat.testBit_eq_decide_div_mod_eq]
  have h : x / 2 ^ j % 2 = 0 ∨ x / 2 ^ j % 2 = 1 := by omega
  rcases h with h | h <;> simp [h]

set_option maxHeartbeats 1000000 in
theorem both_any (l c m d : Nat) (all : Bool) (w : World) (hc : c < 65536) (hd : d < 65536) :
    Calls Try.prog 36 #[.agg #[.int .u8 l, .int .u16 c], .agg #[.int .u8 m, .int .u16 d], .bool all] w fun e w' => e = .returned (.int .u16 (boN all c d : Nat)) ∧ Ch No w w' := by
  go_enter Try.func36, Try.ntmps36
  go_wp2
  go_loopw [7, 8] (fun o k wr => ∃ (j q : Nat), j ≤ 16 ∧ k = .int .i64 j ∧ o = .int .u16 q ∧ Hid (q = boN all c d % 2 ^ j) ∧ wr.cell? ⟨w.heap.size, 0, none⟩ = some (.int .u8 l) ∧ wr.cell? ⟨w.heap.size, 1, none⟩ = some (.int .u16 c) ∧ wr.cell? ⟨w.heap.size + 1, 0, none⟩ = some (.int .u8 m) ∧ wr.cell? ⟨w.heap.size + 1, 1, none⟩ = some (.int .u16 d) ∧ Ch No w wr) (fun _ k _ => 16 - (intOf k).toNat)
  case atStart => exact ⟨0, 0, by omega, rfl, rfl, by simp [Hid, Nat.mod_one], by simp, by simp, by simp, by simp, (by repeat (first | exact Ch.refl _ _ | apply Ch.alloc | apply Ch.drewN))⟩
  case round =>
    obtain ⟨j, q, hj, rfl, rfl, hq, k1, k2, k3, k4, hch⟩ := hrel
    by_cases hlt : j < 16
    · have hs := mod_step (boN all c d) j
      rw [← hq.out, boN_bit] at hs
      have hql : q < 2 ^ j := by rw [hq.out]; exact Nat.mod_lt _ (Nat.two_pow_pos j)
      have hpj : 2 ^ j ≤ 32768 := Nat.pow_le_pow_right (n := 2) (by decide) (by omega : j ≤ 15)
      have hp : pow2 j = 2 ^ j := rfl
      rw [← hp] at hpj hql
      cases hbc : c.testBit j
      all_goals
        cases hbd : d.testBit j
        all_goals
          rw [hbc, hbd] at hs
          cases all
          all_goals
            have HS := Lib.hid hs
            clear hs hp
            go_wp2_with (first
              | (go_at_call 35; refine (Has_any _ _ j _ (by assumption) (by omega)).mono ?_; rintro e w' ⟨rfl, hw'⟩; replace k1 := Ch.cell hw' k1 (fun h => h); replace k2 := Ch.cell hw' k2 (fun h => h); replace k3 := Ch.cell hw' k3 (fun h => h); replace k4 := Ch.cell hw' k4 (fun h => h); replace hch := hch.trans hw'; clear hw')
              | (go_at_call 39; refine (Power_any j _ (by omega)).mono ?_; rintro e w' ⟨rfl, rfl⟩))
            all_goals
              go_roundw
              case rel => exact ⟨j + 1, _, by omega, by go_num, rfl, by rw [Hid, HS.out]; simp [pow2], k1, k2, k3, k4, hch⟩
              case measure => simp [intOf]; omega
    · obtain rfl : j = 16 := by omega
      go_wp2
      go_ret
      exact ⟨ret_int (by rw [hq.out, Nat.mod_eq_of_lt (boN_lt all hc hd)]), hch⟩

set_option maxHeartbeats 400000 in
theorem RJoin_any (l c m d : Nat) (w : World) (hc : c < 65536) (hd : d < 65536) :
    Calls Try.prog 27 #[.agg #[.int .u8 l, .int .u16 c], .agg #[.int .u8 m, .int .u16 d]] w fun e w' => e = .returned (.agg #[.int .u8 (mxN l m : Nat), .int .u16 (orN c d : Nat)]) ∧ Ch No w w' := by
  have ho : boN false c d = orN c d := rfl
  by_cases h : l < m
  · have hm : mxN l m = m := by unfold mxN; omega
    rw [hm]
    clear hm
    go_enter Try.func27, Try.ntmps27
    go_wp2_with fail
    refine (both_any _ _ _ _ _ _ hc hd).mono ?_
    rintro e w' ⟨rfl, hw'⟩
    rw [ho]
    have hblk : Blk w' (w.heap.size + 1 + 1) 38 [.int .u8 0, .int .u16 0] := Blk.ch (by simpa using Blk.new ((w.alloc (.cells #[.int .u8 l, .int .u16 c] 38)).alloc (.cells #[.int .u8 m, .int .u16 d] 38)) 38 [.int .u8 0, .int .u16 0]) hw' (fun h => h)
    have c1 := hblk.cell 0
    have c2 := hblk.cell 1
    have f1 := hblk.frozen 0
    have f2 := hblk.frozen 1
    simp at c1 c2
    clear hblk
    clear ho
    go_wp2_with fail
    exact bodyPost_ret (v := .agg #[.int .u8 m, .int .u16 (orN c d : Nat)]) (by simp [results, Try.results27, go_sem, c1, c2]) rfl ⟨rfl, ((Ch.trans (by repeat (first | exact Ch.refl _ _ | apply Ch.alloc | apply Ch.drewN)) hw').setCell (by intro h; simp at h; omega) _).setCell (by intro h; simp at h; omega) _⟩
  · have hm : mxN l m = l := by unfold mxN; omega
    rw [hm]
    clear hm
    go_enter Try.func27, Try.ntmps27
    go_wp2_with fail
    refine (both_any _ _ _ _ _ _ hc hd).mono ?_
    rintro e w' ⟨rfl, hw'⟩
    rw [ho]
    have hblk : Blk w' (w.heap.size + 1 + 1) 38 [.int .u8 0, .int .u16 0] := Blk.ch (by simpa using Blk.new ((w.alloc (.cells #[.int .u8 l, .int .u16 c] 38)).alloc (.cells #[.int .u8 m, .int .u16 d] 38)) 38 [.int .u8 0, .int .u16 0]) hw' (fun h => h)
    have c1 := hblk.cell 0
    have c2 := hblk.cell 1
    have f1 := hblk.frozen 0
    have f2 := hblk.frozen 1
    simp at c1 c2
    clear hblk
    clear ho
    go_wp2_with fail
    exact bodyPost_ret (v := .agg #[.int .u8 l, .int .u16 (orN c d : Nat)]) (by simp [results, Try.results27, go_sem, c1, c2]) rfl ⟨rfl, ((Ch.trans (by repeat (first | exact Ch.refl _ _ | apply Ch.alloc | apply Ch.drewN)) hw').setCell (by intro h; simp at h; omega) _).setCell (by intro h; simp at h; omega) _⟩

set_option maxHeartbeats 400000 in
theorem RMeet_any (l c m d : Nat) (w : World) (hc : c < 65536) (hd : d < 65536) :
    Calls Try.prog 29 #[.agg #[.int .u8 l, .int .u16 c], .agg #[.int .u8 m, .int .u16 d]] w fun e w' => e = .returned (.agg #[.int .u8 (mnN l m : Nat), .int .u16 (anN c d : Nat)]) ∧ Ch No w w' := by
  have ho : boN true c d = anN c d := rfl
  by_cases h : m < l
  · have hm : mnN l m = m := by unfold mnN; omega
    rw [hm]
    clear hm
    go_enter Try.func29, Try.ntmps29
    go_wp2_with fail
    refine (both_any _ _ _ _ _ _ hc hd).mono ?_
    rintro e w' ⟨rfl, hw'⟩
    rw [ho]
    have hblk : Blk w' (w.heap.size + 1 + 1) 38 [.int .u8 0, .int .u16 0] := Blk.ch (by simpa using Blk.new ((w.alloc (.cells #[.int .u8 l, .int .u16 c] 38)).alloc (.cells #[.int .u8 m, .int .u16 d] 38)) 38 [.int .u8 0, .int .u16 0]) hw' (fun h => h)
    have c1 := hblk.cell 0
    have c2 := hblk.cell 1
    have f1 := hblk.frozen 0
    have f2 := hblk.frozen 1
    simp at c1 c2
    clear hblk
    clear ho
    go_wp2_with fail
    exact bodyPost_ret (v := .agg #[.int .u8 m, .int .u16 (anN c d : Nat)]) (by simp [results, Try.results29, go_sem, c1, c2]) rfl ⟨rfl, ((Ch.trans (by repeat (first | exact Ch.refl _ _ | apply Ch.alloc | apply Ch.drewN)) hw').setCell (by intro h; simp at h; omega) _).setCell (by intro h; simp at h; omega) _⟩
  · have hm : mnN l m = l := by unfold mnN; omega
    rw [hm]
    clear hm
    go_enter Try.func29, Try.ntmps29
    go_wp2_with fail
    refine (both_any _ _ _ _ _ _ hc hd).mono ?_
    rintro e w' ⟨rfl, hw'⟩
    rw [ho]
    have hblk : Blk w' (w.heap.size + 1 + 1) 38 [.int .u8 0, .int .u16 0] := Blk.ch (by simpa using Blk.new ((w.alloc (.cells #[.int .u8 l, .int .u16 c] 38)).alloc (.cells #[.int .u8 m, .int .u16 d] 38)) 38 [.int .u8 0, .int .u16 0]) hw' (fun h => h)
    have c1 := hblk.cell 0
    have c2 := hblk.cell 1
    have f1 := hblk.frozen 0
    have f2 := hblk.frozen 1
    simp at c1 c2
    clear hblk
    clear ho
    go_wp2_with fail
    exact bodyPost_ret (v := .agg #[.int .u8 l, .int .u16 (anN c d : Nat)]) (by simp [results, Try.results29, go_sem, c1, c2]) rfl ⟨rfl, ((Ch.trans (by repeat (first | exact Ch.refl _ _ | apply Ch.alloc | apply Ch.drewN)) hw').setCell (by intro h; simp at h; omega) _).setCell (by intro h; simp at h; omega) _⟩

/-- some category that one label has and another one hasn't -/
theorem sub_iff (c d : Nat) (hd : d < 65536) : (c ||| d = c) ↔ ∀ j, j < 16 → d.testBit j = true → c.testBit j = true := by
  constructor
  · intro h j _ hj
    rw [← h, Nat.testBit_or, hj, Bool.or_true]
  · intro h
    apply Nat.eq_of_testBit_eq
    intro j
    rw [Nat.testBit_or]
    by_cases hj : j < 16
    · cases hb : d.testBit j with
      | false => simp
      | true => rw [h j hj hb]; rfl
    · have : d.testBit j = false := Nat.testBit_lt_two_pow (Nat.lt_of_lt_of_le hd (Nat.pow_le_pow_right (n := 2) (by decide) (by omega : 16 ≤ j)))
      simp [this]

set_option maxHeartbeats 1000000 in
theorem RDominates_any (l c m d : Nat) (w : World) (hc : c < 65536) (hd : d < 65536) :
    Calls Try.prog 25 #[.agg #[.int .u8 l, .int .u16 c], .agg #[.int .u8 m, .int .u16 d]] w fun e w' => e = .returned (.bool (domB l c m d)) ∧ Ch No w w' := by
  go_enter Try.func25, Try.ntmps25
  go_wp2
  go_loopw [5] (fun k wr => ∃ (j : Nat), j ≤ 16 ∧ k = .int .i64 j ∧ Hid (∀ i, i < j → d.testBit i = true → c.testBit i = true) ∧ wr.cell? ⟨w.heap.size, 0, none⟩ = some (.int .u8 l) ∧ wr.cell? ⟨w.heap.size, 1, none⟩ = some (.int .u16 c) ∧ wr.cell? ⟨w.heap.size + 1, 0, none⟩ = some (.int .u8 m) ∧ wr.cell? ⟨w.heap.size + 1, 1, none⟩ = some (.int .u16 d) ∧ Ch No w wr) (fun k _ => 16 - (intOf k).toNat)
  case atStart => exact ⟨0, by omega, rfl, by simp [Hid], by simp, by simp, by simp, by simp, (by repeat (first | exact Ch.refl _ _ | apply Ch.alloc | apply Ch.drewN))⟩
  case round =>
    obtain ⟨j, hj, rfl, hq, k1, k2, k3, k4, hch⟩ := hrel
    by_cases hlt : j < 16
    · cases hbd : d.testBit j
      · go_wp2_with (go_at_call 35; refine (Has_any _ _ j _ (by assumption) (by omega)).mono ?_; rintro e w' ⟨rfl, hw'⟩; replace k1 := Ch.cell hw' k1 (fun h => h); replace k2 := Ch.cell hw' k2 (fun h => h); replace k3 := Ch.cell hw' k3 (fun h => h); replace k4 := Ch.cell hw' k4 (fun h => h); replace hch := hch.trans hw'; clear hw')
        go_roundw
        case rel =>
          refine ⟨j + 1, by omega, by go_num, ?_, k1, k2, k3, k4, hch⟩
          intro i hi hb
          by_cases e : i = j
          · subst e; rw [hbd] at hb; cases hb
          · exact hq.out i (by omega) hb
        case measure => simp [intOf]; omega
      · cases hbc : c.testBit j
        · have e : domB l c m d = false := by
            unfold domB
            have : ¬ (c ||| d = c) := fun h => by have := (sub_iff c d hd).1 h j hlt hbd; rw [hbc] at this; cases this
            simp [this]
          have HE := Lib.hid e
          clear e
          go_wp2_with (go_at_call 35; refine (Has_any _ _ j _ (by assumption) (by omega)).mono ?_; rintro e w' ⟨rfl, hw'⟩; replace k1 := Ch.cell hw' k1 (fun h => h); replace k2 := Ch.cell hw' k2 (fun h => h); replace k3 := Ch.cell hw' k3 (fun h => h); replace k4 := Ch.cell hw' k4 (fun h => h); replace hch := hch.trans hw'; clear hw')
          go_ret
          exact ⟨ret_bool HE.out.symm, hch⟩
        · go_wp2_with (go_at_call 35; refine (Has_any _ _ j _ (by assumption) (by omega)).mono ?_; rintro e w' ⟨rfl, hw'⟩; replace k1 := Ch.cell hw' k1 (fun h => h); replace k2 := Ch.cell hw' k2 (fun h => h); replace k3 := Ch.cell hw' k3 (fun h => h); replace k4 := Ch.cell hw' k4 (fun h => h); replace hch := hch.trans hw'; clear hw')
          go_roundw
          case rel =>
            refine ⟨j + 1, by omega, by go_num, ?_, k1, k2, k3, k4, hch⟩
            intro i hi hb
            by_cases e : i = j
            · subst e; exact hbc
            · exact hq.out i (by omega) hb
          case measure => simp [intOf]; omega
    · obtain rfl : j = 16 := by omega
      have e : domB l c m d = decide (m ≤ l) := by unfold domB; rw [(sub_iff c d hd).2 hq.out]; simp
      have HE := Lib.hid e
      clear e
      go_wp2
      go_ret
      exact ⟨ret_bool (by rw [HE.out]), hch⟩

set_option maxRecDepth 100000 in
theorem RFrom_any (n : Nat) (w : World) (hn : n < 2 ^ 64) :
    Calls Try.prog 23 #[.int .u64 n] w fun e w' => e = .returned (.tuple #[.agg #[.int .u8 (frL n : Nat), .int .u16 (frC n : Nat)], .int .i64 (frE n)]) ∧ Ch No w w' := by
  by_cases h : n < 1048576
  · have e1 : ((frL n : Nat) : Int) = (n : Int) / 65536 := by unfold frL; rw [if_pos h]; simp
    have e2 : ((frC n : Nat) : Int) = (n : Int) % 65536 := by unfold frC; rw [if_pos h]; simp
    have e3 : frE n = 0 := by unfold frE; rw [if_pos h]
    rw [e1, e2, e3]
    have h' : decide ((1048576 : Int) ≤ (n : Int)) = false := decide_eq_false (by omega)
    have h0 : (n : Int) / 65536 < 256 := by omega
    clear e1 e2 e3 hn h
    go_enter Try.func23, Try.ntmps23
    go_wp2
    exact bodyPost_ret (v := .tuple #[.agg #[.int .u8 ((n : Int) / 65536), .int .u16 ((n : Int) % 65536)], .int .i64 0]) (by simp [results, Try.results23, go_sem]) rfl ⟨rfl, (by repeat (first | exact Ch.refl _ _ | apply Ch.alloc | apply Ch.drewN))⟩
  · have e1 : frL n = 0 := by unfold frL; rw [if_neg h]
    have e2 : frC n = 0 := by unfold frC; rw [if_neg h]
    have e3 : frE n = 23 := by unfold frE; rw [if_neg h]
    rw [e1, e2, e3]
    have h' : 1048576 ≤ (n : Int) := by omega
    clear e1 e2 e3 hn h
    go_enter Try.func23, Try.ntmps23
    go_wp2
    exact bodyPost_ret (v := .tuple #[.agg #[.int .u8 0, .int .u16 0], .int .i64 23]) (by simp [results, Try.results23, go_sem]) rfl ⟨rfl, (by repeat (first | exact Ch.refl _ _ | apply Ch.alloc | apply Ch.drewN))⟩
end Go.Proofs.Ytjjeafedlnfhfaa
