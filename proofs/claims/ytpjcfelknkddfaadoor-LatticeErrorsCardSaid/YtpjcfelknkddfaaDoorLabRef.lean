/- The reference's functions of labels: what each comes to. -/
import Derived.Test.YtpjcfelknkddfaaDoorLabWalk
import Derived.Test.YtpjcfelknkddfaaDoorRefBit
namespace Go.Proofs.YtpjcfelknkddfaaDoor
open Go.RowKit

theorem bitAt_int (n i : Nat) : (((bitAt n i : Nat) : Int) == 1) = n.testBit i := by
  rw [← bitAt_test, Bool.eq_iff_iff]
  simp
  omega

theorem Has_any (l c i : Nat) (w : World) (hc : c < 65536) (hi : i ≤ 1000000) :
    Calls Tryd.prog 32 #[.agg #[.int .u8 l, .int .u16 c], .int .i64 i] w fun e w' => e = .returned (.bool (c.testBit i)) ∧ Ch No w w' := by
  have hb := bitAt_int c i
  go_enter Tryd.func32, Tryd.ntmps32
  go_wp2_with fail
  refine (Bit_any c i _ (by omega) hi).mono ?_
  rintro e w' ⟨rfl, rfl⟩
  go_wp2_with fail
  go_ret
  exact ⟨rfl, (by repeat (first | exact Ch.refl _ _ | apply Ch.alloc | apply Ch.drewN))⟩

/-- the categories that both have, or either -/
def boN (all : Bool) (c d : Nat) : Nat := if all then anN c d else orN c d
theorem boN_lt (all : Bool) {c d : Nat} (hc : c < 65536) (hd : d < 65536) : boN all c d < 65536 := by
  unfold boN
  split
  · exact anN_lt d hc
  · exact orN_lt hc hd
theorem boN_bit (all : Bool) (c d j : Nat) : (boN all c d).testBit j = ((c.testBit j && d.testBit j) || (!all && (c.testBit j || d.testBit j))) := by
  unfold boN anN orN
  cases all <;> simp <;> cases c.testBit j <;> simp
theorem mod_step (x j : Nat) : x % 2 ^ (j + 1) = x % 2 ^ j + if x.testBit j then 2 ^ j else 0 := by
  rw [Nat.mod_pow_succ, Nat.testBit_eq_decide_div_mod_eq]
  have h : x / 2 ^ j % 2 = 0 ∨ x / 2 ^ j % 2 = 1 := by omega
  rcases h with h | h <;> simp [h]

/-- some category that one label has and another one hasn't -/
theorem sub_iff (c d : Nat) (hd : d < 65536) : (c ||| d = c) ↔ ∀ j, j < 16 → d.testBit j = true → c.testBit j = true := by
  constructor
  · intro h j _ hj
    rw [← h, Nat.testBit_or, hj, Bool.or_true]
  · intro h
    apply Nat.eq_of_testBit_eq
    intro j
    rw [Nat.testBit_or]
    by_cases hj : j < 16
    · cases hb : d.testBit j with
      | false => simp
      | true => rw [h j hj hb]; rfl
    · have : d.testBit j = false := Nat.testBit_lt_two_pow (Nat.lt_of_lt_of_le hd (Nat.pow_le_pow_right (n := 2) (by decide) (by omega : 16 ≤ j)))
      simp [this]

set_option maxHeartbeats 1000000 in
theorem RDominates_any (l c m d : Nat) (w : World) (hc : c < 65536) (hd : d < 65536) :
    Calls Tryd.prog 26 #[.agg #[.int .u8 l, .int .u16 c], .agg #[.int .u8 m, .int .u16 d]] w fun e w' => e = .returned (.bool (domB l c m d)) ∧ Ch No w w' := by
  go_enter Tryd.func26, Tryd.ntmps26
  go_wp2
  go_loopw [5] (fun k wr => ∃ (j : Nat), j ≤ 16 ∧ k = .int .i64 j ∧ Hid (∀ i, i < j → d.testBit i = true → c.testBit i = true) ∧ wr.cell? ⟨w.heap.size, 0, none⟩ = some (.int .u8 l) ∧ wr.cell? ⟨w.heap.size, 1, none⟩ = some (.int .u16 c) ∧ wr.cell? ⟨w.heap.size + 1, 0, none⟩ = some (.int .u8 m) ∧ wr.cell? ⟨w.heap.size + 1, 1, none⟩ = some (.int .u16 d) ∧ Ch No w wr) (fun k _ => 16 - (intOf k).toNat)
  case atStart => exact ⟨0, by omega, rfl, by simp [Hid], by simp, by simp, by simp, by simp, (by repeat (first | exact Ch.refl _ _ | apply Ch.alloc | apply Ch.drewN))⟩
  case round =>
    obtain ⟨j, hj, rfl, hq, k1, k2, k3, k4, hch⟩ := hrel
    by_cases hlt : j < 16
    · cases hbd : d.testBit j
      · go_wp2_with (go_at_call 32; refine (Has_any _ _ j _ (by assumption) (by omega)).mono ?_; rintro e w' ⟨rfl, hw'⟩; replace k1 := Ch.cell hw' k1 (fun h => h); replace k2 := Ch.cell hw' k2 (fun h => h); replace k3 := Ch.cell hw' k3 (fun h => h); replace k4 := Ch.cell hw' k4 (fun h => h); replace hch := hch.trans hw'; clear hw')
        go_roundw
        case rel =>
          refine ⟨j + 1, by omega, by go_num, ?_, k1, k2, k3, k4, hch⟩
          intro i hi hb
          by_cases e : i = j
          · subst e; rw [hbd] at hb; cases hb
          · exact hq.out i (by omega) hb
        case measure => simp [intOf]; omega
      · cases hbc : c.testBit j
        · have e : domB l c m d = false := by
            unfold domB
            have : ¬ (c ||| d = c) := fun h => by have := (sub_iff c d hd).1 h j hlt hbd; rw [hbc] at this; cases this
            simp [this]
          have HE := Lib.hid e
          clear e
          go_wp2_with (go_at_call 32; refine (Has_any _ _ j _ (by assumption) (by omega)).mono ?_; rintro e w' ⟨rfl, hw'⟩; replace k1 := Ch.cell hw' k1 (fun h => h); replace k2 := Ch.cell hw' k2 (fun h => h); replace k3 := Ch.cell hw' k3 (fun h => h); replace k4 := Ch.cell hw' k4 (fun h => h); replace hch := hch.trans hw'; clear hw')
          go_ret
          exact ⟨ret_bool HE.out.symm, hch⟩
        · go_wp2_with (go_at_call 32; refine (Has_any _ _ j _ (by assumption) (by omega)).mono ?_; rintro e w' ⟨rfl, hw'⟩; replace k1 := Ch.cell hw' k1 (fun h => h); replace k2 := Ch.cell hw' k2 (fun h => h); replace k3 := Ch.cell hw' k3 (fun h => h); replace k4 := Ch.cell hw' k4 (fun h => h); replace hch := hch.trans hw'; clear hw')
          go_roundw
          case rel =>
            refine ⟨j + 1, by omega, by go_num, ?_, k1, k2, k3, k4, hch⟩
            intro i hi hb
            by_cases e : i = j
            · subst e; exact hbc
            · exact hq.out i (by omega) hb
          case measure => simp [intOf]; omega
    · obtain rfl : j = 16 := by omega
      have e : domB l c m d = decide (m ≤ l) := by unfold domB; rw [(sub_iff c d hd).2 hq.out]; simp
      have HE := Lib.hid e
      clear e
      go_wp2
      go_ret
      exact ⟨ret_bool (by rw [HE.out]), hch⟩

end Go.Proofs.YtpjcfelknkddfaaDoor
