/- The labels' functions: what each comes to. A label is a level below 256 and categories below 65536. -/
import Derived.Test.YtpjcfelknkddfaaDoorFitLow
import Derived.Deep.RegionHeld3
namespace Go.Proofs.YtpjcfelknkddfaaDoor
open Go.RowKit

/-- a label's number -/
def labN (l c : Nat) : Nat := 65536 * l + c
/-- does (l, c) dominate (m, d)? -/
def domB (l c m d : Nat) : Bool := decide (m ≤ l) && decide (c ||| d = c)
/-- both levels' greater, and lesser one -/
def mxN (l m : Nat) : Nat := Max.max l m
def mnN (l m : Nat) : Nat := Min.min l m
/-- the categories of either, and of both -/
def orN (c d : Nat) : Nat := c ||| d
def anN (c d : Nat) : Nat := c &&& d

/-- what number n is the label of, and the error -/
def frL (n : Nat) : Nat := if n < 1048576 then n / 65536 else 0
def frC (n : Nat) : Nat := if n < 1048576 then n % 65536 else 0
def frE (n : Nat) : Int := if n < 1048576 then 0 else 23

theorem orN_lt {c d : Nat} (hc : c < 65536) (hd : d < 65536) : orN c d < 65536 := Nat.or_lt_two_pow (n := 16) hc hd
theorem anN_lt {c : Nat} (d : Nat) (hc : c < 65536) : anN c d < 65536 := Nat.lt_of_le_of_lt Nat.and_le_left hc
theorem mxN_lt {l m : Nat} (hl : l < 256) (hm : m < 256) : mxN l m < 256 := by unfold mxN; omega
theorem mnN_lt {l : Nat} (m : Nat) (hl : l < 256) : mnN l m < 256 := by unfold mnN; omega
theorem labN_lt {l c : Nat} (hl : l < 256) (hc : c < 65536) : labN l c < 16777216 := by unfold labN; omega
theorem u64_join (l c : Nat) (hl : l < 256) (hc : c < 65536) : bits .or .u64 ((l : Int) * 65536) (c : Int) = (labN l c : Int) := by
  rw [show (l : Int) * 65536 = ((l * 65536 : Nat) : Int) from by simp, u64_or_nat _ _ (by omega) (by omega), nat_join 16 _ _ (by omega) (by omega)]
  unfold labN
  omega


set_option maxHeartbeats 400000 in
theorem LJoin_any (l c m d : Nat) (w : World) (hc : c < 65536) (hd : d < 65536) :
    Calls Tryd.prog 22 #[.agg #[.int .u8 l, .int .u16 c], .agg #[.int .u8 m, .int .u16 d]] w fun e w' => e = .returned (.agg #[.int .u8 (mxN l m : Nat), .int .u16 (orN c d : Nat)]) ∧ Ch No w w' := by
  have ho : bits .or .u16 (c : Int) (d : Int) = (orN c d : Int) := u16_or_nat c d hc hd
  by_cases h : l < m
  · have hm : mxN l m = m := by unfold mxN; omega
    rw [hm]
    clear hm
    go_enter Tryd.func22, Tryd.ntmps22
    go_wp2
    exact bodyPost_ret (v := .agg #[.int .u8 m, .int .u16 (orN c d : Nat)]) (by simp [results, Tryd.results22, go_sem]) rfl ⟨rfl, (by repeat (first | exact Ch.refl _ _ | apply Ch.alloc | apply Ch.drewN))⟩
  · have hm : mxN l m = l := by unfold mxN; omega
    rw [hm]
    clear hm
    go_enter Tryd.func22, Tryd.ntmps22
    go_wp2
    exact bodyPost_ret (v := .agg #[.int .u8 l, .int .u16 (orN c d : Nat)]) (by simp [results, Tryd.results22, go_sem]) rfl ⟨rfl, (by repeat (first | exact Ch.refl _ _ | apply Ch.alloc | apply Ch.drewN))⟩

set_option maxHeartbeats 400000 in
theorem LMeet_any (l c m d : Nat) (w : World) (hc : c < 65536) (hd : d < 65536) :
    Calls Tryd.prog 21 #[.agg #[.int .u8 l, .int .u16 c], .agg #[.int .u8 m, .int .u16 d]] w fun e w' => e = .returned (.agg #[.int .u8 (mnN l m : Nat), .int .u16 (anN c d : Nat)]) ∧ Ch No w w' := by
  have ho : bits .and .u16 (c : Int) (d : Int) = (anN c d : Int) := u16_and_nat c d hc hd
  by_cases h : m < l
  · have hm : mnN l m = m := by unfold mnN; omega
    rw [hm]
    clear hm
    go_enter Tryd.func21, Tryd.ntmps21
    go_wp2
    exact bodyPost_ret (v := .agg #[.int .u8 m, .int .u16 (anN c d : Nat)]) (by simp [results, Tryd.results21, go_sem]) rfl ⟨rfl, (by repeat (first | exact Ch.refl _ _ | apply Ch.alloc | apply Ch.drewN))⟩
  · have hm : mnN l m = l := by unfold mnN; omega
    rw [hm]
    clear hm
    go_enter Tryd.func21, Tryd.ntmps21
    go_wp2
    exact bodyPost_ret (v := .agg #[.int .u8 l, .int .u16 (anN c d : Nat)]) (by simp [results, Tryd.results21, go_sem]) rfl ⟨rfl, (by repeat (first | exact Ch.refl _ _ | apply Ch.alloc | apply Ch.drewN))⟩

theorem LCheck_any (l c : Nat) (w : World) (hl : l < 256) :
    Calls Tryd.prog 24 #[.agg #[.int .u8 l, .int .u16 c]] w fun e w' => e = .returned (.int .i64 (if 15 < l then 23 else 0)) ∧ Ch No w w' := by
  by_cases h : 15 < l
  all_goals
    go_enter Tryd.func24, Tryd.ntmps24
    go_wp2
    go_ret
    exact ⟨rfl, (by repeat (first | exact Ch.refl _ _ | apply Ch.alloc | apply Ch.drewN))⟩

/- two labels are the same, as the code holds them against each other -/
theorem dom_eq (l c m d : Nat) : (((mxN l m : Nat) : Int) == (l : Int) && ((orN c d : Nat) : Int) == (c : Int)) = domB l c m d := by
  unfold mxN orN domB
  rw [Bool.eq_iff_iff]
  simp
  omega

set_option maxHeartbeats 1000000 in
theorem LDominates_any (l c m d : Nat) (w : World) (hc : c < 65536) (hd : d < 65536) :
    Calls Tryd.prog 29 #[.agg #[.int .u8 l, .int .u16 c], .agg #[.int .u8 m, .int .u16 d]] w fun e w' => e = .returned (.bool (domB l c m d)) ∧ Ch No w w' := by
  have hk := dom_eq l c m d
  by_cases h1 : (((mxN l m : Nat) : Int) == (l : Int)) = true
  · by_cases h2 : (((orN c d : Nat) : Int) == (c : Int)) = true
    · have e : domB l c m d = true := by rw [← hk, h1, h2]; rfl
      rw [e]
      clear e hk
      go_enter Tryd.func29, Tryd.ntmps29
      go_wp2
      go_region_held3 (fun w' => w'.cell? ⟨w.heap.size, 0, none⟩ = some (.int .u8 l) ∧ w'.cell? ⟨w.heap.size, 1, none⟩ = some (.int .u16 c) ∧ w'.cell? ⟨w.heap.size + 1, 0, none⟩ = some (.int .u8 m) ∧ w'.cell? ⟨w.heap.size + 1, 1, none⟩ = some (.int .u16 d) ∧ Ch No w w') (first | (refine ⟨?_, ?_, ?_, ?_, ?_⟩ <;> (first | (simp [*]; done) | (refine Ch.trans ?_ (by assumption); simp [*]; done) | (refine Ch.cell (by assumption) ?_ (fun h => h); simp [*]; done) | (repeat (first | exact Ch.refl _ _ | apply Ch.drew | apply Ch.alloc | apply Ch.drewN))))) (first | (go_at_call 22; refine (LJoin_any _ _ _ _ _ hc hd).mono ?_; rintro e w' ⟨rfl, hw'⟩))
      go_wp2
      go_ret
      exact ⟨rfl, by simp [*]⟩
    · replace h2 : (((orN c d : Nat) : Int) == (c : Int)) = false := by simpa using h2
      have e : domB l c m d = false := by rw [← hk, h1, h2]; rfl
      rw [e]
      clear e hk
      go_enter Tryd.func29, Tryd.ntmps29
      go_wp2
      go_region_held3 (fun w' => w'.cell? ⟨w.heap.size, 0, none⟩ = some (.int .u8 l) ∧ w'.cell? ⟨w.heap.size, 1, none⟩ = some (.int .u16 c) ∧ w'.cell? ⟨w.heap.size + 1, 0, none⟩ = some (.int .u8 m) ∧ w'.cell? ⟨w.heap.size + 1, 1, none⟩ = some (.int .u16 d) ∧ Ch No w w') (first | (refine ⟨?_, ?_, ?_, ?_, ?_⟩ <;> (first | (simp [*]; done) | (refine Ch.trans ?_ (by assumption); simp [*]; done) | (refine Ch.cell (by assumption) ?_ (fun h => h); simp [*]; done) | (repeat (first | exact Ch.refl _ _ | apply Ch.drew | apply Ch.alloc | apply Ch.drewN))))) (first | (go_at_call 22; refine (LJoin_any _ _ _ _ _ hc hd).mono ?_; rintro e w' ⟨rfl, hw'⟩))
      go_wp2
      go_ret
      exact ⟨rfl, by simp [*]⟩
  · replace h1 : (((mxN l m : Nat) : Int) == (l : Int)) = false := by simpa using h1
    have e : domB l c m d = false := by rw [← hk, h1]; rfl
    rw [e]
    clear e hk
    go_enter Tryd.func29, Tryd.ntmps29
    go_wp2
    go_region_held3 (fun w' => w'.cell? ⟨w.heap.size, 0, none⟩ = some (.int .u8 l) ∧ w'.cell? ⟨w.heap.size, 1, none⟩ = some (.int .u16 c) ∧ w'.cell? ⟨w.heap.size + 1, 0, none⟩ = some (.int .u8 m) ∧ w'.cell? ⟨w.heap.size + 1, 1, none⟩ = some (.int .u16 d) ∧ Ch No w w') (first | (refine ⟨?_, ?_, ?_, ?_, ?_⟩ <;> (first | (simp [*]; done) | (refine Ch.trans ?_ (by assumption); simp [*]; done) | (refine Ch.cell (by assumption) ?_ (fun h => h); simp [*]; done) | (repeat (first | exact Ch.refl _ _ | apply Ch.drew | apply Ch.alloc | apply Ch.drewN))))) (first | (go_at_call 22; refine (LJoin_any _ _ _ _ _ hc hd).mono ?_; rintro e w' ⟨rfl, hw'⟩))
    go_wp2
    go_ret
    exact ⟨rfl, by simp [*]⟩

end Go.Proofs.YtpjcfelknkddfaaDoor
