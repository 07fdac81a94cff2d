/- rows of numbers, in plain Lean: how many, and which. -/
import Derived.Test.YtpjcfelknkddfaaRepChk
namespace Go.Proofs.Ytpjcfelknkddfaa
open Go.RowKit

theorem chks_big {z : Nat} (hz : 1 ≤ z) {xs : List Int} (h : xs.length ≤ z) : chks z xs = if xs = [] then [] else [xs] := by
  by_cases hx : xs = []
  · rw [if_pos hx, hx, chks_nil]
  · rw [if_neg hx, chks_step hz hx, List.take_of_length_le h, List.drop_eq_nil_of_le h, chks_nil]
theorem chks_cut {z y : Nat} (hz : 1 ≤ z) {xs : List Int} (h : xs.length ≤ 200) (hy : (y : Int) = min (z : Int) 1000) : chks z xs = chks y xs := by
  by_cases h1 : z ≤ 1000
  · rw [show y = z from by omega]
  · rw [chks_big hz (by omega), chks_big (by omega) (by omega)]
theorem chks_count {z : Nat} (hz : 1 ≤ z) : ∀ (n : Nat) (xs : List Int), xs.length ≤ n → (chks z xs).length = (xs.length + z - 1) / z := by
  intro n
  induction n with
  | zero =>
    intro xs h
    rw [List.eq_nil_of_length_eq_zero (l := xs) (by omega), chks_nil]
    simp only [List.length_nil, Nat.zero_add]
    rw [Nat.div_eq_of_lt (by omega)]
  | succ n ih =>
    intro xs h
    by_cases hx : xs = []
    · rw [hx, chks_nil]
      simp only [List.length_nil, Nat.zero_add]
      rw [Nat.div_eq_of_lt (by omega)]
    · have hl : xs.length ≠ 0 := fun h => hx (List.eq_nil_of_length_eq_zero h)
      rw [chks_step hz hx, List.length_cons, ih (xs.drop z) (by rw [List.length_drop]; omega), List.length_drop]
      by_cases h1 : z ≤ xs.length
      · rw [show xs.length - z + z - 1 = xs.length - 1 from by omega, show xs.length + z - 1 = xs.length - 1 + z from by omega, Nat.add_div_right _ (by omega)]
      · rw [show xs.length - z + z - 1 = z - 1 from by omega, show xs.length + z - 1 = xs.length - 1 + z from by omega, Nat.add_div_right _ (by omega), Nat.div_eq_of_lt (by omega), Nat.div_eq_of_lt (by omega)]
theorem chks_at {z : Nat} (hz : 1 ≤ z) : ∀ (pre post : List (List Int)) (r xs : List Int), chks z xs = pre ++ r :: post → r = (xs.drop (pre.length * z)).take z ∧ pre.length * z < xs.length := by
  intro pre
  induction pre with
  | nil =>
    intro post r xs h
    have hx : xs ≠ [] := by
      rintro rfl
      rw [chks_nil] at h
      cases h
    rw [chks_step hz hx, List.nil_append] at h
    injection h with h1 h2
    refine ⟨by simp [← h1], ?_⟩
    have hl : xs.length ≠ 0 := fun h => hx (List.eq_nil_of_length_eq_zero h)
    simp
    omega
  | cons p pre ih =>
    intro post r xs h
    have hx : xs ≠ [] := by
      rintro rfl
      rw [chks_nil] at h
      cases h
    rw [chks_step hz hx, List.cons_append] at h
    injection h with h1 h2
    obtain ⟨h3, h4⟩ := ih post r (xs.drop z) h2
    have e : (pre.length + 1) * z = z + pre.length * z := by rw [Nat.add_mul]; omega
    rw [List.length_drop] at h4
    rw [List.length_cons, e]
    refine ⟨?_, by omega⟩
    rw [h3, List.drop_drop]
theorem chks_sum {z : Nat} (hz : 1 ≤ z) : ∀ (n : Nat) (xs : List Int), xs.length ≤ n → (chks z xs).flatten = xs := by
  intro n
  induction n with
  | zero =>
    intro xs h
    rw [List.eq_nil_of_length_eq_zero (l := xs) (by omega), chks_nil]
    rfl
  | succ n ih =>
    intro xs h
    by_cases hx : xs = []
    · rw [hx, chks_nil]
      rfl
    · have hl : xs.length ≠ 0 := fun h => hx (List.eq_nil_of_length_eq_zero h)
      rw [chks_step hz hx, List.flatten_cons, ih (xs.drop z) (by rw [List.length_drop]; omega), List.take_append_drop]
end Go.Proofs.Ytpjcfelknkddfaa
