/- Plain facts on accounts: what is spent, and left. -/
import Derived.Test.YtjphocpnmhheeaaBudPoor2
import Derived.Test.YtjphocpnmhheeaaBudNew
namespace Go.Proofs.Ytjphocpnmhheeaa
open Go.RowKit

theorem mem_poor (L : List Acc) (k : Int) : k ∈ poorAll L ↔ ∃ j : Nat, j < L.length ∧ k = j ∧ leftI L (j : Nat) = 0 := by
  unfold poorAll poorTo
  simp only [List.mem_map, List.mem_filter, List.mem_range, decide_eq_true_eq]
  constructor
  · rintro ⟨j, ⟨h1, h2⟩, rfl⟩; exact ⟨j, h1, rfl, h2⟩
  · rintro ⟨j, h1, rfl, h2⟩; exact ⟨j, ⟨h1, h2⟩, rfl⟩

/-- all that is spent -/
def totS (L : List Acc) : Int := (L.map Acc.s).sum
theorem totS_app (l k : List Acc) : totS (l ++ k) = totS l + totS k := by simp [totS]
theorem totS_cons (a : Acc) (l : List Acc) : totS (a :: l) = a.s + totS l := by simp [totS]
theorem totS_nonneg {L : List Acc} (h : ∀ a ∈ L, a.Ok) : 0 ≤ totS L := by
  induction L with
  | nil => simp [totS]
  | cons a L ih =>
    have h1 := (h a (by simp)).1
    have h2 := ih (fun x hx => h x (List.mem_cons_of_mem _ hx))
    rw [totS_cons]
    omega
theorem totS_new (xs : List Int) : totS (newL xs) = 0 := by
  induction xs with
  | nil => rfl
  | cons x xs ih => rw [show newL (x :: xs) = ⟨max x 0, 0⟩ :: newL xs from rfl, totS_cons, ih]; rfl

/-- of the first j -/
def psum (L : List Acc) (j : Nat) : Int := totS (L.take j)
theorem psum_zero (L : List Acc) : psum L 0 = 0 := by simp [psum, totS]
theorem psum_all (L : List Acc) : psum L L.length = totS L := by simp [psum]
theorem psum_succ {L : List Acc} {j : Nat} (h : j < L.length) : psum L (j + 1) = psum L j + spentI L (j : Nat) := by
  obtain ⟨pre, a, post, rfl, e⟩ := split_at (l := L) (i := (j : Nat)) (by omega) (by omega)
  obtain rfl : j = pre.length := by omega
  rw [spentI_at]
  unfold psum
  rw [List.take_left' rfl, show pre ++ a :: post = (pre ++ [a]) ++ post from by simp, List.take_left' (by simp), totS_app, totS_cons]
  simp [totS]
theorem psum_le {L : List Acc} (h : ∀ a ∈ L, a.Ok) (j : Nat) : 0 ≤ psum L j ∧ psum L j ≤ totS L := by
  have h1 : totS (L.take j) + totS (L.drop j) = totS L := by rw [← totS_app, List.take_append_drop]
  have h2 := totS_nonneg (L := L.take j) (fun a ha => h a (List.mem_of_mem_take ha))
  have h3 := totS_nonneg (L := L.drop j) (fun a ha => h a (List.mem_of_mem_drop ha))
  unfold psum
  omega

/-- one spending -/
theorem spend_tot {L : List Acc} (h : ∀ a ∈ L, a.Ok) (i : Int) : totS (spendL L i) = totS L + (if spendE L i = 0 then 1 else 0) := by
  by_cases hi : 0 ≤ i ∧ i < L.length
  · obtain ⟨pre, a, post, rfl, rfl⟩ := split_at hi.1 hi.2
    obtain ⟨o1, o2, o3⟩ := h a (by simp)
    rw [spendL_at, show spendE (pre ++ a :: post) (pre.length : Nat) = if a.m - a.s = 0 then 32 else 0 from by unfold spendE; rw [if_pos hi, leftI_at]]
    by_cases hz : a.m - a.s = 0
    · rw [if_pos hz, if_neg (show ¬ a.s < a.m by omega)]; simp
    · rw [if_neg hz, if_pos (show a.s < a.m by omega), totS_app, totS_app, totS_cons, totS_cons]
      simp only [if_true]
      omega
  · rw [spendL_out hi, show spendE L i = 4 from if_neg hi]
    simp
theorem spend_ms (L : List Acc) (i : Int) : (spendL L i).map Acc.m = L.map Acc.m := by
  by_cases hi : 0 ≤ i ∧ i < L.length
  · obtain ⟨pre, a, post, rfl, rfl⟩ := split_at hi.1 hi.2
    rw [spendL_at]
    split <;> simp
  · rw [spendL_out hi]
theorem spend_left {L : List Acc} (i : Int) (k : Nat) (hz : leftI L (k : Nat) = 0) (h : ∀ a ∈ L, a.Ok) : leftI (spendL L i) (k : Nat) = 0 := by
  by_cases hk : k < L.length
  · obtain ⟨pre, a, post, rfl, e⟩ := split_at (l := L) (i := (k : Nat)) (by omega) (by omega)
    obtain rfl : k = pre.length := by omega
    rw [leftI_at] at hz
    by_cases hi : 0 ≤ i
    · unfold spendL leftI
      rw [if_pos hi, if_pos (by omega), Int.toNat_natCast, List.getElem?_modify]
      simp only [List.getElem?_append_right (Nat.le_refl _), Nat.sub_self, List.getElem?_cons_zero, Option.map_eq_map, Option.map_some]
      rw [if_neg (show ¬ a.s < a.m by omega)]
      split <;> exact hz
    · unfold spendL
      rw [if_neg hi, leftI_at]
      exact hz
  · exact leftI_out (by rw [spendL_len]; omega)
theorem poor_mono {L : List Acc} (i : Int) (h : ∀ a ∈ L, a.Ok) : (poorAll L).length ≤ (poorAll (spendL L i)).length := by
  unfold poorAll poorTo
  rw [spendL_len, List.length_map, List.length_map, ← List.countP_eq_length_filter, ← List.countP_eq_length_filter]
  refine List.countP_mono_left fun k _ hk => ?_
  simp only [decide_eq_true_eq] at hk ⊢
  exact spend_left i k hk h
end Go.Proofs.Ytjphocpnmhheeaa
