/- Plain facts on accounts that are spent one behind the other (for BudgetPoor). -/
import Derived.Test.YtjphocpnmhheeaaBudFacts
namespace Go.Proofs.Ytjphocpnmhheeaa
open Go.RowKit

def fullL (xs : List Int) : List Acc := xs.map fun n => ⟨max n 0, max n 0⟩
@[simp] theorem fullL_len (xs : List Int) : (fullL xs).length = xs.length := by simp [fullL]
/-- the accounts of pre are spent, j of the next one, none behind -/
def midL (pre : List Int) (m j : Int) (post : List Int) : List Acc := fullL pre ++ ⟨m, j⟩ :: newL post
@[simp] theorem midL_len (pre : List Int) (m j : Int) (post : List Int) : (midL pre m j post).length = pre.length + 1 + post.length := by simp [midL]; omega
theorem midL_left (pre : List Int) (m j : Int) (post : List Int) : leftI (midL pre m j post) (pre.length : Nat) = m - j := by
  have := leftI_at (fullL pre) (newL post) ⟨m, j⟩
  rw [fullL_len] at this
  exact this
theorem midL_err (pre : List Int) (m j : Int) (post : List Int) : spendE (midL pre m j post) (pre.length : Nat) = if m - j = 0 then 32 else 0 := by
  unfold spendE
  rw [if_pos ⟨by omega, by rw [midL_len]; omega⟩, midL_left]
theorem midL_spend (pre : List Int) (m j : Int) (post : List Int) (h : j < m) : spendL (midL pre m j post) (pre.length : Nat) = midL pre m (j + 1) post := by
  have := spendL_at (fullL pre) (newL post) ⟨m, j⟩
  rw [fullL_len] at this
  unfold midL
  rw [this, if_pos h]
theorem midL_spent (pre : List Int) (m : Int) (post : List Int) : spendL (midL pre m m post) (pre.length : Nat) = midL pre m m post := by
  have := spendL_at (fullL pre) (newL post) ⟨m, m⟩
  rw [fullL_len] at this
  unfold midL
  rw [this, if_neg (by simp)]
theorem midL_start (pre : List Int) (x : Int) (post : List Int) : fullL pre ++ newL (x :: post) = midL pre (max x 0) 0 post := rfl
theorem midL_end (pre : List Int) (x : Int) (post : List Int) : midL pre (max x 0) (max x 0) post = fullL (pre ++ [x]) ++ newL post := by simp [midL, fullL]
theorem midL_in (pre : List Int) (m j : Int) (post : List Int) : decide (((pre.length : Nat) : Int) ∈ poorAll (midL pre m j post)) = decide (m - j = 0) := by
  rw [decide_eq_decide, mem_poor]
  constructor
  · rintro ⟨i, _, he, h⟩
    obtain rfl : i = pre.length := by omega
    rwa [midL_left] at h
  · intro h
    exact ⟨pre.length, by rw [midL_len]; omega, rfl, by rw [midL_left]; exact h⟩
theorem full_poor (xs : List Int) : poorAll (fullL xs) = (List.range xs.length).map fun i : Nat => (i : Int) := by
  unfold poorAll poorTo
  rw [fullL_len]
  congr 1
  rw [List.filter_eq_self]
  intro i hi
  rw [List.mem_range] at hi
  simp [leftI, fullL, hi]
end Go.Proofs.Ytjphocpnmhheeaa
