/- Plain facts: accounts behind a row of spendings. -/
import Derived.Test.YtjphocpnmhheeaaBudFull
import Derived.Test.YtjphocpnmhheeaaBudNone
namespace Go.Proofs.Ytjphocpnmhheeaa
open Go.RowKit

/-- accounts behind these spendings -/
def aft (L : List Acc) (ys : List Int) : List Acc := ys.foldl spendL L
theorem aft_snoc (L : List Acc) (ys : List Int) (y : Int) : aft L (ys ++ [y]) = spendL (aft L ys) y := by simp [aft]
theorem aft_cons (L : List Acc) (ys : List Int) (y : Int) : aft L (y :: ys) = aft (spendL L y) ys := rfl
@[simp] theorem aft_len (L : List Acc) (ys : List Int) : (aft L ys).length = L.length := by
  induction ys generalizing L with
  | nil => rfl
  | cons y ys ih => rw [aft_cons, ih, spendL_len]
theorem spendL_get (L : List Acc) (i : Int) (k : Nat) : (spendL L i)[k]? = L[k]?.map fun a => if i = k ∧ a.s < a.m then ⟨a.m, a.s + 1⟩ else a := by
  unfold spendL
  by_cases hi : 0 ≤ i
  · rw [if_pos hi, List.getElem?_modify]
    by_cases hk : i.toNat = k
    · have hik : i = k := by omega
      cases L[k]? <;> simp [hik]
    · have hik : ¬ i = k := by omega
      cases L[k]? <;> simp [hk, hik]
  · rw [if_neg hi]
    have hik : ¬ i = k := by omega
    cases L[k]? <;> simp [hik]
theorem aft_get (L : List Acc) (ys : List Int) (k : Nat) (h : ∀ a ∈ L, a.Ok) : (aft L ys)[k]? = L[k]?.map fun a => ⟨a.m, min a.m (a.s + (ys.count (k : Int) : Nat))⟩ := by
  induction ys generalizing L with
  | nil =>
    cases hk : L[k]? with
    | none => simp [aft, hk]
    | some a =>
      have := h a (List.mem_of_getElem? hk)
      obtain ⟨o1, o2, o3⟩ := this
      have e : min a.m (a.s + ((List.count (k : Int) ([] : List Int) : Nat) : Int)) = a.s := by simp; omega
      simp only [aft, List.foldl_nil, hk, Option.map_some, e]
  | cons y ys ih =>
    have hok : ∀ a ∈ spendL L y, a.Ok := by
      intro a ha
      obtain ⟨j, hj⟩ := List.getElem?_of_mem ha
      rw [spendL_get] at hj
      cases hl : L[j]? with
      | none => simp [hl] at hj
      | some b =>
        obtain ⟨o1, o2, o3⟩ := h b (List.mem_of_getElem? hl)
        simp only [hl, Option.map_some, Option.some.injEq] at hj
        subst hj
        split
        · rename_i hc; exact ⟨by simp only; omega, by simp only; omega, o3⟩
        · exact ⟨o1, o2, o3⟩
    rw [aft_cons, ih _ hok, spendL_get, Option.map_map]
    cases hl : L[k]? with
    | none => rfl
    | some a =>
      obtain ⟨o1, o2, o3⟩ := h a (List.mem_of_getElem? hl)
      simp only [Option.map_some, Function.comp_apply, Option.some.injEq, List.count_cons, beq_iff_eq]
      by_cases hy : y = k
      · by_cases hs : a.s < a.m
        · simp only [hy, hs, and_self, if_true]
          congr 1
          omega
        · simp only [hs, and_false, if_false, hy, if_true]
          congr 1
          omega
      · simp only [hy, false_and, if_false, Nat.add_zero]
theorem newL_ok {xs : List Int} (hw : ∀ x ∈ xs, wfI x) : ∀ a ∈ newL xs, a.Ok := by
  intro a ha
  obtain ⟨x, hx, rfl⟩ := List.mem_map.1 ha
  have := hw x hx
  unfold wfI at this
  exact ⟨by simp, by simp only; omega, by simp only; omega⟩
theorem aft_at {xs pre post : List Int} {x : Int} (hx : xs = pre ++ x :: post) (hw : ∀ x ∈ xs, wfI x) (ys : List Int) : (aft (newL xs) ys)[pre.length]? = some ⟨max x 0, min (max x 0) (ys.count ((pre.length : Nat) : Int) : Nat)⟩ := by
  rw [aft_get _ _ _ (newL_ok hw)]
  simp [hx, newL]
theorem aft_left {xs pre post : List Int} {x : Int} (hx : xs = pre ++ x :: post) (hw : ∀ x ∈ xs, wfI x) (ys : List Int) : leftI (aft (newL xs) ys) (pre.length : Nat) = max x 0 - min (max x 0) (ys.count ((pre.length : Nat) : Int) : Nat) := by
  unfold leftI
  rw [if_pos (by omega), Int.toNat_natCast, aft_at hx hw]
theorem aft_spent {xs pre post : List Int} {x : Int} (hx : xs = pre ++ x :: post) (hw : ∀ x ∈ xs, wfI x) (ys : List Int) : spentI (aft (newL xs) ys) (pre.length : Nat) = min (max x 0) (ys.count ((pre.length : Nat) : Int) : Nat) := by
  unfold spentI
  rw [if_pos (by omega), Int.toNat_natCast, aft_at hx hw]
theorem err_at {L : List Acc} {k : Nat} (h : k < L.length) : errI L (k : Nat) = 0 := if_pos ⟨by omega, by omega⟩
theorem err_out {L : List Acc} {k : Int} (h : ¬ (0 ≤ k ∧ k < L.length)) : errI L k = 4 := if_neg h
end Go.Proofs.Ytjphocpnmhheeaa
