/- JournalTenants: the plain law: a tenant's page is of its own entries, and the pages of all tenants are all. No walk. -/
import Derived.Test.YtflpelacjdnplaaPagLaw
namespace Go.Proofs.Ytflpelacjdnplaa

/-- a tenant's own -/
def ownT (t : Int) (L : List Ent) : List Ent := L.filter fun x => decide (x.tenant = t)
theorem ownT_snoc (t : Int) (L : List Ent) (x : Ent) : ownT t (L ++ [x]) = ownT t L ++ (if x.tenant = t then [x] else []) := by
  unfold ownT
  rw [List.filter_append]
  by_cases h : x.tenant = t <;> simp [List.filter, h]
theorem ownT_le (t : Int) (L : List Ent) : (ownT t L).length ≤ L.length := List.length_filter_le _ _
theorem ownT_all (t : Int) (L : List Ent) : ∀ x ∈ ownT t L, x.tenant = t := by
  intro x hx
  simpa using (List.mem_filter.1 hx).2
/-- all numbers of a tenant -/
def allJ (t : Int) (L : List Ent) : List Int := selJ t 0 (numJ 0 L L.length)
theorem allJ_snoc (t : Int) (L : List Ent) (x : Ent) : allJ t (L ++ [x]) = allJ t L ++ (if decide (t ≤ -2) || decide (x.tenant = t) then [(L.length : Int) + 1] else []) := by
  unfold allJ
  rw [numJ_snoc, selJ_snoc]
  have h1 : (0 : Int) ≤ ((0 : Nat) : Int) + 1 + (L.length : Nat) := by omega
  have h2 : ((0 : Nat) : Int) + 1 + (L.length : Nat) = (L.length : Int) + 1 := by omega
  simp only [h2]
  rw [h2] at h1
  simp [h1]
theorem rev_ind {α : Type} {P : List α → Prop} (h0 : P []) (h1 : ∀ l x, P l → P (l ++ [x])) (l : List α) : P l := by
  have : ∀ n (l : List α), l.length = n → P l := by
    intro n
    induction n with
    | zero => intro l hl; rw [List.length_eq_zero_iff.1 hl]; exact h0
    | succ n ih =>
      intro l hl
      have hne : l ≠ [] := by intro h; simp [h] at hl
      rw [← List.dropLast_concat_getLast hne]
      exact h1 _ _ (ih _ (by simp [hl]))
  exact this _ l rfl
theorem allJ_len (t : Int) (ht : ¬ t ≤ -2) (L : List Ent) : (allJ t L).length = (ownT t L).length := by
  induction L using rev_ind with
  | h0 => rfl
  | h1 L x ih =>
    rw [allJ_snoc, ownT_snoc, List.length_append, List.length_append, ih]
    by_cases h : x.tenant = t <;> simp [h, ht]
theorem allJ_every (L : List Ent) : (allJ (-2) L).length = L.length := by
  induction L using rev_ind with
  | h0 => rfl
  | h1 L x ih => rw [allJ_snoc, List.length_append, List.length_append, ih]; simp
/-- a number of a tenant's page tells the entry that stands there among its own -/
theorem allJ_at (t : Int) (ht : ¬ t ≤ -2) (L : List Ent) : ∀ i, i < (ownT t L).length → ∃ (q : Nat) (x : Ent), (allJ t L)[i]? = some ((q : Int) + 1) ∧ L[q]? = some x ∧ (ownT t L)[i]? = some x := by
  induction L using rev_ind with
  | h0 => intro i h; simp [ownT] at h
  | h1 L x ih =>
    intro i hi
    by_cases h : i < (ownT t L).length
    · obtain ⟨q, y, h1, h2, h3⟩ := ih i h
      refine ⟨q, y, ?_, ?_, ?_⟩
      · rw [allJ_snoc, List.getElem?_append_left (by rw [allJ_len t ht]; exact h)]; exact h1
      · rw [List.getElem?_append_left (by have := List.getElem?_eq_some_iff.1 h2; exact this.1)]; exact h2
      · rw [ownT_snoc, List.getElem?_append_left h]; exact h3
    · rw [ownT_snoc, List.length_append] at hi
      by_cases hx : x.tenant = t
      · simp [hx] at hi
        have hi2 : i = (ownT t L).length := by omega
        refine ⟨L.length, x, ?_, by simp, ?_⟩
        · rw [allJ_snoc, hi2, ← allJ_len t ht]; simp [hx]
        · rw [ownT_snoc, hi2]; simp [hx]
      · simp [hx] at hi
        omega
/-- .. and among its own alone it tells its own place -/
theorem allJ_own (t : Int) (L : List Ent) (h : ∀ x ∈ L, x.tenant = t) : ∀ i, i < L.length → (allJ t L)[i]? = some ((i : Int) + 1) := by
  induction L using rev_ind with
  | h0 => intro i h; simp at h
  | h1 L x ih =>
    intro i hi
    have hx : x.tenant = t := h x (by simp)
    have hl : ∀ L : List Ent, (∀ x ∈ L, x.tenant = t) → (allJ t L).length = L.length := by
      intro L
      induction L using rev_ind with
      | h0 => intro _; rfl
      | h1 L x ih => intro h; rw [allJ_snoc, List.length_append, List.length_append, ih (fun y hy => h y (by simp [hy]))]; simp [h x (by simp)]
    have hL := hl L (fun y hy => h y (by simp [hy]))
    rw [allJ_snoc]
    by_cases hlt : i < L.length
    · rw [List.getElem?_append_left (by omega)]; exact ih (fun y hy => h y (by simp [hy])) i hlt
    · simp at hi
      have : i = L.length := by omega
      rw [List.getElem?_append_right (by omega), this, hL]
      simp [hx]
theorem page16 (t : Int) (L : List Ent) : pageJ 0 L t 0 16 = (allJ t L).take 16 := rfl
theorem page_both (t : Int) (ht : ¬ t ≤ -2) (L : List Ent) : (pageJ 0 L t 0 16).length = min 16 (ownT t L).length ∧ (pageJ 0 (ownT t L) t 0 16).length = min 16 (ownT t L).length := by
  have : ownT t (ownT t L) = ownT t L := by
    unfold ownT
    rw [List.filter_filter]
    simp
  rw [page16, page16, List.length_take, List.length_take, allJ_len t ht, allJ_len t ht, this]
  exact ⟨rfl, rfl⟩
theorem page_at (t : Int) (ht : ¬ t ≤ -2) (L : List Ent) (i : Nat) (hi : i < min 16 (ownT t L).length) : ∃ (q : Nat) (x : Ent), (pageJ 0 L t 0 16)[i]? = some ((q : Int) + 1) ∧ L[q]? = some x ∧ (ownT t L)[i]? = some x ∧ (pageJ 0 (ownT t L) t 0 16)[i]? = some ((i : Int) + 1) := by
  obtain ⟨q, x, h1, h2, h3⟩ := allJ_at t ht L i (by omega)
  refine ⟨q, x, ?_, h2, h3, ?_⟩
  · rw [page16, List.getElem?_take_of_lt (by omega)]; exact h1
  · rw [page16, List.getElem?_take_of_lt (by omega)]; exact allJ_own t _ (ownT_all t L) i (by omega)
/-- how many have a lesser tenant -/
def belowT (t : Int) (L : List Ent) : Nat := (L.filter fun x => decide (x.tenant < t)).length
theorem belowT_step (t : Int) (L : List Ent) : belowT (t + 1) L = belowT t L + (ownT t L).length := by
  unfold belowT ownT
  induction L with
  | nil => rfl
  | cons x L ih =>
    rw [List.filter_cons, List.filter_cons, List.filter_cons]
    by_cases h1 : x.tenant < t
    · have h2 : x.tenant < t + 1 := by omega
      have h3 : ¬ x.tenant = t := by omega
      simp [h1, h2, h3]
      omega
    · by_cases h2 : x.tenant = t
      · have h3 : x.tenant < t + 1 := by omega
        rw [if_pos (by simpa using h3), if_neg (by simpa using h1), if_pos (by simpa using h2), List.length_cons, List.length_cons]
        omega
      · have h3 : ¬ x.tenant < t + 1 := by omega
        simp [h1, h2, h3]
        omega
theorem belowT_first (L : List Ent) (h : ∀ x ∈ L, okE x = true) : belowT (-1) L = 0 := by
  unfold belowT
  rw [List.length_eq_zero_iff, List.filter_eq_nil_iff]
  intro x hx
  have := h x hx
  simp only [okE, Bool.and_eq_true, decide_eq_true_eq] at this
  simp
  omega
theorem belowT_last (L : List Ent) (h : ∀ x ∈ L, okE x = true) : belowT 16 L = L.length := by
  unfold belowT
  rw [List.filter_eq_self.2]
  intro x hx
  have := h x hx
  simp only [okE, Bool.and_eq_true, decide_eq_true_eq] at this
  simp
  omega
theorem belowT_le (t : Int) (L : List Ent) : belowT t L ≤ L.length := List.length_filter_le _ _
theorem page_len (t : Int) (ht : ¬ t ≤ -2) (L : List Ent) (h : L.length ≤ 16) : (pageJ 0 L t 0 16).length = (ownT t L).length := by
  have := ownT_le t L
  rw [(page_both t ht L).1]
  omega
theorem page_every (L : List Ent) (h : L.length ≤ 16) : (pageJ 0 L (-2) 0 16).length = L.length := by
  rw [page16, List.length_take, allJ_every]
  omega
theorem page_none (L : List Ent) : (pageJ 0 L (-2) 0 (-1)).length = 0 := by
  have : pageN (-1) = 0 := rfl
  unfold pageJ
  rw [this]
  simp
end Go.Proofs.Ytflpelacjdnplaa
