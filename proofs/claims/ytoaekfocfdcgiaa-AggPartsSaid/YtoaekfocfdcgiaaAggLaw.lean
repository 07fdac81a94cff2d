/- What is told of values (count, sum, least, greatest), in plain Lean. No program in sight. -/
import Derived.Test.YtoaekfocfdcgiaaMem
import Derived.Test.YtoaekfocfdcgiaaNum
namespace Go.Proofs.Ytoaekfocfdcgiaa
open Go.RowKit

theorem perm_sum {xs ys : List Int} (p : xs.Perm ys) : xs.sum = ys.sum := by
  induction p with
  | nil => rfl
  | cons x _ ih => simp [ih]
  | swap x y l => simp; omega
  | trans _ _ h1 h2 => exact h1.trans h2
theorem snoc_ind {α : Type} {p : List α → Prop} (h0 : p []) (h1 : ∀ xs x, p xs → p (xs ++ [x])) (xs : List α) : p xs := by
  have h : ∀ ys : List α, p ys.reverse := fun ys => by
    induction ys with
    | nil => exact h0
    | cons y ys ih => rw [List.reverse_cons]; exact h1 _ _ ih
  simpa using h xs.reverse

structure Ag where
  c : Int
  s : Int
  l : Int
  h : Int

theorem Ag.ext' {a b : Ag} (h1 : a.c = b.c) (h2 : a.s = b.s) (h3 : a.l = b.l) (h4 : a.h = b.h) : a = b := by
  cases a; cases b; simp_all

def wr (x : Int) : Int := (x + 9223372036854775808) % 18446744073709551616 - 9223372036854775808
def agNone : Ag := ⟨0, 0, 0, 0⟩
def agOne (v : Int) : Ag := ⟨1, v, v, v⟩
/-- both have values -/
def agBoth (a b : Ag) : Ag := ⟨wr (a.c + b.c), wr (a.s + b.s), min a.l b.l, max a.h b.h⟩
def agMerge (a b : Ag) : Ag := if a.c < 1 then (if b.c < 1 then agNone else b) else if b.c < 1 then a else agBoth a b
def agOf (xs : List Int) : Ag := xs.foldl (fun a v => agMerge a (agOne v)) agNone
theorem agOf_nil : agOf [] = agNone := rfl
theorem agOf_snoc (xs : List Int) (v : Int) : agOf (xs ++ [v]) = agMerge (agOf xs) (agOne v) := by simp [agOf]

theorem wr_id {x : Int} (h : wfI x) : wr x = x := by unfold wr wfI at *; omega
theorem wr_wf (x : Int) : wfI (wr x) := by unfold wr wfI; omega
theorem wr_add (x y : Int) : wr (wr x + y) = wr (x + y) := by unfold wr; omega
theorem wr_add' (x y : Int) : wr (wr x + wr y) = wr (x + y) := by unfold wr; omega

/-- a tells of the values xs -/
structure Tells (a : Ag) (xs : List Int) : Prop where
  c : a.c = xs.length
  s : a.s = wr xs.sum
  none : xs = [] → a.l = 0 ∧ a.h = 0
  some : xs ≠ [] → (a.l ∈ xs ∧ ∀ x ∈ xs, a.l ≤ x) ∧ (a.h ∈ xs ∧ ∀ x ∈ xs, x ≤ a.h)

theorem Tells.unique {a b : Ag} {xs : List Int} (ha : Tells a xs) (hb : Tells b xs) : a = b := by
  refine Ag.ext' (ha.c.trans hb.c.symm) (ha.s.trans hb.s.symm) ?_ ?_
  · by_cases h : xs = []
    · rw [(ha.none h).1, (hb.none h).1]
    · obtain ⟨⟨h1, h2⟩, _⟩ := ha.some h
      obtain ⟨⟨h3, h4⟩, _⟩ := hb.some h
      exact Int.le_antisymm (h2 _ h3) (h4 _ h1)
  · by_cases h : xs = []
    · rw [(ha.none h).2, (hb.none h).2]
    · obtain ⟨_, h1, h2⟩ := ha.some h
      obtain ⟨_, h3, h4⟩ := hb.some h
      exact Int.le_antisymm (h4 _ h1) (h2 _ h3)

theorem Tells.perm {a : Ag} {xs ys : List Int} (h : Tells a xs) (p : xs.Perm ys) : Tells a ys := by
  refine ⟨by rw [h.c, p.length_eq], by rw [h.s, perm_sum p], fun e => h.none (by subst e; exact p.eq_nil), fun e => ?_⟩
  obtain ⟨⟨h1, h2⟩, h3, h4⟩ := h.some (by rintro rfl; exact e (p.symm.eq_nil))
  exact ⟨⟨p.mem_iff.1 h1, fun x hx => h2 x (p.mem_iff.2 hx)⟩, p.mem_iff.1 h3, fun x hx => h4 x (p.mem_iff.2 hx)⟩

theorem Tells.merge {a b : Ag} {xs ys : List Int} (ha : Tells a xs) (hb : Tells b ys) (hl : xs.length + ys.length < 1000000) : Tells (agMerge a b) (xs ++ ys) := by
  have hcx := ha.c
  have hcy := hb.c
  unfold agMerge
  by_cases hx : xs = []
  · subst hx
    rw [if_pos (by rw [hcx]; simp)]
    by_cases hy : ys = []
    · subst hy
      rw [if_pos (by rw [hcy]; simp)]
      exact ⟨rfl, rfl, fun _ => ⟨rfl, rfl⟩, fun h => absurd rfl h⟩
    · have : 0 < ys.length := List.length_pos_iff.2 hy
      rw [if_neg (by omega)]
      exact hb
  · have hx0 : 0 < xs.length := List.length_pos_iff.2 hx
    rw [if_neg (by omega)]
    by_cases hy : ys = []
    · subst hy
      rw [if_pos (by rw [hcy]; simp)]
      simpa using ha
    · have hy0 : 0 < ys.length := List.length_pos_iff.2 hy
      rw [if_neg (by omega)]
      obtain ⟨⟨h1, h2⟩, h3, h4⟩ := ha.some hx
      obtain ⟨⟨h5, h6⟩, h7, h8⟩ := hb.some hy
      refine ⟨?_, ?_, fun e => ?_, fun _ => ⟨⟨?_, ?_⟩, ?_, ?_⟩⟩
      · show wr (a.c + b.c) = _
        rw [hcx, hcy, wr_id (by unfold wfI; omega)]
        simp
      · show wr (a.s + b.s) = _
        rw [ha.s, hb.s, wr_add', List.sum_append_int]
      · simp at e
        exact absurd e.1 hx
      · show min a.l b.l ∈ _
        rw [Int.min_def]
        split
        · exact List.mem_append_left _ h1
        · exact List.mem_append_right _ h5
      · intro x hm
        show min a.l b.l ≤ x
        rcases List.mem_append.1 hm with hm | hm
        · have := h2 x hm; omega
        · have := h6 x hm; omega
      · show max a.h b.h ∈ _
        rw [Int.max_def]
        split
        · exact List.mem_append_right _ h7
        · exact List.mem_append_left _ h3
      · intro x hm
        show x ≤ max a.h b.h
        rcases List.mem_append.1 hm with hm | hm
        · have := h4 x hm; omega
        · have := h8 x hm; omega

theorem tells_one {v : Int} (h : wfI v) : Tells (agOne v) [v] :=
  ⟨rfl, by show v = wr (v + 0); rw [Int.add_zero, wr_id h], fun e => (by simp at e), fun _ => by simp [agOne]⟩
theorem tells_none : Tells agNone [] := ⟨rfl, rfl, fun _ => ⟨rfl, rfl⟩, fun h => absurd rfl h⟩

theorem tells_of (xs : List Int) (hw : ∀ x ∈ xs, wfI x) (hl : xs.length < 1000000) : Tells (agOf xs) xs := by
  revert hw hl
  refine snoc_ind (p := fun xs => (∀ x ∈ xs, wfI x) → xs.length < 1000000 → Tells (agOf xs) xs) (fun _ _ => tells_none) (fun pre v ih hw hl => ?_) xs
  rw [agOf_snoc]
  simp at hl
  exact Tells.merge (ih (fun x hx => hw x (by simp [hx])) (by omega)) (tells_one (hw v (by simp))) (by simp; omega)
/-- the sum by the count, rounded down; is there one? -/
def avV (a : Ag) : Int := if a.c < 1 then 0 else a.s / a.c
def avB (a : Ag) : Bool := decide (1 ≤ a.c)
theorem div_down (s n : Int) (hn : 1 ≤ n) : s / n = if Int.tmod s n < 0 then Int.tdiv s n - 1 else Int.tdiv s n := by
  have h1 := Int.mul_tdiv_add_tmod s n
  have h2 := Int.emod_add_mul_ediv s n
  have h3 := Int.emod_nonneg s (show n ≠ 0 by omega)
  have h4 := Int.emod_lt_of_pos s (show 0 < n by omega)
  have h5 : (if 0 ≤ s then 0 ≤ Int.tmod s n else Int.tmod s n ≤ 0) := by
    split
    · exact Int.tmod_nonneg n (by assumption)
    · have := Int.tmod_nonneg n (show 0 ≤ -s by omega)
      rw [Int.neg_tmod] at this
      omega
  have h6 : -n < Int.tmod s n ∧ Int.tmod s n < n := by
    constructor
    · have := Int.lt_tmod_of_pos s (show 0 < n by omega); omega
    · exact Int.tmod_lt_of_pos s (by omega)
  generalize hq : Int.tdiv s n = q at *
  generalize hr : Int.tmod s n = r at *
  generalize hq2 : s / n = q2 at *
  generalize hr2 : s % n = r2 at *
  split
  · have : n * (q - 1) + (r + n) = n * q2 + r2 := by rw [Int.mul_sub]; omega
    have hlt : r + n - r2 < n ∧ -n < r + n - r2 := by omega
    have he : n * (q2 - (q - 1)) = r + n - r2 := by rw [Int.mul_sub]; omega
    have h0 : q2 - (q - 1) = 0 := by
      rcases Int.lt_trichotomy (q2 - (q - 1)) 0 with h | h | h
      · have : n * (q2 - (q - 1)) ≤ n * (-1) := Int.mul_le_mul_of_nonneg_left (by omega) (by omega)
        omega
      · exact h
      · have : n * 1 ≤ n * (q2 - (q - 1)) := Int.mul_le_mul_of_nonneg_left (by omega) (by omega)
        omega
    omega
  · have hlt : r - r2 < n ∧ -n < r - r2 := by omega
    have he : n * (q2 - q) = r - r2 := by rw [Int.mul_sub]; omega
    have h0 : q2 - q = 0 := by
      rcases Int.lt_trichotomy (q2 - q) 0 with h | h | h
      · have : n * (q2 - q) ≤ n * (-1) := Int.mul_le_mul_of_nonneg_left (by omega) (by omega)
        omega
      · exact h
      · have : n * 1 ≤ n * (q2 - q) := Int.mul_le_mul_of_nonneg_left (by omega) (by omega)
        omega
    omega

theorem tdiv_wf {s c : Int} (hs : wfI s) (hc : 1 ≤ c) : wfI (s.tdiv c) := by
  unfold wfI at *
  have h1 : ∀ x : Int, 0 ≤ x → 0 ≤ x.tdiv c ∧ x.tdiv c ≤ x := fun x hx => by
    refine ⟨Int.tdiv_nonneg hx (by omega), ?_⟩
    rw [Int.tdiv_eq_ediv_of_nonneg hx]
    exact Int.ediv_le_self c hx
  by_cases h : 0 ≤ s
  · have := h1 s h; omega
  · have := h1 (-s) (by omega)
    rw [Int.neg_tdiv] at this
    omega
theorem ediv_wf {s c : Int} (hs : wfI s) (hc : 1 ≤ c) : wfI (s / c) := by
  unfold wfI at *
  by_cases h : 0 ≤ s
  · have h1 := Int.ediv_le_self c h
    have h2 := Int.ediv_nonneg h (show 0 ≤ c by omega)
    omega
  · have h1 : s ≤ s / c := by
      refine Int.le_ediv_of_mul_le (by omega) ?_
      have := Int.mul_le_mul_of_nonpos_left (a := s) (b := c) (c := 1) (by omega) (by omega)
      omega
    have h2 : s / c < 0 := Int.ediv_lt_of_lt_mul (by omega) (by omega)
    omega
theorem wrap64_eq (x : Int) : wrap64 x = wr x := by unfold wrap64 wr; rfl
theorem tmod_zero_iff {s c : Int} (hs : wfI s) (hc : 1 ≤ c) : wrap64 (s.tdiv c * c) = s.tdiv c * c := by
  rw [wrap64_eq]
  refine wr_id ?_
  have h1 := Int.mul_tdiv_add_tmod s c
  rw [Int.mul_comm] at h1
  unfold wfI at *
  by_cases h : 0 ≤ s
  · have h2 := Int.tmod_nonneg c h
    have h3 := Int.mul_nonneg (Int.tdiv_nonneg h (show 0 ≤ c by omega)) (show 0 ≤ c by omega)
    omega
  · have h2 := Int.tmod_nonneg c (show 0 ≤ -s by omega)
    rw [Int.neg_tmod] at h2
    have h3 := Int.mul_nonneg (Int.tdiv_nonneg (show 0 ≤ -s by omega) (show 0 ≤ c by omega)) (show 0 ≤ c by omega)
    rw [Int.neg_tdiv, Int.neg_mul] at h3
    omega
theorem down_iff {s c : Int} : (s.tmod c < 0) ↔ (s < 0 ∧ s.tdiv c * c ≠ s) := by
  have h1 := Int.mul_tdiv_add_tmod s c
  rw [Int.mul_comm] at h1
  by_cases h : 0 ≤ s
  · have h2 := Int.tmod_nonneg c h
    omega
  · have h2 := Int.tmod_nonneg c (show 0 ≤ -s by omega)
    rw [Int.neg_tmod] at h2
    omega
theorem ite_min (a b : Int) : (if a < b then a else b) = min a b := by omega

/-! ### what the laws say, of lists -/
theorem wr_bd {x : Int} (h : -9223372036854775808 ≤ x) (h2 : x < 9223372036854775808) : wr x = x := wr_id ⟨h, h2⟩
theorem tmod_bd (x : Int) {m : Int} (hm : 0 < m) : -m < x.tmod m ∧ x.tmod m < m := by
  constructor
  · have := Int.lt_tmod_of_pos x hm; omega
  · exact Int.tmod_lt_of_pos x hm
theorem sum_bd {xs : List Int} {M : Int} (h : ∀ x ∈ xs, -M ≤ x ∧ x ≤ M) : -(M * xs.length) ≤ xs.sum ∧ xs.sum ≤ M * xs.length := by
  induction xs with
  | nil => simp
  | cons x xs ih =>
    have h1 := h x (by simp)
    have h2 := ih (fun y hy => h y (List.mem_cons_of_mem _ hy))
    rw [List.sum_cons, List.length_cons]
    rw [show M * ((xs.length + 1 : Nat) : Int) = M * xs.length + M by rw [Int.natCast_add, Int.mul_add]; simp]
    omega
theorem sum_shift (xs : List Int) (b : Int) : (xs.map (· + b)).sum = xs.sum + b * xs.length := by
  induction xs with
  | nil => simp
  | cons x xs ih =>
    rw [List.map_cons, List.sum_cons, List.sum_cons, ih, List.length_cons]
    rw [show b * ((xs.length + 1 : Nat) : Int) = b * xs.length + b by rw [Int.natCast_add, Int.mul_add]; simp]
    omega
theorem le_mul_len {xs : List Int} {m : Int} (h : ∀ x ∈ xs, m ≤ x) : m * xs.length ≤ xs.sum := by
  induction xs with
  | nil => simp
  | cons x xs ih =>
    have h1 := h x (by simp)
    have h2 := ih (fun y hy => h y (List.mem_cons_of_mem _ hy))
    rw [List.sum_cons, List.length_cons]
    rw [show m * ((xs.length + 1 : Nat) : Int) = m * xs.length + m by rw [Int.natCast_add, Int.mul_add]; simp]
    omega
theorem mul_len_le {xs : List Int} {m : Int} (h : ∀ x ∈ xs, x ≤ m) : xs.sum ≤ m * xs.length := by
  induction xs with
  | nil => simp
  | cons x xs ih =>
    have h1 := h x (by simp)
    have h2 := ih (fun y hy => h y (List.mem_cons_of_mem _ hy))
    rw [List.sum_cons, List.length_cons]
    rw [show m * ((xs.length + 1 : Nat) : Int) = m * xs.length + m by rw [Int.natCast_add, Int.mul_add]; simp]
    omega
/-- values that are all more by as much -/
theorem tells_shift {a : Ag} {xs : List Int} (h : Tells a xs) (b : Int) (hne : xs ≠ []) : Tells ⟨a.c, wr (a.s + b * xs.length), a.l + b, a.h + b⟩ (xs.map (· + b)) := by
  obtain ⟨⟨h1, h2⟩, h3, h4⟩ := h.some hne
  refine ⟨by rw [h.c]; simp, ?_, fun e => absurd (by simpa using e) hne, fun _ => ⟨⟨List.mem_map.2 ⟨_, h1, rfl⟩, ?_⟩, List.mem_map.2 ⟨_, h3, rfl⟩, ?_⟩⟩
  · show wr (a.s + b * xs.length) = _
    rw [h.s, wr_add, sum_shift]
  · intro x hx
    obtain ⟨y, hy, rfl⟩ := List.mem_map.1 hx
    have := h2 y hy
    show a.l + b ≤ y + b
    omega
  · intro x hx
    obtain ⟨y, hy, rfl⟩ := List.mem_map.1 hx
    have := h4 y hy
    show y + b ≤ a.h + b
    omega
theorem ediv_shift (s b : Int) {n : Int} (hn : 1 ≤ n) : (s + b * n) / n = s / n + b := Int.add_mul_ediv_right s b (by omega)
end Go.Proofs.Ytoaekfocfdcgiaa
