/- What holds of down-sets and closing, in plain Lean. -/
import Derived.Test.YtpjcfelknkddfaaDoorLatRef2
namespace Go.Proofs.YtpjcfelknkddfaaDoor
open Go.RowKit

theorem cl_fix {Ls : List (Nat × Nat)} {S : Nat} (h1 : ∀ j, S.testBit j = true → ∃ y, Ls[j]? = some y) (h2 : ∀ k x j y, S.testBit k = true → Ls[k]? = some x → Ls[j]? = some y → dmB x y = true → S.testBit j = true) : cl Ls S = S := by
  apply Nat.eq_of_testBit_eq
  intro j
  rw [Bool.eq_iff_iff, cl_bit]
  constructor
  · rintro ⟨k, x, y, hj, hk, hb, hd⟩
    exact h2 k x j y hb hk hj hd
  · intro hb
    obtain ⟨y, hy⟩ := h1 j hb
    exact ⟨j, y, y, hy, hy, hb, dmB_self y⟩
theorem cl_cl (Ls : List (Nat × Nat)) (m : Nat) : cl Ls (cl Ls m) = cl Ls m := by
  apply cl_fix
  · intro j hj
    obtain ⟨k, x, y, h, _⟩ := (cl_bit Ls m j).1 hj
    exact ⟨y, h⟩
  · intro k x j y hb hk hj hd
    obtain ⟨k', x', x2, h1, h2, h3, h4⟩ := (cl_bit Ls m k).1 hb
    rw [hk] at h1
    cases h1
    exact (cl_bit Ls m j).2 ⟨k', x', y, hj, h2, h3, dmB_trans h4 hd⟩
theorem cl_has {Ls : List (Nat × Nat)} {m : Nat} (hm : m < 2 ^ Ls.length) : cl Ls m &&& m = m := by
  apply Nat.eq_of_testBit_eq
  intro j
  rw [Nat.testBit_and]
  cases hb : m.testBit j with
  | false => simp
  | true =>
    have hj : j < Ls.length := by
      by_cases h : j < Ls.length
      · exact h
      · rw [Nat.testBit_lt_two_pow (Nat.lt_of_lt_of_le hm (Nat.pow_le_pow_right (by omega) (by omega)))] at hb
        cases hb
    have := (cl_bit Ls m j).2 ⟨j, Ls[j], Ls[j], List.getElem?_eq_getElem hj, List.getElem?_eq_getElem hj, hb, dmB_self _⟩
    rw [this]
    rfl
theorem cl_bel (Ls : List (Nat × Nat)) (x : Nat × Nat) : cl Ls (bel Ls x) = bel Ls x := by
  apply cl_fix
  · intro j hj
    obtain ⟨y, h, _⟩ := (bel_bit Ls x j).1 hj
    exact ⟨y, h⟩
  · intro k z j y hb hk hj hd
    obtain ⟨z2, h1, h2⟩ := (bel_bit Ls x k).1 hb
    rw [hk] at h1
    cases h1
    exact (bel_bit Ls x j).2 ⟨y, hj, dmB_trans h2 hd⟩
theorem cl_or (Ls : List (Nat × Nat)) (x y : Nat) : cl Ls (x ||| y) = cl Ls x ||| cl Ls y := by
  apply Nat.eq_of_testBit_eq
  intro j
  rw [Nat.testBit_or, Bool.eq_iff_iff, Bool.or_eq_true, cl_bit, cl_bit, cl_bit]
  constructor
  · rintro ⟨k, a, b, h1, h2, h3, h4⟩
    rw [Nat.testBit_or, Bool.or_eq_true] at h3
    rcases h3 with h3 | h3
    · exact .inl ⟨k, a, b, h1, h2, h3, h4⟩
    · exact .inr ⟨k, a, b, h1, h2, h3, h4⟩
  · rintro (⟨k, a, b, h1, h2, h3, h4⟩ | ⟨k, a, b, h1, h2, h3, h4⟩)
    · exact ⟨k, a, b, h1, h2, by rw [Nat.testBit_or, h3]; simp, h4⟩
    · exact ⟨k, a, b, h1, h2, by rw [Nat.testBit_or, h3]; simp, h4⟩
theorem cl_or_bel (Ls : List (Nat × Nat)) (a b : Nat × Nat) : cl Ls (bel Ls a ||| bel Ls b) = bel Ls a ||| bel Ls b := by rw [cl_or, cl_bel, cl_bel]
theorem bel_meet (Ls : List (Nat × Nat)) (a b : Nat × Nat) : bel Ls (mnN a.1 b.1, anN a.2 b.2) = bel Ls a &&& bel Ls b := by
  apply Nat.eq_of_testBit_eq
  intro j
  rw [Nat.testBit_and, Bool.eq_iff_iff, Bool.and_eq_true, bel_bit, bel_bit, bel_bit]
  constructor
  · rintro ⟨y, h1, h2⟩
    rw [dmB_meet, Bool.and_eq_true] at h2
    exact ⟨⟨y, h1, h2.1⟩, ⟨y, h1, h2.2⟩⟩
  · rintro ⟨⟨y, h1, h2⟩, ⟨z, h3, h4⟩⟩
    rw [h1] at h3
    cases h3
    exact ⟨y, h1, by rw [dmB_meet, h2, h4]; rfl⟩
theorem cl_and_bel (Ls : List (Nat × Nat)) (a b : Nat × Nat) : cl Ls (bel Ls a &&& bel Ls b) = bel Ls a &&& bel Ls b := by rw [← bel_meet, cl_bel]
theorem bel_join (Ls : List (Nat × Nat)) (a b : Nat × Nat) : bel Ls (mxN a.1 b.1, orN a.2 b.2) &&& (bel Ls a ||| bel Ls b) = bel Ls a ||| bel Ls b := by
  apply Nat.eq_of_testBit_eq
  intro j
  rw [Nat.testBit_and]
  cases hb : (bel Ls a ||| bel Ls b).testBit j with
  | false => simp
  | true =>
    rw [Nat.testBit_or, Bool.or_eq_true] at hb
    have : (bel Ls (mxN a.1 b.1, orN a.2 b.2)).testBit j = true := by
      rw [bel_bit]
      rcases hb with hb | hb
      · obtain ⟨y, h1, h2⟩ := (bel_bit Ls a j).1 hb
        exact ⟨y, h1, dmB_join b h2⟩
      · obtain ⟨y, h1, h2⟩ := (bel_bit Ls b j).1 hb
        exact ⟨y, h1, dmB_join' a h2⟩
    rw [this]
    rfl
theorem cl_none {Ls : List (Nat × Nat)} {m : Nat} (h : ∀ k, k < Ls.length → m.testBit k = false) : cl Ls m = 0 := by
  apply Nat.eq_of_testBit_eq
  intro j
  rw [Nat.zero_testBit]
  cases hb : (cl Ls m).testBit j with
  | false => rfl
  | true =>
    obtain ⟨k, x, y, _, h2, h3, _⟩ := (cl_bit Ls m j).1 hb
    rw [h k (List.getElem?_eq_some_iff.1 h2).1] at h3
    cases h3
theorem cl_zero (Ls : List (Nat × Nat)) : cl Ls 0 = 0 := cl_none (fun k _ => Nat.zero_testBit k)
theorem cl_one {Ls : List (Nat × Nat)} {i : Nat} {x : Nat × Nat} (h : Ls[i]? = some x) : cl Ls (2 ^ i) = bel Ls x := by
  apply Nat.eq_of_testBit_eq
  intro j
  rw [Bool.eq_iff_iff, cl_bit, bel_bit]
  constructor
  · rintro ⟨k, a, b, h1, h2, h3, h4⟩
    have e : i = k := by simpa [Nat.testBit_two_pow] using h3
    subst e
    rw [h] at h2
    cases h2
    exact ⟨b, h1, h4⟩
  · rintro ⟨y, h1, h2⟩
    exact ⟨i, x, y, h1, h, by simp, h2⟩
theorem bel_self {Ls : List (Nat × Nat)} {i : Nat} {x : Nat × Nat} (h : Ls[i]? = some x) : (bel Ls x).testBit i = true := (bel_bit Ls x i).2 ⟨x, h, dmB_self x⟩
theorem bel_sub {Ls : List (Nat × Nat)} {n : Nat} {x y : Nat × Nat} (hn : Ls[n]? = some y) (h : (bel Ls x).testBit n = true) (j : Nat) (hj : (bel Ls y).testBit j = true) : (bel Ls x).testBit j = true := by
  obtain ⟨y2, h1, h2⟩ := (bel_bit Ls x n).1 h
  rw [hn] at h1
  cases h1
  obtain ⟨z, h3, h4⟩ := (bel_bit Ls y j).1 hj
  exact (bel_bit Ls x j).2 ⟨z, h3, dmB_trans h2 h4⟩
/-- all ones above the first N bits, of 32 -/
def nonN (N : Nat) : Nat := 4294967296 - 2 ^ N
theorem nonN_bit {N k : Nat} (hN : N ≤ 16) (hk : k < N) : (nonN N).testBit k = false := by
  have e : nonN N = 2 ^ N * (2 ^ (32 - N) - 1) := by
    unfold nonN
    rw [Nat.mul_sub, ← Nat.pow_add, show N + (32 - N) = 32 from by omega, Nat.mul_one]
  rw [e, Nat.testBit_two_pow_mul]
  simp
  omega
theorem nonN_lt {N : Nat} (hN : N ≤ 16) : nonN N < 4294967296 ∧ 0 < nonN N := by
  unfold nonN
  have h1 := Nat.two_pow_pos N
  have h2 : 2 ^ N ≤ 2 ^ 16 := Nat.pow_le_pow_right (by omega) hN
  omega
theorem chkG_zero : ∀ (xs pre : List (Nat × Nat)), chkG pre xs = 0 → ∀ p y q, xs = p ++ y :: q → y.1 ≤ 15 ∧ ∀ z ∈ pre ++ p, z ≠ y
  | [], pre, _, p, y, q, e => by simp at e
  | x :: xs, pre, h, p, y, q, e => by
    have h' : (if 15 < x.1 then (23 : Int) else if x ∈ pre then 5 else chkG (pre ++ [x]) xs) = 0 := h
    split at h'
    · cases h'
    split at h'
    · cases h'
    next h1 h2 =>
    cases p with
    | nil =>
      simp at e
      obtain ⟨rfl, rfl⟩ := e
      refine ⟨by omega, fun z hz e => h2 ?_⟩
      rw [List.append_nil] at hz
      exact e ▸ hz
    | cons p0 p =>
      simp at e
      obtain ⟨rfl, e⟩ := e
      have := chkG_zero xs (pre ++ [x]) h' p y q e
      refine ⟨this.1, fun z hz => this.2 z ?_⟩
      simpa using hz
theorem chkL_go {Ls : List (Nat × Nat)} (h : chkL Ls = 0) : chkG [] Ls = 0 := by
  unfold chkL at h
  split at h
  · cases h
  · exact h
theorem whr_at {Ls p q : List (Nat × Nat)} {y : Nat × Nat} {i : Nat} (h : chkL Ls = 0) (e : Ls = p ++ y :: q) (hp : p.length = i) : whr y Ls 0 = some i := by
  have h1 := (chkG_zero Ls [] (chkL_go h) p y q e).2
  rw [List.nil_append] at h1
  rw [e, whr_skip p _ 0 h1, Nat.zero_add, hp]
  simp [whr]
end Go.Proofs.YtpjcfelknkddfaaDoor
