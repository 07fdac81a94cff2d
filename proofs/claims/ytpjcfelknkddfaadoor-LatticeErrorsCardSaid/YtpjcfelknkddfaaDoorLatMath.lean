/- Masks of labels, in plain Lean: what is below a label, what a mask is closed to. -/
import Derived.Test.YtpjcfelknkddfaaDoorLabRef
namespace Go.Proofs.YtpjcfelknkddfaaDoor
open Go.RowKit

/-- the number whose bits are these -/
def msk : List Bool → Nat
  | [] => 0
  | b :: bs => b.toNat + 2 * msk bs
theorem msk_bit : ∀ (bs : List Bool) (i : Nat), (msk bs).testBit i = (bs[i]?).getD false
  | [], i => by simp [msk]
  | b :: bs, 0 => by
    rw [Nat.testBit_zero]
    cases b <;> simp [msk, Bool.toNat] <;> omega
  | b :: bs, i + 1 => by
    rw [Nat.testBit_succ, List.getElem?_cons_succ, ← msk_bit bs i]
    congr 1
    cases b <;> simp [msk, Bool.toNat] <;> omega
theorem msk_lt : ∀ bs : List Bool, msk bs < 2 ^ bs.length
  | [] => by simp [msk]
  | b :: bs => by
    have := msk_lt bs
    rw [List.length_cons, Nat.pow_succ]
    cases b <;> simp [msk, Bool.toNat] <;> omega
theorem msk_false : ∀ bs : List Bool, msk (bs ++ [false]) = msk bs
  | [] => by simp [msk]
  | b :: bs => by
    show b.toNat + 2 * msk (bs ++ [false]) = b.toNat + 2 * msk bs
    rw [msk_false bs]
theorem msk_true : ∀ bs : List Bool, msk (bs ++ [true]) = msk bs + 2 ^ bs.length
  | [] => by simp [msk]
  | b :: bs => by
    show b.toNat + 2 * msk (bs ++ [true]) = b.toNat + 2 * msk bs + 2 ^ (bs.length + 1)
    rw [msk_true bs, Nat.pow_succ]
    omega
theorem msk_or (bs : List Bool) : msk bs ||| 2 ^ bs.length = msk (bs ++ [true]) := by
  apply Nat.eq_of_testBit_eq
  intro i
  rw [Nat.testBit_or, msk_bit, msk_bit, Nat.testBit_two_pow, List.getElem?_append]
  by_cases h : i < bs.length
  · rw [if_pos h]
    simp [show ¬ bs.length = i from by omega]
  · rw [if_neg h, List.getElem?_eq_none (by omega)]
    by_cases e : bs.length = i
    · subst e
      simp
    · simp [e, show i - bs.length ≠ 0 from by omega]

/-- does x dominate y? -/
def dmB (x y : Nat × Nat) : Bool := domB x.1 x.2 y.1 y.2
/-- those of the labels that x dominates -/
def bel (Ls : List (Nat × Nat)) (x : Nat × Nat) : Nat := msk (Ls.map (dmB x))
/-- those that are dominated by one of a mask -/
def cl (Ls : List (Nat × Nat)) (m : Nat) : Nat := msk (Ls.map fun y => (List.range Ls.length).any fun k => m.testBit k && ((Ls[k]?).map fun x => dmB x y).getD false)

theorem bel_bit (Ls : List (Nat × Nat)) (x : Nat × Nat) (j : Nat) : (bel Ls x).testBit j = true ↔ ∃ y, Ls[j]? = some y ∧ dmB x y = true := by
  unfold bel
  rw [msk_bit, List.getElem?_map]
  cases h : Ls[j]? <;> simp
theorem cl_bit (Ls : List (Nat × Nat)) (m j : Nat) : (cl Ls m).testBit j = true ↔ ∃ k x y, Ls[j]? = some y ∧ Ls[k]? = some x ∧ m.testBit k = true ∧ dmB x y = true := by
  unfold cl
  rw [msk_bit, List.getElem?_map]
  cases h : Ls[j]? with
  | none => simp
  | some y =>
    simp only [Option.map_some, Option.getD_some, List.any_eq_true, List.mem_range, Bool.and_eq_true]
    constructor
    · rintro ⟨k, hk, h1, h2⟩
      rw [List.getElem?_eq_getElem hk] at h2
      exact ⟨k, Ls[k], y, rfl, List.getElem?_eq_getElem hk, h1, by simpa using h2⟩
    · rintro ⟨k, x, y', e, hk, h1, h2⟩
      cases e
      obtain ⟨hl, _⟩ := List.getElem?_eq_some_iff.1 hk
      exact ⟨k, hl, h1, by rw [hk]; simpa using h2⟩
theorem bel_lt (Ls : List (Nat × Nat)) (x : Nat × Nat) : bel Ls x < 2 ^ Ls.length := by have := msk_lt (Ls.map (dmB x)); rwa [List.length_map] at this
theorem cl_lt (Ls : List (Nat × Nat)) (m : Nat) : cl Ls m < 2 ^ Ls.length := by
  have := msk_lt (Ls.map fun y => (List.range Ls.length).any fun k => m.testBit k && ((Ls[k]?).map fun x => dmB x y).getD false)
  rwa [List.length_map] at this

/-- all of them together -/
def orA (f : Int → Nat) (l : List Int) : Nat := l.foldl (fun o i => o ||| f i) 0
theorem orA_snoc (f : Int → Nat) (l : List Int) (x : Int) : orA f (l ++ [x]) = orA f l ||| f x := by unfold orA; rw [List.foldl_append]; rfl
theorem orA_go (f : Int → Nat) (j : Nat) : ∀ (l : List Int) (o : Nat), (l.foldl (fun o i => o ||| f i) o).testBit j = (o.testBit j || l.any fun i => (f i).testBit j)
  | [], o => by simp
  | x :: l, o => by
    rw [List.foldl_cons, orA_go f j l, Nat.testBit_or, List.any_cons, Bool.or_assoc]
theorem orA_bit (f : Int → Nat) (l : List Int) (j : Nat) : (orA f l).testBit j = l.any fun i => (f i).testBit j := by
  unfold orA
  rw [orA_go]
  simp
theorem orA_lt (f : Int → Nat) (b : Nat) : ∀ (l : List Int), (∀ i ∈ l, f i < 2 ^ b) → orA f l < 2 ^ b := by
  suffices h : ∀ (l : List Int) (o : Nat), o < 2 ^ b → (∀ i ∈ l, f i < 2 ^ b) → l.foldl (fun o i => o ||| f i) o < 2 ^ b from fun l hl => h l 0 (Nat.two_pow_pos b) hl
  intro l
  induction l with
  | nil => intro o h _; exact h
  | cons x l ih => intro o h hl; exact ih _ (Nat.or_lt_two_pow h (hl x (by simp))) (fun i hi => hl i (by simp [hi]))
/-- the down-set of the label with a number -/
def dwn (Ls : List (Nat × Nat)) (i : Int) : Nat := ((Ls[i.toNat]?).map (bel Ls)).getD 0
theorem dwn_lt (Ls : List (Nat × Nat)) (i : Int) : dwn Ls i < 2 ^ Ls.length := by
  unfold dwn
  cases Ls[i.toNat]? with
  | none => simpa using Nat.two_pow_pos Ls.length
  | some x => exact bel_lt Ls x

theorem dmB_self (x : Nat × Nat) : dmB x x = true := by simp [dmB, domB]
theorem or_sub (c d : Nat) : (c ||| d = c) ↔ ∀ j, d.testBit j = true → c.testBit j = true := by
  constructor
  · intro h j hj
    have := congrArg (·.testBit j) h
    simp only [Nat.testBit_or, hj, Bool.or_true] at this
    exact this.symm
  · intro h
    apply Nat.eq_of_testBit_eq
    intro j
    rw [Nat.testBit_or]
    cases hc : c.testBit j with
    | true => simp
    | false =>
      cases hd : d.testBit j with
      | true => exact absurd (h j hd) (by rw [hc]; simp)
      | false => rfl
theorem dmB_iff (x y : Nat × Nat) : dmB x y = true ↔ y.1 ≤ x.1 ∧ ∀ j, y.2.testBit j = true → x.2.testBit j = true := by
  unfold dmB domB
  rw [Bool.and_eq_true, decide_eq_true_iff, decide_eq_true_iff, or_sub]
theorem dmB_trans {x y z : Nat × Nat} (h1 : dmB x y = true) (h2 : dmB y z = true) : dmB x z = true := by
  rw [dmB_iff] at h1 h2 ⊢
  exact ⟨Nat.le_trans h2.1 h1.1, fun j hj => h1.2 j (h2.2 j hj)⟩
theorem dmB_meet (x y z : Nat × Nat) : dmB (mnN x.1 y.1, anN x.2 y.2) z = (dmB x z && dmB y z) := by
  rw [Bool.eq_iff_iff, Bool.and_eq_true, dmB_iff, dmB_iff, dmB_iff]
  simp only [mnN, anN, Nat.testBit_and, Bool.and_eq_true]
  constructor
  · rintro ⟨h1, h2⟩
    exact ⟨⟨by omega, fun j hj => (h2 j hj).1⟩, by omega, fun j hj => (h2 j hj).2⟩
  · rintro ⟨⟨h1, h2⟩, h3, h4⟩
    exact ⟨by omega, fun j hj => ⟨h2 j hj, h4 j hj⟩⟩
theorem dmB_join {x z : Nat × Nat} (y : Nat × Nat) (h : dmB x z = true) : dmB (mxN x.1 y.1, orN x.2 y.2) z = true := by
  rw [dmB_iff] at h ⊢
  simp only [mxN, orN, Nat.testBit_or, Bool.or_eq_true]
  exact ⟨by omega, fun j hj => .inl (h.2 j hj)⟩
theorem dmB_join' {y z : Nat × Nat} (x : Nat × Nat) (h : dmB y z = true) : dmB (mxN x.1 y.1, orN x.2 y.2) z = true := by
  rw [dmB_iff] at h ⊢
  simp only [mxN, orN, Nat.testBit_or, Bool.or_eq_true]
  exact ⟨by omega, fun j hj => .inr (h.2 j hj)⟩
end Go.Proofs.YtpjcfelknkddfaaDoor
