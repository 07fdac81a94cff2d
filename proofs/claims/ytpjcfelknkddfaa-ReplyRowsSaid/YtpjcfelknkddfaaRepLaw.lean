/- Replies, in plain Lean: a code, and numbers; their bytes. -/
import Derived.Test.YtpjcfelknkddfaaOctRInt
import Derived.Test.YtpjcfelknkddfaaBytLaw
namespace Go.Proofs.Ytpjcfelknkddfaa
open Go.RowKit

/-- numbers' bytes, one behind the other -/
def numB (ns : List Int) : List Int := ns.flatMap fun n => putB (toU n) 8
theorem numB_nil : numB [] = [] := rfl
theorem numB_snoc (ns : List Int) (n : Int) : numB (ns ++ [n]) = numB ns ++ putB (toU n) 8 := by simp [numB]
theorem numB_cons (n : Int) (ns : List Int) : numB (n :: ns) = putB (toU n) 8 ++ numB ns := rfl
theorem numB_app (xs ys : List Int) : numB (xs ++ ys) = numB xs ++ numB ys := by simp [numB]
@[simp] theorem numB_len (ns : List Int) : (numB ns).length = 8 * ns.length := by
  induction ns with
  | nil => rfl
  | cons n ns ih => rw [numB_cons, List.length_append, ih, putB_length, List.length_cons]; omega
theorem numB_isB (ns : List Int) : ∀ x ∈ numB ns, isB x := by
  induction ns with
  | nil => simp [numB]
  | cons n ns ih =>
    intro x hx
    rw [numB_cons] at hx
    exact (List.mem_append.1 hx).elim (putB_isB _ _ x) (ih x)
/-- a reply's bytes -/
def repB (c : Int) (ns : List Int) : List Int := c :: (ns.length : Int) :: numB ns
@[simp] theorem repB_len (c : Int) (ns : List Int) : (repB c ns).length = 2 + 8 * ns.length := by simp [repB]; omega
theorem repB_isB {c : Int} {ns : List Int} (hc : 0 ≤ c ∧ c ≤ 255) (hn : ns.length ≤ 120) : ∀ x ∈ repB c ns, isB x := by
  intro x hx
  rcases List.mem_cons.1 hx with rfl | hx
  · unfold isB; omega
  · rcases List.mem_cons.1 hx with rfl | hx
    · unfold isB; omega
    · exact numB_isB ns x hx
/-- what writing comes to: the error -/
def wErr (c : Int) (n : Nat) : Int := if 0 ≤ c ∧ c ≤ 255 then if 120 < n then 3 else 0 else 23
def wOut (c : Int) (ns : List Int) : List Int := if wErr c ns.length = 0 then repB c ns else []
theorem wErr_ok {c : Int} {n : Nat} (h : wErr c n = 0) : (0 ≤ c ∧ c ≤ 255) ∧ n ≤ 120 := by
  unfold wErr at h
  split at h
  · split at h
    · cases h
    · exact ⟨by assumption, by omega⟩
  · cases h
/-- so many numbers that bytes begin with -/
def nums : Nat → List Int → List Int
  | 0, _ => []
  | k + 1, xs => sgn (getN (xs.take 8)) 64 :: nums k (xs.drop 8)
@[simp] theorem nums_len (k : Nat) (xs : List Int) : (nums k xs).length = k := by
  induction k generalizing xs with
  | zero => rfl
  | succ k ih => simp [nums, ih]
theorem nums_snoc (k : Nat) (xs : List Int) : nums (k + 1) xs = nums k xs ++ [sgn (getN ((xs.drop (8 * k)).take 8)) 64] := by
  induction k generalizing xs with
  | zero => rfl
  | succ k ih =>
    rw [nums, ih, nums, List.cons_append, List.drop_drop]
    rw [show 8 + 8 * k = 8 * (k + 1) from by omega]
theorem nums_numB (ns : List Int) (h : ∀ n ∈ ns, -9223372036854775808 ≤ n ∧ n ≤ 9223372036854775807) : nums ns.length (numB ns) = ns := by
  induction ns with
  | nil => rfl
  | cons n ns ih =>
    have h0 := h n (by simp)
    have e := sgn_back n 8 (by omega) (by omega)
    rw [List.length_cons, nums, numB_cons, List.take_left' (putB_length _ _), List.drop_left' (putB_length _ _), ih (fun x hx => h x (by simp [hx])), getN_putB]
    simp only [Nat.reduceMul] at e
    rw [e]
theorem numB_nums (k : Nat) (xs : List Int) (hb : ∀ x ∈ xs, isB x) (hl : xs.length = 8 * k) : numB (nums k xs) = xs := by
  induction k generalizing xs with
  | zero => rw [show xs = [] from List.eq_nil_of_length_eq_zero (by omega)]; rfl
  | succ k ih =>
    have h8 : (xs.take 8).length = 8 := by simp; omega
    have hb8 : ∀ x ∈ xs.take 8, isB x := fun x hx => hb x (List.mem_of_mem_take hx)
    have hlt := getN_lt hb8
    rw [h8] at hlt
    rw [nums, numB_cons, ih (xs.drop 8) (fun x hx => hb x (List.mem_of_mem_drop hx)) (by simp; omega)]
    have e1 := sgn_u (getN (xs.take 8)) 8 (by omega) hlt
    have e2 := put_getN _ hb8
    rw [h8] at e2
    rw [← putB_mod, show (64 : Nat) = 8 * 8 from rfl, e1, e2, List.take_append_drop]
theorem sgn_wf (m : Nat) (h : m < 2 ^ 64) : -9223372036854775808 ≤ sgn m 64 ∧ sgn m 64 ≤ 9223372036854775807 := by
  unfold sgn
  rw [if_neg (by omega), Nat.mod_eq_of_lt h]
  have e : (2 : Int) ^ 64 = 18446744073709551616 := rfl
  have e2 : 2 ^ (64 - 1) = 9223372036854775808 := rfl
  rw [e, e2]
  have e3 : (2 : Nat) ^ 64 = 18446744073709551616 := rfl
  split <;> omega
theorem nums_wf (k : Nat) (xs : List Int) (hb : ∀ x ∈ xs, isB x) : ∀ n ∈ nums k xs, -9223372036854775808 ≤ n ∧ n ≤ 9223372036854775807 := by
  induction k generalizing xs with
  | zero => simp [nums]
  | succ k ih =>
    intro n hn
    rcases List.mem_cons.1 hn with rfl | hn
    · refine sgn_wf _ ?_
      have h1 := getN_lt (xs := xs.take 8) (fun x hx => hb x (List.mem_of_mem_take hx))
      have h2 : 256 ^ (xs.take 8).length ≤ 256 ^ 8 := Nat.pow_le_pow_right (by decide) (by simp; omega)
      have h3 : (256 : Nat) ^ 8 = 2 ^ 64 := by decide
      omega
    · exact ih _ (fun x hx => hb x (List.mem_of_mem_drop hx)) n hn
/-- what reading comes to -/
def rErr (b : List Int) : Int :=
  if b.length < 2 then 20 else if 120 < (b[1]?.getD 0 : Int) then 3 else if (b.length : Int) < 2 + 8 * (b[1]?.getD 0 : Int) then 20 else if 2 + 8 * (b[1]?.getD 0 : Int) < (b.length : Int) then 22 else 0
def rCode (b : List Int) : Int := if rErr b = 0 then b[0]?.getD 0 else 0
def rNums (b : List Int) : List Int := if rErr b = 0 then nums (b[1]?.getD 0).toNat (b.drop 2) else []
theorem rErr_repB {c : Int} {ns : List Int} (hn : ns.length ≤ 120) : rErr (repB c ns) = 0 := by
  have e : (repB c ns)[1]?.getD 0 = (ns.length : Int) := rfl
  unfold rErr
  rw [e, repB_len, if_neg (by omega), if_neg (by omega), if_neg (by omega), if_neg (by omega)]
theorem rCode_repB {c : Int} {ns : List Int} (hn : ns.length ≤ 120) : rCode (repB c ns) = c := by
  unfold rCode
  rw [rErr_repB hn, if_pos rfl]
  rfl
theorem rNums_repB {c : Int} {ns : List Int} (hn : ns.length ≤ 120) (h : ∀ n ∈ ns, -9223372036854775808 ≤ n ∧ n ≤ 9223372036854775807) : rNums (repB c ns) = ns := by
  have e : (repB c ns)[1]?.getD 0 = (ns.length : Int) := rfl
  unfold rNums
  rw [rErr_repB hn, if_pos rfl, e, Int.toNat_natCast]
  exact nums_numB ns h
theorem rErr_ok {b : List Int} (hb : ∀ x ∈ b, isB x) (h : rErr b = 0) : ∃ (c : Int) (n : Nat) (xs : List Int), b = c :: (n : Int) :: xs ∧ n ≤ 120 ∧ xs.length = 8 * n ∧ rCode b = c ∧ rNums b = nums n xs ∧ 0 ≤ c ∧ c ≤ 255 := by
  have h0 := h
  unfold rErr at h
  match b, hb, h, h0 with
  | [], _, h, _ => simp at h
  | [x], _, h, _ => simp at h
  | c :: n :: xs, hb, h, h0 =>
    have hc := hb c (by simp)
    have hn := hb n (by simp)
    unfold isB at hc hn
    simp only [List.length_cons, List.getElem?_cons_succ, List.getElem?_cons_zero, Option.getD_some] at h
    rw [if_neg (by omega)] at h
    split at h
    · cases h
    split at h
    · cases h
    split at h
    · cases h
    refine ⟨c, n.toNat, xs, by rw [Int.toNat_of_nonneg hn.1], by omega, by omega, ?_, ?_, by omega, by omega⟩
    · unfold rCode; rw [h0, if_pos rfl]; rfl
    · unfold rNums; rw [h0, if_pos rfl]; rfl
/-- what is read, and written, is these bytes again -/
theorem rep_again {b : List Int} (hb : ∀ x ∈ b, isB x) (h : rErr b = 0) : wErr (rCode b) (rNums b).length = 0 ∧ wOut (rCode b) (rNums b) = b := by
  obtain ⟨c, n, xs, rfl, hn, hl, h1, h2, h3, h4⟩ := rErr_ok hb h
  have hw : wErr (rCode (c :: (n : Int) :: xs)) (rNums (c :: (n : Int) :: xs)).length = 0 := by
    rw [h1, h2, nums_len]
    unfold wErr
    rw [if_pos ⟨h3, h4⟩, if_neg (by omega)]
  refine ⟨hw, ?_⟩
  unfold wOut
  rw [if_pos hw, h1, h2]
  unfold repB
  rw [nums_len, numB_nums n xs (fun x hx => hb x (by simp [hx])) hl]
theorem rNums_wf {b : List Int} (hb : ∀ x ∈ b, isB x) : ∀ n ∈ rNums b, -9223372036854775808 ≤ n ∧ n ≤ 9223372036854775807 := by
  unfold rNums
  split
  · exact nums_wf _ _ (fun x hx => hb x (List.mem_of_mem_drop hx))
  · simp
end Go.Proofs.Ytpjcfelknkddfaa
