/- Bits, turned round and told by their places; the number that the lowest bits are: in plain Lean, no program in sight. -/
import Derived.Test.YtdkkffmnpholdaaDoorFitAlive
namespace Go.Proofs.YtdkkffmnpholdaaDoor
open Go.RowKit

theorem mod64_mod (x m : Nat) (hm : m ≤ 64) : x % 18446744073709551616 % 2 ^ m = x % 2 ^ m := by
  rw [show (18446744073709551616 : Nat) = 2 ^ 64 from rfl]
  exact Nat.mod_mod_of_dvd x (Nat.pow_dvd_pow 2 hm)
theorem hld_nat (m : Nat) (hm : m ≤ 64) : hld (m : Int) = m := by unfold hld; omega
theorem lowB_nat (n m : Nat) (hm : m ≤ 64) : lowB n (m : Int) = n % 2 ^ m := by unfold lowB; rw [hld_nat m hm]
theorem mod_min (a m n : Nat) : a % 2 ^ m % 2 ^ n = a % 2 ^ min m n := by
  by_cases h : m ≤ n
  · rw [Nat.min_eq_left h, Nat.mod_eq_of_lt]
    exact Nat.lt_of_lt_of_le (Nat.mod_lt _ (Nat.two_pow_pos m)) (Nat.pow_le_pow_right (by decide) h)
  · rw [Nat.min_eq_right (by omega)]
    exact Nat.mod_mod_of_dvd a (Nat.pow_dvd_pow 2 (by omega))
theorem wrapU (v : Int) (x : Nat) (h : v = x) : IntKind.u64.wrap v = ((x % 18446744073709551616 : Nat) : Int) := by rw [h, IntKind.wrap_u64]; omega

/-- a bit of a number turned round -/
theorem rotl_bit (n k i : Nat) (hn : n < 18446744073709551616) (hk : k < 64) (hi : i < 64) : (rotl n k).testBit i = n.testBit (if i < k then 64 - k + i else i - k) := by
  have h := rotl_or n k hn hk
  rw [← h.1, Nat.testBit_or, show (18446744073709551616 : Nat) = 2 ^ 64 from rfl, Nat.testBit_mod_two_pow, Nat.testBit_div_two_pow, Nat.mul_comm n, Nat.testBit_two_pow_mul]
  by_cases hik : i < k
  · rw [if_pos hik]
    simp [hi, show ¬ k ≤ i by omega]
    rw [Nat.add_comm]
  · rw [if_neg hik]
    have hz : n.testBit (64 - k + i) = false := by
      apply Nat.testBit_lt_two_pow
      have hp : (18446744073709551616 : Nat) ≤ 2 ^ (64 - k + i) := by rw [show (18446744073709551616 : Nat) = 2 ^ 64 from rfl]; exact Nat.pow_le_pow_right (by decide) (by omega)
      exact Nat.lt_of_lt_of_le hn hp
    rw [Nat.add_comm i] at *
    simp [hi, show k ≤ i by omega, hz]
theorem eq_of_bits {a b : Nat} (ha : a < 18446744073709551616) (hb : b < 18446744073709551616) (h : ∀ i, i < 64 → a.testBit i = b.testBit i) : a = b := by
  apply Nat.eq_of_testBit_eq
  intro i
  by_cases hi : i < 64
  · exact h i hi
  · have hp : (18446744073709551616 : Nat) ≤ 2 ^ i := by rw [show (18446744073709551616 : Nat) = 2 ^ 64 from rfl]; exact Nat.pow_le_pow_right (by decide) (by omega)
    rw [Nat.testBit_lt_two_pow (Nat.lt_of_lt_of_le ha hp), Nat.testBit_lt_two_pow (Nat.lt_of_lt_of_le hb hp)]
theorem rotl_rotl (n a b : Nat) (hn : n < 18446744073709551616) (ha : a < 64) (hb : b < 64) : rotl (rotl n a) b = rotl n ((a + b) % 64) := by
  have h1 := rotl_lt n a hn ha
  refine eq_of_bits (rotl_lt _ _ h1 hb) (rotl_lt _ _ hn (Nat.mod_lt _ (by decide))) fun i hi => ?_
  rw [rotl_bit _ _ _ h1 hb hi, rotl_bit _ _ _ hn (Nat.mod_lt _ (by decide)) hi, rotl_bit _ _ _ hn ha (by split <;> omega)]
  congr 1
  split <;> split <;> split <;> omega
theorem rotl_zero (n : Nat) (hn : n < 18446744073709551616) : rotl n 0 = n := by
  unfold rotl
  rw [Nat.pow_zero, Nat.mul_one, Nat.mod_eq_of_lt hn, Nat.sub_zero, Nat.div_eq_of_lt (by omega), Nat.add_zero]
theorem rotl_xor (a b k : Nat) (ha : a < 18446744073709551616) (hb : b < 18446744073709551616) (hk : k < 64) : rotl (a ^^^ b) k = rotl a k ^^^ rotl b k := by
  have hx : a ^^^ b < 18446744073709551616 := Nat.xor_lt_two_pow (n := 64) ha hb
  refine eq_of_bits (rotl_lt _ _ hx hk) (Nat.xor_lt_two_pow (n := 64) (rotl_lt _ _ ha hk) (rotl_lt _ _ hb hk)) fun i hi => ?_
  rw [Nat.testBit_xor, rotl_bit _ _ _ hx hk hi, rotl_bit _ _ _ ha hk hi, rotl_bit _ _ _ hb hk hi, Nat.testBit_xor]
/-- how many bits are 1 -/
theorem plc_count (n : Nat) : (plc n).length = (List.range 64).countP fun i => n.testBit i := by
  unfold plc
  rw [List.length_map, List.countP_eq_length_filter]
theorem count_split (p : Nat → Bool) (a b : Nat) : (List.range (a + b)).countP p = (List.range a).countP p + (List.range b).countP fun i => p (a + i) := by
  rw [List.range_add, List.countP_append, List.countP_map]
  rfl
theorem count_congr {p q : Nat → Bool} {n : Nat} (h : ∀ i, i < n → p i = q i) : (List.range n).countP p = (List.range n).countP q :=
  List.countP_congr fun i hi => by rw [h i (List.mem_range.1 hi)]
theorem rotl_count (n k : Nat) (hn : n < 18446744073709551616) (hk : k < 64) : (plc (rotl n k)).length = (plc n).length := by
  rw [plc_count, plc_count]
  have e1 := count_split (fun i => (rotl n k).testBit i) k (64 - k)
  have e2 := count_split (fun i => n.testBit i) (64 - k) k
  rw [show k + (64 - k) = 64 from by omega] at e1
  rw [show 64 - k + k = 64 from by omega] at e2
  rw [e1, e2, Nat.add_comm]
  congr 1
  · refine count_congr fun i hi => ?_
    rw [rotl_bit _ _ _ hn hk (by omega), if_neg (by omega), show k + i - k = i from by omega]
  · refine count_congr fun i hi => ?_
    rw [rotl_bit _ _ _ hn hk (by omega), if_pos hi]
theorem count_and_or (p q : Nat → Bool) (l : List Nat) : l.countP (fun i => p i && q i) + l.countP (fun i => p i || q i) = l.countP p + l.countP q := by
  induction l with
  | nil => rfl
  | cons x l ih =>
    simp only [List.countP_cons]
    cases p x <;> cases q x <;> simp <;> omega
theorem plc_and_or (a b : Nat) : (plc (a &&& b)).length + (plc (a ||| b)).length = (plc a).length + (plc b).length := by
  simp only [plc_count, Nat.testBit_and, Nat.testBit_or]
  exact count_and_or _ _ _
theorem plc_mem (n : Nat) (i : Nat) : (i : Int) ∈ plc n ↔ i < 64 ∧ n.testBit i = true := by
  unfold plc
  simp only [List.mem_map, List.mem_filter, List.mem_range]
  constructor
  · rintro ⟨j, ⟨h1, h2⟩, h3⟩
    obtain rfl : j = i := by omega
    exact ⟨h1, h2⟩
  · rintro ⟨h1, h2⟩
    exact ⟨i, ⟨h1, h2⟩, rfl⟩
theorem ofB_bit (xs : List Int) (i : Nat) : (ofB xs).testBit i = decide (i < 64 ∧ (i : Int) ∈ xs) := by
  have H : ∀ ys : List Int, (ofB ys.reverse).testBit i = decide (i < 64 ∧ (i : Int) ∈ ys) := by
    intro ys
    induction ys with
    | nil => simp [ofB]
    | cons y ys ih =>
      rw [List.reverse_cons, ofB_snoc]
      by_cases hy : 0 ≤ y ∧ y < 64
      · rw [if_pos hy, Nat.testBit_or, ih, Nat.testBit_two_pow]
        rw [Bool.eq_iff_iff]
        simp only [Bool.or_eq_true, decide_eq_true_eq, List.mem_cons]
        constructor
        · rintro (⟨h1, h2⟩ | h)
          · exact ⟨h1, .inr h2⟩
          · exact ⟨by omega, .inl (by omega)⟩
        · rintro ⟨h1, h2 | h2⟩
          · exact .inr (by omega)
          · exact .inl ⟨h1, h2⟩
      · rw [if_neg hy, ih]
        rw [Bool.eq_iff_iff]
        simp only [decide_eq_true_eq, List.mem_cons]
        constructor
        · rintro ⟨h1, h2⟩
          exact ⟨h1, .inr h2⟩
        · rintro ⟨h1, h2 | h2⟩
          · omega
          · exact ⟨h1, h2⟩
  have := H xs.reverse
  rw [List.reverse_reverse] at this
  rw [this]
  simp
theorem ofB_plc (n : Nat) (hn : n < 18446744073709551616) : ofB (plc n) = n := by
  refine eq_of_bits (ofB_lt _) hn fun i hi => ?_
  rw [ofB_bit, Bool.eq_iff_iff, decide_eq_true_eq, plc_mem]
  exact ⟨fun h => h.2.2, fun h => ⟨hi, hi, h⟩⟩
theorem ofB_both (a b : Nat) (ha : a < 18446744073709551616) (hb : b < 18446744073709551616) : ofB (plc a ++ plc b) = a ||| b := by
  refine eq_of_bits (ofB_lt _) (Nat.or_lt_two_pow (n := 64) ha hb) fun i hi => ?_
  rw [ofB_bit, Bool.eq_iff_iff, decide_eq_true_eq, List.mem_append, plc_mem, plc_mem, Nat.testBit_or, Bool.or_eq_true]
  constructor
  · rintro ⟨_, h | h⟩
    · exact .inl h.2
    · exact .inr h.2
  · rintro (h | h)
    · exact ⟨hi, .inl ⟨hi, h⟩⟩
    · exact ⟨hi, .inr ⟨hi, h⟩⟩

/-- the number that the lowest bits are -/
theorem sgn_mod (n h : Nat) : sgn (n % 2 ^ h) h = sgn n h := by unfold sgn; rw [Nat.mod_mod]
theorem sgn_bounds (n m : Nat) (hm : 0 < m) : -((2 ^ (m - 1) : Nat) : Int) ≤ sgn n m ∧ sgn n m < ((2 ^ (m - 1) : Nat) : Int) := by
  have hp : 2 ^ m = 2 * 2 ^ (m - 1) := by rw [← Nat.pow_succ', show (m - 1).succ = m from by omega]
  have hl : n % 2 ^ m < 2 ^ m := Nat.mod_lt _ (Nat.two_pow_pos _)
  have e3 : ((2 : Int) ^ m) = ((2 ^ m : Nat) : Int) := by rw [Int.natCast_pow]; rfl
  unfold sgn
  rw [if_neg (by omega), e3]
  generalize n % 2 ^ m = r at *
  rw [hp] at hl ⊢
  generalize 2 ^ (m - 1) = q at *
  split <;> omega
/-- as a number without a sign, cut anew, it is the same lowest bits -/
theorem sgn_low (n m : Nat) (hm : m ≤ 64) : ∃ u : Nat, IntKind.u64.wrap (sgn n m) = (u : Int) ∧ u < 18446744073709551616 ∧ u % 2 ^ m = n % 2 ^ m := by
  refine ⟨(sgn n m % 18446744073709551616).toNat, ?_, by omega, ?_⟩
  · rw [IntKind.wrap_u64]
    omega
  · have e64 : 2 ^ m * 2 ^ (64 - m) = 18446744073709551616 := by rw [← Nat.pow_add, show m + (64 - m) = 64 from by omega]
    have hl : n % 2 ^ m < 2 ^ m := Nat.mod_lt _ (Nat.two_pow_pos _)
    have e3 : ((2 : Int) ^ m) = ((2 ^ m : Nat) : Int) := by rw [Int.natCast_pow]; rfl
    have hpm : 2 ^ m ≤ 18446744073709551616 := by rw [show (18446744073709551616 : Nat) = 2 ^ 64 from rfl]; exact Nat.pow_le_pow_right (by decide) hm
    have key : (((sgn n m % 18446744073709551616).toNat : Nat) : Int) = sgn n m % 18446744073709551616 := by omega
    have hmm : (((sgn n m % 18446744073709551616).toNat % 2 ^ m : Nat) : Int) = ((n % 2 ^ m : Nat) : Int) := by
      rw [Int.natCast_emod, key, Int.emod_emod_of_dvd _ ⟨((2 ^ (64 - m) : Nat) : Int), by rw [← Int.natCast_mul, e64]; rfl⟩]
      unfold sgn
      rw [e3]
      split
      · rename_i h0
        subst h0
        rw [Nat.pow_zero, Nat.mod_one]
        rfl
      · split
        · rw [Int.sub_emod_right]
          exact Int.emod_eq_of_lt (by omega) (by omega)
        · exact Int.emod_eq_of_lt (by omega) (by omega)
    exact Int.ofNat_inj.1 hmm
theorem sgn_zero (n : Nat) : sgn n 0 = 0 := rfl
theorem sgn_64 (n : Nat) (hn : n < 18446744073709551616) : sgn n 64 = wrap64 (n : Int) := by
  have h2 : n % 2 ^ 64 = n := Nat.mod_eq_of_lt hn
  unfold sgn
  rw [h2, if_neg (by decide)]
  unfold wrap64
  split <;> omega
end Go.Proofs.YtdkkffmnpholdaaDoor
