/- entry: entries as values, their bytes, and how they read in memory. No walk. -/
import Derived.Test.YtflpelacjdnplaaOctRInt
import Derived.Test.YtflpelacjdnplaaRead
namespace Go.Proofs.Ytflpelacjdnplaa
open Go.RowKit

/-- an entry -/
structure Ent where
  t : Int
  arg : Int
  tenant : Int
  person : Int
  kind : Int
  code : Int
deriving DecidableEq
def Ent.enc (x : Ent) : List Value := [.int .i64 x.t, .int .i64 x.arg, .int .i64 x.tenant, .int .i64 x.person, .int .i64 x.kind, .int .i64 x.code]
def Ent.val (x : Ent) : Value := .agg #[.int .i64 x.t, .int .i64 x.arg, .int .i64 x.tenant, .int .i64 x.person, .int .i64 x.kind, .int .i64 x.code]
def Ent.zero : Ent := ⟨0, 0, 0, 0, 0, 0⟩
def flatE (l : List Ent) : List Value := l.flatMap Ent.enc
theorem flatE_len (l : List Ent) : (flatE l).length = l.length * 6 := by
  induction l with
  | nil => rfl
  | cons a l ih => unfold flatE at *; rw [List.flatMap_cons, List.length_append, ih]; simp [Ent.enc]; omega
theorem flatE_app (l k : List Ent) : flatE (l ++ k) = flatE l ++ flatE k := by simp [flatE]
theorem flatE_cons (a : Ent) (l : List Ent) : flatE (a :: l) = a.enc ++ flatE l := by simp [flatE]
theorem flatE_snoc (l : List Ent) (a : Ent) : flatE (l ++ [a]) = flatE l ++ a.enc := by simp [flatE]
theorem flatE_at (pre post : List Ent) (a : Ent) (j : Nat) (hj : j < 6) : (flatE (pre ++ a :: post))[pre.length * 6 + j]? = a.enc[j]? := by
  rw [flatE_app, flatE_cons, List.getElem?_append_right (by rw [flatE_len]; omega), flatE_len, show pre.length * 6 + j - pre.length * 6 = j from by omega, List.getElem?_append_left (by simp [Ent.enc]; omega)]
theorem enc_one (x : Ent) : ∀ u ∈ x.enc, u.oneCell' = true := by intro u hu; simp [Ent.enc] at hu; rcases hu with rfl | rfl | rfl | rfl | rfl | rfl <;> rfl

/-- may an entry be? -/
def okE (x : Ent) : Bool := (((((decide (0 ≤ x.t) && decide (x.t ≤ 1125899906842624)) && (decide (-1 ≤ x.tenant) && decide (x.tenant ≤ 15))) && (decide (-1 ≤ x.person) && decide (x.person ≤ 63))) && decide (0 ≤ x.kind ∧ x.kind ≤ 255)) && decide (0 ≤ x.code ∧ x.code ≤ 255))
def errE (x : Ent) : Int := if okE x then 0 else 23
/-- an entry's bytes -/
def encB (x : Ent) : List Int := putB (toU x.t) 8 ++ (putB (toU x.tenant) 1 ++ (putB (toU x.person) 1 ++ (putB (toU x.kind) 1 ++ (putB (toU x.code) 1 ++ putB (toU x.arg) 8))))
theorem encB_length (x : Ent) : (encB x).length = 20 := by simp [encB]
theorem encB_isB (x : Ent) : ∀ b ∈ encB x, isB b := by
  intro b hb
  simp only [encB, List.mem_append] at hb
  rcases hb with h | h | h | h | h | h <;> exact putB_isB _ _ b h
/-- the entry that 20 bytes are -/
def decB (b : List Int) : Ent :=
  ⟨sgn (getN (b.take 8)) 64, sgn (getN ((b.drop 12).take 8)) 64, sgn (getN ((b.drop 8).take 1)) 8, sgn (getN ((b.drop 9).take 1)) 8, (getN ((b.drop 10).take 1) : Nat), (getN ((b.drop 11).take 1) : Nat)⟩
/-- what reading bytes comes to -/
def readE (b : List Int) : Ent × Int := if b.length < 20 then (.zero, 20) else if 20 < b.length then (.zero, 22) else if okE (decB b) then (decB b, 0) else (.zero, 23)
/-- the entries that stand one behind the other, up to so many bytes of them -/
def batE : Nat → List Int → List Ent
  | 0, _ => []
  | n + 1, b => if 20 ≤ b.length then if (readE (b.take 20)).2 = 0 then (readE (b.take 20)).1 :: batE n (b.drop 20) else [] else []

theorem putB_snoc (n s : Nat) : putB n (s + 1) = putB (n / 256) s ++ [((n % 256 : Nat) : Int)] := by
  induction s with
  | zero => simp [putB]
  | succ s ih =>
    rw [putB, ih, putB]
    simp only [List.cons_append, Nat.pow_succ, Nat.div_div_eq_div_mul]
    rw [Nat.mul_comm (256 ^ s)]
theorem getN_putB (n s : Nat) : getN (putB n s) = n % 256 ^ s := by
  induction s generalizing n with
  | zero => simp [putB, getN, Nat.mod_one]
  | succ s ih =>
    rw [putB_snoc, getN_snoc, ih]
    rw [Int.toNat_natCast, Nat.pow_succ, Nat.mul_comm (256 ^ s), Nat.mod_mul]
    omega
theorem put_getN (xs : List Int) (h : ∀ x ∈ xs, isB x) : putB (getN xs) xs.length = xs := by
  have H : ∀ ys : List Int, (∀ x ∈ ys, isB x) → putB (getN ys.reverse) ys.length = ys.reverse := by
    intro ys
    induction ys with
    | nil => intro _; rfl
    | cons y ys ih =>
      intro hy
      have h0 := hy y (by simp)
      unfold isB at h0
      rw [List.reverse_cons, getN_snoc, List.length_cons, putB_snoc]
      rw [show (256 * getN ys.reverse + y.toNat) / 256 = getN ys.reverse from by omega, show (256 * getN ys.reverse + y.toNat) % 256 = y.toNat from by omega, ih (fun x hx => hy x (List.mem_cons_of_mem _ hx)), Int.toNat_of_nonneg h0.1]
  have := H xs.reverse (fun x hx => h x (by simpa using hx))
  simpa using this
/-- a number of so many bytes that fits comes back -/
theorem sgn_back (n : Int) (s : Nat) (hs : 1 ≤ s ∧ s ≤ 8) (h : -(2 ^ (8 * s - 1) : Int) ≤ n ∧ n < 2 ^ (8 * s - 1)) : sgn (toU n % 256 ^ s) (8 * s) = n := by
  have e1 : (256 : Nat) ^ s = 2 ^ (8 * s) := by rw [Nat.pow_mul]
  have hp : 2 ^ (8 * s) = 2 * 2 ^ (8 * s - 1) := by rw [← Nat.pow_succ', show (8 * s - 1).succ = 8 * s from by omega]
  have e64 : 2 ^ (8 * s) * 2 ^ (64 - 8 * s) = 18446744073709551616 := by rw [← Nat.pow_add, show 8 * s + (64 - 8 * s) = 64 from by omega]
  have e2 : ((2 : Int) ^ (8 * s)) = ((2 ^ (8 * s) : Nat) : Int) := by rw [Int.natCast_pow]; rfl
  have e3 : ((2 : Int) ^ (8 * s - 1)) = ((2 ^ (8 * s - 1) : Nat) : Int) := by rw [Int.natCast_pow]; rfl
  rw [e3] at h
  have key : ((toU n % 256 ^ s : Nat) : Int) = n % ((2 ^ (8 * s) : Nat) : Int) := by
    rw [e1, Int.natCast_emod]
    unfold toU
    rw [Int.toNat_of_nonneg (Int.emod_nonneg _ (by decide))]
    exact Int.emod_emod_of_dvd _ ⟨((2 ^ (64 - 8 * s) : Nat) : Int), by rw [← Int.natCast_mul, e64]; rfl⟩
  unfold sgn
  rw [if_neg (by omega), e1, Nat.mod_mod, ← e1, e2]
  have hm : toU n % 256 ^ s < 2 ^ (8 * s) := by rw [e1]; exact Nat.mod_lt _ (Nat.two_pow_pos _)
  generalize toU n % 256 ^ s = m at *
  rw [hp] at key hm ⊢
  generalize 2 ^ (8 * s - 1) = q at *
  by_cases hn : 0 ≤ n
  · rw [Int.emod_eq_of_lt hn (by omega)] at key
    rw [if_neg (by omega)]
    omega
  · have : n % ((2 * q : Nat) : Int) = n + ((2 * q : Nat) : Int) := by
      rw [← Int.add_emod_right]
      exact Int.emod_eq_of_lt (by omega) (by omega)
    rw [this] at key
    rw [if_pos (by omega)]
    omega
theorem take_at {α : Type} (a b c : List α) (n : Nat) (h : b.length = n) : (((a ++ (b ++ c)).drop a.length).take n) = b := by
  rw [List.drop_left, ← h, List.take_left']
  rfl
theorem decB_encB (x : Ent) (h1 : -9223372036854775808 ≤ x.t ∧ x.t < 9223372036854775808) (h2 : -9223372036854775808 ≤ x.arg ∧ x.arg < 9223372036854775808) (ho : okE x = true) : decB (encB x) = x := by
  simp only [okE, Bool.and_eq_true, decide_eq_true_eq] at ho
  obtain ⟨⟨⟨⟨⟨a1, a2⟩, b1, b2⟩, c1, c2⟩, d1, d2⟩, e1, e2⟩ := ho
  have l0 : (encB x).take 8 = putB (toU x.t) 8 := by unfold encB; exact List.take_left' (putB_length _ _)
  have l1 : ((encB x).drop 8).take 1 = putB (toU x.tenant) 1 := by
    unfold encB
    rw [List.drop_left' (putB_length _ _), List.take_left' (putB_length _ _)]
  have d9 : ∀ (a b : List Int), a.length = 8 → ∀ k, (a ++ b).drop (8 + k) = b.drop k := fun a b ha k => by rw [← ha, List.drop_append, List.drop_eq_nil_of_le (by omega), Nat.add_sub_cancel_left, List.nil_append]
  have d1' : ∀ (a b : List Int), a.length = 1 → ∀ k, (a ++ b).drop (1 + k) = b.drop k := fun a b ha k => by rw [← ha, List.drop_append, List.drop_eq_nil_of_le (by omega), Nat.add_sub_cancel_left, List.nil_append]
  have l2 : ((encB x).drop 9).take 1 = putB (toU x.person) 1 := by
    unfold encB
    rw [show 9 = 8 + (1 + 0) from rfl, d9 _ _ (putB_length _ _), d1' _ _ (putB_length _ _), List.drop_zero, List.take_left' (putB_length _ _)]
  have l3 : ((encB x).drop 10).take 1 = putB (toU x.kind) 1 := by
    unfold encB
    rw [show 10 = 8 + (1 + (1 + 0)) from rfl, d9 _ _ (putB_length _ _), d1' _ _ (putB_length _ _), d1' _ _ (putB_length _ _), List.drop_zero, List.take_left' (putB_length _ _)]
  have l4 : ((encB x).drop 11).take 1 = putB (toU x.code) 1 := by
    unfold encB
    rw [show 11 = 8 + (1 + (1 + (1 + 0))) from rfl, d9 _ _ (putB_length _ _), d1' _ _ (putB_length _ _), d1' _ _ (putB_length _ _), d1' _ _ (putB_length _ _), List.drop_zero, List.take_left' (putB_length _ _)]
  have l5 : ((encB x).drop 12).take 8 = putB (toU x.arg) 8 := by
    unfold encB
    rw [show 12 = 8 + (1 + (1 + (1 + (1 + 0)))) from rfl, d9 _ _ (putB_length _ _), d1' _ _ (putB_length _ _), d1' _ _ (putB_length _ _), d1' _ _ (putB_length _ _), d1' _ _ (putB_length _ _), List.drop_zero, List.take_of_length_le (by simp)]
  unfold decB
  rw [l0, l1, l2, l3, l4, l5]
  simp only [getN_putB]
  have s0 := sgn_back x.t 8 (by omega) (by omega)
  have s1 := sgn_back x.tenant 1 (by omega) (by omega)
  have s2 := sgn_back x.person 1 (by omega) (by omega)
  have s5 := sgn_back x.arg 8 (by omega) (by omega)
  simp only [Nat.reduceMul] at s0 s1 s2 s5
  rw [s0, s1, s2, s5]
  have k3 : ((toU x.kind % 256 ^ 1 : Nat) : Int) = x.kind := by unfold toU; omega
  have k4 : ((toU x.code % 256 ^ 1 : Nat) : Int) = x.code := by unfold toU; omega
  rw [k3, k4]
theorem readE_encB (x : Ent) (h1 : -9223372036854775808 ≤ x.t ∧ x.t < 9223372036854775808) (h2 : -9223372036854775808 ≤ x.arg ∧ x.arg < 9223372036854775808) (ho : okE x = true) : readE (encB x) = (x, 0) := by
  unfold readE
  rw [encB_length, if_neg (by omega), if_neg (by omega), decB_encB x h1 h2 ho, if_pos ho]
theorem sgn_u (m s : Nat) (hs : 1 ≤ s ∧ s ≤ 8) (hm : m < 256 ^ s) : toU (sgn m (8 * s)) % 256 ^ s = m := by
  have e1 : (256 : Nat) ^ s = 2 ^ (8 * s) := by rw [Nat.pow_mul]
  have e64 : 2 ^ (8 * s) * 2 ^ (64 - 8 * s) = 18446744073709551616 := by rw [← Nat.pow_add, show 8 * s + (64 - 8 * s) = 64 from by omega]
  have e2 : ((2 : Int) ^ (8 * s)) = ((2 ^ (8 * s) : Nat) : Int) := by rw [Int.natCast_pow]; rfl
  have key : ((toU (sgn m (8 * s)) % 256 ^ s : Nat) : Int) = (m : Int) := by
    rw [Int.natCast_emod]
    unfold toU
    rw [Int.toNat_of_nonneg (Int.emod_nonneg _ (by decide)), e1, Int.emod_emod_of_dvd _ ⟨((2 ^ (64 - 8 * s) : Nat) : Int), by rw [← Int.natCast_mul, e64]; rfl⟩]
    rw [e1] at hm
    unfold sgn
    rw [if_neg (by omega), Nat.mod_eq_of_lt hm, e2]
    split
    · rw [Int.sub_emod_right]
      exact Int.emod_eq_of_lt (by omega) (by omega)
    · exact Int.emod_eq_of_lt (by omega) (by omega)
  exact_mod_cast key
/-- what was read is written as these bytes -/
theorem putB_mod (n s : Nat) : putB (n % 256 ^ s) s = putB n s := by
  have h1 := put_getN (putB n s) (putB_isB n s)
  rw [getN_putB, putB_length] at h1
  exact h1
theorem encB_decB (b : List Int) (hb : ∀ x ∈ b, isB x) (hl : b.length = 20) : encB (decB b) = b := by
  have bb : ∀ k n, ∀ x ∈ (b.drop k).take n, isB x := fun k n x hx => hb x (List.mem_of_mem_drop (List.mem_of_mem_take hx))
  have ll : ∀ k n, k + n ≤ 20 → ((b.drop k).take n).length = n := fun k n h => by simp; omega
  have key : ∀ k n, k + n ≤ 20 → 1 ≤ n → n ≤ 8 → putB (toU (sgn (getN ((b.drop k).take n)) (8 * n))) n = (b.drop k).take n := fun k n h h1 h2 => by
    have hlt := getN_lt (bb k n)
    rw [ll k n h] at hlt
    rw [← putB_mod, sgn_u _ n ⟨h1, h2⟩ hlt]
    have := put_getN _ (bb k n)
    rw [ll k n h] at this
    exact this
  have key1 : ∀ k, k + 1 ≤ 20 → putB (toU ((getN ((b.drop k).take 1) : Nat) : Int)) 1 = (b.drop k).take 1 := fun k h => by
    have hlt := getN_lt (bb k 1)
    rw [ll k 1 h] at hlt
    have e : toU ((getN ((b.drop k).take 1) : Nat) : Int) = getN ((b.drop k).take 1) := by unfold toU; omega
    rw [e]
    have := put_getN _ (bb k 1)
    rw [ll k 1 h] at this
    exact this
  have k0 := key 0 8 (by omega) (by omega) (by omega)
  have k1 := key 8 1 (by omega) (by omega) (by omega)
  have k2 := key 9 1 (by omega) (by omega) (by omega)
  have k3 := key1 10 (by omega)
  have k4 := key1 11 (by omega)
  have k5 := key 12 8 (by omega) (by omega) (by omega)
  simp only [Nat.reduceMul, List.drop_zero] at k0 k1 k2 k5
  have dd : ∀ k n, b.drop k = (b.drop k).take n ++ b.drop (k + n) := fun k n => by rw [← List.drop_drop, List.take_append_drop]
  unfold encB decB
  simp only
  rw [k0, k1, k2, k3, k4, k5]
  conv => rhs; rw [show b = b.drop 0 from rfl, dd 0 8, dd (0 + 8) 1, dd (0 + 8 + 1) 1, dd (0 + 8 + 1 + 1) 1, dd (0 + 8 + 1 + 1 + 1) 1]
  simp only [Nat.zero_add, Nat.reduceAdd, List.drop_zero]
  rw [List.take_of_length_le (l := b.drop 12) (by simp; omega)]
theorem readE_ok {b : List Int} (h : (readE b).2 = 0) : b.length = 20 ∧ okE (decB b) = true ∧ readE b = (decB b, 0) := by
  unfold readE at *
  by_cases h1 : b.length < 20
  · rw [if_pos h1] at h; simp at h
  rw [if_neg h1] at *
  by_cases h2 : 20 < b.length
  · rw [if_pos h2] at h; simp at h
  rw [if_neg h2] at *
  by_cases h3 : okE (decB b) = true
  · rw [if_pos h3]; exact ⟨by omega, h3, rfl⟩
  · rw [if_neg h3] at h; simp at h
theorem readE_bad {b : List Int} (h : (readE b).2 ≠ 0) : (readE b).1 = .zero := by
  unfold readE at *
  split
  · rfl
  · split
    · rfl
    · split
      · rename_i h1 h2 h3; rw [if_neg h1, if_neg h2, if_pos h3] at h; simp at h
      · rfl
end Go.Proofs.Ytflpelacjdnplaa
