/- entry: the order of entries is that of their bytes. No walk. -/
import Derived.Test.YtflpelacjdnplaaEntLaws
import Derived.Test.YtflpelacjdnplaaRefs
namespace Go.Proofs.Ytflpelacjdnplaa
open Go.RowKit

theorem lexI_cons (x y : Int) (xs ys : List Int) : lexI (x :: xs) (y :: ys) = if x = y then lexI xs ys else decide (x < y) := rfl
theorem lexI_app {xs ys : List Int} (r1 r2 : List Int) (h : xs.length = ys.length) : lexI (xs ++ r1) (ys ++ r2) = if xs = ys then lexI r1 r2 else lexI xs ys := by
  induction xs generalizing ys with
  | nil => cases ys with
    | nil => simp
    | cons y ys => simp at h
  | cons x xs ih =>
    cases ys with
    | nil => simp at h
    | cons y ys =>
      simp only [List.cons_append]
      rw [lexI_cons, lexI_cons]
      by_cases e : x = y
      · subst e
        rw [if_pos rfl, if_pos rfl, ih (by simpa using h)]
        simp
      · rw [if_neg e, if_neg e, if_neg (by intro h'; exact e (List.cons.inj h').1)]
theorem putB_inj {a b s : Nat} (ha : a < 256 ^ s) (hb : b < 256 ^ s) (h : putB a s = putB b s) : a = b := by
  have := congrArg getN h
  rw [getN_putB, getN_putB, Nat.mod_eq_of_lt ha, Nat.mod_eq_of_lt hb] at this
  exact this
theorem lexI_put (s : Nat) : ∀ (a b : Nat), a < 256 ^ s → b < 256 ^ s → lexI (putB a s) (putB b s) = decide (a < b) := by
  induction s with
  | zero => intro a b ha hb; simp at ha hb; subst ha; subst hb; simp [putB, lexI]
  | succ s ih =>
    intro a b ha hb
    have hp : 0 < 256 ^ s := Nat.pow_pos (by decide)
    rw [Nat.pow_succ] at ha hb
    have da : a / 256 ^ s < 256 := by rw [Nat.div_lt_iff_lt_mul hp, Nat.mul_comm]; exact ha
    have db : b / 256 ^ s < 256 := by rw [Nat.div_lt_iff_lt_mul hp, Nat.mul_comm]; exact hb
    have ea := Nat.div_add_mod a (256 ^ s)
    have eb := Nat.div_add_mod b (256 ^ s)
    have la := Nat.mod_lt a hp
    have lb := Nat.mod_lt b hp
    unfold putB lexI
    rw [Nat.mod_eq_of_lt da, Nat.mod_eq_of_lt db]
    by_cases e : a / 256 ^ s = b / 256 ^ s
    · rw [if_pos (by rw [e]), ← putB_mod a, ← putB_mod b, ih _ _ la lb]
      rw [e] at ea
      generalize 256 ^ s * (b / 256 ^ s) = q at *
      rw [Bool.eq_iff_iff]
      simp only [decide_eq_true_eq]
      omega
    · rw [if_neg (by omega), Bool.eq_iff_iff]
      simp only [decide_eq_true_eq]
      rw [Int.ofNat_lt]
      constructor
      · intro h
        have : 256 ^ s * (a / 256 ^ s + 1) ≤ 256 ^ s * (b / 256 ^ s) := Nat.mul_le_mul_left _ h
        rw [Nat.mul_add, Nat.mul_one] at this
        omega
      · intro h
        rcases Nat.lt_or_ge (a / 256 ^ s) (b / 256 ^ s) with h' | h'
        · exact h'
        · exfalso
          have : 256 ^ s * (b / 256 ^ s + 1) ≤ 256 ^ s * (a / 256 ^ s) := Nat.mul_le_mul_left _ (by omega)
          rw [Nat.mul_add, Nat.mul_one] at this
          omega
theorem lexI_field (n m : Int) (s : Nat) (r1 r2 : List Int) (q1 q2 : List Int) (hn : 0 ≤ n ∧ n < 256 ^ s) (hm : 0 ≤ m ∧ m < 256 ^ s) (hs : s ≤ 8) (h : lexI r1 r2 = lexI q1 q2) :
    lexI (putB (toU n) s ++ r1) (putB (toU m) s ++ r2) = lexI (n :: q1) (m :: q2) := by
  have e3 : ((256 : Int) ^ s) = ((256 ^ s : Nat) : Int) := by rw [Int.natCast_pow]; rfl
  have h8 : (256 : Nat) ^ s ≤ 256 ^ 8 := Nat.pow_le_pow_right (by decide) hs
  have h88 : (256 : Nat) ^ 8 = 18446744073709551616 := rfl
  rw [e3] at hn hm
  have en : ((toU n : Nat) : Int) = n := by unfold toU; omega
  have em : ((toU m : Nat) : Int) = m := by unfold toU; omega
  rw [lexI_app _ _ (by simp)]
  have l1 := lexI_put s (toU n) (toU m) (by omega) (by omega)
  conv => rhs; unfold lexI
  by_cases e : n = m
  · subst e
    rw [if_pos rfl, if_pos rfl, h]
  · rw [if_neg (fun h' => e (by have := putB_inj (by omega) (by omega) h'; omega)), if_neg e, l1, Bool.eq_iff_iff]
    simp only [decide_eq_true_eq]
    omega
/-- the order of entries of no negative number is that of their bytes -/
theorem less_bytes {x y : Ent} (hx : okE x = true) (hy : okE y = true) (wx : wfE x) (wy : wfE y) (h1 : 0 ≤ x.arg ∧ 0 ≤ x.tenant ∧ 0 ≤ x.person) (h2 : 0 ≤ y.arg ∧ 0 ≤ y.tenant ∧ 0 ≤ y.person) : lexI (encB x) (encB y) = lessE x y := by
  simp only [okE, Bool.and_eq_true, decide_eq_true_eq] at hx hy
  obtain ⟨⟨⟨⟨⟨a1, a2⟩, b1, b2⟩, c1, c2⟩, d1, d2⟩, e1, e2⟩ := hx
  obtain ⟨⟨⟨⟨⟨f1, f2⟩, g1, g2⟩, i1, i2⟩, j1, j2⟩, k1, k2⟩ := hy
  obtain ⟨_, wx1, wx2⟩ := wx
  obtain ⟨_, wy1, wy2⟩ := wy
  obtain ⟨x1, x2, x3⟩ := h1
  obtain ⟨y1, y2, y3⟩ := h2
  unfold encB lessE Ent.nums
  refine lexI_field _ _ 8 _ _ _ _ ⟨a1, by omega⟩ ⟨f1, by omega⟩ (by omega) ?_
  refine lexI_field _ _ 1 _ _ _ _ ⟨x2, by omega⟩ ⟨y2, by omega⟩ (by omega) ?_
  refine lexI_field _ _ 1 _ _ _ _ ⟨x3, by omega⟩ ⟨y3, by omega⟩ (by omega) ?_
  refine lexI_field _ _ 1 _ _ _ _ ⟨d1, by omega⟩ ⟨j1, by omega⟩ (by omega) ?_
  refine lexI_field _ _ 1 _ _ _ _ ⟨e1, by omega⟩ ⟨k1, by omega⟩ (by omega) ?_
  have := lexI_field x.arg y.arg 8 [] [] [] [] ⟨x1, by omega⟩ ⟨y1, by omega⟩ (by omega) rfl
  simpa using this
theorem byte_lt {x y : Int} (hx : isB x) (hy : isB y) : (UInt8.ofNat x.toNat < UInt8.ofNat y.toNat) ↔ x < y := by
  unfold isB at hx hy
  rw [UInt8.lt_iff_toNat_lt]
  simp only [UInt8.toNat_ofNat']
  omega
theorem byte_eq {x y : Int} (hx : isB x) (hy : isB y) : (UInt8.ofNat x.toNat = UInt8.ofNat y.toNat) ↔ x = y := by
  unfold isB at hx hy
  constructor
  · intro h
    have := congrArg UInt8.toNat h
    simp only [UInt8.toNat_ofNat'] at this
    omega
  · rintro rfl; rfl
theorem bytesLess_map (xs : List Int) : ∀ ys : List Int, xs.length = ys.length → (∀ x ∈ xs, isB x) → (∀ y ∈ ys, isB y) → Op.bytesLess (xs.map fun n => UInt8.ofNat n.toNat) (ys.map fun n => UInt8.ofNat n.toNat) = lexI xs ys := by
  induction xs with
  | nil => intro ys hl _ _; cases ys with
    | nil => simp [Op.bytesLess, lexI]
    | cons y ys => simp at hl
  | cons x xs ih =>
    intro ys hl hx hy
    cases ys with
    | nil => simp at hl
    | cons y ys =>
      simp only [List.map_cons]
      unfold Op.bytesLess lexI
      rw [ih ys (by simpa using hl) (fun z hz => hx z (List.mem_cons_of_mem _ hz)) (fun z hz => hy z (List.mem_cons_of_mem _ hz))]
      have h1 := byte_lt (hx x (by simp)) (hy y (by simp))
      have h2 := byte_eq (hx x (by simp)) (hy y (by simp))
      by_cases e : x = y
      · subst e
        simp
      · rw [if_neg e]
        have h3 : (UInt8.ofNat x.toNat == UInt8.ofNat y.toNat) = false := by simp [h2, e]
        rw [h3]
        simp [h1]
theorem bytesLess_str {xs ys : List Int} (hl : xs.length = ys.length) (hx : ∀ x ∈ xs, isB x) (hy : ∀ y ∈ ys, isB y) : Op.bytesLess (strOfNums xs).toList (strOfNums ys).toList = lexI xs ys := by
  rw [ByteArray.toList_eq, ByteArray.toList_eq, strOfNums_data, strOfNums_data]
  exact bytesLess_map xs ys hl hx hy
end Go.Proofs.Ytflpelacjdnplaa
