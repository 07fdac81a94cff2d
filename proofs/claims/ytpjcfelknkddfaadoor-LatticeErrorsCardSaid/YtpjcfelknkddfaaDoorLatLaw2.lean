/- Lists of labels with one more, or one fewer, in plain Lean. -/
import Derived.Test.YtpjcfelknkddfaaDoorLatLaw
import Derived.Test.YtpjcfelknkddfaaDoorLatticeLists
namespace Go.Proofs.YtpjcfelknkddfaaDoor
open Go.RowKit

theorem chkG_app : ∀ (xs ys pre : List (Nat × Nat)), chkG pre xs = 0 → chkG pre (xs ++ ys) = chkG (pre ++ xs) ys
  | [], ys, pre, _ => by simp
  | x :: xs, ys, pre, h => by
    have h' : (if 15 < x.1 then (23 : Int) else if x ∈ pre then 5 else chkG (pre ++ [x]) xs) = 0 := h
    show (if 15 < x.1 then (23 : Int) else if x ∈ pre then 5 else chkG (pre ++ [x]) (xs ++ ys)) = _
    split at h'
    · cases h'
    split at h'
    · cases h'
    next h1 h2 =>
    rw [if_neg h1, if_neg h2, chkG_app xs ys (pre ++ [x]) h', List.append_assoc]
    rfl
theorem chkG_iff : ∀ (xs pre : List (Nat × Nat)), chkG pre xs = 0 ↔ (∀ y ∈ xs, y.1 ≤ 15 ∧ ¬ y ∈ pre) ∧ xs.Nodup
  | [], pre => by simp [chkG]
  | x :: xs, pre => by
    have e : chkG pre (x :: xs) = if 15 < x.1 then (23 : Int) else if x ∈ pre then 5 else chkG (pre ++ [x]) xs := rfl
    rw [e]
    by_cases h1 : 15 < x.1
    · rw [if_pos h1]
      constructor
      · intro h; cases h
      · rintro ⟨h, _⟩
        have := (h x (by simp)).1
        omega
    rw [if_neg h1]
    by_cases h2 : x ∈ pre
    · rw [if_pos h2]
      constructor
      · intro h; cases h
      · rintro ⟨h, _⟩
        exact absurd h2 (h x (by simp)).2
    rw [if_neg h2, chkG_iff xs (pre ++ [x]), List.nodup_cons]
    constructor
    · rintro ⟨h, hn⟩
      refine ⟨fun y hy => ?_, fun hx => (h x hx).2 (by simp), hn⟩
      rcases List.mem_cons.1 hy with rfl | hy
      · exact ⟨by omega, h2⟩
      · exact ⟨(h y hy).1, fun hp => (h y hy).2 (by simp [hp])⟩
    · rintro ⟨h, hx, hn⟩
      refine ⟨fun y hy => ⟨(h y (by simp [hy])).1, fun hp => ?_⟩, hn⟩
      rcases List.mem_append.1 hp with hp | hp
      · exact (h y (by simp [hy])).2 hp
      · have e : y = x := by simpa using hp
        exact hx (e ▸ hy)
theorem chkL_more {Ls : List (Nat × Nat)} {x : Nat × Nat} (h : chkL Ls = 0) (h15 : Ls.length ≤ 15) (hx : x ∈ Ls) : chkL (Ls ++ [x]) = 5 := by
  have h0 := chkL_go h
  have hx1 := ((chkG_iff Ls []).1 h0).1 x hx
  have hl : (Ls ++ [x]).length = Ls.length + 1 := by simp
  unfold chkL
  rw [if_neg (by omega), chkG_app Ls [x] [] h0, List.nil_append]
  show (if 15 < x.1 then (23 : Int) else if x ∈ Ls then 5 else _) = 5
  rw [if_neg (by omega), if_pos hx]
theorem chkL_high {Ls : List (Nat × Nat)} (h15 : Ls.length ≤ 15) : chkL ((16, 0) :: Ls) = 23 := by
  have hl : ((16, 0) :: Ls).length = Ls.length + 1 := by simp
  unfold chkL
  rw [if_neg (by omega)]
  rfl
theorem chkL_less {Ls : List (Nat × Nat)} {i : Nat} (h : chkL Ls = 0) (hi : i < Ls.length) : chkL (Ls.take i ++ Ls.drop (i + 1)) = if Ls.length = 1 then 3 else 0 := by
  have h0 := (chkG_iff Ls []).1 (chkL_go h)
  have hlen := chkL_len h
  have hl : (Ls.take i ++ Ls.drop (i + 1)).length = Ls.length - 1 := by
    rw [List.length_append, List.length_take, List.length_drop]
    omega
  have hsub : (Ls.take i ++ Ls.drop (i + 1)).Sublist Ls := by
    rw [← List.eraseIdx_eq_take_drop_succ]
    exact List.eraseIdx_sublist Ls i
  unfold chkL
  by_cases h1 : Ls.length = 1
  · rw [if_pos (.inl (by omega)), if_pos h1]
  · rw [if_neg (by omega), if_neg h1]
    exact (chkG_iff _ _).2 ⟨fun y hy => ⟨(h0.1 y (hsub.subset hy)).1, by simp⟩, h0.2.sublist hsub⟩
theorem msk_app : ∀ (p q : List Bool), msk (p ++ q) = msk p + 2 ^ p.length * msk q
  | [], q => by simp [msk]
  | b :: p, q => by
    show b.toNat + 2 * msk (p ++ q) = b.toNat + 2 * msk p + 2 ^ (p.length + 1) * msk q
    rw [msk_app p q, Nat.pow_succ, Nat.mul_add, Nat.mul_comm (2 ^ p.length) 2, Nat.mul_assoc, Nat.add_assoc]
/-- the mask without one label, out of the one with it -/
theorem msk_less (p q : List Bool) (b : Bool) (i : Nat) (hi : p.length = i) :
    msk (p ++ b :: q) % 2 ^ i = msk p ∧ msk (p ++ b :: q) / 2 ^ (i + 1) = msk q ∧ msk (p ++ q) = 2 ^ i * msk q ||| msk p := by
  subst hi
  have h1 := msk_lt p
  have h2 : msk (b :: q) = b.toNat + 2 * msk q := rfl
  refine ⟨?_, ?_, ?_⟩
  · rw [msk_app, Nat.add_mul_mod_self_left, Nat.mod_eq_of_lt h1]
  · rw [msk_app, h2, Nat.pow_succ, ← Nat.div_div_eq_div_mul, Nat.add_mul_div_left _ _ (Nat.two_pow_pos _), Nat.div_eq_of_lt h1]
    cases b <;> simp [Bool.toNat] <;> omega
  · rw [msk_app, ← Nat.two_pow_add_eq_or_of_lt h1, Nat.add_comm]
theorem bel_less {Ls : List (Nat × Nat)} {i : Nat} (hi : i < Ls.length) (h16 : Ls.length ≤ 16) (x : Nat × Nat) :
    bits .or .u32 (bits .and .u32 ((bel Ls x : Nat) : Int) ((2 ^ i - 1 : Nat) : Int)) (((bel Ls x / 2 ^ (i + 1) * 2 ^ i : Nat) : Int)) = ((bel (Ls.take i ++ Ls.drop (i + 1)) x : Nat) : Int) := by
  have e : Ls = Ls.take i ++ Ls[i] :: Ls.drop (i + 1) := by simp
  have hp : ((Ls.take i).map (dmB x)).length = i := by simp; omega
  have h1 := msk_less ((Ls.take i).map (dmB x)) ((Ls.drop (i + 1)).map (dmB x)) (dmB x Ls[i]) i hp
  have e1 : msk ((Ls.take i).map (dmB x) ++ dmB x Ls[i] :: (Ls.drop (i + 1)).map (dmB x)) = bel Ls x := by
    unfold bel
    rw [← List.map_cons, ← List.map_append, ← e]
  have e2 : msk ((Ls.take i).map (dmB x) ++ (Ls.drop (i + 1)).map (dmB x)) = bel (Ls.take i ++ Ls.drop (i + 1)) x := by
    unfold bel
    simp
  rw [e1, e2] at h1
  obtain ⟨h2, h3, h4⟩ := h1
  have hb := bel_lt Ls x
  have hb2 : 2 ^ Ls.length ≤ 2 ^ 16 := Nat.pow_le_pow_right (by omega) h16
  have hi2 : 2 ^ i ≤ 2 ^ 16 := Nat.pow_le_pow_right (by omega) (by omega)
  have hl := bel_lt (Ls.take i ++ Ls.drop (i + 1)) x
  have hl2 : 2 ^ (Ls.take i ++ Ls.drop (i + 1)).length ≤ 2 ^ 16 := Nat.pow_le_pow_right (by omega) (by rw [List.length_append, List.length_take, List.length_drop]; omega)
  have hm := msk_lt ((Ls.take i).map (dmB x))
  rw [hp] at hm
  have hq : msk ((Ls.drop (i + 1)).map (dmB x)) * 2 ^ i < 4294967296 := by
    have : 2 ^ i * msk ((Ls.drop (i + 1)).map (dmB x)) ≤ bel (Ls.take i ++ Ls.drop (i + 1)) x := by rw [h4]; exact Nat.left_le_or
    rw [Nat.mul_comm]
    omega
  rw [u32_and_nat _ _ (by omega) (by omega), Nat.and_two_pow_sub_one_eq_mod, h2, h3, u32_or_nat _ _ (by omega) hq, h4, Nat.or_comm, Nat.mul_comm]
theorem less_at {Ls : List (Nat × Nat)} {i n : Nat} (hi : i < Ls.length) : (Ls.take i ++ Ls.drop (i + 1))[n]? = if n < i then Ls[n]? else Ls[n + 1]? := by
  rw [List.getElem?_append, List.length_take, Nat.min_eq_left (by omega)]
  by_cases h : n < i
  · rw [if_pos h, if_pos h, List.getElem?_take, if_pos h]
  · rw [if_neg h, if_neg h, List.getElem?_drop]
    congr 1
    omega
end Go.Proofs.YtpjcfelknkddfaaDoor
