/- entry: its order, and its bytes: the plain laws. No walk. -/
import Derived.Test.YtflpelacjdnplaaEntRBat
namespace Go.Proofs.Ytflpelacjdnplaa
open Go.RowKit

theorem lexI_irrefl (xs : List Int) : lexI xs xs = false := by
  induction xs with
  | nil => rfl
  | cons x xs ih => simp [lexI, ih]
theorem lexI_asymm (xs ys : List Int) : lexI xs ys = true → lexI ys xs = false := by
  induction xs generalizing ys with
  | nil => intro h; simp [lexI] at h
  | cons x xs ih =>
    cases ys with
    | nil => intro h; simp [lexI] at h
    | cons y ys =>
      unfold lexI
      by_cases e : x = y
      · subst e; simpa using ih ys
      · rw [if_neg e, if_neg (fun h => e h.symm)]
        intro h
        simp at h ⊢
        omega
theorem lexI_total (xs ys : List Int) (hl : xs.length = ys.length) (hne : xs ≠ ys) : (lexI xs ys || lexI ys xs) = true := by
  induction xs generalizing ys with
  | nil => cases ys with
    | nil => exact absurd rfl hne
    | cons y ys => simp at hl
  | cons x xs ih =>
    cases ys with
    | nil => simp at hl
    | cons y ys =>
      unfold lexI
      by_cases e : x = y
      · subst e
        rw [if_pos rfl, if_pos rfl]
        exact ih ys (by simpa using hl) (fun h => hne (by rw [h]))
      · rw [if_neg e, if_neg (fun h => e h.symm)]
        simp
        omega
theorem lexI_trans (xs ys zs : List Int) : lexI xs ys = true → lexI ys zs = true → lexI xs zs = true := by
  induction xs generalizing ys zs with
  | nil => intro h; simp [lexI] at h
  | cons x xs ih =>
    cases ys with
    | nil => intro h; simp [lexI] at h
    | cons y ys =>
      cases zs with
      | nil => intro _ h; simp [lexI] at h
      | cons z zs =>
        unfold lexI
        intro h1 h2
        by_cases e1 : x = y
        · subst e1
          by_cases e2 : x = z
          · subst e2; simp at h1 h2 ⊢; exact ih ys zs h1 h2
          · rw [if_neg e2] at h2 ⊢; exact h2
        · rw [if_neg e1] at h1
          by_cases e2 : y = z
          · subst e2; rw [if_neg e1]; exact h1
          · rw [if_neg e2] at h2
            simp at h1 h2
            rw [if_neg (by omega)]
            simp
            omega
theorem nums_inj {x y : Ent} (h : x.nums = y.nums) : x = y := by
  cases x; cases y
  simp [Ent.nums] at h
  simp [h]
theorem lessE_irrefl (x : Ent) : lessE x x = false := lexI_irrefl _
theorem lessE_asymm {x y : Ent} (h : lessE x y = true) : lessE y x = false := lexI_asymm _ _ h
theorem lessE_total {x y : Ent} (h : x ≠ y) : (lessE x y || lessE y x) = true := lexI_total _ _ rfl (fun e => h (nums_inj e))
theorem lessE_trans {x y z : Ent} (h1 : lessE x y = true) (h2 : lessE y z = true) : lessE x z = true := lexI_trans _ _ _ h1 h2

/-- entries' bytes, one behind the other -/
def allB (l : List Ent) : List Int := l.flatMap encB
theorem allB_len (l : List Ent) : (allB l).length = 20 * l.length := by
  induction l with
  | nil => rfl
  | cons x l ih => unfold allB at *; rw [List.flatMap_cons, List.length_append, ih, encB_length, List.length_cons]; omega
theorem allB_isB (l : List Ent) : ∀ b ∈ allB l, isB b := by
  intro b hb
  obtain ⟨x, _, h⟩ := List.mem_flatMap.1 hb
  exact encB_isB x b h
theorem allB_snoc (l : List Ent) (x : Ent) : allB (l ++ [x]) = allB l ++ encB x := by simp [allB]
/-- a whole number of 64 bits, both times -/
def wfE (x : Ent) : Prop := (-9223372036854775808 ≤ x.t ∧ x.t < 9223372036854775808) ∧ (-9223372036854775808 ≤ x.arg ∧ x.arg < 9223372036854775808)
theorem bat_all (l : List Ent) (h : ∀ x ∈ l, okE x = true ∧ wfE x) (rest : List Int) : bat (allB l ++ rest) = l ++ bat rest := by
  induction l with
  | nil => rfl
  | cons x l ih =>
    have hx := h x (by simp)
    have hr := readE_encB x hx.2.1 hx.2.2 hx.1
    have hl := encB_length x
    have e : allB (x :: l) ++ rest = encB x ++ (allB l ++ rest) := by simp [allB]
    rw [e, bat_cons (by simp [hl]) (by rw [List.take_left' hl, hr]), List.take_left' hl, hr, List.drop_left' hl, ih (fun y hy => h y (List.mem_cons_of_mem _ hy))]
    rfl
/-- what is read as an entry are its bytes -/
theorem read_bytes {b : List Int} {x : Ent} (hb : ∀ y ∈ b, isB y) (h : readE b = (x, 0)) : encB x = b := by
  obtain ⟨h1, h2, h3⟩ := readE_ok (b := b) (by rw [h])
  rw [h] at h3
  have : x = decB b := (Prod.mk.inj h3).1
  rw [this]
  exact encB_decB b hb h1
end Go.Proofs.Ytflpelacjdnplaa
