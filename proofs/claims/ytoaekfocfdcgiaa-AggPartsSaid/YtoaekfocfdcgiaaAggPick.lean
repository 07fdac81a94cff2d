/- agg's Pick and Of, and the reference's: what each comes to. -/
import Derived.Test.YtoaekfocfdcgiaaAggWalk
namespace Go.Proofs.Ytoaekfocfdcgiaa
open Go.RowKit

/-- a number by its kind; is there one? -/
def pkV (a : Ag) (k : Int) : Int := if k = 0 then a.c else if k = 1 then a.s else if k = 2 then avV a else if 0 < a.c then (if k = 3 then a.l else if k = 4 then a.h else 0) else 0
def pkB (a : Ag) (k : Int) : Bool := decide (k = 0) || decide (k = 1) || (decide (k = 2) && avB a) || (decide (0 < a.c) && (decide (k = 3) || decide (k = 4)))

set_option maxHeartbeats 4000000 in
theorem LPick_core (c s l h k : Int) (w : World) (hs : wfI s) : Calls Try.prog 39 #[.agg #[.int .i64 c, .int .i64 s, .int .i64 l, .int .i64 h], .int .i64 k] w
    fun e w' => e = .returned (.tuple #[.int .i64 (pkV ⟨c, s, l, h⟩ k), .bool (pkB ⟨c, s, l, h⟩ k)]) ∧ Ch No w w' := by
  have hav := fun w => LAvg_core c s l h w hs
  obtain ⟨v, hv⟩ : ∃ v, pkV ⟨c, s, l, h⟩ k = v := ⟨_, rfl⟩
  obtain ⟨b, hb⟩ : ∃ b, pkB ⟨c, s, l, h⟩ k = b := ⟨_, rfl⟩
  rw [hv, hb]
  by_cases k0 : k = 0
  · subst k0
    have e1 : v = c := by rw [← hv]; simp [pkV]
    have e2 : b = true := by rw [← hb]; simp [pkB]
    subst e1 e2
    clear hv hb hav
    go_enter Try.func39, Try.ntmps39
    go_wp2
    exact bodyPost_ret (v := .tuple #[.int .i64 v, .bool true]) (by simp [results, Try.results39, go_sem]) rfl ⟨rfl, (by repeat (first | exact Ch.refl _ _ | apply Ch.alloc | apply Ch.drewN))⟩
  by_cases k1 : k = 1
  · subst k1
    have e1 : v = s := by rw [← hv]; simp [pkV]
    have e2 : b = true := by rw [← hb]; simp [pkB]
    subst e1 e2
    clear hv hb hav
    go_enter Try.func39, Try.ntmps39
    go_wp2
    exact bodyPost_ret (v := .tuple #[.int .i64 v, .bool true]) (by simp [results, Try.results39, go_sem]) rfl ⟨rfl, (by repeat (first | exact Ch.refl _ _ | apply Ch.alloc | apply Ch.drewN))⟩
  by_cases k2 : k = 2
  · subst k2
    have e1 : avV ⟨c, s, l, h⟩ = v := by rw [← hv]; simp [pkV]
    have e2 : avB ⟨c, s, l, h⟩ = b := by rw [← hb]; simp [pkB]
    rw [e1, e2] at hav
    clear hv hb e1 e2
    go_enter Try.func39, Try.ntmps39
    go_wp2_with fail
    refine (hav _).mono ?_
    rintro e w1 ⟨rfl, hw1⟩
    go_wp2
    exact bodyPost_ret (v := .tuple #[.int .i64 v, .bool b]) (by simp [results, Try.results39, go_sem]) rfl ⟨rfl, Ch.trans ((Ch.refl No w).alloc _) hw1⟩
  by_cases hc : 0 < c
  · by_cases k3 : k = 3
    · subst k3
      have e1 : v = l := by rw [← hv]; simp [pkV, hc]
      have e2 : b = true := by rw [← hb]; simp [pkB, hc]
      subst e1 e2
      clear hv hb hav
      go_enter Try.func39, Try.ntmps39
      go_wp2
      exact bodyPost_ret (v := .tuple #[.int .i64 v, .bool true]) (by simp [results, Try.results39, go_sem]) rfl ⟨rfl, (by repeat (first | exact Ch.refl _ _ | apply Ch.alloc | apply Ch.drewN))⟩
    by_cases k4 : k = 4
    · subst k4
      have e1 : v = h := by rw [← hv]; simp [pkV, hc]
      have e2 : b = true := by rw [← hb]; simp [pkB, hc]
      subst e1 e2
      clear hv hb hav
      go_enter Try.func39, Try.ntmps39
      go_wp2
      exact bodyPost_ret (v := .tuple #[.int .i64 v, .bool true]) (by simp [results, Try.results39, go_sem]) rfl ⟨rfl, (by repeat (first | exact Ch.refl _ _ | apply Ch.alloc | apply Ch.drewN))⟩
    have e1 : v = 0 := by rw [← hv]; simp [pkV, *]
    have e2 : b = false := by rw [← hb]; simp [pkB, *]
    subst e1 e2
    clear hv hb hav
    go_enter Try.func39, Try.ntmps39
    go_wp2
    exact bodyPost_ret (v := .tuple #[.int .i64 0, .bool false]) (by simp [results, Try.results39, go_sem]) rfl ⟨rfl, (by repeat (first | exact Ch.refl _ _ | apply Ch.alloc | apply Ch.drewN))⟩
  have e1 : v = 0 := by rw [← hv]; simp [pkV, *]
  have e2 : b = false := by rw [← hb]; simp [pkB, *]
  subst e1 e2
  clear hv hb hav
  by_cases k3 : k = 3
  · subst k3
    go_enter Try.func39, Try.ntmps39
    go_wp2
    exact bodyPost_ret (v := .tuple #[.int .i64 0, .bool false]) (by simp [results, Try.results39, go_sem]) rfl ⟨rfl, (by repeat (first | exact Ch.refl _ _ | apply Ch.alloc | apply Ch.drewN))⟩
  by_cases k4 : k = 4
  · subst k4
    go_enter Try.func39, Try.ntmps39
    go_wp2
    exact bodyPost_ret (v := .tuple #[.int .i64 0, .bool false]) (by simp [results, Try.results39, go_sem]) rfl ⟨rfl, (by repeat (first | exact Ch.refl _ _ | apply Ch.alloc | apply Ch.drewN))⟩
  go_enter Try.func39, Try.ntmps39
  go_wp2
  exact bodyPost_ret (v := .tuple #[.int .i64 0, .bool false]) (by simp [results, Try.results39, go_sem]) rfl ⟨rfl, (by repeat (first | exact Ch.refl _ _ | apply Ch.alloc | apply Ch.drewN))⟩
theorem LPick_any (a : Ag) (k : Int) (w : World) (hs : wfI a.s) : Calls Try.prog 39 #[agV a, .int .i64 k] w fun e w' => e = .returned (.tuple #[.int .i64 (pkV a k), .bool (pkB a k)]) ∧ Ch No w w' := LPick_core _ _ _ _ k w hs

set_option maxHeartbeats 4000000 in
theorem RPick_core (c s l h k : Int) (w : World) (hs : wfI s) : Calls Try.prog 40 #[.agg #[.int .i64 c, .int .i64 s, .int .i64 l, .int .i64 h], .int .i64 k] w
    fun e w' => e = .returned (.tuple #[.int .i64 (pkV ⟨c, s, l, h⟩ k), .bool (pkB ⟨c, s, l, h⟩ k)]) ∧ Ch No w w' := by
  have hav := fun w => RAvg_core c s l h w hs
  obtain ⟨v, hv⟩ : ∃ v, pkV ⟨c, s, l, h⟩ k = v := ⟨_, rfl⟩
  obtain ⟨b, hb⟩ : ∃ b, pkB ⟨c, s, l, h⟩ k = b := ⟨_, rfl⟩
  rw [hv, hb]
  by_cases k0 : k = 0
  · subst k0
    have e1 : v = c := by rw [← hv]; simp [pkV]
    have e2 : b = true := by rw [← hb]; simp [pkB]
    subst e1 e2
    clear hv hb hav
    go_enter Try.func40, Try.ntmps40
    go_wp2
    exact bodyPost_ret (v := .tuple #[.int .i64 v, .bool true]) (by simp [results, Try.results40, go_sem]) rfl ⟨rfl, (by repeat (first | exact Ch.refl _ _ | apply Ch.alloc | apply Ch.drewN))⟩
  by_cases k1 : k = 1
  · subst k1
    have e1 : v = s := by rw [← hv]; simp [pkV]
    have e2 : b = true := by rw [← hb]; simp [pkB]
    subst e1 e2
    clear hv hb hav
    go_enter Try.func40, Try.ntmps40
    go_wp2
    exact bodyPost_ret (v := .tuple #[.int .i64 v, .bool true]) (by simp [results, Try.results40, go_sem]) rfl ⟨rfl, (by repeat (first | exact Ch.refl _ _ | apply Ch.alloc | apply Ch.drewN))⟩
  by_cases k2 : k = 2
  · subst k2
    have e1 : avV ⟨c, s, l, h⟩ = v := by rw [← hv]; simp [pkV]
    have e2 : avB ⟨c, s, l, h⟩ = b := by rw [← hb]; simp [pkB]
    rw [e1, e2] at hav
    clear hv hb e1 e2
    go_enter Try.func40, Try.ntmps40
    go_wp2_with fail
    refine (hav _).mono ?_
    rintro e w1 ⟨rfl, hw1⟩
    go_wp2
    exact bodyPost_ret (v := .tuple #[.int .i64 v, .bool b]) (by simp [results, Try.results40, go_sem]) rfl ⟨rfl, Ch.trans ((Ch.refl No w).alloc _) hw1⟩
  by_cases hc : 0 < c
  · by_cases k3 : k = 3
    · subst k3
      have e1 : v = l := by rw [← hv]; simp [pkV, hc]
      have e2 : b = true := by rw [← hb]; simp [pkB, hc]
      subst e1 e2
      clear hv hb hav
      go_enter Try.func40, Try.ntmps40
      go_wp2
      exact bodyPost_ret (v := .tuple #[.int .i64 v, .bool true]) (by simp [results, Try.results40, go_sem]) rfl ⟨rfl, (by repeat (first | exact Ch.refl _ _ | apply Ch.alloc | apply Ch.drewN))⟩
    by_cases k4 : k = 4
    · subst k4
      have e1 : v = h := by rw [← hv]; simp [pkV, hc]
      have e2 : b = true := by rw [← hb]; simp [pkB, hc]
      subst e1 e2
      clear hv hb hav
      go_enter Try.func40, Try.ntmps40
      go_wp2
      exact bodyPost_ret (v := .tuple #[.int .i64 v, .bool true]) (by simp [results, Try.results40, go_sem]) rfl ⟨rfl, (by repeat (first | exact Ch.refl _ _ | apply Ch.alloc | apply Ch.drewN))⟩
    have e1 : v = 0 := by rw [← hv]; simp [pkV, *]
    have e2 : b = false := by rw [← hb]; simp [pkB, *]
    subst e1 e2
    clear hv hb hav
    go_enter Try.func40, Try.ntmps40
    go_wp2
    exact bodyPost_ret (v := .tuple #[.int .i64 0, .bool false]) (by simp [results, Try.results40, go_sem]) rfl ⟨rfl, (by repeat (first | exact Ch.refl _ _ | apply Ch.alloc | apply Ch.drewN))⟩
  have e1 : v = 0 := by rw [← hv]; simp [pkV, *]
  have e2 : b = false := by rw [← hb]; simp [pkB, *]
  subst e1 e2
  clear hv hb hav
  by_cases k3 : k = 3
  · subst k3
    go_enter Try.func40, Try.ntmps40
    go_wp2
    exact bodyPost_ret (v := .tuple #[.int .i64 0, .bool false]) (by simp [results, Try.results40, go_sem]) rfl ⟨rfl, (by repeat (first | exact Ch.refl _ _ | apply Ch.alloc | apply Ch.drewN))⟩
  by_cases k4 : k = 4
  · subst k4
    go_enter Try.func40, Try.ntmps40
    go_wp2
    exact bodyPost_ret (v := .tuple #[.int .i64 0, .bool false]) (by simp [results, Try.results40, go_sem]) rfl ⟨rfl, (by repeat (first | exact Ch.refl _ _ | apply Ch.alloc | apply Ch.drewN))⟩
  go_enter Try.func40, Try.ntmps40
  go_wp2
  exact bodyPost_ret (v := .tuple #[.int .i64 0, .bool false]) (by simp [results, Try.results40, go_sem]) rfl ⟨rfl, (by repeat (first | exact Ch.refl _ _ | apply Ch.alloc | apply Ch.drewN))⟩
theorem RPick_any (a : Ag) (k : Int) (w : World) (hs : wfI a.s) : Calls Try.prog 40 #[agV a, .int .i64 k] w fun e w' => e = .returned (.tuple #[.int .i64 (pkV a k), .bool (pkB a k)]) ∧ Ch No w w' := RPick_core _ _ _ _ k w hs

end Go.Proofs.Ytoaekfocfdcgiaa
