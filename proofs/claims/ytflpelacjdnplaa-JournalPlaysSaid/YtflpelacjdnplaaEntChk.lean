/- entry: Check, Less, and the reference's Right, Less: what each comes to. -/
import Derived.Test.YtflpelacjdnplaaEntMem
import Derived.Test.YtflpelacjdnplaaFitTo8
import Derived.Deep.RegionHeld3
namespace Go.Proofs.Ytflpelacjdnplaa
open Go.RowKit

theorem small_any (n lo hi : Int) (w : World) : Calls Try.prog 53 #[.int .i64 n, .int .i64 lo, .int .i64 hi] w fun e w' => e = .returned (.bool (decide (lo ≤ n ∧ n < hi))) ∧ w = w' := by
  by_cases h1 : n < lo
  · go_enter Try.func53, Try.ntmps53
    go_wp2_with fail
    go_ret
    exact ⟨ret_bool (by simp <;> omega), rfl⟩
  by_cases h2 : n < hi
  · go_enter Try.func53, Try.ntmps53
    go_wp2_with fail
    go_ret
    exact ⟨ret_bool (by simp <;> omega), rfl⟩
  · go_enter Try.func53, Try.ntmps53
    go_wp2_with fail
    go_ret
    exact ⟨ret_bool (by simp <;> omega), rfl⟩

/-- its parts, as the code asks them -/
theorem okE_parts (x : Ent) : okE x = (!decide (x.t < 0) && !decide (1125899906842624 < x.t) && decide (-1 ≤ x.tenant ∧ x.tenant < 16) && decide (-1 ≤ x.person ∧ x.person < 64) && decide (0 ≤ x.kind ∧ x.kind ≤ 255) && decide (0 ≤ x.code ∧ x.code ≤ 255)) := by
  rw [Bool.eq_iff_iff]
  simp only [okE, Bool.and_eq_true, decide_eq_true_eq, Bool.not_eq_true', decide_eq_false_iff_not]
  omega

set_option maxHeartbeats 4000000 in
theorem Check_any (x : Ent) (w : World) : Calls Try.prog 36 #[x.val] w fun e w' => e = .returned (.int .i64 (errE x)) ∧ Ch No w w' := by
  have hk := fun w => To_u8 x.kind w
  have hc := fun w => To_u8 x.code w
  have s1 := fun w => small_any x.tenant (-1) 16 w
  have s2 := fun w => small_any x.person (-1) 64 w
  have HP := okE_parts x
  have HE : Hid (∀ b : Bool, okE x = b → errE x = if b = true then 0 else 23) := Lib.hid (by intro b hb; unfold errE; rw [hb])
  generalize decide (0 ≤ x.kind ∧ x.kind ≤ 255) = bk at *
  generalize (if 0 ≤ x.kind ∧ x.kind ≤ 255 then x.kind else 0) = vk at *
  generalize decide (0 ≤ x.code ∧ x.code ≤ 255) = bc at *
  generalize (if 0 ≤ x.code ∧ x.code ≤ 255 then x.code else 0) = vc at *
  generalize decide (-1 ≤ x.tenant ∧ x.tenant < 16) = bt at *
  generalize decide (-1 ≤ x.person ∧ x.person < 64) = bp at *
  have HK := Lib.hid (And.intro hk hc)
  have HS := Lib.hid (And.intro s1 s2)
  clear hk hc s1 s2
  unfold Ent.val
  by_cases h1 : x.t < 0
  · have H := HE.out false (by rw [HP]; simp [h1])
    rw [H]
    clear H HP HE
    go_enter Try.func36, Try.ntmps36
    go_wp2_with fail
    refine (HK.out.1 _).mono ?_
    rintro e w1 ⟨rfl, rfl⟩
    go_wp2_with fail
    refine (HK.out.2 _).mono ?_
    rintro e w1 ⟨rfl, rfl⟩
    go_wp2_with fail
    go_ret
    exact ⟨rfl, (Ch.refl No w).alloc _⟩
  by_cases h2 : 1125899906842624 < x.t
  · have H := HE.out false (by rw [HP]; simp [h2])
    rw [H]
    clear H HP HE
    go_enter Try.func36, Try.ntmps36
    go_wp2_with fail
    refine (HK.out.1 _).mono ?_
    rintro e w1 ⟨rfl, rfl⟩
    go_wp2_with fail
    refine (HK.out.2 _).mono ?_
    rintro e w1 ⟨rfl, rfl⟩
    go_wp2_with fail
    go_ret
    exact ⟨rfl, (Ch.refl No w).alloc _⟩
  have HQ : Hid (okE x = (bt && bp && bk && bc)) := Lib.hid (by rw [HP]; simp [h1, h2])
  clear HP
  rcases bt with _ | _ <;> rcases bp with _ | _ <;> rcases bk with _ | _ <;> rcases bc with _ | _
  all_goals
    have H := HE.out _ HQ.out
    simp only [Bool.and_true, Bool.and_false, if_true, if_false, Bool.false_eq_true] at H
    rw [H]
    clear H HQ HE
    go_enter Try.func36, Try.ntmps36
    go_wp2_with fail
    refine (HK.out.1 _).mono ?_
    rintro e w1 ⟨rfl, rfl⟩
    go_wp2_with fail
    refine (HK.out.2 _).mono ?_
    rintro e w1 ⟨rfl, rfl⟩
    clear HK
    go_wp2_with fail
    refine (HS.out.1 _).mono ?_
    rintro e w1 ⟨rfl, rfl⟩
    go_wp2_with fail
    try
      refine (HS.out.2 _).mono ?_
      rintro e w1 ⟨rfl, rfl⟩
      go_wp2_with fail
    go_ret
    exact ⟨rfl, (Ch.refl No w).alloc _⟩

set_option maxHeartbeats 4000000 in
theorem Right_any (x : Ent) (w : World) : Calls Try.prog 39 #[x.val] w fun e w' => e = .returned (.bool (okE x)) ∧ Ch No w w' := by
  have HE : Hid (∀ b : Bool, (b = true ↔ (0 ≤ x.t ∧ x.t ≤ 1125899906842624) ∧ (-1 ≤ x.tenant ∧ x.tenant ≤ 15) ∧ (-1 ≤ x.person ∧ x.person ≤ 63) ∧ (0 ≤ x.kind ∧ x.kind ≤ 255) ∧ (0 ≤ x.code ∧ x.code ≤ 255)) → okE x = b) := Lib.hid (by
    intro b hb
    rw [Bool.eq_iff_iff, hb]
    simp only [okE, Bool.and_eq_true, decide_eq_true_eq]
    omega)
  unfold Ent.val
  have hcase : x.t < 0 ∨ (0 ≤ x.t ∧ (1125899906842624 < x.t ∨ (x.t ≤ 1125899906842624 ∧ (x.tenant < -1 ∨ (-1 ≤ x.tenant ∧ (15 < x.tenant ∨ (x.tenant ≤ 15 ∧ (x.person < -1 ∨ (-1 ≤ x.person ∧ (63 < x.person ∨ (x.person ≤ 63 ∧ (x.kind < 0 ∨ (0 ≤ x.kind ∧ (255 < x.kind ∨ (x.kind ≤ 255 ∧ (x.code < 0 ∨ (0 ≤ x.code ∧ (255 < x.code ∨ x.code ≤ 255)))))))))))))))))) := by omega
  rcases hcase with h | ⟨h1, h | ⟨h2, h | ⟨h3, h | ⟨h4, h | ⟨h5, h | ⟨h6, h | ⟨h7, h | ⟨h8, h | ⟨h9, h | h⟩⟩⟩⟩⟩⟩⟩⟩⟩
  all_goals
    first
      | (rw [HE.out true (by simp only [true_iff]; omega)])
      | (rw [HE.out false (by simp only [Bool.false_eq_true, false_iff]; omega)])
    clear HE
    go_enter Try.func39, Try.ntmps39
    go_wp2_with fail
    go_ret
    exact ⟨ret_bool (by first | rfl | (simp <;> omega)), (Ch.refl No w).alloc _⟩

/-- which of two numbers is ahead -/
def cmp3 (x y : Int) : Int := if x < y then -1 else if y < x then 1 else 0
theorem nan64_any (n : Int) (w : World) : Calls Try.prog 68 #[.int .i64 n] w fun e w' => e = .returned (.bool false) ∧ w = w' := by
  go_enter Try.func68, Try.ntmps68
  go_wp2_with fail
  go_ret
  exact ⟨ret_bool (by simp), rfl⟩
theorem nan_any (n : Int) (w : World) : Calls Try.prog 69 #[.int .i64 n] w fun e w' => e = .returned (.bool false) ∧ w = w' := by
  go_enter Try.func69, Try.ntmps69
  go_wp2_with fail
  go_ret
  exact ⟨ret_bool (by simp), rfl⟩
theorem Cmp64_any (x y : Int) (w : World) : Calls Try.prog 55 #[.int .i64 x, .int .i64 y] w fun e w' => e = .returned (.int .i64 (cmp3 x y)) ∧ w = w' := by
  have hcase : x < y ∨ y < x ∨ (x ≤ y ∧ y ≤ x) := by omega
  rcases hcase with h | h | ⟨h, h'⟩
  all_goals
    have q : Hid (cmp3 x y = if x < y then -1 else if y < x then 1 else 0) := Lib.hid rfl
    go_enter Try.func55, Try.ntmps55
    go_wp2_with fail
    refine (nan64_any _ _).mono ?_
    rintro e w1 ⟨rfl, rfl⟩
    go_wp2_with fail
    refine (nan64_any _ _).mono ?_
    rintro e w1 ⟨rfl, rfl⟩
    go_wp2_with fail
    go_ret
    refine ⟨ret_i64 ?_, rfl⟩
    rw [q.out]
    (repeat' split) <;> omega
theorem Cmp_any (x y : Int) (w : World) : Calls Try.prog 56 #[.int .i64 x, .int .i64 y] w fun e w' => e = .returned (.int .i64 (cmp3 x y)) ∧ w = w' := by
  have hcase : x < y ∨ y < x ∨ (x ≤ y ∧ y ≤ x) := by omega
  rcases hcase with h | h | ⟨h, h'⟩
  all_goals
    have q : Hid (cmp3 x y = if x < y then -1 else if y < x then 1 else 0) := Lib.hid rfl
    go_enter Try.func56, Try.ntmps56
    go_wp2_with fail
    refine (nan_any _ _).mono ?_
    rintro e w1 ⟨rfl, rfl⟩
    go_wp2_with fail
    refine (nan_any _ _).mono ?_
    rintro e w1 ⟨rfl, rfl⟩
    go_wp2_with fail
    go_ret
    refine ⟨ret_i64 ?_, rfl⟩
    rw [q.out]
    (repeat' split) <;> omega
/-- the first that is not nought -/
def orI : List Int → Int
  | [] => 0
  | x :: l => if x = 0 then orI l else x
theorem Or_any (w : World) (A : Option Addr) (c : Nat) (xs : List Int) (h : Cls w A (ints .i64 xs)) (hl : xs.length ≤ 1000000) :
    Calls Try.prog 54 #[.slice A xs.length c] w fun e w' => e = .returned (.int .i64 (orI xs)) ∧ w = w' := by
  have HC := Lib.hid h
  clear h
  go_enter Try.func54, Try.ntmps54
  go_wp2_with fail
  go_loop [5, 8] (fun _ i => ∃ pre post : List Int, Hid (xs = pre ++ post ∧ orI xs = orI post) ∧ i = .int .i64 pre.length) (fun _ i => xs.length - (intOf i).toNat)
  case atStart => exact ⟨[], xs, Lib.hid ⟨rfl, rfl⟩, rfl⟩
  case round =>
    obtain ⟨pre, post, hx, rfl⟩ := hrel
    cases post with
    | nil =>
      obtain rfl : pre = xs := by have := hx.out.1; simpa using this.symm
      go_wp2_with fail
      go_ret
      exact ⟨ret_i64 (by rw [hx.out.2]; rfl), rfl⟩
    | cons x post =>
      have hlen : pre.length < xs.length := by rw [hx.out.1]; simp
      obtain ⟨b, off, rfl, hcx⟩ := HC.out.at hx.out.1
      by_cases h0 : x = 0
      · subst h0
        go_wp2_with fail
        go_round
        case rel => exact ⟨pre ++ [0], post, Lib.hid ⟨by rw [hx.out.1]; simp, by rw [hx.out.2]; rfl⟩, by simp⟩
        case measure => simp [intOf]; omega
      · have hne : (x == 0) = false := by simpa using h0
        have HN := Lib.hid h0
        clear h0
        go_wp2_with fail
        go_ret
        exact ⟨ret_i64 (by rw [hx.out.2]; unfold orI; rw [if_neg HN.out]), rfl⟩

/-- an entry's numbers, as they are held against others -/
def Ent.nums (x : Ent) : List Int := [x.t, x.tenant, x.person, x.kind, x.code, x.arg]
/-- is one entry ahead of another one? -/
def lexI : List Int → List Int → Bool
  | x :: xs, y :: ys => if x = y then lexI xs ys else decide (x < y)
  | _, _ => false
def lessE (x y : Ent) : Bool := lexI x.nums y.nums
theorem lessE_or (x y : Ent) : lessE x y = decide (orI [cmp3 x.t y.t, cmp3 x.tenant y.tenant, cmp3 x.person y.person, cmp3 x.kind y.kind, cmp3 x.code y.code, cmp3 x.arg y.arg] < 0) := by
  have step : ∀ (a b : Int) (xs ys zs : List Int), lexI xs ys = decide (orI zs < 0) → lexI (a :: xs) (b :: ys) = decide (orI (cmp3 a b :: zs) < 0) := by
    intro a b xs ys zs h
    unfold lexI orI
    by_cases e : a = b
    · subst e
      simp [cmp3, h]
    · rw [if_neg e]
      unfold cmp3
      by_cases hl : a < b
      · simp [hl]
      · have : b < a := by omega
        simp [hl, this]
  unfold lessE Ent.nums
  exact step _ _ _ _ _ (step _ _ _ _ _ (step _ _ _ _ _ (step _ _ _ _ _ (step _ _ _ _ _ (step _ _ _ _ _ (by simp [lexI, orI]))))))
end Go.Proofs.Ytflpelacjdnplaa
