/- The pure statement of AggShifts: of values that are all more by as much the sum is more by as many times, the least, the greatest and the average by as much; for every list of whole numbers of 64 bits and every shift. -/
import Derived.Test.YtoaekfocfdcgiaaPAggShiftsx4
import Derived.Test.YtoaekfocfdcgiaaAggLaw
namespace Go.Proofs.Ytoaekfocfdcgiaa.Pure
open Go.RowKit Go.Proofs.Ytoaekfocfdcgiaa.PAggShifts Go.Proofs.YtoaekfocfdcgiaaW.PrintWords Go.Proofs.YtoaekfocfdcgiaaW.PrintLast Go.Proofs.YtoaekfocfdcgiaaW.PrintMore
open Go.Proofs.Ytoaekfocfdcgiaa (Ag agMerge agOf agOne agNone agBoth Tells tells_of tells_shift wr wr_id wr_wf wfI wr_bd tmod_bd sum_bd avV avB div_down tdiv_wf ediv_wf wrap64_eq ediv_shift agOf_snoc snoc_ind Ag.ext')

theorem mn_eq (a b : Int) : mn a b = min a b := by unfold mn; omega
theorem mx_eq (a b : Int) : mx a b = max a b := by unfold mx; omega
theorem merge_eq (a b : Ag) (k : Nat) (hk : 0 < k) : agg_Merge.f k a.c a.s a.l a.h b.c b.s b.l b.h = some ((agMerge a b).c, (agMerge a b).s, (agMerge a b).l, (agMerge a b).h) := by
  obtain ⟨k, rfl⟩ : ∃ m, k = m + 1 := ⟨k - 1, by omega⟩
  unfold agg_Merge.f agMerge
  by_cases h1 : a.c < 1
  · rw [if_pos h1, if_pos h1]
    by_cases h2 : b.c < 1
    · simp [agg_Merge.j0, h2, agNone]
    · simp [agg_Merge.j0, h1, h2]
  · rw [if_neg h1, if_neg h1]
    by_cases h2 : b.c < 1
    · simp [agg_Merge.j0, h1, h2]
    · simp only [agg_Merge.j0]
      rw [if_neg (by simp), if_neg h1, if_neg h2, if_neg h2, wrap64_eq, wrap64_eq, mn_eq, mx_eq]
      rfl

theorem of_l0 (xs : List Int) (hl : xs.length < 1000000) : ∀ (d : Nat) (pre post : List Int) (k : Nat), xs = pre ++ post → post.length = d → d + 2 < k → 
    agg_Of.l0 k xs (xs.length : Int) (pre.length : Int) (agOf pre).c (agOf pre).s (agOf pre).l (agOf pre).h = some ((agOf xs).c, (agOf xs).s, (agOf xs).l, (agOf xs).h) := by
  intro d
  induction d with
  | zero =>
    intro pre post k hx hd hk
    obtain ⟨k, rfl⟩ : ∃ m, k = m + 1 := ⟨k - 1, by omega⟩
    have hp : post = [] := List.eq_nil_of_length_eq_zero hd
    subst hp
    rw [List.append_nil] at hx
    subst hx
    simp only [agg_Of.l0]
    rw [if_neg (by omega)]
  | succ d ih =>
    intro pre post k hx hd hk
    obtain ⟨k, rfl⟩ : ∃ m, k = m + 1 := ⟨k - 1, by omega⟩
    cases post with
    | nil => simp at hd
    | cons x post =>
      have hlen : pre.length < xs.length := by rw [hx]; simp
      have hr : rd xs (pre.length : Int) = x := by
        unfold rd
        rw [hx, List.getD_eq_getElem?_getD]
        simp
      simp only [agg_Of.l0, agg_One.f]
      rw [if_pos (by omega), if_pos (by omega), if_pos (by omega)]
      simp only [Option.bind_some]
      have hm := merge_eq (agOf pre) (agOne x) k (by omega)
      rw [← agOf_snoc] at hm
      rw [hr]
      simp only [agOne] at hm
      rw [hm]
      simp only [Option.bind_some]
      have := ih (pre ++ [x]) post k (by rw [hx]; simp) (by simpa using hd) (by omega)
      rw [show wrap64 ((pre.length : Int) + 1) = ((pre ++ [x]).length : Int) from by rw [List.length_append]; simp; unfold wrap64; omega]
      exact this

theorem of_eq (xs : List Int) (hl : xs.length < 1000000) (k : Nat) (hk : xs.length + 2 < k) : agg_Of.f k xs = some ((agOf xs).c, (agOf xs).s, (agOf xs).l, (agOf xs).h) :=
  of_l0 xs hl xs.length [] xs k rfl rfl hk

theorem avg_eq (a : Ag) (hs : wfI a.s) : agg_Avg.f a.c a.s a.l a.h = some (avV a, avB a) := by
  unfold agg_Avg.f avV avB
  by_cases h : a.c < 1
  · rw [if_pos h, if_pos h]
    have : ¬ 1 ≤ a.c := by omega
    simp [this]
  · rw [if_neg h, if_neg h, if_neg (by omega)]
    have h1 : 1 ≤ a.c := by omega
    have hd := div_down a.s a.c h1
    have q1 : wrap64 (Int.tdiv a.s a.c) = Int.tdiv a.s a.c := by rw [wrap64_eq]; exact wr_id (tdiv_wf hs h1)
    have w2 := ediv_wf hs h1
    by_cases hr : Int.tmod a.s a.c < 0
    · rw [if_pos hr] at hd
      rw [if_pos hr, q1, wrap64_eq, ← hd, wr_id w2]
      simp [h1]
    · rw [if_neg hr] at hd
      rw [if_neg hr, q1, ← hd]
      simp [h1]

theorem alive_eq : clerestorylaw08_alive.f 20 = some true := by decide +kernel

/-- the loop, and what stands behind it -/
theorem shifts_l0 (x0 : List Int) (b : Int) (hb : -1099511627776 < b ∧ b < 1099511627776) (hl : x0.length ≤ 300) : ∀ (d : Nat) (pre post : List Int) (k : Nat), x0 = pre ++ post → post.length = d → d + 500 < k →
    clerestorylaw08_AggShifts.l0 k x0 b (pre.map (fun x => x.tmod 1099511627776)) ((pre.map (fun x => x.tmod 1099511627776)).map (· + b)) x0 (x0.length : Int) (pre.length : Int) = some true := by
  intro d
  induction d with
  | zero =>
    intro pre post k hx hd hk
    obtain ⟨k, rfl⟩ : ∃ m, k = m + 1 := ⟨k - 1, by omega⟩
    have hp : post = [] := List.eq_nil_of_length_eq_zero hd
    subst hp
    rw [List.append_nil] at hx
    subst hx
    generalize hA : x0.map (fun x => x.tmod 1099511627776) = A
    have hAl : A.length = x0.length := by rw [← hA]; simp
    have hAb : ∀ y ∈ A, -1099511627776 < y ∧ y < 1099511627776 := by
      intro y hy
      rw [← hA] at hy
      obtain ⟨z, _, rfl⟩ := List.mem_map.1 hy
      have := tmod_bd z (m := 1099511627776) (by omega)
      omega
    have hBl : (A.map (· + b)).length = x0.length := by simp [hAl]
    have tA := tells_of A (fun y hy => by have := hAb y hy; unfold wfI; omega) (by omega)
    have tB := tells_of (A.map (· + b)) (fun y hy => by
      obtain ⟨z, hz, rfl⟩ := List.mem_map.1 hy
      have := hAb z hz
      unfold wfI; omega) (by omega)
    simp only [clerestorylaw08_AggShifts.l0]
    rw [if_neg (by omega), of_eq A (by omega) k (by omega), of_eq (A.map (· + b)) (by omega) k (by omega)]
    simp only [Option.bind_some]
    by_cases h0 : A = []
    · subst h0
      have : (x0.length : Int) = 0 := by simp at hAl; omega
      rw [if_pos this]
      simp [agOf, agNone]
    · have hne : x0.length ≠ 0 := by
        intro h
        rw [h] at hAl
        exact h0 (List.eq_nil_of_length_eq_zero hAl)
      rw [if_neg (by omega)]
      have hsh := tB.unique (tells_shift tA b h0)
      have hsA := sum_bd (xs := A) (M := 1099511627776) (fun y hy => by have := hAb y hy; omega)
      have hws : wfI (agOf A).s := by rw [tA.s]; exact wr_wf _
      have hwt : wfI (agOf (A.map (· + b))).s := by rw [tB.s]; exact wr_wf _
      have hc := tA.c
      obtain ⟨⟨m1, m2⟩, m3, m4⟩ := tA.some h0
      have n1 := hAb _ m1
      have n3 := hAb _ m3
      have hbn : -(1099511627776 * 300) ≤ b * (x0.length : Int) ∧ b * (x0.length : Int) ≤ 1099511627776 * 300 := by
        have hn1 : (x0.length : Int) ≤ 300 := by omega
        constructor
        · have : -1099511627776 * (x0.length : Int) ≤ b * (x0.length : Int) := Int.mul_le_mul_of_nonneg_right (by omega) (by omega)
          omega
        · have : b * (x0.length : Int) ≤ 1099511627776 * (x0.length : Int) := Int.mul_le_mul_of_nonneg_right (by omega) (by omega)
          omega
      rw [hAl] at hsA
      have hs : (agOf A).s = A.sum := by rw [tA.s]; exact wr_bd (by omega) (by omega)
      rw [avg_eq (agOf A) hws, avg_eq (agOf (A.map (· + b))) hwt]
      simp only [Option.bind_some]
      rw [hsh]
      rw [hAl]
      have e1 : wr ((agOf A).s + b * (x0.length : Int)) = wrap64 ((agOf A).s + wrap64 (b * (x0.length : Int))) := by
        rw [wrap64_eq, wrap64_eq, wr_bd (x := b * (x0.length : Int)) (by omega) (by omega)]
      have e2 : (agOf A).l + b = wrap64 ((agOf A).l + b) := by rw [wrap64_eq, wr_bd (by omega) (by omega)]
      have e3 : (agOf A).h + b = wrap64 ((agOf A).h + b) := by rw [wrap64_eq, wr_bd (by omega) (by omega)]
      rw [if_pos rfl, if_pos e1, if_pos e2, if_pos e3]
      have e4 : wr ((agOf A).s + b * (x0.length : Int)) = (agOf A).s + b * (x0.length : Int) := wr_bd (by omega) (by omega)
      have hav : avV ⟨(agOf A).c, wr ((agOf A).s + b * (x0.length : Int)), (agOf A).l + b, (agOf A).h + b⟩ = avV (agOf A) + b := by
        unfold avV
        simp only
        rw [if_neg (by omega), if_neg (by omega), e4, hc, hAl]
        exact ediv_shift _ _ (by omega)
      rw [hav]
      have hq : wfI (avV (agOf A) + b) := by
        rw [← hav]
        unfold avV
        simp only
        rw [if_neg (by omega)]
        exact ediv_wf (wr_wf _) (by omega)
      rw [wrap64_eq, wr_id hq]
      simp
  | succ d ih =>
    intro pre post k hx hd hk
    obtain ⟨k, rfl⟩ : ∃ m, k = m + 1 := ⟨k - 1, by omega⟩
    cases post with
    | nil => simp at hd
    | cons x post =>
      have hlen : pre.length < x0.length := by rw [hx]; simp
      have hr : rd x0 (pre.length : Int) = x := by
        unfold rd
        rw [hx, List.getD_eq_getElem?_getD]
        simp
      simp only [clerestorylaw08_AggShifts.l0]
      rw [if_pos (by omega), if_pos (by omega), if_pos (by omega), if_pos (by simp; omega), if_pos (by simp; omega), hr]
      have ht := tmod_bd x (m := 1099511627776) (by omega)
      have := ih (pre ++ [x]) post k (by rw [hx]; simp) (by simpa using hd) (by omega)
      rw [show wrap64 ((pre.length : Int) + 1) = ((pre ++ [x]).length : Int) from by rw [List.length_append]; simp; unfold wrap64; omega]
      rw [wrap64_eq (x.tmod 1099511627776 + b), wr_bd (by omega) (by omega)]
      simpa using this

theorem AggShifts : clerestorylaw08_AggShifts.Pure := by
  intro l0 a1 _ _ _ _
  refine ⟨1000, ?_⟩
  unfold clerestorylaw08_AggShifts.f
  rw [at_rounds clerestorylaw08_alive.mono (show 20 ≤ 1000 by omega) alive_eq]
  simp only [Option.bind_some]
  rw [if_pos trivial]
  by_cases h : (l0.length : Int) > 300
  · rw [if_pos h]
  · rw [if_neg h]
    have hb := tmod_bd a1 (m := 1099511627776) (by omega)
    exact shifts_l0 l0 (a1.tmod 1099511627776) hb (by omega) l0.length [] l0 1000 rfl rfl (by omega)

end Go.Proofs.Ytoaekfocfdcgiaa.Pure
