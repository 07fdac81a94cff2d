/- agg's functions, and the reference's: what each comes to. -/
import Derived.Test.YtoaekfocfdcgiaaProg
import Derived.Test.YtoaekfocfdcgiaaAggLaw
import Derived.Test.YtoaekfocfdcgiaaQuiet
import Derived.Deep.LoopGhost
namespace Go.Proofs.Ytoaekfocfdcgiaa
open Go.RowKit

/-- what is told, as the program has it -/
@[reducible] def agV (a : Ag) : Value := .agg #[.int .i64 a.c, .int .i64 a.s, .int .i64 a.l, .int .i64 a.h]
theorem wr_eq (x : Int) : IntKind.i64.wrap x = wr x := IntKind.wrap_i64 x

theorem One_any (v : Int) (w : World) : Calls Try.prog 45 #[.int .i64 v] w fun e w' => e = .returned (.agg #[.int .i64 1, .int .i64 v, .int .i64 v, .int .i64 v]) ∧ Ch No w w' := by
  go_enter Try.func45, Try.ntmps45
  go_wp2
  exact bodyPost_ret (v := .agg #[.int .i64 1, .int .i64 v, .int .i64 v, .int .i64 v]) (by simp [results, Try.results45, go_sem]) rfl ⟨rfl, (by repeat (first | exact Ch.refl _ _ | apply Ch.alloc | apply Ch.drewN))⟩

set_option maxHeartbeats 1000000 in
theorem LMerge_core (c1 s1 l1 h1 c2 s2 l2 h2 : Int) (w : World) : Calls Try.prog 43 #[.agg #[.int .i64 c1, .int .i64 s1, .int .i64 l1, .int .i64 h1], .agg #[.int .i64 c2, .int .i64 s2, .int .i64 l2, .int .i64 h2]] w
    fun e w' => e = .returned (agV (agMerge ⟨c1, s1, l1, h1⟩ ⟨c2, s2, l2, h2⟩)) ∧ Ch No w w' := by
  have e1 := wr_eq (c1 + c2)
  have e2 := wr_eq (s1 + s2)
  by_cases hc1 : c1 < 1
  · by_cases hc2 : c2 < 1
    · rw [show agMerge ⟨c1, s1, l1, h1⟩ ⟨c2, s2, l2, h2⟩ = agNone from by simp [agMerge, hc1, hc2]]
      go_enter Try.func43, Try.ntmps43
      go_wp2
      exact bodyPost_ret (v := agV agNone) (by simp [agV, agNone, results, Try.results43, go_sem]) rfl ⟨rfl, (by repeat (first | exact Ch.refl _ _ | apply Ch.alloc | apply Ch.drewN))⟩
    · rw [show agMerge ⟨c1, s1, l1, h1⟩ ⟨c2, s2, l2, h2⟩ = ⟨c2, s2, l2, h2⟩ from by simp [agMerge, hc1, hc2]]
      go_enter Try.func43, Try.ntmps43
      go_wp2
      exact bodyPost_ret (v := agV ⟨c2, s2, l2, h2⟩) (by simp [agV, results, Try.results43, go_sem]) rfl ⟨rfl, (by repeat (first | exact Ch.refl _ _ | apply Ch.alloc | apply Ch.drewN))⟩
  · by_cases hc2 : c2 < 1
    · rw [show agMerge ⟨c1, s1, l1, h1⟩ ⟨c2, s2, l2, h2⟩ = ⟨c1, s1, l1, h1⟩ from by simp [agMerge, hc1, hc2]]
      go_enter Try.func43, Try.ntmps43
      go_wp2
      exact bodyPost_ret (v := agV ⟨c1, s1, l1, h1⟩) (by simp [agV, results, Try.results43, go_sem]) rfl ⟨rfl, (by repeat (first | exact Ch.refl _ _ | apply Ch.alloc | apply Ch.drewN))⟩
    · rw [show agMerge ⟨c1, s1, l1, h1⟩ ⟨c2, s2, l2, h2⟩ = ⟨wr (c1 + c2), wr (s1 + s2), min l1 l2, max h1 h2⟩ from by simp [agMerge, agBoth, hc1, hc2]]
      go_enter Try.func43, Try.ntmps43
      go_wp2
      all_goals
        exact bodyPost_ret (v := agV ⟨wr (c1 + c2), wr (s1 + s2), min l1 l2, max h1 h2⟩) (by simp [agV, results, Try.results43, go_sem]; omega) rfl ⟨rfl, (by repeat (first | exact Ch.refl _ _ | apply Ch.alloc | apply Ch.drewN))⟩

set_option maxHeartbeats 1000000 in
theorem RMerge_core (c1 s1 l1 h1 c2 s2 l2 h2 : Int) (w : World) : Calls Try.prog 44 #[.agg #[.int .i64 c1, .int .i64 s1, .int .i64 l1, .int .i64 h1], .agg #[.int .i64 c2, .int .i64 s2, .int .i64 l2, .int .i64 h2]] w
    fun e w' => e = .returned (agV (agMerge ⟨c1, s1, l1, h1⟩ ⟨c2, s2, l2, h2⟩)) ∧ Ch No w w' := by
  have e1 := wr_eq (c1 + c2)
  have e2 := wr_eq (s1 + s2)
  by_cases hc2 : c2 < 1
  · by_cases hc1 : c1 < 1
    · rw [show agMerge ⟨c1, s1, l1, h1⟩ ⟨c2, s2, l2, h2⟩ = agNone from by simp [agMerge, hc1, hc2]]
      go_enter Try.func44, Try.ntmps44
      go_wp2
      exact bodyPost_ret (v := agV agNone) (by simp [agV, agNone, results, Try.results44, go_sem]) rfl ⟨rfl, (by repeat (first | exact Ch.refl _ _ | apply Ch.alloc | apply Ch.drewN))⟩
    · rw [show agMerge ⟨c1, s1, l1, h1⟩ ⟨c2, s2, l2, h2⟩ = ⟨c1, s1, l1, h1⟩ from by simp [agMerge, hc1, hc2]]
      go_enter Try.func44, Try.ntmps44
      go_wp2
      exact bodyPost_ret (v := agV ⟨c1, s1, l1, h1⟩) (by simp [agV, results, Try.results44, go_sem]) rfl ⟨rfl, (by repeat (first | exact Ch.refl _ _ | apply Ch.alloc | apply Ch.drewN))⟩
  · by_cases hc1 : c1 < 1
    · rw [show agMerge ⟨c1, s1, l1, h1⟩ ⟨c2, s2, l2, h2⟩ = ⟨c2, s2, l2, h2⟩ from by simp [agMerge, hc1, hc2]]
      go_enter Try.func44, Try.ntmps44
      go_wp2
      exact bodyPost_ret (v := agV ⟨c2, s2, l2, h2⟩) (by simp [agV, results, Try.results44, go_sem]) rfl ⟨rfl, (by repeat (first | exact Ch.refl _ _ | apply Ch.alloc | apply Ch.drewN))⟩
    · rw [show agMerge ⟨c1, s1, l1, h1⟩ ⟨c2, s2, l2, h2⟩ = ⟨wr (c1 + c2), wr (s1 + s2), min l1 l2, max h1 h2⟩ from by simp [agMerge, agBoth, hc1, hc2]]
      by_cases hl : l2 < l1 <;> by_cases hh : h1 < h2
      all_goals
        go_enter Try.func44, Try.ntmps44
        go_wp2
        exact bodyPost_ret (v := agV ⟨wr (c1 + c2), wr (s1 + s2), min l1 l2, max h1 h2⟩) (by simp [agV, results, Try.results44, go_sem]; omega) rfl ⟨rfl, (by repeat (first | exact Ch.refl _ _ | apply Ch.alloc | apply Ch.drewN))⟩
theorem LMerge_any (a b : Ag) (w : World) : Calls Try.prog 43 #[agV a, agV b] w fun e w' => e = .returned (agV (agMerge a b)) ∧ Ch No w w' := LMerge_core _ _ _ _ _ _ _ _ w
theorem RMerge_any (a b : Ag) (w : World) : Calls Try.prog 44 #[agV a, agV b] w fun e w' => e = .returned (agV (agMerge a b)) ∧ Ch No w w' := RMerge_core _ _ _ _ _ _ _ _ w

set_option maxHeartbeats 1000000 in
theorem LAvg_core (c s l h : Int) (w : World) (hs : wfI s) : Calls Try.prog 37 #[.agg #[.int .i64 c, .int .i64 s, .int .i64 l, .int .i64 h]] w
    fun e w' => e = .returned (.tuple #[.int .i64 (avV ⟨c, s, l, h⟩), .bool (avB ⟨c, s, l, h⟩)]) ∧ Ch No w w' := by
  by_cases h1 : c < 1
  · have e1 : avV ⟨c, s, l, h⟩ = 0 := by simp [avV, h1]
    have e2 : avB ⟨c, s, l, h⟩ = false := by simp [avB]; omega
    rw [e1, e2]
    clear e1 e2 hs
    go_enter Try.func37, Try.ntmps37
    go_wp2
    exact bodyPost_ret (v := .tuple #[.int .i64 0, .bool false]) (by simp [results, Try.results37, go_sem]) rfl ⟨rfl, (by repeat (first | exact Ch.refl _ _ | apply Ch.alloc | apply Ch.drewN))⟩
  · have e1 : avV ⟨c, s, l, h⟩ = s / c := by simp [avV, h1]
    have e2 : avB ⟨c, s, l, h⟩ = true := by simp [avB]; omega
    have hd := div_down s c (by omega)
    have q1 : wrap64 (s.tdiv c) = s.tdiv c := by rw [wrap64_eq]; exact wr_id (tdiv_wf hs (by omega))
    have w2 := ediv_wf hs (show 1 ≤ c by omega)
    rw [e1, e2]
    clear e1 e2 hs
    by_cases hr : s.tmod c < 0
    · rw [if_pos hr] at hd
      have q2 : wrap64 (s.tdiv c - 1) = s / c := by rw [← hd, wrap64_eq]; exact wr_id w2
      clear hd w2
      generalize s / c = d at *
      go_enter Try.func37, Try.ntmps37
      go_wp2
      exact bodyPost_ret (v := .tuple #[.int .i64 d, .bool true]) (by simp [results, Try.results37, go_sem]) rfl ⟨rfl, (by repeat (first | exact Ch.refl _ _ | apply Ch.alloc | apply Ch.drewN))⟩
    · rw [if_neg hr] at hd
      rw [hd]
      clear hd w2
      go_enter Try.func37, Try.ntmps37
      go_wp2
      exact bodyPost_ret (v := .tuple #[.int .i64 (s.tdiv c), .bool true]) (by simp [results, Try.results37, go_sem]) rfl ⟨rfl, (by repeat (first | exact Ch.refl _ _ | apply Ch.alloc | apply Ch.drewN))⟩

set_option maxHeartbeats 1000000 in
theorem RAvg_core (c s l h : Int) (w : World) (hs : wfI s) : Calls Try.prog 38 #[.agg #[.int .i64 c, .int .i64 s, .int .i64 l, .int .i64 h]] w
    fun e w' => e = .returned (.tuple #[.int .i64 (avV ⟨c, s, l, h⟩), .bool (avB ⟨c, s, l, h⟩)]) ∧ Ch No w w' := by
  by_cases h1 : c < 1
  · have e1 : avV ⟨c, s, l, h⟩ = 0 := by simp [avV, h1]
    have e2 : avB ⟨c, s, l, h⟩ = false := by simp [avB]; omega
    rw [e1, e2]
    clear e1 e2 hs
    go_enter Try.func38, Try.ntmps38
    go_wp2
    exact bodyPost_ret (v := .tuple #[.int .i64 0, .bool false]) (by simp [results, Try.results38, go_sem]) rfl ⟨rfl, (by repeat (first | exact Ch.refl _ _ | apply Ch.alloc | apply Ch.drewN))⟩
  · have e1 : avV ⟨c, s, l, h⟩ = s / c := by simp [avV, h1]
    have e2 : avB ⟨c, s, l, h⟩ = true := by simp [avB]; omega
    have hd := div_down s c (by omega)
    have q1 : wrap64 (s.tdiv c) = s.tdiv c := by rw [wrap64_eq]; exact wr_id (tdiv_wf hs (by omega))
    have q3 := tmod_zero_iff hs (show 1 ≤ c by omega)
    have q4 := down_iff (s := s) (c := c)
    have w2 := ediv_wf hs (show 1 ≤ c by omega)
    rw [e1, e2]
    clear e1 e2 hs
    by_cases hn : s < 0
    · by_cases hr : s.tdiv c * c = s
      · rw [if_neg (fun h => (q4.1 h).2 hr)] at hd
        rw [hr] at q3
        rw [hd]
        clear hd w2 q4
        go_enter Try.func38, Try.ntmps38
        go_wp2
        exact bodyPost_ret (v := .tuple #[.int .i64 (s.tdiv c), .bool true]) (by simp [results, Try.results38, go_sem]) rfl ⟨rfl, (by repeat (first | exact Ch.refl _ _ | apply Ch.alloc | apply Ch.drewN))⟩
      · rw [if_pos (q4.2 ⟨hn, hr⟩)] at hd
        have q2 : wrap64 (s.tdiv c - 1) = s / c := by rw [← hd, wrap64_eq]; exact wr_id w2
        clear hd w2 q4
        generalize s / c = d at *
        go_enter Try.func38, Try.ntmps38
        go_wp2
        exact bodyPost_ret (v := .tuple #[.int .i64 d, .bool true]) (by simp [results, Try.results38, go_sem]) rfl ⟨rfl, (by repeat (first | exact Ch.refl _ _ | apply Ch.alloc | apply Ch.drewN))⟩
    · rw [if_neg (fun h => hn (q4.1 h).1)] at hd
      rw [hd]
      clear hd w2 q4 q3
      go_enter Try.func38, Try.ntmps38
      go_wp2
      exact bodyPost_ret (v := .tuple #[.int .i64 (s.tdiv c), .bool true]) (by simp [results, Try.results38, go_sem]) rfl ⟨rfl, (by repeat (first | exact Ch.refl _ _ | apply Ch.alloc | apply Ch.drewN))⟩
theorem LAvg_any (a : Ag) (w : World) (hs : wfI a.s) : Calls Try.prog 37 #[agV a] w fun e w' => e = .returned (.tuple #[.int .i64 (avV a), .bool (avB a)]) ∧ Ch No w w' := LAvg_core _ _ _ _ w hs
theorem RAvg_any (a : Ag) (w : World) (hs : wfI a.s) : Calls Try.prog 38 #[agV a] w fun e w' => e = .returned (.tuple #[.int .i64 (avV a), .bool (avB a)]) ∧ Ch No w w' := RAvg_core _ _ _ _ w hs
end Go.Proofs.Ytoaekfocfdcgiaa
