/- JournalPages: the plain law: page by page all comes, each once. No walk. -/
import Derived.Test.YtflpelacjdnplaaJrnPage
namespace Go.Proofs.Ytflpelacjdnplaa

theorem numJ_snoc (gone : Nat) (L : List Ent) (x : Ent) : numJ gone (L ++ [x]) (L ++ [x]).length = numJ gone L L.length ++ [((gone : Int) + 1 + (L.length : Nat), x)] := by
  unfold numJ
  rw [List.take_length, List.take_length, List.mapIdx_append]
  simp
/-- of the numbers that a tenant's pages have those from one on -/
theorem selJ_from (tenant f0 f : Int) (h : f0 ≤ f) (P : List (Int × Ent)) : selJ tenant f P = (selJ tenant f0 P).filter fun i => decide (f ≤ i) := by
  induction P with
  | nil => rfl
  | cons x P ih =>
    have h1 := selJ_app tenant f [x] P
    have h2 := selJ_app tenant f0 [x] P
    rw [List.singleton_append] at h1 h2
    rw [h1, h2, List.filter_append, ih]
    congr 1
    unfold selJ
    by_cases hf : f ≤ x.1
    · have hf0 : f0 ≤ x.1 := by omega
      by_cases hq : (decide (tenant ≤ -2) || decide (x.2.tenant = tenant)) = true
      · simp [List.filter, hf, hf0, hq]
      · simp only [Bool.not_eq_true] at hq
        simp [List.filter, hq]
    · by_cases hq : (decide (f0 ≤ x.1) && (decide (tenant ≤ -2) || decide (x.2.tenant = tenant))) = true
      · simp [List.filter, hf, hq]
      · simp only [Bool.not_eq_true] at hq
        simp [List.filter, hf, hq]
/-- they rise -/
theorem numJ_rise (gone : Nat) (L : List Ent) : (numJ gone L L.length).Pairwise fun a b => a.1 < b.1 := by
  unfold numJ
  rw [List.pairwise_iff_getElem]
  intro i j hi hj hij
  simp only [List.getElem_mapIdx]
  omega
theorem selJ_rise (tenant f : Int) (gone : Nat) (L : List Ent) : (selJ tenant f (numJ gone L L.length)).Pairwise (· < ·) := by
  unfold selJ
  rw [List.pairwise_map]
  exact (numJ_rise gone L).filter _
/-- behind a page come those beyond its last -/
theorem rest_next {S A B : List Int} {f z : Int} (hS : S.Pairwise (· < ·)) (h : (S.filter fun i => decide (f ≤ i)) = A ++ [z] ++ B) : (S.filter fun i => decide (z + 1 ≤ i)) = B := by
  have hR : (A ++ [z] ++ B).Pairwise (· < ·) := by rw [← h]; exact hS.filter _
  have hz : f ≤ z := by
    have : z ∈ S.filter fun i => decide (f ≤ i) := by rw [h]; simp
    simpa using (List.mem_filter.1 this).2
  have h1 : (S.filter fun i => decide (z + 1 ≤ i)) = (S.filter fun i => decide (f ≤ i)).filter fun i => decide (z + 1 ≤ i) := by
    rw [List.filter_filter]
    refine List.filter_congr fun x _ => ?_
    by_cases hx : z + 1 ≤ x
    · have : f ≤ x := by omega
      simp [hx, this]
    · simp [hx]
  rw [h1, h, List.filter_append, List.filter_eq_nil_iff.2, List.nil_append, List.filter_eq_self.2]
  · intro x hx
    have := (List.pairwise_append.1 hR).2.2 z (by simp) x hx
    simp
    omega
  · intro x hx
    rw [List.mem_append, List.mem_singleton] at hx
    rcases hx with hx | rfl
    · have := (List.pairwise_append.1 (List.pairwise_append.1 hR).1).2.2 x hx z (by simp)
      simp
      omega
    · simp
      omega
end Go.Proofs.Ytflpelacjdnplaa
