/- The reference's Of: what it comes to (by the printed walk). -/
import Derived.Test.YtoaekfocfdcgiaaPAggTellsx5
import Derived.Test.YtoaekfocfdcgiaaAggAlive
import Derived.Test.YtoaekfocfdcgiaaPAid
namespace Go.Proofs.Ytoaekfocfdcgiaa
open Go.RowKit Go.Proofs.YtoaekfocfdcgiaaW.PrintWords Go.Proofs.Ytoaekfocfdcgiaa.PAggTells

theorem of_next {pre : List Int} {x : Int} (hp : pre ≠ []) (hl : pre.length < 1000000) (hw : ∀ y ∈ pre, wfI y) :
    (agOf (pre ++ [x])).s = wr ((agOf pre).s + x) ∧ (agOf (pre ++ [x])).l = (if x < (agOf pre).l then x else (agOf pre).l) ∧ (agOf (pre ++ [x])).h = (if (agOf pre).h < x then x else (agOf pre).h) := by
  have ht := tells_of pre hw hl
  have h0 : 0 < pre.length := List.length_pos_iff.2 hp
  have hc := ht.c
  rw [agOf_snoc]
  unfold agMerge
  rw [if_neg (by omega), if_neg (by simp [agOne])]
  simp only [agBoth, agOne]
  refine ⟨trivial, ?_, ?_⟩
  · split <;> omega
  · split <;> omega

theorem ref_l0 (xs : List Int) (hl : xs.length < 1000000) (hw : ∀ y ∈ xs, wfI y) : ∀ (d : Nat) (pre post : List Int) (k : Nat), xs = pre ++ post → post.length = d → 2 * d + 2 < k →
    clerestoryref08_Of.l0 k xs (pre.length : Int) (xs.length : Int) (agOf pre).s (agOf pre).l (agOf pre).h = some ((xs.length : Int), (agOf xs).s, (agOf xs).l, (agOf xs).h) := by
  intro d
  induction d with
  | zero =>
    intro pre post k hx hd hk
    obtain ⟨k, rfl⟩ : ∃ m, k = m + 1 := ⟨k - 1, by omega⟩
    have hp : post = [] := List.eq_nil_of_length_eq_zero hd
    subst hp
    rw [List.append_nil] at hx
    subst hx
    simp only [clerestoryref08_Of.l0]
    rw [if_neg (by omega)]
  | succ d ih =>
    intro pre post k hx hd hk
    obtain ⟨k, rfl⟩ : ∃ m, k = m + 1 := ⟨k - 1, by omega⟩
    cases post with
    | nil => simp at hd
    | cons x post =>
      have hlen : pre.length < xs.length := by rw [hx]; simp
      have hr : rd xs (pre.length : Int) = x := by
        unfold rd
        rw [hx, List.getD_eq_getElem?_getD]
        simp
      have hi : wrap64 ((pre.length : Int) + 1) = ((pre ++ [x]).length : Int) := by rw [List.length_append]; simp; unfold wrap64; omega
      have wx := hw x (by rw [hx]; simp)
      simp only [clerestoryref08_Of.l0]
      rw [if_pos (by omega), if_pos (by omega), hr]
      obtain ⟨k, rfl⟩ : ∃ m, k = m + 1 := ⟨k - 1, by omega⟩
      have hn := ih (pre ++ [x]) post k (by rw [hx]; simp) (by simpa using hd) (by omega)
      by_cases hp : pre = []
      · subst hp
        have e0 : agOf [] = ⟨0, 0, 0, 0⟩ := rfl
        have e1 : agOf ([] ++ [x]) = ⟨1, x, x, x⟩ := rfl
        rw [e1] at hn
        rw [if_pos (by simp)]
        simp only [clerestoryref08_Of.j1, hr]
        rw [if_pos trivial, if_pos (by simp), if_pos (by omega), if_pos (by simp), hi, e0]
        simp only
        rw [Int.zero_add, wrap64_eq, wr_id wx]
        exact hn
      · obtain ⟨n1, n2, n3⟩ := of_next (x := x) hp (by omega) (fun y hy => hw y (by rw [hx]; simp [hy]))
        have h0 : 0 < pre.length := List.length_pos_iff.2 hp
        rw [n1, n2, n3] at hn
        rw [if_neg (by omega)]
        simp only [clerestoryref08_Of.j1, hr]
        by_cases hxl : x < (agOf pre).l
        · rw [if_pos hxl] at hn
          rw [if_pos (by simpa using hxl), if_pos (by omega), if_pos (by omega), if_neg (by omega), hi, wrap64_eq]
          by_cases hxh : (agOf pre).h < x
          · rw [if_pos hxh] at hn
            rw [if_pos hxh]
            exact hn
          · rw [if_neg hxh] at hn
            rw [if_neg (by omega)]
            exact hn
        · rw [if_neg hxl] at hn
          rw [if_neg (by simpa using hxl), if_neg (by omega), if_pos (by omega), if_pos (by omega), hi, wrap64_eq]
          by_cases hxh : (agOf pre).h < x
          · rw [if_pos hxh] at hn
            rw [if_pos hxh]
            exact hn
          · rw [if_neg hxh] at hn
            rw [if_neg (by omega)]
            exact hn

theorem ROf_any (xs : List Int) (A : Option Addr) (cap : Nat) (w : World) (h : Cls w A (ints .i64 xs)) (hc : xs.length ≤ cap) (hl : xs.length < 1000000) (hw : ∀ y ∈ xs, wfI y) :
    Calls Try.prog 42 #[.slice A xs.length cap] w fun e w' => e = .returned (agV (agOf xs)) ∧ Ch No w w' := by
  have ht := tells_of xs hw hl
  have hf : clerestoryref08_Of.f (2 * xs.length + 3) xs = some ((agOf xs).c, (agOf xs).s, (agOf xs).l, (agOf xs).h) := by
    rw [ht.c]
    exact ref_l0 xs hl hw xs.length [] xs _ rfl rfl (by omega)
  exact (clerestoryref08_Of.calls _ A cap xs _ _ _ _ w (Kd.C_of_reads (d := (0 : Int)) (h1 := fun _ => rfl) (reads_of_cls h (by omega))) hc hf).mono fun e w' ⟨h1, h2⟩ => ⟨h1, Ch.of_below h2⟩
end Go.Proofs.Ytoaekfocfdcgiaa
