/- Left, Spent, Spend, New of a ledger: what they come to. -/
import Derived.Test.YtjphocpnmhheeaaBudMem
namespace Go.Proofs.Ytjphocpnmhheeaa
open Go.RowKit

theorem leftI_at (pre post : List Acc) (a : Acc) : leftI (pre ++ a :: post) (pre.length : Nat) = a.m - a.s := by simp [leftI]
theorem spentI_at (pre post : List Acc) (a : Acc) : spentI (pre ++ a :: post) (pre.length : Nat) = a.s := by simp [spentI]
theorem split_at {l : List Acc} {i : Int} (h0 : 0 ≤ i) (h1 : i < l.length) : ∃ pre a post, l = pre ++ a :: post ∧ i = (pre.length : Nat) := by
  refine ⟨l.take i.toNat, l[i.toNat]'(by omega), l.drop (i.toNat + 1), ?_, ?_⟩
  · rw [List.getElem_cons_drop, List.take_append_drop]
  · rw [List.length_take]; omega
theorem leftI_out {l : List Acc} {i : Int} (h : ¬ (0 ≤ i ∧ i < l.length)) : leftI l i = 0 := by
  unfold leftI
  split
  · rw [List.getElem?_eq_none (by omega)]
  · rfl
theorem spentI_out {l : List Acc} {i : Int} (h : ¬ (0 ≤ i ∧ i < l.length)) : spentI l i = 0 := by
  unfold spentI
  split
  · rw [List.getElem?_eq_none (by omega)]
  · rfl

set_option maxHeartbeats 1000000 in
theorem BLeft_any (w : World) (B g : Nat) (k : Option Nat) (l : List Acc) (h : Led w B g k l) (i : Int) :
    Calls Try.prog 29 #[.pointer (some ⟨g, 0, none⟩), .int .i64 i] w fun e w' => e = .returned (.tuple #[.int .i64 (leftI l i), .int .i64 (errI l i)]) ∧ Ch No w w' := by
  have HT := Lib.hid (Bthere_any w B g k l h i)
  by_cases hi : 0 ≤ i ∧ i < l.length
  · obtain ⟨pre, a, post, rfl, rfl⟩ := split_at hi.1 hi.2
    obtain ⟨kb, c, hk, q0, q1, q2, _, hc⟩ := h.at
    obtain ⟨o1, o2, o3⟩ := h.ok a (by simp)
    rw [leftI_at, show errI (pre ++ a :: post) (pre.length : Nat) = 0 from if_pos hi]
    have hd : decide (0 ≤ ((pre.length : Nat) : Int) ∧ ((pre.length : Nat) : Int) < (pre ++ a :: post).length) = true := by simpa using hi
    rw [hd] at HT
    have hlen : pre.length < (pre ++ a :: post).length := by simp
    generalize (pre ++ a :: post).length = n at *
    clear h hi hd
    go_enter Try.func29, Try.ntmps29
    go_wp2_with fail
    refine HT.out.mono ?_
    rintro e w1 ⟨rfl, rfl⟩
    go_wp2_with fail
    go_region
    all_goals (try go_wp2)
    all_goals go_ret2
    all_goals exact ⟨by simp, (Ch.refl No w).drew⟩
  · have hd : decide (0 ≤ i ∧ i < (l.length : Int)) = false := by simpa using hi
    rw [hd] at HT
    rw [leftI_out hi, show errI l i = 4 from if_neg hi]
    clear h hi hd
    go_enter Try.func29, Try.ntmps29
    go_wp2_with fail
    refine HT.out.mono ?_
    rintro e w1 ⟨rfl, rfl⟩
    go_wp2_with fail
    go_ret2
    exact ⟨rfl, Ch.refl No w⟩

set_option maxHeartbeats 1000000 in
theorem BSpent_any (w : World) (B g : Nat) (k : Option Nat) (l : List Acc) (h : Led w B g k l) (i : Int) :
    Calls Try.prog 26 #[.pointer (some ⟨g, 0, none⟩), .int .i64 i] w fun e w' => e = .returned (.int .i64 (spentI l i)) ∧ w = w' := by
  have HT := Lib.hid (Bthere_any w B g k l h i)
  by_cases hi : 0 ≤ i ∧ i < l.length
  · obtain ⟨pre, a, post, rfl, rfl⟩ := split_at hi.1 hi.2
    obtain ⟨kb, c, hk, q0, q1, q2, _, hc⟩ := h.at
    rw [spentI_at]
    have hd : decide (0 ≤ ((pre.length : Nat) : Int) ∧ ((pre.length : Nat) : Int) < (pre ++ a :: post).length) = true := by simpa using hi
    rw [hd] at HT
    have hlen : pre.length < (pre ++ a :: post).length := by simp
    generalize (pre ++ a :: post).length = n at *
    clear h hi hd
    go_enter Try.func26, Try.ntmps26
    go_wp2_with fail
    refine HT.out.mono ?_
    rintro e w1 ⟨rfl, rfl⟩
    go_wp2_with fail
    go_ret
    exact ⟨rfl, rfl⟩
  · have hd : decide (0 ≤ i ∧ i < (l.length : Int)) = false := by simpa using hi
    rw [hd] at HT
    rw [spentI_out hi]
    clear h hi hd
    go_enter Try.func26, Try.ntmps26
    go_wp2_with fail
    refine HT.out.mono ?_
    rintro e w1 ⟨rfl, rfl⟩
    go_wp2_with fail
    go_ret
    exact ⟨rfl, rfl⟩

/-- one is spent at i, if it may be -/
def spendL (l : List Acc) (i : Int) : List Acc := if 0 ≤ i then l.modify i.toNat (fun a => if a.s < a.m then ⟨a.m, a.s + 1⟩ else a) else l
def spendE (l : List Acc) (i : Int) : Int := if 0 ≤ i ∧ i < l.length then (if leftI l i = 0 then 32 else 0) else 4
theorem mod_at (f : Acc → Acc) (pre post : List Acc) (a : Acc) : (pre ++ a :: post).modify pre.length f = pre ++ f a :: post := by
  induction pre with
  | nil => simp
  | cons x pre ih => simp [ih]
theorem spendL_at (pre post : List Acc) (a : Acc) : spendL (pre ++ a :: post) (pre.length : Nat) = pre ++ (if a.s < a.m then ⟨a.m, a.s + 1⟩ else a) :: post := by
  simp [spendL, mod_at]
theorem spendL_out {l : List Acc} {i : Int} (h : ¬ (0 ≤ i ∧ i < l.length)) : spendL l i = l := by
  unfold spendL
  split
  · rw [List.modify_eq_self]; omega
  · rfl
@[simp] theorem spendL_len (l : List Acc) (i : Int) : (spendL l i).length = l.length := by unfold spendL; split <;> simp

set_option maxHeartbeats 1000000 in
theorem BSpend_any (w : World) (B g : Nat) (k : Option Nat) (l : List Acc) (h : Led w B g k l) (i : Int) :
    Calls Try.prog 25 #[.pointer (some ⟨g, 0, none⟩), .int .i64 i] w fun e w' => e = .returned (.int .i64 (spendE l i)) ∧ Led w' B g k (spendL l i) ∧ Ch (fun j => k = some j) w w' := by
  have HL := Lib.hid (BLeft_any w B g k l h i)
  have HH := Lib.hid h
  by_cases hi : 0 ≤ i ∧ i < l.length
  · obtain ⟨pre, a, post, rfl, rfl⟩ := split_at hi.1 hi.2
    obtain ⟨o1, o2, o3⟩ := h.ok a (by simp)
    rw [leftI_at, show errI (pre ++ a :: post) (pre.length : Nat) = 0 from if_pos hi] at HL
    rw [show spendE (pre ++ a :: post) (pre.length : Nat) = if a.m - a.s = 0 then 32 else 0 from by unfold spendE; rw [if_pos hi, leftI_at], spendL_at]
    have hlen : pre.length < (pre ++ a :: post).length := by simp
    clear h hi
    by_cases hz : a.m - a.s = 0
    · rw [if_pos hz, if_neg (by omega)]
      rw [hz] at HL
      clear hz
      go_enter Try.func25, Try.ntmps25
      go_wp2_with fail
      refine HL.out.mono ?_
      rintro e w1 ⟨rfl, h1⟩
      go_wp2_with fail
      go_ret
      exact ⟨rfl, HH.out.ch h1 (fun h => h) (fun _ _ h => h), h1.mono (fun _ _ h => h.elim)⟩
    · rw [if_neg hz, if_pos (by omega)]
      obtain ⟨d, hd⟩ : ∃ d, a.m - a.s = d := ⟨_, rfl⟩
      rw [hd] at HL
      have hdz : ¬ d = 0 := by omega
      have HD := Lib.hid hd
      have hs : a.s < 9223372036854775807 := by omega
      have hsm : a.s < a.m := by omega
      clear hz hd
      go_enter Try.func25, Try.ntmps25
      go_wp2_with fail
      refine HL.out.mono ?_
      rintro e w1 ⟨rfl, h1⟩
      have h2 := HH.out.ch h1 (fun h => h) (fun _ _ h => h)
      obtain ⟨kb, c, hk, q0, q1, q2, f2, hc⟩ := h2.at
      have HN := Lib.hid (And.intro h1 (And.intro h2 hk))
      generalize (pre ++ a :: post).length = n at *
      clear h1 h2 hk
      go_wp2_with fail
      go_ret
      refine ⟨rfl, HN.out.2.1.set HN.out.2.2 (a.s + 1) ⟨by simp only; omega, by simp only; omega, o3⟩, ?_⟩
      exact (HN.out.1.mono (fun _ _ h => h.elim)).setCell (p := ⟨kb, pre.length * 2 + 1, none⟩) (fun _ => HN.out.2.2) _
  · rw [leftI_out hi, show errI l i = 4 from if_neg hi] at HL
    rw [show spendE l i = 4 from if_neg hi, spendL_out hi]
    clear h hi
    go_enter Try.func25, Try.ntmps25
    go_wp2_with fail
    refine HL.out.mono ?_
    rintro e w1 ⟨rfl, h1⟩
    go_wp2_with fail
    go_ret
    exact ⟨rfl, HH.out.ch h1 (fun h => h) (fun _ _ h => h), h1.mono (fun _ _ h => h.elim)⟩
end Go.Proofs.Ytjphocpnmhheeaa
