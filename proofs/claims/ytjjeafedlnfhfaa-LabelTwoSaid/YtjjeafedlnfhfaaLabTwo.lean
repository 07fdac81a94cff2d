/- LabelTwo: of all pairs of labels every answer is as said: the walk. -/
import Derived.Test.YtjjeafedlnfhfaaLabEq
import Derived.Test.YtjjeafedlnfhfaaLabAlive
namespace Go.Proofs.Ytjjeafedlnfhfaa
open Go.RowKit

set_option maxHeartbeats 4000000 in
set_option maxRecDepth 100000 in
theorem labelTwo_core (W : World) (l c m d n : Nat) (hl : l < 256) (hc : c < 65536) (hm : m < 256) (hd : d < 65536) (hn : n < 2 ^ 64) :
    Calls Try.prog 8 #[.agg #[.int .u8 l, .int .u16 c], .agg #[.int .u8 m, .int .u16 d], .int .u64 n] W fun e w' => e = .returned (.bool true) ∧ Ch No W w' := by
  have he := eqlLab
  go_enter Try.func8, Try.ntmps8
  go_wp2_with fail
  refine (labAlive_any _).mono ?_
  rintro e w1 ⟨rfl, hw1⟩
  go_wp2_with fail
  refine (LFrom_any n _ hn).mono ?_
  rintro e w2 ⟨rfl, hw2⟩
  go_wp2_with fail
  refine (RFrom_any n _ hn).mono ?_
  rintro e w3 ⟨rfl, hw3⟩
  go_wp2_with fail
  have a0 : w2.cell? ⟨W.heap.size, 0, none⟩ = some (.int .u8 l) := hw2.cell (hw1.cell (by simp) (fun h => h)) (fun h => h)
  have a1 : w2.cell? ⟨W.heap.size, 1, none⟩ = some (.int .u16 c) := hw2.cell (hw1.cell (by simp) (fun h => h)) (fun h => h)
  have b0 : w2.cell? ⟨W.heap.size + 1, 0, none⟩ = some (.int .u8 m) := hw2.cell (hw1.cell (by simp) (fun h => h)) (fun h => h)
  have b1 : w2.cell? ⟨W.heap.size + 1, 1, none⟩ = some (.int .u16 d) := hw2.cell (hw1.cell (by simp) (fun h => h)) (fun h => h)
  have C2 : Ch No W w2 := Ch.trans (Ch.trans (((Ch.refl No W).alloc _).alloc _) hw1) hw2
  generalize frL n = fl at *
  generalize frC n = fc at *
  generalize frE n = fe at *
  obtain ⟨w4, hw4⟩ : ∃ w4, w3.alloc (.cells #[.int .u8 fl, .int .u16 fc] 38) = w4 := ⟨_, rfl⟩
  have H3 : Ch No (w2.alloc (.cells #[.int .u8 fl, .int .u16 fc] 38)) w4 := by rw [← hw4]; exact hw3.alloc _
  have x0 : w4.cell? ⟨w3.heap.size, 0, none⟩ = some (.int .u8 fl) := by rw [← hw4]; simp
  have x1 : w4.cell? ⟨w3.heap.size, 1, none⟩ = some (.int .u16 fc) := by rw [← hw4]; simp
  rw [hw4]
  have a2 : w4.cell? ⟨W.heap.size, 0, none⟩ = some (.int .u8 l) := H3.cell (((Ch.refl No w2).alloc _).cell a0 (fun h => h)) (fun h => h)
  have a3 : w4.cell? ⟨W.heap.size, 1, none⟩ = some (.int .u16 c) := H3.cell (((Ch.refl No w2).alloc _).cell a1 (fun h => h)) (fun h => h)
  have b2 : w4.cell? ⟨W.heap.size + 1, 0, none⟩ = some (.int .u8 m) := H3.cell (((Ch.refl No w2).alloc _).cell b0 (fun h => h)) (fun h => h)
  have b3 : w4.cell? ⟨W.heap.size + 1, 1, none⟩ = some (.int .u16 d) := H3.cell (((Ch.refl No w2).alloc _).cell b1 (fun h => h)) (fun h => h)
  have e2 : w4.cell? ⟨w2.heap.size, 0, none⟩ = some (.int .u8 fl) := H3.cell (by simp) (fun h => h)
  have e3 : w4.cell? ⟨w2.heap.size, 1, none⟩ = some (.int .u16 fc) := H3.cell (by simp) (fun h => h)
  have C4 : Ch No W w4 := (C2.alloc _).trans H3
  clear hw1 hw2 hw3 hw4 H3 C2 a0 a1 b0 b1
  by_cases h15 : 15 < l
  · have hq : decide ((l : Int) ≤ 15) = false := decide_eq_false (by omega)
    go_region_held3 (fun w' => w'.cell? ⟨W.heap.size, 0, none⟩ = some (.int .u8 l) ∧ w'.cell? ⟨W.heap.size, 1, none⟩ = some (.int .u16 c) ∧ w'.cell? ⟨W.heap.size + 1, 0, none⟩ = some (.int .u8 m) ∧ w'.cell? ⟨W.heap.size + 1, 1, none⟩ = some (.int .u16 d) ∧ w'.cell? ⟨w2.heap.size, 0, none⟩ = some (.int .u8 fl) ∧ w'.cell? ⟨w2.heap.size, 1, none⟩ = some (.int .u16 fc) ∧ w'.cell? ⟨w3.heap.size, 0, none⟩ = some (.int .u8 fl) ∧ w'.cell? ⟨w3.heap.size, 1, none⟩ = some (.int .u16 fc) ∧ Ch No W w') (first | (refine ⟨?_, ?_, ?_, ?_, ?_, ?_, ?_, ?_, ?_⟩ <;> (first | assumption | (simp [*]; done) | (refine Ch.trans ?_ (by assumption); simp [*]; done) | (refine Ch.cell (by assumption) ?_ (fun h => h); simp [*]; done) | (repeat (first | assumption | apply Ch.drew))))) (first | (go_at_call 24; refine (LDominates_any _ _ _ _ _ hc hd).mono ?_; rintro e w' ⟨rfl, hw'⟩) | (go_at_call 25; refine (RDominates_any _ _ _ _ _ hc hd).mono ?_; rintro e w' ⟨rfl, hw'⟩) | (go_at_call 26; refine (LJoin_any _ _ _ _ _ hc hd).mono ?_; rintro e w' ⟨rfl, hw'⟩) | (go_at_call 27; refine (RJoin_any _ _ _ _ _ hc hd).mono ?_; rintro e w' ⟨rfl, hw'⟩) | (go_at_call 28; refine (LMeet_any _ _ _ _ _ hc hd).mono ?_; rintro e w' ⟨rfl, hw'⟩) | (go_at_call 29; refine (RMeet_any _ _ _ _ _ hc hd).mono ?_; rintro e w' ⟨rfl, hw'⟩) | (go_at_call 30; refine (LCheck_any l c _ hl).mono ?_; rintro e w' ⟨rfl, hw'⟩) | (go_at_call 31; refine (LNumber_any _ _ _ hl hc).mono ?_; rintro e w' ⟨rfl, hw'⟩) | (go_at_call 33; refine (LLess_any _ _ _ _ _ hl hc hm hd).mono ?_; rintro e w' ⟨rfl, hw'⟩) | (go_at_call 32; (with_reducible refine (RNumber_any l c _ hl hc).mono ?_); rintro e w' ⟨rfl, hw'⟩) | (go_at_call 32; (with_reducible refine (RNumber_any m d _ hm hd).mono ?_); rintro e w' ⟨rfl, hw'⟩))
    go_wp2
    go_ret
    exact ⟨rfl, by simp [*]⟩
  · have hq : decide ((l : Int) ≤ 15) = true := decide_eq_true (by omega)
    go_region_held3 (fun w' => w'.cell? ⟨W.heap.size, 0, none⟩ = some (.int .u8 l) ∧ w'.cell? ⟨W.heap.size, 1, none⟩ = some (.int .u16 c) ∧ w'.cell? ⟨W.heap.size + 1, 0, none⟩ = some (.int .u8 m) ∧ w'.cell? ⟨W.heap.size + 1, 1, none⟩ = some (.int .u16 d) ∧ w'.cell? ⟨w2.heap.size, 0, none⟩ = some (.int .u8 fl) ∧ w'.cell? ⟨w2.heap.size, 1, none⟩ = some (.int .u16 fc) ∧ w'.cell? ⟨w3.heap.size, 0, none⟩ = some (.int .u8 fl) ∧ w'.cell? ⟨w3.heap.size, 1, none⟩ = some (.int .u16 fc) ∧ Ch No W w') (first | (refine ⟨?_, ?_, ?_, ?_, ?_, ?_, ?_, ?_, ?_⟩ <;> (first | assumption | (simp [*]; done) | (refine Ch.trans ?_ (by assumption); simp [*]; done) | (refine Ch.cell (by assumption) ?_ (fun h => h); simp [*]; done) | (repeat (first | assumption | apply Ch.drew))))) (first | (go_at_call 24; refine (LDominates_any _ _ _ _ _ hc hd).mono ?_; rintro e w' ⟨rfl, hw'⟩) | (go_at_call 25; refine (RDominates_any _ _ _ _ _ hc hd).mono ?_; rintro e w' ⟨rfl, hw'⟩) | (go_at_call 26; refine (LJoin_any _ _ _ _ _ hc hd).mono ?_; rintro e w' ⟨rfl, hw'⟩) | (go_at_call 27; refine (RJoin_any _ _ _ _ _ hc hd).mono ?_; rintro e w' ⟨rfl, hw'⟩) | (go_at_call 28; refine (LMeet_any _ _ _ _ _ hc hd).mono ?_; rintro e w' ⟨rfl, hw'⟩) | (go_at_call 29; refine (RMeet_any _ _ _ _ _ hc hd).mono ?_; rintro e w' ⟨rfl, hw'⟩) | (go_at_call 30; refine (LCheck_any l c _ hl).mono ?_; rintro e w' ⟨rfl, hw'⟩) | (go_at_call 31; refine (LNumber_any _ _ _ hl hc).mono ?_; rintro e w' ⟨rfl, hw'⟩) | (go_at_call 33; refine (LLess_any _ _ _ _ _ hl hc hm hd).mono ?_; rintro e w' ⟨rfl, hw'⟩) | (go_at_call 32; (with_reducible refine (RNumber_any l c _ hl hc).mono ?_); rintro e w' ⟨rfl, hw'⟩) | (go_at_call 32; (with_reducible refine (RNumber_any m d _ hm hd).mono ?_); rintro e w' ⟨rfl, hw'⟩))
    go_wp2
    go_ret
    exact ⟨rfl, by simp [*]⟩

theorem labelTwo_walk (W : World) (cs0 cs1 : Array Value) (a2 : Int) (r0 : Rd Try.prog W 8 38 cs0.toList) (r1 : Rd Try.prog W 8 38 cs1.toList) (w2 : (Lit.int .u64 a2).wf = true) :
    Calls Try.prog 8 #[.agg cs0, .agg cs1, .int .u64 a2] W fun e w' => e = .returned (.bool true) ∧ Below W.heap.size W w' := by
  obtain ⟨l, c, rfl, hl, hc⟩ := label_arg r0
  obtain ⟨m, d, rfl, hm, hd⟩ := label_arg r1
  obtain ⟨n, rfl, hn⟩ := wf_u64 w2
  exact (labelTwo_core W l c m d n hl hc hm hd hn).mono fun e w' ⟨h1, h2⟩ => ⟨h1, h2.same⟩
end Go.Proofs.Ytjjeafedlnfhfaa
