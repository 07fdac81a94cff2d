/- reply: how a reply comes in. No walk. -/
import Derived.Test.YtpjcfelknkddfaaRepAlive
import Derived.Test.YtpjcfelknkddfaaRead
namespace Go.Proofs.Ytpjcfelknkddfaa
open Go.RowKit

theorem isB_of {xs : List Int} (h : ∀ x ∈ xs, (Lit.int .u8 x).wf = true) : ∀ x ∈ xs, isB x := fun x hx => by
  have := bounds_u8 (h x hx)
  unfold isB
  omega
theorem clsOfRws {w : World} {A : Option Addr} {vs : List Value} (h : Rws w A 1 (vs.map fun v => [v])) : Cls w A vs := by
  intro pre v post e
  obtain ⟨_, b, off, hA, hc⟩ := h (pre.map fun v => [v]) [v] (post.map fun v => [v]) (by rw [e]; simp)
  refine ⟨b, off, hA, ?_⟩
  have := hc 0 v rfl
  simpa using this
theorem rd_longs {W : World} {n : Nat} {v : Value} (h : Rd Try.prog W (n + 2) 22 [v]) : ∃ A c, ∃ xs : List Int, v = .slice A xs.length c ∧ Cls W A (ints .i64 xs) ∧ xs.length ≤ c ∧ xs.length ≤ 140737488351232 ∧ ∀ x ∈ xs, -9223372036854775808 ≤ x ∧ x ≤ 9223372036854775807 := by
  obtain ⟨A, cap, xs, rfl, hr, hw, hc, hl⟩ := slice_dec (N := n + 1) (sz := 1) (B := 8) (fun x : Int => [Value.int .i64 x]) (fun x => (Lit.int .i64 x).wf = true) h Try.underlying22 (by kernel_rfl) (by kernel_rfl) (by omega) (fun r hr => by
    obtain ⟨v, rfl⟩ : ∃ v, r = [v] := by
      unfold Rd at hr
      rw [Try.underlying2] at hr
      obtain ⟨m, h, _⟩ := hr
      exact ⟨_, h⟩
    obtain ⟨m, rfl, h2⟩ := rd_int hr Try.underlying2
    exact ⟨m, rfl, h2⟩)
  refine ⟨A, cap, xs, rfl, ?_, hc, by omega, fun x hx => ?_⟩
  · refine clsOfRws ?_
    simpa [ints, Function.comp_def] using hr
  · have := bounds_i64 (hw x hx)
    exact this
theorem rep_arg {W : World} {n : Nat} {cs : Array Value} (h : Rd Try.prog W (n + 3) 24 cs.toList) : ∃ (code : Int) (A : Option Addr) (c : Nat) (xs : List Int), cs = #[.int .i64 code, .slice A xs.length c] ∧ (-9223372036854775808 ≤ code ∧ code ≤ 9223372036854775807) ∧ Cls W A (ints .i64 xs) ∧ xs.length ≤ c ∧ xs.length ≤ 140737488351232 ∧ ∀ x ∈ xs, -9223372036854775808 ≤ x ∧ x ≤ 9223372036854775807 := by
  obtain ⟨hl, hf⟩ := rd_struct h Try.underlying24
  rw [show Try.prog.cellsOf 24 = 2 from by kernel_rfl] at hl
  obtain ⟨l, hl2⟩ : ∃ l, cs.toList = l := ⟨_, rfl⟩
  rw [hl2] at hl hf
  match l, hl with
  | [c0, c1], _ =>
    simp only [List.mem_cons, List.not_mem_nil, or_false, forall_eq_or_imp, forall_eq] at hf
    rw [show Try.prog.cellsOf 3 = 1 from by kernel_rfl, show Try.prog.cellsOf 22 = 1 from by kernel_rfl] at hf
    obtain ⟨m0, rfl, w0⟩ := rd_int (c := c0) hf.1 Try.underlying3
    have hf2 : Rd Try.prog W (n + 2) 22 [c1] := hf.2
    obtain ⟨A, c, xs, rfl, h1, h2, h3, h4⟩ := rd_longs hf2
    exact ⟨m0, A, c, xs, by rw [← Array.toList_inj, hl2], bounds_i64 w0, h1, h2, h3, h4⟩
end Go.Proofs.Ytpjcfelknkddfaa
