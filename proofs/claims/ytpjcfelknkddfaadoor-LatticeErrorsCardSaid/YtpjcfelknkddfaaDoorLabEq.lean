/- Two labels are held against each other: one truth value. How a label is read. -/
import Derived.Test.YtpjcfelknkddfaaDoorLabRef
import Derived.Test.YtpjcfelknkddfaaDoorRead
namespace Go.Proofs.YtpjcfelknkddfaaDoor
open Go.RowKit

theorem eqlLab (a b c d : Int) (w : World) : (binOp .eql 25 (.agg #[.int .u8 a, .int .u16 b]) (.agg #[.int .u8 c, .int .u16 d])).run Tryd.prog w = .ok (.bool ((a == c) && (b == d))) w := by
  simp only [binOp]
  simp only [Op.equal, Op.maxDepth, Sem.run_bind]
  rw [run_equalIn_struct w 9999 _ _ _ (by kernel_rfl) (by kernel_rfl)]
  simp [go_sem]
  by_cases h1 : a = c
  · by_cases h2 : b = d <;> simp [h1, h2]
  · simp [h1]

theorem label_dec {W : World} {n : Nat} {cs : List Value} (h : Rd Tryd.prog W (n + 2) 25 cs) : ∃ x : Nat × Nat, cs = [.int .u8 x.1, .int .u16 x.2] ∧ x.1 < 256 ∧ x.2 < 65536 := by
  obtain ⟨hl, hf⟩ := rd_struct h Tryd.underlying25
  rw [show Tryd.prog.cellsOf 25 = 2 from by kernel_rfl] at hl
  match cs, hl with
  | [c0, c1], _ =>
    simp only [List.mem_cons, List.not_mem_nil, or_false, forall_eq_or_imp, forall_eq] at hf
    rw [show Tryd.prog.cellsOf 5 = 1 from by kernel_rfl, show Tryd.prog.cellsOf 23 = 1 from by kernel_rfl] at hf
    obtain ⟨m0, rfl, w0⟩ := rd_int (c := c0) hf.1 Tryd.underlying5
    obtain ⟨m1, rfl, w1⟩ := rd_int (c := c1) hf.2 Tryd.underlying23
    obtain ⟨k0, rfl, h0⟩ := wf_u8 w0
    obtain ⟨k1, rfl, h1⟩ := wf_u16 w1
    exact ⟨(k0, k1), rfl, h0, h1⟩

theorem label_arg {W : World} {n : Nat} {cs : Array Value} (h : Rd Tryd.prog W (n + 2) 25 cs.toList) : ∃ l c : Nat, cs = #[.int .u8 l, .int .u16 c] ∧ l < 256 ∧ c < 65536 := by
  obtain ⟨x, hx, h0, h1⟩ := label_dec h
  exact ⟨x.1, x.2, by rw [← Array.toList_inj, hx], h0, h1⟩
end Go.Proofs.YtpjcfelknkddfaaDoor
