/- AggShifts: of values that are all more by as much the sum is more by as many times, the least, the greatest and the average by as much: the walk. -/
import Derived.Test.YtoaekfocfdcgiaaPureAggShifts
import Derived.Test.YtoaekfocfdcgiaaPAid
namespace Go.Proofs.Ytoaekfocfdcgiaa
open Go.RowKit

theorem aggShifts_walk (W : World) (A : Option Addr) (cap : Nat) (xs : List Int) (a1 : Int) (h : Cls W A (ints .i64 xs)) (hl : xs.length ≤ cap) (hb : xs.length * 8 ≤ 140737488351232) (hw : ∀ x ∈ xs, (Lit.int .i64 x).wf = true) (w1 : (Lit.int .i64 a1).wf = true) :
    Calls Try.prog 11 #[.slice A xs.length cap, .int .i64 a1] W fun e w' => e = .returned (.bool true) ∧ Below W.heap.size W w' := by
  obtain ⟨k, hk⟩ := Pure.AggShifts xs a1 (by unfold maxLen; omega) hb hw w1
  exact PAggShifts.clerestorylaw08_AggShifts.calls k A cap xs a1 true W (Go.Proofs.YtoaekfocfdcgiaaW.PrintWords.Kd.C_of_reads (d := (0 : Int)) (h1 := fun _ => rfl) (reads_of_cls h (by omega))) hl hk
end Go.Proofs.Ytoaekfocfdcgiaa
