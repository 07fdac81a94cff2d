/- octet.Writer: Int: what it comes to. -/
import Derived.Test.YtflpelacjdnplaaOctWrite
namespace Go.Proofs.Ytflpelacjdnplaa
open Go.RowKit

theorem WInt_any (n : Int) (size : Int) (w : World) (B g : Nat) (k : Option Nat) (bs : List Int) (h : Wr w B g k bs) (hB : B ≤ w.heap.size) (hl : bs.length + 8 ≤ 100000000000000) :
    Calls Try.prog 42 #[.pointer (some ⟨g, 0, none⟩), .int .i64 n, .int .i64 size] w fun e w' => e = .returned (.tuple #[]) ∧ WrPost w B g k (bs ++ putB (toU n) (heldB size)) w' := by
  have hq := toU_eq n
  have hp := Put_any (toU n) size w B g k bs h hB hl
  have HP := Lib.hid hp
  clear hp h
  go_enter Try.func42, Try.ntmps42
  go_wp2_with fail
  refine HP.out.mono ?_
  rintro e w' ⟨rfl, hw'⟩
  have HW := Lib.hid hw'
  clear hw'
  go_wp2_with fail
  go_end0
  exact ⟨rfl, HW.out⟩

end Go.Proofs.Ytflpelacjdnplaa
