/- How my words on slices read in the words of the printed texts. -/
import Derived.Test.YtoaekfocfdcgiaaMem
import Derived.Test.YtoaekfocfdcgiaaWWords
namespace Go.Proofs.Ytoaekfocfdcgiaa
open Go.RowKit

theorem reads_of_cls {w : World} {k : IntKind} {A : Option Addr} {xs : List Int} (h : Cls w A (ints k xs)) (hl : xs.length ≤ 9223372036854775807) : Go.Proofs.YtoaekfocfdcgiaaW.PrintWords.ReadsInt w k A xs.length xs := by
  refine ⟨rfl, hl, fun hn => ?_⟩
  obtain ⟨b, off, rfl, _⟩ := h.get 0 hn
  refine ⟨_, rfl, fun j hj => ?_⟩
  obtain ⟨b', off', e, hc⟩ := h.get j hj
  cases e
  rw [List.getD_eq_getElem?_getD, List.getElem?_eq_getElem hj]
  unfold Addr.add
  split
  · rename_i hz
    subst hz
    simpa using hc
  · exact hc
end Go.Proofs.Ytoaekfocfdcgiaa
