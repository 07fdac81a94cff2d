/-
  DERIVED. GIVEN WITH THE SEED: THE CARDS: each row of YtpjcfelknkddfaaDoorRows.lean that lists a variable, with what it lists TIED to the program's text (the seventh form; the later family's looks); each row that meets fmt, with fmt's text TOLD by the authors' own Lean function (tested against real Go, not proved from fmt's source: count such statements apart). THE CARD IS WHAT COUNTS. Prove the row's statement (the work); the ties are given (YtpjcfelknkddfaaDoorTie.lean); close each card by the builder's one call (the guide's Derived/Test/ToyasCard.lean, 'card_holds'). Laid BY PROGRAM, IN A SANDBOX (cutbox-door.mjs). By AI agents, Wed Nov 11 2026. No macro, syntax, notation, axiom, sorry.
-/
import Derived.Test.YtpjcfelknkddfaaDoorRows
import GoSem.ClaimSeven
namespace Go.Proofs.YtpjcfelknkddfaaDoor
namespace Rows

/-- THE TIED CARD OF 'clerestorylaw05.LatticeLists'. -/
def latticeListsCard : Claim7 := { stood := { row := latticeListsRow, standIns := [], harness := (true, "aea226f3adcc65460fec89b6560cd428d22b8e3b32bef2e8bad88e5c98c2993b"), looks := false }, kinds := [], alts := [], laidByText := true, laidKinds := [.data], laidTests := true, laidLooks := .later }
def LatticeListsCardSaid : Prop := Claim7.holds Tryd.pinned (.plain (OpenSpec.ofChange latticeListsSpec)) latticeListsCard

/-- THE TIED CARD OF 'clerestorylaw05.LatticeNumbers'. -/
def latticeNumbersCard : Claim7 := { stood := { row := latticeNumbersRow, standIns := [], harness := (true, "aea226f3adcc65460fec89b6560cd428d22b8e3b32bef2e8bad88e5c98c2993b"), looks := false }, kinds := [], alts := [], laidByText := true, laidKinds := [.data], laidTests := true, laidLooks := .later }
def LatticeNumbersCardSaid : Prop := Claim7.holds Tryd.pinned (.plain (OpenSpec.ofChange latticeNumbersSpec)) latticeNumbersCard

/-- THE TIED CARD OF 'clerestorylaw05.LatticeErrors'. -/
def latticeErrorsCard : Claim7 := { stood := { row := latticeErrorsRow, standIns := [], harness := (true, "aea226f3adcc65460fec89b6560cd428d22b8e3b32bef2e8bad88e5c98c2993b"), looks := false }, kinds := [], alts := [], laidByText := true, laidKinds := [.data], laidTests := true, laidLooks := .later }
def LatticeErrorsCardSaid : Prop := Claim7.holds Tryd.pinned (.plain (OpenSpec.ofChange latticeErrorsSpec)) latticeErrorsCard

/-- THE TIED CARD OF 'clerestorylaw05.LatticeUnions'. -/
def latticeUnionsCard : Claim7 := { stood := { row := latticeUnionsRow, standIns := [], harness := (true, "aea226f3adcc65460fec89b6560cd428d22b8e3b32bef2e8bad88e5c98c2993b"), looks := false }, kinds := [], alts := [], laidByText := true, laidKinds := [.data], laidTests := true, laidLooks := .later }
def LatticeUnionsCardSaid : Prop := Claim7.holds Tryd.pinned (.plain (OpenSpec.ofChange latticeUnionsSpec)) latticeUnionsCard

/-- THE TIED CARD OF 'clerestorylaw05.LatticeClosed'. -/
def latticeClosedCard : Claim7 := { stood := { row := latticeClosedRow, standIns := [], harness := (true, "aea226f3adcc65460fec89b6560cd428d22b8e3b32bef2e8bad88e5c98c2993b"), looks := false }, kinds := [], alts := [], laidByText := true, laidKinds := [.data], laidTests := true, laidLooks := .later }
def LatticeClosedCardSaid : Prop := Claim7.holds Tryd.pinned (.plain (OpenSpec.ofChange latticeClosedSpec)) latticeClosedCard

/-- THE SECOND FORM's CARD OF 'clerestorylaw05.LatticeLists'. -/
def latticeListsUptoCard : Claim7 := { stood := { row := latticeListsUptoRow, standIns := [], harness := (true, "aea226f3adcc65460fec89b6560cd428d22b8e3b32bef2e8bad88e5c98c2993b"), looks := false }, kinds := [], alts := [], laidByText := true, laidKinds := [.data], laidTests := true, laidLooks := .later }
def LatticeListsUptoCardSaid : Prop := Claim7.holds Tryd.pinned (.plain (OpenSpec.upto latticeListsSpec)) latticeListsUptoCard

/-- THE SECOND FORM's CARD OF 'clerestorylaw05.LatticeNumbers'. -/
def latticeNumbersUptoCard : Claim7 := { stood := { row := latticeNumbersUptoRow, standIns := [], harness := (true, "aea226f3adcc65460fec89b6560cd428d22b8e3b32bef2e8bad88e5c98c2993b"), looks := false }, kinds := [], alts := [], laidByText := true, laidKinds := [.data], laidTests := true, laidLooks := .later }
def LatticeNumbersUptoCardSaid : Prop := Claim7.holds Tryd.pinned (.plain (OpenSpec.upto latticeNumbersSpec)) latticeNumbersUptoCard

/-- THE SECOND FORM's CARD OF 'clerestorylaw05.LatticeErrors'. -/
def latticeErrorsUptoCard : Claim7 := { stood := { row := latticeErrorsUptoRow, standIns := [], harness := (true, "aea226f3adcc65460fec89b6560cd428d22b8e3b32bef2e8bad88e5c98c2993b"), looks := false }, kinds := [], alts := [], laidByText := true, laidKinds := [.data], laidTests := true, laidLooks := .later }
def LatticeErrorsUptoCardSaid : Prop := Claim7.holds Tryd.pinned (.plain (OpenSpec.upto latticeErrorsSpec)) latticeErrorsUptoCard

/-- THE SECOND FORM's CARD OF 'clerestorylaw05.LatticeUnions'. -/
def latticeUnionsUptoCard : Claim7 := { stood := { row := latticeUnionsUptoRow, standIns := [], harness := (true, "aea226f3adcc65460fec89b6560cd428d22b8e3b32bef2e8bad88e5c98c2993b"), looks := false }, kinds := [], alts := [], laidByText := true, laidKinds := [.data], laidTests := true, laidLooks := .later }
def LatticeUnionsUptoCardSaid : Prop := Claim7.holds Tryd.pinned (.plain (OpenSpec.upto latticeUnionsSpec)) latticeUnionsUptoCard

/-- THE SECOND FORM's CARD OF 'clerestorylaw05.LatticeClosed'. -/
def latticeClosedUptoCard : Claim7 := { stood := { row := latticeClosedUptoRow, standIns := [], harness := (true, "aea226f3adcc65460fec89b6560cd428d22b8e3b32bef2e8bad88e5c98c2993b"), looks := false }, kinds := [], alts := [], laidByText := true, laidKinds := [.data], laidTests := true, laidLooks := .later }
def LatticeClosedUptoCardSaid : Prop := Claim7.holds Tryd.pinned (.plain (OpenSpec.upto latticeClosedSpec)) latticeClosedUptoCard
end Rows
end Go.Proofs.YtpjcfelknkddfaaDoor
