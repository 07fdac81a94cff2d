/-
  DERIVED. GIVEN WITH THE SEED: THE CARDS: each row of YtdkkffmnpholdaaDoorRows.lean that lists a variable, with what it lists TIED to the program's text (the seventh form; the later family's looks); each row that meets fmt, with fmt's text TOLD by the authors' own Lean function (tested against real Go, not proved from fmt's source: count such statements apart). THE CARD IS WHAT COUNTS. Prove the row's statement (the work); the ties are given (YtdkkffmnpholdaaDoorTie.lean); close each card by the builder's one call (the guide's Derived/Test/ToyasCard.lean, 'card_holds'). Laid BY PROGRAM, IN A SANDBOX (cutbox-door.mjs). By AI agents, Wed Nov 11 2026. No macro, syntax, notation, axiom, sorry.
-/
import Derived.Test.YtdkkffmnpholdaaDoorRows
import GoSem.ClaimSeven
namespace Go.Proofs.YtdkkffmnpholdaaDoor
namespace Rows

/-- THE TIED CARD OF 'clerestorylaw01.FitTypes'. -/
def fitTypesCard : Claim7 := { stood := { row := fitTypesRow, standIns := [], harness := (true, "3079bed7e5197d03284a5794458242e2e805a2b8632fc3124e7fb3b4f317201c"), looks := false }, kinds := [], alts := [], laidByText := true, laidKinds := [.data], laidTests := true, laidLooks := .later }
def FitTypesCardSaid : Prop := Claim7.holds Tryd.pinned (.plain (OpenSpec.ofChange fitTypesSpec)) fitTypesCard

/-- THE TIED CARD OF 'clerestorylaw01.FitBits'. -/
def fitBitsCard : Claim7 := { stood := { row := fitBitsRow, standIns := [], harness := (true, "3079bed7e5197d03284a5794458242e2e805a2b8632fc3124e7fb3b4f317201c"), looks := false }, kinds := [], alts := [], laidByText := true, laidKinds := [.data], laidTests := true, laidLooks := .later }
def FitBitsCardSaid : Prop := Claim7.holds Tryd.pinned (.plain (OpenSpec.ofChange fitBitsSpec)) fitBitsCard

/-- THE TIED CARD OF 'clerestorylaw01.FitBack'. -/
def fitBackCard : Claim7 := { stood := { row := fitBackRow, standIns := [], harness := (true, "3079bed7e5197d03284a5794458242e2e805a2b8632fc3124e7fb3b4f317201c"), looks := false }, kinds := [], alts := [], laidByText := true, laidKinds := [.data], laidTests := true, laidLooks := .later }
def FitBackCardSaid : Prop := Claim7.holds Tryd.pinned (.plain (OpenSpec.ofChange fitBackSpec)) fitBackCard

/-- THE TIED CARD OF 'clerestorylaw01.FitLows'. -/
def fitLowsCard : Claim7 := { stood := { row := fitLowsRow, standIns := [], harness := (true, "3079bed7e5197d03284a5794458242e2e805a2b8632fc3124e7fb3b4f317201c"), looks := false }, kinds := [], alts := [], laidByText := true, laidKinds := [.data], laidTests := true, laidLooks := .later }
def FitLowsCardSaid : Prop := Claim7.holds Tryd.pinned (.plain (OpenSpec.ofChange fitLowsSpec)) fitLowsCard

/-- THE TIED CARD OF 'clerestorylaw01.FitHalves'. -/
def fitHalvesCard : Claim7 := { stood := { row := fitHalvesRow, standIns := [], harness := (true, "3079bed7e5197d03284a5794458242e2e805a2b8632fc3124e7fb3b4f317201c"), looks := false }, kinds := [], alts := [], laidByText := true, laidKinds := [.data], laidTests := true, laidLooks := .later }
def FitHalvesCardSaid : Prop := Claim7.holds Tryd.pinned (.plain (OpenSpec.ofChange fitHalvesSpec)) fitHalvesCard

/-- THE TIED CARD OF 'clerestorylaw01.FitEnds'. -/
def fitEndsCard : Claim7 := { stood := { row := fitEndsRow, standIns := [], harness := (true, "3079bed7e5197d03284a5794458242e2e805a2b8632fc3124e7fb3b4f317201c"), looks := false }, kinds := [], alts := [], laidByText := true, laidKinds := [.data], laidTests := true, laidLooks := .later }
def FitEndsCardSaid : Prop := Claim7.holds Tryd.pinned (.plain (OpenSpec.ofChange fitEndsSpec)) fitEndsCard

/-- THE SECOND FORM's CARD OF 'clerestorylaw01.FitTypes'. -/
def fitTypesUptoCard : Claim7 := { stood := { row := fitTypesUptoRow, standIns := [], harness := (true, "3079bed7e5197d03284a5794458242e2e805a2b8632fc3124e7fb3b4f317201c"), looks := false }, kinds := [], alts := [], laidByText := true, laidKinds := [.data], laidTests := true, laidLooks := .later }
def FitTypesUptoCardSaid : Prop := Claim7.holds Tryd.pinned (.plain (OpenSpec.upto fitTypesSpec)) fitTypesUptoCard

/-- THE SECOND FORM's CARD OF 'clerestorylaw01.FitBits'. -/
def fitBitsUptoCard : Claim7 := { stood := { row := fitBitsUptoRow, standIns := [], harness := (true, "3079bed7e5197d03284a5794458242e2e805a2b8632fc3124e7fb3b4f317201c"), looks := false }, kinds := [], alts := [], laidByText := true, laidKinds := [.data], laidTests := true, laidLooks := .later }
def FitBitsUptoCardSaid : Prop := Claim7.holds Tryd.pinned (.plain (OpenSpec.upto fitBitsSpec)) fitBitsUptoCard

/-- THE SECOND FORM's CARD OF 'clerestorylaw01.FitBack'. -/
def fitBackUptoCard : Claim7 := { stood := { row := fitBackUptoRow, standIns := [], harness := (true, "3079bed7e5197d03284a5794458242e2e805a2b8632fc3124e7fb3b4f317201c"), looks := false }, kinds := [], alts := [], laidByText := true, laidKinds := [.data], laidTests := true, laidLooks := .later }
def FitBackUptoCardSaid : Prop := Claim7.holds Tryd.pinned (.plain (OpenSpec.upto fitBackSpec)) fitBackUptoCard

/-- THE SECOND FORM's CARD OF 'clerestorylaw01.FitLows'. -/
def fitLowsUptoCard : Claim7 := { stood := { row := fitLowsUptoRow, standIns := [], harness := (true, "3079bed7e5197d03284a5794458242e2e805a2b8632fc3124e7fb3b4f317201c"), looks := false }, kinds := [], alts := [], laidByText := true, laidKinds := [.data], laidTests := true, laidLooks := .later }
def FitLowsUptoCardSaid : Prop := Claim7.holds Tryd.pinned (.plain (OpenSpec.upto fitLowsSpec)) fitLowsUptoCard

/-- THE SECOND FORM's CARD OF 'clerestorylaw01.FitHalves'. -/
def fitHalvesUptoCard : Claim7 := { stood := { row := fitHalvesUptoRow, standIns := [], harness := (true, "3079bed7e5197d03284a5794458242e2e805a2b8632fc3124e7fb3b4f317201c"), looks := false }, kinds := [], alts := [], laidByText := true, laidKinds := [.data], laidTests := true, laidLooks := .later }
def FitHalvesUptoCardSaid : Prop := Claim7.holds Tryd.pinned (.plain (OpenSpec.upto fitHalvesSpec)) fitHalvesUptoCard

/-- THE SECOND FORM's CARD OF 'clerestorylaw01.FitEnds'. -/
def fitEndsUptoCard : Claim7 := { stood := { row := fitEndsUptoRow, standIns := [], harness := (true, "3079bed7e5197d03284a5794458242e2e805a2b8632fc3124e7fb3b4f317201c"), looks := false }, kinds := [], alts := [], laidByText := true, laidKinds := [.data], laidTests := true, laidLooks := .later }
def FitEndsUptoCardSaid : Prop := Claim7.holds Tryd.pinned (.plain (OpenSpec.upto fitEndsSpec)) fitEndsUptoCard
end Rows
end Go.Proofs.YtdkkffmnpholdaaDoor
