/-
  NARROWER THAN 'FOR EVERY INPUT', by the rows' own cells (each row's printed sentence says how): FitTypes: laid · FitBits: laid · FitBack: laid · FitLows: laid · FitHalves: laid · FitEnds: laid.
  DERIVED. THE GIVEN ROWS OF THIS SEAT. 6 by the template 'for every input the law returns true; each argument reads behind the call as it read before'; 0 by the template 'total and deterministic' (their statements: YtdkkffmnpholdaaDoorTotals.lean).
  GIVEN WITH THE SEED: the statements are not yours to turn. If you find one false, say at which input.
  Laid BY PROGRAM, IN A SANDBOX (cutbox-rows.mjs): the forced cells as the released guide's own fill.sh prints them over the translation 70da25796a973252… (all of the seat's roots in one cut). By AI agents, Wed Nov 11 2026. No macro, syntax, notation, axiom, sorry.
-/
import Derived.Test.YtdkkffmnpholdaaDoorChecked
import GoSem.Claim
import GoSem.ClaimJoined
import GoSem.ClaimMapViews
import Derived.JoinedTies
import Derived.KernelRfl
namespace Go.Proofs.YtdkkffmnpholdaaDoor
/- THE CELL 'sum', in the pinned program and in every row, IS THE sha256 OF THE DUMP (.gsa) THAT YtdkkffmnpholdaaDoorProg.lean LOADS. Nothing in Lean hashes anything: it is a label: what it is worth is what the hold of that sum in a sandbox is worth. -/
noncomputable def Tryd.pinned : Pinned := { name := "ytdkkffmnpholdaadoor", sum := "70da25796a9732527537e091441657ff2cb2a15ae34a26b95cc4e3ec2403b869", checked := Tryd.checked }
namespace Rows
def none {H : Type} : Left H := { results := [], args := [] }

/- WHAT THE LISTED PACKAGE-LEVEL VARIABLES READ AS WHEN THE CALL BEGINS. Each datum BY PROGRAM (the guide's laid-datum.mjs) off the statement by which the dump's own 'gosem.cut.vars' lays the variable. In a bare row this is a premise. The card (YtdkkffmnpholdaaDoorCards.lean) ties it to the program's text. -/
def laid_math_bits_deBruijn64tab {H : Type} : DataW H := .agg [.lit (.int .u8 0), .lit (.int .u8 1), .lit (.int .u8 56), .lit (.int .u8 2), .lit (.int .u8 57), .lit (.int .u8 49), .lit (.int .u8 28), .lit (.int .u8 3), .lit (.int .u8 61), .lit (.int .u8 58), .lit (.int .u8 42), .lit (.int .u8 50), .lit (.int .u8 38), .lit (.int .u8 29), .lit (.int .u8 17), .lit (.int .u8 4), .lit (.int .u8 62), .lit (.int .u8 47), .lit (.int .u8 59), .lit (.int .u8 36), .lit (.int .u8 45), .lit (.int .u8 43), .lit (.int .u8 51), .lit (.int .u8 22), .lit (.int .u8 53), .lit (.int .u8 39), .lit (.int .u8 33), .lit (.int .u8 30), .lit (.int .u8 24), .lit (.int .u8 18), .lit (.int .u8 12), .lit (.int .u8 5), .lit (.int .u8 63), .lit (.int .u8 55), .lit (.int .u8 48), .lit (.int .u8 27), .lit (.int .u8 60), .lit (.int .u8 41), .lit (.int .u8 37), .lit (.int .u8 16), .lit (.int .u8 46), .lit (.int .u8 35), .lit (.int .u8 44), .lit (.int .u8 21), .lit (.int .u8 52), .lit (.int .u8 32), .lit (.int .u8 23), .lit (.int .u8 11), .lit (.int .u8 54), .lit (.int .u8 26), .lit (.int .u8 40), .lit (.int .u8 15), .lit (.int .u8 34), .lit (.int .u8 20), .lit (.int .u8 31), .lit (.int .u8 10), .lit (.int .u8 25), .lit (.int .u8 14), .lit (.int .u8 19), .lit (.int .u8 9), .lit (.int .u8 13), .lit (.int .u8 8), .lit (.int .u8 7), .lit (.int .u8 6)]

/-- 'clerestorylaw01.FitTypes': WHATEVER THE INPUT: true; the input reads as it did. -/
def fitTypesSpec : ChangeSpec := { name := "fitTypes", fn := fun _ => fun
  | [d] => { results := [.lit (.bool true)], args := [d] }
  | _ => none }
def fitTypesRow : OpenClaim := { program := "ytdkkffmnpholdaadoor", sum := "70da25796a9732527537e091441657ff2cb2a15ae34a26b95cc4e3ec2403b869", func := "clerestory/clerestorylaw01.FitTypes", spec := "fitTypes", unfollowed := true, recurses := true, named := ["math/bits.deBruijn64tab"], apart := false, laid := [("math/bits.deBruijn64tab", laid_math_bits_deBruijn64tab)] }
def FitTypesSaid : Prop := fitTypesRow.holds Tryd.pinned (OpenSpec.ofChange fitTypesSpec)

/-- ITS FALSE NEIGHBOUR: 'it returns false'. Refute it at one input. -/
def fitTypesWrong : ChangeSpec := { name := "fitTypes", fn := fun _ => fun
  | [d] => { results := [.lit (.bool false)], args := [d] }
  | _ => none }
def FitTypesWrongFalsely : Prop := fitTypesRow.holds Tryd.pinned (OpenSpec.ofChange fitTypesWrong)

/-- 'clerestorylaw01.FitBits': WHATEVER THE INPUT: true; the input reads as it did. -/
def fitBitsSpec : ChangeSpec := { name := "fitBits", fn := fun _ => fun
  | [d1, d2, d3, d4] => { results := [.lit (.bool true)], args := [d1, d2, d3, d4] }
  | _ => none }
def fitBitsRow : OpenClaim := { program := "ytdkkffmnpholdaadoor", sum := "70da25796a9732527537e091441657ff2cb2a15ae34a26b95cc4e3ec2403b869", func := "clerestory/clerestorylaw01.FitBits", spec := "fitBits", unfollowed := true, recurses := true, named := ["math/bits.deBruijn64tab"], apart := false, laid := [("math/bits.deBruijn64tab", laid_math_bits_deBruijn64tab)] }
def FitBitsSaid : Prop := fitBitsRow.holds Tryd.pinned (OpenSpec.ofChange fitBitsSpec)

/-- ITS FALSE NEIGHBOUR: 'it returns false'. Refute it at one input. -/
def fitBitsWrong : ChangeSpec := { name := "fitBits", fn := fun _ => fun
  | [d1, d2, d3, d4] => { results := [.lit (.bool false)], args := [d1, d2, d3, d4] }
  | _ => none }
def FitBitsWrongFalsely : Prop := fitBitsRow.holds Tryd.pinned (OpenSpec.ofChange fitBitsWrong)

/-- 'clerestorylaw01.FitBack': WHATEVER THE INPUT: true; the input reads as it did. -/
def fitBackSpec : ChangeSpec := { name := "fitBack", fn := fun _ => fun
  | [d1, d2] => { results := [.lit (.bool true)], args := [d1, d2] }
  | _ => none }
def fitBackRow : OpenClaim := { program := "ytdkkffmnpholdaadoor", sum := "70da25796a9732527537e091441657ff2cb2a15ae34a26b95cc4e3ec2403b869", func := "clerestory/clerestorylaw01.FitBack", spec := "fitBack", unfollowed := true, recurses := true, named := ["math/bits.deBruijn64tab"], apart := false, laid := [("math/bits.deBruijn64tab", laid_math_bits_deBruijn64tab)] }
def FitBackSaid : Prop := fitBackRow.holds Tryd.pinned (OpenSpec.ofChange fitBackSpec)

/-- ITS FALSE NEIGHBOUR: 'it returns false'. Refute it at one input. -/
def fitBackWrong : ChangeSpec := { name := "fitBack", fn := fun _ => fun
  | [d1, d2] => { results := [.lit (.bool false)], args := [d1, d2] }
  | _ => none }
def FitBackWrongFalsely : Prop := fitBackRow.holds Tryd.pinned (OpenSpec.ofChange fitBackWrong)

/-- 'clerestorylaw01.FitLows': WHATEVER THE INPUT: true; the input reads as it did. -/
def fitLowsSpec : ChangeSpec := { name := "fitLows", fn := fun _ => fun
  | [d1, d2, d3, d4] => { results := [.lit (.bool true)], args := [d1, d2, d3, d4] }
  | _ => none }
def fitLowsRow : OpenClaim := { program := "ytdkkffmnpholdaadoor", sum := "70da25796a9732527537e091441657ff2cb2a15ae34a26b95cc4e3ec2403b869", func := "clerestory/clerestorylaw01.FitLows", spec := "fitLows", unfollowed := true, recurses := true, named := ["math/bits.deBruijn64tab"], apart := false, laid := [("math/bits.deBruijn64tab", laid_math_bits_deBruijn64tab)] }
def FitLowsSaid : Prop := fitLowsRow.holds Tryd.pinned (OpenSpec.ofChange fitLowsSpec)

/-- ITS FALSE NEIGHBOUR: 'it returns false'. Refute it at one input. -/
def fitLowsWrong : ChangeSpec := { name := "fitLows", fn := fun _ => fun
  | [d1, d2, d3, d4] => { results := [.lit (.bool false)], args := [d1, d2, d3, d4] }
  | _ => none }
def FitLowsWrongFalsely : Prop := fitLowsRow.holds Tryd.pinned (OpenSpec.ofChange fitLowsWrong)

/-- 'clerestorylaw01.FitHalves': WHATEVER THE INPUT: true; the input reads as it did. -/
def fitHalvesSpec : ChangeSpec := { name := "fitHalves", fn := fun _ => fun
  | [d1, d2, d3, d4] => { results := [.lit (.bool true)], args := [d1, d2, d3, d4] }
  | _ => none }
def fitHalvesRow : OpenClaim := { program := "ytdkkffmnpholdaadoor", sum := "70da25796a9732527537e091441657ff2cb2a15ae34a26b95cc4e3ec2403b869", func := "clerestory/clerestorylaw01.FitHalves", spec := "fitHalves", unfollowed := true, recurses := true, named := ["math/bits.deBruijn64tab"], apart := false, laid := [("math/bits.deBruijn64tab", laid_math_bits_deBruijn64tab)] }
def FitHalvesSaid : Prop := fitHalvesRow.holds Tryd.pinned (OpenSpec.ofChange fitHalvesSpec)

/-- ITS FALSE NEIGHBOUR: 'it returns false'. Refute it at one input. -/
def fitHalvesWrong : ChangeSpec := { name := "fitHalves", fn := fun _ => fun
  | [d1, d2, d3, d4] => { results := [.lit (.bool false)], args := [d1, d2, d3, d4] }
  | _ => none }
def FitHalvesWrongFalsely : Prop := fitHalvesRow.holds Tryd.pinned (OpenSpec.ofChange fitHalvesWrong)

/-- 'clerestorylaw01.FitEnds': WHATEVER THE INPUT: true; the input reads as it did. -/
def fitEndsSpec : ChangeSpec := { name := "fitEnds", fn := fun _ => fun
  | [d] => { results := [.lit (.bool true)], args := [d] }
  | _ => none }
def fitEndsRow : OpenClaim := { program := "ytdkkffmnpholdaadoor", sum := "70da25796a9732527537e091441657ff2cb2a15ae34a26b95cc4e3ec2403b869", func := "clerestory/clerestorylaw01.FitEnds", spec := "fitEnds", unfollowed := true, recurses := true, named := ["math/bits.deBruijn64tab"], apart := false, laid := [("math/bits.deBruijn64tab", laid_math_bits_deBruijn64tab)] }
def FitEndsSaid : Prop := fitEndsRow.holds Tryd.pinned (OpenSpec.ofChange fitEndsSpec)

/-- ITS FALSE NEIGHBOUR: 'it returns false'. Refute it at one input. -/
def fitEndsWrong : ChangeSpec := { name := "fitEnds", fn := fun _ => fun
  | [d] => { results := [.lit (.bool false)], args := [d] }
  | _ => none }
def FitEndsWrongFalsely : Prop := fitEndsRow.holds Tryd.pinned (OpenSpec.ofChange fitEndsWrong)

/- THE SECOND FORM. 'bulk': how many values and letters a reading holds, each counted each time it is reached (what is shared counts as often as it is met; a slice's spare places count too). A statement '..UptoSaid' is the law's where the arguments, and the package variables that the reading takes, are together of bulk at most 1048576: NARROWER than '..Said'. Prove '..Said' where nothing that the law and all that it calls make is longer than what came in: it says more and counts as full. Else prove '..UptoSaid'. A law counts once. -/
mutual
def uptoBulk {H : Type} : DataW H → Nat
  | .lit (.string bytes) => bytes.length + 1
  | .lit _ => 1
  | .nil => 1
  | .ptr d => uptoBulk d + 1
  | .slice elems spare => uptoBulkAll elems + uptoBulkAll spare + 1
  | .agg parts => uptoBulkAll parts + 1
  | .iface _ d => uptoBulk d + 1
  | .map entries => uptoBulkEntries entries + 1
  | .held _ => 1
def uptoBulkAll {H : Type} : List (DataW H) → Nat
  | [] => 0
  | d :: r => uptoBulk d + uptoBulkAll r
def uptoBulkEntries {H : Type} : List (Lit × DataW H) → Nat
  | [] => 0
  | x :: r => uptoBulkEntry x + uptoBulkEntries r
def uptoBulkEntry {H : Type} : Lit × DataW H → Nat
  | (.string bytes, d) => bytes.length + uptoBulk d + 1
  | (_, d) => uptoBulk d + 1
 end
def uptoSmall : (H : Type) → List (DataW H) → Bool := fun _ ds => decide (uptoBulkAll ds ≤ 1048576)
def OpenSpec.upto (s : _root_.Go.ChangeSpec) : _root_.Go.OpenSpec := { _root_.Go.OpenSpec.ofChange s with cond := some uptoSmall }

/-- 'clerestorylaw01.FitTypes', WHERE WHAT IT READS IS OF BULK AT MOST 1048576: true; the input reads as it did. -/
def fitTypesUptoRow : OpenClaim := { program := "ytdkkffmnpholdaadoor", sum := "70da25796a9732527537e091441657ff2cb2a15ae34a26b95cc4e3ec2403b869", func := "clerestory/clerestorylaw01.FitTypes", spec := "fitTypes", unfollowed := true, recurses := true, named := ["math/bits.deBruijn64tab"], apart := false, laid := [("math/bits.deBruijn64tab", laid_math_bits_deBruijn64tab)], narrowed := true }
def FitTypesUptoSaid : Prop := fitTypesUptoRow.holds Tryd.pinned (OpenSpec.upto fitTypesSpec)

/-- 'clerestorylaw01.FitBits', WHERE WHAT IT READS IS OF BULK AT MOST 1048576: true; the input reads as it did. -/
def fitBitsUptoRow : OpenClaim := { program := "ytdkkffmnpholdaadoor", sum := "70da25796a9732527537e091441657ff2cb2a15ae34a26b95cc4e3ec2403b869", func := "clerestory/clerestorylaw01.FitBits", spec := "fitBits", unfollowed := true, recurses := true, named := ["math/bits.deBruijn64tab"], apart := false, laid := [("math/bits.deBruijn64tab", laid_math_bits_deBruijn64tab)], narrowed := true }
def FitBitsUptoSaid : Prop := fitBitsUptoRow.holds Tryd.pinned (OpenSpec.upto fitBitsSpec)

/-- 'clerestorylaw01.FitBack', WHERE WHAT IT READS IS OF BULK AT MOST 1048576: true; the input reads as it did. -/
def fitBackUptoRow : OpenClaim := { program := "ytdkkffmnpholdaadoor", sum := "70da25796a9732527537e091441657ff2cb2a15ae34a26b95cc4e3ec2403b869", func := "clerestory/clerestorylaw01.FitBack", spec := "fitBack", unfollowed := true, recurses := true, named := ["math/bits.deBruijn64tab"], apart := false, laid := [("math/bits.deBruijn64tab", laid_math_bits_deBruijn64tab)], narrowed := true }
def FitBackUptoSaid : Prop := fitBackUptoRow.holds Tryd.pinned (OpenSpec.upto fitBackSpec)

/-- 'clerestorylaw01.FitLows', WHERE WHAT IT READS IS OF BULK AT MOST 1048576: true; the input reads as it did. -/
def fitLowsUptoRow : OpenClaim := { program := "ytdkkffmnpholdaadoor", sum := "70da25796a9732527537e091441657ff2cb2a15ae34a26b95cc4e3ec2403b869", func := "clerestory/clerestorylaw01.FitLows", spec := "fitLows", unfollowed := true, recurses := true, named := ["math/bits.deBruijn64tab"], apart := false, laid := [("math/bits.deBruijn64tab", laid_math_bits_deBruijn64tab)], narrowed := true }
def FitLowsUptoSaid : Prop := fitLowsUptoRow.holds Tryd.pinned (OpenSpec.upto fitLowsSpec)

/-- 'clerestorylaw01.FitHalves', WHERE WHAT IT READS IS OF BULK AT MOST 1048576: true; the input reads as it did. -/
def fitHalvesUptoRow : OpenClaim := { program := "ytdkkffmnpholdaadoor", sum := "70da25796a9732527537e091441657ff2cb2a15ae34a26b95cc4e3ec2403b869", func := "clerestory/clerestorylaw01.FitHalves", spec := "fitHalves", unfollowed := true, recurses := true, named := ["math/bits.deBruijn64tab"], apart := false, laid := [("math/bits.deBruijn64tab", laid_math_bits_deBruijn64tab)], narrowed := true }
def FitHalvesUptoSaid : Prop := fitHalvesUptoRow.holds Tryd.pinned (OpenSpec.upto fitHalvesSpec)

/-- 'clerestorylaw01.FitEnds', WHERE WHAT IT READS IS OF BULK AT MOST 1048576: true; the input reads as it did. -/
def fitEndsUptoRow : OpenClaim := { program := "ytdkkffmnpholdaadoor", sum := "70da25796a9732527537e091441657ff2cb2a15ae34a26b95cc4e3ec2403b869", func := "clerestory/clerestorylaw01.FitEnds", spec := "fitEnds", unfollowed := true, recurses := true, named := ["math/bits.deBruijn64tab"], apart := false, laid := [("math/bits.deBruijn64tab", laid_math_bits_deBruijn64tab)], narrowed := true }
def FitEndsUptoSaid : Prop := fitEndsUptoRow.holds Tryd.pinned (OpenSpec.upto fitEndsSpec)

end Rows
end Go.Proofs.YtdkkffmnpholdaaDoor
