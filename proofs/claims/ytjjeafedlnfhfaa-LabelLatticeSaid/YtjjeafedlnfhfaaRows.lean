/-
  No cell of these rows narrows 'for every input' (looked for: loops, veiled, ifaces, maps, wideKeys, modest, calm, conditions, laid).
  DERIVED. THE GIVEN ROWS OF THIS SEAT. 10 by the template 'for every input the law returns true; each argument reads behind the call as it read before'; 0 by the template 'total and deterministic' (their statements: YtjjeafedlnfhfaaTotals.lean).
  GIVEN WITH THE SEED: the statements are not yours to turn. If you find one false, say at which input.
  Laid BY PROGRAM, IN A SANDBOX (cutbox-rows.mjs): the forced cells as the released guide's own fill.sh prints them over the translation 444414a90b25670a… (all of the seat's roots in one cut). By AI agents, Wed Nov 11 2026. No macro, syntax, notation, axiom, sorry.
-/
import Derived.Test.YtjjeafedlnfhfaaChecked
import GoSem.Claim
import GoSem.ClaimJoined
import GoSem.ClaimMapViews
import Derived.JoinedTies
import Derived.KernelRfl
namespace Go.Proofs.Ytjjeafedlnfhfaa
/- THE CELL 'sum', in the pinned program and in every row, IS THE sha256 OF THE DUMP (.gsa) THAT YtjjeafedlnfhfaaProg.lean LOADS. Nothing in Lean hashes anything: it is a label: what it is worth is what the hold of that sum in a sandbox is worth. -/
noncomputable def Try.pinned : Pinned := { name := "ytjjeafedlnfhfaa", sum := "444414a90b25670aeca25dcc252283895e98eff367ee1b60c114742d09fdc358", checked := Try.checked }
namespace Rows
def none {H : Type} : Left H := { results := [], args := [] }

/-- 'clerestorylaw13.ClockPlays': WHATEVER THE INPUT: true; the input reads as it did. -/
def clockPlaysSpec : ChangeSpec := { name := "clockPlays", fn := fun _ => fun
  | [d1, d2, d3] => { results := [.lit (.bool true)], args := [d1, d2, d3] }
  | _ => none }
def clockPlaysRow : OpenClaim := { program := "ytjjeafedlnfhfaa", sum := "444414a90b25670aeca25dcc252283895e98eff367ee1b60c114742d09fdc358", func := "clerestory/clerestorylaw13.ClockPlays", spec := "clockPlays", apart := false }
def ClockPlaysSaid : Prop := clockPlaysRow.holds Try.pinned (OpenSpec.ofChange clockPlaysSpec)

/-- ITS FALSE NEIGHBOUR: 'it returns false'. Refute it at one input. -/
def clockPlaysWrong : ChangeSpec := { name := "clockPlays", fn := fun _ => fun
  | [d1, d2, d3] => { results := [.lit (.bool false)], args := [d1, d2, d3] }
  | _ => none }
def ClockPlaysWrongFalsely : Prop := clockPlaysRow.holds Try.pinned (OpenSpec.ofChange clockPlaysWrong)

/-- 'clerestorylaw13.ClockForth': WHATEVER THE INPUT: true; the input reads as it did. -/
def clockForthSpec : ChangeSpec := { name := "clockForth", fn := fun _ => fun
  | [d1, d2, d3, d4] => { results := [.lit (.bool true)], args := [d1, d2, d3, d4] }
  | _ => none }
def clockForthRow : OpenClaim := { program := "ytjjeafedlnfhfaa", sum := "444414a90b25670aeca25dcc252283895e98eff367ee1b60c114742d09fdc358", func := "clerestory/clerestorylaw13.ClockForth", spec := "clockForth", apart := false }
def ClockForthSaid : Prop := clockForthRow.holds Try.pinned (OpenSpec.ofChange clockForthSpec)

/-- ITS FALSE NEIGHBOUR: 'it returns false'. Refute it at one input. -/
def clockForthWrong : ChangeSpec := { name := "clockForth", fn := fun _ => fun
  | [d1, d2, d3, d4] => { results := [.lit (.bool false)], args := [d1, d2, d3, d4] }
  | _ => none }
def ClockForthWrongFalsely : Prop := clockForthRow.holds Try.pinned (OpenSpec.ofChange clockForthWrong)

/-- 'clerestorylaw13.ClockLeast': WHATEVER THE INPUT: true; the input reads as it did. -/
def clockLeastSpec : ChangeSpec := { name := "clockLeast", fn := fun _ => fun
  | [d] => { results := [.lit (.bool true)], args := [d] }
  | _ => none }
def clockLeastRow : OpenClaim := { program := "ytjjeafedlnfhfaa", sum := "444414a90b25670aeca25dcc252283895e98eff367ee1b60c114742d09fdc358", func := "clerestory/clerestorylaw13.ClockLeast", spec := "clockLeast", apart := false }
def ClockLeastSaid : Prop := clockLeastRow.holds Try.pinned (OpenSpec.ofChange clockLeastSpec)

/-- ITS FALSE NEIGHBOUR: 'it returns false'. Refute it at one input. -/
def clockLeastWrong : ChangeSpec := { name := "clockLeast", fn := fun _ => fun
  | [d] => { results := [.lit (.bool false)], args := [d] }
  | _ => none }
def ClockLeastWrongFalsely : Prop := clockLeastRow.holds Try.pinned (OpenSpec.ofChange clockLeastWrong)

/-- 'clerestorylaw13.ClockEnds': WHATEVER THE INPUT: true; the input reads as it did. -/
def clockEndsSpec : ChangeSpec := { name := "clockEnds", fn := fun _ => fun
  | [d1, d2] => { results := [.lit (.bool true)], args := [d1, d2] }
  | _ => none }
def clockEndsRow : OpenClaim := { program := "ytjjeafedlnfhfaa", sum := "444414a90b25670aeca25dcc252283895e98eff367ee1b60c114742d09fdc358", func := "clerestory/clerestorylaw13.ClockEnds", spec := "clockEnds", apart := false }
def ClockEndsSaid : Prop := clockEndsRow.holds Try.pinned (OpenSpec.ofChange clockEndsSpec)

/-- ITS FALSE NEIGHBOUR: 'it returns false'. Refute it at one input. -/
def clockEndsWrong : ChangeSpec := { name := "clockEnds", fn := fun _ => fun
  | [d1, d2] => { results := [.lit (.bool false)], args := [d1, d2] }
  | _ => none }
def ClockEndsWrongFalsely : Prop := clockEndsRow.holds Try.pinned (OpenSpec.ofChange clockEndsWrong)

/-- 'clerestorylaw13.ClockSums': WHATEVER THE INPUT: true; the input reads as it did. -/
def clockSumsSpec : ChangeSpec := { name := "clockSums", fn := fun _ => fun
  | [d1, d2, d3] => { results := [.lit (.bool true)], args := [d1, d2, d3] }
  | _ => none }
def clockSumsRow : OpenClaim := { program := "ytjjeafedlnfhfaa", sum := "444414a90b25670aeca25dcc252283895e98eff367ee1b60c114742d09fdc358", func := "clerestory/clerestorylaw13.ClockSums", spec := "clockSums", apart := false }
def ClockSumsSaid : Prop := clockSumsRow.holds Try.pinned (OpenSpec.ofChange clockSumsSpec)

/-- ITS FALSE NEIGHBOUR: 'it returns false'. Refute it at one input. -/
def clockSumsWrong : ChangeSpec := { name := "clockSums", fn := fun _ => fun
  | [d1, d2, d3] => { results := [.lit (.bool false)], args := [d1, d2, d3] }
  | _ => none }
def ClockSumsWrongFalsely : Prop := clockSumsRow.holds Try.pinned (OpenSpec.ofChange clockSumsWrong)

/-- 'clerestorylaw04.LabelTwo': WHATEVER THE INPUT: true; the input reads as it did. -/
def labelTwoSpec : ChangeSpec := { name := "labelTwo", fn := fun _ => fun
  | [d1, d2, d3] => { results := [.lit (.bool true)], args := [d1, d2, d3] }
  | _ => none }
def labelTwoRow : OpenClaim := { program := "ytjjeafedlnfhfaa", sum := "444414a90b25670aeca25dcc252283895e98eff367ee1b60c114742d09fdc358", func := "clerestory/clerestorylaw04.LabelTwo", spec := "labelTwo", apart := false }
def LabelTwoSaid : Prop := labelTwoRow.holds Try.pinned (OpenSpec.ofChange labelTwoSpec)

/-- ITS FALSE NEIGHBOUR: 'it returns false'. Refute it at one input. -/
def labelTwoWrong : ChangeSpec := { name := "labelTwo", fn := fun _ => fun
  | [d1, d2, d3] => { results := [.lit (.bool false)], args := [d1, d2, d3] }
  | _ => none }
def LabelTwoWrongFalsely : Prop := labelTwoRow.holds Try.pinned (OpenSpec.ofChange labelTwoWrong)

/-- 'clerestorylaw04.LabelLattice': WHATEVER THE INPUT: true; the input reads as it did. -/
def labelLatticeSpec : ChangeSpec := { name := "labelLattice", fn := fun _ => fun
  | [d1, d2, d3] => { results := [.lit (.bool true)], args := [d1, d2, d3] }
  | _ => none }
def labelLatticeRow : OpenClaim := { program := "ytjjeafedlnfhfaa", sum := "444414a90b25670aeca25dcc252283895e98eff367ee1b60c114742d09fdc358", func := "clerestory/clerestorylaw04.LabelLattice", spec := "labelLattice", unfollowed := true, recurses := true, apart := false }
def LabelLatticeSaid : Prop := labelLatticeRow.holds Try.pinned (OpenSpec.ofChange labelLatticeSpec)

/-- ITS FALSE NEIGHBOUR: 'it returns false'. Refute it at one input. -/
def labelLatticeWrong : ChangeSpec := { name := "labelLattice", fn := fun _ => fun
  | [d1, d2, d3] => { results := [.lit (.bool false)], args := [d1, d2, d3] }
  | _ => none }
def LabelLatticeWrongFalsely : Prop := labelLatticeRow.holds Try.pinned (OpenSpec.ofChange labelLatticeWrong)

/-- 'clerestorylaw04.LabelNumbers': WHATEVER THE INPUT: true; the input reads as it did. -/
def labelNumbersSpec : ChangeSpec := { name := "labelNumbers", fn := fun _ => fun
  | [d1, d2] => { results := [.lit (.bool true)], args := [d1, d2] }
  | _ => none }
def labelNumbersRow : OpenClaim := { program := "ytjjeafedlnfhfaa", sum := "444414a90b25670aeca25dcc252283895e98eff367ee1b60c114742d09fdc358", func := "clerestory/clerestorylaw04.LabelNumbers", spec := "labelNumbers", apart := false }
def LabelNumbersSaid : Prop := labelNumbersRow.holds Try.pinned (OpenSpec.ofChange labelNumbersSpec)

/-- ITS FALSE NEIGHBOUR: 'it returns false'. Refute it at one input. -/
def labelNumbersWrong : ChangeSpec := { name := "labelNumbers", fn := fun _ => fun
  | [d1, d2] => { results := [.lit (.bool false)], args := [d1, d2] }
  | _ => none }
def LabelNumbersWrongFalsely : Prop := labelNumbersRow.holds Try.pinned (OpenSpec.ofChange labelNumbersWrong)

/-- 'clerestorylaw04.LabelJoins': WHATEVER THE INPUT: true; the input reads as it did. -/
def labelJoinsSpec : ChangeSpec := { name := "labelJoins", fn := fun _ => fun
  | [d1, d2, d3] => { results := [.lit (.bool true)], args := [d1, d2, d3] }
  | _ => none }
def labelJoinsRow : OpenClaim := { program := "ytjjeafedlnfhfaa", sum := "444414a90b25670aeca25dcc252283895e98eff367ee1b60c114742d09fdc358", func := "clerestory/clerestorylaw04.LabelJoins", spec := "labelJoins", unfollowed := true, recurses := true, apart := false }
def LabelJoinsSaid : Prop := labelJoinsRow.holds Try.pinned (OpenSpec.ofChange labelJoinsSpec)

/-- ITS FALSE NEIGHBOUR: 'it returns false'. Refute it at one input. -/
def labelJoinsWrong : ChangeSpec := { name := "labelJoins", fn := fun _ => fun
  | [d1, d2, d3] => { results := [.lit (.bool false)], args := [d1, d2, d3] }
  | _ => none }
def LabelJoinsWrongFalsely : Prop := labelJoinsRow.holds Try.pinned (OpenSpec.ofChange labelJoinsWrong)

/-- 'clerestorylaw04.LabelBits': WHATEVER THE INPUT: true; the input reads as it did. -/
def labelBitsSpec : ChangeSpec := { name := "labelBits", fn := fun _ => fun
  | [d1, d2] => { results := [.lit (.bool true)], args := [d1, d2] }
  | _ => none }
def labelBitsRow : OpenClaim := { program := "ytjjeafedlnfhfaa", sum := "444414a90b25670aeca25dcc252283895e98eff367ee1b60c114742d09fdc358", func := "clerestory/clerestorylaw04.LabelBits", spec := "labelBits", apart := false }
def LabelBitsSaid : Prop := labelBitsRow.holds Try.pinned (OpenSpec.ofChange labelBitsSpec)

/-- ITS FALSE NEIGHBOUR: 'it returns false'. Refute it at one input. -/
def labelBitsWrong : ChangeSpec := { name := "labelBits", fn := fun _ => fun
  | [d1, d2] => { results := [.lit (.bool false)], args := [d1, d2] }
  | _ => none }
def LabelBitsWrongFalsely : Prop := labelBitsRow.holds Try.pinned (OpenSpec.ofChange labelBitsWrong)

/- THE SECOND FORM. 'bulk': how many values and letters a reading holds, each counted each time it is reached (what is shared counts as often as it is met; a slice's spare places count too). A statement '..UptoSaid' is the law's where the arguments, and the package variables that the reading takes, are together of bulk at most 1048576: NARROWER than '..Said'. Prove '..Said' where nothing that the law and all that it calls make is longer than what came in: it says more and counts as full. Else prove '..UptoSaid'. A law counts once. -/
mutual
def uptoBulk {H : Type} : DataW H → Nat
  | .lit (.string bytes) => bytes.length + 1
  | .lit _ => 1
  | .nil => 1
  | .ptr d => uptoBulk d + 1
  | .slice elems spare => uptoBulkAll elems + uptoBulkAll spare + 1
  | .agg parts => uptoBulkAll parts + 1
  | .iface _ d => uptoBulk d + 1
  | .map entries => uptoBulkEntries entries + 1
  | .held _ => 1
def uptoBulkAll {H : Type} : List (DataW H) → Nat
  | [] => 0
  | d :: r => uptoBulk d + uptoBulkAll r
def uptoBulkEntries {H : Type} : List (Lit × DataW H) → Nat
  | [] => 0
  | x :: r => uptoBulkEntry x + uptoBulkEntries r
def uptoBulkEntry {H : Type} : Lit × DataW H → Nat
  | (.string bytes, d) => bytes.length + uptoBulk d + 1
  | (_, d) => uptoBulk d + 1
 end
def uptoSmall : (H : Type) → List (DataW H) → Bool := fun _ ds => decide (uptoBulkAll ds ≤ 1048576)
def OpenSpec.upto (s : _root_.Go.ChangeSpec) : _root_.Go.OpenSpec := { _root_.Go.OpenSpec.ofChange s with cond := some uptoSmall }

/-- 'clerestorylaw13.ClockPlays', WHERE WHAT IT READS IS OF BULK AT MOST 1048576: true; the input reads as it did. -/
def clockPlaysUptoRow : OpenClaim := { program := "ytjjeafedlnfhfaa", sum := "444414a90b25670aeca25dcc252283895e98eff367ee1b60c114742d09fdc358", func := "clerestory/clerestorylaw13.ClockPlays", spec := "clockPlays", apart := false, narrowed := true }
def ClockPlaysUptoSaid : Prop := clockPlaysUptoRow.holds Try.pinned (OpenSpec.upto clockPlaysSpec)

/-- 'clerestorylaw13.ClockForth', WHERE WHAT IT READS IS OF BULK AT MOST 1048576: true; the input reads as it did. -/
def clockForthUptoRow : OpenClaim := { program := "ytjjeafedlnfhfaa", sum := "444414a90b25670aeca25dcc252283895e98eff367ee1b60c114742d09fdc358", func := "clerestory/clerestorylaw13.ClockForth", spec := "clockForth", apart := false, narrowed := true }
def ClockForthUptoSaid : Prop := clockForthUptoRow.holds Try.pinned (OpenSpec.upto clockForthSpec)

/-- 'clerestorylaw13.ClockLeast', WHERE WHAT IT READS IS OF BULK AT MOST 1048576: true; the input reads as it did. -/
def clockLeastUptoRow : OpenClaim := { program := "ytjjeafedlnfhfaa", sum := "444414a90b25670aeca25dcc252283895e98eff367ee1b60c114742d09fdc358", func := "clerestory/clerestorylaw13.ClockLeast", spec := "clockLeast", apart := false, narrowed := true }
def ClockLeastUptoSaid : Prop := clockLeastUptoRow.holds Try.pinned (OpenSpec.upto clockLeastSpec)

/-- 'clerestorylaw13.ClockEnds', WHERE WHAT IT READS IS OF BULK AT MOST 1048576: true; the input reads as it did. -/
def clockEndsUptoRow : OpenClaim := { program := "ytjjeafedlnfhfaa", sum := "444414a90b25670aeca25dcc252283895e98eff367ee1b60c114742d09fdc358", func := "clerestory/clerestorylaw13.ClockEnds", spec := "clockEnds", apart := false, narrowed := true }
def ClockEndsUptoSaid : Prop := clockEndsUptoRow.holds Try.pinned (OpenSpec.upto clockEndsSpec)

/-- 'clerestorylaw13.ClockSums', WHERE WHAT IT READS IS OF BULK AT MOST 1048576: true; the input reads as it did. -/
def clockSumsUptoRow : OpenClaim := { program := "ytjjeafedlnfhfaa", sum := "444414a90b25670aeca25dcc252283895e98eff367ee1b60c114742d09fdc358", func := "clerestory/clerestorylaw13.ClockSums", spec := "clockSums", apart := false, narrowed := true }
def ClockSumsUptoSaid : Prop := clockSumsUptoRow.holds Try.pinned (OpenSpec.upto clockSumsSpec)

/-- 'clerestorylaw04.LabelTwo', WHERE WHAT IT READS IS OF BULK AT MOST 1048576: true; the input reads as it did. -/
def labelTwoUptoRow : OpenClaim := { program := "ytjjeafedlnfhfaa", sum := "444414a90b25670aeca25dcc252283895e98eff367ee1b60c114742d09fdc358", func := "clerestory/clerestorylaw04.LabelTwo", spec := "labelTwo", apart := false, narrowed := true }
def LabelTwoUptoSaid : Prop := labelTwoUptoRow.holds Try.pinned (OpenSpec.upto labelTwoSpec)

/-- 'clerestorylaw04.LabelLattice', WHERE WHAT IT READS IS OF BULK AT MOST 1048576: true; the input reads as it did. -/
def labelLatticeUptoRow : OpenClaim := { program := "ytjjeafedlnfhfaa", sum := "444414a90b25670aeca25dcc252283895e98eff367ee1b60c114742d09fdc358", func := "clerestory/clerestorylaw04.LabelLattice", spec := "labelLattice", unfollowed := true, recurses := true, apart := false, narrowed := true }
def LabelLatticeUptoSaid : Prop := labelLatticeUptoRow.holds Try.pinned (OpenSpec.upto labelLatticeSpec)

/-- 'clerestorylaw04.LabelNumbers', WHERE WHAT IT READS IS OF BULK AT MOST 1048576: true; the input reads as it did. -/
def labelNumbersUptoRow : OpenClaim := { program := "ytjjeafedlnfhfaa", sum := "444414a90b25670aeca25dcc252283895e98eff367ee1b60c114742d09fdc358", func := "clerestory/clerestorylaw04.LabelNumbers", spec := "labelNumbers", apart := false, narrowed := true }
def LabelNumbersUptoSaid : Prop := labelNumbersUptoRow.holds Try.pinned (OpenSpec.upto labelNumbersSpec)

/-- 'clerestorylaw04.LabelJoins', WHERE WHAT IT READS IS OF BULK AT MOST 1048576: true; the input reads as it did. -/
def labelJoinsUptoRow : OpenClaim := { program := "ytjjeafedlnfhfaa", sum := "444414a90b25670aeca25dcc252283895e98eff367ee1b60c114742d09fdc358", func := "clerestory/clerestorylaw04.LabelJoins", spec := "labelJoins", unfollowed := true, recurses := true, apart := false, narrowed := true }
def LabelJoinsUptoSaid : Prop := labelJoinsUptoRow.holds Try.pinned (OpenSpec.upto labelJoinsSpec)

/-- 'clerestorylaw04.LabelBits', WHERE WHAT IT READS IS OF BULK AT MOST 1048576: true; the input reads as it did. -/
def labelBitsUptoRow : OpenClaim := { program := "ytjjeafedlnfhfaa", sum := "444414a90b25670aeca25dcc252283895e98eff367ee1b60c114742d09fdc358", func := "clerestory/clerestorylaw04.LabelBits", spec := "labelBits", apart := false, narrowed := true }
def LabelBitsUptoSaid : Prop := labelBitsUptoRow.holds Try.pinned (OpenSpec.upto labelBitsSpec)

end Rows
end Go.Proofs.Ytjjeafedlnfhfaa
