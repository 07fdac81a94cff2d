/-
  No cell of these rows narrows 'for every input' (looked for: loops, veiled, ifaces, maps, wideKeys, modest, calm, conditions, laid).
  DERIVED. THE GIVEN ROWS OF THIS SEAT. 11 by the template 'for every input the law returns true; each argument reads behind the call as it read before'; 0 by the template 'total and deterministic' (their statements: YtoaekfocfdcgiaaTotals.lean).
  GIVEN WITH THE SEED: the statements are not yours to turn. If you find one false, say at which input.
  Laid BY PROGRAM, IN A SANDBOX (cutbox-rows.mjs): the forced cells as the released guide's own fill.sh prints them over the translation 5b02e4c1e7848404… (all of the seat's roots in one cut). By AI agents, Wed Nov 11 2026. No macro, syntax, notation, axiom, sorry.
-/
import Derived.Test.YtoaekfocfdcgiaaChecked
import GoSem.Claim
import GoSem.ClaimJoined
import GoSem.ClaimMapViews
import Derived.JoinedTies
import Derived.KernelRfl
namespace Go.Proofs.Ytoaekfocfdcgiaa
/- THE CELL 'sum', in the pinned program and in every row, IS THE sha256 OF THE DUMP (.gsa) THAT YtoaekfocfdcgiaaProg.lean LOADS. Nothing in Lean hashes anything: it is a label: what it is worth is what the hold of that sum in a sandbox is worth. -/
noncomputable def Try.pinned : Pinned := { name := "ytoaekfocfdcgiaa", sum := "5b02e4c1e78484048df54acdd9f21bf141ae30d7591b8f16edbc69c0ad334bdb", checked := Try.checked }
namespace Rows
def none {H : Type} : Left H := { results := [], args := [] }

/-- 'clerestorylaw02.OctetWrites': WHATEVER THE INPUT: true; the input reads as it did. -/
def octetWritesSpec : ChangeSpec := { name := "octetWrites", fn := fun _ => fun
  | [d] => { results := [.lit (.bool true)], args := [d] }
  | _ => none }
def octetWritesRow : OpenClaim := { program := "ytoaekfocfdcgiaa", sum := "5b02e4c1e78484048df54acdd9f21bf141ae30d7591b8f16edbc69c0ad334bdb", func := "clerestory/clerestorylaw02.OctetWrites", spec := "octetWrites", apart := false }
def OctetWritesSaid : Prop := octetWritesRow.holds Try.pinned (OpenSpec.ofChange octetWritesSpec)

/-- ITS FALSE NEIGHBOUR: 'it returns false'. Refute it at one input. -/
def octetWritesWrong : ChangeSpec := { name := "octetWrites", fn := fun _ => fun
  | [d] => { results := [.lit (.bool false)], args := [d] }
  | _ => none }
def OctetWritesWrongFalsely : Prop := octetWritesRow.holds Try.pinned (OpenSpec.ofChange octetWritesWrong)

/-- 'clerestorylaw02.OctetSizes': WHATEVER THE INPUT: true; the input reads as it did. -/
def octetSizesSpec : ChangeSpec := { name := "octetSizes", fn := fun _ => fun
  | [d1, d2, d3, d4] => { results := [.lit (.bool true)], args := [d1, d2, d3, d4] }
  | _ => none }
def octetSizesRow : OpenClaim := { program := "ytoaekfocfdcgiaa", sum := "5b02e4c1e78484048df54acdd9f21bf141ae30d7591b8f16edbc69c0ad334bdb", func := "clerestory/clerestorylaw02.OctetSizes", spec := "octetSizes", apart := false }
def OctetSizesSaid : Prop := octetSizesRow.holds Try.pinned (OpenSpec.ofChange octetSizesSpec)

/-- ITS FALSE NEIGHBOUR: 'it returns false'. Refute it at one input. -/
def octetSizesWrong : ChangeSpec := { name := "octetSizes", fn := fun _ => fun
  | [d1, d2, d3, d4] => { results := [.lit (.bool false)], args := [d1, d2, d3, d4] }
  | _ => none }
def OctetSizesWrongFalsely : Prop := octetSizesRow.holds Try.pinned (OpenSpec.ofChange octetSizesWrong)

/-- 'clerestorylaw02.OctetInts': WHATEVER THE INPUT: true; the input reads as it did. -/
def octetIntsSpec : ChangeSpec := { name := "octetInts", fn := fun _ => fun
  | [d1, d2] => { results := [.lit (.bool true)], args := [d1, d2] }
  | _ => none }
def octetIntsRow : OpenClaim := { program := "ytoaekfocfdcgiaa", sum := "5b02e4c1e78484048df54acdd9f21bf141ae30d7591b8f16edbc69c0ad334bdb", func := "clerestory/clerestorylaw02.OctetInts", spec := "octetInts", apart := false }
def OctetIntsSaid : Prop := octetIntsRow.holds Try.pinned (OpenSpec.ofChange octetIntsSpec)

/-- ITS FALSE NEIGHBOUR: 'it returns false'. Refute it at one input. -/
def octetIntsWrong : ChangeSpec := { name := "octetInts", fn := fun _ => fun
  | [d1, d2] => { results := [.lit (.bool false)], args := [d1, d2] }
  | _ => none }
def OctetIntsWrongFalsely : Prop := octetIntsRow.holds Try.pinned (OpenSpec.ofChange octetIntsWrong)

/-- 'clerestorylaw02.OctetReads': WHATEVER THE INPUT: true; the input reads as it did. -/
def octetReadsSpec : ChangeSpec := { name := "octetReads", fn := fun _ => fun
  | [d1, d2] => { results := [.lit (.bool true)], args := [d1, d2] }
  | _ => none }
def octetReadsRow : OpenClaim := { program := "ytoaekfocfdcgiaa", sum := "5b02e4c1e78484048df54acdd9f21bf141ae30d7591b8f16edbc69c0ad334bdb", func := "clerestory/clerestorylaw02.OctetReads", spec := "octetReads", apart := false }
def OctetReadsSaid : Prop := octetReadsRow.holds Try.pinned (OpenSpec.ofChange octetReadsSpec)

/-- ITS FALSE NEIGHBOUR: 'it returns false'. Refute it at one input. -/
def octetReadsWrong : ChangeSpec := { name := "octetReads", fn := fun _ => fun
  | [d1, d2] => { results := [.lit (.bool false)], args := [d1, d2] }
  | _ => none }
def OctetReadsWrongFalsely : Prop := octetReadsRow.holds Try.pinned (OpenSpec.ofChange octetReadsWrong)

/-- 'clerestorylaw02.OctetBack': WHATEVER THE INPUT: true; the input reads as it did. -/
def octetBackSpec : ChangeSpec := { name := "octetBack", fn := fun _ => fun
  | [d] => { results := [.lit (.bool true)], args := [d] }
  | _ => none }
def octetBackRow : OpenClaim := { program := "ytoaekfocfdcgiaa", sum := "5b02e4c1e78484048df54acdd9f21bf141ae30d7591b8f16edbc69c0ad334bdb", func := "clerestory/clerestorylaw02.OctetBack", spec := "octetBack", apart := false }
def OctetBackSaid : Prop := octetBackRow.holds Try.pinned (OpenSpec.ofChange octetBackSpec)

/-- ITS FALSE NEIGHBOUR: 'it returns false'. Refute it at one input. -/
def octetBackWrong : ChangeSpec := { name := "octetBack", fn := fun _ => fun
  | [d] => { results := [.lit (.bool false)], args := [d] }
  | _ => none }
def OctetBackWrongFalsely : Prop := octetBackRow.holds Try.pinned (OpenSpec.ofChange octetBackWrong)

/-- 'clerestorylaw02.OctetRests': WHATEVER THE INPUT: true; the input reads as it did. -/
def octetRestsSpec : ChangeSpec := { name := "octetRests", fn := fun _ => fun
  | [d1, d2] => { results := [.lit (.bool true)], args := [d1, d2] }
  | _ => none }
def octetRestsRow : OpenClaim := { program := "ytoaekfocfdcgiaa", sum := "5b02e4c1e78484048df54acdd9f21bf141ae30d7591b8f16edbc69c0ad334bdb", func := "clerestory/clerestorylaw02.OctetRests", spec := "octetRests", apart := false }
def OctetRestsSaid : Prop := octetRestsRow.holds Try.pinned (OpenSpec.ofChange octetRestsSpec)

/-- ITS FALSE NEIGHBOUR: 'it returns false'. Refute it at one input. -/
def octetRestsWrong : ChangeSpec := { name := "octetRests", fn := fun _ => fun
  | [d1, d2] => { results := [.lit (.bool false)], args := [d1, d2] }
  | _ => none }
def OctetRestsWrongFalsely : Prop := octetRestsRow.holds Try.pinned (OpenSpec.ofChange octetRestsWrong)

/-- 'clerestorylaw08.AggTells': WHATEVER THE INPUT: true; the input reads as it did. -/
def aggTellsSpec : ChangeSpec := { name := "aggTells", fn := fun _ => fun
  | [d1, d2, d3, d4] => { results := [.lit (.bool true)], args := [d1, d2, d3, d4] }
  | _ => none }
def aggTellsRow : OpenClaim := { program := "ytoaekfocfdcgiaa", sum := "5b02e4c1e78484048df54acdd9f21bf141ae30d7591b8f16edbc69c0ad334bdb", func := "clerestory/clerestorylaw08.AggTells", spec := "aggTells", apart := false }
def AggTellsSaid : Prop := aggTellsRow.holds Try.pinned (OpenSpec.ofChange aggTellsSpec)

/-- ITS FALSE NEIGHBOUR: 'it returns false'. Refute it at one input. -/
def aggTellsWrong : ChangeSpec := { name := "aggTells", fn := fun _ => fun
  | [d1, d2, d3, d4] => { results := [.lit (.bool false)], args := [d1, d2, d3, d4] }
  | _ => none }
def AggTellsWrongFalsely : Prop := aggTellsRow.holds Try.pinned (OpenSpec.ofChange aggTellsWrong)

/-- 'clerestorylaw08.AggParts': WHATEVER THE INPUT: true; the input reads as it did. -/
def aggPartsSpec : ChangeSpec := { name := "aggParts", fn := fun _ => fun
  | [d1, d2] => { results := [.lit (.bool true)], args := [d1, d2] }
  | _ => none }
def aggPartsRow : OpenClaim := { program := "ytoaekfocfdcgiaa", sum := "5b02e4c1e78484048df54acdd9f21bf141ae30d7591b8f16edbc69c0ad334bdb", func := "clerestory/clerestorylaw08.AggParts", spec := "aggParts", apart := false }
def AggPartsSaid : Prop := aggPartsRow.holds Try.pinned (OpenSpec.ofChange aggPartsSpec)

/-- ITS FALSE NEIGHBOUR: 'it returns false'. Refute it at one input. -/
def aggPartsWrong : ChangeSpec := { name := "aggParts", fn := fun _ => fun
  | [d1, d2] => { results := [.lit (.bool false)], args := [d1, d2] }
  | _ => none }
def AggPartsWrongFalsely : Prop := aggPartsRow.holds Try.pinned (OpenSpec.ofChange aggPartsWrong)

/-- 'clerestorylaw08.AggShifts': WHATEVER THE INPUT: true; the input reads as it did. -/
def aggShiftsSpec : ChangeSpec := { name := "aggShifts", fn := fun _ => fun
  | [d1, d2] => { results := [.lit (.bool true)], args := [d1, d2] }
  | _ => none }
def aggShiftsRow : OpenClaim := { program := "ytoaekfocfdcgiaa", sum := "5b02e4c1e78484048df54acdd9f21bf141ae30d7591b8f16edbc69c0ad334bdb", func := "clerestory/clerestorylaw08.AggShifts", spec := "aggShifts", apart := false }
def AggShiftsSaid : Prop := aggShiftsRow.holds Try.pinned (OpenSpec.ofChange aggShiftsSpec)

/-- ITS FALSE NEIGHBOUR: 'it returns false'. Refute it at one input. -/
def aggShiftsWrong : ChangeSpec := { name := "aggShifts", fn := fun _ => fun
  | [d1, d2] => { results := [.lit (.bool false)], args := [d1, d2] }
  | _ => none }
def AggShiftsWrongFalsely : Prop := aggShiftsRow.holds Try.pinned (OpenSpec.ofChange aggShiftsWrong)

/-- 'clerestorylaw08.AggKinds': WHATEVER THE INPUT: true; the input reads as it did. -/
def aggKindsSpec : ChangeSpec := { name := "aggKinds", fn := fun _ => fun
  | [d1, d2] => { results := [.lit (.bool true)], args := [d1, d2] }
  | _ => none }
def aggKindsRow : OpenClaim := { program := "ytoaekfocfdcgiaa", sum := "5b02e4c1e78484048df54acdd9f21bf141ae30d7591b8f16edbc69c0ad334bdb", func := "clerestory/clerestorylaw08.AggKinds", spec := "aggKinds", apart := false }
def AggKindsSaid : Prop := aggKindsRow.holds Try.pinned (OpenSpec.ofChange aggKindsSpec)

/-- ITS FALSE NEIGHBOUR: 'it returns false'. Refute it at one input. -/
def aggKindsWrong : ChangeSpec := { name := "aggKinds", fn := fun _ => fun
  | [d1, d2] => { results := [.lit (.bool false)], args := [d1, d2] }
  | _ => none }
def AggKindsWrongFalsely : Prop := aggKindsRow.holds Try.pinned (OpenSpec.ofChange aggKindsWrong)

/-- 'clerestorylaw08.AggMerges': WHATEVER THE INPUT: true; the input reads as it did. -/
def aggMergesSpec : ChangeSpec := { name := "aggMerges", fn := fun _ => fun
  | [d1, d2, d3, d4] => { results := [.lit (.bool true)], args := [d1, d2, d3, d4] }
  | _ => none }
def aggMergesRow : OpenClaim := { program := "ytoaekfocfdcgiaa", sum := "5b02e4c1e78484048df54acdd9f21bf141ae30d7591b8f16edbc69c0ad334bdb", func := "clerestory/clerestorylaw08.AggMerges", spec := "aggMerges", unfollowed := true, recurses := true, apart := false }
def AggMergesSaid : Prop := aggMergesRow.holds Try.pinned (OpenSpec.ofChange aggMergesSpec)

/-- ITS FALSE NEIGHBOUR: 'it returns false'. Refute it at one input. -/
def aggMergesWrong : ChangeSpec := { name := "aggMerges", fn := fun _ => fun
  | [d1, d2, d3, d4] => { results := [.lit (.bool false)], args := [d1, d2, d3, d4] }
  | _ => none }
def AggMergesWrongFalsely : Prop := aggMergesRow.holds Try.pinned (OpenSpec.ofChange aggMergesWrong)

/- THE SECOND FORM. 'bulk': how many values and letters a reading holds, each counted each time it is reached (what is shared counts as often as it is met; a slice's spare places count too). A statement '..UptoSaid' is the law's where the arguments, and the package variables that the reading takes, are together of bulk at most 1048576: NARROWER than '..Said'. Prove '..Said' where nothing that the law and all that it calls make is longer than what came in: it says more and counts as full. Else prove '..UptoSaid'. A law counts once. -/
mutual
def uptoBulk {H : Type} : DataW H → Nat
  | .lit (.string bytes) => bytes.length + 1
  | .lit _ => 1
  | .nil => 1
  | .ptr d => uptoBulk d + 1
  | .slice elems spare => uptoBulkAll elems + uptoBulkAll spare + 1
  | .agg parts => uptoBulkAll parts + 1
  | .iface _ d => uptoBulk d + 1
  | .map entries => uptoBulkEntries entries + 1
  | .held _ => 1
def uptoBulkAll {H : Type} : List (DataW H) → Nat
  | [] => 0
  | d :: r => uptoBulk d + uptoBulkAll r
def uptoBulkEntries {H : Type} : List (Lit × DataW H) → Nat
  | [] => 0
  | x :: r => uptoBulkEntry x + uptoBulkEntries r
def uptoBulkEntry {H : Type} : Lit × DataW H → Nat
  | (.string bytes, d) => bytes.length + uptoBulk d + 1
  | (_, d) => uptoBulk d + 1
 end
def uptoSmall : (H : Type) → List (DataW H) → Bool := fun _ ds => decide (uptoBulkAll ds ≤ 1048576)
def OpenSpec.upto (s : _root_.Go.ChangeSpec) : _root_.Go.OpenSpec := { _root_.Go.OpenSpec.ofChange s with cond := some uptoSmall }

/-- 'clerestorylaw02.OctetWrites', WHERE WHAT IT READS IS OF BULK AT MOST 1048576: true; the input reads as it did. -/
def octetWritesUptoRow : OpenClaim := { program := "ytoaekfocfdcgiaa", sum := "5b02e4c1e78484048df54acdd9f21bf141ae30d7591b8f16edbc69c0ad334bdb", func := "clerestory/clerestorylaw02.OctetWrites", spec := "octetWrites", apart := false, narrowed := true }
def OctetWritesUptoSaid : Prop := octetWritesUptoRow.holds Try.pinned (OpenSpec.upto octetWritesSpec)

/-- 'clerestorylaw02.OctetSizes', WHERE WHAT IT READS IS OF BULK AT MOST 1048576: true; the input reads as it did. -/
def octetSizesUptoRow : OpenClaim := { program := "ytoaekfocfdcgiaa", sum := "5b02e4c1e78484048df54acdd9f21bf141ae30d7591b8f16edbc69c0ad334bdb", func := "clerestory/clerestorylaw02.OctetSizes", spec := "octetSizes", apart := false, narrowed := true }
def OctetSizesUptoSaid : Prop := octetSizesUptoRow.holds Try.pinned (OpenSpec.upto octetSizesSpec)

/-- 'clerestorylaw02.OctetInts', WHERE WHAT IT READS IS OF BULK AT MOST 1048576: true; the input reads as it did. -/
def octetIntsUptoRow : OpenClaim := { program := "ytoaekfocfdcgiaa", sum := "5b02e4c1e78484048df54acdd9f21bf141ae30d7591b8f16edbc69c0ad334bdb", func := "clerestory/clerestorylaw02.OctetInts", spec := "octetInts", apart := false, narrowed := true }
def OctetIntsUptoSaid : Prop := octetIntsUptoRow.holds Try.pinned (OpenSpec.upto octetIntsSpec)

/-- 'clerestorylaw02.OctetReads', WHERE WHAT IT READS IS OF BULK AT MOST 1048576: true; the input reads as it did. -/
def octetReadsUptoRow : OpenClaim := { program := "ytoaekfocfdcgiaa", sum := "5b02e4c1e78484048df54acdd9f21bf141ae30d7591b8f16edbc69c0ad334bdb", func := "clerestory/clerestorylaw02.OctetReads", spec := "octetReads", apart := false, narrowed := true }
def OctetReadsUptoSaid : Prop := octetReadsUptoRow.holds Try.pinned (OpenSpec.upto octetReadsSpec)

/-- 'clerestorylaw02.OctetBack', WHERE WHAT IT READS IS OF BULK AT MOST 1048576: true; the input reads as it did. -/
def octetBackUptoRow : OpenClaim := { program := "ytoaekfocfdcgiaa", sum := "5b02e4c1e78484048df54acdd9f21bf141ae30d7591b8f16edbc69c0ad334bdb", func := "clerestory/clerestorylaw02.OctetBack", spec := "octetBack", apart := false, narrowed := true }
def OctetBackUptoSaid : Prop := octetBackUptoRow.holds Try.pinned (OpenSpec.upto octetBackSpec)

/-- 'clerestorylaw02.OctetRests', WHERE WHAT IT READS IS OF BULK AT MOST 1048576: true; the input reads as it did. -/
def octetRestsUptoRow : OpenClaim := { program := "ytoaekfocfdcgiaa", sum := "5b02e4c1e78484048df54acdd9f21bf141ae30d7591b8f16edbc69c0ad334bdb", func := "clerestory/clerestorylaw02.OctetRests", spec := "octetRests", apart := false, narrowed := true }
def OctetRestsUptoSaid : Prop := octetRestsUptoRow.holds Try.pinned (OpenSpec.upto octetRestsSpec)

/-- 'clerestorylaw08.AggTells', WHERE WHAT IT READS IS OF BULK AT MOST 1048576: true; the input reads as it did. -/
def aggTellsUptoRow : OpenClaim := { program := "ytoaekfocfdcgiaa", sum := "5b02e4c1e78484048df54acdd9f21bf141ae30d7591b8f16edbc69c0ad334bdb", func := "clerestory/clerestorylaw08.AggTells", spec := "aggTells", apart := false, narrowed := true }
def AggTellsUptoSaid : Prop := aggTellsUptoRow.holds Try.pinned (OpenSpec.upto aggTellsSpec)

/-- 'clerestorylaw08.AggParts', WHERE WHAT IT READS IS OF BULK AT MOST 1048576: true; the input reads as it did. -/
def aggPartsUptoRow : OpenClaim := { program := "ytoaekfocfdcgiaa", sum := "5b02e4c1e78484048df54acdd9f21bf141ae30d7591b8f16edbc69c0ad334bdb", func := "clerestory/clerestorylaw08.AggParts", spec := "aggParts", apart := false, narrowed := true }
def AggPartsUptoSaid : Prop := aggPartsUptoRow.holds Try.pinned (OpenSpec.upto aggPartsSpec)

/-- 'clerestorylaw08.AggShifts', WHERE WHAT IT READS IS OF BULK AT MOST 1048576: true; the input reads as it did. -/
def aggShiftsUptoRow : OpenClaim := { program := "ytoaekfocfdcgiaa", sum := "5b02e4c1e78484048df54acdd9f21bf141ae30d7591b8f16edbc69c0ad334bdb", func := "clerestory/clerestorylaw08.AggShifts", spec := "aggShifts", apart := false, narrowed := true }
def AggShiftsUptoSaid : Prop := aggShiftsUptoRow.holds Try.pinned (OpenSpec.upto aggShiftsSpec)

/-- 'clerestorylaw08.AggKinds', WHERE WHAT IT READS IS OF BULK AT MOST 1048576: true; the input reads as it did. -/
def aggKindsUptoRow : OpenClaim := { program := "ytoaekfocfdcgiaa", sum := "5b02e4c1e78484048df54acdd9f21bf141ae30d7591b8f16edbc69c0ad334bdb", func := "clerestory/clerestorylaw08.AggKinds", spec := "aggKinds", apart := false, narrowed := true }
def AggKindsUptoSaid : Prop := aggKindsUptoRow.holds Try.pinned (OpenSpec.upto aggKindsSpec)

/-- 'clerestorylaw08.AggMerges', WHERE WHAT IT READS IS OF BULK AT MOST 1048576: true; the input reads as it did. -/
def aggMergesUptoRow : OpenClaim := { program := "ytoaekfocfdcgiaa", sum := "5b02e4c1e78484048df54acdd9f21bf141ae30d7591b8f16edbc69c0ad334bdb", func := "clerestory/clerestorylaw08.AggMerges", spec := "aggMerges", unfollowed := true, recurses := true, apart := false, narrowed := true }
def AggMergesUptoSaid : Prop := aggMergesUptoRow.holds Try.pinned (OpenSpec.upto aggMergesSpec)

end Rows
end Go.Proofs.Ytoaekfocfdcgiaa
