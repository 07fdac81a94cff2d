/-
  No cell of these rows narrows 'for every input' (looked for: loops, veiled, ifaces, maps, wideKeys, modest, calm, conditions, laid).
  DERIVED. THE GIVEN ROWS OF THIS SEAT. 6 by the template 'for every input the law returns true; each argument reads behind the call as it read before'; 0 by the template 'total and deterministic' (their statements: YtdkkffmnpholdaaTotals.lean).
  GIVEN WITH THE SEED: the statements are not yours to turn. If you find one false, say at which input.
  Laid BY PROGRAM, IN A SANDBOX (cutbox-rows.mjs): the forced cells as the released guide's own fill.sh prints them over the translation ad10ad467292f701… (all of the seat's roots in one cut). By AI agents, Wed Nov 11 2026. No macro, syntax, notation, axiom, sorry.
-/
import Derived.Test.YtdkkffmnpholdaaChecked
import GoSem.Claim
import GoSem.ClaimJoined
import GoSem.ClaimMapViews
import Derived.JoinedTies
import Derived.KernelRfl
namespace Go.Proofs.Ytdkkffmnpholdaa
/- THE CELL 'sum', in the pinned program and in every row, IS THE sha256 OF THE DUMP (.gsa) THAT YtdkkffmnpholdaaProg.lean LOADS. Nothing in Lean hashes anything: it is a label: what it is worth is what the hold of that sum in a sandbox is worth. -/
noncomputable def Try.pinned : Pinned := { name := "ytdkkffmnpholdaa", sum := "ad10ad467292f70167b2ee15dcc13769ce1ab8eb623cb54037ef23324e2e162c", checked := Try.checked }
namespace Rows
def none {H : Type} : Left H := { results := [], args := [] }

/-- 'clerestorylaw03.FrameReads': WHATEVER THE INPUT: true; the input reads as it did. -/
def frameReadsSpec : ChangeSpec := { name := "frameReads", fn := fun _ => fun
  | [d1, d2] => { results := [.lit (.bool true)], args := [d1, d2] }
  | _ => none }
def frameReadsRow : OpenClaim := { program := "ytdkkffmnpholdaa", sum := "ad10ad467292f70167b2ee15dcc13769ce1ab8eb623cb54037ef23324e2e162c", func := "clerestory/clerestorylaw03.FrameReads", spec := "frameReads", unfollowed := true, recurses := true, apart := false }
def FrameReadsSaid : Prop := frameReadsRow.holds Try.pinned (OpenSpec.ofChange frameReadsSpec)

/-- ITS FALSE NEIGHBOUR: 'it returns false'. Refute it at one input. -/
def frameReadsWrong : ChangeSpec := { name := "frameReads", fn := fun _ => fun
  | [d1, d2] => { results := [.lit (.bool false)], args := [d1, d2] }
  | _ => none }
def FrameReadsWrongFalsely : Prop := frameReadsRow.holds Try.pinned (OpenSpec.ofChange frameReadsWrong)

/-- 'clerestorylaw03.FrameWraps': WHATEVER THE INPUT: true; the input reads as it did. -/
def frameWrapsSpec : ChangeSpec := { name := "frameWraps", fn := fun _ => fun
  | [d] => { results := [.lit (.bool true)], args := [d] }
  | _ => none }
def frameWrapsRow : OpenClaim := { program := "ytdkkffmnpholdaa", sum := "ad10ad467292f70167b2ee15dcc13769ce1ab8eb623cb54037ef23324e2e162c", func := "clerestory/clerestorylaw03.FrameWraps", spec := "frameWraps", unfollowed := true, recurses := true, apart := false }
def FrameWrapsSaid : Prop := frameWrapsRow.holds Try.pinned (OpenSpec.ofChange frameWrapsSpec)

/-- ITS FALSE NEIGHBOUR: 'it returns false'. Refute it at one input. -/
def frameWrapsWrong : ChangeSpec := { name := "frameWraps", fn := fun _ => fun
  | [d] => { results := [.lit (.bool false)], args := [d] }
  | _ => none }
def FrameWrapsWrongFalsely : Prop := frameWrapsRow.holds Try.pinned (OpenSpec.ofChange frameWrapsWrong)

/-- 'clerestorylaw03.FrameBack': WHATEVER THE INPUT: true; the input reads as it did. -/
def frameBackSpec : ChangeSpec := { name := "frameBack", fn := fun _ => fun
  | [d1, d2] => { results := [.lit (.bool true)], args := [d1, d2] }
  | _ => none }
def frameBackRow : OpenClaim := { program := "ytdkkffmnpholdaa", sum := "ad10ad467292f70167b2ee15dcc13769ce1ab8eb623cb54037ef23324e2e162c", func := "clerestory/clerestorylaw03.FrameBack", spec := "frameBack", unfollowed := true, recurses := true, apart := false }
def FrameBackSaid : Prop := frameBackRow.holds Try.pinned (OpenSpec.ofChange frameBackSpec)

/-- ITS FALSE NEIGHBOUR: 'it returns false'. Refute it at one input. -/
def frameBackWrong : ChangeSpec := { name := "frameBack", fn := fun _ => fun
  | [d1, d2] => { results := [.lit (.bool false)], args := [d1, d2] }
  | _ => none }
def FrameBackWrongFalsely : Prop := frameBackRow.holds Try.pinned (OpenSpec.ofChange frameBackWrong)

/-- 'clerestorylaw03.FrameLeft': WHATEVER THE INPUT: true; the input reads as it did. -/
def frameLeftSpec : ChangeSpec := { name := "frameLeft", fn := fun _ => fun
  | [d] => { results := [.lit (.bool true)], args := [d] }
  | _ => none }
def frameLeftRow : OpenClaim := { program := "ytdkkffmnpholdaa", sum := "ad10ad467292f70167b2ee15dcc13769ce1ab8eb623cb54037ef23324e2e162c", func := "clerestory/clerestorylaw03.FrameLeft", spec := "frameLeft", unfollowed := true, recurses := true, apart := false }
def FrameLeftSaid : Prop := frameLeftRow.holds Try.pinned (OpenSpec.ofChange frameLeftSpec)

/-- ITS FALSE NEIGHBOUR: 'it returns false'. Refute it at one input. -/
def frameLeftWrong : ChangeSpec := { name := "frameLeft", fn := fun _ => fun
  | [d] => { results := [.lit (.bool false)], args := [d] }
  | _ => none }
def FrameLeftWrongFalsely : Prop := frameLeftRow.holds Try.pinned (OpenSpec.ofChange frameLeftWrong)

/-- 'clerestorylaw03.FrameSizes': WHATEVER THE INPUT: true; the input reads as it did. -/
def frameSizesSpec : ChangeSpec := { name := "frameSizes", fn := fun _ => fun
  | [d1, d2] => { results := [.lit (.bool true)], args := [d1, d2] }
  | _ => none }
def frameSizesRow : OpenClaim := { program := "ytdkkffmnpholdaa", sum := "ad10ad467292f70167b2ee15dcc13769ce1ab8eb623cb54037ef23324e2e162c", func := "clerestory/clerestorylaw03.FrameSizes", spec := "frameSizes", unfollowed := true, recurses := true, apart := false }
def FrameSizesSaid : Prop := frameSizesRow.holds Try.pinned (OpenSpec.ofChange frameSizesSpec)

/-- ITS FALSE NEIGHBOUR: 'it returns false'. Refute it at one input. -/
def frameSizesWrong : ChangeSpec := { name := "frameSizes", fn := fun _ => fun
  | [d1, d2] => { results := [.lit (.bool false)], args := [d1, d2] }
  | _ => none }
def FrameSizesWrongFalsely : Prop := frameSizesRow.holds Try.pinned (OpenSpec.ofChange frameSizesWrong)

/-- 'clerestorylaw03.FrameNone': WHATEVER THE INPUT: true; the input reads as it did. -/
def frameNoneSpec : ChangeSpec := { name := "frameNone", fn := fun _ => fun
  | [d1, d2, d3] => { results := [.lit (.bool true)], args := [d1, d2, d3] }
  | _ => none }
def frameNoneRow : OpenClaim := { program := "ytdkkffmnpholdaa", sum := "ad10ad467292f70167b2ee15dcc13769ce1ab8eb623cb54037ef23324e2e162c", func := "clerestory/clerestorylaw03.FrameNone", spec := "frameNone", unfollowed := true, recurses := true, apart := false }
def FrameNoneSaid : Prop := frameNoneRow.holds Try.pinned (OpenSpec.ofChange frameNoneSpec)

/-- ITS FALSE NEIGHBOUR: 'it returns false'. Refute it at one input. -/
def frameNoneWrong : ChangeSpec := { name := "frameNone", fn := fun _ => fun
  | [d1, d2, d3] => { results := [.lit (.bool false)], args := [d1, d2, d3] }
  | _ => none }
def FrameNoneWrongFalsely : Prop := frameNoneRow.holds Try.pinned (OpenSpec.ofChange frameNoneWrong)

/- THE SECOND FORM. 'bulk': how many values and letters a reading holds, each counted each time it is reached (what is shared counts as often as it is met; a slice's spare places count too). A statement '..UptoSaid' is the law's where the arguments, and the package variables that the reading takes, are together of bulk at most 1048576: NARROWER than '..Said'. Prove '..Said' where nothing that the law and all that it calls make is longer than what came in: it says more and counts as full. Else prove '..UptoSaid'. A law counts once. -/
mutual
def uptoBulk {H : Type} : DataW H → Nat
  | .lit (.string bytes) => bytes.length + 1
  | .lit _ => 1
  | .nil => 1
  | .ptr d => uptoBulk d + 1
  | .slice elems spare => uptoBulkAll elems + uptoBulkAll spare + 1
  | .agg parts => uptoBulkAll parts + 1
  | .iface _ d => uptoBulk d + 1
  | .map entries => uptoBulkEntries entries + 1
  | .held _ => 1
def uptoBulkAll {H : Type} : List (DataW H) → Nat
  | [] => 0
  | d :: r => uptoBulk d + uptoBulkAll r
def uptoBulkEntries {H : Type} : List (Lit × DataW H) → Nat
  | [] => 0
  | x :: r => uptoBulkEntry x + uptoBulkEntries r
def uptoBulkEntry {H : Type} : Lit × DataW H → Nat
  | (.string bytes, d) => bytes.length + uptoBulk d + 1
  | (_, d) => uptoBulk d + 1
 end
def uptoSmall : (H : Type) → List (DataW H) → Bool := fun _ ds => decide (uptoBulkAll ds ≤ 1048576)
def OpenSpec.upto (s : _root_.Go.ChangeSpec) : _root_.Go.OpenSpec := { _root_.Go.OpenSpec.ofChange s with cond := some uptoSmall }

/-- 'clerestorylaw03.FrameReads', WHERE WHAT IT READS IS OF BULK AT MOST 1048576: true; the input reads as it did. -/
def frameReadsUptoRow : OpenClaim := { program := "ytdkkffmnpholdaa", sum := "ad10ad467292f70167b2ee15dcc13769ce1ab8eb623cb54037ef23324e2e162c", func := "clerestory/clerestorylaw03.FrameReads", spec := "frameReads", unfollowed := true, recurses := true, apart := false, narrowed := true }
def FrameReadsUptoSaid : Prop := frameReadsUptoRow.holds Try.pinned (OpenSpec.upto frameReadsSpec)

/-- 'clerestorylaw03.FrameWraps', WHERE WHAT IT READS IS OF BULK AT MOST 1048576: true; the input reads as it did. -/
def frameWrapsUptoRow : OpenClaim := { program := "ytdkkffmnpholdaa", sum := "ad10ad467292f70167b2ee15dcc13769ce1ab8eb623cb54037ef23324e2e162c", func := "clerestory/clerestorylaw03.FrameWraps", spec := "frameWraps", unfollowed := true, recurses := true, apart := false, narrowed := true }
def FrameWrapsUptoSaid : Prop := frameWrapsUptoRow.holds Try.pinned (OpenSpec.upto frameWrapsSpec)

/-- 'clerestorylaw03.FrameBack', WHERE WHAT IT READS IS OF BULK AT MOST 1048576: true; the input reads as it did. -/
def frameBackUptoRow : OpenClaim := { program := "ytdkkffmnpholdaa", sum := "ad10ad467292f70167b2ee15dcc13769ce1ab8eb623cb54037ef23324e2e162c", func := "clerestory/clerestorylaw03.FrameBack", spec := "frameBack", unfollowed := true, recurses := true, apart := false, narrowed := true }
def FrameBackUptoSaid : Prop := frameBackUptoRow.holds Try.pinned (OpenSpec.upto frameBackSpec)

/-- 'clerestorylaw03.FrameLeft', WHERE WHAT IT READS IS OF BULK AT MOST 1048576: true; the input reads as it did. -/
def frameLeftUptoRow : OpenClaim := { program := "ytdkkffmnpholdaa", sum := "ad10ad467292f70167b2ee15dcc13769ce1ab8eb623cb54037ef23324e2e162c", func := "clerestory/clerestorylaw03.FrameLeft", spec := "frameLeft", unfollowed := true, recurses := true, apart := false, narrowed := true }
def FrameLeftUptoSaid : Prop := frameLeftUptoRow.holds Try.pinned (OpenSpec.upto frameLeftSpec)

/-- 'clerestorylaw03.FrameSizes', WHERE WHAT IT READS IS OF BULK AT MOST 1048576: true; the input reads as it did. -/
def frameSizesUptoRow : OpenClaim := { program := "ytdkkffmnpholdaa", sum := "ad10ad467292f70167b2ee15dcc13769ce1ab8eb623cb54037ef23324e2e162c", func := "clerestory/clerestorylaw03.FrameSizes", spec := "frameSizes", unfollowed := true, recurses := true, apart := false, narrowed := true }
def FrameSizesUptoSaid : Prop := frameSizesUptoRow.holds Try.pinned (OpenSpec.upto frameSizesSpec)

/-- 'clerestorylaw03.FrameNone', WHERE WHAT IT READS IS OF BULK AT MOST 1048576: true; the input reads as it did. -/
def frameNoneUptoRow : OpenClaim := { program := "ytdkkffmnpholdaa", sum := "ad10ad467292f70167b2ee15dcc13769ce1ab8eb623cb54037ef23324e2e162c", func := "clerestory/clerestorylaw03.FrameNone", spec := "frameNone", unfollowed := true, recurses := true, apart := false, narrowed := true }
def FrameNoneUptoSaid : Prop := frameNoneUptoRow.holds Try.pinned (OpenSpec.upto frameNoneSpec)

end Rows
end Go.Proofs.Ytdkkffmnpholdaa
