/-
  No cell of these rows narrows 'for every input' (looked for: loops, veiled, ifaces, maps, wideKeys, modest, calm, conditions, laid).
  DERIVED. THE GIVEN ROWS OF THIS SEAT. 4 by the template 'for every input the law returns true; each argument reads behind the call as it read before'; 0 by the template 'total and deterministic' (their statements: YtpjcfelknkddfaaTotals.lean).
  GIVEN WITH THE SEED: the statements are not yours to turn. If you find one false, say at which input.
  Laid BY PROGRAM, IN A SANDBOX (cutbox-rows.mjs): the forced cells as the released guide's own fill.sh prints them over the translation 7452f4c725731d4e… (all of the seat's roots in one cut). By AI agents, Wed Nov 11 2026. No macro, syntax, notation, axiom, sorry.
-/
import Derived.Test.YtpjcfelknkddfaaChecked
import GoSem.Claim
import GoSem.ClaimJoined
import GoSem.ClaimMapViews
import Derived.JoinedTies
import Derived.KernelRfl
namespace Go.Proofs.Ytpjcfelknkddfaa
/- THE CELL 'sum', in the pinned program and in every row, IS THE sha256 OF THE DUMP (.gsa) THAT YtpjcfelknkddfaaProg.lean LOADS. Nothing in Lean hashes anything: it is a label: what it is worth is what the hold of that sum in a sandbox is worth. -/
noncomputable def Try.pinned : Pinned := { name := "ytpjcfelknkddfaa", sum := "7452f4c725731d4e4802a469cf054318d55ef834ff5ae639cae56c6812abea49", checked := Try.checked }
namespace Rows
def none {H : Type} : Left H := { results := [], args := [] }

/-- 'clerestorylaw25.ReplyTells': WHATEVER THE INPUT: true; the input reads as it did. -/
def replyTellsSpec : ChangeSpec := { name := "replyTells", fn := fun _ => fun
  | [d1, d2, d3, d4, d5] => { results := [.lit (.bool true)], args := [d1, d2, d3, d4, d5] }
  | _ => none }
def replyTellsRow : OpenClaim := { program := "ytpjcfelknkddfaa", sum := "7452f4c725731d4e4802a469cf054318d55ef834ff5ae639cae56c6812abea49", func := "clerestory/clerestorylaw25.ReplyTells", spec := "replyTells", unfollowed := true, recurses := true, apart := false }
def ReplyTellsSaid : Prop := replyTellsRow.holds Try.pinned (OpenSpec.ofChange replyTellsSpec)

/-- ITS FALSE NEIGHBOUR: 'it returns false'. Refute it at one input. -/
def replyTellsWrong : ChangeSpec := { name := "replyTells", fn := fun _ => fun
  | [d1, d2, d3, d4, d5] => { results := [.lit (.bool false)], args := [d1, d2, d3, d4, d5] }
  | _ => none }
def ReplyTellsWrongFalsely : Prop := replyTellsRow.holds Try.pinned (OpenSpec.ofChange replyTellsWrong)

/-- 'clerestorylaw25.ReplyBack': WHATEVER THE INPUT: true; the input reads as it did. -/
def replyBackSpec : ChangeSpec := { name := "replyBack", fn := fun _ => fun
  | [d1, d2] => { results := [.lit (.bool true)], args := [d1, d2] }
  | _ => none }
def replyBackRow : OpenClaim := { program := "ytpjcfelknkddfaa", sum := "7452f4c725731d4e4802a469cf054318d55ef834ff5ae639cae56c6812abea49", func := "clerestory/clerestorylaw25.ReplyBack", spec := "replyBack", unfollowed := true, recurses := true, apart := false }
def ReplyBackSaid : Prop := replyBackRow.holds Try.pinned (OpenSpec.ofChange replyBackSpec)

/-- ITS FALSE NEIGHBOUR: 'it returns false'. Refute it at one input. -/
def replyBackWrong : ChangeSpec := { name := "replyBack", fn := fun _ => fun
  | [d1, d2] => { results := [.lit (.bool false)], args := [d1, d2] }
  | _ => none }
def ReplyBackWrongFalsely : Prop := replyBackRow.holds Try.pinned (OpenSpec.ofChange replyBackWrong)

/-- 'clerestorylaw25.ReplyRows': WHATEVER THE INPUT: true; the input reads as it did. -/
def replyRowsSpec : ChangeSpec := { name := "replyRows", fn := fun _ => fun
  | [d1, d2] => { results := [.lit (.bool true)], args := [d1, d2] }
  | _ => none }
def replyRowsRow : OpenClaim := { program := "ytpjcfelknkddfaa", sum := "7452f4c725731d4e4802a469cf054318d55ef834ff5ae639cae56c6812abea49", func := "clerestory/clerestorylaw25.ReplyRows", spec := "replyRows", unfollowed := true, recurses := true, apart := false }
def ReplyRowsSaid : Prop := replyRowsRow.holds Try.pinned (OpenSpec.ofChange replyRowsSpec)

/-- ITS FALSE NEIGHBOUR: 'it returns false'. Refute it at one input. -/
def replyRowsWrong : ChangeSpec := { name := "replyRows", fn := fun _ => fun
  | [d1, d2] => { results := [.lit (.bool false)], args := [d1, d2] }
  | _ => none }
def ReplyRowsWrongFalsely : Prop := replyRowsRow.holds Try.pinned (OpenSpec.ofChange replyRowsWrong)

/-- 'clerestorylaw25.ReplyFails': WHATEVER THE INPUT: true; the input reads as it did. -/
def replyFailsSpec : ChangeSpec := { name := "replyFails", fn := fun _ => fun
  | [d1, d2, d3] => { results := [.lit (.bool true)], args := [d1, d2, d3] }
  | _ => none }
def replyFailsRow : OpenClaim := { program := "ytpjcfelknkddfaa", sum := "7452f4c725731d4e4802a469cf054318d55ef834ff5ae639cae56c6812abea49", func := "clerestory/clerestorylaw25.ReplyFails", spec := "replyFails", unfollowed := true, recurses := true, apart := false }
def ReplyFailsSaid : Prop := replyFailsRow.holds Try.pinned (OpenSpec.ofChange replyFailsSpec)

/-- ITS FALSE NEIGHBOUR: 'it returns false'. Refute it at one input. -/
def replyFailsWrong : ChangeSpec := { name := "replyFails", fn := fun _ => fun
  | [d1, d2, d3] => { results := [.lit (.bool false)], args := [d1, d2, d3] }
  | _ => none }
def ReplyFailsWrongFalsely : Prop := replyFailsRow.holds Try.pinned (OpenSpec.ofChange replyFailsWrong)

/- THE SECOND FORM. 'bulk': how many values and letters a reading holds, each counted each time it is reached (what is shared counts as often as it is met; a slice's spare places count too). A statement '..UptoSaid' is the law's where the arguments, and the package variables that the reading takes, are together of bulk at most 1048576: NARROWER than '..Said'. Prove '..Said' where nothing that the law and all that it calls make is longer than what came in: it says more and counts as full. Else prove '..UptoSaid'. A law counts once. -/
mutual
def uptoBulk {H : Type} : DataW H → Nat
  | .lit (.string bytes) => bytes.length + 1
  | .lit _ => 1
  | .nil => 1
  | .ptr d => uptoBulk d + 1
  | .slice elems spare => uptoBulkAll elems + uptoBulkAll spare + 1
  | .agg parts => uptoBulkAll parts + 1
  | .iface _ d => uptoBulk d + 1
  | .map entries => uptoBulkEntries entries + 1
  | .held _ => 1
def uptoBulkAll {H : Type} : List (DataW H) → Nat
  | [] => 0
  | d :: r => uptoBulk d + uptoBulkAll r
def uptoBulkEntries {H : Type} : List (Lit × DataW H) → Nat
  | [] => 0
  | x :: r => uptoBulkEntry x + uptoBulkEntries r
def uptoBulkEntry {H : Type} : Lit × DataW H → Nat
  | (.string bytes, d) => bytes.length + uptoBulk d + 1
  | (_, d) => uptoBulk d + 1
 end
def uptoSmall : (H : Type) → List (DataW H) → Bool := fun _ ds => decide (uptoBulkAll ds ≤ 1048576)
def OpenSpec.upto (s : _root_.Go.ChangeSpec) : _root_.Go.OpenSpec := { _root_.Go.OpenSpec.ofChange s with cond := some uptoSmall }

/-- 'clerestorylaw25.ReplyTells', WHERE WHAT IT READS IS OF BULK AT MOST 1048576: true; the input reads as it did. -/
def replyTellsUptoRow : OpenClaim := { program := "ytpjcfelknkddfaa", sum := "7452f4c725731d4e4802a469cf054318d55ef834ff5ae639cae56c6812abea49", func := "clerestory/clerestorylaw25.ReplyTells", spec := "replyTells", unfollowed := true, recurses := true, apart := false, narrowed := true }
def ReplyTellsUptoSaid : Prop := replyTellsUptoRow.holds Try.pinned (OpenSpec.upto replyTellsSpec)

/-- 'clerestorylaw25.ReplyBack', WHERE WHAT IT READS IS OF BULK AT MOST 1048576: true; the input reads as it did. -/
def replyBackUptoRow : OpenClaim := { program := "ytpjcfelknkddfaa", sum := "7452f4c725731d4e4802a469cf054318d55ef834ff5ae639cae56c6812abea49", func := "clerestory/clerestorylaw25.ReplyBack", spec := "replyBack", unfollowed := true, recurses := true, apart := false, narrowed := true }
def ReplyBackUptoSaid : Prop := replyBackUptoRow.holds Try.pinned (OpenSpec.upto replyBackSpec)

/-- 'clerestorylaw25.ReplyRows', WHERE WHAT IT READS IS OF BULK AT MOST 1048576: true; the input reads as it did. -/
def replyRowsUptoRow : OpenClaim := { program := "ytpjcfelknkddfaa", sum := "7452f4c725731d4e4802a469cf054318d55ef834ff5ae639cae56c6812abea49", func := "clerestory/clerestorylaw25.ReplyRows", spec := "replyRows", unfollowed := true, recurses := true, apart := false, narrowed := true }
def ReplyRowsUptoSaid : Prop := replyRowsUptoRow.holds Try.pinned (OpenSpec.upto replyRowsSpec)

/-- 'clerestorylaw25.ReplyFails', WHERE WHAT IT READS IS OF BULK AT MOST 1048576: true; the input reads as it did. -/
def replyFailsUptoRow : OpenClaim := { program := "ytpjcfelknkddfaa", sum := "7452f4c725731d4e4802a469cf054318d55ef834ff5ae639cae56c6812abea49", func := "clerestory/clerestorylaw25.ReplyFails", spec := "replyFails", unfollowed := true, recurses := true, apart := false, narrowed := true }
def ReplyFailsUptoSaid : Prop := replyFailsUptoRow.holds Try.pinned (OpenSpec.upto replyFailsSpec)

end Rows
end Go.Proofs.Ytpjcfelknkddfaa
