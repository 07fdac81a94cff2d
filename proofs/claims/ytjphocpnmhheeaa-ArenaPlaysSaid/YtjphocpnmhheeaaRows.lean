/-
  No cell of these rows narrows 'for every input' (looked for: loops, veiled, ifaces, maps, wideKeys, modest, calm, conditions, laid).
  DERIVED. THE GIVEN ROWS OF THIS SEAT. 9 by the template 'for every input the law returns true; each argument reads behind the call as it read before'; 0 by the template 'total and deterministic' (their statements: YtjphocpnmhheeaaTotals.lean).
  GIVEN WITH THE SEED: the statements are not yours to turn. If you find one false, say at which input.
  Laid BY PROGRAM, IN A SANDBOX (cutbox-rows.mjs): the forced cells as the released guide's own fill.sh prints them over the translation 612d97ea26a046b7… (all of the seat's roots in one cut). By AI agents, Wed Nov 11 2026. No macro, syntax, notation, axiom, sorry.
-/
import Derived.Test.YtjphocpnmhheeaaChecked
import GoSem.Claim
import GoSem.ClaimJoined
import GoSem.ClaimMapViews
import Derived.JoinedTies
import Derived.KernelRfl
namespace Go.Proofs.Ytjphocpnmhheeaa
/- THE CELL 'sum', in the pinned program and in every row, IS THE sha256 OF THE DUMP (.gsa) THAT YtjphocpnmhheeaaProg.lean LOADS. Nothing in Lean hashes anything: it is a label: what it is worth is what the hold of that sum in a sandbox is worth. -/
noncomputable def Try.pinned : Pinned := { name := "ytjphocpnmhheeaa", sum := "612d97ea26a046b76299a2a1d8122d7970f396c490c1e7269a24c0a303154d2d", checked := Try.checked }
namespace Rows
def none {H : Type} : Left H := { results := [], args := [] }

/-- 'clerestorylaw09.ArenaPlays': WHATEVER THE INPUT: true; the input reads as it did. -/
def arenaPlaysSpec : ChangeSpec := { name := "arenaPlays", fn := fun _ => fun
  | [d1, d2, d3] => { results := [.lit (.bool true)], args := [d1, d2, d3] }
  | _ => none }
def arenaPlaysRow : OpenClaim := { program := "ytjphocpnmhheeaa", sum := "612d97ea26a046b76299a2a1d8122d7970f396c490c1e7269a24c0a303154d2d", func := "clerestory/clerestorylaw09.ArenaPlays", spec := "arenaPlays", unfollowed := true, recurses := true, apart := false }
def ArenaPlaysSaid : Prop := arenaPlaysRow.holds Try.pinned (OpenSpec.ofChange arenaPlaysSpec)

/-- ITS FALSE NEIGHBOUR: 'it returns false'. Refute it at one input. -/
def arenaPlaysWrong : ChangeSpec := { name := "arenaPlays", fn := fun _ => fun
  | [d1, d2, d3] => { results := [.lit (.bool false)], args := [d1, d2, d3] }
  | _ => none }
def ArenaPlaysWrongFalsely : Prop := arenaPlaysRow.holds Try.pinned (OpenSpec.ofChange arenaPlaysWrong)

/-- 'clerestorylaw09.ArenaKeeps': WHATEVER THE INPUT: true; the input reads as it did. -/
def arenaKeepsSpec : ChangeSpec := { name := "arenaKeeps", fn := fun _ => fun
  | [d1, d2, d3, d4] => { results := [.lit (.bool true)], args := [d1, d2, d3, d4] }
  | _ => none }
def arenaKeepsRow : OpenClaim := { program := "ytjphocpnmhheeaa", sum := "612d97ea26a046b76299a2a1d8122d7970f396c490c1e7269a24c0a303154d2d", func := "clerestory/clerestorylaw09.ArenaKeeps", spec := "arenaKeeps", unfollowed := true, recurses := true, apart := false }
def ArenaKeepsSaid : Prop := arenaKeepsRow.holds Try.pinned (OpenSpec.ofChange arenaKeepsSpec)

/-- ITS FALSE NEIGHBOUR: 'it returns false'. Refute it at one input. -/
def arenaKeepsWrong : ChangeSpec := { name := "arenaKeeps", fn := fun _ => fun
  | [d1, d2, d3, d4] => { results := [.lit (.bool false)], args := [d1, d2, d3, d4] }
  | _ => none }
def ArenaKeepsWrongFalsely : Prop := arenaKeepsRow.holds Try.pinned (OpenSpec.ofChange arenaKeepsWrong)

/-- 'clerestorylaw09.ArenaFills': WHATEVER THE INPUT: true; the input reads as it did. -/
def arenaFillsSpec : ChangeSpec := { name := "arenaFills", fn := fun _ => fun
  | [d1, d2] => { results := [.lit (.bool true)], args := [d1, d2] }
  | _ => none }
def arenaFillsRow : OpenClaim := { program := "ytjphocpnmhheeaa", sum := "612d97ea26a046b76299a2a1d8122d7970f396c490c1e7269a24c0a303154d2d", func := "clerestory/clerestorylaw09.ArenaFills", spec := "arenaFills", unfollowed := true, recurses := true, apart := false }
def ArenaFillsSaid : Prop := arenaFillsRow.holds Try.pinned (OpenSpec.ofChange arenaFillsSpec)

/-- ITS FALSE NEIGHBOUR: 'it returns false'. Refute it at one input. -/
def arenaFillsWrong : ChangeSpec := { name := "arenaFills", fn := fun _ => fun
  | [d1, d2] => { results := [.lit (.bool false)], args := [d1, d2] }
  | _ => none }
def ArenaFillsWrongFalsely : Prop := arenaFillsRow.holds Try.pinned (OpenSpec.ofChange arenaFillsWrong)

/-- 'clerestorylaw09.ArenaSwaps': WHATEVER THE INPUT: true; the input reads as it did. -/
def arenaSwapsSpec : ChangeSpec := { name := "arenaSwaps", fn := fun _ => fun
  | [d1, d2, d3] => { results := [.lit (.bool true)], args := [d1, d2, d3] }
  | _ => none }
def arenaSwapsRow : OpenClaim := { program := "ytjphocpnmhheeaa", sum := "612d97ea26a046b76299a2a1d8122d7970f396c490c1e7269a24c0a303154d2d", func := "clerestory/clerestorylaw09.ArenaSwaps", spec := "arenaSwaps", unfollowed := true, recurses := true, apart := false }
def ArenaSwapsSaid : Prop := arenaSwapsRow.holds Try.pinned (OpenSpec.ofChange arenaSwapsSpec)

/-- ITS FALSE NEIGHBOUR: 'it returns false'. Refute it at one input. -/
def arenaSwapsWrong : ChangeSpec := { name := "arenaSwaps", fn := fun _ => fun
  | [d1, d2, d3] => { results := [.lit (.bool false)], args := [d1, d2, d3] }
  | _ => none }
def ArenaSwapsWrongFalsely : Prop := arenaSwapsRow.holds Try.pinned (OpenSpec.ofChange arenaSwapsWrong)

/-- 'clerestorylaw17.BudgetPlays': WHATEVER THE INPUT: true; the input reads as it did. -/
def budgetPlaysSpec : ChangeSpec := { name := "budgetPlays", fn := fun _ => fun
  | [d1, d2, d3] => { results := [.lit (.bool true)], args := [d1, d2, d3] }
  | _ => none }
def budgetPlaysRow : OpenClaim := { program := "ytjphocpnmhheeaa", sum := "612d97ea26a046b76299a2a1d8122d7970f396c490c1e7269a24c0a303154d2d", func := "clerestory/clerestorylaw17.BudgetPlays", spec := "budgetPlays", unfollowed := true, recurses := true, apart := false }
def BudgetPlaysSaid : Prop := budgetPlaysRow.holds Try.pinned (OpenSpec.ofChange budgetPlaysSpec)

/-- ITS FALSE NEIGHBOUR: 'it returns false'. Refute it at one input. -/
def budgetPlaysWrong : ChangeSpec := { name := "budgetPlays", fn := fun _ => fun
  | [d1, d2, d3] => { results := [.lit (.bool false)], args := [d1, d2, d3] }
  | _ => none }
def BudgetPlaysWrongFalsely : Prop := budgetPlaysRow.holds Try.pinned (OpenSpec.ofChange budgetPlaysWrong)

/-- 'clerestorylaw17.BudgetSums': WHATEVER THE INPUT: true; the input reads as it did. -/
def budgetSumsSpec : ChangeSpec := { name := "budgetSums", fn := fun _ => fun
  | [d1, d2] => { results := [.lit (.bool true)], args := [d1, d2] }
  | _ => none }
def budgetSumsRow : OpenClaim := { program := "ytjphocpnmhheeaa", sum := "612d97ea26a046b76299a2a1d8122d7970f396c490c1e7269a24c0a303154d2d", func := "clerestory/clerestorylaw17.BudgetSums", spec := "budgetSums", unfollowed := true, recurses := true, apart := false }
def BudgetSumsSaid : Prop := budgetSumsRow.holds Try.pinned (OpenSpec.ofChange budgetSumsSpec)

/-- ITS FALSE NEIGHBOUR: 'it returns false'. Refute it at one input. -/
def budgetSumsWrong : ChangeSpec := { name := "budgetSums", fn := fun _ => fun
  | [d1, d2] => { results := [.lit (.bool false)], args := [d1, d2] }
  | _ => none }
def BudgetSumsWrongFalsely : Prop := budgetSumsRow.holds Try.pinned (OpenSpec.ofChange budgetSumsWrong)

/-- 'clerestorylaw17.BudgetTurns': WHATEVER THE INPUT: true; the input reads as it did. -/
def budgetTurnsSpec : ChangeSpec := { name := "budgetTurns", fn := fun _ => fun
  | [d1, d2, d3] => { results := [.lit (.bool true)], args := [d1, d2, d3] }
  | _ => none }
def budgetTurnsRow : OpenClaim := { program := "ytjphocpnmhheeaa", sum := "612d97ea26a046b76299a2a1d8122d7970f396c490c1e7269a24c0a303154d2d", func := "clerestory/clerestorylaw17.BudgetTurns", spec := "budgetTurns", unfollowed := true, recurses := true, apart := false }
def BudgetTurnsSaid : Prop := budgetTurnsRow.holds Try.pinned (OpenSpec.ofChange budgetTurnsSpec)

/-- ITS FALSE NEIGHBOUR: 'it returns false'. Refute it at one input. -/
def budgetTurnsWrong : ChangeSpec := { name := "budgetTurns", fn := fun _ => fun
  | [d1, d2, d3] => { results := [.lit (.bool false)], args := [d1, d2, d3] }
  | _ => none }
def BudgetTurnsWrongFalsely : Prop := budgetTurnsRow.holds Try.pinned (OpenSpec.ofChange budgetTurnsWrong)

/-- 'clerestorylaw17.BudgetPoor': WHATEVER THE INPUT: true; the input reads as it did. -/
def budgetPoorSpec : ChangeSpec := { name := "budgetPoor", fn := fun _ => fun
  | [d] => { results := [.lit (.bool true)], args := [d] }
  | _ => none }
def budgetPoorRow : OpenClaim := { program := "ytjphocpnmhheeaa", sum := "612d97ea26a046b76299a2a1d8122d7970f396c490c1e7269a24c0a303154d2d", func := "clerestory/clerestorylaw17.BudgetPoor", spec := "budgetPoor", unfollowed := true, recurses := true, apart := false }
def BudgetPoorSaid : Prop := budgetPoorRow.holds Try.pinned (OpenSpec.ofChange budgetPoorSpec)

/-- ITS FALSE NEIGHBOUR: 'it returns false'. Refute it at one input. -/
def budgetPoorWrong : ChangeSpec := { name := "budgetPoor", fn := fun _ => fun
  | [d] => { results := [.lit (.bool false)], args := [d] }
  | _ => none }
def BudgetPoorWrongFalsely : Prop := budgetPoorRow.holds Try.pinned (OpenSpec.ofChange budgetPoorWrong)

/-- 'clerestorylaw17.BudgetNone': WHATEVER THE INPUT: true; the input reads as it did. -/
def budgetNoneSpec : ChangeSpec := { name := "budgetNone", fn := fun _ => fun
  | [d1, d2] => { results := [.lit (.bool true)], args := [d1, d2] }
  | _ => none }
def budgetNoneRow : OpenClaim := { program := "ytjphocpnmhheeaa", sum := "612d97ea26a046b76299a2a1d8122d7970f396c490c1e7269a24c0a303154d2d", func := "clerestory/clerestorylaw17.BudgetNone", spec := "budgetNone", unfollowed := true, recurses := true, apart := false }
def BudgetNoneSaid : Prop := budgetNoneRow.holds Try.pinned (OpenSpec.ofChange budgetNoneSpec)

/-- ITS FALSE NEIGHBOUR: 'it returns false'. Refute it at one input. -/
def budgetNoneWrong : ChangeSpec := { name := "budgetNone", fn := fun _ => fun
  | [d1, d2] => { results := [.lit (.bool false)], args := [d1, d2] }
  | _ => none }
def BudgetNoneWrongFalsely : Prop := budgetNoneRow.holds Try.pinned (OpenSpec.ofChange budgetNoneWrong)

/- THE SECOND FORM. 'bulk': how many values and letters a reading holds, each counted each time it is reached (what is shared counts as often as it is met; a slice's spare places count too). A statement '..UptoSaid' is the law's where the arguments, and the package variables that the reading takes, are together of bulk at most 1048576: NARROWER than '..Said'. Prove '..Said' where nothing that the law and all that it calls make is longer than what came in: it says more and counts as full. Else prove '..UptoSaid'. A law counts once. -/
mutual
def uptoBulk {H : Type} : DataW H → Nat
  | .lit (.string bytes) => bytes.length + 1
  | .lit _ => 1
  | .nil => 1
  | .ptr d => uptoBulk d + 1
  | .slice elems spare => uptoBulkAll elems + uptoBulkAll spare + 1
  | .agg parts => uptoBulkAll parts + 1
  | .iface _ d => uptoBulk d + 1
  | .map entries => uptoBulkEntries entries + 1
  | .held _ => 1
def uptoBulkAll {H : Type} : List (DataW H) → Nat
  | [] => 0
  | d :: r => uptoBulk d + uptoBulkAll r
def uptoBulkEntries {H : Type} : List (Lit × DataW H) → Nat
  | [] => 0
  | x :: r => uptoBulkEntry x + uptoBulkEntries r
def uptoBulkEntry {H : Type} : Lit × DataW H → Nat
  | (.string bytes, d) => bytes.length + uptoBulk d + 1
  | (_, d) => uptoBulk d + 1
 end
def uptoSmall : (H : Type) → List (DataW H) → Bool := fun _ ds => decide (uptoBulkAll ds ≤ 1048576)
def OpenSpec.upto (s : _root_.Go.ChangeSpec) : _root_.Go.OpenSpec := { _root_.Go.OpenSpec.ofChange s with cond := some uptoSmall }

/-- 'clerestorylaw09.ArenaPlays', WHERE WHAT IT READS IS OF BULK AT MOST 1048576: true; the input reads as it did. -/
def arenaPlaysUptoRow : OpenClaim := { program := "ytjphocpnmhheeaa", sum := "612d97ea26a046b76299a2a1d8122d7970f396c490c1e7269a24c0a303154d2d", func := "clerestory/clerestorylaw09.ArenaPlays", spec := "arenaPlays", unfollowed := true, recurses := true, apart := false, narrowed := true }
def ArenaPlaysUptoSaid : Prop := arenaPlaysUptoRow.holds Try.pinned (OpenSpec.upto arenaPlaysSpec)

/-- 'clerestorylaw09.ArenaKeeps', WHERE WHAT IT READS IS OF BULK AT MOST 1048576: true; the input reads as it did. -/
def arenaKeepsUptoRow : OpenClaim := { program := "ytjphocpnmhheeaa", sum := "612d97ea26a046b76299a2a1d8122d7970f396c490c1e7269a24c0a303154d2d", func := "clerestory/clerestorylaw09.ArenaKeeps", spec := "arenaKeeps", unfollowed := true, recurses := true, apart := false, narrowed := true }
def ArenaKeepsUptoSaid : Prop := arenaKeepsUptoRow.holds Try.pinned (OpenSpec.upto arenaKeepsSpec)

/-- 'clerestorylaw09.ArenaFills', WHERE WHAT IT READS IS OF BULK AT MOST 1048576: true; the input reads as it did. -/
def arenaFillsUptoRow : OpenClaim := { program := "ytjphocpnmhheeaa", sum := "612d97ea26a046b76299a2a1d8122d7970f396c490c1e7269a24c0a303154d2d", func := "clerestory/clerestorylaw09.ArenaFills", spec := "arenaFills", unfollowed := true, recurses := true, apart := false, narrowed := true }
def ArenaFillsUptoSaid : Prop := arenaFillsUptoRow.holds Try.pinned (OpenSpec.upto arenaFillsSpec)

/-- 'clerestorylaw09.ArenaSwaps', WHERE WHAT IT READS IS OF BULK AT MOST 1048576: true; the input reads as it did. -/
def arenaSwapsUptoRow : OpenClaim := { program := "ytjphocpnmhheeaa", sum := "612d97ea26a046b76299a2a1d8122d7970f396c490c1e7269a24c0a303154d2d", func := "clerestory/clerestorylaw09.ArenaSwaps", spec := "arenaSwaps", unfollowed := true, recurses := true, apart := false, narrowed := true }
def ArenaSwapsUptoSaid : Prop := arenaSwapsUptoRow.holds Try.pinned (OpenSpec.upto arenaSwapsSpec)

/-- 'clerestorylaw17.BudgetPlays', WHERE WHAT IT READS IS OF BULK AT MOST 1048576: true; the input reads as it did. -/
def budgetPlaysUptoRow : OpenClaim := { program := "ytjphocpnmhheeaa", sum := "612d97ea26a046b76299a2a1d8122d7970f396c490c1e7269a24c0a303154d2d", func := "clerestory/clerestorylaw17.BudgetPlays", spec := "budgetPlays", unfollowed := true, recurses := true, apart := false, narrowed := true }
def BudgetPlaysUptoSaid : Prop := budgetPlaysUptoRow.holds Try.pinned (OpenSpec.upto budgetPlaysSpec)

/-- 'clerestorylaw17.BudgetSums', WHERE WHAT IT READS IS OF BULK AT MOST 1048576: true; the input reads as it did. -/
def budgetSumsUptoRow : OpenClaim := { program := "ytjphocpnmhheeaa", sum := "612d97ea26a046b76299a2a1d8122d7970f396c490c1e7269a24c0a303154d2d", func := "clerestory/clerestorylaw17.BudgetSums", spec := "budgetSums", unfollowed := true, recurses := true, apart := false, narrowed := true }
def BudgetSumsUptoSaid : Prop := budgetSumsUptoRow.holds Try.pinned (OpenSpec.upto budgetSumsSpec)

/-- 'clerestorylaw17.BudgetTurns', WHERE WHAT IT READS IS OF BULK AT MOST 1048576: true; the input reads as it did. -/
def budgetTurnsUptoRow : OpenClaim := { program := "ytjphocpnmhheeaa", sum := "612d97ea26a046b76299a2a1d8122d7970f396c490c1e7269a24c0a303154d2d", func := "clerestory/clerestorylaw17.BudgetTurns", spec := "budgetTurns", unfollowed := true, recurses := true, apart := false, narrowed := true }
def BudgetTurnsUptoSaid : Prop := budgetTurnsUptoRow.holds Try.pinned (OpenSpec.upto budgetTurnsSpec)

/-- 'clerestorylaw17.BudgetPoor', WHERE WHAT IT READS IS OF BULK AT MOST 1048576: true; the input reads as it did. -/
def budgetPoorUptoRow : OpenClaim := { program := "ytjphocpnmhheeaa", sum := "612d97ea26a046b76299a2a1d8122d7970f396c490c1e7269a24c0a303154d2d", func := "clerestory/clerestorylaw17.BudgetPoor", spec := "budgetPoor", unfollowed := true, recurses := true, apart := false, narrowed := true }
def BudgetPoorUptoSaid : Prop := budgetPoorUptoRow.holds Try.pinned (OpenSpec.upto budgetPoorSpec)

/-- 'clerestorylaw17.BudgetNone', WHERE WHAT IT READS IS OF BULK AT MOST 1048576: true; the input reads as it did. -/
def budgetNoneUptoRow : OpenClaim := { program := "ytjphocpnmhheeaa", sum := "612d97ea26a046b76299a2a1d8122d7970f396c490c1e7269a24c0a303154d2d", func := "clerestory/clerestorylaw17.BudgetNone", spec := "budgetNone", unfollowed := true, recurses := true, apart := false, narrowed := true }
def BudgetNoneUptoSaid : Prop := budgetNoneUptoRow.holds Try.pinned (OpenSpec.upto budgetNoneSpec)

end Rows
end Go.Proofs.Ytjphocpnmhheeaa
