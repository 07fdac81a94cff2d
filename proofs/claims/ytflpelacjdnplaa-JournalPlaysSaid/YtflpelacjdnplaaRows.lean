/-
  No cell of these rows narrows 'for every input' (looked for: loops, veiled, ifaces, maps, wideKeys, modest, calm, conditions, laid).
  DERIVED. THE GIVEN ROWS OF THIS SEAT. 9 by the template 'for every input the law returns true; each argument reads behind the call as it read before'; 0 by the template 'total and deterministic' (their statements: YtflpelacjdnplaaTotals.lean).
  GIVEN WITH THE SEED: the statements are not yours to turn. If you find one false, say at which input.
  Laid BY PROGRAM, IN A SANDBOX (cutbox-rows.mjs): the forced cells as the released guide's own fill.sh prints them over the translation f07de8889c7413f2… (all of the seat's roots in one cut). By AI agents, Wed Nov 11 2026. No macro, syntax, notation, axiom, sorry.
-/
import Derived.Test.YtflpelacjdnplaaChecked
import GoSem.Claim
import GoSem.ClaimJoined
import GoSem.ClaimMapViews
import Derived.JoinedTies
import Derived.KernelRfl
namespace Go.Proofs.Ytflpelacjdnplaa
/- THE CELL 'sum', in the pinned program and in every row, IS THE sha256 OF THE DUMP (.gsa) THAT YtflpelacjdnplaaProg.lean LOADS. Nothing in Lean hashes anything: it is a label: what it is worth is what the hold of that sum in a sandbox is worth. -/
noncomputable def Try.pinned : Pinned := { name := "ytflpelacjdnplaa", sum := "f07de8889c7413f28a96049a178b9ae832392078bcb3bfb3a06861c41a340e55", checked := Try.checked }
namespace Rows
def none {H : Type} : Left H := { results := [], args := [] }

/-- 'clerestorylaw21.JournalPlays': WHATEVER THE INPUT: true; the input reads as it did. -/
def journalPlaysSpec : ChangeSpec := { name := "journalPlays", fn := fun _ => fun
  | [d1, d2, d3, d4, d5] => { results := [.lit (.bool true)], args := [d1, d2, d3, d4, d5] }
  | _ => none }
def journalPlaysRow : OpenClaim := { program := "ytflpelacjdnplaa", sum := "f07de8889c7413f28a96049a178b9ae832392078bcb3bfb3a06861c41a340e55", func := "clerestory/clerestorylaw21.JournalPlays", spec := "journalPlays", unfollowed := true, recurses := true, apart := false }
def JournalPlaysSaid : Prop := journalPlaysRow.holds Try.pinned (OpenSpec.ofChange journalPlaysSpec)

/-- ITS FALSE NEIGHBOUR: 'it returns false'. Refute it at one input. -/
def journalPlaysWrong : ChangeSpec := { name := "journalPlays", fn := fun _ => fun
  | [d1, d2, d3, d4, d5] => { results := [.lit (.bool false)], args := [d1, d2, d3, d4, d5] }
  | _ => none }
def JournalPlaysWrongFalsely : Prop := journalPlaysRow.holds Try.pinned (OpenSpec.ofChange journalPlaysWrong)

/-- 'clerestorylaw21.JournalPages': WHATEVER THE INPUT: true; the input reads as it did. -/
def journalPagesSpec : ChangeSpec := { name := "journalPages", fn := fun _ => fun
  | [d1, d2, d3] => { results := [.lit (.bool true)], args := [d1, d2, d3] }
  | _ => none }
def journalPagesRow : OpenClaim := { program := "ytflpelacjdnplaa", sum := "f07de8889c7413f28a96049a178b9ae832392078bcb3bfb3a06861c41a340e55", func := "clerestory/clerestorylaw21.JournalPages", spec := "journalPages", unfollowed := true, recurses := true, apart := false }
def JournalPagesSaid : Prop := journalPagesRow.holds Try.pinned (OpenSpec.ofChange journalPagesSpec)

/-- ITS FALSE NEIGHBOUR: 'it returns false'. Refute it at one input. -/
def journalPagesWrong : ChangeSpec := { name := "journalPages", fn := fun _ => fun
  | [d1, d2, d3] => { results := [.lit (.bool false)], args := [d1, d2, d3] }
  | _ => none }
def JournalPagesWrongFalsely : Prop := journalPagesRow.holds Try.pinned (OpenSpec.ofChange journalPagesWrong)

/-- 'clerestorylaw21.JournalTrims': WHATEVER THE INPUT: true; the input reads as it did. -/
def journalTrimsSpec : ChangeSpec := { name := "journalTrims", fn := fun _ => fun
  | [d1, d2, d3] => { results := [.lit (.bool true)], args := [d1, d2, d3] }
  | _ => none }
def journalTrimsRow : OpenClaim := { program := "ytflpelacjdnplaa", sum := "f07de8889c7413f28a96049a178b9ae832392078bcb3bfb3a06861c41a340e55", func := "clerestory/clerestorylaw21.JournalTrims", spec := "journalTrims", unfollowed := true, recurses := true, apart := false }
def JournalTrimsSaid : Prop := journalTrimsRow.holds Try.pinned (OpenSpec.ofChange journalTrimsSpec)

/-- ITS FALSE NEIGHBOUR: 'it returns false'. Refute it at one input. -/
def journalTrimsWrong : ChangeSpec := { name := "journalTrims", fn := fun _ => fun
  | [d1, d2, d3] => { results := [.lit (.bool false)], args := [d1, d2, d3] }
  | _ => none }
def JournalTrimsWrongFalsely : Prop := journalTrimsRow.holds Try.pinned (OpenSpec.ofChange journalTrimsWrong)

/-- 'clerestorylaw21.JournalFulls': WHATEVER THE INPUT: true; the input reads as it did. -/
def journalFullsSpec : ChangeSpec := { name := "journalFulls", fn := fun _ => fun
  | [d1, d2] => { results := [.lit (.bool true)], args := [d1, d2] }
  | _ => none }
def journalFullsRow : OpenClaim := { program := "ytflpelacjdnplaa", sum := "f07de8889c7413f28a96049a178b9ae832392078bcb3bfb3a06861c41a340e55", func := "clerestory/clerestorylaw21.JournalFulls", spec := "journalFulls", unfollowed := true, recurses := true, apart := false }
def JournalFullsSaid : Prop := journalFullsRow.holds Try.pinned (OpenSpec.ofChange journalFullsSpec)

/-- ITS FALSE NEIGHBOUR: 'it returns false'. Refute it at one input. -/
def journalFullsWrong : ChangeSpec := { name := "journalFulls", fn := fun _ => fun
  | [d1, d2] => { results := [.lit (.bool false)], args := [d1, d2] }
  | _ => none }
def JournalFullsWrongFalsely : Prop := journalFullsRow.holds Try.pinned (OpenSpec.ofChange journalFullsWrong)

/-- 'clerestorylaw21.JournalTenants': WHATEVER THE INPUT: true; the input reads as it did. -/
def journalTenantsSpec : ChangeSpec := { name := "journalTenants", fn := fun _ => fun
  | [d1, d2] => { results := [.lit (.bool true)], args := [d1, d2] }
  | _ => none }
def journalTenantsRow : OpenClaim := { program := "ytflpelacjdnplaa", sum := "f07de8889c7413f28a96049a178b9ae832392078bcb3bfb3a06861c41a340e55", func := "clerestory/clerestorylaw21.JournalTenants", spec := "journalTenants", unfollowed := true, recurses := true, apart := false }
def JournalTenantsSaid : Prop := journalTenantsRow.holds Try.pinned (OpenSpec.ofChange journalTenantsSpec)

/-- ITS FALSE NEIGHBOUR: 'it returns false'. Refute it at one input. -/
def journalTenantsWrong : ChangeSpec := { name := "journalTenants", fn := fun _ => fun
  | [d1, d2] => { results := [.lit (.bool false)], args := [d1, d2] }
  | _ => none }
def JournalTenantsWrongFalsely : Prop := journalTenantsRow.holds Try.pinned (OpenSpec.ofChange journalTenantsWrong)

/-- 'clerestorylaw20.EntryTells': WHATEVER THE INPUT: true; the input reads as it did. -/
def entryTellsSpec : ChangeSpec := { name := "entryTells", fn := fun _ => fun
  | [d1, d2, d3, d4] => { results := [.lit (.bool true)], args := [d1, d2, d3, d4] }
  | _ => none }
def entryTellsRow : OpenClaim := { program := "ytflpelacjdnplaa", sum := "f07de8889c7413f28a96049a178b9ae832392078bcb3bfb3a06861c41a340e55", func := "clerestory/clerestorylaw20.EntryTells", spec := "entryTells", unfollowed := true, recurses := true, apart := false }
def EntryTellsSaid : Prop := entryTellsRow.holds Try.pinned (OpenSpec.ofChange entryTellsSpec)

/-- ITS FALSE NEIGHBOUR: 'it returns false'. Refute it at one input. -/
def entryTellsWrong : ChangeSpec := { name := "entryTells", fn := fun _ => fun
  | [d1, d2, d3, d4] => { results := [.lit (.bool false)], args := [d1, d2, d3, d4] }
  | _ => none }
def EntryTellsWrongFalsely : Prop := entryTellsRow.holds Try.pinned (OpenSpec.ofChange entryTellsWrong)

/-- 'clerestorylaw20.EntryBack': WHATEVER THE INPUT: true; the input reads as it did. -/
def entryBackSpec : ChangeSpec := { name := "entryBack", fn := fun _ => fun
  | [d1, d2] => { results := [.lit (.bool true)], args := [d1, d2] }
  | _ => none }
def entryBackRow : OpenClaim := { program := "ytflpelacjdnplaa", sum := "f07de8889c7413f28a96049a178b9ae832392078bcb3bfb3a06861c41a340e55", func := "clerestory/clerestorylaw20.EntryBack", spec := "entryBack", unfollowed := true, recurses := true, apart := false }
def EntryBackSaid : Prop := entryBackRow.holds Try.pinned (OpenSpec.ofChange entryBackSpec)

/-- ITS FALSE NEIGHBOUR: 'it returns false'. Refute it at one input. -/
def entryBackWrong : ChangeSpec := { name := "entryBack", fn := fun _ => fun
  | [d1, d2] => { results := [.lit (.bool false)], args := [d1, d2] }
  | _ => none }
def EntryBackWrongFalsely : Prop := entryBackRow.holds Try.pinned (OpenSpec.ofChange entryBackWrong)

/-- 'clerestorylaw20.EntryOrders': WHATEVER THE INPUT: true; the input reads as it did. -/
def entryOrdersSpec : ChangeSpec := { name := "entryOrders", fn := fun _ => fun
  | [d1, d2, d3] => { results := [.lit (.bool true)], args := [d1, d2, d3] }
  | _ => none }
def entryOrdersRow : OpenClaim := { program := "ytflpelacjdnplaa", sum := "f07de8889c7413f28a96049a178b9ae832392078bcb3bfb3a06861c41a340e55", func := "clerestory/clerestorylaw20.EntryOrders", spec := "entryOrders", unfollowed := true, recurses := true, apart := false }
def EntryOrdersSaid : Prop := entryOrdersRow.holds Try.pinned (OpenSpec.ofChange entryOrdersSpec)

/-- ITS FALSE NEIGHBOUR: 'it returns false'. Refute it at one input. -/
def entryOrdersWrong : ChangeSpec := { name := "entryOrders", fn := fun _ => fun
  | [d1, d2, d3] => { results := [.lit (.bool false)], args := [d1, d2, d3] }
  | _ => none }
def EntryOrdersWrongFalsely : Prop := entryOrdersRow.holds Try.pinned (OpenSpec.ofChange entryOrdersWrong)

/-- 'clerestorylaw20.EntryTurns': WHATEVER THE INPUT: true; the input reads as it did. -/
def entryTurnsSpec : ChangeSpec := { name := "entryTurns", fn := fun _ => fun
  | [d1, d2, d3, d4] => { results := [.lit (.bool true)], args := [d1, d2, d3, d4] }
  | _ => none }
def entryTurnsRow : OpenClaim := { program := "ytflpelacjdnplaa", sum := "f07de8889c7413f28a96049a178b9ae832392078bcb3bfb3a06861c41a340e55", func := "clerestory/clerestorylaw20.EntryTurns", spec := "entryTurns", unfollowed := true, recurses := true, apart := false }
def EntryTurnsSaid : Prop := entryTurnsRow.holds Try.pinned (OpenSpec.ofChange entryTurnsSpec)

/-- ITS FALSE NEIGHBOUR: 'it returns false'. Refute it at one input. -/
def entryTurnsWrong : ChangeSpec := { name := "entryTurns", fn := fun _ => fun
  | [d1, d2, d3, d4] => { results := [.lit (.bool false)], args := [d1, d2, d3, d4] }
  | _ => none }
def EntryTurnsWrongFalsely : Prop := entryTurnsRow.holds Try.pinned (OpenSpec.ofChange entryTurnsWrong)

/- THE SECOND FORM. 'bulk': how many values and letters a reading holds, each counted each time it is reached (what is shared counts as often as it is met; a slice's spare places count too). A statement '..UptoSaid' is the law's where the arguments, and the package variables that the reading takes, are together of bulk at most 1048576: NARROWER than '..Said'. Prove '..Said' where nothing that the law and all that it calls make is longer than what came in: it says more and counts as full. Else prove '..UptoSaid'. A law counts once. -/
mutual
def uptoBulk {H : Type} : DataW H → Nat
  | .lit (.string bytes) => bytes.length + 1
  | .lit _ => 1
  | .nil => 1
  | .ptr d => uptoBulk d + 1
  | .slice elems spare => uptoBulkAll elems + uptoBulkAll spare + 1
  | .agg parts => uptoBulkAll parts + 1
  | .iface _ d => uptoBulk d + 1
  | .map entries => uptoBulkEntries entries + 1
  | .held _ => 1
def uptoBulkAll {H : Type} : List (DataW H) → Nat
  | [] => 0
  | d :: r => uptoBulk d + uptoBulkAll r
def uptoBulkEntries {H : Type} : List (Lit × DataW H) → Nat
  | [] => 0
  | x :: r => uptoBulkEntry x + uptoBulkEntries r
def uptoBulkEntry {H : Type} : Lit × DataW H → Nat
  | (.string bytes, d) => bytes.length + uptoBulk d + 1
  | (_, d) => uptoBulk d + 1
 end
def uptoSmall : (H : Type) → List (DataW H) → Bool := fun _ ds => decide (uptoBulkAll ds ≤ 1048576)
def OpenSpec.upto (s : _root_.Go.ChangeSpec) : _root_.Go.OpenSpec := { _root_.Go.OpenSpec.ofChange s with cond := some uptoSmall }

/-- 'clerestorylaw21.JournalPlays', WHERE WHAT IT READS IS OF BULK AT MOST 1048576: true; the input reads as it did. -/
def journalPlaysUptoRow : OpenClaim := { program := "ytflpelacjdnplaa", sum := "f07de8889c7413f28a96049a178b9ae832392078bcb3bfb3a06861c41a340e55", func := "clerestory/clerestorylaw21.JournalPlays", spec := "journalPlays", unfollowed := true, recurses := true, apart := false, narrowed := true }
def JournalPlaysUptoSaid : Prop := journalPlaysUptoRow.holds Try.pinned (OpenSpec.upto journalPlaysSpec)

/-- 'clerestorylaw21.JournalPages', WHERE WHAT IT READS IS OF BULK AT MOST 1048576: true; the input reads as it did. -/
def journalPagesUptoRow : OpenClaim := { program := "ytflpelacjdnplaa", sum := "f07de8889c7413f28a96049a178b9ae832392078bcb3bfb3a06861c41a340e55", func := "clerestory/clerestorylaw21.JournalPages", spec := "journalPages", unfollowed := true, recurses := true, apart := false, narrowed := true }
def JournalPagesUptoSaid : Prop := journalPagesUptoRow.holds Try.pinned (OpenSpec.upto journalPagesSpec)

/-- 'clerestorylaw21.JournalTrims', WHERE WHAT IT READS IS OF BULK AT MOST 1048576: true; the input reads as it did. -/
def journalTrimsUptoRow : OpenClaim := { program := "ytflpelacjdnplaa", sum := "f07de8889c7413f28a96049a178b9ae832392078bcb3bfb3a06861c41a340e55", func := "clerestory/clerestorylaw21.JournalTrims", spec := "journalTrims", unfollowed := true, recurses := true, apart := false, narrowed := true }
def JournalTrimsUptoSaid : Prop := journalTrimsUptoRow.holds Try.pinned (OpenSpec.upto journalTrimsSpec)

/-- 'clerestorylaw21.JournalFulls', WHERE WHAT IT READS IS OF BULK AT MOST 1048576: true; the input reads as it did. -/
def journalFullsUptoRow : OpenClaim := { program := "ytflpelacjdnplaa", sum := "f07de8889c7413f28a96049a178b9ae832392078bcb3bfb3a06861c41a340e55", func := "clerestory/clerestorylaw21.JournalFulls", spec := "journalFulls", unfollowed := true, recurses := true, apart := false, narrowed := true }
def JournalFullsUptoSaid : Prop := journalFullsUptoRow.holds Try.pinned (OpenSpec.upto journalFullsSpec)

/-- 'clerestorylaw21.JournalTenants', WHERE WHAT IT READS IS OF BULK AT MOST 1048576: true; the input reads as it did. -/
def journalTenantsUptoRow : OpenClaim := { program := "ytflpelacjdnplaa", sum := "f07de8889c7413f28a96049a178b9ae832392078bcb3bfb3a06861c41a340e55", func := "clerestory/clerestorylaw21.JournalTenants", spec := "journalTenants", unfollowed := true, recurses := true, apart := false, narrowed := true }
def JournalTenantsUptoSaid : Prop := journalTenantsUptoRow.holds Try.pinned (OpenSpec.upto journalTenantsSpec)

/-- 'clerestorylaw20.EntryTells', WHERE WHAT IT READS IS OF BULK AT MOST 1048576: true; the input reads as it did. -/
def entryTellsUptoRow : OpenClaim := { program := "ytflpelacjdnplaa", sum := "f07de8889c7413f28a96049a178b9ae832392078bcb3bfb3a06861c41a340e55", func := "clerestory/clerestorylaw20.EntryTells", spec := "entryTells", unfollowed := true, recurses := true, apart := false, narrowed := true }
def EntryTellsUptoSaid : Prop := entryTellsUptoRow.holds Try.pinned (OpenSpec.upto entryTellsSpec)

/-- 'clerestorylaw20.EntryBack', WHERE WHAT IT READS IS OF BULK AT MOST 1048576: true; the input reads as it did. -/
def entryBackUptoRow : OpenClaim := { program := "ytflpelacjdnplaa", sum := "f07de8889c7413f28a96049a178b9ae832392078bcb3bfb3a06861c41a340e55", func := "clerestory/clerestorylaw20.EntryBack", spec := "entryBack", unfollowed := true, recurses := true, apart := false, narrowed := true }
def EntryBackUptoSaid : Prop := entryBackUptoRow.holds Try.pinned (OpenSpec.upto entryBackSpec)

/-- 'clerestorylaw20.EntryOrders', WHERE WHAT IT READS IS OF BULK AT MOST 1048576: true; the input reads as it did. -/
def entryOrdersUptoRow : OpenClaim := { program := "ytflpelacjdnplaa", sum := "f07de8889c7413f28a96049a178b9ae832392078bcb3bfb3a06861c41a340e55", func := "clerestory/clerestorylaw20.EntryOrders", spec := "entryOrders", unfollowed := true, recurses := true, apart := false, narrowed := true }
def EntryOrdersUptoSaid : Prop := entryOrdersUptoRow.holds Try.pinned (OpenSpec.upto entryOrdersSpec)

/-- 'clerestorylaw20.EntryTurns', WHERE WHAT IT READS IS OF BULK AT MOST 1048576: true; the input reads as it did. -/
def entryTurnsUptoRow : OpenClaim := { program := "ytflpelacjdnplaa", sum := "f07de8889c7413f28a96049a178b9ae832392078bcb3bfb3a06861c41a340e55", func := "clerestory/clerestorylaw20.EntryTurns", spec := "entryTurns", unfollowed := true, recurses := true, apart := false, narrowed := true }
def EntryTurnsUptoSaid : Prop := entryTurnsUptoRow.holds Try.pinned (OpenSpec.upto entryTurnsSpec)

end Rows
end Go.Proofs.Ytflpelacjdnplaa
