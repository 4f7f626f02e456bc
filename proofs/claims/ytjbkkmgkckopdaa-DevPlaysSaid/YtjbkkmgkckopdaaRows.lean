/-
  No cell of these rows narrows 'for every input' (looked for: loops, veiled, ifaces, maps, wideKeys, modest, calm, conditions, laid).
  DERIVED. THE GIVEN ROWS OF THIS SEAT. 15 by the template 'for every input the law returns true; each argument reads behind the call as it read before'; 0 by the template 'total and deterministic' (their statements: YtjbkkmgkckopdaaTotals.lean).
  GIVEN WITH THE SEED: the statements are not yours to turn. If you find one false, say at which input.
  Laid BY PROGRAM, IN A SANDBOX (cutbox-rows.mjs): the forced cells as the released guide's own fill.sh prints them over the translation ca865541a65351e4… (all of the seat's roots in one cut). By AI agents, Wed Nov 11 2026. No macro, syntax, notation, axiom, sorry.
-/
import Derived.Test.YtjbkkmgkckopdaaChecked
import GoSem.Claim
import GoSem.ClaimJoined
import GoSem.ClaimMapViews
import Derived.JoinedTies
import Derived.KernelRfl
namespace Go.Proofs.Ytjbkkmgkckopdaa
/- THE CELL 'sum', in the pinned program and in every row, IS THE sha256 OF THE DUMP (.gsa) THAT YtjbkkmgkckopdaaProg.lean LOADS. Nothing in Lean hashes anything: it is a label: what it is worth is what the hold of that sum in a sandbox is worth. -/
noncomputable def Try.pinned : Pinned := { name := "ytjbkkmgkckopdaa", sum := "ca865541a65351e4c648959602aa596635f1ef7ce39b91049f3cf0354eb1e04e", checked := Try.checked }
namespace Rows
def none {H : Type} : Left H := { results := [], args := [] }

/-- 'rollbooklaw06.NodeDecodes': WHATEVER THE INPUT: true; the input reads as it did. -/
def nodeDecodesSpec : ChangeSpec := { name := "nodeDecodes", fn := fun _ => fun
  | [d1, d2] => { results := [.lit (.bool true)], args := [d1, d2] }
  | _ => none }
def nodeDecodesRow : OpenClaim := { program := "ytjbkkmgkckopdaa", sum := "ca865541a65351e4c648959602aa596635f1ef7ce39b91049f3cf0354eb1e04e", func := "rollbook/rollbooklaw06.NodeDecodes", spec := "nodeDecodes", apart := false }
def NodeDecodesSaid : Prop := nodeDecodesRow.holds Try.pinned (OpenSpec.ofChange nodeDecodesSpec)

/-- ITS FALSE NEIGHBOUR: 'it returns false'. Refute it at one input. -/
def nodeDecodesWrong : ChangeSpec := { name := "nodeDecodes", fn := fun _ => fun
  | [d1, d2] => { results := [.lit (.bool false)], args := [d1, d2] }
  | _ => none }
def NodeDecodesWrongFalsely : Prop := nodeDecodesRow.holds Try.pinned (OpenSpec.ofChange nodeDecodesWrong)

/-- 'rollbooklaw06.NodeEncodes': WHATEVER THE INPUT: true; the input reads as it did. -/
def nodeEncodesSpec : ChangeSpec := { name := "nodeEncodes", fn := fun _ => fun
  | [d1, d2] => { results := [.lit (.bool true)], args := [d1, d2] }
  | _ => none }
def nodeEncodesRow : OpenClaim := { program := "ytjbkkmgkckopdaa", sum := "ca865541a65351e4c648959602aa596635f1ef7ce39b91049f3cf0354eb1e04e", func := "rollbook/rollbooklaw06.NodeEncodes", spec := "nodeEncodes", apart := false }
def NodeEncodesSaid : Prop := nodeEncodesRow.holds Try.pinned (OpenSpec.ofChange nodeEncodesSpec)

/-- ITS FALSE NEIGHBOUR: 'it returns false'. Refute it at one input. -/
def nodeEncodesWrong : ChangeSpec := { name := "nodeEncodes", fn := fun _ => fun
  | [d1, d2] => { results := [.lit (.bool false)], args := [d1, d2] }
  | _ => none }
def NodeEncodesWrongFalsely : Prop := nodeEncodesRow.holds Try.pinned (OpenSpec.ofChange nodeEncodesWrong)

/-- 'rollbooklaw06.NodeParts': WHATEVER THE INPUT: true; the input reads as it did. -/
def nodePartsSpec : ChangeSpec := { name := "nodeParts", fn := fun _ => fun
  | [d1, d2] => { results := [.lit (.bool true)], args := [d1, d2] }
  | _ => none }
def nodePartsRow : OpenClaim := { program := "ytjbkkmgkckopdaa", sum := "ca865541a65351e4c648959602aa596635f1ef7ce39b91049f3cf0354eb1e04e", func := "rollbook/rollbooklaw06.NodeParts", spec := "nodeParts", unfollowed := true, recurses := true, apart := false }
def NodePartsSaid : Prop := nodePartsRow.holds Try.pinned (OpenSpec.ofChange nodePartsSpec)

/-- ITS FALSE NEIGHBOUR: 'it returns false'. Refute it at one input. -/
def nodePartsWrong : ChangeSpec := { name := "nodeParts", fn := fun _ => fun
  | [d1, d2] => { results := [.lit (.bool false)], args := [d1, d2] }
  | _ => none }
def NodePartsWrongFalsely : Prop := nodePartsRow.holds Try.pinned (OpenSpec.ofChange nodePartsWrong)

/-- 'rollbooklaw07.ReadersGuard': WHATEVER THE INPUT: true; the input reads as it did. -/
def readersGuardSpec : ChangeSpec := { name := "readersGuard", fn := fun _ => fun
  | [d1, d2, d3] => { results := [.lit (.bool true)], args := [d1, d2, d3] }
  | _ => none }
def readersGuardRow : OpenClaim := { program := "ytjbkkmgkckopdaa", sum := "ca865541a65351e4c648959602aa596635f1ef7ce39b91049f3cf0354eb1e04e", func := "rollbook/rollbooklaw07.ReadersGuard", spec := "readersGuard", recurses := true, apart := false }
def ReadersGuardSaid : Prop := readersGuardRow.holds Try.pinned (OpenSpec.ofChange readersGuardSpec)

/-- ITS FALSE NEIGHBOUR: 'it returns false'. Refute it at one input. -/
def readersGuardWrong : ChangeSpec := { name := "readersGuard", fn := fun _ => fun
  | [d1, d2, d3] => { results := [.lit (.bool false)], args := [d1, d2, d3] }
  | _ => none }
def ReadersGuardWrongFalsely : Prop := readersGuardRow.holds Try.pinned (OpenSpec.ofChange readersGuardWrong)

/-- 'rollbooklaw07.ReadersPlay': WHATEVER THE INPUT: true; the input reads as it did. -/
def readersPlaySpec : ChangeSpec := { name := "readersPlay", fn := fun _ => fun
  | [d] => { results := [.lit (.bool true)], args := [d] }
  | _ => none }
def readersPlayRow : OpenClaim := { program := "ytjbkkmgkckopdaa", sum := "ca865541a65351e4c648959602aa596635f1ef7ce39b91049f3cf0354eb1e04e", func := "rollbook/rollbooklaw07.ReadersPlay", spec := "readersPlay", recurses := true, apart := false }
def ReadersPlaySaid : Prop := readersPlayRow.holds Try.pinned (OpenSpec.ofChange readersPlaySpec)

/-- ITS FALSE NEIGHBOUR: 'it returns false'. Refute it at one input. -/
def readersPlayWrong : ChangeSpec := { name := "readersPlay", fn := fun _ => fun
  | [d] => { results := [.lit (.bool false)], args := [d] }
  | _ => none }
def ReadersPlayWrongFalsely : Prop := readersPlayRow.holds Try.pinned (OpenSpec.ofChange readersPlayWrong)

/-- 'rollbooklaw07.ReadersNil': WHATEVER THE INPUT: true; the input reads as it did. -/
def readersNilSpec : ChangeSpec := { name := "readersNil", fn := fun _ => fun
  | [d] => { results := [.lit (.bool true)], args := [d] }
  | _ => none }
def readersNilRow : OpenClaim := { program := "ytjbkkmgkckopdaa", sum := "ca865541a65351e4c648959602aa596635f1ef7ce39b91049f3cf0354eb1e04e", func := "rollbook/rollbooklaw07.ReadersNil", spec := "readersNil", recurses := true, apart := false }
def ReadersNilSaid : Prop := readersNilRow.holds Try.pinned (OpenSpec.ofChange readersNilSpec)

/-- ITS FALSE NEIGHBOUR: 'it returns false'. Refute it at one input. -/
def readersNilWrong : ChangeSpec := { name := "readersNil", fn := fun _ => fun
  | [d] => { results := [.lit (.bool false)], args := [d] }
  | _ => none }
def ReadersNilWrongFalsely : Prop := readersNilRow.holds Try.pinned (OpenSpec.ofChange readersNilWrong)

/-- 'rollbooklaw03.DevLasts': WHATEVER THE INPUT: true; the input reads as it did. -/
def devLastsSpec : ChangeSpec := { name := "devLasts", fn := fun _ => fun
  | [d1, d2, d3] => { results := [.lit (.bool true)], args := [d1, d2, d3] }
  | _ => none }
def devLastsRow : OpenClaim := { program := "ytjbkkmgkckopdaa", sum := "ca865541a65351e4c648959602aa596635f1ef7ce39b91049f3cf0354eb1e04e", func := "rollbook/rollbooklaw03.DevLasts", spec := "devLasts", unfollowed := true, recurses := true, apart := false }
def DevLastsSaid : Prop := devLastsRow.holds Try.pinned (OpenSpec.ofChange devLastsSpec)

/-- ITS FALSE NEIGHBOUR: 'it returns false'. Refute it at one input. -/
def devLastsWrong : ChangeSpec := { name := "devLasts", fn := fun _ => fun
  | [d1, d2, d3] => { results := [.lit (.bool false)], args := [d1, d2, d3] }
  | _ => none }
def DevLastsWrongFalsely : Prop := devLastsRow.holds Try.pinned (OpenSpec.ofChange devLastsWrong)

/-- 'rollbooklaw03.DevFuses': WHATEVER THE INPUT: true; the input reads as it did. -/
def devFusesSpec : ChangeSpec := { name := "devFuses", fn := fun _ => fun
  | [d1, d2] => { results := [.lit (.bool true)], args := [d1, d2] }
  | _ => none }
def devFusesRow : OpenClaim := { program := "ytjbkkmgkckopdaa", sum := "ca865541a65351e4c648959602aa596635f1ef7ce39b91049f3cf0354eb1e04e", func := "rollbook/rollbooklaw03.DevFuses", spec := "devFuses", unfollowed := true, recurses := true, apart := false }
def DevFusesSaid : Prop := devFusesRow.holds Try.pinned (OpenSpec.ofChange devFusesSpec)

/-- ITS FALSE NEIGHBOUR: 'it returns false'. Refute it at one input. -/
def devFusesWrong : ChangeSpec := { name := "devFuses", fn := fun _ => fun
  | [d1, d2] => { results := [.lit (.bool false)], args := [d1, d2] }
  | _ => none }
def DevFusesWrongFalsely : Prop := devFusesRow.holds Try.pinned (OpenSpec.ofChange devFusesWrong)

/-- 'rollbooklaw03.DevPlays': WHATEVER THE INPUT: true; the input reads as it did. -/
def devPlaysSpec : ChangeSpec := { name := "devPlays", fn := fun _ => fun
  | [d1, d2] => { results := [.lit (.bool true)], args := [d1, d2] }
  | _ => none }
def devPlaysRow : OpenClaim := { program := "ytjbkkmgkckopdaa", sum := "ca865541a65351e4c648959602aa596635f1ef7ce39b91049f3cf0354eb1e04e", func := "rollbook/rollbooklaw03.DevPlays", spec := "devPlays", unfollowed := true, recurses := true, apart := false }
def DevPlaysSaid : Prop := devPlaysRow.holds Try.pinned (OpenSpec.ofChange devPlaysSpec)

/-- ITS FALSE NEIGHBOUR: 'it returns false'. Refute it at one input. -/
def devPlaysWrong : ChangeSpec := { name := "devPlays", fn := fun _ => fun
  | [d1, d2] => { results := [.lit (.bool false)], args := [d1, d2] }
  | _ => none }
def DevPlaysWrongFalsely : Prop := devPlaysRow.holds Try.pinned (OpenSpec.ofChange devPlaysWrong)

/-- 'rollbooklaw03.DevNil': WHATEVER THE INPUT: true; the input reads as it did. -/
def devNilSpec : ChangeSpec := { name := "devNil", fn := fun _ => fun
  | [d] => { results := [.lit (.bool true)], args := [d] }
  | _ => none }
def devNilRow : OpenClaim := { program := "ytjbkkmgkckopdaa", sum := "ca865541a65351e4c648959602aa596635f1ef7ce39b91049f3cf0354eb1e04e", func := "rollbook/rollbooklaw03.DevNil", spec := "devNil", unfollowed := true, recurses := true, apart := false }
def DevNilSaid : Prop := devNilRow.holds Try.pinned (OpenSpec.ofChange devNilSpec)

/-- ITS FALSE NEIGHBOUR: 'it returns false'. Refute it at one input. -/
def devNilWrong : ChangeSpec := { name := "devNil", fn := fun _ => fun
  | [d] => { results := [.lit (.bool false)], args := [d] }
  | _ => none }
def DevNilWrongFalsely : Prop := devNilRow.holds Try.pinned (OpenSpec.ofChange devNilWrong)

/-- 'rollbooklaw10.CursorTurns': WHATEVER THE INPUT: true; the input reads as it did. -/
def cursorTurnsSpec : ChangeSpec := { name := "cursorTurns", fn := fun _ => fun
  | [d1, d2] => { results := [.lit (.bool true)], args := [d1, d2] }
  | _ => none }
def cursorTurnsRow : OpenClaim := { program := "ytjbkkmgkckopdaa", sum := "ca865541a65351e4c648959602aa596635f1ef7ce39b91049f3cf0354eb1e04e", func := "rollbook/rollbooklaw10.CursorTurns", spec := "cursorTurns", inPlace := ["slices.overlaps[rollbook/api.Cell]"], unfollowed := true, recurses := true, apart := false }
def CursorTurnsSaid : Prop := cursorTurnsRow.holds Try.pinned (OpenSpec.ofChange cursorTurnsSpec)

/-- ITS FALSE NEIGHBOUR: 'it returns false'. Refute it at one input. -/
def cursorTurnsWrong : ChangeSpec := { name := "cursorTurns", fn := fun _ => fun
  | [d1, d2] => { results := [.lit (.bool false)], args := [d1, d2] }
  | _ => none }
def CursorTurnsWrongFalsely : Prop := cursorTurnsRow.holds Try.pinned (OpenSpec.ofChange cursorTurnsWrong)

/-- 'rollbooklaw10.CursorCounts': WHATEVER THE INPUT: true; the input reads as it did. -/
def cursorCountsSpec : ChangeSpec := { name := "cursorCounts", fn := fun _ => fun
  | [d1, d2, d3] => { results := [.lit (.bool true)], args := [d1, d2, d3] }
  | _ => none }
def cursorCountsRow : OpenClaim := { program := "ytjbkkmgkckopdaa", sum := "ca865541a65351e4c648959602aa596635f1ef7ce39b91049f3cf0354eb1e04e", func := "rollbook/rollbooklaw10.CursorCounts", spec := "cursorCounts", inPlace := ["slices.overlaps[rollbook/api.Cell]"], unfollowed := true, recurses := true, apart := false }
def CursorCountsSaid : Prop := cursorCountsRow.holds Try.pinned (OpenSpec.ofChange cursorCountsSpec)

/-- ITS FALSE NEIGHBOUR: 'it returns false'. Refute it at one input. -/
def cursorCountsWrong : ChangeSpec := { name := "cursorCounts", fn := fun _ => fun
  | [d1, d2, d3] => { results := [.lit (.bool false)], args := [d1, d2, d3] }
  | _ => none }
def CursorCountsWrongFalsely : Prop := cursorCountsRow.holds Try.pinned (OpenSpec.ofChange cursorCountsWrong)

/-- 'rollbooklaw10.CursorNil': WHATEVER THE INPUT: true; the input reads as it did. -/
def cursorNilSpec : ChangeSpec := { name := "cursorNil", fn := fun _ => fun
  | [d] => { results := [.lit (.bool true)], args := [d] }
  | _ => none }
def cursorNilRow : OpenClaim := { program := "ytjbkkmgkckopdaa", sum := "ca865541a65351e4c648959602aa596635f1ef7ce39b91049f3cf0354eb1e04e", func := "rollbook/rollbooklaw10.CursorNil", spec := "cursorNil", inPlace := ["slices.overlaps[rollbook/api.Cell]"], unfollowed := true, recurses := true, apart := false }
def CursorNilSaid : Prop := cursorNilRow.holds Try.pinned (OpenSpec.ofChange cursorNilSpec)

/-- ITS FALSE NEIGHBOUR: 'it returns false'. Refute it at one input. -/
def cursorNilWrong : ChangeSpec := { name := "cursorNil", fn := fun _ => fun
  | [d] => { results := [.lit (.bool false)], args := [d] }
  | _ => none }
def CursorNilWrongFalsely : Prop := cursorNilRow.holds Try.pinned (OpenSpec.ofChange cursorNilWrong)

/-- 'rollbooklaw10.CursorPlays': WHATEVER THE INPUT: true; the input reads as it did. -/
def cursorPlaysSpec : ChangeSpec := { name := "cursorPlays", fn := fun _ => fun
  | [d1, d2] => { results := [.lit (.bool true)], args := [d1, d2] }
  | _ => none }
def cursorPlaysRow : OpenClaim := { program := "ytjbkkmgkckopdaa", sum := "ca865541a65351e4c648959602aa596635f1ef7ce39b91049f3cf0354eb1e04e", func := "rollbook/rollbooklaw10.CursorPlays", spec := "cursorPlays", inPlace := ["slices.overlaps[rollbook/api.Cell]"], unfollowed := true, recurses := true, apart := false }
def CursorPlaysSaid : Prop := cursorPlaysRow.holds Try.pinned (OpenSpec.ofChange cursorPlaysSpec)

/-- ITS FALSE NEIGHBOUR: 'it returns false'. Refute it at one input. -/
def cursorPlaysWrong : ChangeSpec := { name := "cursorPlays", fn := fun _ => fun
  | [d1, d2] => { results := [.lit (.bool false)], args := [d1, d2] }
  | _ => none }
def CursorPlaysWrongFalsely : Prop := cursorPlaysRow.holds Try.pinned (OpenSpec.ofChange cursorPlaysWrong)

/-- 'rollbooklaw10.CursorRuns': WHATEVER THE INPUT: true; the input reads as it did. -/
def cursorRunsSpec : ChangeSpec := { name := "cursorRuns", fn := fun _ => fun
  | [d] => { results := [.lit (.bool true)], args := [d] }
  | _ => none }
def cursorRunsRow : OpenClaim := { program := "ytjbkkmgkckopdaa", sum := "ca865541a65351e4c648959602aa596635f1ef7ce39b91049f3cf0354eb1e04e", func := "rollbook/rollbooklaw10.CursorRuns", spec := "cursorRuns", inPlace := ["slices.overlaps[rollbook/api.Cell]"], unfollowed := true, recurses := true, apart := false }
def CursorRunsSaid : Prop := cursorRunsRow.holds Try.pinned (OpenSpec.ofChange cursorRunsSpec)

/-- ITS FALSE NEIGHBOUR: 'it returns false'. Refute it at one input. -/
def cursorRunsWrong : ChangeSpec := { name := "cursorRuns", fn := fun _ => fun
  | [d] => { results := [.lit (.bool false)], args := [d] }
  | _ => none }
def CursorRunsWrongFalsely : Prop := cursorRunsRow.holds Try.pinned (OpenSpec.ofChange cursorRunsWrong)

/- THE SECOND FORM. 'bulk': how many values and letters a reading holds, each counted each time it is reached (what is shared counts as often as it is met; a slice's spare places count too). A statement '..UptoSaid' is the law's where the arguments, and the package variables that the reading takes, are together of bulk at most 1048576: NARROWER than '..Said'. Prove '..Said' where nothing that the law and all that it calls make is longer than what came in: it says more and counts as full. Else prove '..UptoSaid'. A law counts once. -/
mutual
def uptoBulk {H : Type} : DataW H → Nat
  | .lit (.string bytes) => bytes.length + 1
  | .lit _ => 1
  | .nil => 1
  | .ptr d => uptoBulk d + 1
  | .slice elems spare => uptoBulkAll elems + uptoBulkAll spare + 1
  | .agg parts => uptoBulkAll parts + 1
  | .iface _ d => uptoBulk d + 1
  | .map entries => uptoBulkEntries entries + 1
  | .held _ => 1
def uptoBulkAll {H : Type} : List (DataW H) → Nat
  | [] => 0
  | d :: r => uptoBulk d + uptoBulkAll r
def uptoBulkEntries {H : Type} : List (Lit × DataW H) → Nat
  | [] => 0
  | x :: r => uptoBulkEntry x + uptoBulkEntries r
def uptoBulkEntry {H : Type} : Lit × DataW H → Nat
  | (.string bytes, d) => bytes.length + uptoBulk d + 1
  | (_, d) => uptoBulk d + 1
 end
def uptoSmall : (H : Type) → List (DataW H) → Bool := fun _ ds => decide (uptoBulkAll ds ≤ 1048576)
def OpenSpec.upto (s : _root_.Go.ChangeSpec) : _root_.Go.OpenSpec := { _root_.Go.OpenSpec.ofChange s with cond := some uptoSmall }

/-- 'rollbooklaw06.NodeDecodes', WHERE WHAT IT READS IS OF BULK AT MOST 1048576: true; the input reads as it did. -/
def nodeDecodesUptoRow : OpenClaim := { program := "ytjbkkmgkckopdaa", sum := "ca865541a65351e4c648959602aa596635f1ef7ce39b91049f3cf0354eb1e04e", func := "rollbook/rollbooklaw06.NodeDecodes", spec := "nodeDecodes", apart := false, narrowed := true }
def NodeDecodesUptoSaid : Prop := nodeDecodesUptoRow.holds Try.pinned (OpenSpec.upto nodeDecodesSpec)

/-- 'rollbooklaw06.NodeEncodes', WHERE WHAT IT READS IS OF BULK AT MOST 1048576: true; the input reads as it did. -/
def nodeEncodesUptoRow : OpenClaim := { program := "ytjbkkmgkckopdaa", sum := "ca865541a65351e4c648959602aa596635f1ef7ce39b91049f3cf0354eb1e04e", func := "rollbook/rollbooklaw06.NodeEncodes", spec := "nodeEncodes", apart := false, narrowed := true }
def NodeEncodesUptoSaid : Prop := nodeEncodesUptoRow.holds Try.pinned (OpenSpec.upto nodeEncodesSpec)

/-- 'rollbooklaw06.NodeParts', WHERE WHAT IT READS IS OF BULK AT MOST 1048576: true; the input reads as it did. -/
def nodePartsUptoRow : OpenClaim := { program := "ytjbkkmgkckopdaa", sum := "ca865541a65351e4c648959602aa596635f1ef7ce39b91049f3cf0354eb1e04e", func := "rollbook/rollbooklaw06.NodeParts", spec := "nodeParts", unfollowed := true, recurses := true, apart := false, narrowed := true }
def NodePartsUptoSaid : Prop := nodePartsUptoRow.holds Try.pinned (OpenSpec.upto nodePartsSpec)

/-- 'rollbooklaw07.ReadersGuard', WHERE WHAT IT READS IS OF BULK AT MOST 1048576: true; the input reads as it did. -/
def readersGuardUptoRow : OpenClaim := { program := "ytjbkkmgkckopdaa", sum := "ca865541a65351e4c648959602aa596635f1ef7ce39b91049f3cf0354eb1e04e", func := "rollbook/rollbooklaw07.ReadersGuard", spec := "readersGuard", recurses := true, apart := false, narrowed := true }
def ReadersGuardUptoSaid : Prop := readersGuardUptoRow.holds Try.pinned (OpenSpec.upto readersGuardSpec)

/-- 'rollbooklaw07.ReadersPlay', WHERE WHAT IT READS IS OF BULK AT MOST 1048576: true; the input reads as it did. -/
def readersPlayUptoRow : OpenClaim := { program := "ytjbkkmgkckopdaa", sum := "ca865541a65351e4c648959602aa596635f1ef7ce39b91049f3cf0354eb1e04e", func := "rollbook/rollbooklaw07.ReadersPlay", spec := "readersPlay", recurses := true, apart := false, narrowed := true }
def ReadersPlayUptoSaid : Prop := readersPlayUptoRow.holds Try.pinned (OpenSpec.upto readersPlaySpec)

/-- 'rollbooklaw07.ReadersNil', WHERE WHAT IT READS IS OF BULK AT MOST 1048576: true; the input reads as it did. -/
def readersNilUptoRow : OpenClaim := { program := "ytjbkkmgkckopdaa", sum := "ca865541a65351e4c648959602aa596635f1ef7ce39b91049f3cf0354eb1e04e", func := "rollbook/rollbooklaw07.ReadersNil", spec := "readersNil", recurses := true, apart := false, narrowed := true }
def ReadersNilUptoSaid : Prop := readersNilUptoRow.holds Try.pinned (OpenSpec.upto readersNilSpec)

/-- 'rollbooklaw03.DevLasts', WHERE WHAT IT READS IS OF BULK AT MOST 1048576: true; the input reads as it did. -/
def devLastsUptoRow : OpenClaim := { program := "ytjbkkmgkckopdaa", sum := "ca865541a65351e4c648959602aa596635f1ef7ce39b91049f3cf0354eb1e04e", func := "rollbook/rollbooklaw03.DevLasts", spec := "devLasts", unfollowed := true, recurses := true, apart := false, narrowed := true }
def DevLastsUptoSaid : Prop := devLastsUptoRow.holds Try.pinned (OpenSpec.upto devLastsSpec)

/-- 'rollbooklaw03.DevFuses', WHERE WHAT IT READS IS OF BULK AT MOST 1048576: true; the input reads as it did. -/
def devFusesUptoRow : OpenClaim := { program := "ytjbkkmgkckopdaa", sum := "ca865541a65351e4c648959602aa596635f1ef7ce39b91049f3cf0354eb1e04e", func := "rollbook/rollbooklaw03.DevFuses", spec := "devFuses", unfollowed := true, recurses := true, apart := false, narrowed := true }
def DevFusesUptoSaid : Prop := devFusesUptoRow.holds Try.pinned (OpenSpec.upto devFusesSpec)

/-- 'rollbooklaw03.DevPlays', WHERE WHAT IT READS IS OF BULK AT MOST 1048576: true; the input reads as it did. -/
def devPlaysUptoRow : OpenClaim := { program := "ytjbkkmgkckopdaa", sum := "ca865541a65351e4c648959602aa596635f1ef7ce39b91049f3cf0354eb1e04e", func := "rollbook/rollbooklaw03.DevPlays", spec := "devPlays", unfollowed := true, recurses := true, apart := false, narrowed := true }
def DevPlaysUptoSaid : Prop := devPlaysUptoRow.holds Try.pinned (OpenSpec.upto devPlaysSpec)

/-- 'rollbooklaw03.DevNil', WHERE WHAT IT READS IS OF BULK AT MOST 1048576: true; the input reads as it did. -/
def devNilUptoRow : OpenClaim := { program := "ytjbkkmgkckopdaa", sum := "ca865541a65351e4c648959602aa596635f1ef7ce39b91049f3cf0354eb1e04e", func := "rollbook/rollbooklaw03.DevNil", spec := "devNil", unfollowed := true, recurses := true, apart := false, narrowed := true }
def DevNilUptoSaid : Prop := devNilUptoRow.holds Try.pinned (OpenSpec.upto devNilSpec)

/-- 'rollbooklaw10.CursorTurns', WHERE WHAT IT READS IS OF BULK AT MOST 1048576: true; the input reads as it did. -/
def cursorTurnsUptoRow : OpenClaim := { program := "ytjbkkmgkckopdaa", sum := "ca865541a65351e4c648959602aa596635f1ef7ce39b91049f3cf0354eb1e04e", func := "rollbook/rollbooklaw10.CursorTurns", spec := "cursorTurns", inPlace := ["slices.overlaps[rollbook/api.Cell]"], unfollowed := true, recurses := true, apart := false, narrowed := true }
def CursorTurnsUptoSaid : Prop := cursorTurnsUptoRow.holds Try.pinned (OpenSpec.upto cursorTurnsSpec)

/-- 'rollbooklaw10.CursorCounts', WHERE WHAT IT READS IS OF BULK AT MOST 1048576: true; the input reads as it did. -/
def cursorCountsUptoRow : OpenClaim := { program := "ytjbkkmgkckopdaa", sum := "ca865541a65351e4c648959602aa596635f1ef7ce39b91049f3cf0354eb1e04e", func := "rollbook/rollbooklaw10.CursorCounts", spec := "cursorCounts", inPlace := ["slices.overlaps[rollbook/api.Cell]"], unfollowed := true, recurses := true, apart := false, narrowed := true }
def CursorCountsUptoSaid : Prop := cursorCountsUptoRow.holds Try.pinned (OpenSpec.upto cursorCountsSpec)

/-- 'rollbooklaw10.CursorNil', WHERE WHAT IT READS IS OF BULK AT MOST 1048576: true; the input reads as it did. -/
def cursorNilUptoRow : OpenClaim := { program := "ytjbkkmgkckopdaa", sum := "ca865541a65351e4c648959602aa596635f1ef7ce39b91049f3cf0354eb1e04e", func := "rollbook/rollbooklaw10.CursorNil", spec := "cursorNil", inPlace := ["slices.overlaps[rollbook/api.Cell]"], unfollowed := true, recurses := true, apart := false, narrowed := true }
def CursorNilUptoSaid : Prop := cursorNilUptoRow.holds Try.pinned (OpenSpec.upto cursorNilSpec)

/-- 'rollbooklaw10.CursorPlays', WHERE WHAT IT READS IS OF BULK AT MOST 1048576: true; the input reads as it did. -/
def cursorPlaysUptoRow : OpenClaim := { program := "ytjbkkmgkckopdaa", sum := "ca865541a65351e4c648959602aa596635f1ef7ce39b91049f3cf0354eb1e04e", func := "rollbook/rollbooklaw10.CursorPlays", spec := "cursorPlays", inPlace := ["slices.overlaps[rollbook/api.Cell]"], unfollowed := true, recurses := true, apart := false, narrowed := true }
def CursorPlaysUptoSaid : Prop := cursorPlaysUptoRow.holds Try.pinned (OpenSpec.upto cursorPlaysSpec)

/-- 'rollbooklaw10.CursorRuns', WHERE WHAT IT READS IS OF BULK AT MOST 1048576: true; the input reads as it did. -/
def cursorRunsUptoRow : OpenClaim := { program := "ytjbkkmgkckopdaa", sum := "ca865541a65351e4c648959602aa596635f1ef7ce39b91049f3cf0354eb1e04e", func := "rollbook/rollbooklaw10.CursorRuns", spec := "cursorRuns", inPlace := ["slices.overlaps[rollbook/api.Cell]"], unfollowed := true, recurses := true, apart := false, narrowed := true }
def CursorRunsUptoSaid : Prop := cursorRunsUptoRow.holds Try.pinned (OpenSpec.upto cursorRunsSpec)

end Rows
end Go.Proofs.Ytjbkkmgkckopdaa
