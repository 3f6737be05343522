/-
  No cell of these rows narrows 'for every input' (looked for: loops, veiled, ifaces, maps, wideKeys, modest, calm, conditions, laid).
  DERIVED. THE GIVEN ROWS OF THIS SEAT. 4 by the template 'for every input the law returns true; each argument reads behind the call as it read before'; 0 by the template 'total and deterministic' (their statements: YtleofndjeekalaaTotals.lean).
  GIVEN WITH THE SEED: the statements are not yours to turn. If you find one false, say at which input.
  Laid BY PROGRAM, IN A SANDBOX (cutbox-rows.mjs): the forced cells as the released guide's own fill.sh prints them over the translation a111599fc9490c57… (all of the seat's roots in one cut). By AI agents, Wed Nov 11 2026. No macro, syntax, notation, axiom, sorry.
-/
import Derived.Test.YtleofndjeekalaaChecked
import GoSem.Claim
import GoSem.ClaimJoined
import GoSem.ClaimMapViews
import Derived.JoinedTies
import Derived.KernelRfl
namespace Go.Proofs.Ytleofndjeekalaa
/- THE CELL 'sum', in the pinned program and in every row, IS THE sha256 OF THE DUMP (.gsa) THAT YtleofndjeekalaaProg.lean LOADS. Nothing in Lean hashes anything: it is a label: what it is worth is what the hold of that sum in a sandbox is worth. -/
noncomputable def Try.pinned : Pinned := { name := "ytleofndjeekalaa", sum := "a111599fc9490c579216d4bf5580fc7399e7604b947e02b47c7d66e118eabca5", checked := Try.checked }
namespace Rows
def none {H : Type} : Left H := { results := [], args := [] }

/-- 'clerestorylaw11.RowsPlays': WHATEVER THE INPUT: true; the input reads as it did. -/
def rowsPlaysSpec : ChangeSpec := { name := "rowsPlays", fn := fun _ => fun
  | [d1, d2, d3] => { results := [.lit (.bool true)], args := [d1, d2, d3] }
  | _ => none }
def rowsPlaysRow : OpenClaim := { program := "ytleofndjeekalaa", sum := "a111599fc9490c579216d4bf5580fc7399e7604b947e02b47c7d66e118eabca5", func := "clerestory/clerestorylaw11.RowsPlays", spec := "rowsPlays", unfollowed := true, recurses := true, plainKeys := false, apart := false }
def RowsPlaysSaid : Prop := rowsPlaysRow.holds Try.pinned (OpenSpec.ofChange rowsPlaysSpec)

/-- ITS FALSE NEIGHBOUR: 'it returns false'. Refute it at one input. -/
def rowsPlaysWrong : ChangeSpec := { name := "rowsPlays", fn := fun _ => fun
  | [d1, d2, d3] => { results := [.lit (.bool false)], args := [d1, d2, d3] }
  | _ => none }
def RowsPlaysWrongFalsely : Prop := rowsPlaysRow.holds Try.pinned (OpenSpec.ofChange rowsPlaysWrong)

/-- 'clerestorylaw11.RowsTwice': WHATEVER THE INPUT: true; the input reads as it did. -/
def rowsTwiceSpec : ChangeSpec := { name := "rowsTwice", fn := fun _ => fun
  | [d1, d2] => { results := [.lit (.bool true)], args := [d1, d2] }
  | _ => none }
def rowsTwiceRow : OpenClaim := { program := "ytleofndjeekalaa", sum := "a111599fc9490c579216d4bf5580fc7399e7604b947e02b47c7d66e118eabca5", func := "clerestory/clerestorylaw11.RowsTwice", spec := "rowsTwice", unfollowed := true, recurses := true, plainKeys := false, apart := false }
def RowsTwiceSaid : Prop := rowsTwiceRow.holds Try.pinned (OpenSpec.ofChange rowsTwiceSpec)

/-- ITS FALSE NEIGHBOUR: 'it returns false'. Refute it at one input. -/
def rowsTwiceWrong : ChangeSpec := { name := "rowsTwice", fn := fun _ => fun
  | [d1, d2] => { results := [.lit (.bool false)], args := [d1, d2] }
  | _ => none }
def RowsTwiceWrongFalsely : Prop := rowsTwiceRow.holds Try.pinned (OpenSpec.ofChange rowsTwiceWrong)

/-- 'clerestorylaw11.RowsSwaps': WHATEVER THE INPUT: true; the input reads as it did. -/
def rowsSwapsSpec : ChangeSpec := { name := "rowsSwaps", fn := fun _ => fun
  | [d1, d2] => { results := [.lit (.bool true)], args := [d1, d2] }
  | _ => none }
def rowsSwapsRow : OpenClaim := { program := "ytleofndjeekalaa", sum := "a111599fc9490c579216d4bf5580fc7399e7604b947e02b47c7d66e118eabca5", func := "clerestory/clerestorylaw11.RowsSwaps", spec := "rowsSwaps", unfollowed := true, recurses := true, plainKeys := false, apart := false }
def RowsSwapsSaid : Prop := rowsSwapsRow.holds Try.pinned (OpenSpec.ofChange rowsSwapsSpec)

/-- ITS FALSE NEIGHBOUR: 'it returns false'. Refute it at one input. -/
def rowsSwapsWrong : ChangeSpec := { name := "rowsSwaps", fn := fun _ => fun
  | [d1, d2] => { results := [.lit (.bool false)], args := [d1, d2] }
  | _ => none }
def RowsSwapsWrongFalsely : Prop := rowsSwapsRow.holds Try.pinned (OpenSpec.ofChange rowsSwapsWrong)

/-- 'clerestorylaw11.RowsAreas': WHATEVER THE INPUT: true; the input reads as it did. -/
def rowsAreasSpec : ChangeSpec := { name := "rowsAreas", fn := fun _ => fun
  | [d1, d2, d3] => { results := [.lit (.bool true)], args := [d1, d2, d3] }
  | _ => none }
def rowsAreasRow : OpenClaim := { program := "ytleofndjeekalaa", sum := "a111599fc9490c579216d4bf5580fc7399e7604b947e02b47c7d66e118eabca5", func := "clerestory/clerestorylaw11.RowsAreas", spec := "rowsAreas", unfollowed := true, recurses := true, plainKeys := false, apart := false }
def RowsAreasSaid : Prop := rowsAreasRow.holds Try.pinned (OpenSpec.ofChange rowsAreasSpec)

/-- ITS FALSE NEIGHBOUR: 'it returns false'. Refute it at one input. -/
def rowsAreasWrong : ChangeSpec := { name := "rowsAreas", fn := fun _ => fun
  | [d1, d2, d3] => { results := [.lit (.bool false)], args := [d1, d2, d3] }
  | _ => none }
def RowsAreasWrongFalsely : Prop := rowsAreasRow.holds Try.pinned (OpenSpec.ofChange rowsAreasWrong)

/- THE SECOND FORM. 'bulk': how many values and letters a reading holds, each counted each time it is reached (what is shared counts as often as it is met; a slice's spare places count too). A statement '..UptoSaid' is the law's where the arguments, and the package variables that the reading takes, are together of bulk at most 1048576: NARROWER than '..Said'. Prove '..Said' where nothing that the law and all that it calls make is longer than what came in: it says more and counts as full. Else prove '..UptoSaid'. A law counts once. -/
mutual
def uptoBulk {H : Type} : DataW H → Nat
  | .lit (.string bytes) => bytes.length + 1
  | .lit _ => 1
  | .nil => 1
  | .ptr d => uptoBulk d + 1
  | .slice elems spare => uptoBulkAll elems + uptoBulkAll spare + 1
  | .agg parts => uptoBulkAll parts + 1
  | .iface _ d => uptoBulk d + 1
  | .map entries => uptoBulkEntries entries + 1
  | .held _ => 1
def uptoBulkAll {H : Type} : List (DataW H) → Nat
  | [] => 0
  | d :: r => uptoBulk d + uptoBulkAll r
def uptoBulkEntries {H : Type} : List (Lit × DataW H) → Nat
  | [] => 0
  | x :: r => uptoBulkEntry x + uptoBulkEntries r
def uptoBulkEntry {H : Type} : Lit × DataW H → Nat
  | (.string bytes, d) => bytes.length + uptoBulk d + 1
  | (_, d) => uptoBulk d + 1
 end
def uptoSmall : (H : Type) → List (DataW H) → Bool := fun _ ds => decide (uptoBulkAll ds ≤ 1048576)
def OpenSpec.upto (s : _root_.Go.ChangeSpec) : _root_.Go.OpenSpec := { _root_.Go.OpenSpec.ofChange s with cond := some uptoSmall }

/-- 'clerestorylaw11.RowsPlays', WHERE WHAT IT READS IS OF BULK AT MOST 1048576: true; the input reads as it did. -/
def rowsPlaysUptoRow : OpenClaim := { program := "ytleofndjeekalaa", sum := "a111599fc9490c579216d4bf5580fc7399e7604b947e02b47c7d66e118eabca5", func := "clerestory/clerestorylaw11.RowsPlays", spec := "rowsPlays", unfollowed := true, recurses := true, plainKeys := false, apart := false, narrowed := true }
def RowsPlaysUptoSaid : Prop := rowsPlaysUptoRow.holds Try.pinned (OpenSpec.upto rowsPlaysSpec)

/-- 'clerestorylaw11.RowsTwice', WHERE WHAT IT READS IS OF BULK AT MOST 1048576: true; the input reads as it did. -/
def rowsTwiceUptoRow : OpenClaim := { program := "ytleofndjeekalaa", sum := "a111599fc9490c579216d4bf5580fc7399e7604b947e02b47c7d66e118eabca5", func := "clerestory/clerestorylaw11.RowsTwice", spec := "rowsTwice", unfollowed := true, recurses := true, plainKeys := false, apart := false, narrowed := true }
def RowsTwiceUptoSaid : Prop := rowsTwiceUptoRow.holds Try.pinned (OpenSpec.upto rowsTwiceSpec)

/-- 'clerestorylaw11.RowsSwaps', WHERE WHAT IT READS IS OF BULK AT MOST 1048576: true; the input reads as it did. -/
def rowsSwapsUptoRow : OpenClaim := { program := "ytleofndjeekalaa", sum := "a111599fc9490c579216d4bf5580fc7399e7604b947e02b47c7d66e118eabca5", func := "clerestory/clerestorylaw11.RowsSwaps", spec := "rowsSwaps", unfollowed := true, recurses := true, plainKeys := false, apart := false, narrowed := true }
def RowsSwapsUptoSaid : Prop := rowsSwapsUptoRow.holds Try.pinned (OpenSpec.upto rowsSwapsSpec)

/-- 'clerestorylaw11.RowsAreas', WHERE WHAT IT READS IS OF BULK AT MOST 1048576: true; the input reads as it did. -/
def rowsAreasUptoRow : OpenClaim := { program := "ytleofndjeekalaa", sum := "a111599fc9490c579216d4bf5580fc7399e7604b947e02b47c7d66e118eabca5", func := "clerestory/clerestorylaw11.RowsAreas", spec := "rowsAreas", unfollowed := true, recurses := true, plainKeys := false, apart := false, narrowed := true }
def RowsAreasUptoSaid : Prop := rowsAreasUptoRow.holds Try.pinned (OpenSpec.upto rowsAreasSpec)

end Rows
end Go.Proofs.Ytleofndjeekalaa
