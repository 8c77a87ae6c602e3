/-
  No cell of these rows narrows 'for every input' (looked for: loops, veiled, ifaces, maps, wideKeys, modest, calm, conditions, laid).
  DERIVED. THE GIVEN ROWS OF THIS SEAT. 7 by the template 'for every input the law returns true; each argument reads behind the call as it read before'; 0 by the template 'total and deterministic' (their statements: YtehcfmohjcjmpaaTotals.lean).
  GIVEN WITH THE SEED: the statements are not yours to turn. If you find one false, say at which input.
  Laid BY PROGRAM, IN A SANDBOX (cutbox-rows.mjs): the forced cells as the released guide's own fill.sh prints them over the translation 6cbb0a041dc7e505… (all of the seat's roots in one cut). By AI agents, Wed Nov 11 2026. No macro, syntax, notation, axiom, sorry.
-/
import Derived.Test.YtehcfmohjcjmpaaChecked
import GoSem.Claim
import GoSem.ClaimJoined
import GoSem.ClaimMapViews
import Derived.JoinedTies
import Derived.KernelRfl
namespace Go.Proofs.Ytehcfmohjcjmpaa
/- THE CELL 'sum', in the pinned program and in every row, IS THE sha256 OF THE DUMP (.gsa) THAT YtehcfmohjcjmpaaProg.lean LOADS. Nothing in Lean hashes anything: it is a label: what it is worth is what the hold of that sum in a sandbox is worth. -/
noncomputable def Try.pinned : Pinned := { name := "ytehcfmohjcjmpaa", sum := "6cbb0a041dc7e505e85a5e8fd15bd465bc1780d67d52a508d97483a526dee492", checked := Try.checked }
namespace Rows
def none {H : Type} : Left H := { results := [], args := [] }

/-- 'tracerylaw04.DiagramForm': WHATEVER THE INPUT: true; the input reads as it did. -/
def diagramFormSpec : ChangeSpec := { name := "diagramForm", fn := fun _ => fun
  | [d1, d2, d3] => { results := [.lit (.bool true)], args := [d1, d2, d3] }
  | _ => none }
def diagramFormRow : OpenClaim := { program := "ytehcfmohjcjmpaa", sum := "6cbb0a041dc7e505e85a5e8fd15bd465bc1780d67d52a508d97483a526dee492", func := "tracery/tracerylaw04.DiagramForm", spec := "diagramForm", unfollowed := true, recurses := true, plainKeys := false, apart := false }
def DiagramFormSaid : Prop := diagramFormRow.holds Try.pinned (OpenSpec.ofChange diagramFormSpec)

/-- ITS FALSE NEIGHBOUR: 'it returns false'. Refute it at one input. -/
def diagramFormWrong : ChangeSpec := { name := "diagramForm", fn := fun _ => fun
  | [d1, d2, d3] => { results := [.lit (.bool false)], args := [d1, d2, d3] }
  | _ => none }
def DiagramFormWrongFalsely : Prop := diagramFormRow.holds Try.pinned (OpenSpec.ofChange diagramFormWrong)

/-- 'tracerylaw04.DiagramLabels': WHATEVER THE INPUT: true; the input reads as it did. -/
def diagramLabelsSpec : ChangeSpec := { name := "diagramLabels", fn := fun _ => fun
  | [d1, d2, d3] => { results := [.lit (.bool true)], args := [d1, d2, d3] }
  | _ => none }
def diagramLabelsRow : OpenClaim := { program := "ytehcfmohjcjmpaa", sum := "6cbb0a041dc7e505e85a5e8fd15bd465bc1780d67d52a508d97483a526dee492", func := "tracery/tracerylaw04.DiagramLabels", spec := "diagramLabels", unfollowed := true, recurses := true, plainKeys := false, apart := false }
def DiagramLabelsSaid : Prop := diagramLabelsRow.holds Try.pinned (OpenSpec.ofChange diagramLabelsSpec)

/-- ITS FALSE NEIGHBOUR: 'it returns false'. Refute it at one input. -/
def diagramLabelsWrong : ChangeSpec := { name := "diagramLabels", fn := fun _ => fun
  | [d1, d2, d3] => { results := [.lit (.bool false)], args := [d1, d2, d3] }
  | _ => none }
def DiagramLabelsWrongFalsely : Prop := diagramLabelsRow.holds Try.pinned (OpenSpec.ofChange diagramLabelsWrong)

/-- 'tracerylaw04.DiagramVertices': WHATEVER THE INPUT: true; the input reads as it did. -/
def diagramVerticesSpec : ChangeSpec := { name := "diagramVertices", fn := fun _ => fun
  | [d1, d2] => { results := [.lit (.bool true)], args := [d1, d2] }
  | _ => none }
def diagramVerticesRow : OpenClaim := { program := "ytehcfmohjcjmpaa", sum := "6cbb0a041dc7e505e85a5e8fd15bd465bc1780d67d52a508d97483a526dee492", func := "tracery/tracerylaw04.DiagramVertices", spec := "diagramVertices", unfollowed := true, recurses := true, plainKeys := false, apart := false }
def DiagramVerticesSaid : Prop := diagramVerticesRow.holds Try.pinned (OpenSpec.ofChange diagramVerticesSpec)

/-- ITS FALSE NEIGHBOUR: 'it returns false'. Refute it at one input. -/
def diagramVerticesWrong : ChangeSpec := { name := "diagramVertices", fn := fun _ => fun
  | [d1, d2] => { results := [.lit (.bool false)], args := [d1, d2] }
  | _ => none }
def DiagramVerticesWrongFalsely : Prop := diagramVerticesRow.holds Try.pinned (OpenSpec.ofChange diagramVerticesWrong)

/-- 'tracerylaw04.DiagramOwn': WHATEVER THE INPUT: true; the input reads as it did. -/
def diagramOwnSpec : ChangeSpec := { name := "diagramOwn", fn := fun _ => fun
  | [d1, d2] => { results := [.lit (.bool true)], args := [d1, d2] }
  | _ => none }
def diagramOwnRow : OpenClaim := { program := "ytehcfmohjcjmpaa", sum := "6cbb0a041dc7e505e85a5e8fd15bd465bc1780d67d52a508d97483a526dee492", func := "tracery/tracerylaw04.DiagramOwn", spec := "diagramOwn", unfollowed := true, recurses := true, plainKeys := false, apart := false }
def DiagramOwnSaid : Prop := diagramOwnRow.holds Try.pinned (OpenSpec.ofChange diagramOwnSpec)

/-- ITS FALSE NEIGHBOUR: 'it returns false'. Refute it at one input. -/
def diagramOwnWrong : ChangeSpec := { name := "diagramOwn", fn := fun _ => fun
  | [d1, d2] => { results := [.lit (.bool false)], args := [d1, d2] }
  | _ => none }
def DiagramOwnWrongFalsely : Prop := diagramOwnRow.holds Try.pinned (OpenSpec.ofChange diagramOwnWrong)

/-- 'tracerylaw04.DiagramMoves': WHATEVER THE INPUT: true; the input reads as it did. -/
def diagramMovesSpec : ChangeSpec := { name := "diagramMoves", fn := fun _ => fun
  | [d1, d2, d3] => { results := [.lit (.bool true)], args := [d1, d2, d3] }
  | _ => none }
def diagramMovesRow : OpenClaim := { program := "ytehcfmohjcjmpaa", sum := "6cbb0a041dc7e505e85a5e8fd15bd465bc1780d67d52a508d97483a526dee492", func := "tracery/tracerylaw04.DiagramMoves", spec := "diagramMoves", unfollowed := true, recurses := true, plainKeys := false, apart := false }
def DiagramMovesSaid : Prop := diagramMovesRow.holds Try.pinned (OpenSpec.ofChange diagramMovesSpec)

/-- ITS FALSE NEIGHBOUR: 'it returns false'. Refute it at one input. -/
def diagramMovesWrong : ChangeSpec := { name := "diagramMoves", fn := fun _ => fun
  | [d1, d2, d3] => { results := [.lit (.bool false)], args := [d1, d2, d3] }
  | _ => none }
def DiagramMovesWrongFalsely : Prop := diagramMovesRow.holds Try.pinned (OpenSpec.ofChange diagramMovesWrong)

/-- 'tracerylaw04.DiagramDarts': WHATEVER THE INPUT: true; the input reads as it did. -/
def diagramDartsSpec : ChangeSpec := { name := "diagramDarts", fn := fun _ => fun
  | [d1, d2] => { results := [.lit (.bool true)], args := [d1, d2] }
  | _ => none }
def diagramDartsRow : OpenClaim := { program := "ytehcfmohjcjmpaa", sum := "6cbb0a041dc7e505e85a5e8fd15bd465bc1780d67d52a508d97483a526dee492", func := "tracery/tracerylaw04.DiagramDarts", spec := "diagramDarts", unfollowed := true, recurses := true, plainKeys := false, apart := false }
def DiagramDartsSaid : Prop := diagramDartsRow.holds Try.pinned (OpenSpec.ofChange diagramDartsSpec)

/-- ITS FALSE NEIGHBOUR: 'it returns false'. Refute it at one input. -/
def diagramDartsWrong : ChangeSpec := { name := "diagramDarts", fn := fun _ => fun
  | [d1, d2] => { results := [.lit (.bool false)], args := [d1, d2] }
  | _ => none }
def DiagramDartsWrongFalsely : Prop := diagramDartsRow.holds Try.pinned (OpenSpec.ofChange diagramDartsWrong)

/-- 'tracerylaw04.DiagramFinds': WHATEVER THE INPUT: true; the input reads as it did. -/
def diagramFindsSpec : ChangeSpec := { name := "diagramFinds", fn := fun _ => fun
  | [d1, d2, d3] => { results := [.lit (.bool true)], args := [d1, d2, d3] }
  | _ => none }
def diagramFindsRow : OpenClaim := { program := "ytehcfmohjcjmpaa", sum := "6cbb0a041dc7e505e85a5e8fd15bd465bc1780d67d52a508d97483a526dee492", func := "tracery/tracerylaw04.DiagramFinds", spec := "diagramFinds", unfollowed := true, recurses := true, plainKeys := false, apart := false }
def DiagramFindsSaid : Prop := diagramFindsRow.holds Try.pinned (OpenSpec.ofChange diagramFindsSpec)

/-- ITS FALSE NEIGHBOUR: 'it returns false'. Refute it at one input. -/
def diagramFindsWrong : ChangeSpec := { name := "diagramFinds", fn := fun _ => fun
  | [d1, d2, d3] => { results := [.lit (.bool false)], args := [d1, d2, d3] }
  | _ => none }
def DiagramFindsWrongFalsely : Prop := diagramFindsRow.holds Try.pinned (OpenSpec.ofChange diagramFindsWrong)

/- THE SECOND FORM. 'bulk': how many values and letters a reading holds, each counted each time it is reached (what is shared counts as often as it is met; a slice's spare places count too). A statement '..UptoSaid' is the law's where the arguments, and the package variables that the reading takes, are together of bulk at most 1048576: NARROWER than '..Said'. Prove '..Said' where nothing that the law and all that it calls make is longer than what came in: it says more and counts as full. Else prove '..UptoSaid'. A law counts once. -/
mutual
def uptoBulk {H : Type} : DataW H → Nat
  | .lit (.string bytes) => bytes.length + 1
  | .lit _ => 1
  | .nil => 1
  | .ptr d => uptoBulk d + 1
  | .slice elems spare => uptoBulkAll elems + uptoBulkAll spare + 1
  | .agg parts => uptoBulkAll parts + 1
  | .iface _ d => uptoBulk d + 1
  | .map entries => uptoBulkEntries entries + 1
  | .held _ => 1
def uptoBulkAll {H : Type} : List (DataW H) → Nat
  | [] => 0
  | d :: r => uptoBulk d + uptoBulkAll r
def uptoBulkEntries {H : Type} : List (Lit × DataW H) → Nat
  | [] => 0
  | x :: r => uptoBulkEntry x + uptoBulkEntries r
def uptoBulkEntry {H : Type} : Lit × DataW H → Nat
  | (.string bytes, d) => bytes.length + uptoBulk d + 1
  | (_, d) => uptoBulk d + 1
 end
def uptoSmall : (H : Type) → List (DataW H) → Bool := fun _ ds => decide (uptoBulkAll ds ≤ 1048576)
def OpenSpec.upto (s : _root_.Go.ChangeSpec) : _root_.Go.OpenSpec := { _root_.Go.OpenSpec.ofChange s with cond := some uptoSmall }

/-- 'tracerylaw04.DiagramForm', WHERE WHAT IT READS IS OF BULK AT MOST 1048576: true; the input reads as it did. -/
def diagramFormUptoRow : OpenClaim := { program := "ytehcfmohjcjmpaa", sum := "6cbb0a041dc7e505e85a5e8fd15bd465bc1780d67d52a508d97483a526dee492", func := "tracery/tracerylaw04.DiagramForm", spec := "diagramForm", unfollowed := true, recurses := true, plainKeys := false, apart := false, narrowed := true }
def DiagramFormUptoSaid : Prop := diagramFormUptoRow.holds Try.pinned (OpenSpec.upto diagramFormSpec)

/-- 'tracerylaw04.DiagramLabels', WHERE WHAT IT READS IS OF BULK AT MOST 1048576: true; the input reads as it did. -/
def diagramLabelsUptoRow : OpenClaim := { program := "ytehcfmohjcjmpaa", sum := "6cbb0a041dc7e505e85a5e8fd15bd465bc1780d67d52a508d97483a526dee492", func := "tracery/tracerylaw04.DiagramLabels", spec := "diagramLabels", unfollowed := true, recurses := true, plainKeys := false, apart := false, narrowed := true }
def DiagramLabelsUptoSaid : Prop := diagramLabelsUptoRow.holds Try.pinned (OpenSpec.upto diagramLabelsSpec)

/-- 'tracerylaw04.DiagramVertices', WHERE WHAT IT READS IS OF BULK AT MOST 1048576: true; the input reads as it did. -/
def diagramVerticesUptoRow : OpenClaim := { program := "ytehcfmohjcjmpaa", sum := "6cbb0a041dc7e505e85a5e8fd15bd465bc1780d67d52a508d97483a526dee492", func := "tracery/tracerylaw04.DiagramVertices", spec := "diagramVertices", unfollowed := true, recurses := true, plainKeys := false, apart := false, narrowed := true }
def DiagramVerticesUptoSaid : Prop := diagramVerticesUptoRow.holds Try.pinned (OpenSpec.upto diagramVerticesSpec)

/-- 'tracerylaw04.DiagramOwn', WHERE WHAT IT READS IS OF BULK AT MOST 1048576: true; the input reads as it did. -/
def diagramOwnUptoRow : OpenClaim := { program := "ytehcfmohjcjmpaa", sum := "6cbb0a041dc7e505e85a5e8fd15bd465bc1780d67d52a508d97483a526dee492", func := "tracery/tracerylaw04.DiagramOwn", spec := "diagramOwn", unfollowed := true, recurses := true, plainKeys := false, apart := false, narrowed := true }
def DiagramOwnUptoSaid : Prop := diagramOwnUptoRow.holds Try.pinned (OpenSpec.upto diagramOwnSpec)

/-- 'tracerylaw04.DiagramMoves', WHERE WHAT IT READS IS OF BULK AT MOST 1048576: true; the input reads as it did. -/
def diagramMovesUptoRow : OpenClaim := { program := "ytehcfmohjcjmpaa", sum := "6cbb0a041dc7e505e85a5e8fd15bd465bc1780d67d52a508d97483a526dee492", func := "tracery/tracerylaw04.DiagramMoves", spec := "diagramMoves", unfollowed := true, recurses := true, plainKeys := false, apart := false, narrowed := true }
def DiagramMovesUptoSaid : Prop := diagramMovesUptoRow.holds Try.pinned (OpenSpec.upto diagramMovesSpec)

/-- 'tracerylaw04.DiagramDarts', WHERE WHAT IT READS IS OF BULK AT MOST 1048576: true; the input reads as it did. -/
def diagramDartsUptoRow : OpenClaim := { program := "ytehcfmohjcjmpaa", sum := "6cbb0a041dc7e505e85a5e8fd15bd465bc1780d67d52a508d97483a526dee492", func := "tracery/tracerylaw04.DiagramDarts", spec := "diagramDarts", unfollowed := true, recurses := true, plainKeys := false, apart := false, narrowed := true }
def DiagramDartsUptoSaid : Prop := diagramDartsUptoRow.holds Try.pinned (OpenSpec.upto diagramDartsSpec)

/-- 'tracerylaw04.DiagramFinds', WHERE WHAT IT READS IS OF BULK AT MOST 1048576: true; the input reads as it did. -/
def diagramFindsUptoRow : OpenClaim := { program := "ytehcfmohjcjmpaa", sum := "6cbb0a041dc7e505e85a5e8fd15bd465bc1780d67d52a508d97483a526dee492", func := "tracery/tracerylaw04.DiagramFinds", spec := "diagramFinds", unfollowed := true, recurses := true, plainKeys := false, apart := false, narrowed := true }
def DiagramFindsUptoSaid : Prop := diagramFindsUptoRow.holds Try.pinned (OpenSpec.upto diagramFindsSpec)

end Rows
end Go.Proofs.Ytehcfmohjcjmpaa
