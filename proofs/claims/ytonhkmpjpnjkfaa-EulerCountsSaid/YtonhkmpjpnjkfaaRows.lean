/-
  No cell of these rows narrows 'for every input' (looked for: loops, veiled, ifaces, maps, wideKeys, modest, calm, conditions, laid).
  DERIVED. THE GIVEN ROWS OF THIS SEAT. 7 by the template 'for every input the law returns true; each argument reads behind the call as it read before'; 0 by the template 'total and deterministic' (their statements: YtonhkmpjpnjkfaaTotals.lean).
  GIVEN WITH THE SEED: the statements are not yours to turn. If you find one false, say at which input.
  Laid BY PROGRAM, IN A SANDBOX (cutbox-rows.mjs): the forced cells as the released guide's own fill.sh prints them over the translation dcb148e1d4eaa00e… (all of the seat's roots in one cut). By AI agents, Wed Nov 11 2026. No macro, syntax, notation, axiom, sorry.
-/
import Derived.Test.YtonhkmpjpnjkfaaChecked
import GoSem.Claim
import GoSem.ClaimJoined
import GoSem.ClaimMapViews
import Derived.JoinedTies
import Derived.KernelRfl
namespace Go.Proofs.Ytonhkmpjpnjkfaa
/- THE CELL 'sum', in the pinned program and in every row, IS THE sha256 OF THE DUMP (.gsa) THAT YtonhkmpjpnjkfaaProg.lean LOADS. Nothing in Lean hashes anything: it is a label: what it is worth is what the hold of that sum in a sandbox is worth. -/
noncomputable def Try.pinned : Pinned := { name := "ytonhkmpjpnjkfaa", sum := "dcb148e1d4eaa00efe35ec3c60bd5188c6ce7ebcdfcd5b4ce2b3b252554760d3", checked := Try.checked }
namespace Rows
def none {H : Type} : Left H := { results := [], args := [] }

/-- 'tracerylaw07.EulerBounds': WHATEVER THE INPUT: true; the input reads as it did. -/
def eulerBoundsSpec : ChangeSpec := { name := "eulerBounds", fn := fun _ => fun
  | [d] => { results := [.lit (.bool true)], args := [d] }
  | _ => none }
def eulerBoundsRow : OpenClaim := { program := "ytonhkmpjpnjkfaa", sum := "dcb148e1d4eaa00efe35ec3c60bd5188c6ce7ebcdfcd5b4ce2b3b252554760d3", func := "tracery/tracerylaw07.EulerBounds", spec := "eulerBounds", unfollowed := true, recurses := true, plainKeys := false, apart := false }
def EulerBoundsSaid : Prop := eulerBoundsRow.holds Try.pinned (OpenSpec.ofChange eulerBoundsSpec)

/-- ITS FALSE NEIGHBOUR: 'it returns false'. Refute it at one input. -/
def eulerBoundsWrong : ChangeSpec := { name := "eulerBounds", fn := fun _ => fun
  | [d] => { results := [.lit (.bool false)], args := [d] }
  | _ => none }
def EulerBoundsWrongFalsely : Prop := eulerBoundsRow.holds Try.pinned (OpenSpec.ofChange eulerBoundsWrong)

/-- 'tracerylaw07.EulerLess': WHATEVER THE INPUT: true; the input reads as it did. -/
def eulerLessSpec : ChangeSpec := { name := "eulerLess", fn := fun _ => fun
  | [d1, d2] => { results := [.lit (.bool true)], args := [d1, d2] }
  | _ => none }
def eulerLessRow : OpenClaim := { program := "ytonhkmpjpnjkfaa", sum := "dcb148e1d4eaa00efe35ec3c60bd5188c6ce7ebcdfcd5b4ce2b3b252554760d3", func := "tracery/tracerylaw07.EulerLess", spec := "eulerLess", unfollowed := true, recurses := true, plainKeys := false, apart := false }
def EulerLessSaid : Prop := eulerLessRow.holds Try.pinned (OpenSpec.ofChange eulerLessSpec)

/-- ITS FALSE NEIGHBOUR: 'it returns false'. Refute it at one input. -/
def eulerLessWrong : ChangeSpec := { name := "eulerLess", fn := fun _ => fun
  | [d1, d2] => { results := [.lit (.bool false)], args := [d1, d2] }
  | _ => none }
def EulerLessWrongFalsely : Prop := eulerLessRow.holds Try.pinned (OpenSpec.ofChange eulerLessWrong)

/-- 'tracerylaw07.EulerEdge': WHATEVER THE INPUT: true; the input reads as it did. -/
def eulerEdgeSpec : ChangeSpec := { name := "eulerEdge", fn := fun _ => fun
  | [d1, d2, d3] => { results := [.lit (.bool true)], args := [d1, d2, d3] }
  | _ => none }
def eulerEdgeRow : OpenClaim := { program := "ytonhkmpjpnjkfaa", sum := "dcb148e1d4eaa00efe35ec3c60bd5188c6ce7ebcdfcd5b4ce2b3b252554760d3", func := "tracery/tracerylaw07.EulerEdge", spec := "eulerEdge", unfollowed := true, recurses := true, plainKeys := false, apart := false }
def EulerEdgeSaid : Prop := eulerEdgeRow.holds Try.pinned (OpenSpec.ofChange eulerEdgeSpec)

/-- ITS FALSE NEIGHBOUR: 'it returns false'. Refute it at one input. -/
def eulerEdgeWrong : ChangeSpec := { name := "eulerEdge", fn := fun _ => fun
  | [d1, d2, d3] => { results := [.lit (.bool false)], args := [d1, d2, d3] }
  | _ => none }
def EulerEdgeWrongFalsely : Prop := eulerEdgeRow.holds Try.pinned (OpenSpec.ofChange eulerEdgeWrong)

/-- 'tracerylaw07.EulerTrees': WHATEVER THE INPUT: true; the input reads as it did. -/
def eulerTreesSpec : ChangeSpec := { name := "eulerTrees", fn := fun _ => fun
  | [d] => { results := [.lit (.bool true)], args := [d] }
  | _ => none }
def eulerTreesRow : OpenClaim := { program := "ytonhkmpjpnjkfaa", sum := "dcb148e1d4eaa00efe35ec3c60bd5188c6ce7ebcdfcd5b4ce2b3b252554760d3", func := "tracery/tracerylaw07.EulerTrees", spec := "eulerTrees", unfollowed := true, recurses := true, plainKeys := false, apart := false }
def EulerTreesSaid : Prop := eulerTreesRow.holds Try.pinned (OpenSpec.ofChange eulerTreesSpec)

/-- ITS FALSE NEIGHBOUR: 'it returns false'. Refute it at one input. -/
def eulerTreesWrong : ChangeSpec := { name := "eulerTrees", fn := fun _ => fun
  | [d] => { results := [.lit (.bool false)], args := [d] }
  | _ => none }
def EulerTreesWrongFalsely : Prop := eulerTreesRow.holds Try.pinned (OpenSpec.ofChange eulerTreesWrong)

/-- 'tracerylaw07.EulerCounts': WHATEVER THE INPUT: true; the input reads as it did. -/
def eulerCountsSpec : ChangeSpec := { name := "eulerCounts", fn := fun _ => fun
  | [d] => { results := [.lit (.bool true)], args := [d] }
  | _ => none }
def eulerCountsRow : OpenClaim := { program := "ytonhkmpjpnjkfaa", sum := "dcb148e1d4eaa00efe35ec3c60bd5188c6ce7ebcdfcd5b4ce2b3b252554760d3", func := "tracery/tracerylaw07.EulerCounts", spec := "eulerCounts", unfollowed := true, recurses := true, plainKeys := false, apart := false }
def EulerCountsSaid : Prop := eulerCountsRow.holds Try.pinned (OpenSpec.ofChange eulerCountsSpec)

/-- ITS FALSE NEIGHBOUR: 'it returns false'. Refute it at one input. -/
def eulerCountsWrong : ChangeSpec := { name := "eulerCounts", fn := fun _ => fun
  | [d] => { results := [.lit (.bool false)], args := [d] }
  | _ => none }
def EulerCountsWrongFalsely : Prop := eulerCountsRow.holds Try.pinned (OpenSpec.ofChange eulerCountsWrong)

/-- 'tracerylaw07.EulerMay': WHATEVER THE INPUT: true; the input reads as it did. -/
def eulerMaySpec : ChangeSpec := { name := "eulerMay", fn := fun _ => fun
  | [d] => { results := [.lit (.bool true)], args := [d] }
  | _ => none }
def eulerMayRow : OpenClaim := { program := "ytonhkmpjpnjkfaa", sum := "dcb148e1d4eaa00efe35ec3c60bd5188c6ce7ebcdfcd5b4ce2b3b252554760d3", func := "tracery/tracerylaw07.EulerMay", spec := "eulerMay", unfollowed := true, recurses := true, plainKeys := false, apart := false }
def EulerMaySaid : Prop := eulerMayRow.holds Try.pinned (OpenSpec.ofChange eulerMaySpec)

/-- ITS FALSE NEIGHBOUR: 'it returns false'. Refute it at one input. -/
def eulerMayWrong : ChangeSpec := { name := "eulerMay", fn := fun _ => fun
  | [d] => { results := [.lit (.bool false)], args := [d] }
  | _ => none }
def EulerMayWrongFalsely : Prop := eulerMayRow.holds Try.pinned (OpenSpec.ofChange eulerMayWrong)

/-- 'tracerylaw07.EulerMirror': WHATEVER THE INPUT: true; the input reads as it did. -/
def eulerMirrorSpec : ChangeSpec := { name := "eulerMirror", fn := fun _ => fun
  | [d] => { results := [.lit (.bool true)], args := [d] }
  | _ => none }
def eulerMirrorRow : OpenClaim := { program := "ytonhkmpjpnjkfaa", sum := "dcb148e1d4eaa00efe35ec3c60bd5188c6ce7ebcdfcd5b4ce2b3b252554760d3", func := "tracery/tracerylaw07.EulerMirror", spec := "eulerMirror", unfollowed := true, recurses := true, plainKeys := false, apart := false }
def EulerMirrorSaid : Prop := eulerMirrorRow.holds Try.pinned (OpenSpec.ofChange eulerMirrorSpec)

/-- ITS FALSE NEIGHBOUR: 'it returns false'. Refute it at one input. -/
def eulerMirrorWrong : ChangeSpec := { name := "eulerMirror", fn := fun _ => fun
  | [d] => { results := [.lit (.bool false)], args := [d] }
  | _ => none }
def EulerMirrorWrongFalsely : Prop := eulerMirrorRow.holds Try.pinned (OpenSpec.ofChange eulerMirrorWrong)

/- THE SECOND FORM. 'bulk': how many values and letters a reading holds, each counted each time it is reached (what is shared counts as often as it is met; a slice's spare places count too). A statement '..UptoSaid' is the law's where the arguments, and the package variables that the reading takes, are together of bulk at most 1048576: NARROWER than '..Said'. Prove '..Said' where nothing that the law and all that it calls make is longer than what came in: it says more and counts as full. Else prove '..UptoSaid'. A law counts once. -/
mutual
def uptoBulk {H : Type} : DataW H → Nat
  | .lit (.string bytes) => bytes.length + 1
  | .lit _ => 1
  | .nil => 1
  | .ptr d => uptoBulk d + 1
  | .slice elems spare => uptoBulkAll elems + uptoBulkAll spare + 1
  | .agg parts => uptoBulkAll parts + 1
  | .iface _ d => uptoBulk d + 1
  | .map entries => uptoBulkEntries entries + 1
  | .held _ => 1
def uptoBulkAll {H : Type} : List (DataW H) → Nat
  | [] => 0
  | d :: r => uptoBulk d + uptoBulkAll r
def uptoBulkEntries {H : Type} : List (Lit × DataW H) → Nat
  | [] => 0
  | x :: r => uptoBulkEntry x + uptoBulkEntries r
def uptoBulkEntry {H : Type} : Lit × DataW H → Nat
  | (.string bytes, d) => bytes.length + uptoBulk d + 1
  | (_, d) => uptoBulk d + 1
 end
def uptoSmall : (H : Type) → List (DataW H) → Bool := fun _ ds => decide (uptoBulkAll ds ≤ 1048576)
def OpenSpec.upto (s : _root_.Go.ChangeSpec) : _root_.Go.OpenSpec := { _root_.Go.OpenSpec.ofChange s with cond := some uptoSmall }

/-- 'tracerylaw07.EulerBounds', WHERE WHAT IT READS IS OF BULK AT MOST 1048576: true; the input reads as it did. -/
def eulerBoundsUptoRow : OpenClaim := { program := "ytonhkmpjpnjkfaa", sum := "dcb148e1d4eaa00efe35ec3c60bd5188c6ce7ebcdfcd5b4ce2b3b252554760d3", func := "tracery/tracerylaw07.EulerBounds", spec := "eulerBounds", unfollowed := true, recurses := true, plainKeys := false, apart := false, narrowed := true }
def EulerBoundsUptoSaid : Prop := eulerBoundsUptoRow.holds Try.pinned (OpenSpec.upto eulerBoundsSpec)

/-- 'tracerylaw07.EulerLess', WHERE WHAT IT READS IS OF BULK AT MOST 1048576: true; the input reads as it did. -/
def eulerLessUptoRow : OpenClaim := { program := "ytonhkmpjpnjkfaa", sum := "dcb148e1d4eaa00efe35ec3c60bd5188c6ce7ebcdfcd5b4ce2b3b252554760d3", func := "tracery/tracerylaw07.EulerLess", spec := "eulerLess", unfollowed := true, recurses := true, plainKeys := false, apart := false, narrowed := true }
def EulerLessUptoSaid : Prop := eulerLessUptoRow.holds Try.pinned (OpenSpec.upto eulerLessSpec)

/-- 'tracerylaw07.EulerEdge', WHERE WHAT IT READS IS OF BULK AT MOST 1048576: true; the input reads as it did. -/
def eulerEdgeUptoRow : OpenClaim := { program := "ytonhkmpjpnjkfaa", sum := "dcb148e1d4eaa00efe35ec3c60bd5188c6ce7ebcdfcd5b4ce2b3b252554760d3", func := "tracery/tracerylaw07.EulerEdge", spec := "eulerEdge", unfollowed := true, recurses := true, plainKeys := false, apart := false, narrowed := true }
def EulerEdgeUptoSaid : Prop := eulerEdgeUptoRow.holds Try.pinned (OpenSpec.upto eulerEdgeSpec)

/-- 'tracerylaw07.EulerTrees', WHERE WHAT IT READS IS OF BULK AT MOST 1048576: true; the input reads as it did. -/
def eulerTreesUptoRow : OpenClaim := { program := "ytonhkmpjpnjkfaa", sum := "dcb148e1d4eaa00efe35ec3c60bd5188c6ce7ebcdfcd5b4ce2b3b252554760d3", func := "tracery/tracerylaw07.EulerTrees", spec := "eulerTrees", unfollowed := true, recurses := true, plainKeys := false, apart := false, narrowed := true }
def EulerTreesUptoSaid : Prop := eulerTreesUptoRow.holds Try.pinned (OpenSpec.upto eulerTreesSpec)

/-- 'tracerylaw07.EulerCounts', WHERE WHAT IT READS IS OF BULK AT MOST 1048576: true; the input reads as it did. -/
def eulerCountsUptoRow : OpenClaim := { program := "ytonhkmpjpnjkfaa", sum := "dcb148e1d4eaa00efe35ec3c60bd5188c6ce7ebcdfcd5b4ce2b3b252554760d3", func := "tracery/tracerylaw07.EulerCounts", spec := "eulerCounts", unfollowed := true, recurses := true, plainKeys := false, apart := false, narrowed := true }
def EulerCountsUptoSaid : Prop := eulerCountsUptoRow.holds Try.pinned (OpenSpec.upto eulerCountsSpec)

/-- 'tracerylaw07.EulerMay', WHERE WHAT IT READS IS OF BULK AT MOST 1048576: true; the input reads as it did. -/
def eulerMayUptoRow : OpenClaim := { program := "ytonhkmpjpnjkfaa", sum := "dcb148e1d4eaa00efe35ec3c60bd5188c6ce7ebcdfcd5b4ce2b3b252554760d3", func := "tracery/tracerylaw07.EulerMay", spec := "eulerMay", unfollowed := true, recurses := true, plainKeys := false, apart := false, narrowed := true }
def EulerMayUptoSaid : Prop := eulerMayUptoRow.holds Try.pinned (OpenSpec.upto eulerMaySpec)

/-- 'tracerylaw07.EulerMirror', WHERE WHAT IT READS IS OF BULK AT MOST 1048576: true; the input reads as it did. -/
def eulerMirrorUptoRow : OpenClaim := { program := "ytonhkmpjpnjkfaa", sum := "dcb148e1d4eaa00efe35ec3c60bd5188c6ce7ebcdfcd5b4ce2b3b252554760d3", func := "tracery/tracerylaw07.EulerMirror", spec := "eulerMirror", unfollowed := true, recurses := true, plainKeys := false, apart := false, narrowed := true }
def EulerMirrorUptoSaid : Prop := eulerMirrorUptoRow.holds Try.pinned (OpenSpec.upto eulerMirrorSpec)

end Rows
end Go.Proofs.Ytonhkmpjpnjkfaa
