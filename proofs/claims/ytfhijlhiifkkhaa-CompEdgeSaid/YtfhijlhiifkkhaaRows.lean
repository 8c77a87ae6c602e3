/-
  No cell of these rows narrows 'for every input' (looked for: loops, veiled, ifaces, maps, wideKeys, modest, calm, conditions, laid).
  DERIVED. THE GIVEN ROWS OF THIS SEAT. 5 by the template 'for every input the law returns true; each argument reads behind the call as it read before'; 0 by the template 'total and deterministic' (their statements: YtfhijlhiifkkhaaTotals.lean).
  GIVEN WITH THE SEED: the statements are not yours to turn. If you find one false, say at which input.
  Laid BY PROGRAM, IN A SANDBOX (cutbox-rows.mjs): the forced cells as the released guide's own fill.sh prints them over the translation 0376184939164d2b… (all of the seat's roots in one cut). By AI agents, Wed Nov 11 2026. No macro, syntax, notation, axiom, sorry.
-/
import Derived.Test.YtfhijlhiifkkhaaChecked
import GoSem.Claim
import GoSem.ClaimJoined
import GoSem.ClaimMapViews
import Derived.JoinedTies
import Derived.KernelRfl
namespace Go.Proofs.Ytfhijlhiifkkhaa
/- THE CELL 'sum', in the pinned program and in every row, IS THE sha256 OF THE DUMP (.gsa) THAT YtfhijlhiifkkhaaProg.lean LOADS. Nothing in Lean hashes anything: it is a label: what it is worth is what the hold of that sum in a sandbox is worth. -/
noncomputable def Try.pinned : Pinned := { name := "ytfhijlhiifkkhaa", sum := "0376184939164d2b101400d4e805e295bf75792d3fc98eb1a3b5c918e7e22d6e", checked := Try.checked }
namespace Rows
def none {H : Type} : Left H := { results := [], args := [] }

/-- 'tracerylaw06.CompLabels': WHATEVER THE INPUT: true; the input reads as it did. -/
def compLabelsSpec : ChangeSpec := { name := "compLabels", fn := fun _ => fun
  | [d1, d2, d3] => { results := [.lit (.bool true)], args := [d1, d2, d3] }
  | _ => none }
def compLabelsRow : OpenClaim := { program := "ytfhijlhiifkkhaa", sum := "0376184939164d2b101400d4e805e295bf75792d3fc98eb1a3b5c918e7e22d6e", func := "tracery/tracerylaw06.CompLabels", spec := "compLabels", unfollowed := true, recurses := true, plainKeys := false, apart := false }
def CompLabelsSaid : Prop := compLabelsRow.holds Try.pinned (OpenSpec.ofChange compLabelsSpec)

/-- ITS FALSE NEIGHBOUR: 'it returns false'. Refute it at one input. -/
def compLabelsWrong : ChangeSpec := { name := "compLabels", fn := fun _ => fun
  | [d1, d2, d3] => { results := [.lit (.bool false)], args := [d1, d2, d3] }
  | _ => none }
def CompLabelsWrongFalsely : Prop := compLabelsRow.holds Try.pinned (OpenSpec.ofChange compLabelsWrong)

/-- 'tracerylaw06.CompWhole': WHATEVER THE INPUT: true; the input reads as it did. -/
def compWholeSpec : ChangeSpec := { name := "compWhole", fn := fun _ => fun
  | [d] => { results := [.lit (.bool true)], args := [d] }
  | _ => none }
def compWholeRow : OpenClaim := { program := "ytfhijlhiifkkhaa", sum := "0376184939164d2b101400d4e805e295bf75792d3fc98eb1a3b5c918e7e22d6e", func := "tracery/tracerylaw06.CompWhole", spec := "compWhole", unfollowed := true, recurses := true, plainKeys := false, apart := false }
def CompWholeSaid : Prop := compWholeRow.holds Try.pinned (OpenSpec.ofChange compWholeSpec)

/-- ITS FALSE NEIGHBOUR: 'it returns false'. Refute it at one input. -/
def compWholeWrong : ChangeSpec := { name := "compWhole", fn := fun _ => fun
  | [d] => { results := [.lit (.bool false)], args := [d] }
  | _ => none }
def CompWholeWrongFalsely : Prop := compWholeRow.holds Try.pinned (OpenSpec.ofChange compWholeWrong)

/-- 'tracerylaw06.CompEdge': WHATEVER THE INPUT: true; the input reads as it did. -/
def compEdgeSpec : ChangeSpec := { name := "compEdge", fn := fun _ => fun
  | [d1, d2, d3] => { results := [.lit (.bool true)], args := [d1, d2, d3] }
  | _ => none }
def compEdgeRow : OpenClaim := { program := "ytfhijlhiifkkhaa", sum := "0376184939164d2b101400d4e805e295bf75792d3fc98eb1a3b5c918e7e22d6e", func := "tracery/tracerylaw06.CompEdge", spec := "compEdge", unfollowed := true, recurses := true, plainKeys := false, apart := false }
def CompEdgeSaid : Prop := compEdgeRow.holds Try.pinned (OpenSpec.ofChange compEdgeSpec)

/-- ITS FALSE NEIGHBOUR: 'it returns false'. Refute it at one input. -/
def compEdgeWrong : ChangeSpec := { name := "compEdge", fn := fun _ => fun
  | [d1, d2, d3] => { results := [.lit (.bool false)], args := [d1, d2, d3] }
  | _ => none }
def CompEdgeWrongFalsely : Prop := compEdgeRow.holds Try.pinned (OpenSpec.ofChange compEdgeWrong)

/-- 'tracerylaw06.CompPlaces': WHATEVER THE INPUT: true; the input reads as it did. -/
def compPlacesSpec : ChangeSpec := { name := "compPlaces", fn := fun _ => fun
  | [d] => { results := [.lit (.bool true)], args := [d] }
  | _ => none }
def compPlacesRow : OpenClaim := { program := "ytfhijlhiifkkhaa", sum := "0376184939164d2b101400d4e805e295bf75792d3fc98eb1a3b5c918e7e22d6e", func := "tracery/tracerylaw06.CompPlaces", spec := "compPlaces", unfollowed := true, recurses := true, plainKeys := false, apart := false }
def CompPlacesSaid : Prop := compPlacesRow.holds Try.pinned (OpenSpec.ofChange compPlacesSpec)

/-- ITS FALSE NEIGHBOUR: 'it returns false'. Refute it at one input. -/
def compPlacesWrong : ChangeSpec := { name := "compPlaces", fn := fun _ => fun
  | [d] => { results := [.lit (.bool false)], args := [d] }
  | _ => none }
def CompPlacesWrongFalsely : Prop := compPlacesRow.holds Try.pinned (OpenSpec.ofChange compPlacesWrong)

/-- 'tracerylaw06.CompBlind': WHATEVER THE INPUT: true; the input reads as it did. -/
def compBlindSpec : ChangeSpec := { name := "compBlind", fn := fun _ => fun
  | [d1, d2, d3] => { results := [.lit (.bool true)], args := [d1, d2, d3] }
  | _ => none }
def compBlindRow : OpenClaim := { program := "ytfhijlhiifkkhaa", sum := "0376184939164d2b101400d4e805e295bf75792d3fc98eb1a3b5c918e7e22d6e", func := "tracery/tracerylaw06.CompBlind", spec := "compBlind", unfollowed := true, recurses := true, plainKeys := false, apart := false }
def CompBlindSaid : Prop := compBlindRow.holds Try.pinned (OpenSpec.ofChange compBlindSpec)

/-- ITS FALSE NEIGHBOUR: 'it returns false'. Refute it at one input. -/
def compBlindWrong : ChangeSpec := { name := "compBlind", fn := fun _ => fun
  | [d1, d2, d3] => { results := [.lit (.bool false)], args := [d1, d2, d3] }
  | _ => none }
def CompBlindWrongFalsely : Prop := compBlindRow.holds Try.pinned (OpenSpec.ofChange compBlindWrong)

/- THE SECOND FORM. 'bulk': how many values and letters a reading holds, each counted each time it is reached (what is shared counts as often as it is met; a slice's spare places count too). A statement '..UptoSaid' is the law's where the arguments, and the package variables that the reading takes, are together of bulk at most 1048576: NARROWER than '..Said'. Prove '..Said' where nothing that the law and all that it calls make is longer than what came in: it says more and counts as full. Else prove '..UptoSaid'. A law counts once. -/
mutual
def uptoBulk {H : Type} : DataW H → Nat
  | .lit (.string bytes) => bytes.length + 1
  | .lit _ => 1
  | .nil => 1
  | .ptr d => uptoBulk d + 1
  | .slice elems spare => uptoBulkAll elems + uptoBulkAll spare + 1
  | .agg parts => uptoBulkAll parts + 1
  | .iface _ d => uptoBulk d + 1
  | .map entries => uptoBulkEntries entries + 1
  | .held _ => 1
def uptoBulkAll {H : Type} : List (DataW H) → Nat
  | [] => 0
  | d :: r => uptoBulk d + uptoBulkAll r
def uptoBulkEntries {H : Type} : List (Lit × DataW H) → Nat
  | [] => 0
  | x :: r => uptoBulkEntry x + uptoBulkEntries r
def uptoBulkEntry {H : Type} : Lit × DataW H → Nat
  | (.string bytes, d) => bytes.length + uptoBulk d + 1
  | (_, d) => uptoBulk d + 1
 end
def uptoSmall : (H : Type) → List (DataW H) → Bool := fun _ ds => decide (uptoBulkAll ds ≤ 1048576)
def OpenSpec.upto (s : _root_.Go.ChangeSpec) : _root_.Go.OpenSpec := { _root_.Go.OpenSpec.ofChange s with cond := some uptoSmall }

/-- 'tracerylaw06.CompLabels', WHERE WHAT IT READS IS OF BULK AT MOST 1048576: true; the input reads as it did. -/
def compLabelsUptoRow : OpenClaim := { program := "ytfhijlhiifkkhaa", sum := "0376184939164d2b101400d4e805e295bf75792d3fc98eb1a3b5c918e7e22d6e", func := "tracery/tracerylaw06.CompLabels", spec := "compLabels", unfollowed := true, recurses := true, plainKeys := false, apart := false, narrowed := true }
def CompLabelsUptoSaid : Prop := compLabelsUptoRow.holds Try.pinned (OpenSpec.upto compLabelsSpec)

/-- 'tracerylaw06.CompWhole', WHERE WHAT IT READS IS OF BULK AT MOST 1048576: true; the input reads as it did. -/
def compWholeUptoRow : OpenClaim := { program := "ytfhijlhiifkkhaa", sum := "0376184939164d2b101400d4e805e295bf75792d3fc98eb1a3b5c918e7e22d6e", func := "tracery/tracerylaw06.CompWhole", spec := "compWhole", unfollowed := true, recurses := true, plainKeys := false, apart := false, narrowed := true }
def CompWholeUptoSaid : Prop := compWholeUptoRow.holds Try.pinned (OpenSpec.upto compWholeSpec)

/-- 'tracerylaw06.CompEdge', WHERE WHAT IT READS IS OF BULK AT MOST 1048576: true; the input reads as it did. -/
def compEdgeUptoRow : OpenClaim := { program := "ytfhijlhiifkkhaa", sum := "0376184939164d2b101400d4e805e295bf75792d3fc98eb1a3b5c918e7e22d6e", func := "tracery/tracerylaw06.CompEdge", spec := "compEdge", unfollowed := true, recurses := true, plainKeys := false, apart := false, narrowed := true }
def CompEdgeUptoSaid : Prop := compEdgeUptoRow.holds Try.pinned (OpenSpec.upto compEdgeSpec)

/-- 'tracerylaw06.CompPlaces', WHERE WHAT IT READS IS OF BULK AT MOST 1048576: true; the input reads as it did. -/
def compPlacesUptoRow : OpenClaim := { program := "ytfhijlhiifkkhaa", sum := "0376184939164d2b101400d4e805e295bf75792d3fc98eb1a3b5c918e7e22d6e", func := "tracery/tracerylaw06.CompPlaces", spec := "compPlaces", unfollowed := true, recurses := true, plainKeys := false, apart := false, narrowed := true }
def CompPlacesUptoSaid : Prop := compPlacesUptoRow.holds Try.pinned (OpenSpec.upto compPlacesSpec)

/-- 'tracerylaw06.CompBlind', WHERE WHAT IT READS IS OF BULK AT MOST 1048576: true; the input reads as it did. -/
def compBlindUptoRow : OpenClaim := { program := "ytfhijlhiifkkhaa", sum := "0376184939164d2b101400d4e805e295bf75792d3fc98eb1a3b5c918e7e22d6e", func := "tracery/tracerylaw06.CompBlind", spec := "compBlind", unfollowed := true, recurses := true, plainKeys := false, apart := false, narrowed := true }
def CompBlindUptoSaid : Prop := compBlindUptoRow.holds Try.pinned (OpenSpec.upto compBlindSpec)

end Rows
end Go.Proofs.Ytfhijlhiifkkhaa
