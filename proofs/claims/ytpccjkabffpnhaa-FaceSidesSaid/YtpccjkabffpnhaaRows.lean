/-
  No cell of these rows narrows 'for every input' (looked for: loops, veiled, ifaces, maps, wideKeys, modest, calm, conditions, laid).
  DERIVED. THE GIVEN ROWS OF THIS SEAT. 6 by the template 'for every input the law returns true; each argument reads behind the call as it read before'; 0 by the template 'total and deterministic' (their statements: YtpccjkabffpnhaaTotals.lean).
  GIVEN WITH THE SEED: the statements are not yours to turn. If you find one false, say at which input.
  Laid BY PROGRAM, IN A SANDBOX (cutbox-rows.mjs): the forced cells as the released guide's own fill.sh prints them over the translation d04d7a6c261d56dd… (all of the seat's roots in one cut). By AI agents, Wed Nov 11 2026. No macro, syntax, notation, axiom, sorry.
-/
import Derived.Test.YtpccjkabffpnhaaChecked
import GoSem.Claim
import GoSem.ClaimJoined
import GoSem.ClaimMapViews
import Derived.JoinedTies
import Derived.KernelRfl
namespace Go.Proofs.Ytpccjkabffpnhaa
/- THE CELL 'sum', in the pinned program and in every row, IS THE sha256 OF THE DUMP (.gsa) THAT YtpccjkabffpnhaaProg.lean LOADS. Nothing in Lean hashes anything: it is a label: what it is worth is what the hold of that sum in a sandbox is worth. -/
noncomputable def Try.pinned : Pinned := { name := "ytpccjkabffpnhaa", sum := "d04d7a6c261d56dd69bd23bf4e5a145d1ba7cd1de8d002a594544a33f5178b53", checked := Try.checked }
namespace Rows
def none {H : Type} : Left H := { results := [], args := [] }

/-- 'tracerylaw05.FaceSteps': WHATEVER THE INPUT: true; the input reads as it did. -/
def faceStepsSpec : ChangeSpec := { name := "faceSteps", fn := fun _ => fun
  | [d1, d2] => { results := [.lit (.bool true)], args := [d1, d2] }
  | _ => none }
def faceStepsRow : OpenClaim := { program := "ytpccjkabffpnhaa", sum := "d04d7a6c261d56dd69bd23bf4e5a145d1ba7cd1de8d002a594544a33f5178b53", func := "tracery/tracerylaw05.FaceSteps", spec := "faceSteps", unfollowed := true, recurses := true, plainKeys := false, apart := false }
def FaceStepsSaid : Prop := faceStepsRow.holds Try.pinned (OpenSpec.ofChange faceStepsSpec)

/-- ITS FALSE NEIGHBOUR: 'it returns false'. Refute it at one input. -/
def faceStepsWrong : ChangeSpec := { name := "faceSteps", fn := fun _ => fun
  | [d1, d2] => { results := [.lit (.bool false)], args := [d1, d2] }
  | _ => none }
def FaceStepsWrongFalsely : Prop := faceStepsRow.holds Try.pinned (OpenSpec.ofChange faceStepsWrong)

/-- 'tracerylaw05.FaceMoves': WHATEVER THE INPUT: true; the input reads as it did. -/
def faceMovesSpec : ChangeSpec := { name := "faceMoves", fn := fun _ => fun
  | [d] => { results := [.lit (.bool true)], args := [d] }
  | _ => none }
def faceMovesRow : OpenClaim := { program := "ytpccjkabffpnhaa", sum := "d04d7a6c261d56dd69bd23bf4e5a145d1ba7cd1de8d002a594544a33f5178b53", func := "tracery/tracerylaw05.FaceMoves", spec := "faceMoves", unfollowed := true, recurses := true, plainKeys := false, apart := false }
def FaceMovesSaid : Prop := faceMovesRow.holds Try.pinned (OpenSpec.ofChange faceMovesSpec)

/-- ITS FALSE NEIGHBOUR: 'it returns false'. Refute it at one input. -/
def faceMovesWrong : ChangeSpec := { name := "faceMoves", fn := fun _ => fun
  | [d] => { results := [.lit (.bool false)], args := [d] }
  | _ => none }
def FaceMovesWrongFalsely : Prop := faceMovesRow.holds Try.pinned (OpenSpec.ofChange faceMovesWrong)

/-- 'tracerylaw05.FaceTraces': WHATEVER THE INPUT: true; the input reads as it did. -/
def faceTracesSpec : ChangeSpec := { name := "faceTraces", fn := fun _ => fun
  | [d1, d2, d3] => { results := [.lit (.bool true)], args := [d1, d2, d3] }
  | _ => none }
def faceTracesRow : OpenClaim := { program := "ytpccjkabffpnhaa", sum := "d04d7a6c261d56dd69bd23bf4e5a145d1ba7cd1de8d002a594544a33f5178b53", func := "tracery/tracerylaw05.FaceTraces", spec := "faceTraces", unfollowed := true, recurses := true, plainKeys := false, apart := false }
def FaceTracesSaid : Prop := faceTracesRow.holds Try.pinned (OpenSpec.ofChange faceTracesSpec)

/-- ITS FALSE NEIGHBOUR: 'it returns false'. Refute it at one input. -/
def faceTracesWrong : ChangeSpec := { name := "faceTraces", fn := fun _ => fun
  | [d1, d2, d3] => { results := [.lit (.bool false)], args := [d1, d2, d3] }
  | _ => none }
def FaceTracesWrongFalsely : Prop := faceTracesRow.holds Try.pinned (OpenSpec.ofChange faceTracesWrong)

/-- 'tracerylaw05.FaceOnce': WHATEVER THE INPUT: true; the input reads as it did. -/
def faceOnceSpec : ChangeSpec := { name := "faceOnce", fn := fun _ => fun
  | [d1, d2, d3] => { results := [.lit (.bool true)], args := [d1, d2, d3] }
  | _ => none }
def faceOnceRow : OpenClaim := { program := "ytpccjkabffpnhaa", sum := "d04d7a6c261d56dd69bd23bf4e5a145d1ba7cd1de8d002a594544a33f5178b53", func := "tracery/tracerylaw05.FaceOnce", spec := "faceOnce", unfollowed := true, recurses := true, plainKeys := false, apart := false }
def FaceOnceSaid : Prop := faceOnceRow.holds Try.pinned (OpenSpec.ofChange faceOnceSpec)

/-- ITS FALSE NEIGHBOUR: 'it returns false'. Refute it at one input. -/
def faceOnceWrong : ChangeSpec := { name := "faceOnce", fn := fun _ => fun
  | [d1, d2, d3] => { results := [.lit (.bool false)], args := [d1, d2, d3] }
  | _ => none }
def FaceOnceWrongFalsely : Prop := faceOnceRow.holds Try.pinned (OpenSpec.ofChange faceOnceWrong)

/-- 'tracerylaw05.FaceRound': WHATEVER THE INPUT: true; the input reads as it did. -/
def faceRoundSpec : ChangeSpec := { name := "faceRound", fn := fun _ => fun
  | [d1, d2] => { results := [.lit (.bool true)], args := [d1, d2] }
  | _ => none }
def faceRoundRow : OpenClaim := { program := "ytpccjkabffpnhaa", sum := "d04d7a6c261d56dd69bd23bf4e5a145d1ba7cd1de8d002a594544a33f5178b53", func := "tracery/tracerylaw05.FaceRound", spec := "faceRound", unfollowed := true, recurses := true, plainKeys := false, apart := false }
def FaceRoundSaid : Prop := faceRoundRow.holds Try.pinned (OpenSpec.ofChange faceRoundSpec)

/-- ITS FALSE NEIGHBOUR: 'it returns false'. Refute it at one input. -/
def faceRoundWrong : ChangeSpec := { name := "faceRound", fn := fun _ => fun
  | [d1, d2] => { results := [.lit (.bool false)], args := [d1, d2] }
  | _ => none }
def FaceRoundWrongFalsely : Prop := faceRoundRow.holds Try.pinned (OpenSpec.ofChange faceRoundWrong)

/-- 'tracerylaw05.FaceSides': WHATEVER THE INPUT: true; the input reads as it did. -/
def faceSidesSpec : ChangeSpec := { name := "faceSides", fn := fun _ => fun
  | [d1, d2, d3] => { results := [.lit (.bool true)], args := [d1, d2, d3] }
  | _ => none }
def faceSidesRow : OpenClaim := { program := "ytpccjkabffpnhaa", sum := "d04d7a6c261d56dd69bd23bf4e5a145d1ba7cd1de8d002a594544a33f5178b53", func := "tracery/tracerylaw05.FaceSides", spec := "faceSides", unfollowed := true, recurses := true, plainKeys := false, apart := false }
def FaceSidesSaid : Prop := faceSidesRow.holds Try.pinned (OpenSpec.ofChange faceSidesSpec)

/-- ITS FALSE NEIGHBOUR: 'it returns false'. Refute it at one input. -/
def faceSidesWrong : ChangeSpec := { name := "faceSides", fn := fun _ => fun
  | [d1, d2, d3] => { results := [.lit (.bool false)], args := [d1, d2, d3] }
  | _ => none }
def FaceSidesWrongFalsely : Prop := faceSidesRow.holds Try.pinned (OpenSpec.ofChange faceSidesWrong)

/- THE SECOND FORM. 'bulk': how many values and letters a reading holds, each counted each time it is reached (what is shared counts as often as it is met; a slice's spare places count too). A statement '..UptoSaid' is the law's where the arguments, and the package variables that the reading takes, are together of bulk at most 1048576: NARROWER than '..Said'. Prove '..Said' where nothing that the law and all that it calls make is longer than what came in: it says more and counts as full. Else prove '..UptoSaid'. A law counts once. -/
mutual
def uptoBulk {H : Type} : DataW H → Nat
  | .lit (.string bytes) => bytes.length + 1
  | .lit _ => 1
  | .nil => 1
  | .ptr d => uptoBulk d + 1
  | .slice elems spare => uptoBulkAll elems + uptoBulkAll spare + 1
  | .agg parts => uptoBulkAll parts + 1
  | .iface _ d => uptoBulk d + 1
  | .map entries => uptoBulkEntries entries + 1
  | .held _ => 1
def uptoBulkAll {H : Type} : List (DataW H) → Nat
  | [] => 0
  | d :: r => uptoBulk d + uptoBulkAll r
def uptoBulkEntries {H : Type} : List (Lit × DataW H) → Nat
  | [] => 0
  | x :: r => uptoBulkEntry x + uptoBulkEntries r
def uptoBulkEntry {H : Type} : Lit × DataW H → Nat
  | (.string bytes, d) => bytes.length + uptoBulk d + 1
  | (_, d) => uptoBulk d + 1
 end
def uptoSmall : (H : Type) → List (DataW H) → Bool := fun _ ds => decide (uptoBulkAll ds ≤ 1048576)
def OpenSpec.upto (s : _root_.Go.ChangeSpec) : _root_.Go.OpenSpec := { _root_.Go.OpenSpec.ofChange s with cond := some uptoSmall }

/-- 'tracerylaw05.FaceSteps', WHERE WHAT IT READS IS OF BULK AT MOST 1048576: true; the input reads as it did. -/
def faceStepsUptoRow : OpenClaim := { program := "ytpccjkabffpnhaa", sum := "d04d7a6c261d56dd69bd23bf4e5a145d1ba7cd1de8d002a594544a33f5178b53", func := "tracery/tracerylaw05.FaceSteps", spec := "faceSteps", unfollowed := true, recurses := true, plainKeys := false, apart := false, narrowed := true }
def FaceStepsUptoSaid : Prop := faceStepsUptoRow.holds Try.pinned (OpenSpec.upto faceStepsSpec)

/-- 'tracerylaw05.FaceMoves', WHERE WHAT IT READS IS OF BULK AT MOST 1048576: true; the input reads as it did. -/
def faceMovesUptoRow : OpenClaim := { program := "ytpccjkabffpnhaa", sum := "d04d7a6c261d56dd69bd23bf4e5a145d1ba7cd1de8d002a594544a33f5178b53", func := "tracery/tracerylaw05.FaceMoves", spec := "faceMoves", unfollowed := true, recurses := true, plainKeys := false, apart := false, narrowed := true }
def FaceMovesUptoSaid : Prop := faceMovesUptoRow.holds Try.pinned (OpenSpec.upto faceMovesSpec)

/-- 'tracerylaw05.FaceTraces', WHERE WHAT IT READS IS OF BULK AT MOST 1048576: true; the input reads as it did. -/
def faceTracesUptoRow : OpenClaim := { program := "ytpccjkabffpnhaa", sum := "d04d7a6c261d56dd69bd23bf4e5a145d1ba7cd1de8d002a594544a33f5178b53", func := "tracery/tracerylaw05.FaceTraces", spec := "faceTraces", unfollowed := true, recurses := true, plainKeys := false, apart := false, narrowed := true }
def FaceTracesUptoSaid : Prop := faceTracesUptoRow.holds Try.pinned (OpenSpec.upto faceTracesSpec)

/-- 'tracerylaw05.FaceOnce', WHERE WHAT IT READS IS OF BULK AT MOST 1048576: true; the input reads as it did. -/
def faceOnceUptoRow : OpenClaim := { program := "ytpccjkabffpnhaa", sum := "d04d7a6c261d56dd69bd23bf4e5a145d1ba7cd1de8d002a594544a33f5178b53", func := "tracery/tracerylaw05.FaceOnce", spec := "faceOnce", unfollowed := true, recurses := true, plainKeys := false, apart := false, narrowed := true }
def FaceOnceUptoSaid : Prop := faceOnceUptoRow.holds Try.pinned (OpenSpec.upto faceOnceSpec)

/-- 'tracerylaw05.FaceRound', WHERE WHAT IT READS IS OF BULK AT MOST 1048576: true; the input reads as it did. -/
def faceRoundUptoRow : OpenClaim := { program := "ytpccjkabffpnhaa", sum := "d04d7a6c261d56dd69bd23bf4e5a145d1ba7cd1de8d002a594544a33f5178b53", func := "tracery/tracerylaw05.FaceRound", spec := "faceRound", unfollowed := true, recurses := true, plainKeys := false, apart := false, narrowed := true }
def FaceRoundUptoSaid : Prop := faceRoundUptoRow.holds Try.pinned (OpenSpec.upto faceRoundSpec)

/-- 'tracerylaw05.FaceSides', WHERE WHAT IT READS IS OF BULK AT MOST 1048576: true; the input reads as it did. -/
def faceSidesUptoRow : OpenClaim := { program := "ytpccjkabffpnhaa", sum := "d04d7a6c261d56dd69bd23bf4e5a145d1ba7cd1de8d002a594544a33f5178b53", func := "tracery/tracerylaw05.FaceSides", spec := "faceSides", unfollowed := true, recurses := true, plainKeys := false, apart := false, narrowed := true }
def FaceSidesUptoSaid : Prop := faceSidesUptoRow.holds Try.pinned (OpenSpec.upto faceSidesSpec)

end Rows
end Go.Proofs.Ytpccjkabffpnhaa
