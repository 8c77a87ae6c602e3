/-
  No cell of these rows narrows 'for every input' (looked for: loops, veiled, ifaces, maps, wideKeys, modest, calm, conditions, laid).
  DERIVED. THE GIVEN ROWS OF THIS SEAT. 5 by the template 'for every input the law returns true; each argument reads behind the call as it read before'; 0 by the template 'total and deterministic' (their statements: YtkliiknolnodjaaTotals.lean).
  GIVEN WITH THE SEED: the statements are not yours to turn. If you find one false, say at which input.
  Laid BY PROGRAM, IN A SANDBOX (cutbox-rows.mjs): the forced cells as the released guide's own fill.sh prints them over the translation de2cfb7f6fe149e7… (all of the seat's roots in one cut). By AI agents, Wed Nov 11 2026. No macro, syntax, notation, axiom, sorry.
-/
import Derived.Test.YtkliiknolnodjaaChecked
import GoSem.Claim
import GoSem.ClaimJoined
import GoSem.ClaimMapViews
import Derived.JoinedTies
import Derived.KernelRfl
namespace Go.Proofs.Ytkliiknolnodjaa
/- THE CELL 'sum', in the pinned program and in every row, IS THE sha256 OF THE DUMP (.gsa) THAT YtkliiknolnodjaaProg.lean LOADS. Nothing in Lean hashes anything: it is a label: what it is worth is what the hold of that sum in a sandbox is worth. -/
noncomputable def Try.pinned : Pinned := { name := "ytkliiknolnodjaa", sum := "de2cfb7f6fe149e7c50a7ee9daac30edd45e6238f9b72c8c2e177310ad69af83", checked := Try.checked }
namespace Rows
def none {H : Type} : Left H := { results := [], args := [] }

/-- 'tracerylaw17.ReceiverTurns': WHATEVER THE INPUT: true; the input reads as it did. -/
def receiverTurnsSpec : ChangeSpec := { name := "receiverTurns", fn := fun _ => fun
  | [d1, d2] => { results := [.lit (.bool true)], args := [d1, d2] }
  | _ => none }
def receiverTurnsRow : OpenClaim := { program := "ytkliiknolnodjaa", sum := "de2cfb7f6fe149e7c50a7ee9daac30edd45e6238f9b72c8c2e177310ad69af83", func := "tracery/tracerylaw17.ReceiverTurns", spec := "receiverTurns", unfollowed := true, recurses := true, apart := false }
def ReceiverTurnsSaid : Prop := receiverTurnsRow.holds Try.pinned (OpenSpec.ofChange receiverTurnsSpec)

/-- ITS FALSE NEIGHBOUR: 'it returns false'. Refute it at one input. -/
def receiverTurnsWrong : ChangeSpec := { name := "receiverTurns", fn := fun _ => fun
  | [d1, d2] => { results := [.lit (.bool false)], args := [d1, d2] }
  | _ => none }
def ReceiverTurnsWrongFalsely : Prop := receiverTurnsRow.holds Try.pinned (OpenSpec.ofChange receiverTurnsWrong)

/-- 'tracerylaw17.ReceiverPairs': WHATEVER THE INPUT: true; the input reads as it did. -/
def receiverPairsSpec : ChangeSpec := { name := "receiverPairs", fn := fun _ => fun
  | [d1, d2] => { results := [.lit (.bool true)], args := [d1, d2] }
  | _ => none }
def receiverPairsRow : OpenClaim := { program := "ytkliiknolnodjaa", sum := "de2cfb7f6fe149e7c50a7ee9daac30edd45e6238f9b72c8c2e177310ad69af83", func := "tracery/tracerylaw17.ReceiverPairs", spec := "receiverPairs", unfollowed := true, recurses := true, apart := false }
def ReceiverPairsSaid : Prop := receiverPairsRow.holds Try.pinned (OpenSpec.ofChange receiverPairsSpec)

/-- ITS FALSE NEIGHBOUR: 'it returns false'. Refute it at one input. -/
def receiverPairsWrong : ChangeSpec := { name := "receiverPairs", fn := fun _ => fun
  | [d1, d2] => { results := [.lit (.bool false)], args := [d1, d2] }
  | _ => none }
def ReceiverPairsWrongFalsely : Prop := receiverPairsRow.holds Try.pinned (OpenSpec.ofChange receiverPairsWrong)

/-- 'tracerylaw17.ReceiverBounds': WHATEVER THE INPUT: true; the input reads as it did. -/
def receiverBoundsSpec : ChangeSpec := { name := "receiverBounds", fn := fun _ => fun
  | [d1, d2] => { results := [.lit (.bool true)], args := [d1, d2] }
  | _ => none }
def receiverBoundsRow : OpenClaim := { program := "ytkliiknolnodjaa", sum := "de2cfb7f6fe149e7c50a7ee9daac30edd45e6238f9b72c8c2e177310ad69af83", func := "tracery/tracerylaw17.ReceiverBounds", spec := "receiverBounds", unfollowed := true, recurses := true, apart := false }
def ReceiverBoundsSaid : Prop := receiverBoundsRow.holds Try.pinned (OpenSpec.ofChange receiverBoundsSpec)

/-- ITS FALSE NEIGHBOUR: 'it returns false'. Refute it at one input. -/
def receiverBoundsWrong : ChangeSpec := { name := "receiverBounds", fn := fun _ => fun
  | [d1, d2] => { results := [.lit (.bool false)], args := [d1, d2] }
  | _ => none }
def ReceiverBoundsWrongFalsely : Prop := receiverBoundsRow.holds Try.pinned (OpenSpec.ofChange receiverBoundsWrong)

/-- 'tracerylaw17.ReceiverPlays': WHATEVER THE INPUT: true; the input reads as it did. -/
def receiverPlaysSpec : ChangeSpec := { name := "receiverPlays", fn := fun _ => fun
  | [d1, d2] => { results := [.lit (.bool true)], args := [d1, d2] }
  | _ => none }
def receiverPlaysRow : OpenClaim := { program := "ytkliiknolnodjaa", sum := "de2cfb7f6fe149e7c50a7ee9daac30edd45e6238f9b72c8c2e177310ad69af83", func := "tracery/tracerylaw17.ReceiverPlays", spec := "receiverPlays", inPlace := ["maps.clone"], unfollowed := true, recurses := true, apart := false }
def ReceiverPlaysSaid : Prop := receiverPlaysRow.holds Try.pinned (OpenSpec.ofChange receiverPlaysSpec)

/-- ITS FALSE NEIGHBOUR: 'it returns false'. Refute it at one input. -/
def receiverPlaysWrong : ChangeSpec := { name := "receiverPlays", fn := fun _ => fun
  | [d1, d2] => { results := [.lit (.bool false)], args := [d1, d2] }
  | _ => none }
def ReceiverPlaysWrongFalsely : Prop := receiverPlaysRow.holds Try.pinned (OpenSpec.ofChange receiverPlaysWrong)

/-- 'tracerylaw17.ReceiverCopies': WHATEVER THE INPUT: true; the input reads as it did. -/
def receiverCopiesSpec : ChangeSpec := { name := "receiverCopies", fn := fun _ => fun
  | [d1, d2] => { results := [.lit (.bool true)], args := [d1, d2] }
  | _ => none }
def receiverCopiesRow : OpenClaim := { program := "ytkliiknolnodjaa", sum := "de2cfb7f6fe149e7c50a7ee9daac30edd45e6238f9b72c8c2e177310ad69af83", func := "tracery/tracerylaw17.ReceiverCopies", spec := "receiverCopies", inPlace := ["maps.clone"], unfollowed := true, recurses := true, apart := false }
def ReceiverCopiesSaid : Prop := receiverCopiesRow.holds Try.pinned (OpenSpec.ofChange receiverCopiesSpec)

/-- ITS FALSE NEIGHBOUR: 'it returns false'. Refute it at one input. -/
def receiverCopiesWrong : ChangeSpec := { name := "receiverCopies", fn := fun _ => fun
  | [d1, d2] => { results := [.lit (.bool false)], args := [d1, d2] }
  | _ => none }
def ReceiverCopiesWrongFalsely : Prop := receiverCopiesRow.holds Try.pinned (OpenSpec.ofChange receiverCopiesWrong)

/- THE SECOND FORM. 'bulk': how many values and letters a reading holds, each counted each time it is reached (what is shared counts as often as it is met; a slice's spare places count too). A statement '..UptoSaid' is the law's where the arguments, and the package variables that the reading takes, are together of bulk at most 1048576: NARROWER than '..Said'. Prove '..Said' where nothing that the law and all that it calls make is longer than what came in: it says more and counts as full. Else prove '..UptoSaid'. A law counts once. -/
mutual
def uptoBulk {H : Type} : DataW H → Nat
  | .lit (.string bytes) => bytes.length + 1
  | .lit _ => 1
  | .nil => 1
  | .ptr d => uptoBulk d + 1
  | .slice elems spare => uptoBulkAll elems + uptoBulkAll spare + 1
  | .agg parts => uptoBulkAll parts + 1
  | .iface _ d => uptoBulk d + 1
  | .map entries => uptoBulkEntries entries + 1
  | .held _ => 1
def uptoBulkAll {H : Type} : List (DataW H) → Nat
  | [] => 0
  | d :: r => uptoBulk d + uptoBulkAll r
def uptoBulkEntries {H : Type} : List (Lit × DataW H) → Nat
  | [] => 0
  | x :: r => uptoBulkEntry x + uptoBulkEntries r
def uptoBulkEntry {H : Type} : Lit × DataW H → Nat
  | (.string bytes, d) => bytes.length + uptoBulk d + 1
  | (_, d) => uptoBulk d + 1
 end
def uptoSmall : (H : Type) → List (DataW H) → Bool := fun _ ds => decide (uptoBulkAll ds ≤ 1048576)
def OpenSpec.upto (s : _root_.Go.ChangeSpec) : _root_.Go.OpenSpec := { _root_.Go.OpenSpec.ofChange s with cond := some uptoSmall }

/-- 'tracerylaw17.ReceiverTurns', WHERE WHAT IT READS IS OF BULK AT MOST 1048576: true; the input reads as it did. -/
def receiverTurnsUptoRow : OpenClaim := { program := "ytkliiknolnodjaa", sum := "de2cfb7f6fe149e7c50a7ee9daac30edd45e6238f9b72c8c2e177310ad69af83", func := "tracery/tracerylaw17.ReceiverTurns", spec := "receiverTurns", unfollowed := true, recurses := true, apart := false, narrowed := true }
def ReceiverTurnsUptoSaid : Prop := receiverTurnsUptoRow.holds Try.pinned (OpenSpec.upto receiverTurnsSpec)

/-- 'tracerylaw17.ReceiverPairs', WHERE WHAT IT READS IS OF BULK AT MOST 1048576: true; the input reads as it did. -/
def receiverPairsUptoRow : OpenClaim := { program := "ytkliiknolnodjaa", sum := "de2cfb7f6fe149e7c50a7ee9daac30edd45e6238f9b72c8c2e177310ad69af83", func := "tracery/tracerylaw17.ReceiverPairs", spec := "receiverPairs", unfollowed := true, recurses := true, apart := false, narrowed := true }
def ReceiverPairsUptoSaid : Prop := receiverPairsUptoRow.holds Try.pinned (OpenSpec.upto receiverPairsSpec)

/-- 'tracerylaw17.ReceiverBounds', WHERE WHAT IT READS IS OF BULK AT MOST 1048576: true; the input reads as it did. -/
def receiverBoundsUptoRow : OpenClaim := { program := "ytkliiknolnodjaa", sum := "de2cfb7f6fe149e7c50a7ee9daac30edd45e6238f9b72c8c2e177310ad69af83", func := "tracery/tracerylaw17.ReceiverBounds", spec := "receiverBounds", unfollowed := true, recurses := true, apart := false, narrowed := true }
def ReceiverBoundsUptoSaid : Prop := receiverBoundsUptoRow.holds Try.pinned (OpenSpec.upto receiverBoundsSpec)

/-- 'tracerylaw17.ReceiverPlays', WHERE WHAT IT READS IS OF BULK AT MOST 1048576: true; the input reads as it did. -/
def receiverPlaysUptoRow : OpenClaim := { program := "ytkliiknolnodjaa", sum := "de2cfb7f6fe149e7c50a7ee9daac30edd45e6238f9b72c8c2e177310ad69af83", func := "tracery/tracerylaw17.ReceiverPlays", spec := "receiverPlays", inPlace := ["maps.clone"], unfollowed := true, recurses := true, apart := false, narrowed := true }
def ReceiverPlaysUptoSaid : Prop := receiverPlaysUptoRow.holds Try.pinned (OpenSpec.upto receiverPlaysSpec)

/-- 'tracerylaw17.ReceiverCopies', WHERE WHAT IT READS IS OF BULK AT MOST 1048576: true; the input reads as it did. -/
def receiverCopiesUptoRow : OpenClaim := { program := "ytkliiknolnodjaa", sum := "de2cfb7f6fe149e7c50a7ee9daac30edd45e6238f9b72c8c2e177310ad69af83", func := "tracery/tracerylaw17.ReceiverCopies", spec := "receiverCopies", inPlace := ["maps.clone"], unfollowed := true, recurses := true, apart := false, narrowed := true }
def ReceiverCopiesUptoSaid : Prop := receiverCopiesUptoRow.holds Try.pinned (OpenSpec.upto receiverCopiesSpec)

end Rows
end Go.Proofs.Ytkliiknolnodjaa
