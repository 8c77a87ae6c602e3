/-
  No cell of these rows narrows 'for every input' (looked for: loops, veiled, ifaces, maps, wideKeys, modest, calm, conditions, laid).
  DERIVED. THE GIVEN ROWS OF THIS SEAT. 4 by the template 'for every input the law returns true; each argument reads behind the call as it read before'; 0 by the template 'total and deterministic' (their statements: YtjhbejlpmchhfaaTotals.lean).
  GIVEN WITH THE SEED: the statements are not yours to turn. If you find one false, say at which input.
  Laid BY PROGRAM, IN A SANDBOX (cutbox-rows.mjs): the forced cells as the released guide's own fill.sh prints them over the translation dede888e265ea77f… (all of the seat's roots in one cut). By AI agents, Wed Nov 11 2026. No macro, syntax, notation, axiom, sorry.
-/
import Derived.Test.YtjhbejlpmchhfaaChecked
import GoSem.Claim
import GoSem.ClaimJoined
import GoSem.ClaimMapViews
import Derived.JoinedTies
import Derived.KernelRfl
namespace Go.Proofs.Ytjhbejlpmchhfaa
/- THE CELL 'sum', in the pinned program and in every row, IS THE sha256 OF THE DUMP (.gsa) THAT YtjhbejlpmchhfaaProg.lean LOADS. Nothing in Lean hashes anything: it is a label: what it is worth is what the hold of that sum in a sandbox is worth. -/
noncomputable def Try.pinned : Pinned := { name := "ytjhbejlpmchhfaa", sum := "dede888e265ea77f3885fc1ac8c6eb4a42406d499cc096c01c96f72cfcd670aa", checked := Try.checked }
namespace Rows
def none {H : Type} : Left H := { results := [], args := [] }

/-- 'tracerylaw11.AnchorNear': WHATEVER THE INPUT: true; the input reads as it did. -/
def anchorNearSpec : ChangeSpec := { name := "anchorNear", fn := fun _ => fun
  | [d1, d2, d3] => { results := [.lit (.bool true)], args := [d1, d2, d3] }
  | _ => none }
def anchorNearRow : OpenClaim := { program := "ytjhbejlpmchhfaa", sum := "dede888e265ea77f3885fc1ac8c6eb4a42406d499cc096c01c96f72cfcd670aa", func := "tracery/tracerylaw11.AnchorNear", spec := "anchorNear", unfollowed := true, recurses := true, apart := false }
def AnchorNearSaid : Prop := anchorNearRow.holds Try.pinned (OpenSpec.ofChange anchorNearSpec)

/-- ITS FALSE NEIGHBOUR: 'it returns false'. Refute it at one input. -/
def anchorNearWrong : ChangeSpec := { name := "anchorNear", fn := fun _ => fun
  | [d1, d2, d3] => { results := [.lit (.bool false)], args := [d1, d2, d3] }
  | _ => none }
def AnchorNearWrongFalsely : Prop := anchorNearRow.holds Try.pinned (OpenSpec.ofChange anchorNearWrong)

/-- 'tracerylaw11.AnchorChains': WHATEVER THE INPUT: true; the input reads as it did. -/
def anchorChainsSpec : ChangeSpec := { name := "anchorChains", fn := fun _ => fun
  | [d1, d2, d3] => { results := [.lit (.bool true)], args := [d1, d2, d3] }
  | _ => none }
def anchorChainsRow : OpenClaim := { program := "ytjhbejlpmchhfaa", sum := "dede888e265ea77f3885fc1ac8c6eb4a42406d499cc096c01c96f72cfcd670aa", func := "tracery/tracerylaw11.AnchorChains", spec := "anchorChains", unfollowed := true, recurses := true, apart := false }
def AnchorChainsSaid : Prop := anchorChainsRow.holds Try.pinned (OpenSpec.ofChange anchorChainsSpec)

/-- ITS FALSE NEIGHBOUR: 'it returns false'. Refute it at one input. -/
def anchorChainsWrong : ChangeSpec := { name := "anchorChains", fn := fun _ => fun
  | [d1, d2, d3] => { results := [.lit (.bool false)], args := [d1, d2, d3] }
  | _ => none }
def AnchorChainsWrongFalsely : Prop := anchorChainsRow.holds Try.pinned (OpenSpec.ofChange anchorChainsWrong)

/-- 'tracerylaw11.AnchorAdds': WHATEVER THE INPUT: true; the input reads as it did. -/
def anchorAddsSpec : ChangeSpec := { name := "anchorAdds", fn := fun _ => fun
  | [d] => { results := [.lit (.bool true)], args := [d] }
  | _ => none }
def anchorAddsRow : OpenClaim := { program := "ytjhbejlpmchhfaa", sum := "dede888e265ea77f3885fc1ac8c6eb4a42406d499cc096c01c96f72cfcd670aa", func := "tracery/tracerylaw11.AnchorAdds", spec := "anchorAdds", inPlace := ["slices.overlaps[tracery/api.Gone]"], unfollowed := true, recurses := true, apart := false }
def AnchorAddsSaid : Prop := anchorAddsRow.holds Try.pinned (OpenSpec.ofChange anchorAddsSpec)

/-- ITS FALSE NEIGHBOUR: 'it returns false'. Refute it at one input. -/
def anchorAddsWrong : ChangeSpec := { name := "anchorAdds", fn := fun _ => fun
  | [d] => { results := [.lit (.bool false)], args := [d] }
  | _ => none }
def AnchorAddsWrongFalsely : Prop := anchorAddsRow.holds Try.pinned (OpenSpec.ofChange anchorAddsWrong)

/-- 'tracerylaw11.AnchorStays': WHATEVER THE INPUT: true; the input reads as it did. -/
def anchorStaysSpec : ChangeSpec := { name := "anchorStays", fn := fun _ => fun
  | [d1, d2, d3] => { results := [.lit (.bool true)], args := [d1, d2, d3] }
  | _ => none }
def anchorStaysRow : OpenClaim := { program := "ytjhbejlpmchhfaa", sum := "dede888e265ea77f3885fc1ac8c6eb4a42406d499cc096c01c96f72cfcd670aa", func := "tracery/tracerylaw11.AnchorStays", spec := "anchorStays", inPlace := ["slices.overlaps[tracery/api.Gone]"], unfollowed := true, recurses := true, apart := false }
def AnchorStaysSaid : Prop := anchorStaysRow.holds Try.pinned (OpenSpec.ofChange anchorStaysSpec)

/-- ITS FALSE NEIGHBOUR: 'it returns false'. Refute it at one input. -/
def anchorStaysWrong : ChangeSpec := { name := "anchorStays", fn := fun _ => fun
  | [d1, d2, d3] => { results := [.lit (.bool false)], args := [d1, d2, d3] }
  | _ => none }
def AnchorStaysWrongFalsely : Prop := anchorStaysRow.holds Try.pinned (OpenSpec.ofChange anchorStaysWrong)

/- THE SECOND FORM. 'bulk': how many values and letters a reading holds, each counted each time it is reached (what is shared counts as often as it is met; a slice's spare places count too). A statement '..UptoSaid' is the law's where the arguments, and the package variables that the reading takes, are together of bulk at most 1048576: NARROWER than '..Said'. Prove '..Said' where nothing that the law and all that it calls make is longer than what came in: it says more and counts as full. Else prove '..UptoSaid'. A law counts once. -/
mutual
def uptoBulk {H : Type} : DataW H → Nat
  | .lit (.string bytes) => bytes.length + 1
  | .lit _ => 1
  | .nil => 1
  | .ptr d => uptoBulk d + 1
  | .slice elems spare => uptoBulkAll elems + uptoBulkAll spare + 1
  | .agg parts => uptoBulkAll parts + 1
  | .iface _ d => uptoBulk d + 1
  | .map entries => uptoBulkEntries entries + 1
  | .held _ => 1
def uptoBulkAll {H : Type} : List (DataW H) → Nat
  | [] => 0
  | d :: r => uptoBulk d + uptoBulkAll r
def uptoBulkEntries {H : Type} : List (Lit × DataW H) → Nat
  | [] => 0
  | x :: r => uptoBulkEntry x + uptoBulkEntries r
def uptoBulkEntry {H : Type} : Lit × DataW H → Nat
  | (.string bytes, d) => bytes.length + uptoBulk d + 1
  | (_, d) => uptoBulk d + 1
 end
def uptoSmall : (H : Type) → List (DataW H) → Bool := fun _ ds => decide (uptoBulkAll ds ≤ 1048576)
def OpenSpec.upto (s : _root_.Go.ChangeSpec) : _root_.Go.OpenSpec := { _root_.Go.OpenSpec.ofChange s with cond := some uptoSmall }

/-- 'tracerylaw11.AnchorNear', WHERE WHAT IT READS IS OF BULK AT MOST 1048576: true; the input reads as it did. -/
def anchorNearUptoRow : OpenClaim := { program := "ytjhbejlpmchhfaa", sum := "dede888e265ea77f3885fc1ac8c6eb4a42406d499cc096c01c96f72cfcd670aa", func := "tracery/tracerylaw11.AnchorNear", spec := "anchorNear", unfollowed := true, recurses := true, apart := false, narrowed := true }
def AnchorNearUptoSaid : Prop := anchorNearUptoRow.holds Try.pinned (OpenSpec.upto anchorNearSpec)

/-- 'tracerylaw11.AnchorChains', WHERE WHAT IT READS IS OF BULK AT MOST 1048576: true; the input reads as it did. -/
def anchorChainsUptoRow : OpenClaim := { program := "ytjhbejlpmchhfaa", sum := "dede888e265ea77f3885fc1ac8c6eb4a42406d499cc096c01c96f72cfcd670aa", func := "tracery/tracerylaw11.AnchorChains", spec := "anchorChains", unfollowed := true, recurses := true, apart := false, narrowed := true }
def AnchorChainsUptoSaid : Prop := anchorChainsUptoRow.holds Try.pinned (OpenSpec.upto anchorChainsSpec)

/-- 'tracerylaw11.AnchorAdds', WHERE WHAT IT READS IS OF BULK AT MOST 1048576: true; the input reads as it did. -/
def anchorAddsUptoRow : OpenClaim := { program := "ytjhbejlpmchhfaa", sum := "dede888e265ea77f3885fc1ac8c6eb4a42406d499cc096c01c96f72cfcd670aa", func := "tracery/tracerylaw11.AnchorAdds", spec := "anchorAdds", inPlace := ["slices.overlaps[tracery/api.Gone]"], unfollowed := true, recurses := true, apart := false, narrowed := true }
def AnchorAddsUptoSaid : Prop := anchorAddsUptoRow.holds Try.pinned (OpenSpec.upto anchorAddsSpec)

/-- 'tracerylaw11.AnchorStays', WHERE WHAT IT READS IS OF BULK AT MOST 1048576: true; the input reads as it did. -/
def anchorStaysUptoRow : OpenClaim := { program := "ytjhbejlpmchhfaa", sum := "dede888e265ea77f3885fc1ac8c6eb4a42406d499cc096c01c96f72cfcd670aa", func := "tracery/tracerylaw11.AnchorStays", spec := "anchorStays", inPlace := ["slices.overlaps[tracery/api.Gone]"], unfollowed := true, recurses := true, apart := false, narrowed := true }
def AnchorStaysUptoSaid : Prop := anchorStaysUptoRow.holds Try.pinned (OpenSpec.upto anchorStaysSpec)

end Rows
end Go.Proofs.Ytjhbejlpmchhfaa
