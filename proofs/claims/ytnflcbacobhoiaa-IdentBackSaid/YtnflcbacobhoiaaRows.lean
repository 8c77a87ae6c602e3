/-
  No cell of these rows narrows 'for every input' (looked for: loops, veiled, ifaces, maps, wideKeys, modest, calm, conditions, laid).
  DERIVED. THE GIVEN ROWS OF THIS SEAT. 6 by the template 'for every input the law returns true; each argument reads behind the call as it read before'; 0 by the template 'total and deterministic' (their statements: YtnflcbacobhoiaaTotals.lean).
  GIVEN WITH THE SEED: the statements are not yours to turn. If you find one false, say at which input.
  Laid BY PROGRAM, IN A SANDBOX (cutbox-rows.mjs): the forced cells as the released guide's own fill.sh prints them over the translation d0e45507cd8ab8e4… (all of the seat's roots in one cut). By AI agents, Wed Nov 11 2026. No macro, syntax, notation, axiom, sorry.
-/
import Derived.Test.YtnflcbacobhoiaaChecked
import GoSem.Claim
import GoSem.ClaimJoined
import GoSem.ClaimMapViews
import Derived.JoinedTies
import Derived.KernelRfl
namespace Go.Proofs.Ytnflcbacobhoiaa
/- THE CELL 'sum', in the pinned program and in every row, IS THE sha256 OF THE DUMP (.gsa) THAT YtnflcbacobhoiaaProg.lean LOADS. Nothing in Lean hashes anything: it is a label: what it is worth is what the hold of that sum in a sandbox is worth. -/
noncomputable def Try.pinned : Pinned := { name := "ytnflcbacobhoiaa", sum := "d0e45507cd8ab8e4cee58e7803a0f5fce19c4fb351a479a639ea45dbac10e0d5", checked := Try.checked }
namespace Rows
def none {H : Type} : Left H := { results := [], args := [] }

/-- 'tracerylaw01.IdentNexts': WHATEVER THE INPUT: true; the input reads as it did. -/
def identNextsSpec : ChangeSpec := { name := "identNexts", fn := fun _ => fun
  | [d] => { results := [.lit (.bool true)], args := [d] }
  | _ => none }
def identNextsRow : OpenClaim := { program := "ytnflcbacobhoiaa", sum := "d0e45507cd8ab8e4cee58e7803a0f5fce19c4fb351a479a639ea45dbac10e0d5", func := "tracery/tracerylaw01.IdentNexts", spec := "identNexts", apart := false }
def IdentNextsSaid : Prop := identNextsRow.holds Try.pinned (OpenSpec.ofChange identNextsSpec)

/-- ITS FALSE NEIGHBOUR: 'it returns false'. Refute it at one input. -/
def identNextsWrong : ChangeSpec := { name := "identNexts", fn := fun _ => fun
  | [d] => { results := [.lit (.bool false)], args := [d] }
  | _ => none }
def IdentNextsWrongFalsely : Prop := identNextsRow.holds Try.pinned (OpenSpec.ofChange identNextsWrong)

/-- 'tracerylaw01.IdentBytes': WHATEVER THE INPUT: true; the input reads as it did. -/
def identBytesSpec : ChangeSpec := { name := "identBytes", fn := fun _ => fun
  | [d1, d2, d3] => { results := [.lit (.bool true)], args := [d1, d2, d3] }
  | _ => none }
def identBytesRow : OpenClaim := { program := "ytnflcbacobhoiaa", sum := "d0e45507cd8ab8e4cee58e7803a0f5fce19c4fb351a479a639ea45dbac10e0d5", func := "tracery/tracerylaw01.IdentBytes", spec := "identBytes", apart := false }
def IdentBytesSaid : Prop := identBytesRow.holds Try.pinned (OpenSpec.ofChange identBytesSpec)

/-- ITS FALSE NEIGHBOUR: 'it returns false'. Refute it at one input. -/
def identBytesWrong : ChangeSpec := { name := "identBytes", fn := fun _ => fun
  | [d1, d2, d3] => { results := [.lit (.bool false)], args := [d1, d2, d3] }
  | _ => none }
def IdentBytesWrongFalsely : Prop := identBytesRow.holds Try.pinned (OpenSpec.ofChange identBytesWrong)

/-- 'tracerylaw01.IdentOrder': WHATEVER THE INPUT: true; the input reads as it did. -/
def identOrderSpec : ChangeSpec := { name := "identOrder", fn := fun _ => fun
  | [d1, d2] => { results := [.lit (.bool true)], args := [d1, d2] }
  | _ => none }
def identOrderRow : OpenClaim := { program := "ytnflcbacobhoiaa", sum := "d0e45507cd8ab8e4cee58e7803a0f5fce19c4fb351a479a639ea45dbac10e0d5", func := "tracery/tracerylaw01.IdentOrder", spec := "identOrder", apart := false }
def IdentOrderSaid : Prop := identOrderRow.holds Try.pinned (OpenSpec.ofChange identOrderSpec)

/-- ITS FALSE NEIGHBOUR: 'it returns false'. Refute it at one input. -/
def identOrderWrong : ChangeSpec := { name := "identOrder", fn := fun _ => fun
  | [d1, d2] => { results := [.lit (.bool false)], args := [d1, d2] }
  | _ => none }
def IdentOrderWrongFalsely : Prop := identOrderRow.holds Try.pinned (OpenSpec.ofChange identOrderWrong)

/-- 'tracerylaw01.IdentNames': WHATEVER THE INPUT: true; the input reads as it did. -/
def identNamesSpec : ChangeSpec := { name := "identNames", fn := fun _ => fun
  | [d1, d2, d3] => { results := [.lit (.bool true)], args := [d1, d2, d3] }
  | _ => none }
def identNamesRow : OpenClaim := { program := "ytnflcbacobhoiaa", sum := "d0e45507cd8ab8e4cee58e7803a0f5fce19c4fb351a479a639ea45dbac10e0d5", func := "tracery/tracerylaw01.IdentNames", spec := "identNames", apart := false }
def IdentNamesSaid : Prop := identNamesRow.holds Try.pinned (OpenSpec.ofChange identNamesSpec)

/-- ITS FALSE NEIGHBOUR: 'it returns false'. Refute it at one input. -/
def identNamesWrong : ChangeSpec := { name := "identNames", fn := fun _ => fun
  | [d1, d2, d3] => { results := [.lit (.bool false)], args := [d1, d2, d3] }
  | _ => none }
def IdentNamesWrongFalsely : Prop := identNamesRow.holds Try.pinned (OpenSpec.ofChange identNamesWrong)

/-- 'tracerylaw01.IdentDarts': WHATEVER THE INPUT: true; the input reads as it did. -/
def identDartsSpec : ChangeSpec := { name := "identDarts", fn := fun _ => fun
  | [d1, d2] => { results := [.lit (.bool true)], args := [d1, d2] }
  | _ => none }
def identDartsRow : OpenClaim := { program := "ytnflcbacobhoiaa", sum := "d0e45507cd8ab8e4cee58e7803a0f5fce19c4fb351a479a639ea45dbac10e0d5", func := "tracery/tracerylaw01.IdentDarts", spec := "identDarts", apart := false }
def IdentDartsSaid : Prop := identDartsRow.holds Try.pinned (OpenSpec.ofChange identDartsSpec)

/-- ITS FALSE NEIGHBOUR: 'it returns false'. Refute it at one input. -/
def identDartsWrong : ChangeSpec := { name := "identDarts", fn := fun _ => fun
  | [d1, d2] => { results := [.lit (.bool false)], args := [d1, d2] }
  | _ => none }
def IdentDartsWrongFalsely : Prop := identDartsRow.holds Try.pinned (OpenSpec.ofChange identDartsWrong)

/-- 'tracerylaw01.IdentBack': WHATEVER THE INPUT: true; the input reads as it did. -/
def identBackSpec : ChangeSpec := { name := "identBack", fn := fun _ => fun
  | [d1, d2, d3] => { results := [.lit (.bool true)], args := [d1, d2, d3] }
  | _ => none }
def identBackRow : OpenClaim := { program := "ytnflcbacobhoiaa", sum := "d0e45507cd8ab8e4cee58e7803a0f5fce19c4fb351a479a639ea45dbac10e0d5", func := "tracery/tracerylaw01.IdentBack", spec := "identBack", apart := false }
def IdentBackSaid : Prop := identBackRow.holds Try.pinned (OpenSpec.ofChange identBackSpec)

/-- ITS FALSE NEIGHBOUR: 'it returns false'. Refute it at one input. -/
def identBackWrong : ChangeSpec := { name := "identBack", fn := fun _ => fun
  | [d1, d2, d3] => { results := [.lit (.bool false)], args := [d1, d2, d3] }
  | _ => none }
def IdentBackWrongFalsely : Prop := identBackRow.holds Try.pinned (OpenSpec.ofChange identBackWrong)

/- THE SECOND FORM. 'bulk': how many values and letters a reading holds, each counted each time it is reached (what is shared counts as often as it is met; a slice's spare places count too). A statement '..UptoSaid' is the law's where the arguments, and the package variables that the reading takes, are together of bulk at most 1048576: NARROWER than '..Said'. Prove '..Said' where nothing that the law and all that it calls make is longer than what came in: it says more and counts as full. Else prove '..UptoSaid'. A law counts once. -/
mutual
def uptoBulk {H : Type} : DataW H → Nat
  | .lit (.string bytes) => bytes.length + 1
  | .lit _ => 1
  | .nil => 1
  | .ptr d => uptoBulk d + 1
  | .slice elems spare => uptoBulkAll elems + uptoBulkAll spare + 1
  | .agg parts => uptoBulkAll parts + 1
  | .iface _ d => uptoBulk d + 1
  | .map entries => uptoBulkEntries entries + 1
  | .held _ => 1
def uptoBulkAll {H : Type} : List (DataW H) → Nat
  | [] => 0
  | d :: r => uptoBulk d + uptoBulkAll r
def uptoBulkEntries {H : Type} : List (Lit × DataW H) → Nat
  | [] => 0
  | x :: r => uptoBulkEntry x + uptoBulkEntries r
def uptoBulkEntry {H : Type} : Lit × DataW H → Nat
  | (.string bytes, d) => bytes.length + uptoBulk d + 1
  | (_, d) => uptoBulk d + 1
 end
def uptoSmall : (H : Type) → List (DataW H) → Bool := fun _ ds => decide (uptoBulkAll ds ≤ 1048576)
def OpenSpec.upto (s : _root_.Go.ChangeSpec) : _root_.Go.OpenSpec := { _root_.Go.OpenSpec.ofChange s with cond := some uptoSmall }

/-- 'tracerylaw01.IdentNexts', WHERE WHAT IT READS IS OF BULK AT MOST 1048576: true; the input reads as it did. -/
def identNextsUptoRow : OpenClaim := { program := "ytnflcbacobhoiaa", sum := "d0e45507cd8ab8e4cee58e7803a0f5fce19c4fb351a479a639ea45dbac10e0d5", func := "tracery/tracerylaw01.IdentNexts", spec := "identNexts", apart := false, narrowed := true }
def IdentNextsUptoSaid : Prop := identNextsUptoRow.holds Try.pinned (OpenSpec.upto identNextsSpec)

/-- 'tracerylaw01.IdentBytes', WHERE WHAT IT READS IS OF BULK AT MOST 1048576: true; the input reads as it did. -/
def identBytesUptoRow : OpenClaim := { program := "ytnflcbacobhoiaa", sum := "d0e45507cd8ab8e4cee58e7803a0f5fce19c4fb351a479a639ea45dbac10e0d5", func := "tracery/tracerylaw01.IdentBytes", spec := "identBytes", apart := false, narrowed := true }
def IdentBytesUptoSaid : Prop := identBytesUptoRow.holds Try.pinned (OpenSpec.upto identBytesSpec)

/-- 'tracerylaw01.IdentOrder', WHERE WHAT IT READS IS OF BULK AT MOST 1048576: true; the input reads as it did. -/
def identOrderUptoRow : OpenClaim := { program := "ytnflcbacobhoiaa", sum := "d0e45507cd8ab8e4cee58e7803a0f5fce19c4fb351a479a639ea45dbac10e0d5", func := "tracery/tracerylaw01.IdentOrder", spec := "identOrder", apart := false, narrowed := true }
def IdentOrderUptoSaid : Prop := identOrderUptoRow.holds Try.pinned (OpenSpec.upto identOrderSpec)

/-- 'tracerylaw01.IdentNames', WHERE WHAT IT READS IS OF BULK AT MOST 1048576: true; the input reads as it did. -/
def identNamesUptoRow : OpenClaim := { program := "ytnflcbacobhoiaa", sum := "d0e45507cd8ab8e4cee58e7803a0f5fce19c4fb351a479a639ea45dbac10e0d5", func := "tracery/tracerylaw01.IdentNames", spec := "identNames", apart := false, narrowed := true }
def IdentNamesUptoSaid : Prop := identNamesUptoRow.holds Try.pinned (OpenSpec.upto identNamesSpec)

/-- 'tracerylaw01.IdentDarts', WHERE WHAT IT READS IS OF BULK AT MOST 1048576: true; the input reads as it did. -/
def identDartsUptoRow : OpenClaim := { program := "ytnflcbacobhoiaa", sum := "d0e45507cd8ab8e4cee58e7803a0f5fce19c4fb351a479a639ea45dbac10e0d5", func := "tracery/tracerylaw01.IdentDarts", spec := "identDarts", apart := false, narrowed := true }
def IdentDartsUptoSaid : Prop := identDartsUptoRow.holds Try.pinned (OpenSpec.upto identDartsSpec)

/-- 'tracerylaw01.IdentBack', WHERE WHAT IT READS IS OF BULK AT MOST 1048576: true; the input reads as it did. -/
def identBackUptoRow : OpenClaim := { program := "ytnflcbacobhoiaa", sum := "d0e45507cd8ab8e4cee58e7803a0f5fce19c4fb351a479a639ea45dbac10e0d5", func := "tracery/tracerylaw01.IdentBack", spec := "identBack", apart := false, narrowed := true }
def IdentBackUptoSaid : Prop := identBackUptoRow.holds Try.pinned (OpenSpec.upto identBackSpec)

end Rows
end Go.Proofs.Ytnflcbacobhoiaa
