/- Functions of the library that are known by a contract of the kit. -/
import Derived.Test.YtjhbejlpmchhfaaSxClone
import Derived.Test.YtjhbejlpmchhfaaChecked
namespace Go.Proofs.Ytjhbejlpmchhfaa
open Go Go.Shelf
shelf_lay_g SlLaysE0.n41 Slgn 41 at Try 29 as Try.clone29
noncomputable def Try.cloneI29 : TypeInfo := (Try.prog.info? 55).get (by kernel_rfl)
shelf_lay_g SlLaysE0.n41 Slgn 41 at Try 34 as Try.clone34
noncomputable def Try.cloneI34 : TypeInfo := (Try.prog.info? 32).get (by kernel_rfl)
namespace Sx
theorem clone29_ok : EntOK Try.prog 29 (.ext (cloneG 55 6 48)) :=
  clone_ok Try.clone29 Try.cloneI29 (.agg #[.int .i64 0, .int .i64 0, .int .i64 0, .int .i64 0, .int .i64 0, .int .i64 0]) 6 48 (by kernel_rfl) (by kernel_rfl) (by kernel_rfl) (by kernel_rfl) (by rfl) (by decide) Try.sizeOf55
theorem clone34_ok : EntOK Try.prog 34 (.ext (cloneG 32 3 24)) :=
  clone_ok Try.clone34 Try.cloneI34 (.agg #[.int .i64 0, .int .i64 0, .int .i64 0]) 3 24 (by kernel_rfl) (by kernel_rfl) (by kernel_rfl) (by kernel_rfl) (by rfl) (by decide) Try.sizeOf32
def exts : List (Nat × FEnt) := [(29, .ext (cloneG 55 6 48)), (34, .ext (cloneG 32 3 24))]
theorem exts_ok : ∀ x ∈ exts, EntOK Try.prog x.1 x.2 :=
  List.forall_mem_cons.2 ⟨clone29_ok, List.forall_mem_cons.2 ⟨clone34_ok, fun _ h => by cases h⟩⟩
end Sx
end Go.Proofs.Ytjhbejlpmchhfaa
