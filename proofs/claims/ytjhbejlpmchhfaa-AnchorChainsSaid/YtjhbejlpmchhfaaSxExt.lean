/- Functions of the library that are known by a contract of the kit. -/
import Derived.Test.YtjhbejlpmchhfaaSxClone
import Derived.Test.YtjhbejlpmchhfaaChecked
namespace Go.Proofs.Ytjhbejlpmchhfaa
open Go Go.Shelf
def Try.clone29_ren : Go.Shelf.Ren := ⟨fun | 41 => 29 | n => n, fun | 22 => 26 | 23 => 55 | 4 => 4 | n => n, fun | n => n⟩
theorem Try.clone29 : Go.Proofs.SlLaysE0.n41 Try.prog Try.clone29_ren where
  mixed := (by kernel_rfl)
  f41 := ⟨Try.f29.name, by decide, Try.func29.trans (congrArg some (by kernel_rfl))⟩
  t4 := Try.underlying4
  a4 := Try.isAgg4
  z4 := Try.sizeOf4
  v4 := Try.zeroValue4
  t22 := Try.underlying26
  a22 := Try.isAgg26
  z22 := Try.sizeOf26
  v22 := Try.zeroValue26
noncomputable def Try.cloneI29 : TypeInfo := (Try.prog.info? 55).get (by kernel_rfl)
def Try.clone34_ren : Go.Shelf.Ren := ⟨fun | 41 => 34 | n => n, fun | 22 => 41 | 23 => 32 | 4 => 4 | n => n, fun | n => n⟩
theorem Try.clone34 : Go.Proofs.SlLaysE0.n41 Try.prog Try.clone34_ren where
  mixed := (by kernel_rfl)
  f41 := ⟨Try.f34.name, by decide, Try.func34.trans (congrArg some (by kernel_rfl))⟩
  t4 := Try.underlying4
  a4 := Try.isAgg4
  z4 := Try.sizeOf4
  v4 := Try.zeroValue4
  t22 := Try.underlying41
  a22 := Try.isAgg41
  z22 := Try.sizeOf41
  v22 := Try.zeroValue41
noncomputable def Try.cloneI34 : TypeInfo := (Try.prog.info? 32).get (by kernel_rfl)
namespace Sx
theorem clone29_ok : EntOK Try.prog 29 (.ext (cloneG 55 6 48)) :=
  clone_ok Try.clone29 Try.cloneI29 (.agg #[.int .i64 0, .int .i64 0, .int .i64 0, .int .i64 0, .int .i64 0, .int .i64 0]) 6 48 (by kernel_rfl) (by kernel_rfl) (by kernel_rfl) (by kernel_rfl) (by rfl) (by decide) Try.sizeOf55
theorem clone34_ok : EntOK Try.prog 34 (.ext (cloneG 32 3 24)) :=
  clone_ok Try.clone34 Try.cloneI34 (.agg #[.int .i64 0, .int .i64 0, .int .i64 0]) 3 24 (by kernel_rfl) (by kernel_rfl) (by kernel_rfl) (by kernel_rfl) (by rfl) (by decide) Try.sizeOf32
def exts : List (Nat × FEnt) := [(29, .ext (cloneG 55 6 48)), (34, .ext (cloneG 32 3 24))]
theorem exts_ok : ∀ x ∈ exts, EntOK Try.prog x.1 x.2 :=
  List.forall_mem_cons.2 ⟨clone29_ok, List.forall_mem_cons.2 ⟨clone34_ok, fun _ h => by cases h⟩⟩
end Sx
end Go.Proofs.Ytjhbejlpmchhfaa
