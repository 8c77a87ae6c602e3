/- Functions of the library that are known by a contract of the kit. -/
import Derived.Test.YtehcfmohjcjmpaaSxClone
import Derived.Test.YtehcfmohjcjmpaaSxMay
import Derived.Test.YtehcfmohjcjmpaaChecked
namespace Go.Proofs.Ytehcfmohjcjmpaa
open Go Go.Shelf
def Try.clone45_ren : Go.Shelf.Ren := ⟨fun | 41 => 45 | n => n, fun | 22 => 22 | 23 => 38 | 4 => 4 | n => n, fun | n => n⟩
theorem Try.clone45 : Go.Proofs.SlLaysE0.n41 Try.prog Try.clone45_ren where
  mixed := (by kernel_rfl)
  f41 := ⟨Try.f45.name, by decide, Try.func45.trans (congrArg some (by kernel_rfl))⟩
  t4 := Try.underlying4
  a4 := Try.isAgg4
  z4 := Try.sizeOf4
  v4 := Try.zeroValue4
  t22 := Try.underlying22
  a22 := Try.isAgg22
  z22 := Try.sizeOf22
  v22 := Try.zeroValue22
noncomputable def Try.cloneI45 : TypeInfo := (Try.prog.info? 38).get (by kernel_rfl)
def Try.clone46_ren : Go.Shelf.Ren := ⟨fun | 41 => 46 | n => n, fun | 22 => 23 | 23 => 47 | 4 => 4 | n => n, fun | n => n⟩
theorem Try.clone46 : Go.Proofs.SlLaysE0.n41 Try.prog Try.clone46_ren where
  mixed := (by kernel_rfl)
  f41 := ⟨Try.f46.name, by decide, Try.func46.trans (congrArg some (by kernel_rfl))⟩
  t4 := Try.underlying4
  a4 := Try.isAgg4
  z4 := Try.sizeOf4
  v4 := Try.zeroValue4
  t22 := Try.underlying23
  a22 := Try.isAgg23
  z22 := Try.sizeOf23
  v22 := Try.zeroValue23
noncomputable def Try.cloneI46 : TypeInfo := (Try.prog.info? 47).get (by kernel_rfl)
def Try.clone47_ren : Go.Shelf.Ren := ⟨fun | 41 => 47 | n => n, fun | 22 => 36 | 23 => 45 | 4 => 4 | n => n, fun | n => n⟩
theorem Try.clone47 : Go.Proofs.SlLaysE0.n41 Try.prog Try.clone47_ren where
  mixed := (by kernel_rfl)
  f41 := ⟨Try.f47.name, by decide, Try.func47.trans (congrArg some (by kernel_rfl))⟩
  t4 := Try.underlying4
  a4 := Try.isAgg4
  z4 := Try.sizeOf4
  v4 := Try.zeroValue4
  t22 := Try.underlying36
  a22 := Try.isAgg36
  z22 := Try.sizeOf36
  v22 := Try.zeroValue36
noncomputable def Try.cloneI47 : TypeInfo := (Try.prog.info? 45).get (by kernel_rfl)
namespace Sx
theorem clone45_ok : EntOK Try.prog 45 (.ext (cloneG 38 5 64)) :=
  clone_ok Try.clone45 Try.cloneI45 (.agg #[.int .i64 0, .int .i64 0, .slice none 0 0, .string ⟨#[]⟩, .int .i64 0]) 5 64 (by kernel_rfl) (by kernel_rfl) (by kernel_rfl) (by kernel_rfl) (by rfl) (by decide) Try.sizeOf38
theorem clone46_ok : EntOK Try.prog 46 (.ext (cloneG 47 4 40)) :=
  clone_ok Try.clone46 Try.cloneI46 (.agg #[.int .i64 0, .int .i64 0, .string ⟨#[]⟩, .int .i64 0]) 4 40 (by kernel_rfl) (by kernel_rfl) (by kernel_rfl) (by kernel_rfl) (by rfl) (by decide) Try.sizeOf47
theorem clone47_ok : EntOK Try.prog 47 (.ext (cloneG 45 3 24)) :=
  clone_ok Try.clone47 Try.cloneI47 (.agg #[.int .i64 0, .int .i64 0, .int .i64 0]) 3 24 (by kernel_rfl) (by kernel_rfl) (by kernel_rfl) (by kernel_rfl) (by rfl) (by decide) Try.sizeOf45
def exts : List (Nat × FEnt) := [(45, .ext (cloneG 38 5 64)), (46, .ext (cloneG 47 4 40)), (47, .ext (cloneG 45 3 24)), (14, .ext mayG)]
theorem exts_ok : ∀ x ∈ exts, EntOK Try.prog x.1 x.2 :=
  List.forall_mem_cons.2 ⟨clone45_ok, List.forall_mem_cons.2 ⟨clone46_ok, List.forall_mem_cons.2 ⟨clone47_ok, List.forall_mem_cons.2 ⟨may_ok, fun _ h => by cases h⟩⟩⟩⟩
end Sx
end Go.Proofs.Ytehcfmohjcjmpaa
