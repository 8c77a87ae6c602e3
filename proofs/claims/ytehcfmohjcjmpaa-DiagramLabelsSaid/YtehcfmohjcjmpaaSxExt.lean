/- Functions of the library that are known by a contract of the kit. -/
import Derived.Test.YtehcfmohjcjmpaaSxClone
import Derived.Test.YtehcfmohjcjmpaaSxMay
import Derived.Test.YtehcfmohjcjmpaaChecked
namespace Go.Proofs.Ytehcfmohjcjmpaa
open Go Go.Shelf
shelf_lay_g SlLaysE0.n41 Slgn 41 at Try 45 as Try.clone45
noncomputable def Try.cloneI45 : TypeInfo := (Try.prog.info? 38).get (by kernel_rfl)
shelf_lay_g SlLaysE0.n41 Slgn 41 at Try 46 as Try.clone46
noncomputable def Try.cloneI46 : TypeInfo := (Try.prog.info? 47).get (by kernel_rfl)
shelf_lay_g SlLaysE0.n41 Slgn 41 at Try 47 as Try.clone47
noncomputable def Try.cloneI47 : TypeInfo := (Try.prog.info? 45).get (by kernel_rfl)
namespace Sx
theorem clone45_ok : EntOK Try.prog 45 (.ext (cloneG 38 5 64)) :=
  clone_ok Try.clone45 Try.cloneI45 (.agg #[.int .i64 0, .int .i64 0, .slice none 0 0, .string ⟨#[]⟩, .int .i64 0]) 5 64 (by kernel_rfl) (by kernel_rfl) (by kernel_rfl) (by kernel_rfl) (by rfl) (by decide) Try.sizeOf38
theorem clone46_ok : EntOK Try.prog 46 (.ext (cloneG 47 4 40)) :=
  clone_ok Try.clone46 Try.cloneI46 (.agg #[.int .i64 0, .int .i64 0, .string ⟨#[]⟩, .int .i64 0]) 4 40 (by kernel_rfl) (by kernel_rfl) (by kernel_rfl) (by kernel_rfl) (by rfl) (by decide) Try.sizeOf47
theorem clone47_ok : EntOK Try.prog 47 (.ext (cloneG 45 3 24)) :=
  clone_ok Try.clone47 Try.cloneI47 (.agg #[.int .i64 0, .int .i64 0, .int .i64 0]) 3 24 (by kernel_rfl) (by kernel_rfl) (by kernel_rfl) (by kernel_rfl) (by rfl) (by decide) Try.sizeOf45
def exts : List (Nat × FEnt) := [(45, .ext (cloneG 38 5 64)), (46, .ext (cloneG 47 4 40)), (47, .ext (cloneG 45 3 24)), (14, .ext mayG)]
theorem exts_ok : ∀ x ∈ exts, EntOK Try.prog x.1 x.2 :=
  List.forall_mem_cons.2 ⟨clone45_ok, List.forall_mem_cons.2 ⟨clone46_ok, List.forall_mem_cons.2 ⟨clone47_ok, List.forall_mem_cons.2 ⟨may_ok, fun _ h => by cases h⟩⟩⟩⟩
end Sx
end Go.Proofs.Ytehcfmohjcjmpaa
