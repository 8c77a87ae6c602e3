/- IdentBack holds: whatever it is called with, it returns true, and that reads as it did. -/
import Derived.Test.YtnflcbacobhoiaaSxV
import Derived.Test.YtnflcbacobhoiaaSxSh
namespace Go.Proofs.Ytnflcbacobhoiaa.Sx
open Go Go.RowKit Go.ChangeShapes Go.WideShapes Go.ChangeAt

theorem identBack_sound (xs : List TV) (h : ArgsShape Try.prog 20 Try.f8.params.toList xs) : Sound Try.prog 8 xs (.bool true) := by
  rw [Try.params8] at h
  obtain ⟨a, r, rfl, h1, b, r', rfl, h2, c, r'', rfl, h3, rfl⟩ := h
  obtain ⟨us, rfl, k1⟩ := agg_of (by kernel_rfl) h1
  obtain ⟨bs, e1⟩ := sh30 (plain_of (by kernel_rfl) h2)
  obtain ⟨l, e2⟩ := sh24 (plain_of (by kernel_rfl) h3)
  obtain ⟨a1, a2, a3, a4, rfl⟩ := sh49 k1
  obtain rfl := (List.cons.inj e1).1
  obtain rfl := (List.cons.inj e2).1
  exact good _ _ _ (t8 a1 a2 a3 a4 bs l)
set_option maxRecDepth 100000 in
theorem identBack_lifted (os : Os) (started : os.Started) (H : Type) (enc : TypeId × Value → H) :
    ReturnsInHanded {} Try.checked os 8 .any (Rows.identBackSpec.pre6 enc Try.prog Try.f8 Rows.identBackRow.domain false) (Rows.identBackSpec.post enc Try.prog Try.f8 false true false false) :=
  law_lifted (C := Try.checked) (m := 20) own started (by kernel_rfl) Try.func8 rfl laidOut
    (fun t ht => by
      rw [Try.params8] at ht
      have ht : t = 49 ∨ t = 30 ∨ t = 24 := by simpa using ht
      rcases ht with rfl | rfl | rfl <;> exact ⟨by kernel_rfl, by kernel_rfl, of_decide_eq_true (by kernel_rfl)⟩)
    (tb := 4) (by kernel_rfl) Try.underlying4
    (ChangeSpec.witness6 (enc := enc) (C := Try.checked) false ⟨#[], #[.agg #[.int .i64 0, .int .i64 0, .int .i64 0, .int .i64 0], .slice none 0 0, .slice none 0 0], []⟩ 8 (by kernel_rfl) (by kernel_rfl) (by kernel_rfl) (by kernel_rfl))
    (fun ds hds => by
      rw [Try.params8] at hds
      match ds, hds with
      | [a, b, c], _ => rfl)
    identBack_sound

theorem identBack_holds : Rows.IdentBackSaid :=
  OpenClaim.holds_of_wide 8 Try.f8 rfl rfl rfl rfl rfl rfl rfl ⟨rfl, rfl, rfl, rfl, rfl⟩ rfl rfl rfl rfl rfl (by kernel_rfl) Try.func8 (by kernel_rfl)
    (of_decide_eq_true (by kernel_rfl)) (by unfold Func.isWrapper; first | (rw [if_pos (by decide +kernel)]; kernel_rfl) | (rw [if_neg (by decide +kernel)]; exact ⟨rfl, rfl⟩))
    (fun os started H enc _ => identBack_lifted os started H enc)
end Go.Proofs.Ytnflcbacobhoiaa.Sx
