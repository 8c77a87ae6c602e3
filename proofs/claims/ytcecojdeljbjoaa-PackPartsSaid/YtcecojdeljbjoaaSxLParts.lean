/- PackParts holds: whatever it is called with, it returns true, and that reads as it did. -/
import Derived.Test.YtcecojdeljbjoaaSxG8
namespace Go.Proofs.Ytcecojdeljbjoaa.Sx
open Go Go.RowKit Go.ChangeShapes Go.WideShapes Go.ChangeAt
set_option maxRecDepth 100000

theorem packParts_sound (xs : List TV) (h : ArgsShape Try.prog 20 Try.f5.params.toList xs) : Sound Try.prog 5 xs (.bool true) := by
  rw [Try.params5] at h
  obtain ⟨a1, r1, rfl, g1, a2, r2, rfl, g2, a3, r3, rfl, g3, rfl⟩ := h
  obtain ⟨y1, e1⟩ := shBytes (plain_of (by kernel_rfl) g1)
  obtain ⟨rfl⟩ := e1
  obtain ⟨n2, e2, hn2⟩ := shInt (plain_of (by kernel_rfl) g2)
  obtain ⟨rfl⟩ := e2
  obtain ⟨s3, e3, hs3⟩ := shStr (plain_of (by kernel_rfl) g3)
  obtain ⟨rfl⟩ := e3
  exact good _ _ _ (t_parts y1 n2 s3)
set_option maxRecDepth 100000 in
theorem packParts_lifted (os : Os) (started : os.Started) (H : Type) (enc : TypeId × Value → H) :
    ReturnsInHanded {} Try.checked os 5 .any (Rows.packPartsSpec.pre6 enc Try.prog Try.f5 Rows.packPartsRow.domain false) (Rows.packPartsSpec.post enc Try.prog Try.f5 false true false false) :=
  law_lifted (C := Try.checked) (m := 20) own started (by kernel_rfl) Try.func5 rfl laidOut
    (fun t ht => by
      rw [Try.params5] at ht
      have ht : t = 27 ∨ t = 3 ∨ t = 9 := by simpa using ht
      rcases ht with rfl | rfl | rfl <;> exact ⟨by kernel_rfl, by kernel_rfl, of_decide_eq_true (by kernel_rfl)⟩)
    (tb := 4) (by kernel_rfl) Try.underlying4
    (ChangeSpec.witness6 (enc := enc) (C := Try.checked) false ⟨#[], #[.slice none 0 0, .int .i64 0, .string ⟨#[]⟩], []⟩ 8 (by kernel_rfl) (by kernel_rfl) (by kernel_rfl) (by kernel_rfl))
    (fun ds hds => by
      rw [Try.params5] at hds
      match ds, hds with
      | [a, b, c], _ => rfl)
    packParts_sound

theorem packParts_holds : Rows.PackPartsSaid :=
  OpenClaim.holds_of_wide 5 Try.f5 rfl rfl rfl rfl rfl rfl rfl ⟨rfl, rfl, rfl, rfl, rfl⟩ rfl rfl rfl rfl rfl (by kernel_rfl) Try.func5 (by kernel_rfl)
    (of_decide_eq_true (by kernel_rfl)) (by unfold Func.isWrapper; first | (rw [if_pos (by decide +kernel)]; kernel_rfl) | (rw [if_neg (by decide +kernel)]; exact ⟨rfl, rfl⟩))
    (fun os started H enc _ => packParts_lifted os started H enc)
end Go.Proofs.Ytcecojdeljbjoaa.Sx


