/- PackPuts holds: whatever it is called with, it returns true, and that reads as it did. -/
import Derived.Test.YtcecojdeljbjoaaSxG10
namespace Go.Proofs.Ytcecojdeljbjoaa.Sx
open Go Go.RowKit Go.ChangeShapes Go.WideShapes Go.ChangeAt
set_option maxRecDepth 100000

theorem packPuts_sound (xs : List TV) (h : ArgsShape Try.prog 20 Try.f3.params.toList xs) : Sound Try.prog 3 xs (.bool true) := by
  rw [Try.params3] at h
  obtain ⟨a1, r1, rfl, g1, rfl⟩ := h
  obtain ⟨_, rfl, q1⟩ := agg_of (by kernel_rfl) g1
  obtain ⟨vs1, es1, rfl, hr1, hL1⟩ := shDiagram q1
  exact good _ _ _ (t_puts vs1 es1 hL1)
set_option maxRecDepth 100000 in
theorem packPuts_lifted (os : Os) (started : os.Started) (H : Type) (enc : TypeId × Value → H) :
    ReturnsInHanded {} Try.checked os 3 .any (Rows.packPutsSpec.pre6 enc Try.prog Try.f3 Rows.packPutsRow.domain false) (Rows.packPutsSpec.post enc Try.prog Try.f3 false true false false) :=
  law_lifted (C := Try.checked) (m := 20) own started (by kernel_rfl) Try.func3 rfl laidOut
    (fun t ht => by
      rw [Try.params3] at ht
      have ht : t = 25 := by simpa using ht
      subst ht; exact ⟨by kernel_rfl, by kernel_rfl, of_decide_eq_true (by kernel_rfl)⟩)
    (tb := 4) (by kernel_rfl) Try.underlying4
    (ChangeSpec.witness6 (enc := enc) (C := Try.checked) false ⟨#[], #[.agg #[.slice none 0 0, .slice none 0 0]], []⟩ 8 (by kernel_rfl) (by kernel_rfl) (by kernel_rfl) (by kernel_rfl))
    (fun ds hds => by
      rw [Try.params3] at hds
      match ds, hds with
      | [a], _ => rfl)
    packPuts_sound

theorem packPuts_holds : Rows.PackPutsSaid :=
  OpenClaim.holds_of_wide 3 Try.f3 rfl rfl rfl rfl rfl rfl rfl ⟨rfl, rfl, rfl, rfl, rfl⟩ rfl rfl rfl rfl rfl (by kernel_rfl) Try.func3 (by kernel_rfl)
    (of_decide_eq_true (by kernel_rfl)) (by unfold Func.isWrapper; first | (rw [if_pos (by decide +kernel)]; kernel_rfl) | (rw [if_neg (by decide +kernel)]; exact ⟨rfl, rfl⟩))
    (fun os started H enc _ => packPuts_lifted os started H enc)
end Go.Proofs.Ytcecojdeljbjoaa.Sx


