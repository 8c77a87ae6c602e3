/- PackBack holds: whatever it is called with, it returns true, and that reads as it did. -/
import Derived.Test.YtcecojdeljbjoaaSxG10
namespace Go.Proofs.Ytcecojdeljbjoaa.Sx
open Go Go.RowKit Go.ChangeShapes Go.WideShapes Go.ChangeAt
set_option maxRecDepth 100000

theorem packBack_sound (xs : List TV) (h : ArgsShape Try.prog 20 Try.f7.params.toList xs) : Sound Try.prog 7 xs (.bool true) := by
  rw [Try.params7] at h
  obtain ⟨a1, r1, rfl, g1, a2, r2, rfl, g2, a3, r3, rfl, g3, rfl⟩ := h
  obtain ⟨_, rfl, q1⟩ := agg_of (by kernel_rfl) g1
  obtain ⟨vs1, es1, rfl, hr1, hL1⟩ := shDiagram q1
  obtain ⟨_, rfl, q2⟩ := agg_of (by kernel_rfl) g2
  obtain ⟨vs2, es2, rfl, hr2, hL2⟩ := shDiagram q2
  obtain ⟨n3, e3, hn3⟩ := shInt (plain_of (by kernel_rfl) g3)
  obtain ⟨rfl⟩ := e3
  exact good _ _ _ (t_back vs1 vs2 es1 es2 n3)
set_option maxRecDepth 100000 in
theorem packBack_lifted (os : Os) (started : os.Started) (H : Type) (enc : TypeId × Value → H) :
    ReturnsInHanded {} Try.checked os 7 .any (Rows.packBackSpec.pre6 enc Try.prog Try.f7 Rows.packBackRow.domain false) (Rows.packBackSpec.post enc Try.prog Try.f7 false true false false) :=
  law_lifted (C := Try.checked) (m := 20) own started (by kernel_rfl) Try.func7 rfl laidOut
    (fun t ht => by
      rw [Try.params7] at ht
      have ht : t = 25 ∨ t = 25 ∨ t = 3 := by simpa using ht
      rcases ht with rfl | rfl | rfl <;> exact ⟨by kernel_rfl, by kernel_rfl, of_decide_eq_true (by kernel_rfl)⟩)
    (tb := 4) (by kernel_rfl) Try.underlying4
    (ChangeSpec.witness6 (enc := enc) (C := Try.checked) false ⟨#[], #[.agg #[.slice none 0 0, .slice none 0 0], .agg #[.slice none 0 0, .slice none 0 0], .int .i64 0], []⟩ 8 (by kernel_rfl) (by kernel_rfl) (by kernel_rfl) (by kernel_rfl))
    (fun ds hds => by
      rw [Try.params7] at hds
      match ds, hds with
      | [a, b, c], _ => rfl)
    packBack_sound

theorem packBack_holds : Rows.PackBackSaid :=
  OpenClaim.holds_of_wide 7 Try.f7 rfl rfl rfl rfl rfl rfl rfl ⟨rfl, rfl, rfl, rfl, rfl⟩ rfl rfl rfl rfl rfl (by kernel_rfl) Try.func7 (by kernel_rfl)
    (of_decide_eq_true (by kernel_rfl)) (by unfold Func.isWrapper; first | (rw [if_pos (by decide +kernel)]; kernel_rfl) | (rw [if_neg (by decide +kernel)]; exact ⟨rfl, rfl⟩))
    (fun os started H enc _ => packBack_lifted os started H enc)
end Go.Proofs.Ytcecojdeljbjoaa.Sx


