/- EulerEdge holds: whatever it is called with, it returns true, and that reads as it did. -/
import Derived.Test.YtonhkmpjpnjkfaaSxG8
namespace Go.Proofs.Ytonhkmpjpnjkfaa.Sx
open Go Go.RowKit Go.ChangeShapes Go.WideShapes Go.ChangeAt
set_option maxRecDepth 100000

theorem eulerEdge_sound (xs : List TV) (h : ArgsShape Try.prog 20 Try.f5.params.toList xs) : Sound Try.prog 5 xs (.bool true) := by
  rw [Try.params5] at h
  obtain ⟨a1, r1, rfl, g1, a2, r2, rfl, g2, a3, r3, rfl, g3, rfl⟩ := h
  obtain ⟨_, rfl, q1⟩ := agg_of (by kernel_rfl) g1
  obtain ⟨vs1, es1, rfl, hr1, hL1⟩ := shDiagram q1
  obtain ⟨_, rfl, q2⟩ := agg_of (by kernel_rfl) g2
  obtain ⟨d2, rfl⟩ := shDart q2
  obtain ⟨_, rfl, q3⟩ := agg_of (by kernel_rfl) g3
  obtain ⟨d3, rfl⟩ := shDart q3
  exact good _ _ _ (t_edge vs1 es1 d2 d3 hL1)
set_option maxRecDepth 100000 in
theorem eulerEdge_lifted (os : Os) (started : os.Started) (H : Type) (enc : TypeId × Value → H) :
    ReturnsInHanded {} Try.checked os 5 .any (Rows.eulerEdgeSpec.pre6 enc Try.prog Try.f5 Rows.eulerEdgeRow.domain false) (Rows.eulerEdgeSpec.post enc Try.prog Try.f5 false true false false) :=
  law_lifted (C := Try.checked) (m := 20) own started (by kernel_rfl) Try.func5 rfl laidOut
    (fun t ht => by
      rw [Try.params5] at ht
      have ht : t = 25 ∨ t = 39 ∨ t = 39 := by simpa using ht
      rcases ht with rfl | rfl | rfl <;> exact ⟨by kernel_rfl, by kernel_rfl, of_decide_eq_true (by kernel_rfl)⟩)
    (tb := 4) (by kernel_rfl) Try.underlying4
    (ChangeSpec.witness6 (enc := enc) (C := Try.checked) false ⟨#[], #[.agg #[.slice none 0 0, .slice none 0 0], .agg #[.int .i64 0, .int .i64 0, .int .i64 0], .agg #[.int .i64 0, .int .i64 0, .int .i64 0]], []⟩ 8 (by kernel_rfl) (by kernel_rfl) (by kernel_rfl) (by kernel_rfl))
    (fun ds hds => by
      rw [Try.params5] at hds
      match ds, hds with
      | [a, b, c], _ => rfl)
    eulerEdge_sound

theorem eulerEdge_holds : Rows.EulerEdgeSaid :=
  OpenClaim.holds_of_wide 5 Try.f5 rfl rfl rfl rfl rfl rfl rfl ⟨rfl, rfl, rfl, rfl, rfl⟩ rfl rfl rfl rfl rfl (by kernel_rfl) Try.func5 (by kernel_rfl)
    (of_decide_eq_true (by kernel_rfl)) (by unfold Func.isWrapper; first | (rw [if_pos (by decide +kernel)]; kernel_rfl) | (rw [if_neg (by decide +kernel)]; exact ⟨rfl, rfl⟩))
    (fun os started H enc _ => eulerEdge_lifted os started H enc)
end Go.Proofs.Ytonhkmpjpnjkfaa.Sx


