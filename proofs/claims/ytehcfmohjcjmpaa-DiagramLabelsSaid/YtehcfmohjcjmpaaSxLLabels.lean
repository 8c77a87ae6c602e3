/- DiagramLabels holds: whatever it is called with, it returns true, and that reads as it did. -/
import Derived.Test.YtehcfmohjcjmpaaSxL
import Derived.Test.YtehcfmohjcjmpaaSxSh
namespace Go.Proofs.Ytehcfmohjcjmpaa.Sx
open Go Go.RowKit Go.ChangeShapes Go.WideShapes Go.ChangeAt

theorem diagramLabels_sound (xs : List TV) (h : ArgsShape Try.prog 20 Try.f4.params.toList xs) : Sound Try.prog 4 xs (.bool true) := by
  rw [Try.params4] at h
  obtain ⟨a1, r1, rfl, g1, a2, r2, rfl, g2, a3, r3, rfl, g3, rfl⟩ := h
  obtain ⟨_, rfl, q1⟩ := agg_of (by kernel_rfl) g1
  obtain ⟨vs1, es1, rfl, hr1, hL1⟩ := shDiagram q1
  obtain ⟨_, rfl, q2⟩ := agg_of (by kernel_rfl) g2
  unfold Shape at q2
  rw [Try.underlying33] at q2
  obtain ⟨x, r, rfl, ha, y, r', rfl, hb, rfl⟩ := q2
  obtain ⟨s0, rfl, h0⟩ := shStr ha
  obtain ⟨s1, rfl, h1⟩ := shStr hb
  obtain ⟨n3, e3, hn3⟩ := shInt (plain_of (by kernel_rfl) g3)
  obtain ⟨rfl⟩ := e3
  exact good _ _ _ (t_labels vs1 es1 s0 s1 h0 h1 n3)
set_option maxRecDepth 100000 in
theorem diagramLabels_lifted (os : Os) (started : os.Started) (H : Type) (enc : TypeId × Value → H) :
    ReturnsInHanded {} Try.checked os 4 .any (Rows.diagramLabelsSpec.pre6 enc Try.prog Try.f4 Rows.diagramLabelsRow.domain false) (Rows.diagramLabelsSpec.post enc Try.prog Try.f4 false true false false) :=
  law_lifted (C := Try.checked) (m := 20) own started (by kernel_rfl) Try.func4 rfl laidOut
    (fun t ht => by
      rw [Try.params4] at ht
      have ht : t = 25 ∨ t = 33 ∨ t = 3 := by simpa using ht
      rcases ht with rfl | rfl | rfl <;> exact ⟨by kernel_rfl, by kernel_rfl, of_decide_eq_true (by kernel_rfl)⟩)
    (tb := 4) (by kernel_rfl) Try.underlying4
    (ChangeSpec.witness6 (enc := enc) (C := Try.checked) false ⟨#[], #[.agg #[.slice none 0 0, .slice none 0 0], .agg #[.string ⟨#[]⟩, .string ⟨#[]⟩], .int .i64 0], []⟩ 8 (by kernel_rfl) (by kernel_rfl) (by kernel_rfl) (by kernel_rfl))
    (fun ds hds => by
      rw [Try.params4] at hds
      match ds, hds with
      | [a, b, c], _ => rfl)
    diagramLabels_sound

theorem diagramLabels_holds : Rows.DiagramLabelsSaid :=
  OpenClaim.holds_of_wide 4 Try.f4 rfl rfl rfl rfl rfl rfl rfl ⟨rfl, rfl, rfl, rfl, rfl⟩ rfl rfl rfl rfl rfl (by kernel_rfl) Try.func4 (by kernel_rfl)
    (of_decide_eq_true (by kernel_rfl)) (by unfold Func.isWrapper; first | (rw [if_pos (by decide +kernel)]; kernel_rfl) | (rw [if_neg (by decide +kernel)]; exact ⟨rfl, rfl⟩))
    (fun os started H enc _ => diagramLabels_lifted os started H enc)
end Go.Proofs.Ytehcfmohjcjmpaa.Sx
