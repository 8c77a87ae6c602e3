/- DiagramForm holds: whatever it is called with, it returns true, and that reads as it did. -/
import Derived.Test.YtehcfmohjcjmpaaSxF
import Derived.Test.YtehcfmohjcjmpaaSxSh
namespace Go.Proofs.Ytehcfmohjcjmpaa.Sx
open Go Go.RowKit Go.ChangeShapes Go.WideShapes Go.ChangeAt

theorem diagramForm_sound (xs : List TV) (h : ArgsShape Try.prog 20 Try.f3.params.toList xs) : Sound Try.prog 3 xs (.bool true) := by
  rw [Try.params3] at h
  obtain ⟨a, r, rfl, h1, b, r', rfl, h2, c, r'', rfl, h3, rfl⟩ := h
  obtain ⟨_, rfl, h1q⟩ := agg_of (by kernel_rfl) h1
  obtain ⟨vs, es, rfl, hr, hL⟩ := shDiagram h1q
  obtain ⟨s, hs, hz⟩ := shStr (plain_of (by kernel_rfl) h2)
  obtain ⟨rfl⟩ := hs
  obtain ⟨n, hn, _⟩ := shInt (plain_of (by kernel_rfl) h3)
  obtain ⟨rfl⟩ := hn
  exact good _ _ _ (t_form vs es s n hL (Nat.le_trans hz (by decide)))
set_option maxRecDepth 100000 in
theorem diagramForm_lifted (os : Os) (started : os.Started) (H : Type) (enc : TypeId × Value → H) :
    ReturnsInHanded {} Try.checked os 3 .any (Rows.diagramFormSpec.pre6 enc Try.prog Try.f3 Rows.diagramFormRow.domain false) (Rows.diagramFormSpec.post enc Try.prog Try.f3 false true false false) :=
  law_lifted (C := Try.checked) (m := 20) own started (by kernel_rfl) Try.func3 rfl laidOut
    (fun t ht => by
      rw [Try.params3] at ht
      have ht : t = 25 ∨ t = 9 ∨ t = 3 := by simpa using ht
      rcases ht with rfl | rfl | rfl <;> exact ⟨by kernel_rfl, by kernel_rfl, of_decide_eq_true (by kernel_rfl)⟩)
    (tb := 4) (by kernel_rfl) Try.underlying4
    (ChangeSpec.witness6 (enc := enc) (C := Try.checked) false ⟨#[], #[.agg #[.slice none 0 0, .slice none 0 0], .string ⟨#[]⟩, .int .i64 0], []⟩ 8 (by kernel_rfl) (by kernel_rfl) (by kernel_rfl) (by kernel_rfl))
    (fun ds hds => by
      rw [Try.params3] at hds
      match ds, hds with
      | [a, b, c], _ => rfl)
    diagramForm_sound

theorem diagramForm_holds : Rows.DiagramFormSaid :=
  OpenClaim.holds_of_wide 3 Try.f3 rfl rfl rfl rfl rfl rfl rfl ⟨rfl, rfl, rfl, rfl, rfl⟩ rfl rfl rfl rfl rfl (by kernel_rfl) Try.func3 (by kernel_rfl)
    (of_decide_eq_true (by kernel_rfl)) (by unfold Func.isWrapper; first | (rw [if_pos (by decide +kernel)]; kernel_rfl) | (rw [if_neg (by decide +kernel)]; exact ⟨rfl, rfl⟩))
    (fun os started H enc _ => diagramForm_lifted os started H enc)
end Go.Proofs.Ytehcfmohjcjmpaa.Sx
