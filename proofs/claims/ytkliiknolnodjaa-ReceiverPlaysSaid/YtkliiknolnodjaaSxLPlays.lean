/- ReceiverPlays holds: whatever it is called with, it returns true, and that reads as it did. -/
import Derived.Test.YtkliiknolnodjaaSxG7
namespace Go.Proofs.Ytkliiknolnodjaa.Sx
open Go Go.RowKit Go.ChangeShapes Go.WideShapes Go.ChangeAt
set_option maxRecDepth 100000

theorem receiverPlays_sound (xs : List TV) (h : ArgsShape Try.prog 20 Try.f6.params.toList xs) : Sound Try.prog 6 xs (.bool true) := by
  rw [Try.params6] at h
  obtain ⟨a1, r1, rfl, g1, a2, r2, rfl, g2, rfl⟩ := h
  obtain ⟨n1, e1, hn1⟩ := shInt (plain_of (by kernel_rfl) g1)
  obtain ⟨rfl⟩ := e1
  obtain ⟨l2, e2, hl2⟩ := shOpsF (plain_of (by kernel_rfl) g2)
  obtain ⟨rfl⟩ := e2
  exact good _ _ _ (t_plays _ _ l2 hl2)
set_option maxRecDepth 100000 in
theorem receiverPlays_lifted (os : Os) (started : os.Started) (H : Type) (enc : TypeId × Value → H) :
    ReturnsInHanded {} Try.checked os 6 .any (Rows.receiverPlaysSpec.pre6 enc Try.prog Try.f6 Rows.receiverPlaysRow.domain false) (Rows.receiverPlaysSpec.post enc Try.prog Try.f6 false true false false) :=
  law_lifted (C := Try.checked) (m := 20) own started (by kernel_rfl) Try.func6 rfl laidOut
    (fun t ht => by
      rw [Try.params6] at ht
      have ht : t = 3 ∨ t = 37 := by simpa using ht
      rcases ht with rfl | rfl <;> exact ⟨by kernel_rfl, by kernel_rfl, of_decide_eq_true (by kernel_rfl)⟩)
    (tb := 4) (by kernel_rfl) Try.underlying4
    (ChangeSpec.witness6 (enc := enc) (C := Try.checked) false ⟨#[], #[.int .i64 0, .slice none 0 0], []⟩ 8 (by kernel_rfl) (by kernel_rfl) (by kernel_rfl) (by kernel_rfl))
    (fun ds hds => by
      rw [Try.params6] at hds
      match ds, hds with
      | [a, b], _ => rfl)
    receiverPlays_sound

theorem receiverPlays_holds : Rows.ReceiverPlaysSaid :=
  OpenClaim.holds_of_wide 6 Try.f6 rfl rfl rfl rfl rfl rfl rfl ⟨rfl, rfl, rfl, rfl, rfl⟩ rfl rfl rfl rfl rfl (by kernel_rfl) Try.func6 (by kernel_rfl)
    (of_decide_eq_true (by kernel_rfl)) (by unfold Func.isWrapper; first | (rw [if_pos (by decide +kernel)]; kernel_rfl) | (rw [if_neg (by decide +kernel)]; exact ⟨rfl, rfl⟩))
    (fun os started H enc _ => receiverPlays_lifted os started H enc)
end Go.Proofs.Ytkliiknolnodjaa.Sx

