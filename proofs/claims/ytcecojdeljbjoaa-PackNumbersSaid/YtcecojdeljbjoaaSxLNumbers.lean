/- PackNumbers holds: whatever it is called with, it returns true, and that reads as it did. -/
import Derived.Test.YtcecojdeljbjoaaSxG8
namespace Go.Proofs.Ytcecojdeljbjoaa.Sx
open Go Go.RowKit Go.ChangeShapes Go.WideShapes Go.ChangeAt
set_option maxRecDepth 100000

theorem packNumbers_sound (xs : List TV) (h : ArgsShape Try.prog 20 Try.f6.params.toList xs) : Sound Try.prog 6 xs (.bool true) := by
  rw [Try.params6] at h
  obtain ⟨a1, r1, rfl, g1, a2, r2, rfl, g2, a3, r3, rfl, g3, rfl⟩ := h
  obtain ⟨n1, e1, hn1⟩ := shInt (plain_of (by kernel_rfl) g1)
  obtain ⟨rfl⟩ := e1
  obtain ⟨s2, e2, hs2⟩ := shStr (plain_of (by kernel_rfl) g2)
  obtain ⟨rfl⟩ := e2
  obtain ⟨y3, e3⟩ := shBytes (plain_of (by kernel_rfl) g3)
  obtain ⟨rfl⟩ := e3
  exact good _ _ _ (t_numbers n1 s2 y3 hn1.1 hn1.2)
set_option maxRecDepth 100000 in
theorem packNumbers_lifted (os : Os) (started : os.Started) (H : Type) (enc : TypeId × Value → H) :
    ReturnsInHanded {} Try.checked os 6 .any (Rows.packNumbersSpec.pre6 enc Try.prog Try.f6 Rows.packNumbersRow.domain false) (Rows.packNumbersSpec.post enc Try.prog Try.f6 false true false false) :=
  law_lifted (C := Try.checked) (m := 20) own started (by kernel_rfl) Try.func6 rfl laidOut
    (fun t ht => by
      rw [Try.params6] at ht
      have ht : t = 3 ∨ t = 9 ∨ t = 27 := by simpa using ht
      rcases ht with rfl | rfl | rfl <;> exact ⟨by kernel_rfl, by kernel_rfl, of_decide_eq_true (by kernel_rfl)⟩)
    (tb := 4) (by kernel_rfl) Try.underlying4
    (ChangeSpec.witness6 (enc := enc) (C := Try.checked) false ⟨#[], #[.int .i64 0, .string ⟨#[]⟩, .slice none 0 0], []⟩ 8 (by kernel_rfl) (by kernel_rfl) (by kernel_rfl) (by kernel_rfl))
    (fun ds hds => by
      rw [Try.params6] at hds
      match ds, hds with
      | [a, b, c], _ => rfl)
    packNumbers_sound

theorem packNumbers_holds : Rows.PackNumbersSaid :=
  OpenClaim.holds_of_wide 6 Try.f6 rfl rfl rfl rfl rfl rfl rfl ⟨rfl, rfl, rfl, rfl, rfl⟩ rfl rfl rfl rfl rfl (by kernel_rfl) Try.func6 (by kernel_rfl)
    (of_decide_eq_true (by kernel_rfl)) (by unfold Func.isWrapper; first | (rw [if_pos (by decide +kernel)]; kernel_rfl) | (rw [if_neg (by decide +kernel)]; exact ⟨rfl, rfl⟩))
    (fun os started H enc _ => packNumbers_lifted os started H enc)
end Go.Proofs.Ytcecojdeljbjoaa.Sx


