/- IdentDarts holds: whichever name and dart it is called with, it returns true, and they read as they did. -/
import Derived.Test.YtnflcbacobhoiaaSxG
import Derived.Test.YtnflcbacobhoiaaSxSh
namespace Go.Proofs.Ytnflcbacobhoiaa.Sx
open Go Go.RowKit Go.ChangeShapes Go.WideShapes Go.ChangeAt

theorem darts_sound (xs : List TV) (h : ArgsShape Try.prog 20 Try.f7.params.toList xs) : Sound Try.prog 7 xs (.bool true) := by
  rw [Try.params7] at h
  obtain ⟨a, r, rfl, h1, b, r', rfl, h2, rfl⟩ := h
  obtain ⟨ts, rfl, k1⟩ := agg_of (by kernel_rfl) h1
  obtain ⟨us, rfl, k2⟩ := agg_of (by kernel_rfl) h2
  obtain ⟨a1, a2, rfl, _⟩ := sh26 k1
  obtain ⟨d1, d2, d3, rfl, _, _, h3⟩ := sh39 k2
  exact good _ _ _ (t7 a1 a2 d1 d2 d3 h3)

set_option maxRecDepth 100000 in
theorem darts_lifted (os : Os) (started : os.Started) (H : Type) (enc : TypeId × Value → H) :
    ReturnsInHanded {} Try.checked os 7 .any (Rows.identDartsSpec.pre6 enc Try.prog Try.f7 Rows.identDartsRow.domain false) (Rows.identDartsSpec.post enc Try.prog Try.f7 false true false false) :=
  law_lifted (C := Try.checked) (m := 20) own started (by kernel_rfl) Try.func7 rfl laidOut
    (fun t ht => by
      rw [Try.params7] at ht
      have ht : t = 26 ∨ t = 39 := by simpa using ht
      rcases ht with rfl | rfl <;> exact ⟨by kernel_rfl, by kernel_rfl, of_decide_eq_true (by kernel_rfl)⟩)
    (tb := 4) (by kernel_rfl) Try.underlying4
    (ChangeSpec.witness6 (enc := enc) (C := Try.checked) false ⟨#[], #[.agg #[.int .i64 0, .int .i64 0], .agg #[.int .i64 0, .int .i64 0, .int .i64 0]], []⟩ 8 (by kernel_rfl) (by kernel_rfl) (by kernel_rfl) (by kernel_rfl))
    (fun ds hds => by
      rw [Try.params7] at hds
      match ds, hds with
      | [a, b], _ => rfl)
    darts_sound

theorem darts_holds : Rows.IdentDartsSaid :=
  OpenClaim.holds_of_wide 7 Try.f7 rfl rfl rfl rfl rfl rfl rfl ⟨rfl, rfl, rfl, rfl, rfl⟩ rfl rfl rfl rfl rfl (by kernel_rfl) Try.func7 (by kernel_rfl)
    (of_decide_eq_true (by kernel_rfl)) (by unfold Func.isWrapper; first | (rw [if_pos (by decide +kernel)]; kernel_rfl) | (rw [if_neg (by decide +kernel)]; exact ⟨rfl, rfl⟩))
    (fun os started H enc _ => darts_lifted os started H enc)
end Go.Proofs.Ytnflcbacobhoiaa.Sx
