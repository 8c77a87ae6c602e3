/- IdentOrder holds: whichever three names and darts it is called with, it returns true, and they read as they did. -/
import Derived.Test.YtnflcbacobhoiaaSxE
import Derived.Test.YtnflcbacobhoiaaSxSh
namespace Go.Proofs.Ytnflcbacobhoiaa.Sx
open Go Go.RowKit Go.ChangeShapes Go.WideShapes Go.ChangeAt

theorem order_sound (xs : List TV) (h : ArgsShape Try.prog 20 Try.f5.params.toList xs) : Sound Try.prog 5 xs (.bool true) := by
  rw [Try.params5] at h
  obtain ⟨a, r, rfl, h1, b, r', rfl, h2, rfl⟩ := h
  obtain ⟨ts, rfl, k1⟩ := agg_of (by kernel_rfl) h1
  obtain ⟨us, rfl, k2⟩ := agg_of (by kernel_rfl) h2
  obtain ⟨a1, a2, b1, b2, c1, c2, rfl⟩ := sh37 k1
  obtain ⟨d1, d2, d3, e1, e2, e3, f1, f2, f3, rfl⟩ := sh40 k2
  exact good _ _ _ (t5 a1 a2 b1 b2 c1 c2 d1 d2 d3 e1 e2 e3 f1 f2 f3)

set_option maxRecDepth 100000 in
theorem order_lifted (os : Os) (started : os.Started) (H : Type) (enc : TypeId × Value → H) :
    ReturnsInHanded {} Try.checked os 5 .any (Rows.identOrderSpec.pre6 enc Try.prog Try.f5 Rows.identOrderRow.domain false) (Rows.identOrderSpec.post enc Try.prog Try.f5 false true false false) :=
  law_lifted (C := Try.checked) (m := 20) own started (by kernel_rfl) Try.func5 rfl laidOut
    (fun t ht => by
      rw [Try.params5] at ht
      have ht : t = 37 ∨ t = 40 := by simpa using ht
      rcases ht with rfl | rfl <;> exact ⟨by kernel_rfl, by kernel_rfl, of_decide_eq_true (by kernel_rfl)⟩)
    (tb := 4) (by kernel_rfl) Try.underlying4
    (ChangeSpec.witness6 (enc := enc) (C := Try.checked) false ⟨#[], #[.agg #[.int .i64 0, .int .i64 0, .int .i64 0, .int .i64 0, .int .i64 0, .int .i64 0], .agg #[.int .i64 0, .int .i64 0, .int .i64 0, .int .i64 0, .int .i64 0, .int .i64 0, .int .i64 0, .int .i64 0, .int .i64 0]], []⟩ 8 (by kernel_rfl) (by kernel_rfl) (by kernel_rfl) (by kernel_rfl))
    (fun ds hds => by
      rw [Try.params5] at hds
      match ds, hds with
      | [a, b], _ => rfl)
    order_sound

theorem order_holds : Rows.IdentOrderSaid :=
  OpenClaim.holds_of_wide 5 Try.f5 rfl rfl rfl rfl rfl rfl rfl ⟨rfl, rfl, rfl, rfl, rfl⟩ rfl rfl rfl rfl rfl (by kernel_rfl) Try.func5 (by kernel_rfl)
    (of_decide_eq_true (by kernel_rfl)) (by unfold Func.isWrapper; first | (rw [if_pos (by decide +kernel)]; kernel_rfl) | (rw [if_neg (by decide +kernel)]; exact ⟨rfl, rfl⟩))
    (fun os started H enc _ => order_lifted os started H enc)
end Go.Proofs.Ytnflcbacobhoiaa.Sx
