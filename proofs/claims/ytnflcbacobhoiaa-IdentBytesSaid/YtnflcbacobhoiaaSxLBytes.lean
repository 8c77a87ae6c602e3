/- IdentBytes holds: whatever it is called with, it returns true, and that reads as it did. -/
import Derived.Test.YtnflcbacobhoiaaSxU
import Derived.Test.YtnflcbacobhoiaaSxSh
namespace Go.Proofs.Ytnflcbacobhoiaa.Sx
open Go Go.RowKit Go.ChangeShapes Go.WideShapes Go.ChangeAt

theorem idC_eq : idC = idRow := rfl
theorem identBytes_sound (xs : List TV) (h : ArgsShape Try.prog 20 Try.f4.params.toList xs) : Sound Try.prog 4 xs (.bool true) := by
  rw [Try.params4] at h
  obtain ⟨a, r, rfl, h1, b, r', rfl, h2, c, r'', rfl, h3, rfl⟩ := h
  obtain ⟨bs, e1⟩ := sh30 (plain_of (by kernel_rfl) h1)
  obtain ⟨us, rfl, k2⟩ := agg_of (by kernel_rfl) h2
  obtain ⟨vs, rfl, k3⟩ := agg_of (by kernel_rfl) h3
  obtain ⟨a1, a2, rfl, _⟩ := sh26 k2
  obtain ⟨l, s, rfl⟩ := sh32 k3
  obtain rfl := (List.cons.inj e1).1
  exact good _ _ _ (t4 bs a1 a2 s l)
set_option maxRecDepth 100000 in
theorem identBytes_lifted (os : Os) (started : os.Started) (H : Type) (enc : TypeId × Value → H) :
    ReturnsInHanded {} Try.checked os 4 .any (Rows.identBytesSpec.pre6 enc Try.prog Try.f4 Rows.identBytesRow.domain false) (Rows.identBytesSpec.post enc Try.prog Try.f4 false true false false) :=
  law_lifted (C := Try.checked) (m := 20) own started (by kernel_rfl) Try.func4 rfl laidOut
    (fun t ht => by
      rw [Try.params4] at ht
      have ht : t = 30 ∨ t = 26 ∨ t = 32 := by simpa using ht
      rcases ht with rfl | rfl | rfl <;> exact ⟨by kernel_rfl, by kernel_rfl, of_decide_eq_true (by kernel_rfl)⟩)
    (tb := 4) (by kernel_rfl) Try.underlying4
    (ChangeSpec.witness6 (enc := enc) (C := Try.checked) false ⟨#[], #[.slice none 0 0, .agg #[.int .i64 0, .int .i64 0], .agg #[.slice none 0 0, .int .i64 0]], []⟩ 8 (by kernel_rfl) (by kernel_rfl) (by kernel_rfl) (by kernel_rfl))
    (fun ds hds => by
      rw [Try.params4] at hds
      match ds, hds with
      | [a, b, c], _ => rfl)
    identBytes_sound

theorem identBytes_holds : Rows.IdentBytesSaid :=
  OpenClaim.holds_of_wide 4 Try.f4 rfl rfl rfl rfl rfl rfl rfl ⟨rfl, rfl, rfl, rfl, rfl⟩ rfl rfl rfl rfl rfl (by kernel_rfl) Try.func4 (by kernel_rfl)
    (of_decide_eq_true (by kernel_rfl)) (by unfold Func.isWrapper; first | (rw [if_pos (by decide +kernel)]; kernel_rfl) | (rw [if_neg (by decide +kernel)]; exact ⟨rfl, rfl⟩))
    (fun os started H enc _ => identBytes_lifted os started H enc)
end Go.Proofs.Ytnflcbacobhoiaa.Sx
