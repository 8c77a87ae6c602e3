/- RingBack holds: whatever it is called with, it returns true, and that reads as it did. -/
import Derived.Test.YtimgmeolllcapaaSxB
import Derived.Test.YtimgmeolllcapaaSxSh
namespace Go.Proofs.Ytimgmeolllcapaa.Sx
open Go Go.RowKit Go.ChangeShapes Go.WideShapes Go.ChangeAt

theorem ringBack_sound (xs : List TV) (h : ArgsShape Try.prog 20 Try.f7.params.toList xs) : Sound Try.prog 7 xs (.bool true) := by
  rw [Try.params7] at h
  obtain ⟨a, r, rfl, h1, b, r', rfl, h2, c, r'', rfl, h3, rfl⟩ := h
  obtain ⟨l, e1⟩ := shDarts (plain_of (by kernel_rfl) h1)
  obtain rfl := (List.cons.inj e1).1
  obtain ⟨_, rfl, h2q⟩ := agg_of (by kernel_rfl) h2
  obtain ⟨x, y, rfl⟩ := shDart2 h2q
  obtain ⟨at_, e3, _⟩ := shInt (plain_of (by kernel_rfl) h3)
  obtain rfl := (List.cons.inj e3).1
  exact good _ _ _ (t_back l x y at_)
set_option maxRecDepth 100000 in
theorem ringBack_lifted (os : Os) (started : os.Started) (H : Type) (enc : TypeId × Value → H) :
    ReturnsInHanded {} Try.checked os 7 .any (Rows.ringBackSpec.pre6 enc Try.prog Try.f7 Rows.ringBackRow.domain false) (Rows.ringBackSpec.post enc Try.prog Try.f7 false true false false) :=
  law_lifted (C := Try.checked) (m := 20) own started (by kernel_rfl) Try.func7 rfl laidOut
    (fun t ht => by
      rw [Try.params7] at ht
      have ht : t = 22 ∨ t = 36 ∨ t = 3 := by simpa using ht
      rcases ht with rfl | rfl | rfl <;> exact ⟨by kernel_rfl, by kernel_rfl, of_decide_eq_true (by kernel_rfl)⟩)
    (tb := 4) (by kernel_rfl) Try.underlying4
    (ChangeSpec.witness6 (enc := enc) (C := Try.checked) false ⟨#[], #[.slice none 0 0, .agg #[.int .i64 0, .int .i64 0, .int .i64 0, .int .i64 0, .int .i64 0, .int .i64 0], .int .i64 0], []⟩ 8 (by kernel_rfl) (by kernel_rfl) (by kernel_rfl) (by kernel_rfl))
    (fun ds hds => by
      rw [Try.params7] at hds
      match ds, hds with
      | [a, b, c], _ => rfl)
    ringBack_sound

theorem ringBack_holds : Rows.RingBackSaid :=
  OpenClaim.holds_of_wide 7 Try.f7 rfl rfl rfl rfl rfl rfl rfl ⟨rfl, rfl, rfl, rfl, rfl⟩ rfl rfl rfl rfl rfl (by kernel_rfl) Try.func7 (by kernel_rfl)
    (of_decide_eq_true (by kernel_rfl)) (by unfold Func.isWrapper; first | (rw [if_pos (by decide +kernel)]; kernel_rfl) | (rw [if_neg (by decide +kernel)]; exact ⟨rfl, rfl⟩))
    (fun os started H enc _ => ringBack_lifted os started H enc)
end Go.Proofs.Ytimgmeolllcapaa.Sx
