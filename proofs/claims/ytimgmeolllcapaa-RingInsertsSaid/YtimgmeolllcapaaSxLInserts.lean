/- RingInserts holds: whatever it is called with, it returns true, and that reads as it did. -/
import Derived.Test.YtimgmeolllcapaaSxI
import Derived.Test.YtimgmeolllcapaaSxSh
namespace Go.Proofs.Ytimgmeolllcapaa.Sx
open Go Go.RowKit Go.ChangeShapes Go.WideShapes Go.ChangeAt

theorem ringInserts_sound (xs : List TV) (h : ArgsShape Try.prog 20 Try.f5.params.toList xs) : Sound Try.prog 5 xs (.bool true) := by
  rw [Try.params5] at h
  obtain ⟨a, r, rfl, h1, b, r', rfl, h2, rfl⟩ := h
  obtain ⟨l, e1⟩ := shDarts (plain_of (by kernel_rfl) h1)
  obtain rfl := (List.cons.inj e1).1
  obtain ⟨m, e2⟩ := shDarts (plain_of (by kernel_rfl) h2)
  obtain rfl := (List.cons.inj e2).1
  exact good _ _ _ (t_inserts l m)
set_option maxRecDepth 100000 in
theorem ringInserts_lifted (os : Os) (started : os.Started) (H : Type) (enc : TypeId × Value → H) :
    ReturnsInHanded {} Try.checked os 5 .any (Rows.ringInsertsSpec.pre6 enc Try.prog Try.f5 Rows.ringInsertsRow.domain false) (Rows.ringInsertsSpec.post enc Try.prog Try.f5 false true false false) :=
  law_lifted (C := Try.checked) (m := 20) own started (by kernel_rfl) Try.func5 rfl laidOut
    (fun t ht => by
      rw [Try.params5] at ht
      have ht : t = 22 ∨ t = 22 := by simpa using ht
      rcases ht with rfl | rfl <;> exact ⟨by kernel_rfl, by kernel_rfl, of_decide_eq_true (by kernel_rfl)⟩)
    (tb := 4) (by kernel_rfl) Try.underlying4
    (ChangeSpec.witness6 (enc := enc) (C := Try.checked) false ⟨#[], #[.slice none 0 0, .slice none 0 0], []⟩ 8 (by kernel_rfl) (by kernel_rfl) (by kernel_rfl) (by kernel_rfl))
    (fun ds hds => by
      rw [Try.params5] at hds
      match ds, hds with
      | [a, b], _ => rfl)
    ringInserts_sound

theorem ringInserts_holds : Rows.RingInsertsSaid :=
  OpenClaim.holds_of_wide 5 Try.f5 rfl rfl rfl rfl rfl rfl rfl ⟨rfl, rfl, rfl, rfl, rfl⟩ rfl rfl rfl rfl rfl (by kernel_rfl) Try.func5 (by kernel_rfl)
    (of_decide_eq_true (by kernel_rfl)) (by unfold Func.isWrapper; first | (rw [if_pos (by decide +kernel)]; kernel_rfl) | (rw [if_neg (by decide +kernel)]; exact ⟨rfl, rfl⟩))
    (fun os started H enc _ => ringInserts_lifted os started H enc)
end Go.Proofs.Ytimgmeolllcapaa.Sx
