/- AnchorChains holds: whatever it is called with, it returns true, and that reads as it did. -/
import Derived.Test.YtjhbejlpmchhfaaSxC
import Derived.Test.YtjhbejlpmchhfaaSxSh
namespace Go.Proofs.Ytjhbejlpmchhfaa.Sx
open Go Go.RowKit Go.ChangeShapes Go.WideShapes Go.ChangeAt

theorem anchorChains_sound (xs : List TV) (h : ArgsShape Try.prog 20 Try.f4.params.toList xs) : Sound Try.prog 4 xs (.bool true) := by
  rw [Try.params4] at h
  obtain ⟨a, r, rfl, h1, b, r', rfl, h2, c, r'', rfl, h3, rfl⟩ := h
  obtain ⟨x, e1, _⟩ := shInt (plain_of (by kernel_rfl) h1)
  obtain rfl := (List.cons.inj e1).1
  obtain ⟨y, e2, _⟩ := shInt (plain_of (by kernel_rfl) h2)
  obtain rfl := (List.cons.inj e2).1
  obtain ⟨z, e3⟩ := shBool (plain_of (by kernel_rfl) h3)
  obtain rfl := (List.cons.inj e3).1
  exact good _ _ _ (t_chains x y z)
set_option maxRecDepth 100000 in
theorem anchorChains_lifted (os : Os) (started : os.Started) (H : Type) (enc : TypeId × Value → H) :
    ReturnsInHanded {} Try.checked os 4 .any (Rows.anchorChainsSpec.pre6 enc Try.prog Try.f4 Rows.anchorChainsRow.domain false) (Rows.anchorChainsSpec.post enc Try.prog Try.f4 false true false false) :=
  law_lifted (C := Try.checked) (m := 20) own started (by kernel_rfl) Try.func4 rfl laidOut
    (fun t ht => by
      rw [Try.params4] at ht
      have ht : t = 3 ∨ t = 3 ∨ t = 4 := by simpa using ht
      rcases ht with rfl | rfl | rfl <;> exact ⟨by kernel_rfl, by kernel_rfl, of_decide_eq_true (by kernel_rfl)⟩)
    (tb := 4) (by kernel_rfl) Try.underlying4
    (ChangeSpec.witness6 (enc := enc) (C := Try.checked) false ⟨#[], #[.int .i64 0, .int .i64 0, .bool false], []⟩ 8 (by kernel_rfl) (by kernel_rfl) (by kernel_rfl) (by kernel_rfl))
    (fun ds hds => by
      rw [Try.params4] at hds
      match ds, hds with
      | [a, b, c], _ => rfl)
    anchorChains_sound

theorem anchorChains_holds : Rows.AnchorChainsSaid :=
  OpenClaim.holds_of_wide 4 Try.f4 rfl rfl rfl rfl rfl rfl rfl ⟨rfl, rfl, rfl, rfl, rfl⟩ rfl rfl rfl rfl rfl (by kernel_rfl) Try.func4 (by kernel_rfl)
    (of_decide_eq_true (by kernel_rfl)) (by unfold Func.isWrapper; first | (rw [if_pos (by decide +kernel)]; kernel_rfl) | (rw [if_neg (by decide +kernel)]; exact ⟨rfl, rfl⟩))
    (fun os started H enc _ => anchorChains_lifted os started H enc)
end Go.Proofs.Ytjhbejlpmchhfaa.Sx
