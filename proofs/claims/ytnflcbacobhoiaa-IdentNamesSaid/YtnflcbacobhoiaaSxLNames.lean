/- IdentNames holds: whichever two names and darts it is called with, it returns true, and they read as they did. -/
import Derived.Test.YtnflcbacobhoiaaSxD
import Derived.Test.YtnflcbacobhoiaaSxRead
import Derived.Test.YtnflcbacobhoiaaRows
namespace Go.Proofs.Ytnflcbacobhoiaa.Sx
open Go Go.RowKit Go.ChangeShapes Go.WideShapes Go.ChangeAt

theorem sh3 {n : Nat} {ts : List TV} (h : Shape Try.prog (n + 1) 3 ts) : ∃ a, ts = [.int .i64 a] ∧ IntKind.i64.has a := by
  unfold Shape at h; rw [Try.underlying3] at h; exact h
theorem sh26 {n : Nat} {ts : List TV} (h : Shape Try.prog (n + 2) 26 ts) : ∃ a b, ts = [.int .i64 a, .int .i64 b] ∧ IntKind.i64.has a ∧ IntKind.i64.has b := by
  unfold Shape at h; rw [Try.underlying26] at h
  obtain ⟨x, r, rfl, h1, y, r', rfl, h2, rfl⟩ := h
  obtain ⟨a, rfl, ha⟩ := sh3 h1
  obtain ⟨b, rfl, hb⟩ := sh3 h2
  exact ⟨a, b, rfl, ha, hb⟩
theorem sh39 {n : Nat} {ts : List TV} (h : Shape Try.prog (n + 3) 39 ts) : ∃ a b c, ts = [.int .i64 a, .int .i64 b, .int .i64 c] ∧ IntKind.i64.has a ∧ IntKind.i64.has b ∧ IntKind.i64.has c := by
  unfold Shape at h; rw [Try.underlying39] at h
  obtain ⟨x, r, rfl, h1, y, r', rfl, h2, rfl⟩ := h
  obtain ⟨a, b, rfl, ha, hb⟩ := sh26 h1
  obtain ⟨c, rfl, hc⟩ := sh3 h2
  exact ⟨a, b, c, rfl, ha, hb, hc⟩
theorem agg_of {t : TypeId} {n : Nat} {a : TV} (hagg : isAggB Try.prog t = true) (h : ArgShape Try.prog n t a) : ∃ ts, a = .agg ts ∧ Shape Try.prog n t ts := by
  unfold ArgShape at h; rw [if_pos hagg] at h; exact h
theorem plain_of {t : TypeId} {n : Nat} {a : TV} (hagg : isAggB Try.prog t = false) (h : ArgShape Try.prog n t a) : Shape Try.prog n t [a] := by
  unfold ArgShape at h; rw [if_neg (by rw [hagg]; simp)] at h; exact h
theorem own : ownKnob Try.prog.godebug = none := by kernel_rfl
theorem laidOut : laidOutB Try.prog = true := by kernel_rfl

theorem names_sound (xs : List TV) (h : ArgsShape Try.prog 20 Try.f6.params.toList xs) : Sound Try.prog 6 xs (.bool true) := by
  rw [Try.params6] at h
  obtain ⟨a, r, rfl, h1, b, r', rfl, h2, c, r'', rfl, h3, rfl⟩ := h
  obtain ⟨ts, rfl, k1⟩ := agg_of (by kernel_rfl) h1
  obtain ⟨us, rfl, k2⟩ := agg_of (by kernel_rfl) h2
  obtain ⟨vs, rfl, k3⟩ := agg_of (by kernel_rfl) h3
  obtain ⟨a1, a2, rfl, _, _⟩ := sh26 k1
  obtain ⟨b1, b2, rfl, _, _⟩ := sh26 k2
  unfold Shape at k3; rw [Try.underlying44] at k3
  obtain ⟨x, r, rfl, h4, y, r', rfl, h5, rfl⟩ := k3
  obtain ⟨c1, c2, c3, rfl, _, _, hc⟩ := sh39 h4
  obtain ⟨d1, d2, d3, rfl, _, _, _⟩ := sh39 h5
  exact good _ _ _ (t6 a1 a2 b1 b2 c1 c2 c3 d1 d2 d3 hc)

set_option maxRecDepth 100000 in
theorem names_lifted (os : Os) (started : os.Started) (H : Type) (enc : TypeId × Value → H) :
    ReturnsInHanded {} Try.checked os 6 .any (Rows.identNamesSpec.pre6 enc Try.prog Try.f6 Rows.identNamesRow.domain false) (Rows.identNamesSpec.post enc Try.prog Try.f6 false true false false) :=
  law_lifted (C := Try.checked) (m := 20) own started (by kernel_rfl) Try.func6 rfl laidOut
    (fun t ht => by
      rw [Try.params6] at ht
      have ht : t = 26 ∨ t = 26 ∨ t = 44 := by simpa using ht
      rcases ht with rfl | rfl | rfl <;> exact ⟨by kernel_rfl, by kernel_rfl, of_decide_eq_true (by kernel_rfl)⟩)
    (tb := 4) (by kernel_rfl) Try.underlying4
    (ChangeSpec.witness6 (enc := enc) (C := Try.checked) false ⟨#[], #[.agg #[.int .i64 0, .int .i64 0], .agg #[.int .i64 0, .int .i64 0], .agg #[.int .i64 0, .int .i64 0, .int .i64 0, .int .i64 0, .int .i64 0, .int .i64 0]], []⟩ 8 (by kernel_rfl) (by kernel_rfl) (by kernel_rfl) (by kernel_rfl))
    (fun ds hds => by
      rw [Try.params6] at hds
      match ds, hds with
      | [a, b, c], _ => rfl)
    names_sound

theorem names_holds : Rows.IdentNamesSaid :=
  OpenClaim.holds_of_wide 6 Try.f6 rfl rfl rfl rfl rfl rfl rfl ⟨rfl, rfl, rfl, rfl, rfl⟩ rfl rfl rfl rfl rfl (by kernel_rfl) Try.func6 (by kernel_rfl)
    (of_decide_eq_true (by kernel_rfl)) (by unfold Func.isWrapper; first | (rw [if_pos (by decide +kernel)]; kernel_rfl) | (rw [if_neg (by decide +kernel)]; exact ⟨rfl, rfl⟩))
    (fun os started H enc _ => names_lifted os started H enc)
end Go.Proofs.Ytnflcbacobhoiaa.Sx
