/- What the evaluator takes a piece of code for, the code does. -/
import Derived.Test.YtehcfmohjcjmpaaSxGcOk
import Derived.Scope
namespace Go.Proofs.Ytehcfmohjcjmpaa.Sx
open Go Go.RowKit

theorem least {p : Nat → Prop} (h : ∃ k, p k) : ∃ k, p k ∧ ∀ j < k, ¬ p j := by
  obtain ⟨k, hk⟩ := h
  induction k using Nat.strongRecOn with
  | _ k ih =>
    by_cases h : ∃ j < k, p j
    · obtain ⟨j, hj, hp⟩ := h
      exact ih j hj hp
    · exact ⟨k, hk, fun j hj hp => h ⟨j, hj, hp⟩⟩

open Classical in
noncomputable def leastOf (p : Nat → Prop) : Nat := if h : ∃ k, p k then (least h).choose else 0
theorem leastOf_spec {p : Nat → Prop} (h : ∃ k, p k) : p (leastOf p) := by
  unfold leastOf; rw [dif_pos h]; exact (least h).choose_spec.1
theorem leastOf_le {p : Nat → Prop} {k : Nat} (h : p k) : leastOf p ≤ k := by
  have he : ∃ k, p k := ⟨k, h⟩
  unfold leastOf; rw [dif_pos he]
  rcases Nat.lt_or_ge k (least he).choose with h' | h'
  · exact absurd h ((least he).choose_spec.2 k h')
  · exact h'

theorem wp_loop_fuel {P : Program} {c : Code} {Q : Exit → Act → World → Prop} (J : Nat → Act → World → Prop) {k : Nat} {a : Act} {w : World} (h : J k a w)
    (round : ∀ k a w, J k a w → c.wp P (Exit.then (fun a' w' => ∃ k', k' < k ∧ J k' a' w') Q) a w) : (Code.loop c).wp P Q a w := by
  refine wp_loop (fun a w => ∃ k, J k a w) (fun a w => leastOf fun k => J k a w) ⟨k, h⟩ fun a w hI => ?_
  refine wp_mono (round _ a w (leastOf_spec hI)) fun e a' w' hq => ?_
  cases e with
  | normal =>
    obtain ⟨k', hlt, hJ⟩ := hq
    exact ⟨⟨k', hJ⟩, Nat.lt_of_le_of_lt (leastOf_le hJ) hlt⟩
  | _ => exact hq

def toExit : Ex → Exit
  | .norm => .normal
  | .exit id => .exit id
  | .ret => .ret

/-- wherever what is left is told, Q holds -/
def Out (N : Nat) (w0 : World) (ok0 : Nat → Prop) (r : Ex × St) (Q : Exit → Act → World → Prop) : Prop := ∀ ok ρ a w, Gam N w0 ok0 r.2 ok ρ a w → Q (toExit r.1) a w

section
variable {P : Program} {C : FuncId → List TV → Option TV} {N : Nat} {w0 : World} {ok0 : Nat → Prop} {lo n : Nat} {A B : List (Nat × GC)}

theorem regK_some {g : GC} {x : Option St} {r : Ex × St} (h : regK lo g x = some r) : ∃ st, x = some st ∧ r = (.norm, g.run lo st) := by
  cases x with
  | none => cases h
  | some st => exact ⟨st, rfl, (Option.some.inj h).symm⟩
theorem ev_bad {m : Nat} {st : St} {r : Ex × St} (h : ev C lo m .bad st = some r) : False := by cases m <;> cases h
theorem orBad_ok {b : Bool} {c : ICode} {m : Nat} {st : St} {r : Ex × St} (h : ev C lo m (orBad b c) st = some r) : b = true ∧ ev C lo m c st = some r := by
  unfold orBad at h
  split at h
  · exact ⟨by assumption, h⟩
  · exact (ev_bad h).elim

theorem code_ok (hC : Good P C) (hmix : P.follows .mixedOrders = true) (hnN : n ≤ N) : ∀ (c : Code) {m : Nat} {st : St} {r : Ex × St} {ok : Nat → Prop} {ρ : Rho} {a : Act} {w : World} {Q : Exit → Act → World → Prop},
    ev C lo m (cCode P n A B c) st = some r → Gam N w0 ok0 st ok ρ a w → Out N w0 ok0 r Q → c.wp P Q a w := by
  intro c
  induction c with
  | skip =>
    intro m st r ok ρ a w Q h g hq
    cases m with
    | zero => cases h
    | succ m =>
      obtain rfl := Option.some.inj h
      exact wp_skip (hq _ _ _ _ g)
  | region id ops draw =>
    intro m st r ok ρ a w Q h g hq
    cases draw with
    | false =>
      simp only [cCode] at h
      obtain ⟨hg, h⟩ := orBad_ok h
      cases m with
      | zero => cases h
      | succ m =>
        simp only [ev] at h
        obtain ⟨st1, h1, rfl⟩ := regK_some h
        rw [evOps_idx (cOpers P n ops ops.toList) (cOpers P n ops ops.toList) 0 st (by simp), cOpers_length, ← List.range_eq_range'] at h1
        refine wp_region (wpOps_ok hC hnN g (by simpa using h1) fun ok ρ a w g' => hq _ _ _ _ (g'.gc hg))
    | true =>
      simp only [cCode] at h
      obtain ⟨hg, h⟩ := orBad_ok h
      simp only [Bool.and_eq_true] at hg
      cases m with
      | zero => cases h
      | succ m =>
        simp only [ev] at h
        obtain ⟨st1, h1, rfl⟩ := regK_some h
        refine wp_region_draw fun t => ?_
        rw [hmix]
        exact wpOps_ok hC hnN g.drew (draw_idx h1 hg.2 t) fun ok ρ a w g' => hq _ _ _ _ (g'.gc hg.1)
  | seq x y ihx ihy =>
    intro m st r ok ρ a w Q h g hq
    cases m with
    | zero => cases h
    | succ m =>
      simp only [cCode, ev] at h
      refine wp_seq ?_
      cases hx : ev C lo m (cCode P n A B x) st with
      | none => rw [hx] at h; cases h
      | some q =>
        rw [hx] at h
        refine ihx hx g fun ok' ρ' a' w' g' => ?_
        obtain ⟨e, st1⟩ := q
        cases e with
        | norm => exact ihy h g' hq
        | exit i =>
          obtain rfl := Option.some.inj h
          exact hq _ _ _ _ g'
        | ret =>
          obtain rfl := Option.some.inj h
          exact hq _ _ _ _ g'
  | cond c x y ihx ihy =>
    intro m st r ok ρ a w Q h g hq
    simp only [cCode] at h
    split at h
    · rename_i x' hx
      cases m with
      | zero => cases h
      | succ m =>
        simp only [ev] at h
        have hr := rd_ok g hx
        unfold condK at h
        split at h
        · rename_i hb
          rw [hb] at hr
          simp only [LRep, TRep] at hr
          split at h
          · rename_i e
            subst e
            exact wp_cond_true hr (ihx h g hq)
          · rename_i b e
            cases b with
            | true => exact absurd rfl e
            | false => exact wp_cond_false hr (ihy h g hq)
        · cases h
    · exact (ev_bad h).elim
  | block id b ih =>
    intro m st r ok ρ a w Q h g hq
    cases m with
    | zero => cases h
    | succ m =>
      simp only [cCode, ev] at h
      refine wp_block ?_
      cases hx : ev C lo m (cCode P n A B b) st with
      | none => rw [hx] at h; cases h
      | some q =>
        rw [hx] at h
        refine ih hx g fun ok' ρ' a' w' g' => ?_
        obtain ⟨e, st1⟩ := q
        cases e with
        | norm =>
          obtain rfl := Option.some.inj h
          exact hq _ _ _ _ g'
        | exit i =>
          simp only [blockK] at h
          simp only [toExit, Exit.inBlock]
          split at h
          · rename_i e
            rw [if_pos e]
            obtain rfl := Option.some.inj h
            exact hq _ _ _ _ g'
          · rename_i e
            rw [if_neg e]
            obtain rfl := Option.some.inj h
            exact hq _ _ _ _ g'
        | ret =>
          obtain rfl := Option.some.inj h
          exact hq _ _ _ _ g'
  | loop b ih =>
    intro m st r ok ρ a w Q h g hq
    simp only [cCode] at h
    refine wp_loop_fuel (fun k a w => ∃ st ok ρ, ev C lo k (.loop (cCode P n A B b)) st = some r ∧ Gam N w0 ok0 st ok ρ a w) (k := m) ⟨st, ok, ρ, h, g⟩ ?_
    rintro k a w ⟨st, ok, ρ, h, g⟩
    cases k with
    | zero => cases h
    | succ k =>
      simp only [ev] at h
      cases hx : ev C lo k (cCode P n A B b) st with
      | none => rw [hx] at h; cases h
      | some q =>
        rw [hx] at h
        refine ih hx g fun ok' ρ' a' w' g' => ?_
        obtain ⟨e, st1⟩ := q
        cases e with
        | norm => exact ⟨k, Nat.lt_succ_self _, st1, ok', ρ', h, g'⟩
        | exit i =>
          obtain rfl := Option.some.inj h
          exact hq _ _ _ _ g'
        | ret =>
          obtain rfl := Option.some.inj h
          exact hq _ _ _ _ g'
  | exit id =>
    intro m st r ok ρ a w Q h g hq
    simp only [cCode] at h
    obtain ⟨hg, h⟩ := orBad_ok h
    match m, h with
    | 0, h => cases h
    | 1, h => cases h
    | m + 2, h =>
      obtain rfl := Option.some.inj h
      exact wp_exit (hq _ _ _ _ (g.gc hg))
  | ret =>
    intro m st r ok ρ a w Q h g hq
    cases m with
    | zero => cases h
    | succ m =>
      obtain rfl := Option.some.inj h
      exact wp_ret (hq _ _ _ _ g)
  | scope b ih =>
    intro m st r ok ρ a w Q h g hq
    simp only [cCode] at h
    refine wp_scope_straight (ih h g fun ok ρ a w g' => ?_)
    have := hq ok ρ a w g'
    obtain ⟨e, st1⟩ := r
    cases e <;> exact this
  | label l =>
    intro m st r ok ρ a w Q h g hq
    cases m with
    | zero => cases h
    | succ m =>
      obtain rfl := Option.some.inj h
      exact wp_label (hq _ _ _ _ g)
  | _ => intro m st r ok ρ a w Q h g hq; exact (ev_bad h).elim
end
end Go.Proofs.Ytehcfmohjcjmpaa.Sx
