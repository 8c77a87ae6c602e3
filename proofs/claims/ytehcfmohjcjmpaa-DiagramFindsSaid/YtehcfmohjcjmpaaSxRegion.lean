/- A region's operations, one behind the other. -/
import Derived.Test.YtehcfmohjcjmpaaSxDisp
namespace Go.Proofs.Ytehcfmohjcjmpaa.Sx
open Go Go.RowKit

/-- operations in the order of a list of their numbers -/
def evIdx (C : FuncId → List TV → Option TV) (lo : Nat) (ios : List IOper) : List Nat → St → Option St
  | [], st => some st
  | i :: s, st => match ios[i]? with
    | none => evIdx C lo ios s st
    | some o => match evOper C lo st o with
      | some st' => evIdx C lo ios s st'
      | none => none

section
variable {P : Program} {C : FuncId → List TV → Option TV} {N : Nat} {w0 : World} {ok0 : Nat → Prop} {ok : Nat → Prop} {a : Act} {w w' : World} {st st' : St} {ρ : Rho}
  {next : Act → World → Prop} {Q : Exit → Act → World → Prop} {o : Oper} {lo : Nat} {ops : Array Oper} {n : Nat}

theorem tmp_of (g : Gam N w0 ok0 st ok ρ a w) {d : Nat} (hd : d < N) : ∃ v, a.tmps[d]? = some v ∧ LRep w ok ρ st.hp (st.env d) v := by
  have hlt : d < a.tmps.size := by rw [g.size]; exact hd
  refine ⟨a.tmps[d], by simp [hlt], ?_⟩
  have h := g.env d
  rwa [show a.tmps.getD d undef = a.tmps[d] by simp [Array.getD_eq_getD_getElem?, hlt]] at h

theorem skip_ok (g : Gam N w0 ok0 st ok ρ a w) {d : Option Nat} (hd : ∀ k, d = some k → k < N) (he : skipK st d = some st') (hn : Into N w0 ok0 st' next) : next (a.put d undef) w := by
  cases d with
  | none =>
    obtain rfl := Option.some.inj he
    exact hn _ _ _ _ g
  | some k =>
    obtain rfl := Option.some.inj he
    exact hn _ _ _ _ (g.put (hd k rfl) (by simp only [LRep]; exact ⟨#[], rfl, by simp only [LReps]⟩))

theorem oper_ok (hC : Good P C) (g : Gam N w0 ok0 st ok ρ a w) (hnN : n ≤ N) (he : evOper C lo st (cOper P n ops o) = some st') (hn : Into N w0 ok0 st' next) :
    if Region.wanted o (yielded ops a.tmps) then o.wp P a w next Q ∨ (o.asks P a w ∧ LetsOut Q) else next (a.put o.dst undef) w := by
  unfold cOper at he
  split at he
  · rename_i i gd hc hg
    unfold cGuard at hg
    split at hg
    · rename_i hog
      obtain rfl := Option.some.inj hg
      simp only [Region.wanted, hog, if_true]
      exact .inl (opd_ok hC g hnN hc he hn)
    · rename_i j b hog
      split at hg
      · rename_i d hd
        obtain rfl := Option.some.inj hg
        have hdn : d < n ∧ ∃ p, ops[j]? = some p ∧ p.dst = some d := by
          unfold dstOf at hd
          split at hd
          · rename_i p hp
            split at hd
            · rename_i d' hpd
              split at hd
              · rename_i hlt
                obtain rfl := Option.some.inj hd
                exact ⟨hlt, p, hp, hpd⟩
              · cases hd
            · cases hd
          · cases hd
        obtain ⟨hlt, p, hp, hpd⟩ := hdn
        obtain ⟨v, hv, hr⟩ := tmp_of g (Nat.lt_of_lt_of_le hlt hnN)
        have hy : yielded ops a.tmps j = (match v with | .bool b => some b | _ => none) := by
          simp only [yielded, hp, Option.bind_some, hpd, hv]
          cases v <;> rfl
        have hskip : skipK st i.dst = some st' → next (a.put o.dst undef) w := fun h => by
          rw [cOpd_dst hc] at h
          exact skip_ok g (fun k hk => Nat.lt_of_lt_of_le (cOpd_lt hc hk) hnN) h hn
        simp only [evOper] at he
        unfold guardK at he
        split at he
        · rename_i b' hb
          rw [hb] at hr
          simp only [LRep, TRep] at hr
          subst hr
          simp only at hy
          split at he
          · rename_i e
            subst e
            simp only [Region.wanted, hog, hy, BEq.rfl, if_true]
            exact .inl (opd_ok hC g hnN hc he hn)
          · rename_i e
            have : Region.wanted o (yielded ops a.tmps) = false := by
              simp only [Region.wanted, hog, hy]
              simpa using e
            simp only [this]
            exact hskip he
        · rename_i hb
          rw [hb] at hr
          simp only [LRep] at hr
          obtain ⟨vs, rfl, _⟩ := hr
          simp only at hy
          have : Region.wanted o (yielded ops a.tmps) = false := by
            simp only [Region.wanted, hog, hy]
            rfl
          simp only [this]
          exact hskip he
        · cases he
      · cases hg
  · cases he

theorem cOpers_get : ∀ {os : List Oper} (k : Nat), (cOpers P n ops os)[k]? = (os[k]?).map (cOper P n ops)
  | [], k => by simp [cOpers]
  | o :: os, 0 => by simp [cOpers]
  | o :: os, k + 1 => by simp [cOpers, cOpers_get]

theorem wpOps_ok (hC : Good P C) (hnN : n ≤ N) : ∀ {s : List Nat} {st : St} {ok : Nat → Prop} {ρ : Rho} {a : Act} {w : World}, Gam N w0 ok0 st ok ρ a w → evIdx C lo (cOpers P n ops ops.toList) s st = some st' → Into N w0 ok0 st' (Q .normal) → wpOps P ops Q s a w
  | [], st, ok, ρ, a, w, g, he, hn => by
    obtain rfl := Option.some.inj he
    exact hn _ _ _ _ g
  | i :: s, st, ok, ρ, a, w, g, he, hn => by
    simp only [evIdx, cOpers_get, Array.getElem?_toList] at he
    simp only [wpOps]
    cases ho : ops[i]? with
    | none =>
      rw [ho] at he
      simp only [Option.map_none] at he
      exact wpOps_ok hC hnN g he hn
    | some o =>
      rw [ho] at he
      simp only [Option.map_some] at he
      cases h1 : evOper C lo st (cOper P n ops o) with
      | none => rw [h1] at he; cases he
      | some st1 =>
        rw [h1] at he
        exact oper_ok (next := wpOps P ops Q s) hC g hnN h1 fun ok ρ a w g' => wpOps_ok hC hnN g' he hn

theorem evOps_idx (ios : List IOper) : ∀ (r : List IOper) (k : Nat) (st : St), (∀ j, ios[k + j]? = r[j]?) → evOps C lo r (some st) = evIdx C lo ios (List.range' k r.length) st
  | [], k, st, _ => by simp [evOps, evIdx]
  | o :: r, k, st, h => by
    have h0 : ios[k]? = some o := by simpa using h 0
    simp only [evOps, List.length_cons, List.range'_succ, evIdx, h0]
    cases h1 : evOper C lo st o with
    | none => cases r <;> rfl
    | some st1 => exact evOps_idx ios r (k + 1) st1 fun j => by have := h (j + 1); simpa [Nat.add_assoc, Nat.add_comm 1 j] using this
theorem cOpers_length : ∀ {os : List Oper}, (cOpers P n ops os).length = os.length
  | [] => rfl
  | o :: os => by simp [cOpers, cOpers_length]
end
end Go.Proofs.Ytehcfmohjcjmpaa.Sx
