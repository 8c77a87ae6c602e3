/- The evaluator's single operations are sound, the ninth lot: equal structs. -/
import Derived.Test.YtehcfmohjcjmpaaSxOps8
namespace Go.Proofs.Ytehcfmohjcjmpaa.Sx
open Go Go.RowKit
section
variable {P : Program} {N : Nat} {w0 : World} {ok0 : Nat → Prop} {st st' : St} {ok : Nat → Prop} {ρ : Rho} {a : Act} {w w' : World}
  {next : Act → World → Prop} {Q : Exit → Act → World → Prop} {o : Oper}

def eqVal : Lk → Value → Value → Option Bool
  | .i, .int k a, .int k' b => if k = k' then some (a == b) else none
  | .b, .bool a, .bool b => some (a == b)
  | .z, .string a, .string b => some (a.toList == b.toList)
  | _, _, _ => none
def eqVals : List Lk → List Value → List Value → Option Bool
  | [], [], [] => some true
  | k :: ks, x :: xs, y :: ys => andO (eqVal k x y) (eqVals ks xs ys)
  | _, _, _ => none

theorem andO_some {x y : Option Bool} {r : Bool} (h : andO x y = some r) : ∃ p q, x = some p ∧ y = some q ∧ r = (p && q) := by
  unfold andO at h
  split at h
  · exact ⟨_, _, rfl, rfl, (Option.some.inj h).symm⟩
  · cases h

theorem eqCell_val {k : Lk} {x y : LV} {r : Bool} (h : eqCell k x y = some r) {u v : Value} (hu : LRep w ok ρ st.hp x u) (hv : LRep w ok ρ st.hp y v) : eqVal k u v = some r := by
  unfold eqCell at h
  split at h
  · rw [lv_int hu, lv_int hv]; exact h
  · rw [lv_bool hu, lv_bool hv]; exact h
  · rw [lv_str hu, lv_str hv]; exact h
  · cases h
theorem eqCells_vals : ∀ {ks : List Lk} {xs ys : List LV} {r : Bool}, eqCells ks xs ys = some r → ∀ {us vs : List Value}, LReps w ok ρ st.hp true xs us → LReps w ok ρ st.hp true ys vs → eqVals ks us vs = some r
  | [], [], [], r, h, us, vs, hu, hv => by
    simp only [LReps] at hu hv
    subst hu
    subst hv
    exact h
  | k :: ks, x :: xs, y :: ys, r, h, us, vs, hu, hv => by
    simp only [eqCells] at h
    obtain ⟨p, q, h1, h2, rfl⟩ := andO_some h
    simp only [LReps] at hu hv
    obtain ⟨u, us', rfl, _, u3, u4⟩ := hu
    obtain ⟨v, vs', rfl, _, v3, v4⟩ := hv
    simp only [eqVals, eqCell_val h1 u3 v3, eqCells_vals h2 u4 v4, andO]
  | [], _ :: _, _, r, h, _, _, _, _ => by simp [eqCells] at h
  | [], [], _ :: _, r, h, _, _, _, _ => by simp [eqCells] at h
  | _ :: _, [], _, r, h, _, _, _, _ => by simp [eqCells] at h
  | _ :: _, _ :: _, [], r, h, _, _, _, _ => by simp [eqCells] at h

theorem eqVals_append : ∀ {k1 k2 : List Lk} {xs ys : List Value} {r : Bool}, eqVals (k1 ++ k2) xs ys = some r →
    ∃ p q, eqVals k1 (xs.take k1.length) (ys.take k1.length) = some p ∧ eqVals k2 (xs.drop k1.length) (ys.drop k1.length) = some q ∧ r = (p && q)
  | [], k2, xs, ys, r, h => ⟨true, r, rfl, h, by simp⟩
  | k :: k1, k2, x :: xs, y :: ys, r, h => by
    simp only [List.cons_append, eqVals] at h
    obtain ⟨p, q, h1, h2, rfl⟩ := andO_some h
    obtain ⟨p', q', h3, h4, rfl⟩ := eqVals_append h2
    exact ⟨p && p', q', by simp [eqVals, h1, h3, andO], by simpa using h4, by rw [Bool.and_assoc]⟩
  | _ :: _, _, [], _, r, h => by simp [eqVals] at h
  | _ :: _, _, _ :: _, [], r, h => by simp [eqVals] at h
theorem eqVals_length : ∀ {ks : List Lk} {xs ys : List Value} {r : Bool}, eqVals ks xs ys = some r → xs.length = ks.length ∧ ys.length = ks.length
  | [], [], [], r, h => ⟨rfl, rfl⟩
  | k :: ks, x :: xs, y :: ys, r, h => by
    simp only [eqVals] at h
    obtain ⟨p, q, h1, h2, rfl⟩ := andO_some h
    have := eqVals_length h2
    simp [this.1, this.2]
  | [], _ :: _, _, r, h => by simp [eqVals] at h
  | [], [], _ :: _, r, h => by simp [eqVals] at h
  | _ :: _, [], _, r, h => by simp [eqVals] at h
  | _ :: _, _ :: _, [], r, h => by simp [eqVals] at h

theorem flatFs_sound {k : TypeId → Option (List Lk)} {d : Nat} (hk : ∀ t ks, k t = some ks → (∃ u, P.underlying t = some u) ∧ ∀ (xs ys : List Value) (r : Bool) (w : World), eqVals ks xs ys = some r →
      (Op.equalIn d t (packV (isAggB P t) xs) (packV (isAggB P t) ys)).run P w = .ok r w) :
    ∀ {fs : List Field} {off : Nat} {ks : List Lk}, flatFs P k fs off = some ks → ∀ (xs ys : Array Value) (r : Bool) (w : World), eqVals ks (xs.toList.drop off) (ys.toList.drop off) = some r →
      (Op.eqFields d xs ys fs).run P w = .ok r w
  | [], off, ks, h, xs, ys, r, w, he => by
    simp only [flatFs, Option.some.injEq] at h
    subst h
    obtain rfl : true = r := by
      have := eqVals_length he
      have h1 : xs.toList.drop off = [] := List.eq_nil_of_length_eq_zero this.1
      have h2 : ys.toList.drop off = [] := List.eq_nil_of_length_eq_zero this.2
      rw [h1, h2] at he
      simpa [eqVals] using he
    rfl
  | f :: fs, off, ks, h, xs, ys, r, w, he => by
    simp only [flatFs] at h
    split at h
    · rename_i k1 k2 h1 h2
      split at h
      · rename_i hc
        obtain ⟨hname, hoff, hsz, hag, hpos⟩ := hc
        obtain rfl := Option.some.inj h
        obtain ⟨⟨u, hu⟩, hrun⟩ := hk _ _ h1
        obtain ⟨p, q, e1, e2, rfl⟩ := eqVals_append he
        rw [List.drop_drop, List.drop_drop] at e2
        rw [hsz] at h2
        have hlen := eqVals_length he
        simp only [List.length_append, List.length_drop, Array.length_toList] at hlen
        have hl1 := eqVals_length e1
        simp only [List.length_take, List.length_drop, Array.length_toList] at hl1
        have hfx : f.offset + k1.length ≤ xs.size := by omega
        have hfy : f.offset + k1.length ≤ ys.size := by omega
        have px := run_part (P := P) w hu hsz xs f.offset hfx hag
        have py := run_part (P := P) w hu hsz ys f.offset hfy hag
        have ih := flatFs_sound hk h2 xs ys q w e2
        rw [hoff] at px py
        have hr := hrun _ _ p w e1
        simp only [Op.eqFields, hname, ne_eq, not_false_eq_true, if_true, Sem.run_bind, hoff, px, Result.andThen_ok, py, hr, Sem.run_ite]
        cases p with
        | true => simpa using ih
        | false => simp
      · cases h
    · cases h

theorem flatEq_sound : ∀ (n : Nat) {t : TypeId} {ks : List Lk}, flatEq P n t = some ks → ∀ d, n ≤ d → (∃ u, P.underlying t = some u) ∧ ∀ (xs ys : List Value) (r : Bool) (w : World), eqVals ks xs ys = some r →
    (Op.equalIn d t (packV (isAggB P t) xs) (packV (isAggB P t) ys)).run P w = .ok r w
  | 0, t, ks, h, d, _ => by cases h
  | n + 1, t, ks, h, d, hd => by
    obtain ⟨d, rfl⟩ : ∃ e, d = e + 1 := ⟨d - 1, by omega⟩
    have leaf : ∀ {k : Lk} {u : TypeDesc}, P.underlying t = some u → isAggB P t = false → (∀ x y r w, eqVal k x y = some r → (Op.equalIn (d + 1) t x y).run P w = .ok r w) →
        ∀ (xs ys : List Value) (r : Bool) (w : World), eqVals [k] xs ys = some r → (Op.equalIn (d + 1) t (packV (isAggB P t) xs) (packV (isAggB P t) ys)).run P w = .ok r w := by
      intro k u hu ha hx xs ys r w he
      obtain ⟨l1, l2⟩ := eqVals_length he
      match xs, ys, l1, l2, he with
      | [x], [y], _, _, he =>
        simp only [eqVals] at he
        obtain ⟨p, q, h1, h2, rfl⟩ := andO_some he
        obtain rfl := Option.some.inj h2
        simp only [packV, ha, Bool.false_eq_true, if_false, List.headD_cons, Bool.and_true]
        exact hx x y p w h1
    simp only [flatEq] at h
    split at h
    · rename_i hu
      obtain rfl := Option.some.inj h
      refine ⟨⟨_, hu⟩, leaf hu (by simp [isAggB, hu]) fun x y r w he => ?_⟩
      unfold eqVal at he
      split at he
      · cases ‹Lk.b = Lk.i›
      · rw [← Option.some.inj he]; exact run_equalIn_bool w d t _ _ hu
      · cases ‹Lk.b = Lk.z›
      · cases he
    · rename_i k0 hu
      obtain rfl := Option.some.inj h
      refine ⟨⟨_, hu⟩, leaf hu (by simp [isAggB, hu]) fun x y r w he => ?_⟩
      unfold eqVal at he
      split at he
      · split at he
        · rename_i hkk
          subst hkk
          rw [← Option.some.inj he]; exact run_equalIn_int w d t _ k0 _ _ hu
        · cases he
      · cases ‹Lk.i = Lk.b›
      · cases ‹Lk.i = Lk.z›
      · cases he
    · rename_i hu
      obtain rfl := Option.some.inj h
      refine ⟨⟨_, hu⟩, leaf hu (by simp [isAggB, hu]) fun x y r w he => ?_⟩
      unfold eqVal at he
      split at he
      · cases ‹Lk.z = Lk.i›
      · cases ‹Lk.z = Lk.b›
      · rw [← Option.some.inj he]; exact run_equalIn_string w d t _ _ hu
      · cases he
    · rename_i fs hu
      split at h
      · cases h
      · rename_i hst
        refine ⟨⟨_, hu⟩, fun xs ys r w he => ?_⟩
        have ha : isAggB P t = true := by simp [isAggB, hu]
        have hfo : P.fieldsOf t = fs := by simp [Program.fieldsOf, hu]
        simp only [packV, ha, if_true]
        rw [run_equalIn_struct w d t _ _ (by rw [hfo]; exact hu) (by simpa using hst), hfo]
        exact flatFs_sound (fun t ks h => flatEq_sound n h d (by omega)) h _ _ r w (by simpa using he)
    · cases h

theorem op_eqs (g : Gam N w0 ok0 st ok ρ a w) {d : Nat} (hd : o.dst = some d) (hN : d < N) {t t1 t2 u : TypeId} {fs : Array Field} {op : BinOp} {neg : Bool} {ks : List Lk} {x y : Operand} {x' y' : X} (ho : o.op = .binOp op t x y u) (hop : op = if neg then .neq else .eql)
    (hx : cX P t1 x = some x') (hy : cX P t2 y = some y') (ht : P.underlying t = some (.struct fs)) (hk : flatEq P 10 t = some ks) (hg : P.eqGuardType P.depth t = false)
    (he : setV st d (eqL neg ks (x'.rd st.env) (y'.rd st.env)) = some st') (hn : Into N w0 ok0 st' next) : o.wp P a w next Q := by
  obtain ⟨r, hr, rfl⟩ := setV_some he
  have h1 := rd_ok g hx
  have h2 := rd_ok g hy
  generalize x'.rd st.env = l1 at hr h1
  generalize y'.rd st.env = l2 at hr h2
  unfold eqL at hr
  split at hr
  · rename_i xs ys
    cases hb : eqCells ks xs ys with
    | none => rw [hb] at hr; cases hr
    | some b =>
      rw [hb] at hr
      obtain rfl := Option.some.inj hr
      obtain ⟨us, e1, u1⟩ := agg_form h1
      obtain ⟨vs, e2, v1⟩ := agg_form h2
      have ha : isAggB P t = true := by simp [isAggB, ht]
      have hrun := (flatEq_sound 10 hk 10000 (by omega)).2 _ _ b w (eqCells_vals hb u1 v1)
      simp only [packV, ha, if_true] at hrun
      have hgd := run_eqGuard_agg (P := P) w op t x y us vs hg
      refine ok_val g hd hN (v := .bool (if neg then !b else b)) ?_ (lrep_v trep_bool) hn
      cases neg with
      | false =>
        subst hop
        simp only [Bool.false_eq_true, if_false] at hgd ⊢
        simp [execOp, ho, e1, e2, hgd, run_eql_struct w t us vs]
        rw [show us = us.toList.toArray by simp, show vs = vs.toList.toArray by simp, hrun]
        rfl
      | true =>
        subst hop
        simp only [if_true] at hgd ⊢
        simp [execOp, ho, e1, e2, hgd, run_neq_struct w t us vs]
        rw [show us = us.toList.toArray by simp, show vs = vs.toList.toArray by simp, hrun]
        rfl
  · cases hr
end
end Go.Proofs.Ytehcfmohjcjmpaa.Sx
