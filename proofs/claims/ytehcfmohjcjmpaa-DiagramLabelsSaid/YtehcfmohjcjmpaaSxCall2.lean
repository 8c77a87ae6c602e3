/- A call of a function in the evaluator is sound. -/
import Derived.Test.YtehcfmohjcjmpaaSxCall
namespace Go.Proofs.Ytehcfmohjcjmpaa.Sx
open Go Go.RowKit

section
variable {P : Program} {C : FuncId → List TV → Option TV} {N : Nat} {w0 : World} {ok0 : Nat → Prop} {ok : Nat → Prop} {a : Act} {w w' : World} {st st' : St} {ρ : Rho}
  {next : Act → World → Prop} {Q : Exit → Act → World → Prop} {o : Oper}

/-- what the evaluator takes a call for, the call does -/
def Good (P : Program) (C : FuncId → List TV → Option TV) : Prop := ∀ f args r, C f args = some r → Sound P f args r

theorem callA_ok (hC : Good P C) (g : Gam N w0 ok0 st ok ρ a w) {d lo : Nat} (hd : o.dst = some d) (hN : d < N) {f : FuncId} {ls : List LV} {vs : List Value} (hv : LReps w ok ρ st.hp false ls vs)
    (he : callA C lo d f st (solidArgs st.hp ls) = some st') (hn : Into N w0 ok0 st' next) :
    FnOK P f ∧ Calls P f vs.toArray w fun
      | .returned v, w'' => next (a.put o.dst v) w''
      | .panicked chain, w'' => Q (.panic chain) a w''
      | .outgrown, _ => LetsOut Q := by
  cases hs : solidArgs st.hp ls with
  | none => rw [hs] at he; cases he
  | some q =>
    obtain ⟨ts, is⟩ := q
    rw [hs] at he
    simp only [callA] at he
    cases hr : C f ts with
    | none => rw [hr] at he; cases he
    | some r =>
      rw [hr] at he
      simp only [callR] at he
      obtain ⟨hf, hsound⟩ := hC f ts r hr
      refine ⟨hf, ?_⟩
      have gf := g.frozen is
      have hvals := solidArgs_ok g hs hv
      have hcall := hsound w (okPlus ok ρ st.hp is) vs (fun b hb => (gf.free b hb).1) hvals
      refine hcall.mono fun e w'' ⟨v, he', hb, hrr⟩ => ?_
      subst he'
      show next (a.put o.dst v) w''
      rw [hd]
      cases hth : thaw (lo + (1000 + d * 64)) r { st with hp := if is.isEmpty || r.flat then st.hp else Sx.freezeAll st.hp is } with
      | none => rw [hth] at he; cases he
      | some q =>
        obtain ⟨l, st2⟩ := q
        rw [hth] at he
        simp only [callT, Option.some.injEq] at he
        subst he
        cases hc : (is.isEmpty || r.flat) with
        | false =>
          rw [hc] at hth
          obtain ⟨ok', ρ', g', hl⟩ := gf.called hb hrr hth
          exact hn _ _ _ _ (g'.put hN hl)
        | true =>
          rw [hc] at hth
          have hrr' : RRep w.heap.size w'' ok r v := by
            have hc' : is.isEmpty = true ∨ r.flat = true := by simpa using hc
            rcases hc' with h1 | h1
            · have : is = [] := by simpa using h1
              subst this
              rw [okPlus_nil] at hrr
              exact hrr
            · obtain ⟨ok1, bs, q1, q2, q3⟩ := hrr
              have k := flat_res h1 (ok' := ok) q3
              obtain ⟨k1, rfl⟩ := k
              refine ⟨ok, [], fun b hb' => ⟨fun _ => hb', Nat.lt_of_lt_of_le (g.free b hb').1 hb.size⟩, ⟨by simp, by simp⟩, k1⟩
          obtain ⟨ok', ρ', g', hl⟩ := g.called hb hrr' hth
          exact hn _ _ _ _ (g'.put hN hl)

theorem op_call (hC : Good P C) (g : Gam N w0 ok0 st ok ρ a w) {d lo : Nat} (hd : o.dst = some d) (hN : d < N) {ts : Array TypeId} {us : List TypeId} {t1 : TypeId} {xs : Array Operand} {ys : List X} {x : Operand} {x' : X}
    (ho : o.op = .call { callee := .value x, args := xs, argTypes := ts }) (hx : cX P t1 x = some x') (hxs : cXs P us xs.toList = some ys)
    (he : callF C lo d (rds st.env ys) st (x'.rd st.env) = some st') (hn : Into N w0 ok0 st' next) : o.wp P a w next Q := by
  have h1 := rd_ok g hx
  have h2 := rds_ok g hxs
  generalize x'.rd st.env = l at h1 he
  have key : ∀ f caps cs, a.eval x = .func (.func f) #[] cs → LReps w ok ρ st.hp false caps cs.toList → callA C lo d f st (solidArgs st.hp (rds st.env ys ++ caps)) = some st' → o.wp P a w next Q := by
    intro f caps cs e1 e2 e3
    have hv : LReps w ok ρ st.hp false (rds st.env ys ++ caps) (xs.toList.map a.eval ++ cs.toList) := by
      refine LReps.of (by simp [← h2.length, e2.length]) fun i l hi => ?_
      by_cases hlt : i < (rds st.env ys).length
      · rw [List.getElem?_append_left hlt] at hi
        obtain ⟨v, q1, q2, q3⟩ := h2.get i l hi
        exact ⟨v, by rw [List.getElem?_append_left (by rw [h2.length]; exact hlt)]; exact q1, q2, q3⟩
      · rw [List.getElem?_append_right (by omega)] at hi
        obtain ⟨v, q1, q2, q3⟩ := e2.get _ l hi
        exact ⟨v, by rw [List.getElem?_append_right (by rw [h2.length]; omega), h2.length]; exact q1, q2, q3⟩
    obtain ⟨⟨fn, hf, hf1, hf2⟩, hc⟩ := callA_ok (Q := Q) hC g hd hN hv e3 hn
    have hf1' : fn.name ≠ "runtime.NumGoroutine" := by simpa using hf1
    have hf2' : fn.body ≠ none := fun e => by rw [e] at hf2; cases hf2
    have hrun : (execOp a.eval o).run P w = .ok (.enter f (xs.map a.eval ++ cs)) w := by
      simp [execOp, ho, resolve, Deferred.ofValue, e1, invoke, callFunc, hf, hf1', hf2']
    unfold Oper.wp
    rw [hrun, Oper.upon_enter]
    have : (xs.map a.eval ++ cs) = (xs.toList.map a.eval ++ cs.toList).toArray := by apply Array.ext'; simp
    rw [this]
    exact hc
  unfold callF at he
  split at he
  · simp only [LRep] at h1
    obtain ⟨cs, e1, e2⟩ := h1
    exact key _ _ cs e1 e2 he
  · simp only [LRep, TRep] at h1
    obtain ⟨cs, e1, e2⟩ := h1
    refine key _ _ cs e1 ?_ he
    rename_i caps
    clear key he e1
    generalize cs.toList = vs at e2
    induction caps generalizing vs with
    | nil => simp only [ValsRep] at e2; simp only [liftV, LReps]; exact e2
    | cons c caps ih =>
      simp only [ValsRep] at e2
      obtain ⟨v, r, q1, q2, q3, q4⟩ := e2
      simp only [liftV, LReps]
      exact ⟨v, r, q1, q2, by simp only [LRep]; exact q3, ih _ q4⟩
  · cases he
end
end Go.Proofs.Ytehcfmohjcjmpaa.Sx
