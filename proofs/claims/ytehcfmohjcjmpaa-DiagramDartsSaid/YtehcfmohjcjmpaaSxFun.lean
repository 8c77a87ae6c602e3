/- What the evaluator takes a function for, a call of it does. -/
import Derived.Test.YtehcfmohjcjmpaaSxCode
namespace Go.Proofs.Ytehcfmohjcjmpaa.Sx
open Go Go.RowKit

section
variable {P : Program} {C : FuncId → List TV → Option TV} {N : Nat} {w0 : World} {ok0 : Nat → Prop} {ok : Nat → Prop} {a : Act} {w : World} {st : St} {ρ : Rho}

/-- the objects that leave with the call as its caller's own -/
def Mine (h : Hp) (ids : List Nat) (i : Nat) : Prop := ids.count i = 1 ∧ ∃ e sz rows, h i = some (.arr false e sz rows)
/-- the blocks that are free behind the call -/
def okEnd (ok : Nat → Prop) (ρ : Rho) (h : Hp) (ids : List Nat) (b : Nat) : Prop := ok b ∨ ∃ i o K, ¬ Mine h ids i ∧ h i = some o ∧ o.live = true ∧ ρ i = some (b, K)

theorem okEnd_plus {h : Hp} {ids is : List Nat} (hs : ∀ i ∈ is, ¬ Mine h ids i) : Same w w (okPlus ok ρ h is) (okEnd ok ρ h ids) := fun b hb => ⟨rfl, hb.imp id fun ⟨i, hi, o, K, r⟩ => ⟨i, o, K, hs i hi, r⟩⟩
theorem okEnd_old {h : Hp} {ids : List Nat} : Same w w ok (okEnd ok ρ h ids) := fun b hb => ⟨rfl, .inl hb⟩

theorem expFst_some {x : Option (TV × List Nat)} {t : TV} (h : expFst x = some t) : ∃ is, x = some (t, is) := by
  cases x with
  | none => cases h
  | some q => obtain ⟨t', is⟩ := q; obtain rfl := Option.some.inj h; exact ⟨is, rfl⟩

theorem solidCell_ids {h : Hp} {l : LV} {t : TV} {is : List Nat} (he : solidCell h l = some (t, is)) : ∀ i ∈ is, i ∈ cellIds l := by
  unfold solidCell at he
  split at he
  case h_8 id off len =>
    unfold solidS at he
    split at he
    · simp only [Option.some.injEq, Prod.mk.injEq] at he
      rw [← he.2]
      intro i hi
      simp only [List.mem_singleton] at hi
      subst hi
      simp only [cellIds, offIds]
      split <;> simp
    · cases he
  all_goals first | (cases he; done) | (simp only [Option.some.injEq, Prod.mk.injEq] at he; rw [← he.2]; intro i hi; simp at hi)
theorem solidCell_kind {h : Hp} {l : LV} {t : TV} {is : List Nat} (he : solidCell h l = some (t, is)) : (∀ cs, t ≠ .agg cs) ∧ (∀ cs, t ≠ .tup cs) ∧ ∀ e sz rows, t ≠ .sl (.own e) sz rows := by
  unfold solidCell at he
  split at he
  case h_8 id off len =>
    unfold solidS at he
    split at he
    · simp only [Option.some.injEq, Prod.mk.injEq] at he; rw [← he.1]; simp
    · cases he
  all_goals first | (cases he; done) | (simp only [Option.some.injEq, Prod.mk.injEq] at he; rw [← he.1]; simp)
theorem resC_plain {w : World} {ok : Nat → Prop} {t : TV} {v : Value} (h1 : ∀ e sz rows, t ≠ .sl (.own e) sz rows) (h : TRep w ok t v) : ResC w ok t v [] := by
  cases t with
  | sl fl sz rows => cases fl with
    | own e => exact absurd rfl (h1 e sz rows)
    | shared => exact ⟨rfl, h⟩
    | tight e => exact ⟨rfl, h⟩
  | _ => exact ⟨rfl, h⟩

theorem expC_ok (g : Gam N w0 ok0 st ok ρ a w) {ids : List Nat} {l : LV} {t : TV} (h : expC st.hp ids l = some t) {v : Value} (hl : LRep w ok ρ st.hp l v) (hc : ∀ i, ids.count i = 1 → (cellIds l).count i ≤ 1) :
    ∃ xs : List Nat, ∃ b : Blks, ResC w (okEnd ok ρ st.hp ids) t v b ∧ (b = xs.map ρ ∨ (xs = [] ∧ b = [none])) ∧ xs.Sublist (cellIds l) ∧ (∀ x ∈ xs, Mine st.hp ids x) ∧ v.oneCell' = true ∧ (∀ cs, t ≠ .agg cs) ∧ (∀ cs, t ≠ .tup cs) := by
  have plain : ∀ {t' : TV} {is : List Nat}, solidCell st.hp l = some (t', is) → (∀ i ∈ is, ¬ Mine st.hp ids i) → t' = t → ∃ xs : List Nat, ∃ b : Blks, ResC w (okEnd ok ρ st.hp ids) t v b ∧ (b = xs.map ρ ∨ (xs = [] ∧ b = [none])) ∧ xs.Sublist (cellIds l) ∧ (∀ x ∈ xs, Mine st.hp ids x) ∧ v.oneCell' = true ∧ (∀ cs, t ≠ .agg cs) ∧ (∀ cs, t ≠ .tup cs) := by
    intro t' is he hm e
    subst e
    obtain ⟨k1, k2⟩ := solidCell_ok g he hl
    obtain ⟨q1, q2, q3⟩ := solidCell_kind he
    exact ⟨[], [], resC_plain q3 (k1.to (okEnd_plus hm)), .inl rfl, by simp, by simp, k2, q1, q2⟩
  unfold expC at h
  split at h
  · rename_i e sz
    obtain rfl := Option.some.inj h
    simp only [LRep, TRep] at hl
    obtain ⟨ad, len, cap, rfl, h2, h3, h4, h5, h6⟩ := hl
    refine ⟨[], [none], ⟨none, ad, cap, rfl, by rw [h2], h4, .inl ⟨rfl, rfl, by rw [h5 e rfl, h2]; rfl⟩⟩, .inr ⟨rfl, rfl⟩, by simp, by simp, rfl, by simp, by simp⟩
  · rename_i id off len
    unfold expS at h
    split at h
    · rename_i fz e sz rows hid
      split at h
      · rename_i hh
        obtain ⟨h1, h2, h3⟩ := hh
        have h1 := of_decide_eq_true h1
        subst h2 h3
        obtain rfl := Option.some.inj h
        have hmine : Mine st.hp ids id := ⟨h1, e, sz, rows, hid⟩
        simp only [LRep, hid, SRep] at hl
        obtain ⟨ad, cap, rfl, k1, k2, k3, k4⟩ := hl
        have hlen : (rows.take len).length = len := by simp; omega
        refine ⟨[id], [ρ id], ⟨ρ id, ad, cap, rfl, by rw [hlen], k3, ?_⟩, .inl rfl, by simp [cellIds, offIds], by simpa using hmine, rfl, by simp, by simp⟩
        rcases g.obj id _ hid with ⟨q1, q2⟩ | ⟨b, K, cur, q1, q2, q3, q4, q5, q6⟩
        · left
          refine ⟨q1, by rw [q2]; simp, ?_⟩
          rcases k4 with ⟨_, k5, _⟩ | ⟨b, K, k5, _⟩
          · exact k5
          · rw [q1] at k5; cases k5
        · right
          rcases k4 with ⟨k5, _⟩ | ⟨b', K', k5, k6, k7⟩
          · rw [q1] at k5; cases k5
          · rw [q1] at k5
            obtain ⟨rfl, rfl⟩ : b = b' ∧ K = K' := by simpa using k5
            have hcap : cap = K := by omega
            subst hcap
            refine ⟨b, cur, q1, ?_, q2, q3, by omega, (q6.take len).at okEnd_old rfl⟩
            rcases k7 with k7 | ⟨_, k7⟩
            · simpa using k7
            · omega
      · rename_i hh
        have e2 : TV.sl .shared sz ((rows.drop off).take len) = t := Option.some.inj h
        refine plain (is := [id]) (t' := .sl .shared sz ((rows.drop off).take len)) (by simp only [solidCell, hid, solidS]) (fun i hi hm => ?_) e2
        simp only [List.mem_singleton] at hi
        subst hi
        refine hh ⟨decide_eq_true hm.1, ?_, ?_⟩
        · obtain ⟨e', sz', rows', hr⟩ := hm.2
          rw [hid] at hr
          simp only [Option.some.injEq, Ob.arr.injEq] at hr
          exact hr.1
        · have := hc i hm.1
          simp only [cellIds, offIds] at this
          split at this
          · assumption
          · simp at this
    · cases h
  · rename_i hn1 hn2
    obtain ⟨is, he⟩ := expFst_some h
    refine plain he (fun i hi hm => ?_) rfl
    have := solidCell_ids he i hi
    cases l with
    | s id off len => exact hn2 id off len rfl
    | _ => simp [cellIds] at this

theorem consE_some {x : Option TV} {y : Option (List TV)} {r : List TV} (h : consE x y = some r) : ∃ t ts, x = some t ∧ y = some ts ∧ r = t :: ts := by
  unfold consE at h
  split at h
  · exact ⟨_, _, rfl, rfl, (Option.some.inj h).symm⟩
  · cases h

/-- of which objects the blocks are -/
def From (ρ : Rho) (xs : List Nat) (bs : Blks) : Prop := bs.filterMap id = (xs.map ρ).filterMap id
theorem from_of {xs : List Nat} {b : Blks} (h : b = xs.map ρ ∨ (xs = [] ∧ b = [none])) : From ρ xs b := by
  rcases h with rfl | ⟨rfl, rfl⟩
  · rfl
  · rfl
theorem From.append {xs ys : List Nat} {b c : Blks} (h : From ρ xs b) (h' : From ρ ys c) : From ρ (xs ++ ys) (b ++ c) := by
  unfold From at *
  rw [List.filterMap_append, h, h', List.map_append, List.filterMap_append]

theorem expCs_ok (g : Gam N w0 ok0 st ok ρ a w) {ids : List Nat} {one : Bool} : ∀ {ls : List LV} {ts : List TV}, expCs st.hp ids ls = some ts → ∀ {vs : List Value}, LReps w ok ρ st.hp one ls vs → (∀ i, ids.count i = 1 → (cellsIds ls).count i ≤ 1) →
    ∃ xs : List Nat, ∃ b : Blks, ResCs w (okEnd ok ρ st.hp ids) true ts vs b ∧ From ρ xs b ∧ xs.Sublist (cellsIds ls) ∧ (∀ x ∈ xs, Mine st.hp ids x)
  | [], ts, h, vs, hl, hc => by
    obtain rfl := Option.some.inj h
    simp only [LReps] at hl
    exact ⟨[], [], ⟨hl, rfl⟩, rfl, by simp, by simp⟩
  | l :: ls, ts, h, vs, hl, hc => by
    simp only [expCs] at h
    obtain ⟨t, ts', h1, h2, rfl⟩ := consE_some h
    simp only [LReps] at hl
    obtain ⟨v, r, rfl, _, hl1, hl2⟩ := hl
    obtain ⟨xs, b, k1, k2, k3, k4, k5, _, _⟩ := expC_ok g h1 hl1 fun i hi => by
      have := hc i hi
      simp only [cellsIds, List.count_append] at this
      omega
    obtain ⟨ys, c, m1, m2, m3, m4⟩ := expCs_ok g h2 hl2 fun i hi => by
      have := hc i hi
      simp only [cellsIds, List.count_append] at this
      omega
    refine ⟨xs ++ ys, b ++ c, ⟨v, r, b, c, rfl, rfl, fun _ => k5, k1, m1⟩, (from_of k2).append m2, k3.append m3, fun x hx => ?_⟩
    rcases List.mem_append.1 hx with hx | hx
    · exact k4 x hx
    · exact m4 x hx

theorem solidP_kind {h : Hp} {id off : Nat} {o : Option Ob} {t : TV} {is : List Nat} (he : solidP h id off o = some (t, is)) : ∃ cs, t = .pc cs := by
  unfold solidP at he
  split at he
  · unfold pcS at he
    split at he
    · simp only [Option.some.injEq, Prod.mk.injEq] at he; exact ⟨_, he.1.symm⟩
    · cases he
  · cases he
theorem solidFn_kind {h : Hp} {f : FuncId} {cs : List LV} {t : TV} {is : List Nat} (he : solidArg h (.fn f cs) = some (t, is)) : ∃ cs, t = .fn f cs := by
  simp only [solidArg] at he
  unfold fnS at he
  split at he
  · simp only [Option.some.injEq, Prod.mk.injEq] at he; exact ⟨_, he.1.symm⟩
  · cases he

theorem expL_ok (g : Gam N w0 ok0 st ok ρ a w) {ids : List Nat} {l : LV} {t : TV} (h : expL st.hp ids l = some t) {v : Value} (hl : LRep w ok ρ st.hp l v) (hc : ∀ i, ids.count i = 1 → (resId l).count i ≤ 1)
    (hp : plainRes [l] = true ∨ ids = []) :
    ∃ xs : List Nat, ∃ b : Blks, ResR w (okEnd ok ρ st.hp ids) t v b ∧ From ρ xs b ∧ xs.Sublist (resId l) ∧ (∀ x ∈ xs, Mine st.hp ids x) ∧ (∀ cs, t ≠ .tup cs) := by
  have shared : ids = [] → ∀ {is : List Nat}, solidArg st.hp l = some (t, is) → (∀ cs, t ≠ .agg cs) → (∀ cs, t ≠ .tup cs) → (∀ e sz rows, t ≠ .sl (.own e) sz rows) → ∃ xs : List Nat, ∃ b : Blks, ResR w (okEnd ok ρ st.hp ids) t v b ∧ From ρ xs b ∧ xs.Sublist (resId l) ∧ (∀ x ∈ xs, Mine st.hp ids x) ∧ (∀ cs, t ≠ .tup cs) := by
    intro e is he n1 n2 n3
    subst e
    have k := solidArg_ok g he hl
    refine ⟨[], [], ?_, rfl, by simp, by simp, n2⟩
    have r := resC_plain n3 (k.to (okEnd_plus (w := w) (ids := []) fun i _ hm => by have := hm.1; simp at this))
    cases t with
    | agg cs => exact absurd rfl (n1 cs)
    | _ => exact r
  unfold expL at h
  split at h
  · rename_i cs
    simp only [LRep] at hl
    obtain ⟨vs, rfl, hl⟩ := hl
    cases he : expCs st.hp ids cs with
    | none => rw [he] at h; cases h
    | some ts =>
      rw [he] at h
      obtain rfl := Option.some.inj h
      obtain ⟨xs, b, k1, k2, k3, k4⟩ := expCs_ok g he hl hc
      exact ⟨xs, b, ⟨vs, rfl, k1⟩, k2, k3, k4, by simp⟩
  · have e : ids = [] := by rcases hp with hp | hp; · simp [plainRes] at hp
                            · exact hp
    obtain ⟨is, he⟩ := expFst_some h
    obtain ⟨cs, rfl⟩ := solidP_kind (by simpa only [solidArg] using he)
    exact shared e he (by simp) (by simp) (by simp)
  · have e : ids = [] := by rcases hp with hp | hp; · simp [plainRes] at hp
                            · exact hp
    obtain ⟨is, he⟩ := expFst_some h
    obtain ⟨cs, rfl⟩ := solidFn_kind he
    exact shared e he (by simp) (by simp) (by simp)
  · rename_i hn1 hn2 hn3
    have e : resId l = cellIds l := by cases l with
      | agg cs => exact absurd rfl (hn1 cs)
      | _ => rfl
    rw [e] at hc ⊢
    obtain ⟨xs, b, k1, k2, k3, k4, _, k6, k7⟩ := expC_ok g h hl hc
    refine ⟨xs, b, ?_, from_of k2, k3, k4, k7⟩
    cases t with
    | agg cs => exact absurd rfl (k6 cs)
    | _ => exact k1

theorem plainRes_cons {l : LV} {ls : List LV} (h : plainRes (l :: ls) = true) : plainRes [l] = true ∧ plainRes ls = true := by
  cases l <;> simp_all [plainRes]

theorem expLs_ok (g : Gam N w0 ok0 st ok ρ a w) {ids : List Nat} : ∀ {ls : List LV} {ts : List TV}, expLs st.hp ids ls = some ts → ∀ {vs : List Value}, LReps w ok ρ st.hp false ls vs → (∀ i, ids.count i = 1 → (resIds ls).count i ≤ 1) → (plainRes ls = true ∨ ids = []) →
    ∃ xs : List Nat, ∃ b : Blks, ResRs w (okEnd ok ρ st.hp ids) ts vs b ∧ From ρ xs b ∧ xs.Sublist (resIds ls) ∧ (∀ x ∈ xs, Mine st.hp ids x) ∧ ∀ t ∈ ts, ∀ cs, t ≠ .tup cs
  | [], ts, h, vs, hl, hc, hp => by
    obtain rfl := Option.some.inj h
    simp only [LReps] at hl
    exact ⟨[], [], ⟨hl, rfl⟩, rfl, by simp, by simp, by simp⟩
  | l :: ls, ts, h, vs, hl, hc, hp => by
    simp only [expLs] at h
    obtain ⟨t, ts', h1, h2, rfl⟩ := consE_some h
    simp only [LReps] at hl
    obtain ⟨v, r, rfl, _, hl1, hl2⟩ := hl
    obtain ⟨xs, b, k1, k2, k3, k4, k5⟩ := expL_ok g h1 hl1 (fun i hi => by
      have := hc i hi
      simp only [resIds, List.count_append] at this
      omega) (hp.imp (fun h => (plainRes_cons h).1) id)
    obtain ⟨ys, c, m1, m2, m3, m4, m5⟩ := expLs_ok g h2 hl2 (fun i hi => by
      have := hc i hi
      simp only [resIds, List.count_append] at this
      omega) (hp.imp (fun h => (plainRes_cons h).2) id)
    refine ⟨xs ++ ys, b ++ c, ⟨v, r, b, c, rfl, rfl, k1, m1⟩, k2.append m2, k3.append m3, fun x hx => ?_, fun x hx => ?_⟩
    · rcases List.mem_append.1 hx with hx | hx
      · exact k4 x hx
      · exact m4 x hx
    · rcases List.mem_cons.1 hx with rfl | hx
      · exact k5
      · exact m5 x hx

theorem nodup_of_count {xs : List Nat} (h : ∀ i, xs.count i ≤ 1) : xs.Nodup := List.nodup_iff_count.2 h

theorem expR_ok (g : Gam N w0 ok0 st ok ρ a w) {ls : List LV} {r : TV} (h : expR st.hp (some ls) = some r) {vs : List Value} (hl : LReps w ok ρ st.hp false ls vs) {v : Value} (hv : v = if h : vs.toArray.size = 1 then vs.toArray[0] else .tuple vs.toArray) :
    RRep w0.heap.size w ok0 r v := by
  simp only [expR] at h
  generalize hids : (if plainRes ls = true then resIds ls else []) = ids at h
  cases he : expLs st.hp ids ls with
  | none => rw [he] at h; cases h
  | some ts =>
    rw [he] at h
    have hc : ∀ i, ids.count i = 1 → (resIds ls).count i ≤ 1 := fun i hi => by
      rw [← hids] at hi
      split at hi
      · omega
      · simp at hi
    have hp : plainRes ls = true ∨ ids = [] := by
      rw [← hids]
      split
      · exact .inl (by assumption)
      · exact .inr rfl
    obtain ⟨xs, b, k1, k2, k3, k4, k5⟩ := expLs_ok g he hl hc hp
    refine ⟨okEnd ok ρ st.hp ids, b, ?_, ⟨?_, ?_⟩, ?_⟩
    · intro c hb
      rcases hb with hb | ⟨i, o, K, _, h2, h3, h4⟩
      · exact ⟨g.old c hb, (g.free c hb).1⟩
      · have := g.fresh i o c K h2 h3 h4
        exact ⟨fun hlt => by omega, this.2⟩
    · intro c K hm
      have hm' : (c, K) ∈ b.filterMap id := List.mem_filterMap.2 ⟨_, hm, rfl⟩
      rw [k2] at hm'
      obtain ⟨y, hy, e⟩ := List.mem_filterMap.1 hm'
      obtain ⟨i, hi, rfl⟩ := List.mem_map.1 hy
      have e : ρ i = some (c, K) := e
      obtain ⟨hm1, e', sz, rows, hi2⟩ := k4 i hi
      have hf := g.fresh i _ c K hi2 rfl e
      refine ⟨hf.1, hf.2, fun hb => ?_⟩
      rcases hb with hb | ⟨j, o, K', h1, h2, h3, h4⟩
      · exact (g.free c hb).2 i _ K hi2 rfl e
      · have := g.inj i j _ o c K K' hi2 h2 rfl h3 e h4
        subst this
        exact h1 ⟨hm1, e', sz, rows, hi2⟩
    · rw [k2]
      have hnd : xs.Nodup := nodup_of_count fun i => by
        by_cases hi : i ∈ xs
        · have h1 := (k4 i hi).1
          exact Nat.le_trans (k3.count_le i) (hc i h1)
        · rw [List.count_eq_zero.2 hi]; omega
      clear k1 k2 k3 hv
      induction xs with
      | nil => simp
      | cons x xs ih =>
        obtain ⟨hx, hnd'⟩ := List.nodup_cons.1 hnd
        have ih' := ih (fun y hy => k4 y (by simp [hy])) hnd'
        simp only [List.map_cons]
        cases hr : ρ x with
        | none => simpa using ih'
        | some q =>
          simp only [List.filterMap_cons, id, List.map_cons, List.nodup_cons]
          refine ⟨fun hm => ?_, ih'⟩
          obtain ⟨p, hp, e⟩ := List.mem_map.1 hm
          obtain ⟨y, hy, e2⟩ := List.mem_filterMap.1 hp
          obtain ⟨j, hj, rfl⟩ := List.mem_map.1 hy
          have e2 : ρ j = some p := e2
          obtain ⟨_, e3, sz3, rows3, h3⟩ := k4 x (by simp)
          obtain ⟨_, e4, sz4, rows4, h4⟩ := k4 j (by simp [hj])
          obtain ⟨c, K⟩ := q
          obtain ⟨c', K'⟩ := p
          simp only at e
          subst e
          have := g.inj x j _ _ c' K K' h3 h4 rfl rfl hr e2
          subst this
          exact hx hj
    · match ts, k1, k5, h with
      | [], k1, _, h =>
        obtain rfl := Option.some.inj h
        obtain ⟨rfl, rfl⟩ := k1
        exact ⟨#[], by rw [hv]; rfl, rfl, rfl⟩
      | [t], k1, k5, h =>
        obtain rfl := Option.some.inj h
        obtain ⟨v', r', b1, b2, rfl, rfl, q1, rfl, rfl⟩ := k1
        have : v = v' := by rw [hv]; simp
        subst this
        rw [List.append_nil]
        have := k5 t (by simp)
        cases t with
        | tup cs => exact absurd rfl (this cs)
        | _ => exact q1
      | t :: t' :: ts', k1, _, h =>
        obtain rfl := Option.some.inj h
        have hlen : vs.length ≠ 1 := by
          obtain ⟨v', r', b1, b2, rfl, rfl, _, q1⟩ := k1
          obtain ⟨v'', r'', b3, b4, rfl, _⟩ := q1
          simp
        exact ⟨vs.toArray, by rw [hv, dif_neg (by simpa using hlen)], by simpa using k1⟩

/-! ### a function -/
theorem liftV_ok {one : Bool} {h : Hp} : ∀ {ts : List TV} {vs : List Value}, ValsRep w ok one ts vs → LReps w ok ρ h one (liftV ts) vs
  | [], vs, hv => by simp only [ValsRep] at hv; simp only [liftV, LReps]; exact hv
  | t :: ts, vs, hv => by
    simp only [ValsRep] at hv
    obtain ⟨v, r, h1, h2, h3, h4⟩ := hv
    simp only [liftV, LReps]
    exact ⟨v, r, h1, h2, by simp only [LRep]; exact h3, liftV_ok h4⟩
theorem inj_ok {h : Hp} {t : TV} {v : Value} (ht : TRep w ok t v) : LRep w ok ρ h (inj t) v := by
  cases t with
  | agg cs =>
    simp only [TRep] at ht
    obtain ⟨vs, h1, h2⟩ := ht
    simp only [inj, LRep]
    exact ⟨vs, h1, liftV_ok h2⟩
  | _ => simp only [inj, LRep]; exact ht

theorem bindArgs_eq : ∀ (ts : List TV) (k i : Nat), bindArgs k ts i = if k ≤ i then (match ts[i - k]? with | some t => inj t | none => .u) else .u
  | [], k, i => by simp [bindArgs, e0]
  | t :: ts, k, i => by
    simp only [bindArgs, upd]
    by_cases e : i = k
    · subst e; simp
    · rw [if_neg e, bindArgs_eq ts (k + 1) i]
      by_cases hk : k ≤ i
      · rw [if_pos hk, if_pos (by omega), show i - k = (i - (k + 1)) + 1 by omega, List.getElem?_cons_succ]
      · rw [if_neg hk, if_neg (by omega)]

theorem start_ok {args : List TV} {vs : List Value} (hb : ∀ b, ok b → b < w.heap.size) (hv : ValsRep w ok false args vs) (m : Nat) :
    Gam (vs.toArray ++ Array.replicate m undef).size w ok (start args) ok (fun _ => none) { tmps := vs.toArray ++ Array.replicate m undef, defers := [] } w where
  below := Below.refl _ _
  old := fun _ h _ => h
  size := rfl
  defers := rfl
  free := fun b h => ⟨hb b h, fun _ _ _ h' => by cases h'⟩
  inj := fun _ _ _ _ _ _ _ h' => by cases h'
  fresh := fun _ _ _ _ h' => by cases h'
  obj := fun _ _ h' => by cases h'
  env := fun k => by
    show LRep w ok _ _ (bindArgs 0 args k) _
    rw [bindArgs_eq]
    simp only [Nat.zero_le, if_true, Nat.sub_zero]
    cases hk : args[k]? with
    | none => simp only [LRep]
    | some t =>
      obtain ⟨v, h1, _, h3⟩ := hv.get k t hk
      have hlt := (List.getElem?_eq_some_iff.1 h1).1
      have : (vs.toArray ++ Array.replicate m undef).getD k undef = v := by
        rw [Array.getD_eq_getD_getElem?, Array.getElem?_append_left (by simpa using hlt)]
        simp [h1]
      simp only
      rw [this]
      exact inj_ok h3

def resSem (a : Act) : ResultVar → Sem Value
  | .tmp t => pure (a.tmps.getD t undef)
  | .cell x t => do loadVar t (← asAddr (a.tmps.getD x undef))
theorem run_mapM_cons {α β : Type} (w : World) (f : α → Sem β) (x : α) (xs : List α) {y : β} {ys : List β} (h1 : (f x).run P w = .ok y w) (h2 : (xs.mapM f).run P w = .ok ys w) : ((x :: xs).mapM f).run P w = .ok (y :: ys) w := by
  rw [List.mapM_cons]
  simp [h1, h2]

theorem resLs_ok (g : Gam N w0 ok0 st ok ρ a w) : ∀ {rs : List ResultVar} {ls : List LV}, rs.all (resOk P) = true → resLs st (rs.map (cRes P)) = some ls →
    ∃ vs : List Value, (rs.mapM (resSem a)).run P w = .ok vs w ∧ LReps w ok ρ st.hp false ls vs
  | [], ls, _, h => by
    obtain rfl := Option.some.inj h
    exact ⟨[], by simp, by simp only [LReps]⟩
  | r :: rs, ls, hr, h => by
    simp only [List.all_cons, Bool.and_eq_true] at hr
    simp only [List.map_cons, resLs] at h
    cases h1 : resL st (cRes P r) with
    | none => rw [h1] at h; cases h
    | some l =>
      rw [h1] at h
      cases h2 : resLs st (rs.map (cRes P)) with
      | none => rw [h2] at h; cases h
      | some ls' =>
        rw [h2] at h
        obtain rfl := Option.some.inj h
        obtain ⟨vs, k1, k2⟩ := resLs_ok g hr.2 h2
        cases r with
        | tmp t =>
          obtain rfl := Option.some.inj h1
          refine ⟨a.tmps.getD t undef :: vs, ?_, ?_⟩
          · exact run_mapM_cons w _ _ _ (by simp [resSem]) k1
          · simp only [LReps]
            exact ⟨_, _, rfl, by simp, g.env t, k2⟩
        | cell x t =>
          simp only [cRes, resL] at h1
          have hok := hr.1
          simp only [resOk] at hok
          split at hok
          · rename_i n hs
            simp only [Bool.and_eq_true, beq_iff_eq] at hok
            rw [← hok.2] at h1
            obtain ⟨b, o', us, q1, q2, q3, q4⟩ := loadL_ok g h1 (g.env x)
            obtain ⟨⟨k, hk⟩, h1'⟩ := plainTy_ok hok.1
            have := run_loadVar (P := P) w hk hs b o' us q2 h1' q3
            refine ⟨packV (isAggB P t) us :: vs, ?_, ?_⟩
            · exact run_mapM_cons w _ _ _ (by simp [resSem, q1, asAddr, this]) k1
            · simp only [LReps]
              exact ⟨_, _, rfl, by simp, q4, k2⟩
          · cases hok
end
end Go.Proofs.Ytehcfmohjcjmpaa.Sx
