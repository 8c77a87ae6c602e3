/- What a call is known to do; a call in the evaluator is sound. -/
import Derived.Test.YtehcfmohjcjmpaaSxOps9
namespace Go.Proofs.Ytehcfmohjcjmpaa.Sx
open Go Go.RowKit

/-! ### results: a tree, and the blocks of its own slices, from left to right -/
abbrev Blks := List (Option (Nat × Nat))
def ResC (w : World) (ok : Nat → Prop) : TV → Value → Blks → Prop
  | .sl (.own e) sz rows, v, bs => ∃ x ad cap, bs = [x] ∧ v = .slice ad rows.length cap ∧ cap ≤ maxLen ∧ ((x = none ∧ rows = [] ∧ cap = 0) ∨
      ∃ b cur, x = some (b, cap) ∧ ad = some ⟨b, 0, none⟩ ∧ w.heap[b]? = some (.cells cur e (0, 0)) ∧ cur.size = cap * sz ∧ rows.length ≤ cap ∧ RowsRep w ok sz b rows 0)
  | t, v, bs => bs = [] ∧ TRep w ok t v
def ResCs (w : World) (ok : Nat → Prop) (one : Bool) : List TV → List Value → Blks → Prop
  | [], vs, bs => vs = [] ∧ bs = []
  | t :: ts, vs, bs => ∃ v r b1 b2, vs = v :: r ∧ bs = b1 ++ b2 ∧ (one = true → v.oneCell' = true) ∧ ResC w ok t v b1 ∧ ResCs w ok one ts r b2
def ResR (w : World) (ok : Nat → Prop) : TV → Value → Blks → Prop
  | .agg cs, v, bs => ∃ vs, v = .agg vs ∧ ResCs w ok true cs vs.toList bs
  | t, v, bs => ResC w ok t v bs
def ResRs (w : World) (ok : Nat → Prop) : List TV → List Value → Blks → Prop
  | [], vs, bs => vs = [] ∧ bs = []
  | t :: ts, vs, bs => ∃ v r b1 b2, vs = v :: r ∧ bs = b1 ++ b2 ∧ ResR w ok t v b1 ∧ ResRs w ok ts r b2
def Res (w : World) (ok : Nat → Prop) : TV → Value → Blks → Prop
  | .tup ts, v, bs => ∃ vs, v = .tuple vs ∧ ResRs w ok ts vs.toList bs
  | t, v, bs => ResR w ok t v bs

/-- the blocks: each once, new, none of ok -/
def BlksOk (n : Nat) (w : World) (ok : Nat → Prop) (bs : Blks) : Prop :=
  (∀ b K, some (b, K) ∈ bs → n ≤ b ∧ b < w.heap.size ∧ ¬ ok b) ∧ ((bs.filterMap id).map Prod.fst).Nodup

def RRep (n : Nat) (w : World) (ok0 : Nat → Prop) (r : TV) (v : Value) : Prop :=
  ∃ ok1 bs, (∀ b, ok1 b → (b < n → ok0 b) ∧ b < w.heap.size) ∧ BlksOk n w ok1 bs ∧ Res w ok1 r v bs

/-- a function of the program that has a body -/
def FnOK (P : Program) (f : FuncId) : Prop := ∃ fn, P.funcs[f]? = some fn ∧ (fn.name == "runtime.NumGoroutine") = false ∧ fn.body.isNone = false

/-- WHAT A CALL IS KNOWN TO DO: called with values that read as 'args', it returns a value that reads as r, and nothing that lay there has turned. -/
def Sound (P : Program) (f : FuncId) (args : List TV) (r : TV) : Prop := FnOK P f ∧ ∀ (w : World) (ok : Nat → Prop) (vs : List Value), (∀ b, ok b → b < w.heap.size) → ValsRep w ok false args vs →
  Calls P f vs.toArray w fun e w' => ∃ v, e = .returned v ∧ Below w.heap.size w w' ∧ RRep w.heap.size w' ok r v

theorem Later.trans {ρ ρ' ρ'' : Rho} {h h' h'' : Hp} (a : Later ρ ρ' h h') (b : Later ρ' ρ'' h' h'') : Later ρ ρ'' h h'' := fun id o ho => by
  rcases a id o ho with hd | ⟨hr, hk⟩
  · rcases b id _ hd with h2 | ⟨_, h2⟩
    · exact .inl h2
    · rcases h2 with ⟨f, cs, f', cs', e, _⟩ | ⟨f, e, sz, rows, f', e', rows', e1, _⟩ | ⟨_, h2⟩ | ⟨f, k, v, es, f', es', e, _⟩
      · cases e
      · cases e1
      · exact .inl h2
      · cases e
  · rcases hk with ⟨f, cs, f', cs', rfl, h1⟩ | ⟨f, e, sz, rows, f', e', rows', rfl, h1, hl⟩ | ⟨rfl, h1⟩ | ⟨f, k, v, es, f', es', rfl, h1⟩
    · rcases b id _ h1 with h2 | ⟨hr2, h2⟩
      · exact .inl h2
      · rcases h2 with ⟨f1, cs1, f2, cs2, e, h3⟩ | ⟨f1, e, sz, rows, f2, e', rows', e1, _⟩ | ⟨e, _⟩ | ⟨f, k, v, es, f', es', e, _⟩
        · exact .inr ⟨hr2.trans hr, .inl ⟨f, cs, f2, cs2, rfl, h3⟩⟩
        · cases e1
        · cases e
        · cases e
    · rcases b id _ h1 with h2 | ⟨hr2, h2⟩
      · exact .inl h2
      · rcases h2 with ⟨f1, cs1, f2, cs2, e, h3⟩ | ⟨f1, e1, sz1, rows1, f2, e2, rows2, e3, h3, hl2⟩ | ⟨e, _⟩ | ⟨f, k, v, es, f', es', e, _⟩
        · cases e
        · cases e3
          exact .inr ⟨hr2.trans hr, .inr (.inl ⟨f, e, sz, rows, f2, e2, rows2, rfl, h3, Nat.le_trans hl hl2⟩)⟩
        · cases e
        · cases e
    · rcases b id _ h1 with h2 | ⟨hr2, h2⟩
      · exact .inl h2
      · rcases h2 with ⟨f1, cs1, f2, cs2, e, h3⟩ | ⟨f1, e1, sz1, rows1, f2, e2, rows2, e3, _⟩ | ⟨_, h3⟩ | ⟨f, k, v, es, f', es', e, _⟩
        · cases e
        · cases e3
        · exact .inl h3
        · cases e
    · rcases b id _ h1 with h2 | ⟨hr2, h2⟩
      · exact .inl h2
      · rcases h2 with ⟨f1, cs1, f2, cs2, e, h3⟩ | ⟨f1, e1, sz1, rows1, f2, e2, rows2, e3, _⟩ | ⟨e, _⟩ | ⟨f2, k2, v2, es2, f3, es3, e, h3⟩
        · cases e
        · cases e3
        · cases e
        · cases e
          exact .inr ⟨hr2.trans hr, .inr (.inr (.inr ⟨f, k, v, es, f3, es3, rfl, h3⟩))⟩

section
variable {P : Program} {N : Nat} {w0 : World} {ok0 : Nat → Prop} {ok : Nat → Prop} {a : Act} {w w' : World}
  {next : Act → World → Prop} {Q : Exit → Act → World → Prop} {o : Oper}

/-- no live object lies in block b -/
def Away (st : St) (ρ : Rho) (b : Nat) : Prop := ∀ i p K, st.hp i = some p → p.live = true → ρ i ≠ some (b, K)

theorem thawCells_ok {one : Bool} : ∀ {ts : List TV} {k : Nat} {st st' : St} {ls : List LV} {ρ : Rho} {vs : List Value} {bs : Blks}, Gam N w0 ok0 st ok ρ a w → thawCells k ts st = some (ls, st') → ResCs w ok one ts vs bs →
    (∀ b K, some (b, K) ∈ bs → w0.heap.size ≤ b ∧ b < w.heap.size ∧ ¬ ok b ∧ Away st ρ b) → ((bs.filterMap id).map Prod.fst).Nodup →
    ∃ ρ', Gam N w0 ok0 st' ok ρ' a w ∧ Later ρ ρ' st.hp st'.hp ∧ LReps w ok ρ' st'.hp one ls vs ∧ st'.env = st.env ∧ ∀ b, (∀ K, some (b, K) ∉ bs) → Away st ρ b → Away st' ρ' b
  | [], k, st, st', ls, ρ, vs, bs, g, h, hr, hb, hnd => by
    simp only [thawCells, Option.some.injEq, Prod.mk.injEq] at h
    obtain ⟨rfl, rfl⟩ := h
    obtain ⟨rfl, rfl⟩ := hr
    exact ⟨ρ, g, Later.refl _ _, by simp only [LReps], rfl, fun _ _ h => h⟩
  | t :: ts, k, st, st', ls, ρ, vs, bs, g, h, hr, hb, hnd => by
    obtain ⟨v, r, b1, b2, rfl, rfl, h1, h2, h3⟩ := hr
    by_cases hown : ∃ e sz rows, t = .sl (.own e) sz rows
    · obtain ⟨e, sz, rows, rfl⟩ := hown
      simp only [thawCells] at h
      unfold thawOne at h
      split at h
      · rename_i hk
        obtain ⟨x, ad, cap, rfl, rfl, hcap, hx⟩ := h2
        have g1 : Gam N w0 ok0 { st with hp := upd st.hp k (some (.arr false e sz rows)) } ok (upd ρ k x) a w := by
          refine g.adopt hk (fun b K hxe => ?_) ?_
          · obtain ⟨q1, q2, q3, q4⟩ := hb b K (by rw [← hxe]; simp)
            exact ⟨q1, q2, q3, q4⟩
          · rcases hx with ⟨rfl, rfl, rfl⟩ | ⟨b, cur, rfl, rfl, q1, q2, q3, q4⟩
            · exact .inl ⟨upd_same _ _ _, rfl⟩
            · exact .inr ⟨b, cap, cur, upd_same _ _ _, q1, q2, hcap, q3, q4⟩
        have hl1 := later_new (ρ := ρ) hk x (.arr false e sz rows)
        cases hth : thawCells (k + 1) ts { st with hp := upd st.hp k (some (.arr false e sz rows)) } with
        | none => rw [hth] at h; cases h
        | some q =>
          obtain ⟨ls', st2⟩ := q
          rw [hth] at h
          simp only [consT, Option.some.injEq, Prod.mk.injEq] at h
          obtain ⟨rfl, rfl⟩ := h
          have hnd' : ((b2.filterMap id).map Prod.fst).Nodup := by
            cases x with
            | none => simpa using hnd
            | some y => simp only [List.cons_append, List.nil_append, List.filterMap_cons, id] at hnd; exact (List.nodup_cons.1 (by simpa using hnd)).2
          have away1 : ∀ b, (∀ K, some (b, K) ∉ [x]) → Away st ρ b → Away { st with hp := upd st.hp k (some (.arr false e sz rows)) } (upd ρ k x) b := by
            intro b hne haw i p K hi hp hr
            by_cases ei : i = k
            · subst ei
              rw [upd_same] at hr
              exact hne K (by simp [hr])
            · simp only [upd_ne _ _ ei] at hi hr
              exact haw i p K hi hp hr
          obtain ⟨ρ', g2, hl2, hls, henv, haway⟩ := thawCells_ok (bs := b2) g1 hth h3 (fun b K hm => by
            obtain ⟨q1, q2, q3, q4⟩ := hb b K (by simp [hm])
            refine ⟨q1, q2, q3, away1 b (fun K' hm' => ?_) q4⟩
            have hx' : x = some (b, K') := (List.mem_singleton.1 hm').symm
            subst hx'
            simp only [List.cons_append, List.nil_append, List.filterMap_cons, id, List.map_cons, List.nodup_cons] at hnd
            exact hnd.1 (List.mem_map.2 ⟨(b, K), List.mem_filterMap.2 ⟨some (b, K), hm, rfl⟩, rfl⟩)) hnd'
          refine ⟨ρ', g2, hl1.trans hl2, ?_, henv, fun b hne haw => haway b (fun K hm => hne K (by simp [hm])) (away1 b (fun K hm => hne K (List.mem_append_left _ hm)) haw)⟩
          simp only [LReps]
          refine ⟨_, r, rfl, h1, ?_, hls⟩
          have hs : LRep w ok (upd ρ k x) (upd st.hp k (some (.arr false e sz rows))) (.s k 0 rows.length) (.slice ad rows.length cap) := by
            simp only [LRep, upd_same, SRep]
            rcases hx with ⟨rfl, rfl, rfl⟩ | ⟨b, cur, rfl, rfl, q1, q2, q3, q4⟩
            · exact ⟨ad, 0, rfl, by simp, by simp, hcap, .inl (by simp)⟩
            · exact ⟨_, cap, rfl, by simp, q3, hcap, .inr ⟨b, cap, rfl, by omega, .inl (by simp)⟩⟩
          exact hs.to (Same.refl _ _) hl2
      · cases h
    · have hR : ResC w ok t v b1 ↔ b1 = [] ∧ TRep w ok t v := by
        cases t with
        | sl fl sz rows => cases fl with
          | own e => exact absurd ⟨e, sz, rows, rfl⟩ hown
          | shared => exact Iff.rfl
          | tight e => exact Iff.rfl
        | _ => exact Iff.rfl
      obtain ⟨rfl, ht⟩ := hR.1 h2
      have hT : thawCells k (t :: ts) st = consT (.v t) (thawCells (k + 1) ts st) := by
        cases t with
        | sl fl sz rows => cases fl with
          | own e => exact absurd ⟨e, sz, rows, rfl⟩ hown
          | shared => rfl
          | tight e => rfl
        | _ => rfl
      rw [hT] at h
      cases hth : thawCells (k + 1) ts st with
      | none => rw [hth] at h; cases h
      | some q =>
        obtain ⟨ls', st2⟩ := q
        rw [hth] at h
        simp only [consT, Option.some.injEq, Prod.mk.injEq] at h
        obtain ⟨rfl, rfl⟩ := h
        obtain ⟨ρ', g2, hl2, hls, henv, haway⟩ := thawCells_ok (bs := b2) g hth h3 (fun b K hm => hb b K (by simpa using hm)) (by simpa using hnd)
        refine ⟨ρ', g2, hl2, ?_, henv, fun b hne haw => haway b (fun K hm => hne K (by simpa using hm)) haw⟩
        simp only [LReps]
        exact ⟨v, r, rfl, h1, by simp only [LRep]; exact ht, hls⟩

theorem thaw1_ok {t : TV} {k : Nat} {st st' : St} {l : LV} {ρ : Rho} {v : Value} {bs : Blks} (g : Gam N w0 ok0 st ok ρ a w) (h : thaw1 k t st = some (l, st')) (hr : ResR w ok t v bs)
    (hb : ∀ b K, some (b, K) ∈ bs → w0.heap.size ≤ b ∧ b < w.heap.size ∧ ¬ ok b ∧ Away st ρ b) (hnd : ((bs.filterMap id).map Prod.fst).Nodup) :
    ∃ ρ', Gam N w0 ok0 st' ok ρ' a w ∧ Later ρ ρ' st.hp st'.hp ∧ LRep w ok ρ' st'.hp l v ∧ st'.env = st.env ∧ ∀ b, (∀ K, some (b, K) ∉ bs) → Away st ρ b → Away st' ρ' b := by
  by_cases ha : ∃ cs, t = .agg cs
  · obtain ⟨cs, rfl⟩ := ha
    simp only [thaw1] at h
    split at h
    · obtain ⟨vs, rfl, h2⟩ := hr
      cases hth : thawCells k cs st with
      | none => rw [hth] at h; cases h
      | some q =>
        obtain ⟨ls, st2⟩ := q
        rw [hth] at h
        simp only [aggT, Option.some.injEq, Prod.mk.injEq] at h
        obtain ⟨rfl, rfl⟩ := h
        obtain ⟨ρ', q1, q2, q3, q4, q5⟩ := thawCells_ok g hth h2 hb hnd
        exact ⟨ρ', q1, q2, by simp only [LRep]; exact ⟨vs, rfl, q3⟩, q4, q5⟩
    · cases h
  · have hR : ResR w ok t v bs ↔ ResC w ok t v bs := by cases t with
      | agg cs => exact absurd ⟨cs, rfl⟩ ha
      | _ => exact Iff.rfl
    have hT : thaw1 k t st = oneT (thawCells k [t] st) := by cases t with
      | agg cs => exact absurd ⟨cs, rfl⟩ ha
      | _ => rfl
    rw [hT] at h
    cases hth : thawCells k [t] st with
    | none => rw [hth] at h; cases h
    | some q =>
      obtain ⟨ls, st2⟩ := q
      rw [hth] at h
      match ls, h with
      | [l'], h =>
        simp only [oneT, Option.some.injEq, Prod.mk.injEq] at h
        obtain ⟨rfl, rfl⟩ := h
        obtain ⟨ρ', q1, q2, q3, q4, q5⟩ := thawCells_ok (one := false) (vs := [v]) (bs := bs) g hth ⟨v, [], bs, [], rfl, by simp, by simp, hR.1 hr, rfl, rfl⟩ hb hnd
        simp only [LReps] at q3
        obtain ⟨v', r', e, _, q6, _⟩ := q3
        obtain ⟨rfl, _⟩ := List.cons.inj e
        exact ⟨ρ', q1, q2, q6, q4, q5⟩

theorem nodup_right {b1 b2 : Blks} (h : (((b1 ++ b2).filterMap id).map Prod.fst).Nodup) : ((b1.filterMap id).map Prod.fst).Nodup ∧ ((b2.filterMap id).map Prod.fst).Nodup ∧ ∀ b K K', some (b, K) ∈ b1 → some (b, K') ∉ b2 := by
  rw [List.filterMap_append, List.map_append, List.nodup_append] at h
  refine ⟨h.1, h.2.1, fun b K K' h1 h2 => ?_⟩
  exact h.2.2 b (List.mem_map.2 ⟨(b, K), List.mem_filterMap.2 ⟨_, h1, rfl⟩, rfl⟩) b (List.mem_map.2 ⟨(b, K'), List.mem_filterMap.2 ⟨_, h2, rfl⟩, rfl⟩) rfl

theorem thawVs_ok : ∀ {ts : List TV} {k : Nat} {st st' : St} {ls : List LV} {ρ : Rho} {vs : List Value} {bs : Blks}, Gam N w0 ok0 st ok ρ a w → thawVs k ts st = some (ls, st') → ResRs w ok ts vs bs →
    (∀ b K, some (b, K) ∈ bs → w0.heap.size ≤ b ∧ b < w.heap.size ∧ ¬ ok b ∧ Away st ρ b) → ((bs.filterMap id).map Prod.fst).Nodup →
    ∃ ρ', Gam N w0 ok0 st' ok ρ' a w ∧ Later ρ ρ' st.hp st'.hp ∧ LReps w ok ρ' st'.hp false ls vs ∧ st'.env = st.env ∧ ∀ b, (∀ K, some (b, K) ∉ bs) → Away st ρ b → Away st' ρ' b
  | [], k, st, st', ls, ρ, vs, bs, g, h, hr, hb, hnd => by
    simp only [thawVs, Option.some.injEq, Prod.mk.injEq] at h
    obtain ⟨rfl, rfl⟩ := h
    obtain ⟨rfl, rfl⟩ := hr
    exact ⟨ρ, g, Later.refl _ _, by simp only [LReps], rfl, fun _ _ h => h⟩
  | t :: ts, k, st, st', ls, ρ, vs, bs, g, h, hr, hb, hnd => by
    obtain ⟨v, r, b1, b2, rfl, rfl, h2, h3⟩ := hr
    obtain ⟨n1, n2, n3⟩ := nodup_right hnd
    simp only [thawVs] at h
    cases h1 : thaw1 k t st with
    | none => rw [h1] at h; cases h
    | some q =>
      obtain ⟨l, st1⟩ := q
      rw [h1] at h
      simp only [thawK] at h
      obtain ⟨ρ1, q1, q2, q3, q4, q5⟩ := thaw1_ok g h1 h2 (fun b K hm => hb b K (by simp [hm])) n1
      cases h4 : thawVs (k + 16) ts st1 with
      | none => rw [h4] at h; cases h
      | some q =>
        obtain ⟨ls', st2⟩ := q
        rw [h4] at h
        simp only [consT, Option.some.injEq, Prod.mk.injEq] at h
        obtain ⟨rfl, rfl⟩ := h
        obtain ⟨ρ', p1, p2, p3, p4, p5⟩ := thawVs_ok (bs := b2) q1 h4 h3 (fun b K hm => by
          obtain ⟨r1, r2, r3, r4⟩ := hb b K (by simp [hm])
          exact ⟨r1, r2, r3, q5 b (fun K' hm' => n3 b K' K hm' hm) r4⟩) n2
        refine ⟨ρ', p1, q2.trans p2, ?_, p4.trans q4, fun b hne haw => p5 b (fun K hm => hne K (by simp [hm])) (q5 b (fun K hm => hne K (by simp [hm])) haw)⟩
        simp only [LReps]
        exact ⟨v, r, rfl, by simp, q3.to (Same.refl _ _) p2, p3⟩

theorem thaw_ok {t : TV} {k : Nat} {st st' : St} {l : LV} {ρ : Rho} {v : Value} {bs : Blks} (g : Gam N w0 ok0 st ok ρ a w) (h : thaw k t st = some (l, st')) (hr : Res w ok t v bs)
    (hb : ∀ b K, some (b, K) ∈ bs → w0.heap.size ≤ b ∧ b < w.heap.size ∧ ¬ ok b ∧ Away st ρ b) (hnd : ((bs.filterMap id).map Prod.fst).Nodup) :
    ∃ ρ', Gam N w0 ok0 st' ok ρ' a w ∧ LRep w ok ρ' st'.hp l v := by
  by_cases ha : ∃ cs, t = .tup cs
  · obtain ⟨cs, rfl⟩ := ha
    simp only [thaw] at h
    obtain ⟨vs, rfl, h2⟩ := hr
    cases hth : thawVs k cs st with
    | none => rw [hth] at h; cases h
    | some q =>
      obtain ⟨ls, st2⟩ := q
      rw [hth] at h
      simp only [tupT, Option.some.injEq, Prod.mk.injEq] at h
      obtain ⟨rfl, rfl⟩ := h
      obtain ⟨ρ', q1, q2, q3, q4, q5⟩ := thawVs_ok g hth h2 hb hnd
      exact ⟨ρ', q1, by simp only [LRep]; exact ⟨vs, rfl, q3⟩⟩
  · have hR : Res w ok t v bs ↔ ResR w ok t v bs := by cases t with
      | tup cs => exact absurd ⟨cs, rfl⟩ ha
      | _ => exact Iff.rfl
    have hT : thaw k t st = thaw1 k t st := by cases t with
      | tup cs => exact absurd ⟨cs, rfl⟩ ha
      | _ => rfl
    rw [hT] at h
    obtain ⟨ρ', q1, q2, q3, _⟩ := thaw1_ok g h (hR.1 hr) hb hnd
    exact ⟨ρ', q1, q3⟩

/-! ### flat results name no memory -/
theorem scalar_any {t : TV} (h : t.scalar = true) {v : Value} {ok ok' : Nat → Prop} {w w' : World} (ht : TRep w ok t v) : TRep w' ok' t v := by
  cases t <;> first | (simp [TV.scalar] at h; done) | (simp only [TRep] at ht ⊢; exact ht)
theorem scalar_resC {t : TV} (h : t.scalar = true) {v : Value} {bs : Blks} {ok ok' : Nat → Prop} (hr : ResC w ok t v bs) : ResC w ok' t v bs ∧ bs = [] := by
  have key : ∀ ok, ResC w ok t v bs ↔ bs = [] ∧ TRep w ok t v := fun ok => by cases t <;> first | exact Iff.rfl | (simp [TV.scalar] at h; done)
  have h1 := (key ok).1 hr
  exact ⟨(key ok').2 ⟨h1.1, scalar_any h h1.2⟩, h1.1⟩
theorem scalars_resCs {one : Bool} : ∀ {ts : List TV}, scalars ts = true → ∀ {vs : List Value} {bs : Blks} {ok ok' : Nat → Prop}, ResCs w ok one ts vs bs → ResCs w ok' one ts vs bs ∧ bs = []
  | [], _, vs, bs, ok, ok', hr => ⟨hr, hr.2⟩
  | t :: ts, h, vs, bs, ok, ok', hr => by
    simp only [scalars, Bool.and_eq_true] at h
    obtain ⟨v, r, b1, b2, rfl, rfl, h1, h2, h3⟩ := hr
    have k1 := scalar_resC (ok' := ok') h.1 h2
    have k2 := scalars_resCs h.2 (ok' := ok') h3
    exact ⟨⟨v, r, b1, b2, rfl, rfl, h1, k1.1, k2.1⟩, by rw [k1.2, k2.2]; rfl⟩
theorem flat_resR {t : TV} (h : (∃ cs, t = .agg cs ∧ scalars cs = true) ∨ t.scalar = true) {v : Value} {bs : Blks} {ok ok' : Nat → Prop} (hr : ResR w ok t v bs) : ResR w ok' t v bs ∧ bs = [] := by
  rcases h with ⟨cs, rfl, h⟩ | h
  · obtain ⟨vs, rfl, h2⟩ := hr
    have k := scalars_resCs h (ok' := ok') h2
    exact ⟨⟨vs, rfl, k.1⟩, k.2⟩
  · have key : ∀ ok, ResR w ok t v bs ↔ ResC w ok t v bs := fun ok => by cases t <;> first | exact Iff.rfl | (simp [TV.scalar] at h; done)
    have k := scalar_resC (ok' := ok') h ((key ok).1 hr)
    exact ⟨(key ok').2 k.1, k.2⟩
theorem flats_resRs : ∀ {ts : List TV}, TV.flat.flats ts = true → ∀ {vs : List Value} {bs : Blks} {ok ok' : Nat → Prop}, ResRs w ok ts vs bs → ResRs w ok' ts vs bs ∧ bs = []
  | [], _, vs, bs, ok, ok', hr => ⟨hr, hr.2⟩
  | t :: ts, h, vs, bs, ok, ok', hr => by
    have hh : ((∃ cs, t = .agg cs ∧ scalars cs = true) ∨ t.scalar = true) ∧ TV.flat.flats ts = true := by
      cases t with
      | agg cs => simp only [TV.flat.flats, Bool.and_eq_true] at h; exact ⟨.inl ⟨cs, rfl, h.1⟩, h.2⟩
      | _ => simp only [TV.flat.flats, Bool.and_eq_true] at h; exact ⟨.inr h.1, h.2⟩
    obtain ⟨v, r, b1, b2, rfl, rfl, h2, h3⟩ := hr
    have k1 := flat_resR (ok' := ok') hh.1 h2
    have k2 := flats_resRs hh.2 (ok' := ok') h3
    exact ⟨⟨v, r, b1, b2, rfl, rfl, k1.1, k2.1⟩, by rw [k1.2, k2.2]; rfl⟩
theorem flat_res {t : TV} (h : t.flat = true) {v : Value} {bs : Blks} {ok ok' : Nat → Prop} (hr : Res w ok t v bs) : Res w ok' t v bs ∧ bs = [] := by
  cases t with
  | tup ts =>
    obtain ⟨vs, rfl, h2⟩ := hr
    have k := flats_resRs (by simpa [TV.flat] using h) (ok' := ok') h2
    exact ⟨⟨vs, rfl, k.1⟩, k.2⟩
  | agg cs =>
    have k := flat_resR (.inl ⟨cs, rfl, by simpa [TV.flat] using h⟩) (ok' := ok') hr
    exact ⟨k.1, k.2⟩
  | sl _ _ _ => simp [TV.flat, TV.scalar] at h
  | pc _ => simp [TV.flat, TV.scalar] at h
  | fn _ _ => simp [TV.flat, TV.scalar] at h
  | int k n => have k := scalar_resC (t := .int k n) rfl (ok' := ok') hr; exact ⟨k.1, k.2⟩
  | bool b => have k := scalar_resC (t := .bool b) rfl (ok' := ok') hr; exact ⟨k.1, k.2⟩
  | str z => have k := scalar_resC (t := .str z) rfl (ok' := ok') hr; exact ⟨k.1, k.2⟩
  | nilfn => have k := scalar_resC (t := .nilfn) rfl (ok' := ok') hr; exact ⟨k.1, k.2⟩

/-! ### a result, with more blocks free -/
theorem ResC.to {ok ok' : Nat → Prop} (hs : Same w w ok ok') {t : TV} {v : Value} {bs : Blks} (h : ResC w ok t v bs) : ResC w ok' t v bs := by
  by_cases hown : ∃ e sz rows, t = .sl (.own e) sz rows
  · obtain ⟨e, sz, rows, rfl⟩ := hown
    obtain ⟨x, ad, cap, h1, h2, h3, h4⟩ := h
    refine ⟨x, ad, cap, h1, h2, h3, ?_⟩
    rcases h4 with h4 | ⟨b, cur, q1, q2, q3, q4, q5, q6⟩
    · exact .inl h4
    · exact .inr ⟨b, cur, q1, q2, q3, q4, q5, q6.at hs rfl⟩
  · have hR : ∀ ok, ResC w ok t v bs ↔ bs = [] ∧ TRep w ok t v := fun ok => by
      cases t with
      | sl fl sz rows => cases fl with
        | own e => exact absurd ⟨e, sz, rows, rfl⟩ hown
        | shared => exact Iff.rfl
        | tight e => exact Iff.rfl
      | _ => exact Iff.rfl
    have k := (hR ok).1 h
    exact (hR ok').2 ⟨k.1, k.2.to hs⟩
theorem ResCs.to {ok ok' : Nat → Prop} (hs : Same w w ok ok') {one : Bool} : ∀ {ts : List TV} {vs : List Value} {bs : Blks}, ResCs w ok one ts vs bs → ResCs w ok' one ts vs bs
  | [], _, _, h => h
  | t :: ts, vs, bs, h => by
    obtain ⟨v, r, b1, b2, q1, q2, q3, q4, q5⟩ := h
    exact ⟨v, r, b1, b2, q1, q2, q3, q4.to hs, ResCs.to hs q5⟩
theorem ResR.to {ok ok' : Nat → Prop} (hs : Same w w ok ok') {t : TV} {v : Value} {bs : Blks} (h : ResR w ok t v bs) : ResR w ok' t v bs := by
  by_cases ha : ∃ cs, t = .agg cs
  · obtain ⟨cs, rfl⟩ := ha
    obtain ⟨vs, h1, h2⟩ := h
    exact ⟨vs, h1, h2.to hs⟩
  · have hR : ∀ ok, ResR w ok t v bs ↔ ResC w ok t v bs := fun ok => by cases t with
      | agg cs => exact absurd ⟨cs, rfl⟩ ha
      | _ => exact Iff.rfl
    exact (hR ok').2 (((hR ok).1 h).to hs)
theorem ResRs.to {ok ok' : Nat → Prop} (hs : Same w w ok ok') : ∀ {ts : List TV} {vs : List Value} {bs : Blks}, ResRs w ok ts vs bs → ResRs w ok' ts vs bs
  | [], _, _, h => h
  | t :: ts, vs, bs, h => by
    obtain ⟨v, r, b1, b2, q1, q2, q4, q5⟩ := h
    exact ⟨v, r, b1, b2, q1, q2, q4.to hs, ResRs.to hs q5⟩
theorem Res.to {ok ok' : Nat → Prop} (hs : Same w w ok ok') {t : TV} {v : Value} {bs : Blks} (h : Res w ok t v bs) : Res w ok' t v bs := by
  by_cases ha : ∃ cs, t = .tup cs
  · obtain ⟨cs, rfl⟩ := ha
    obtain ⟨vs, h1, h2⟩ := h
    exact ⟨vs, h1, h2.to hs⟩
  · have hR : ∀ ok, Res w ok t v bs ↔ ResR w ok t v bs := fun ok => by cases t with
      | tup cs => exact absurd ⟨cs, rfl⟩ ha
      | _ => exact Iff.rfl
    exact (hR ok').2 (((hR ok).1 h).to hs)

theorem okPlus_nil {ρ : Rho} {h : Hp} : okPlus ok ρ h [] = ok := by
  funext b
  simp [okPlus]

/-- behind a call -/
theorem Gam.called {st st' : St} {ρ : Rho} (g : Gam N w0 ok0 st ok ρ a w) (hb : Below w.heap.size w w') {r : TV} {v : Value} {l : LV} {k : Nat} (hr : RRep w.heap.size w' ok r v) (h : thaw k r st = some (l, st')) :
    ∃ ok' ρ', Gam N w0 ok0 st' ok' ρ' a w' ∧ LRep w' ok' ρ' st'.hp l v := by
  obtain ⟨ok1, bs, h1, ⟨h2, h3⟩, h4⟩ := hr
  have g1 := g.world hb
  have g2 : Gam N w0 ok0 st (fun b => ok b ∨ ok1 b) ρ a w' := by
    refine g1.grow (fun b hb' => .inl hb') (fun b hb' hlt => ?_) (fun b hb' => ?_)
    · rcases hb' with hb' | hb'
      · exact g.old b hb' hlt
      · exact g.old b ((h1 b hb').1 (Nat.lt_of_lt_of_le hlt g.below.size)) hlt
    · rcases hb' with hb' | hb'
      · exact g1.free b hb'
      · refine ⟨(h1 b hb').2, fun i p K hi hown hri => ?_⟩
        have hl : p.live = true := by cases p <;> simp_all [Ob.own, Ob.live]
        have hlt := (g.fresh i p b K hi hl hri).2
        exact (g.free b ((h1 b hb').1 hlt)).2 i p K hi hown hri
  have hs : Same w' w' ok1 (fun b => ok b ∨ ok1 b) := fun b hb' => ⟨rfl, .inr hb'⟩
  obtain ⟨ρ', q1, q2⟩ := thaw_ok g2 h (h4.to hs) (fun b K hm => by
    obtain ⟨r1, r2, r3⟩ := h2 b K hm
    refine ⟨Nat.le_trans g.below.size r1, r2, fun ho => ?_, fun i p K' hi hl hri => ?_⟩
    · rcases ho with ho | ho
      · exact Nat.lt_irrefl _ (Nat.lt_of_lt_of_le (g.free b ho).1 r1)
      · exact r3 ho
    · exact Nat.lt_irrefl _ (Nat.lt_of_lt_of_le (g.fresh i p b K' hi hl hri).2 r1)) h3
  exact ⟨_, ρ', q1, q2⟩
end
end Go.Proofs.Ytehcfmohjcjmpaa.Sx
