/- What a call is known to do; a call in the evaluator is sound. A call of a function in the evaluator is sound. Every operation of the evaluator is sound. A region's operations, one behind the other. An operation of the evaluator looks at its footprint alone, and turns no more. Every operation is local; two that are apart go in either order. A region whose order is drawn: in every order that may be drawn it comes to the same. The orders that may be drawn. What is kept behind a region still says what is so. A block that nobody else names, turned; what is carried along; marks. What stays named, named by two lists; rooms behind. -/
import Derived.RangeFuncIn
import Derived.RangeFuncRecord
import Derived.RangeFuncLeaves
import Derived.RangeFuncCalls
import Derived.Test.YtonhkmpjpnjkfaaSxG2
set_option maxRecDepth 100000
set_option linter.unusedSimpArgs false
set_option linter.unusedVariables false
namespace Go.Proofs.Ytonhkmpjpnjkfaa.Sx
open Go Go.RowKit

/-! ### results: a tree, and the blocks of its own slices, from left to right -/
abbrev Blks := List (Option (Nat × Nat))
def ResC (w : World) (ok : Nat → Prop) : TV → Value → Blks → Prop
  | .sl (.own e) sz rows, v, bs => ∃ x ad cap, bs = [x] ∧ v = .slice ad rows.length cap ∧ cap ≤ maxLen ∧ ((x = none ∧ rows = [] ∧ cap = 0) ∨
      ∃ b cur, x = some (b, cap) ∧ ad = some ⟨b, 0, none⟩ ∧ w.heap[b]? = some (.cells cur e (0, 0)) ∧ cur.size = cap * sz ∧ rows.length ≤ cap ∧ RowsRep w ok sz b rows 0)
  | t, v, bs => bs = [] ∧ TRep w ok t v
def ResCs (w : World) (ok : Nat → Prop) (one : Bool) : List TV → List Value → Blks → Prop
  | [], vs, bs => vs = [] ∧ bs = []
  | t :: ts, vs, bs => ∃ v r b1 b2, vs = v :: r ∧ bs = b1 ++ b2 ∧ (one = true → v.oneCell' = true) ∧ ResC w ok t v b1 ∧ ResCs w ok one ts r b2
def ResR (w : World) (ok : Nat → Prop) : TV → Value → Blks → Prop
  | .agg cs, v, bs => ∃ vs, v = .agg vs ∧ ResCs w ok true cs vs.toList bs
  | t, v, bs => ResC w ok t v bs
def ResRs (w : World) (ok : Nat → Prop) : List TV → List Value → Blks → Prop
  | [], vs, bs => vs = [] ∧ bs = []
  | t :: ts, vs, bs => ∃ v r b1 b2, vs = v :: r ∧ bs = b1 ++ b2 ∧ ResR w ok t v b1 ∧ ResRs w ok ts r b2
def Res (w : World) (ok : Nat → Prop) : TV → Value → Blks → Prop
  | .tup ts, v, bs => ∃ vs, v = .tuple vs ∧ ResRs w ok ts vs.toList bs
  | t, v, bs => ResR w ok t v bs

/-- the blocks: each once, new, none of ok -/
def BlksOk (n : Nat) (w : World) (ok : Nat → Prop) (bs : Blks) : Prop :=
  (∀ b K, some (b, K) ∈ bs → n ≤ b ∧ b < w.heap.size ∧ ¬ ok b) ∧ ((bs.filterMap id).map Prod.fst).Nodup

def RRep (n : Nat) (w : World) (ok0 : Nat → Prop) (r : TV) (v : Value) : Prop :=
  ∃ ok1 bs, (∀ b, ok1 b → (b < n → ok0 b) ∧ b < w.heap.size) ∧ BlksOk n w ok1 bs ∧ Res w ok1 r v bs

/-- a function of the program that has a body -/
def FnOK (P : Program) (f : FuncId) : Prop := ∃ fn, P.funcs[f]? = some fn ∧ (fn.name == "runtime.NumGoroutine") = false ∧ fn.body.isNone = false

/-- WHAT A CALL IS KNOWN TO DO: called with values that read as 'args', it returns a value that reads as r, and nothing that lay there has turned. -/
def Sound (P : Program) (f : FuncId) (args : List TV) (r : TV) : Prop := FnOK P f ∧ ∀ (w : World) (ok : Nat → Prop) (vs : List Value), (∀ b, ok b → b < w.heap.size) → ValsRep w ok false args vs →
  Calls P f vs.toArray w fun e w' => ∃ v, e = .returned v ∧ Below w.heap.size w w' ∧ RRep w.heap.size w' ok r v

theorem Later.trans {ρ ρ' ρ'' : Rho} {h h' h'' : Hp} (a : Later ρ ρ' h h') (b : Later ρ' ρ'' h' h'') : Later ρ ρ'' h h'' := fun id o ho => by
  rcases a id o ho with hd | ⟨hr, hk⟩
  · rcases b id _ hd with h2 | ⟨_, h2⟩
    · exact .inl h2
    · rcases h2 with ⟨f, cs, f', cs', e, _⟩ | ⟨f, e, sz, rows, f', e', rows', e1, _⟩ | ⟨_, h2⟩ | ⟨f, k, v, es, f', es', e, _⟩
      · cases e
      · cases e1
      · exact .inl h2
      · cases e
  · rcases hk with ⟨f, cs, f', cs', rfl, h1⟩ | ⟨f, e, sz, rows, f', e', rows', rfl, h1, hl⟩ | ⟨rfl, h1⟩ | ⟨f, k, v, es, f', es', rfl, h1⟩
    · rcases b id _ h1 with h2 | ⟨hr2, h2⟩
      · exact .inl h2
      · rcases h2 with ⟨f1, cs1, f2, cs2, e, h3⟩ | ⟨f1, e, sz, rows, f2, e', rows', e1, _⟩ | ⟨e, _⟩ | ⟨f, k, v, es, f', es', e, _⟩
        · exact .inr ⟨hr2.trans hr, .inl ⟨f, cs, f2, cs2, rfl, h3⟩⟩
        · cases e1
        · cases e
        · cases e
    · rcases b id _ h1 with h2 | ⟨hr2, h2⟩
      · exact .inl h2
      · rcases h2 with ⟨f1, cs1, f2, cs2, e, h3⟩ | ⟨f1, e1, sz1, rows1, f2, e2, rows2, e3, h3, hl2⟩ | ⟨e, _⟩ | ⟨f, k, v, es, f', es', e, _⟩
        · cases e
        · cases e3
          exact .inr ⟨hr2.trans hr, .inr (.inl ⟨f, e, sz, rows, f2, e2, rows2, rfl, h3, Nat.le_trans hl hl2⟩)⟩
        · cases e
        · cases e
    · rcases b id _ h1 with h2 | ⟨hr2, h2⟩
      · exact .inl h2
      · rcases h2 with ⟨f1, cs1, f2, cs2, e, h3⟩ | ⟨f1, e1, sz1, rows1, f2, e2, rows2, e3, _⟩ | ⟨_, h3⟩ | ⟨f, k, v, es, f', es', e, _⟩
        · cases e
        · cases e3
        · exact .inl h3
        · cases e
    · rcases b id _ h1 with h2 | ⟨hr2, h2⟩
      · exact .inl h2
      · rcases h2 with ⟨f1, cs1, f2, cs2, e, h3⟩ | ⟨f1, e1, sz1, rows1, f2, e2, rows2, e3, _⟩ | ⟨e, _⟩ | ⟨f2, k2, v2, es2, f3, es3, e, h3⟩
        · cases e
        · cases e3
        · cases e
        · cases e
          exact .inr ⟨hr2.trans hr, .inr (.inr (.inr ⟨f, k, v, es, f3, es3, rfl, h3⟩))⟩

section
variable {P : Program} {N : Rm} {w0 : World} {ok0 : Nat → Prop} {ok : Nat → Prop} {a : Act} {w w' : World}
  {next : Act → World → Prop} {Q : Exit → Act → World → Prop} {o : Oper}

/-- no live object lies in block b -/
def Away (st : St) (ρ : Rho) (b : Nat) : Prop := ∀ i p K, st.hp i = some p → p.live = true → ρ i ≠ some (b, K)

theorem thawCells_ok {one : Bool} : ∀ {ts : List TV} {k : Nat} {st st' : St} {ls : List LV} {ρ : Rho} {vs : List Value} {bs : Blks}, Gam N w0 ok0 st ok ρ a w → thawCells k ts st = some (ls, st') → ResCs w ok one ts vs bs →
    (∀ b K, some (b, K) ∈ bs → N.fresh w0 b ∧ b < w.heap.size ∧ ¬ ok b ∧ Away st ρ b) → ((bs.filterMap id).map Prod.fst).Nodup →
    ∃ ρ', Gam N w0 ok0 st' ok ρ' a w ∧ Later ρ ρ' st.hp st'.hp ∧ LReps w ok ρ' st'.hp one ls vs ∧ st'.env = st.env ∧ ∀ b, (∀ K, some (b, K) ∉ bs) → Away st ρ b → Away st' ρ' b
  | [], k, st, st', ls, ρ, vs, bs, g, h, hr, hb, hnd => by
    simp only [thawCells, Option.some.injEq, Prod.mk.injEq] at h
    obtain ⟨rfl, rfl⟩ := h
    obtain ⟨rfl, rfl⟩ := hr
    exact ⟨ρ, g, Later.refl _ _, by simp only [LReps], rfl, fun _ _ h => h⟩
  | t :: ts, k, st, st', ls, ρ, vs, bs, g, h, hr, hb, hnd => by
    obtain ⟨v, r, b1, b2, rfl, rfl, h1, h2, h3⟩ := hr
    by_cases hown : ∃ e sz rows, t = .sl (.own e) sz rows
    · obtain ⟨e, sz, rows, rfl⟩ := hown
      simp only [thawCells] at h
      unfold thawOne at h
      split at h
      · rename_i hk
        obtain ⟨x, ad, cap, rfl, rfl, hcap, hx⟩ := h2
        have g1 : Gam N w0 ok0 { st with hp := upd st.hp k (some (.arr false e sz rows)) } ok (upd ρ k x) a w := by
          refine g.adopt hk (fun b K hxe => ?_) ?_
          · obtain ⟨q1, q2, q3, q4⟩ := hb b K (by rw [← hxe]; simp)
            exact ⟨q1, q2, q3, q4⟩
          · rcases hx with ⟨rfl, rfl, rfl⟩ | ⟨b, cur, rfl, rfl, q1, q2, q3, q4⟩
            · exact .inl ⟨upd_same _ _ _, rfl⟩
            · exact .inr ⟨b, cap, cur, upd_same _ _ _, q1, q2, hcap, q3, q4⟩
        have hl1 := later_new (ρ := ρ) hk x (.arr false e sz rows)
        cases hth : thawCells (k + 1) ts { st with hp := upd st.hp k (some (.arr false e sz rows)) } with
        | none => rw [hth] at h; cases h
        | some q =>
          obtain ⟨ls', st2⟩ := q
          rw [hth] at h
          simp only [consT, Option.some.injEq, Prod.mk.injEq] at h
          obtain ⟨rfl, rfl⟩ := h
          have hnd' : ((b2.filterMap id).map Prod.fst).Nodup := by
            cases x with
            | none => simpa using hnd
            | some y => simp only [List.cons_append, List.nil_append, List.filterMap_cons, id] at hnd; exact (List.nodup_cons.1 (by simpa using hnd)).2
          have away1 : ∀ b, (∀ K, some (b, K) ∉ [x]) → Away st ρ b → Away { st with hp := upd st.hp k (some (.arr false e sz rows)) } (upd ρ k x) b := by
            intro b hne haw i p K hi hp hr
            by_cases ei : i = k
            · subst ei
              rw [upd_same] at hr
              exact hne K (by simp [hr])
            · simp only [upd_ne _ _ ei] at hi hr
              exact haw i p K hi hp hr
          obtain ⟨ρ', g2, hl2, hls, henv, haway⟩ := thawCells_ok (bs := b2) g1 hth h3 (fun b K hm => by
            obtain ⟨q1, q2, q3, q4⟩ := hb b K (by simp [hm])
            refine ⟨q1, q2, q3, away1 b (fun K' hm' => ?_) q4⟩
            have hx' : x = some (b, K') := (List.mem_singleton.1 hm').symm
            subst hx'
            simp only [List.cons_append, List.nil_append, List.filterMap_cons, id, List.map_cons, List.nodup_cons] at hnd
            exact hnd.1 (List.mem_map.2 ⟨(b, K), List.mem_filterMap.2 ⟨some (b, K), hm, rfl⟩, rfl⟩)) hnd'
          refine ⟨ρ', g2, hl1.trans hl2, ?_, henv, fun b hne haw => haway b (fun K hm => hne K (by simp [hm])) (away1 b (fun K hm => hne K (List.mem_append_left _ hm)) haw)⟩
          simp only [LReps]
          refine ⟨_, r, rfl, h1, ?_, hls⟩
          have hs : LRep w ok (upd ρ k x) (upd st.hp k (some (.arr false e sz rows))) (.s k 0 rows.length) (.slice ad rows.length cap) := by
            simp only [LRep, upd_same, SRep]
            rcases hx with ⟨rfl, rfl, rfl⟩ | ⟨b, cur, rfl, rfl, q1, q2, q3, q4⟩
            · exact ⟨ad, 0, rfl, by simp, by simp, hcap, .inl (by simp)⟩
            · exact ⟨_, cap, rfl, by simp, q3, hcap, .inr ⟨b, cap, rfl, by omega, .inl (by simp)⟩⟩
          exact hs.to (Same.refl _ _) hl2
      · cases h
    · have hR : ResC w ok t v b1 ↔ b1 = [] ∧ TRep w ok t v := by
        cases t with
        | sl fl sz rows => cases fl with
          | own e => exact absurd ⟨e, sz, rows, rfl⟩ hown
          | shared => exact Iff.rfl
          | tight e => exact Iff.rfl
        | _ => exact Iff.rfl
      obtain ⟨rfl, ht⟩ := hR.1 h2
      have hT : thawCells k (t :: ts) st = consT (.v t) (thawCells (k + 1) ts st) := by
        cases t with
        | sl fl sz rows => cases fl with
          | own e => exact absurd ⟨e, sz, rows, rfl⟩ hown
          | shared => rfl
          | tight e => rfl
        | _ => rfl
      rw [hT] at h
      cases hth : thawCells (k + 1) ts st with
      | none => rw [hth] at h; cases h
      | some q =>
        obtain ⟨ls', st2⟩ := q
        rw [hth] at h
        simp only [consT, Option.some.injEq, Prod.mk.injEq] at h
        obtain ⟨rfl, rfl⟩ := h
        obtain ⟨ρ', g2, hl2, hls, henv, haway⟩ := thawCells_ok (bs := b2) g hth h3 (fun b K hm => hb b K (by simpa using hm)) (by simpa using hnd)
        refine ⟨ρ', g2, hl2, ?_, henv, fun b hne haw => haway b (fun K hm => hne K (by simpa using hm)) haw⟩
        simp only [LReps]
        exact ⟨v, r, rfl, h1, by simp only [LRep]; exact ht, hls⟩

theorem thaw1_ok {t : TV} {k : Nat} {st st' : St} {l : LV} {ρ : Rho} {v : Value} {bs : Blks} (g : Gam N w0 ok0 st ok ρ a w) (h : thaw1 k t st = some (l, st')) (hr : ResR w ok t v bs)
    (hb : ∀ b K, some (b, K) ∈ bs → N.fresh w0 b ∧ b < w.heap.size ∧ ¬ ok b ∧ Away st ρ b) (hnd : ((bs.filterMap id).map Prod.fst).Nodup) :
    ∃ ρ', Gam N w0 ok0 st' ok ρ' a w ∧ Later ρ ρ' st.hp st'.hp ∧ LRep w ok ρ' st'.hp l v ∧ st'.env = st.env ∧ ∀ b, (∀ K, some (b, K) ∉ bs) → Away st ρ b → Away st' ρ' b := by
  by_cases ha : ∃ cs, t = .agg cs
  · obtain ⟨cs, rfl⟩ := ha
    simp only [thaw1] at h
    split at h
    · obtain ⟨vs, rfl, h2⟩ := hr
      cases hth : thawCells k cs st with
      | none => rw [hth] at h; cases h
      | some q =>
        obtain ⟨ls, st2⟩ := q
        rw [hth] at h
        simp only [aggT, Option.some.injEq, Prod.mk.injEq] at h
        obtain ⟨rfl, rfl⟩ := h
        obtain ⟨ρ', q1, q2, q3, q4, q5⟩ := thawCells_ok g hth h2 hb hnd
        exact ⟨ρ', q1, q2, by simp only [LRep]; exact ⟨vs, rfl, q3⟩, q4, q5⟩
    · cases h
  · have hR : ResR w ok t v bs ↔ ResC w ok t v bs := by cases t with
      | agg cs => exact absurd ⟨cs, rfl⟩ ha
      | _ => exact Iff.rfl
    have hT : thaw1 k t st = oneT (thawCells k [t] st) := by cases t with
      | agg cs => exact absurd ⟨cs, rfl⟩ ha
      | _ => rfl
    rw [hT] at h
    cases hth : thawCells k [t] st with
    | none => rw [hth] at h; cases h
    | some q =>
      obtain ⟨ls, st2⟩ := q
      rw [hth] at h
      match ls, h with
      | [l'], h =>
        simp only [oneT, Option.some.injEq, Prod.mk.injEq] at h
        obtain ⟨rfl, rfl⟩ := h
        obtain ⟨ρ', q1, q2, q3, q4, q5⟩ := thawCells_ok (one := false) (vs := [v]) (bs := bs) g hth ⟨v, [], bs, [], rfl, by simp, by simp, hR.1 hr, rfl, rfl⟩ hb hnd
        simp only [LReps] at q3
        obtain ⟨v', r', e, _, q6, _⟩ := q3
        obtain ⟨rfl, _⟩ := List.cons.inj e
        exact ⟨ρ', q1, q2, q6, q4, q5⟩

theorem nodup_right {b1 b2 : Blks} (h : (((b1 ++ b2).filterMap id).map Prod.fst).Nodup) : ((b1.filterMap id).map Prod.fst).Nodup ∧ ((b2.filterMap id).map Prod.fst).Nodup ∧ ∀ b K K', some (b, K) ∈ b1 → some (b, K') ∉ b2 := by
  rw [List.filterMap_append, List.map_append, List.nodup_append] at h
  refine ⟨h.1, h.2.1, fun b K K' h1 h2 => ?_⟩
  exact h.2.2 b (List.mem_map.2 ⟨(b, K), List.mem_filterMap.2 ⟨_, h1, rfl⟩, rfl⟩) b (List.mem_map.2 ⟨(b, K'), List.mem_filterMap.2 ⟨_, h2, rfl⟩, rfl⟩) rfl

theorem thawVs_ok : ∀ {ts : List TV} {k : Nat} {st st' : St} {ls : List LV} {ρ : Rho} {vs : List Value} {bs : Blks}, Gam N w0 ok0 st ok ρ a w → thawVs k ts st = some (ls, st') → ResRs w ok ts vs bs →
    (∀ b K, some (b, K) ∈ bs → N.fresh w0 b ∧ b < w.heap.size ∧ ¬ ok b ∧ Away st ρ b) → ((bs.filterMap id).map Prod.fst).Nodup →
    ∃ ρ', Gam N w0 ok0 st' ok ρ' a w ∧ Later ρ ρ' st.hp st'.hp ∧ LReps w ok ρ' st'.hp false ls vs ∧ st'.env = st.env ∧ ∀ b, (∀ K, some (b, K) ∉ bs) → Away st ρ b → Away st' ρ' b
  | [], k, st, st', ls, ρ, vs, bs, g, h, hr, hb, hnd => by
    simp only [thawVs, Option.some.injEq, Prod.mk.injEq] at h
    obtain ⟨rfl, rfl⟩ := h
    obtain ⟨rfl, rfl⟩ := hr
    exact ⟨ρ, g, Later.refl _ _, by simp only [LReps], rfl, fun _ _ h => h⟩
  | t :: ts, k, st, st', ls, ρ, vs, bs, g, h, hr, hb, hnd => by
    obtain ⟨v, r, b1, b2, rfl, rfl, h2, h3⟩ := hr
    obtain ⟨n1, n2, n3⟩ := nodup_right hnd
    simp only [thawVs] at h
    cases h1 : thaw1 k t st with
    | none => rw [h1] at h; cases h
    | some q =>
      obtain ⟨l, st1⟩ := q
      rw [h1] at h
      simp only [thawK] at h
      obtain ⟨ρ1, q1, q2, q3, q4, q5⟩ := thaw1_ok g h1 h2 (fun b K hm => hb b K (by simp [hm])) n1
      cases h4 : thawVs (k + 16) ts st1 with
      | none => rw [h4] at h; cases h
      | some q =>
        obtain ⟨ls', st2⟩ := q
        rw [h4] at h
        simp only [consT, Option.some.injEq, Prod.mk.injEq] at h
        obtain ⟨rfl, rfl⟩ := h
        obtain ⟨ρ', p1, p2, p3, p4, p5⟩ := thawVs_ok (bs := b2) q1 h4 h3 (fun b K hm => by
          obtain ⟨r1, r2, r3, r4⟩ := hb b K (by simp [hm])
          exact ⟨r1, r2, r3, q5 b (fun K' hm' => n3 b K' K hm' hm) r4⟩) n2
        refine ⟨ρ', p1, q2.trans p2, ?_, p4.trans q4, fun b hne haw => p5 b (fun K hm => hne K (by simp [hm])) (q5 b (fun K hm => hne K (by simp [hm])) haw)⟩
        simp only [LReps]
        exact ⟨v, r, rfl, by simp, q3.to (Same.refl _ _) p2, p3⟩

theorem thaw_ok {t : TV} {k : Nat} {st st' : St} {l : LV} {ρ : Rho} {v : Value} {bs : Blks} (g : Gam N w0 ok0 st ok ρ a w) (h : thaw k t st = some (l, st')) (hr : Res w ok t v bs)
    (hb : ∀ b K, some (b, K) ∈ bs → N.fresh w0 b ∧ b < w.heap.size ∧ ¬ ok b ∧ Away st ρ b) (hnd : ((bs.filterMap id).map Prod.fst).Nodup) :
    ∃ ρ', Gam N w0 ok0 st' ok ρ' a w ∧ LRep w ok ρ' st'.hp l v := by
  by_cases ha : ∃ cs, t = .tup cs
  · obtain ⟨cs, rfl⟩ := ha
    simp only [thaw] at h
    obtain ⟨vs, rfl, h2⟩ := hr
    cases hth : thawVs k cs st with
    | none => rw [hth] at h; cases h
    | some q =>
      obtain ⟨ls, st2⟩ := q
      rw [hth] at h
      simp only [tupT, Option.some.injEq, Prod.mk.injEq] at h
      obtain ⟨rfl, rfl⟩ := h
      obtain ⟨ρ', q1, q2, q3, q4, q5⟩ := thawVs_ok g hth h2 hb hnd
      exact ⟨ρ', q1, by simp only [LRep]; exact ⟨vs, rfl, q3⟩⟩
  · have hR : Res w ok t v bs ↔ ResR w ok t v bs := by cases t with
      | tup cs => exact absurd ⟨cs, rfl⟩ ha
      | _ => exact Iff.rfl
    have hT : thaw k t st = thaw1 k t st := by cases t with
      | tup cs => exact absurd ⟨cs, rfl⟩ ha
      | _ => rfl
    rw [hT] at h
    obtain ⟨ρ', q1, q2, q3, _⟩ := thaw1_ok g h (hR.1 hr) hb hnd
    exact ⟨ρ', q1, q3⟩

/-! ### flat results name no memory -/
theorem scalar_any {t : TV} (h : t.scalar = true) {v : Value} {ok ok' : Nat → Prop} {w w' : World} (ht : TRep w ok t v) : TRep w' ok' t v := by
  cases t <;> first | (simp [TV.scalar] at h; done) | (simp only [TRep] at ht ⊢; exact ht)
theorem scalar_resC {t : TV} (h : t.scalar = true) {v : Value} {bs : Blks} {ok ok' : Nat → Prop} (hr : ResC w ok t v bs) : ResC w ok' t v bs ∧ bs = [] := by
  have key : ∀ ok, ResC w ok t v bs ↔ bs = [] ∧ TRep w ok t v := fun ok => by cases t <;> first | exact Iff.rfl | (simp [TV.scalar] at h; done)
  have h1 := (key ok).1 hr
  exact ⟨(key ok').2 ⟨h1.1, scalar_any h h1.2⟩, h1.1⟩
theorem scalars_resCs {one : Bool} : ∀ {ts : List TV}, scalars ts = true → ∀ {vs : List Value} {bs : Blks} {ok ok' : Nat → Prop}, ResCs w ok one ts vs bs → ResCs w ok' one ts vs bs ∧ bs = []
  | [], _, vs, bs, ok, ok', hr => ⟨hr, hr.2⟩
  | t :: ts, h, vs, bs, ok, ok', hr => by
    simp only [scalars, Bool.and_eq_true] at h
    obtain ⟨v, r, b1, b2, rfl, rfl, h1, h2, h3⟩ := hr
    have k1 := scalar_resC (ok' := ok') h.1 h2
    have k2 := scalars_resCs h.2 (ok' := ok') h3
    exact ⟨⟨v, r, b1, b2, rfl, rfl, h1, k1.1, k2.1⟩, by rw [k1.2, k2.2]; rfl⟩
theorem flat_resR {t : TV} (h : (∃ cs, t = .agg cs ∧ scalars cs = true) ∨ t.scalar = true) {v : Value} {bs : Blks} {ok ok' : Nat → Prop} (hr : ResR w ok t v bs) : ResR w ok' t v bs ∧ bs = [] := by
  rcases h with ⟨cs, rfl, h⟩ | h
  · obtain ⟨vs, rfl, h2⟩ := hr
    have k := scalars_resCs h (ok' := ok') h2
    exact ⟨⟨vs, rfl, k.1⟩, k.2⟩
  · have key : ∀ ok, ResR w ok t v bs ↔ ResC w ok t v bs := fun ok => by cases t <;> first | exact Iff.rfl | (simp [TV.scalar] at h; done)
    have k := scalar_resC (ok' := ok') h ((key ok).1 hr)
    exact ⟨(key ok').2 k.1, k.2⟩
theorem flats_resRs : ∀ {ts : List TV}, TV.flat.flats ts = true → ∀ {vs : List Value} {bs : Blks} {ok ok' : Nat → Prop}, ResRs w ok ts vs bs → ResRs w ok' ts vs bs ∧ bs = []
  | [], _, vs, bs, ok, ok', hr => ⟨hr, hr.2⟩
  | t :: ts, h, vs, bs, ok, ok', hr => by
    have hh : ((∃ cs, t = .agg cs ∧ scalars cs = true) ∨ t.scalar = true) ∧ TV.flat.flats ts = true := by
      cases t with
      | agg cs => simp only [TV.flat.flats, Bool.and_eq_true] at h; exact ⟨.inl ⟨cs, rfl, h.1⟩, h.2⟩
      | _ => simp only [TV.flat.flats, Bool.and_eq_true] at h; exact ⟨.inr h.1, h.2⟩
    obtain ⟨v, r, b1, b2, rfl, rfl, h2, h3⟩ := hr
    have k1 := flat_resR (ok' := ok') hh.1 h2
    have k2 := flats_resRs hh.2 (ok' := ok') h3
    exact ⟨⟨v, r, b1, b2, rfl, rfl, k1.1, k2.1⟩, by rw [k1.2, k2.2]; rfl⟩
theorem flat_res {t : TV} (h : t.flat = true) {v : Value} {bs : Blks} {ok ok' : Nat → Prop} (hr : Res w ok t v bs) : Res w ok' t v bs ∧ bs = [] := by
  cases t with
  | tup ts =>
    obtain ⟨vs, rfl, h2⟩ := hr
    have k := flats_resRs (by simpa [TV.flat] using h) (ok' := ok') h2
    exact ⟨⟨vs, rfl, k.1⟩, k.2⟩
  | agg cs =>
    have k := flat_resR (.inl ⟨cs, rfl, by simpa [TV.flat] using h⟩) (ok' := ok') hr
    exact ⟨k.1, k.2⟩
  | sl _ _ _ => simp [TV.flat, TV.scalar] at h
  | pc _ => simp [TV.flat, TV.scalar] at h
  | fn _ _ => simp [TV.flat, TV.scalar] at h
  | int k n => have k := scalar_resC (t := .int k n) rfl (ok' := ok') hr; exact ⟨k.1, k.2⟩
  | bool b => have k := scalar_resC (t := .bool b) rfl (ok' := ok') hr; exact ⟨k.1, k.2⟩
  | str z => have k := scalar_resC (t := .str z) rfl (ok' := ok') hr; exact ⟨k.1, k.2⟩
  | nilfn => have k := scalar_resC (t := .nilfn) rfl (ok' := ok') hr; exact ⟨k.1, k.2⟩

/-! ### a result, with more blocks free -/
theorem ResC.to {ok ok' : Nat → Prop} (hs : Same w w ok ok') {t : TV} {v : Value} {bs : Blks} (h : ResC w ok t v bs) : ResC w ok' t v bs := by
  by_cases hown : ∃ e sz rows, t = .sl (.own e) sz rows
  · obtain ⟨e, sz, rows, rfl⟩ := hown
    obtain ⟨x, ad, cap, h1, h2, h3, h4⟩ := h
    refine ⟨x, ad, cap, h1, h2, h3, ?_⟩
    rcases h4 with h4 | ⟨b, cur, q1, q2, q3, q4, q5, q6⟩
    · exact .inl h4
    · exact .inr ⟨b, cur, q1, q2, q3, q4, q5, q6.at hs rfl⟩
  · have hR : ∀ ok, ResC w ok t v bs ↔ bs = [] ∧ TRep w ok t v := fun ok => by
      cases t with
      | sl fl sz rows => cases fl with
        | own e => exact absurd ⟨e, sz, rows, rfl⟩ hown
        | shared => exact Iff.rfl
        | tight e => exact Iff.rfl
      | _ => exact Iff.rfl
    have k := (hR ok).1 h
    exact (hR ok').2 ⟨k.1, k.2.to hs⟩
theorem ResCs.to {ok ok' : Nat → Prop} (hs : Same w w ok ok') {one : Bool} : ∀ {ts : List TV} {vs : List Value} {bs : Blks}, ResCs w ok one ts vs bs → ResCs w ok' one ts vs bs
  | [], _, _, h => h
  | t :: ts, vs, bs, h => by
    obtain ⟨v, r, b1, b2, q1, q2, q3, q4, q5⟩ := h
    exact ⟨v, r, b1, b2, q1, q2, q3, q4.to hs, ResCs.to hs q5⟩
theorem ResR.to {ok ok' : Nat → Prop} (hs : Same w w ok ok') {t : TV} {v : Value} {bs : Blks} (h : ResR w ok t v bs) : ResR w ok' t v bs := by
  by_cases ha : ∃ cs, t = .agg cs
  · obtain ⟨cs, rfl⟩ := ha
    obtain ⟨vs, h1, h2⟩ := h
    exact ⟨vs, h1, h2.to hs⟩
  · have hR : ∀ ok, ResR w ok t v bs ↔ ResC w ok t v bs := fun ok => by cases t with
      | agg cs => exact absurd ⟨cs, rfl⟩ ha
      | _ => exact Iff.rfl
    exact (hR ok').2 (((hR ok).1 h).to hs)
theorem ResRs.to {ok ok' : Nat → Prop} (hs : Same w w ok ok') : ∀ {ts : List TV} {vs : List Value} {bs : Blks}, ResRs w ok ts vs bs → ResRs w ok' ts vs bs
  | [], _, _, h => h
  | t :: ts, vs, bs, h => by
    obtain ⟨v, r, b1, b2, q1, q2, q4, q5⟩ := h
    exact ⟨v, r, b1, b2, q1, q2, q4.to hs, ResRs.to hs q5⟩
theorem Res.to {ok ok' : Nat → Prop} (hs : Same w w ok ok') {t : TV} {v : Value} {bs : Blks} (h : Res w ok t v bs) : Res w ok' t v bs := by
  by_cases ha : ∃ cs, t = .tup cs
  · obtain ⟨cs, rfl⟩ := ha
    obtain ⟨vs, h1, h2⟩ := h
    exact ⟨vs, h1, h2.to hs⟩
  · have hR : ∀ ok, Res w ok t v bs ↔ ResR w ok t v bs := fun ok => by cases t with
      | tup cs => exact absurd ⟨cs, rfl⟩ ha
      | _ => exact Iff.rfl
    exact (hR ok').2 (((hR ok).1 h).to hs)

theorem okPlus_nil {ρ : Rho} {h : Hp} : okPlus ok ρ h [] = ok := by
  funext b
  simp [okPlus]

/-- behind a call -/
theorem Gam.called {st st' : St} {ρ : Rho} (g : Gam N w0 ok0 st ok ρ a w) (hb : Below w.heap.size w w') {r : TV} {v : Value} {l : LV} {k : Nat} (hr : RRep w.heap.size w' ok r v) (h : thaw k r st = some (l, st')) :
    ∃ ok' ρ', Gam N w0 ok0 st' ok' ρ' a w' ∧ LRep w' ok' ρ' st'.hp l v := by
  obtain ⟨ok1, bs, h1, ⟨h2, h3⟩, h4⟩ := hr
  have g1 := g.world hb
  have g2 : Gam N w0 ok0 st (fun b => ok b ∨ ok1 b) ρ a w' := by
    refine g1.grow (fun b hb' => .inl hb') (fun b hb' hlt => ?_) (fun b hb' => ?_) (fun b o hr hw hb' => ?_)
    · rcases hb' with hb' | hb'
      · exact g.old b hb' hlt
      · exact g.old b ((h1 b hb').1 (Nat.lt_of_lt_of_le hlt g.below.size)) hlt
    · rcases hb' with hb' | hb'
      · exact g1.free b hb'
      · refine ⟨(h1 b hb').2, fun i p K hi hown hri => ?_⟩
        have hl : p.live = true := by cases p <;> simp_all [Ob.own, Ob.live]
        have hlt := (g.fresh i p b K hi hl hri).2
        exact (g.free b ((h1 b hb').1 hlt)).2 i p K hi hown hri
    · obtain ⟨_, k2, k3, _⟩ := g.res b o hr
      rcases hb' with hb' | hb'
      · exact k3 hw hb'
      · exact k3 hw ((h1 b hb').1 (Array.getElem?_eq_some_iff.1 k2).1)
  have hs : Same w' w' ok1 (fun b => ok b ∨ ok1 b) := fun b hb' => ⟨rfl, .inr hb'⟩
  obtain ⟨ρ', q1, q2⟩ := thaw_ok g2 h (h4.to hs) (fun b K hm => by
    obtain ⟨r1, r2, r3⟩ := h2 b K hm
    refine ⟨⟨Nat.le_trans g.below.size r1, g.res_none r1⟩, r2, fun ho => ?_, fun i p K' hi hl hri => ?_⟩
    · rcases ho with ho | ho
      · exact Nat.lt_irrefl _ (Nat.lt_of_lt_of_le (g.free b ho).1 r1)
      · exact r3 ho
    · exact Nat.lt_irrefl _ (Nat.lt_of_lt_of_le (g.fresh i p b K' hi hl hri).2 r1)) h3
  exact ⟨_, ρ', q1, q2⟩
end
end Go.Proofs.Ytonhkmpjpnjkfaa.Sx
namespace Go.Proofs.Ytonhkmpjpnjkfaa.Sx
open Go Go.RowKit

section
variable {P : Program} {C : Cs} {N : Rm} {w0 : World} {ok0 : Nat → Prop} {ok : Nat → Prop} {a : Act} {w w' : World} {st st' : St} {ρ : Rho}
  {next : Act → World → Prop} {Q : Exit → Act → World → Prop} {o : Oper} {rd : Option Nat}

/-! ### values that name nothing from 'lo' on -/
theorem lk_low {lo i : Nat} (h : i < lo) : ∀ j : List (Nat × Nat), lk lo i j = some i
  | [] => by simp only [lk, if_pos h]
  | (x, y) :: r => by simp only [lk, if_neg (show ¬ lo + x = i by omega), lk_low h r]
theorem maskC_low {lo lo' : Nat} (hlo : lo ≤ lo') (j : List (Nat × Nat)) (l : LV) : maskC lo' j (maskC lo [] l) = maskC lo [] l := by
  cases l with
  | p id off =>
    by_cases h : id < lo
    · have e : maskC lo [] (.p id off) = .p id off := by simp only [maskC, lk, if_pos h, renP]
      rw [e]; simp only [maskC, lk_low (Nat.lt_of_lt_of_le h hlo), renP]
    · have e : maskC lo [] (.p id off) = .u := by simp only [maskC, lk, if_neg h, renP]
      rw [e]; rfl
  | pe id r off =>
    by_cases h : id < lo
    · have e : maskC lo [] (.pe id r off) = .pe id r off := by simp only [maskC, lk, if_pos h, renE]
      rw [e]; simp only [maskC, lk_low (Nat.lt_of_lt_of_le h hlo), renE]
    · have e : maskC lo [] (.pe id r off) = .u := by simp only [maskC, lk, if_neg h, renE]
      rw [e]; rfl
  | s id off len =>
    by_cases h : id < lo
    · have e : maskC lo [] (.s id off len) = .s id off len := by simp only [maskC, lk, if_pos h, renS]
      rw [e]; simp only [maskC, lk_low (Nat.lt_of_lt_of_le h hlo), renS]
    · have e : maskC lo [] (.s id off len) = .u := by simp only [maskC, lk, if_neg h, renS]
      rw [e]; rfl
  | m id =>
    by_cases h : id < lo
    · have e : maskC lo [] (.m id) = .m id := by simp only [maskC, lk, if_pos h, renM]
      rw [e]; simp only [maskC, lk_low (Nat.lt_of_lt_of_le h hlo), renM]
    · have e : maskC lo [] (.m id) = .u := by simp only [maskC, lk, if_neg h, renM]
      rw [e]; rfl
  | v t => rfl
  | u => rfl
  | agg cs => rfl
  | fn f cs => rfl
  | tup cs => cases cs <;> rfl
theorem maskCs_low {lo lo' : Nat} (hlo : lo ≤ lo') (j : List (Nat × Nat)) : ∀ ls : List LV, maskCs lo' j (maskCs lo [] ls) = maskCs lo [] ls
  | [] => rfl
  | l :: ls => by simp only [maskCs, maskC_low hlo, maskCs_low hlo j ls]
theorem mask2_cons_low {lo lo' : Nat} (hlo : lo ≤ lo') (j : List (Nat × Nat)) (l : LV) (ls : List LV) (ih : mask2 lo' j (mask2 lo [] ls) = mask2 lo [] ls) : mask2 lo' j (mask2 lo [] (l :: ls)) = mask2 lo [] (l :: ls) := by
  have key : ∀ (x : LV) (q : Nat) (i : List (Nat × Nat)) (r : List LV), (∀ cs, x ≠ .agg cs) → mask2 q i (x :: r) = maskC q i x :: mask2 q i r := fun x q i r hx => by
    cases x with
    | agg cs => exact absurd rfl (hx cs)
    | _ => rfl
  by_cases h : ∃ cs, l = .agg cs
  · obtain ⟨cs, rfl⟩ := h
    simp only [mask2, maskCs_low hlo, ih]
  · have hl : ∀ cs, l ≠ .agg cs := fun cs e => h ⟨cs, e⟩
    rw [key l lo [] ls hl]
    have hm : ∀ cs, maskC lo [] l ≠ .agg cs := fun cs e => by
      cases l with
      | p id off => simp only [maskC, lk] at e; by_cases h : id < lo <;> simp [h, renP] at e
      | pe id r off => simp only [maskC, lk] at e; by_cases h : id < lo <;> simp [h, renE] at e
      | s id off len => simp only [maskC, lk] at e; by_cases h : id < lo <;> simp [h, renS] at e
      | m id => simp only [maskC, lk] at e; by_cases h : id < lo <;> simp [h, renM] at e
      | v t => cases e
      | u => cases e
      | agg cs => exact absurd rfl (hl cs)
      | fn f cs => cases e
      | tup cs => cases cs <;> cases e
    rw [key _ lo' j _ hm, maskC_low hlo, ih]
theorem mask2_low {lo lo' : Nat} (hlo : lo ≤ lo') (j : List (Nat × Nat)) : ∀ ls : List LV, mask2 lo' j (mask2 lo [] ls) = mask2 lo [] ls
  | [] => rfl
  | l :: ls => mask2_cons_low hlo j l ls (mask2_low hlo j ls)
theorem maskL_low {lo lo' : Nat} (hlo : lo ≤ lo') (j : List (Nat × Nat)) (l : LV) : maskL lo' j (maskL lo [] l) = maskL lo [] l := by
  cases l with
  | agg cs => simp only [maskL, maskCs_low hlo]
  | fn f cs => simp only [maskL, maskCs_low hlo]
  | tup cs => cases cs with
    | nil => rfl
    | cons c cs =>
      have h := mask2_low hlo j (c :: cs)
      have e : ∃ x xs, mask2 lo [] (c :: cs) = x :: xs := by cases c <;> exact ⟨_, _, rfl⟩
      obtain ⟨x, xs, e⟩ := e
      simp only [maskL, e]
      rw [e] at h
      rw [h]
  | p id off =>
    have h := maskC_low hlo j (.p id off)
    by_cases hi : id < lo
    · have e : maskL lo [] (.p id off) = .p id off := by simp only [maskL, maskC, lk, if_pos hi, renP]
      rw [e]; simp only [maskL, maskC, lk_low (Nat.lt_of_lt_of_le hi hlo), renP]
    · have e : maskL lo [] (.p id off) = .u := by simp only [maskL, maskC, lk, if_neg hi, renP]
      rw [e]; rfl
  | pe id r off =>
    by_cases hi : id < lo
    · have e : maskL lo [] (.pe id r off) = .pe id r off := by simp only [maskL, maskC, lk, if_pos hi, renE]
      rw [e]; simp only [maskL, maskC, lk_low (Nat.lt_of_lt_of_le hi hlo), renE]
    · have e : maskL lo [] (.pe id r off) = .u := by simp only [maskL, maskC, lk, if_neg hi, renE]
      rw [e]; rfl
  | s id off len =>
    by_cases hi : id < lo
    · have e : maskL lo [] (.s id off len) = .s id off len := by simp only [maskL, maskC, lk, if_pos hi, renS]
      rw [e]; simp only [maskL, maskC, lk_low (Nat.lt_of_lt_of_le hi hlo), renS]
    · have e : maskL lo [] (.s id off len) = .u := by simp only [maskL, maskC, lk, if_neg hi, renS]
      rw [e]; rfl
  | m id =>
    by_cases hi : id < lo
    · have e : maskL lo [] (.m id) = .m id := by simp only [maskL, maskC, lk, if_pos hi, renM]
      rw [e]; simp only [maskL, maskC, lk_low (Nat.lt_of_lt_of_le hi hlo), renM]
    · have e : maskL lo [] (.m id) = .u := by simp only [maskL, maskC, lk, if_neg hi, renM]
      rw [e]; rfl
  | v t => rfl
  | u => rfl
theorem low_fix {lo lo' : Nat} (hlo : lo ≤ lo') {l : LV} (h : maskL lo [] l = l) (j : List (Nat × Nat)) : maskL lo' j l = l := by
  have := maskL_low hlo j l
  rwa [h] at this

/-- what is masked says less -/
theorem maskC_weak {ρ : Rho} {h : Hp} {lo : Nat} {l : LV} {x : Value} (hl : LRep w ok ρ h l x) : LRep w ok ρ h (maskC lo [] l) x := by
  cases l with
  | p id off => simp only [maskC, lk]; by_cases hi : id < lo <;> simp only [hi, if_true, if_false, renP]; exact hl; simp only [LRep]
  | pe id r off => simp only [maskC, lk]; by_cases hi : id < lo <;> simp only [hi, if_true, if_false, renE]; exact hl; simp only [LRep]
  | s id off len => simp only [maskC, lk]; by_cases hi : id < lo <;> simp only [hi, if_true, if_false, renS]; exact hl; simp only [LRep]
  | m id => simp only [maskC, lk]; by_cases hi : id < lo <;> simp only [hi, if_true, if_false, renM]; exact hl; simp only [LRep]
  | v t => exact hl
  | u => exact hl
  | agg cs => simp only [maskC, LRep]
  | fn f cs => simp only [maskC, LRep]
  | tup cs => cases cs with
    | nil => exact hl
    | cons c cs => simp only [maskC, LRep]
theorem maskCs_weak {ρ : Rho} {h : Hp} {lo : Nat} {one : Bool} : ∀ {ls : List LV} {xs : List Value}, LReps w ok ρ h one ls xs → LReps w ok ρ h one (maskCs lo [] ls) xs
  | [], xs, hl => hl
  | l :: ls, xs, hl => by
    simp only [LReps] at hl
    obtain ⟨v, r, rfl, h1, h2, h3⟩ := hl
    simp only [maskCs, LReps]
    exact ⟨v, r, rfl, h1, maskC_weak h2, maskCs_weak h3⟩
theorem mask2_weak {ρ : Rho} {h : Hp} {lo : Nat} {one : Bool} : ∀ {ls : List LV} {xs : List Value}, LReps w ok ρ h one ls xs → LReps w ok ρ h one (mask2 lo [] ls) xs
  | [], xs, hl => hl
  | l :: ls, xs, hl => by
    simp only [LReps] at hl
    obtain ⟨v, r, rfl, h1, h2, h3⟩ := hl
    have ih := mask2_weak (lo := lo) h3
    by_cases ha : ∃ cs, l = .agg cs
    · obtain ⟨cs, rfl⟩ := ha
      simp only [LRep] at h2
      obtain ⟨vs, k1, k2⟩ := h2
      simp only [mask2, LReps]
      exact ⟨v, r, rfl, h1, by simp only [LRep]; exact ⟨vs, k1, maskCs_weak k2⟩, ih⟩
    · have e : mask2 lo [] (l :: ls) = maskC lo [] l :: mask2 lo [] ls := by
        cases l with
        | agg cs => exact absurd ⟨cs, rfl⟩ ha
        | _ => rfl
      rw [e]
      simp only [LReps]
      exact ⟨v, r, rfl, h1, maskC_weak h2, ih⟩
theorem maskL_weak {ρ : Rho} {h : Hp} {lo : Nat} {l : LV} {x : Value} (hl : LRep w ok ρ h l x) : LRep w ok ρ h (maskL lo [] l) x := by
  unfold maskL
  split
  · simp only [LRep] at hl ⊢
    obtain ⟨vs, k1, k2⟩ := hl
    exact ⟨vs, k1, maskCs_weak k2⟩
  · simp only [LRep] at hl ⊢
    obtain ⟨vs, k1, k2⟩ := hl
    exact ⟨vs, k1, maskCs_weak k2⟩
  · simp only [LRep] at hl ⊢
    obtain ⟨vs, k1, k2⟩ := hl
    exact ⟨vs, k1, mask2_weak k2⟩
  · exact maskC_weak hl

/-- of a function in its caller's memory: wherever the caller stands, it comes back to what is told -/
def GoodI (P : Program) (CI : FuncId → Nat → Hp → List LV → Option (LV × Hp)) : Prop := ∀ f lo h args l h', CI f lo h args = some (l, h') → FnOK P f ∧
  ∀ (N : Rm) (w0 : World) (ok0 : Nat → Prop) (env : Nat → LV) (ok : Nat → Prop) (ρ : Rho) (a : Act) (w : World) (vs : List Value), Gam N w0 ok0 ⟨env, h⟩ ok ρ a w → (∀ k, maskL lo [] (env k) = env k) → (∀ k, maskL lo [] (N.gh k).1 = (N.gh k).1) →
    LReps w ok ρ h false args vs → Calls P f vs.toArray w fun e w' => ∃ v, e = .returned v ∧ ∃ ok' ρ', Gam N w0 ok0 ⟨env, h'⟩ ok' ρ' a w' ∧ LRep w' ok' ρ' h' l v
/-- the functions that are ranged over -/
def GoodIt (P : Program) (it : FuncId → Option ICode) : Prop := ∀ f ic, it f = some ic → ∃ fn c A B, P.funcs[f]? = some fn ∧ (fn.name == "runtime.NumGoroutine") = false ∧ fn.body = some c ∧ ic = (cFn P A B fn).body ∧ fn.results = #[]
/-- what the evaluator takes a call for, the call does -/
def Good (P : Program) (C : Cs) : Prop := (∀ f args r, C.t f args = some r → Sound P f args r) ∧ GoodI P C.i ∧ GoodIt P C.it
/-- the round that is asked for, as it lies in the world -/
def YOk (P : Program) (C : Cs) (N : Rm) : Prop := ∀ R, C.y = some R → ∃ (l : Nat) (r : Loop) (n : Sl) (A B : List (Nat × GC)),
  N.T 0 = .func (.yield l) #[] #[] ∧ N.res l = some (.loop r) ∧ r.state = .ready ∧ r.pending = none ∧ r.params = #[R.p] ∧ R.bd = .seq (cCode P n A B r.assign) (cCode P n A B r.body) ∧ n.rg = false ∧ n.n ≤ r.tmps.size ∧ n.may R.p = true ∧
  (∀ k, ∃ j, N.gh j = (R.env k, r.tmps.getD k undef)) ∧
  ((∀ id k, (look id A).ok = true → maskL R.lo (look id A).ids (N.gh k).1 = (N.gh k).1) ∧ ∀ id k, (look id B).ok = true → maskL R.lo (look id B).ids (N.gh k).1 = (N.gh k).1) ∧
  ((∀ id l, (look id A).ok = true → maskL R.lo (look id A).ids (maskL R.lo R.ks l) = maskL R.lo R.ks l) ∧ ∀ id l, (look id B).ok = true → maskL R.lo (look id B).ids (maskL R.lo R.ks l) = maskL R.lo R.ks l) ∧ ∀ q ∈ R.ks, q.1 = q.2
/-- and what is carried along lies low -/
def GoodAt (P : Program) (C : Cs) (N : Rm) (lo : Nat) : Prop := Good P C ∧ (∀ f lo' h args r, C.i f lo' h args = some r → ∀ k, maskL (lo + 1000000) [] (N.gh k).1 = (N.gh k).1) ∧ YOk P C N

theorem callA_ok (hC : Good P C) (g : Gam N w0 ok0 st ok ρ a w) {d lo : Nat} (hd : o.dst = some d) (hN : N.may d) {f : FuncId} {ls : List LV} {vs : List Value} (hv : LReps w ok ρ st.hp false ls vs)
    (he : callA C lo d f st (solidArgs st.hp ls) = some st') (hn : Into N w0 ok0 st' next) :
    FnOK P f ∧ Calls P f vs.toArray w fun
      | .returned v, w'' => next (a.put o.dst v) w''
      | .panicked chain, w'' => Q (.panic chain) a w''
      | .outgrown, _ => LetsOut Q := by
  cases hs : solidArgs st.hp ls with
  | none => rw [hs] at he; cases he
  | some q =>
    obtain ⟨ts, is⟩ := q
    rw [hs] at he
    simp only [callA] at he
    cases hr : C.t f ts with
    | none => rw [hr] at he; cases he
    | some r =>
      rw [hr] at he
      simp only [callR] at he
      obtain ⟨hf, hsound⟩ := hC.1 f ts r hr
      refine ⟨hf, ?_⟩
      have gf := g.frozen is
      have hvals := solidArgs_ok g hs hv
      have hcall := hsound w (okPlus ok ρ st.hp is) vs (fun b hb => (gf.free b hb).1) hvals
      refine hcall.mono fun e w'' ⟨v, he', hb, hrr⟩ => ?_
      subst he'
      show next (a.put o.dst v) w''
      rw [hd]
      cases hth : thaw (lo + (1000 + d * 64)) r { st with hp := if is.isEmpty || r.flat then st.hp else Sx.freezeAll st.hp is } with
      | none => rw [hth] at he; cases he
      | some q =>
        obtain ⟨l, st2⟩ := q
        rw [hth] at he
        simp only [callT, Option.some.injEq] at he
        subst he
        cases hc : (is.isEmpty || r.flat) with
        | false =>
          rw [hc] at hth
          obtain ⟨ok', ρ', g', hl⟩ := gf.called hb hrr hth
          exact hn _ _ _ _ (g'.put hN hl)
        | true =>
          rw [hc] at hth
          have hrr' : RRep w.heap.size w'' ok r v := by
            have hc' : is.isEmpty = true ∨ r.flat = true := by simpa using hc
            rcases hc' with h1 | h1
            · have : is = [] := by simpa using h1
              subst this
              rw [okPlus_nil] at hrr
              exact hrr
            · obtain ⟨ok1, bs, q1, q2, q3⟩ := hrr
              have k := flat_res h1 (ok' := ok) q3
              obtain ⟨k1, rfl⟩ := k
              refine ⟨ok, [], fun b hb' => ⟨fun _ => hb', Nat.lt_of_lt_of_le (g.free b hb').1 hb.size⟩, ⟨by simp, by simp⟩, k1⟩
          obtain ⟨ok', ρ', g', hl⟩ := g.called hb hrr' hth
          exact hn _ _ _ _ (g'.put hN hl)

theorem op_call (hC : Good P C) (g : Gam N w0 ok0 st ok ρ a w) {d lo : Nat} (hd : o.dst = some d) (hN : N.may d) {ts : Array TypeId} {us : List TypeId} {t1 : TypeId} {xs : Array Operand} {ys : List X} {x : Operand} {x' : X}
    (ho : o.op = .call { callee := .value x, args := xs, argTypes := ts }) (hx : cX P t1 x = some x') (hxs : cXs P us xs.toList = some ys)
    (he : callF C lo d (rds st.env ys) st (x'.rd st.env) = some st') (hn : Into N w0 ok0 st' next) : o.wpIn (FR rd) 0 P a w next Q := by
  have h1 := rd_ok g hx
  have h2 := rds_ok g hxs
  generalize x'.rd st.env = l at h1 he
  have key : ∀ f caps cs, a.eval x = .func (.func f) #[] cs → LReps w ok ρ st.hp false caps cs.toList → callA C lo d f st (solidArgs st.hp (rds st.env ys ++ caps)) = some st' → o.wpIn (FR rd) 0 P a w next Q := by
    intro f caps cs e1 e2 e3
    have hv : LReps w ok ρ st.hp false (rds st.env ys ++ caps) (xs.toList.map a.eval ++ cs.toList) := by
      refine LReps.of (by simp [← h2.length, e2.length]) fun i l hi => ?_
      by_cases hlt : i < (rds st.env ys).length
      · rw [List.getElem?_append_left hlt] at hi
        obtain ⟨v, q1, q2, q3⟩ := h2.get i l hi
        exact ⟨v, by rw [List.getElem?_append_left (by rw [h2.length]; exact hlt)]; exact q1, q2, q3⟩
      · rw [List.getElem?_append_right (by omega)] at hi
        obtain ⟨v, q1, q2, q3⟩ := e2.get _ l hi
        exact ⟨v, by rw [List.getElem?_append_right (by rw [h2.length]; omega), h2.length]; exact q1, q2, q3⟩
    obtain ⟨⟨fn, hf, hf1, hf2⟩, hc⟩ := callA_ok (Q := Q) hC g hd hN hv e3 hn
    have hf1' : fn.name ≠ "runtime.NumGoroutine" := by simpa using hf1
    have hf2' : fn.body ≠ none := fun e => by rw [e] at hf2; cases hf2
    have hrun : (execOp a.eval o).run P w = .ok (.enter f (xs.map a.eval ++ cs)) w := by
      simp [execOp, ho, resolve, Deferred.ofValue, e1, invoke, callFunc, hf, hf1', hf2']
    refine ⟨fun _ _ => trivial, ?_⟩
    rw [sem_at hrun (fun d e => by cases e), Oper.uponIn_enter]
    refine ⟨fun h => by simp [FR, Fence.wide] at h, ?_⟩
    have : (xs.map a.eval ++ cs) = (xs.toList.map a.eval ++ cs.toList).toArray := by apply Array.ext'; simp
    rw [this]
    exact calls_fr hc
  unfold callF at he
  split at he
  · simp only [LRep] at h1
    obtain ⟨cs, e1, e2⟩ := h1
    exact key _ _ cs e1 e2 he
  · simp only [LRep, TRep] at h1
    obtain ⟨cs, e1, e2⟩ := h1
    refine key _ _ cs e1 ?_ he
    rename_i caps
    clear key he e1
    generalize cs.toList = vs at e2
    induction caps generalizing vs with
    | nil => simp only [ValsRep] at e2; simp only [liftV, LReps]; exact e2
    | cons c caps ih =>
      simp only [ValsRep] at e2
      obtain ⟨v, r, q1, q2, q3, q4⟩ := e2
      simp only [liftV, LReps]
      exact ⟨v, r, q1, q2, by simp only [LRep]; exact q3, ih _ q4⟩
  · cases he

theorem liftV_lreps {h : Hp} {ρ : Rho} : ∀ {caps : List TV} {vs : List Value}, ValsRep w ok false caps vs → LReps w ok ρ h false (liftV caps) vs
  | [], vs, e => by simp only [ValsRep] at e; simp only [liftV, LReps]; exact e
  | c :: caps, vs, e => by
    simp only [ValsRep] at e
    obtain ⟨v, r, q1, q2, q3, q4⟩ := e
    simp only [liftV, LReps]
    exact ⟨v, r, q1, q2, by simp only [LRep]; exact q3, liftV_lreps q4⟩
theorem lreps_append {h : Hp} {ρ : Rho} : ∀ {ls bs : List LV} {us vs : List Value}, LReps w ok ρ h false ls us → LReps w ok ρ h false bs vs → LReps w ok ρ h false (ls ++ bs) (us ++ vs)
  | [], bs, us, vs, h1, h2 => by simp only [LReps] at h1; subst h1; exact h2
  | a :: ls, bs, us, vs, h1, h2 => by
    simp only [LReps] at h1
    obtain ⟨v, r, rfl, q2, q3, q4⟩ := h1
    simp only [List.cons_append, LReps]
    exact ⟨v, r ++ vs, rfl, q2, q3, lreps_append q4 h2⟩

/-- a call in the caller's own memory -/
theorem op_icall {lo : Nat} (hC : GoodAt P C N lo) (g : Gam N w0 ok0 st ok ρ a w) {d : Nat} (hd : o.dst = some d) (hN : N.may d) {ts : Array TypeId} {us : List TypeId} {t1 : TypeId} {xs : Array Operand} {ys : List X} {x : Operand} {x' : X}
    (ho : o.op = .call { callee := .value x, args := xs, argTypes := ts }) (hx : cX P t1 x = some x') (hxs : cXs P us xs.toList = some ys)
    (he : icallF C lo d (rds st.env ys) st (x'.rd st.env) = some st') (hn : Into N w0 ok0 st' next) : o.wpIn (FR rd) 0 P a w next Q := by
  have h1 := rd_ok g hx
  have h2 := rds_ok g hxs
  generalize x'.rd st.env = l at h1 he
  have key : ∀ f caps cs, a.eval x = .func (.func f) #[] cs → LReps w ok ρ st.hp false caps cs.toList → icallK d (lo + 1000000) st (C.i f (lo + 1000000) st.hp (rds st.env ys ++ caps)) = some st' → o.wpIn (FR rd) 0 P a w next Q := by
    intro f caps cs e1 e2 e3
    cases hc : C.i f (lo + 1000000) st.hp (rds st.env ys ++ caps) with
    | none => rw [hc] at e3; cases e3
    | some q =>
      obtain ⟨l', h'⟩ := q
      rw [hc] at e3
      simp only [icallK, Option.some.injEq] at e3
      subst e3
      obtain ⟨⟨fn, hf, hf1, hf2⟩, hcall⟩ := hC.1.2.1 f _ _ _ _ _ hc
      have g1 : Gam N w0 ok0 ⟨maskE (lo + 1000000) st.env, st.hp⟩ ok ρ a w := { g with env := fun k => maskL_weak (g.env k) }
      have hv := lreps_append h2 e2
      have hrun1 := hcall N w0 ok0 _ ok ρ a w _ g1 (fun k => maskL_low (Nat.le_refl _) [] (st.env k)) (hC.2.1 _ _ _ _ _ hc) hv
      have hf1' : fn.name ≠ "runtime.NumGoroutine" := by simpa using hf1
      have hf2' : fn.body ≠ none := fun e => by rw [e] at hf2; cases hf2
      have hrun : (execOp a.eval o).run P w = .ok (.enter f (xs.map a.eval ++ cs)) w := by
        simp [execOp, ho, resolve, Deferred.ofValue, e1, invoke, callFunc, hf, hf1', hf2']
      refine ⟨fun _ _ => trivial, ?_⟩
      rw [sem_at hrun (fun d e => by cases e), Oper.uponIn_enter]
      refine ⟨fun h => by simp [FR, Fence.wide] at h, ?_⟩
      have : (xs.map a.eval ++ cs) = (xs.toList.map a.eval ++ cs.toList).toArray := by apply Array.ext'; simp
      rw [this]
      refine calls_fr (hrun1.mono fun e w' ⟨v, he', ok', ρ', g', hl⟩ => ?_)
      subst he'
      show next (a.put o.dst v) w'
      rw [hd]
      exact hn _ _ _ _ (g'.put hN hl)
  unfold icallF at he
  split at he
  · simp only [LRep] at h1
    obtain ⟨cs, e1, e2⟩ := h1
    exact key _ _ cs e1 e2 he
  · simp only [LRep, TRep] at h1
    obtain ⟨cs, e1, e2⟩ := h1
    exact key _ _ cs e1 (liftV_lreps e2) he
  · cases he
end
end Go.Proofs.Ytonhkmpjpnjkfaa.Sx
namespace Go.Proofs.Ytonhkmpjpnjkfaa.Sx
open Go Go.RowKit
def Sl.le (n : Sl) (N : Rm) : Prop := n.n ≤ N.n ∧ (∀ d, n.may d = true → N.may d) ∧ ∀ d, n.pr.contains d = true → N.K d = true

section
variable {P : Program} {C : Cs} {N : Rm} {w0 : World} {ok0 : Nat → Prop} {ok : Nat → Prop} {a : Act} {w w' : World} {st st' : St} {ρ : Rho}
  {next : Act → World → Prop} {Q : Exit → Act → World → Prop} {o : Oper} {rd : Option Nat} {lo : Nat}

theorem arr_of {α : Type} {xs : Array α} {l : List α} (h : xs.toList = l) : xs = l.toArray := by rw [← h]

theorem plainTy_ok {t : TypeId} {n : Nat} (h : plainTy P t n = true) : (∃ k, P.underlying t = some k) ∧ (isAggB P t = false → n = 1) := by
  simp only [plainTy, Bool.and_eq_true, Bool.or_eq_true, beq_iff_eq] at h
  refine ⟨Option.isSome_iff_exists.1 h.1, fun e => ?_⟩
  rcases h.2 with h | h
  · rw [e] at h; cases h
  · exact h

theorem slice_or_string {t : TypeId} (h : sliceOrString P t = true) : (∃ e', P.underlying t = some (.slice e')) ∨ P.underlying t = some .string := by
  unfold sliceOrString at h
  split at h
  · exact .inl ⟨_, by assumption⟩
  · exact .inr (by assumption)
  · cases h

theorem int_ty {t : TypeId} (h : intTy P t = true) : ∃ k, P.underlying t = some (.int k) := by
  unfold intTy at h
  split at h
  · exact ⟨_, by assumption⟩
  · cases h
theorem cNilBin_ok (g : Gam N w0 ok0 st ok ρ a w) {d : Nat} (hd : o.dst = some d) (hN : N.may d) {op : BinOp} {t u : TypeId} {x y : Operand} {ptr : Bool} (ho : o.op = .binOp op t x y u) (hy : isNilC P t y = some ptr) {i : IOp} (hc : cNilBin P d op t ptr x = some i)
    (he : evOp C lo st i = some st') (hn : Into N w0 ok0 st' next) : i.dst = some d ∧ o.wpIn (FR rd) 0 P a w next Q := by
  unfold cNilBin at hc
  split at hc
  · rename_i hx
    obtain rfl := Option.some.inj hc
    exact ⟨rfl, op_isnil g hd hN (neg := false) ho hx hy he hn⟩
  · rename_i hx
    obtain rfl := Option.some.inj hc
    exact ⟨rfl, op_isnil g hd hN (neg := true) ho hx hy he hn⟩
  · cases hc
theorem cBin_ok (g : Gam N w0 ok0 st ok ρ a w) {d : Nat} (hd : o.dst = some d) (hN : N.may d) {op : BinOp} {t u : TypeId} {x y : Operand} (ho : o.op = .binOp op t x y u) {i : IOp} (hc : cBin P d op t x y u = some i)
    (he : evOp C lo st i = some st') (hn : Into N w0 ok0 st' next) : i.dst = some d ∧ o.wpIn (FR rd) 0 P a w next Q := by
  unfold cBin at hc
  split at hc
  · rename_i fs hu
    split at hc
    · cases hc
    · rename_i hg
      have hg' : P.eqGuardType P.depth t = false := by simpa using hg
      split at hc
      · rename_i ks a' b' hk hx hy
        obtain rfl := Option.some.inj hc
        exact ⟨rfl, op_eqs g hd hN ho (neg := false) rfl hx hy hu hk hg' he hn⟩
      · rename_i ks a' b' hk hx hy
        obtain rfl := Option.some.inj hc
        exact ⟨rfl, op_eqs g hd hN ho (neg := true) rfl hx hy hu hk hg' he hn⟩
      · cases hc
  · split at hc
    · rename_i hx hy
      obtain rfl := Option.some.inj hc
      exact ⟨rfl, op_bin g hd hN ho hx hy (by simp) he hn⟩
    · cases hc
  · rename_i hu
    split at hc
    · rename_i hx hy
      obtain rfl := Option.some.inj hc
      exact ⟨rfl, op_bin g hd hN ho hx hy (fun _ => hu) he hn⟩
    · cases hc
  · split at hc
    · rename_i hx hy
      obtain rfl := Option.some.inj hc
      exact ⟨rfl, op_bin g hd hN ho hx hy (by simp) he hn⟩
    · cases hc
  · cases hc

theorem cCall_ok (hC : GoodAt P C N lo) (g : Gam N w0 ok0 st ok ρ a w) {d : Nat} (hd : o.dst = some d) (hN : N.may d) {c : Call} {ty : TypeId} (ho : o.op = .call c) {i : IOp} (hc : cCall P d ty c = some i)
    (he : evOp C lo st i = some st') (hn : Into N w0 ok0 st' next) : i.dst = some d ∧ o.wpIn (FR rd) 0 P a w next Q := by
  obtain ⟨callee, args, argTypes⟩ := c
  unfold cCall at hc
  simp only at hc
  split at hc
  · rename_i x t h1 h2
    have h1 := arr_of h1
    have h2 := arr_of h2
    subst h1 h2
    split at hc
    · rename_i hu hx
      obtain rfl := Option.some.inj hc
      exact ⟨rfl, op_len g hd hN ho hx (z := false) (by simp) (fun _ => ⟨_, hu⟩) he hn⟩
    · rename_i hu hx
      obtain rfl := Option.some.inj hc
      exact ⟨rfl, op_len g hd hN ho hx (z := true) (fun _ => hu) (by simp) he hn⟩
    · rename_i hu hx
      obtain rfl := Option.some.inj hc
      exact ⟨rfl, op_mlen g hd hN ho hx hu he hn⟩
    · cases hc
  · rename_i x t h1 h2
    have h1 := arr_of h1
    have h2 := arr_of h2
    subst h1 h2
    split at hc
    · rename_i hu hx
      obtain rfl := Option.some.inj hc
      exact ⟨rfl, op_cap g hd hN ho hx hu he hn⟩
    · cases hc
  · rename_i x y t u h1 h2
    have h1 := arr_of h1
    have h2 := arr_of h2
    subst h1 h2
    split at hc
    · rename_i e ht
      split at hc
      · rename_i i z a' b' hi hz hx hy
        split at hc
        · rename_i hh
          split at hc
          · rename_i hs
            obtain rfl := Option.some.inj hc
            exact ⟨rfl, op_append g hd hN ho hx hy ht (slice_or_string hs) hi hz hh.1 hh.2.1 hh.2.2 he hn⟩
          · split at hc
            · rename_i hs
              obtain rfl := Option.some.inj hc
              obtain ⟨k, hk⟩ := int_ty hs
              exact ⟨rfl, op_appz g hd hN ho hx hy ht hk hi hz hh.1 hh.2.1 hh.2.2 he hn⟩
            · cases hc
        · cases hc
      · cases hc
    · cases hc
  · rename_i x y t u h1 h2
    have h1 := arr_of h1
    have h2 := arr_of h2
    subst h1 h2
    split at hc
    · rename_i e ht
      split at hc
      · rename_i n a' b' hs hx hy
        obtain rfl := Option.some.inj hc
        exact ⟨rfl, op_copy g hd hN ho hx hy ht hs he hn⟩
      · cases hc
    · cases hc
  · rename_i h1 h2
    cases hx : cXs P argTypes.toList args.toList with
    | none => rw [hx] at hc; cases hc
    | some ys =>
      rw [hx] at hc
      obtain rfl := Option.some.inj hc
      exact ⟨rfl, op_mn g hd hN ho hx he hn⟩
  · cases hx : cXs P argTypes.toList args.toList with
    | none => rw [hx] at hc; cases hc
    | some ys =>
      rw [hx] at hc
      obtain rfl := Option.some.inj hc
      exact ⟨rfl, op_mx g hd hN ho hx he hn⟩
  · split at hc
    · rename_i hx hxs
      obtain rfl := Option.some.inj hc
      exact ⟨rfl, op_call hC.1 g hd hN ho hx hxs he hn⟩
    · cases hc
  · cases hc

theorem cOp_ok (hC : GoodAt P C N lo) (g : Gam N w0 ok0 st ok ρ a w) {d : Nat} (hd : o.dst = some d) (hN : N.may d) {ty : TypeId} {i : IOp} (hc : cOp P d ty o.op = some i)
    (he : evOp C lo st i = some st') (hn : Into N w0 ok0 st' next) : i.dst = some d ∧ o.wpIn (FR rd) 0 P a w next Q := by
  cases ho : o.op with
  | move x =>
    rw [ho] at hc
    simp only [cOp, Option.map_eq_some_iff] at hc
    obtain ⟨y, hy, rfl⟩ := hc
    simp only [evOp, Option.some.injEq] at he
    subst he
    exact ⟨rfl, op_mv g hd hN (.inl ho) hy hn⟩
  | assign x =>
    rw [ho] at hc
    simp only [cOp, Option.map_eq_some_iff] at hc
    obtain ⟨y, hy, rfl⟩ := hc
    simp only [evOp, Option.some.injEq] at he
    subst he
    exact ⟨rfl, op_mv g hd hN (.inr ho) hy hn⟩
  | pick c x y =>
    rw [ho] at hc
    simp only [cOp] at hc
    split at hc
    · rename_i h1 h2 h3
      obtain rfl := Option.some.inj hc
      exact ⟨rfl, op_pick g hd hN ho h1 h2 h3 he hn⟩
    · cases hc
  | alloc e =>
    rw [ho] at hc
    simp only [cOp] at hc
    split at hc
    · rename_i zs hz
      obtain rfl := Option.some.inj hc
      exact ⟨rfl, op_alloc g hd hN ho hz he hn⟩
    · split at hc
      · rename_i hz
        obtain rfl := Option.some.inj hc
        exact ⟨rfl, op_allocM g hd hN ho hz he hn⟩
      · cases hc
  | box e x =>
    rw [ho] at hc
    simp only [cOp] at hc
    split at hc
    · rename_i h1 h2
      obtain rfl := Option.some.inj hc
      exact ⟨rfl, op_box g hd hN ho h2 he hn⟩
    · cases hc
  | build t parts =>
    rw [ho] at hc
    simp only [cOp] at hc
    split at hc
    · rename_i fs zs hu hz
      split at hc
      · rename_i pl hp
        split at hc
        · rename_i ps hps
          obtain rfl := Option.some.inj hc
          exact ⟨rfl, op_build g hd hN ho hz (.inl ⟨fs, pl, hu, hp, hps⟩) he hn⟩
        · cases hc
      · cases hc
    · rename_i k e zs hu hz
      split at hc
      · rename_i n hs
        split at hc
        · rename_i ps hps
          obtain rfl := Option.some.inj hc
          exact ⟨rfl, op_build g hd hN ho hz (.inr ⟨k, e, n, hu, hs, hps⟩) he hn⟩
        · cases hc
      · cases hc
    · cases hc
  | buildSlice t len parts =>
    rw [ho] at hc
    simp only [cOp] at hc
    split at hc
    · rename_i e hu
      split at hc
      · rename_i n rs zs hs hr hz
        split at hc
        · rename_i hh
          obtain rfl := Option.some.inj hc
          exact ⟨rfl, op_bslice g hd hN ho hr hu hs hz hh.1 hh.2.1 hh.2.2 he hn⟩
        · cases hc
      · cases hc
    · cases hc
  | load t x =>
    rw [ho] at hc
    simp only [cOp] at hc
    split at hc
    · rename_i n y hs hy
      split at hc
      · rename_i hp
        obtain rfl := Option.some.inj hc
        have h := plainTy_ok hp
        exact ⟨rfl, op_load g hd hN ho hy hs h.1 h.2 he hn⟩
      · cases hc
    · cases hc
  | nilCheck x =>
    rw [ho] at hc
    simp only [cOp, Option.map_eq_some_iff] at hc
    obtain ⟨y, hy, rfl⟩ := hc
    exact ⟨rfl, op_nchk g hd hN ho hy he hn⟩
  | binOp op t x y u =>
    rw [ho] at hc
    simp only [cOp] at hc
    split at hc
    · rename_i hy
      exact cNilBin_ok g hd hN ho hy hc he hn
    · exact cBin_ok g hd hN ho hc he hn
  | unOp op t x =>
    rw [ho] at hc
    simp only [cOp, Option.map_eq_some_iff] at hc
    obtain ⟨y, hy, rfl⟩ := hc
    exact ⟨rfl, op_un g hd hN ho hy he hn⟩
  | convert src dst x =>
    rw [ho] at hc
    simp only [cOp] at hc
    split at hc
    · rename_i h1 h2 h3
      obtain rfl := Option.some.inj hc
      exact ⟨rfl, op_conv g hd hN ho h3 h1 h2 he hn⟩
    · rename_i e y h1 h2 h3
      split at hc
      · rename_i h4
        obtain rfl := Option.some.inj hc
        exact ⟨rfl, op_b2s g hd hN ho h3 h1 h4 h2 he hn⟩
      · cases hc
    · cases hc
  | slice t x l h m =>
    rw [ho] at hc
    simp only [cOp] at hc
    split at hc
    · rename_i e hu
      split at hc
      · rename_i n y l' h' m' hs hx hl hh hm
        split at hc
        · cases hc
        · rename_i hne
          obtain rfl := Option.some.inj hc
          refine ⟨rfl, op_slice g hd hN ho hx hl hh hm hu hs (fun h1 h2 => ?_) he hn⟩
          subst h2
          cases m with
          | none => exact h1 rfl
          | some m => exact hne rfl
      · cases hc
    · cases hc
  | fieldAddr t x f =>
    rw [ho] at hc
    simp only [cOp] at hc
    split at hc
    · rename_i fs y hu hx
      split at hc
      · rename_i fd hf
        split at hc
        · rename_i n hs
          obtain rfl := Option.some.inj hc
          exact ⟨rfl, op_faddr g hd hN ho hx hu hf hs he hn⟩
        · cases hc
      · cases hc
    · cases hc
  | field t x f =>
    rw [ho] at hc
    simp only [cOp] at hc
    split at hc
    · rename_i fs y hu hx
      split at hc
      · rename_i fd hf
        split at hc
        · rename_i n hs
          split at hc
          · rename_i hp
            obtain rfl := Option.some.inj hc
            have h := plainTy_ok hp
            exact ⟨rfl, op_fld g hd hN ho hx hu hf hs h.1 h.2 he hn⟩
          · cases hc
        · cases hc
      · cases hc
    · cases hc
  | indexAddr t x j =>
    rw [ho] at hc
    simp only [cOp] at hc
    split at hc
    · rename_i e hu
      split at hc
      · rename_i n y j' hs hx hi
        obtain rfl := Option.some.inj hc
        exact ⟨rfl, op_iaddr g hd hN ho hx hi hu hs he hn⟩
      · cases hc
    · rename_i k e hu
      split at hc
      · rename_i n y j' hs hx hi
        obtain rfl := Option.some.inj hc
        exact ⟨rfl, op_aaddr g hd hN ho hx hi hu hs he hn⟩
      · cases hc
    · cases hc
  | index t x j =>
    rw [ho] at hc
    simp only [cOp] at hc
    split at hc
    · rename_i k e hu
      split at hc
      · rename_i n y j' hs hx hi
        split at hc
        · rename_i hp
          obtain rfl := Option.some.inj hc
          have h := plainTy_ok hp
          exact ⟨rfl, op_ixa g hd hN ho hx hi hu hs h.1 h.2 he hn⟩
        · cases hc
      · cases hc
    · rename_i hu
      split at hc
      · rename_i hx hi
        obtain rfl := Option.some.inj hc
        exact ⟨rfl, op_ixs g hd hN ho hx hi hu he hn⟩
      · cases hc
    · cases hc
  | extract x j =>
    rw [ho] at hc
    simp only [cOp, Option.map_eq_some_iff] at hc
    obtain ⟨y, hy, rfl⟩ := hc
    exact ⟨rfl, op_ext g hd hN ho hy he hn⟩
  | makeFunc fn first caps =>
    rw [ho] at hc
    cases fn with
    | func f =>
      simp only [cOp] at hc
      split at hc
      · rename_i hf
        obtain rfl := Array.isEmpty_iff.1 hf
        simp only [Option.map_eq_some_iff] at hc
        obtain ⟨cs, hcs, rfl⟩ := hc
        simp only [evOp, Option.some.injEq] at he
        subst he
        exact ⟨rfl, op_mkfn g hd hN ho hcs hn⟩
      · cases hc
    | _ => simp only [cOp] at hc; cases hc
  | makeSlice t l c =>
    rw [ho] at hc
    simp only [cOp] at hc
    split at hc
    · rename_i e hu
      split at hc
      · rename_i i z x y hi hz hx hy
        split at hc
        · rename_i hh
          obtain rfl := Option.some.inj hc
          exact ⟨rfl, op_mkslice g hd hN ho hx hy hu hi hz hh.1 hh.2.1 hh.2.2 he hn⟩
        · cases hc
      · cases hc
    · cases hc
  | call c =>
    rw [ho] at hc
    exact cCall_ok hC g hd hN ho hc he hn
  | makeMap t r =>
    rw [ho] at hc
    cases r with
    | none =>
      simp only [cOp] at hc
      split at hc
      · obtain rfl := Option.some.inj hc
        exact ⟨rfl, op_mkmap g hd hN ho he hn⟩
      · cases hc
    | some r => simp only [cOp] at hc; cases hc
  | lookup t x j cok =>
    rw [ho] at hc
    simp only [cOp] at hc
    split at hc
    · rename_i k e ht
      split at hc
      · rename_i ks zs y j' hk hz hx hj
        split at hc
        · rename_i hp
          simp only [Bool.and_eq_true] at hp
          obtain rfl := Option.some.inj hc
          exact ⟨rfl, op_mget g hd hN ho hx hj ht hk hz hp.1 hp.2 he hn⟩
        · cases hc
      · cases hc
    · cases hc
  | _ => rw [ho] at hc; simp only [cOp] at hc; cases hc

theorem cOp_call {P : Program} {d d' : Nat} {ty : TypeId} {op : Op} {f : X} {args : List X} (hc : cOp P d ty op = some (.call d' f args)) :
    d' = d ∧ ∃ x xs ts us t1, op = .call { callee := .value x, args := xs, argTypes := ts } ∧ cX P t1 x = some f ∧ cXs P us xs.toList = some args := by
  by_cases hcall : ∃ c, op = .call c
  · obtain ⟨c, rfl⟩ := hcall
    obtain ⟨callee, xs, ts⟩ := c
    simp only [cOp] at hc
    unfold cCall at hc
    repeat' split at hc
    all_goals first
      | (cases hc; done)
      | (simp only [Option.map_eq_some_iff] at hc; obtain ⟨y, _, h⟩ := hc; cases h; done)
      | skip
    rename_i h1 _ _ _ _ hx hxs
    simp only [Option.some.injEq, IOp.call.injEq] at hc
    obtain ⟨rfl, rfl, rfl⟩ := hc
    simp only at h1
    subst h1
    exact ⟨rfl, _, _, _, _, _, rfl, hx, hxs⟩
  · unfold cOp at hc
    split at hc
    all_goals first
      | (exact absurd ⟨_, rfl⟩ hcall)
      | (cases hc; done)
      | (simp only [Option.map_eq_some_iff] at hc; obtain ⟨y, _, h⟩ := hc; cases h; done)
      | skip
    all_goals repeat' split at hc
    all_goals first
      | (cases hc; done)
      | (simp only [Option.map_eq_some_iff] at hc; obtain ⟨y, _, h⟩ := hc; cases h; done)
      | skip
    all_goals first
      | (unfold cNilBin at hc; repeat' split at hc) <;> (cases hc; done)
      | (unfold cBin at hc; repeat' split at hc) <;> (cases hc; done)
theorem opd_ok (hC : GoodAt P C N lo) (g : Gam N w0 ok0 st ok ρ a w) {n : Sl} (hnN : n.le N) {i : IOp} (hc : cOpd P n o = some i)
    (he : evOp C lo st i = some st') (hn : Into N w0 ok0 st' next) : o.wpIn (FR rd) 0 P a w next Q := by
  unfold cOpd at hc
  split at hc
  · rename_i d hd
    split at hc
    · rename_i hlt
      simp only [Option.map_eq_some_iff] at hc
      obtain ⟨i0, hc, rfl⟩ := hc
      by_cases hin : ∃ a f args, i0 = .call a f args ∧ n.io.contains d = true
      · obtain ⟨a', f, args, rfl, hio⟩ := hin
        simp only [toIn, hio, if_true] at he
        obtain ⟨rfl, x, xs, ts, us, t1, ho, hx, hxs⟩ := cOp_call hc
        exact op_icall hC g hd (hnN.2.1 _ hlt) ho hx hxs he hn
      · have e : toIn n.io d i0 = i0 := by
          cases i0 with
          | call a f args =>
            simp only [toIn]
            rw [if_neg]
            intro h
            exact hin ⟨a, f, args, rfl, h⟩
          | _ => rfl
        rw [e] at he
        exact (cOp_ok hC g hd (hnN.2.1 _ hlt) hc he hn).2
    · cases hc
  · rename_i hd
    split at hc
    · rename_i t x y ho
      split at hc
      · rename_i m p v hs hp hv
        obtain rfl := Option.some.inj hc
        exact op_storeQ g hd ho hp hv hs he hn
      · cases hc
    · rename_i t x y z ho
      split at hc
      · rename_i k e ht
        split at hc
        · rename_i ks n x' y' z' hk hs hx hy hz
          split at hc
          · rename_i hp
            obtain rfl := Option.some.inj hc
            exact op_mupd g hd ho hx hy hz ht hk hp he hn
          · cases hc
        · cases hc
      · cases hc
    · rename_i c ho
      obtain ⟨callee, args, argTypes⟩ := c
      unfold cDel at hc
      simp only at hc
      split at hc
      · rename_i x y t u h1 h2
        have h1 := arr_of h1
        have h2 := arr_of h2
        subst h1 h2
        split at hc
        · rename_i k e ht
          split at hc
          · rename_i ks a' b' hk hx hy
            obtain rfl := Option.some.inj hc
            exact op_mdel g hd ho hx hy ht hk he hn
          · cases hc
        · cases hc
      · cases hc
    · cases hc
end

/-! ### where an operation's value goes -/
theorem cBin_dst {P : Program} {d : Nat} {op : BinOp} {t u : TypeId} {x y : Operand} {i : IOp} (hc : cBin P d op t x y u = some i) : i.dst = some d := by
  unfold cBin at hc
  repeat' split at hc
  all_goals first | (cases hc; done) | (obtain rfl := Option.some.inj hc; rfl)
theorem cNilBin_dst {P : Program} {d : Nat} {op : BinOp} {t : TypeId} {x : Operand} {ptr : Bool} {i : IOp} (hc : cNilBin P d op t ptr x = some i) : i.dst = some d := by
  unfold cNilBin at hc
  repeat' split at hc
  all_goals first | (cases hc; done) | (obtain rfl := Option.some.inj hc; rfl)
theorem cCall_dst {P : Program} {d : Nat} {ty : TypeId} {c : Call} {i : IOp} (hc : cCall P d ty c = some i) : i.dst = some d := by
  unfold cCall at hc
  repeat' split at hc
  all_goals first | (cases hc; done) | (obtain rfl := Option.some.inj hc; rfl) | (simp only [Option.map_eq_some_iff] at hc; obtain ⟨y, hy, rfl⟩ := hc; rfl)
theorem cOp_dst {P : Program} {d : Nat} {ty : TypeId} {op : Op} {i : IOp} (hc : cOp P d ty op = some i) : i.dst = some d := by
  unfold cOp at hc
  split at hc
  case h_10 =>
    split at hc
    · exact cNilBin_dst hc
    · exact cBin_dst hc
  case h_21 => exact cCall_dst hc
  all_goals
    repeat' split at hc
    all_goals first | (cases hc; done) | (obtain rfl := Option.some.inj hc; rfl) | (simp only [Option.map_eq_some_iff] at hc; obtain ⟨y, hy, rfl⟩ := hc; rfl)
theorem cOpd_dst {P : Program} {n : Sl} {o : Oper} {i : IOp} (hc : cOpd P n o = some i) : i.dst = o.dst := by
  unfold cOpd at hc
  split at hc
  · rename_i d hd
    rw [hd]
    split at hc
    · simp only [Option.map_eq_some_iff] at hc
      obtain ⟨i0, hc, rfl⟩ := hc
      rw [← cOp_dst hc]
      cases i0 with
      | call a f args => simp only [toIn]; split <;> rfl
      | _ => rfl
    · cases hc
  · rename_i hd
    rw [hd]
    unfold cDel at hc
    repeat' split at hc
    all_goals first | (cases hc; done) | (obtain rfl := Option.some.inj hc; rfl)
theorem cOpd_lt {P : Program} {n : Sl} {o : Oper} {i : IOp} {d : Nat} (hc : cOpd P n o = some i) (hd : o.dst = some d) : n.may d = true := by
  unfold cOpd at hc
  rw [hd] at hc
  simp only at hc
  split at hc
  · assumption
  · cases hc
end Go.Proofs.Ytonhkmpjpnjkfaa.Sx
namespace Go.Proofs.Ytonhkmpjpnjkfaa.Sx
open Go Go.RowKit

/-- operations in the order of a list of their numbers -/
def evIdx (C : Cs) (lo : Nat) (ios : List IOper) : List Nat → St → Option St
  | [], st => some st
  | i :: s, st => match ios[i]? with
    | none => evIdx C lo ios s st
    | some o => match evOper C lo st o with
      | some st' => evIdx C lo ios s st'
      | none => none

section
variable {P : Program} {C : Cs} {N : Rm} {w0 : World} {ok0 : Nat → Prop} {ok : Nat → Prop} {a : Act} {w w' : World} {st st' : St} {ρ : Rho}
  {next : Act → World → Prop} {Q : Exit → Act → World → Prop} {o : Oper} {rd : Option Nat} {lo : Nat} {ops : Array Oper} {n : Sl}

theorem tmp_of (g : Gam N w0 ok0 st ok ρ a w) {d : Nat} (hd : d < N.n) : ∃ v, a.tmps[d]? = some v ∧ LRep w ok ρ st.hp (st.env d) v := by
  have hlt : d < a.tmps.size := by rw [g.size]; exact hd
  refine ⟨a.tmps[d], by simp [hlt], ?_⟩
  have h := g.env d
  rwa [show a.tmps.getD d undef = a.tmps[d] by simp [Array.getD_eq_getD_getElem?, hlt]] at h

theorem skip_ok (g : Gam N w0 ok0 st ok ρ a w) {d : Option Nat} (hd : ∀ k, d = some k → N.may k) (he : skipK st d = some st') (hn : Into N w0 ok0 st' next) : next (a.put d undef) w := by
  cases d with
  | none =>
    obtain rfl := Option.some.inj he
    exact hn _ _ _ _ g
  | some k =>
    obtain rfl := Option.some.inj he
    exact hn _ _ _ _ (g.put (hd k rfl) (by simp only [LRep]; exact ⟨#[], rfl, by simp only [LReps]⟩))

theorem oper_ok (hC : GoodAt P C N lo) (g : Gam N w0 ok0 st ok ρ a w) (hnN : n.le N) (he : evOper C lo st (cOper P n ops o) = some st') (hn : Into N w0 ok0 st' next) :
    if Region.wanted o (yielded ops a.tmps) then o.wpIn (FR rd) 0 P a w next Q else (∀ f, o.about P w a.eval = some f → (FR rd).fn f) ∧ next (a.put o.dst undef) w := by
  unfold cOper at he
  split at he
  · rename_i i gd hc hg
    unfold cGuard at hg
    split at hg
    · rename_i hog
      obtain rfl := Option.some.inj hg
      simp only [Region.wanted, hog, if_true]
      exact opd_ok hC g hnN hc he hn
    · rename_i j b hog
      split at hg
      · rename_i d hd
        obtain rfl := Option.some.inj hg
        have hdn : d < n.n ∧ ∃ p, ops[j]? = some p ∧ p.dst = some d := by
          unfold dstOf at hd
          split at hd
          · rename_i p hp
            split at hd
            · rename_i d' hpd
              split at hd
              · rename_i hlt
                obtain rfl := Option.some.inj hd
                exact ⟨hlt, p, hp, hpd⟩
              · cases hd
            · cases hd
          · cases hd
        obtain ⟨hlt, p, hp, hpd⟩ := hdn
        obtain ⟨v, hv, hr⟩ := tmp_of g (Nat.lt_of_lt_of_le hlt hnN.1)
        have hy : yielded ops a.tmps j = (match v with | .bool b => some b | _ => none) := by
          simp only [yielded, hp, Option.bind_some, hpd, hv]
          cases v <;> rfl
        have hskip : skipK st i.dst = some st' → next (a.put o.dst undef) w := fun h => by
          rw [cOpd_dst hc] at h
          exact skip_ok g (fun k hk => hnN.2.1 _ (cOpd_lt hc hk)) h hn
        simp only [evOper] at he
        unfold guardK at he
        split at he
        · rename_i b' hb
          rw [hb] at hr
          simp only [LRep, TRep] at hr
          subst hr
          simp only at hy
          split at he
          · rename_i e
            subst e
            simp only [Region.wanted, hog, hy, BEq.rfl, if_true]
            exact opd_ok hC g hnN hc he hn
          · rename_i e
            have : Region.wanted o (yielded ops a.tmps) = false := by
              simp only [Region.wanted, hog, hy]
              simpa using e
            simp only [this]
            exact ⟨fun _ _ => trivial, hskip he⟩
        · rename_i hb
          rw [hb] at hr
          simp only [LRep] at hr
          obtain ⟨vs, rfl, _⟩ := hr
          simp only at hy
          have : Region.wanted o (yielded ops a.tmps) = false := by
            simp only [Region.wanted, hog, hy]
            rfl
          simp only [this]
          exact ⟨fun _ _ => trivial, hskip he⟩
        · cases he
      · cases hg
  · cases he

theorem cOpers_get : ∀ {os : List Oper} (k : Nat), (cOpers P n ops os)[k]? = (os[k]?).map (cOper P n ops)
  | [], k => by simp [cOpers]
  | o :: os, 0 => by simp [cOpers]
  | o :: os, k + 1 => by simp [cOpers, cOpers_get]

theorem wpOps_ok (hC : GoodAt P C N lo) (hnN : n.le N) : ∀ {s : List Nat} {st : St} {ok : Nat → Prop} {ρ : Rho} {a : Act} {w : World}, Gam N w0 ok0 st ok ρ a w → evIdx C lo (cOpers P n ops ops.toList) s st = some st' → Into N w0 ok0 st' (Q .normal) → wpOpsIn (FR rd) 0 P ops Q s a w
  | [], st, ok, ρ, a, w, g, he, hn => by
    obtain rfl := Option.some.inj he
    exact hn _ _ _ _ g
  | i :: s, st, ok, ρ, a, w, g, he, hn => by
    simp only [evIdx, cOpers_get, Array.getElem?_toList] at he
    simp only [wpOpsIn]
    cases ho : ops[i]? with
    | none =>
      rw [ho] at he
      simp only [Option.map_none] at he
      exact wpOps_ok hC hnN g he hn
    | some o =>
      rw [ho] at he
      simp only [Option.map_some] at he
      cases h1 : evOper C lo st (cOper P n ops o) with
      | none => rw [h1] at he; cases he
      | some st1 =>
        rw [h1] at he
        exact oper_ok (next := wpOpsIn (FR rd) 0 P ops Q s) hC g hnN h1 fun ok ρ a w g' => wpOps_ok hC hnN g' he hn

theorem evOps_idx (ios : List IOper) : ∀ (r : List IOper) (k : Nat) (st : St), (∀ j, ios[k + j]? = r[j]?) → evOps C lo r (some st) = evIdx C lo ios (List.range' k r.length) st
  | [], k, st, _ => by simp [evOps, evIdx]
  | o :: r, k, st, h => by
    have h0 : ios[k]? = some o := by simpa using h 0
    simp only [evOps, List.length_cons, List.range'_succ, evIdx, h0]
    cases h1 : evOper C lo st o with
    | none => cases r <;> rfl
    | some st1 => exact evOps_idx ios r (k + 1) st1 fun j => by have := h (j + 1); simpa [Nat.add_assoc, Nat.add_comm 1 j] using this
theorem cOpers_length : ∀ {os : List Oper}, (cOpers P n ops os).length = os.length
  | [] => rfl
  | o :: os => by simp [cOpers, cOpers_length]
end
end Go.Proofs.Ytonhkmpjpnjkfaa.Sx
namespace Go.Proofs.Ytonhkmpjpnjkfaa.Sx
open Go Go.RowKit

def patchH (h' h1 : Hp) (wr : List Nat) : Hp := fun i => if i ∈ wr then h1 i else h' i
def patch (st' st1 : St) (d : Option Nat) (wr : List Nat) : St := { env := fun i => if d = some i then st1.env i else st'.env i, hp := patchH st'.hp st1.hp wr }

theorem St.ext' {a b : St} (h1 : ∀ i, a.env i = b.env i) (h2 : ∀ i, a.hp i = b.hp i) : a = b := by
  obtain ⟨e, h⟩ := a
  obtain ⟨e', h'⟩ := b
  have : e = e' := funext h1
  have : h = h' := funext h2
  subst_vars
  rfl

section
variable {C : Cs} {lo : Nat} {st st' st1 : St}

theorem rd_eq {e e' : Nat → LV} {x : X} (h : ∀ i ∈ x.rs, e' i = e i) : x.rd e' = x.rd e := by
  cases x with
  | t i => exact h i (by simp [X.rs])
  | c l => rfl
  | fn f => rfl
theorem rds_eq {e e' : Nat → LV} : ∀ {xs : List X}, (∀ i ∈ xrs xs, e' i = e i) → rds e' xs = rds e xs
  | [], _ => rfl
  | x :: xs, h => by
    simp only [rds]
    rw [rd_eq fun i hi => h i (by simp [xrs, hi]), rds_eq fun i hi => h i (by simp [xrs, hi])]
theorem buildCells_eq {e e' : Nat → LV} : ∀ {ps : List (Nat × Nat × X)} {cs : List LV}, (∀ i ∈ prs ps, e' i = e i) → buildCells e' cs ps = buildCells e cs ps
  | [], _, _ => rfl
  | (off, n, x) :: ps, cs, h => by
    simp only [buildCells]
    rw [rd_eq fun i hi => h i (by simp [prs, hi])]
    split
    · exact buildCells_eq fun i hi => h i (by simp [prs, hi])
    · rfl
theorem bndX_eq {e e' : Nat → LV} {k : Nat} {x : Option X} {m : Option Nat} (h : ∀ i ∈ oxrs x, e' i = e i) : bndX e' k x m = bndX e k x m := by
  cases x with
  | none => cases m <;> rfl
  | some x => cases m with
    | none => rfl
    | some m => simp only [bndX]; rw [rd_eq fun i hi => h i (by simpa [oxrs] using hi)]

/-! ### trees of what lies in memory -/
theorem solidS_eq {h h' : Hp} {off len id : Nat} {t : TV} {is : List Nat} (he : solidS off len id (h id) = some (t, is)) (hh : ∀ i ∈ is, h' i = h i) : solidS off len id (h' id) = some (t, is) := by
  have hm : id ∈ is := by
    unfold solidS at he
    split at he
    · simp only [Option.some.injEq, Prod.mk.injEq] at he
      rw [← he.2]; simp
    · cases he
  rw [hh id hm]; exact he
theorem solidCell_eq {h h' : Hp} {l : LV} {t : TV} {is : List Nat} (he : solidCell h l = some (t, is)) (hh : ∀ i ∈ is, h' i = h i) : solidCell h' l = some (t, is) := by
  unfold solidCell at he ⊢
  split at he
  case h_8 => exact solidS_eq he hh
  all_goals first | exact he | (cases he; done)
theorem consS_some {x : Option (TV × List Nat)} {y : Option (List TV × List Nat)} {r : List TV × List Nat} (h : consS x y = some r) : ∃ t i ts is, x = some (t, i) ∧ y = some (ts, is) ∧ r = (t :: ts, i ++ is) := by
  unfold consS at h
  split at h
  · exact ⟨_, _, _, _, rfl, rfl, (Option.some.inj h).symm⟩
  · cases h
theorem solidCells_eq {h h' : Hp} : ∀ {ls : List LV} {ts : List TV} {is : List Nat}, solidCells h ls = some (ts, is) → (∀ i ∈ is, h' i = h i) → solidCells h' ls = some (ts, is)
  | [], ts, is, he, _ => he
  | l :: ls, ts, is, he, hh => by
    simp only [solidCells] at he ⊢
    obtain ⟨t, i1, ts', i2, h1, h2, h3⟩ := consS_some he
    obtain ⟨rfl, rfl⟩ := Prod.mk.inj h3
    rw [solidCell_eq h1 fun i hi => hh i (by simp [hi]), solidCells_eq h2 fun i hi => hh i (by simp [hi])]
    rfl
theorem solidP_eq {h h' : Hp} {id off : Nat} {t : TV} {is : List Nat} (he : solidP h id off (h id) = some (t, is)) (hh : ∀ i ∈ is, h' i = h i) : solidP h' id off (h' id) = some (t, is) := by
  unfold solidP at he
  split at he
  · rename_i f cs ho
    unfold pcS at he
    split at he
    · rename_i ts is' h1
      simp only [Option.some.injEq, Prod.mk.injEq] at he
      obtain ⟨rfl, rfl⟩ := he
      rw [hh id (by simp), ho]
      simp only [solidP]
      rw [solidCells_eq h1 fun i hi => hh i (by simp [hi])]
      rfl
    · cases he
  · cases he
theorem solidCap_eq {h h' : Hp} {l : LV} {t : TV} {is : List Nat} (he : solidCap h l = some (t, is)) (hh : ∀ i ∈ is, h' i = h i) : solidCap h' l = some (t, is) := by
  unfold solidCap at he ⊢
  split at he
  · exact solidP_eq he hh
  · exact solidCell_eq he hh
theorem solidCaps_eq {h h' : Hp} : ∀ {ls : List LV} {ts : List TV} {is : List Nat}, solidCaps h ls = some (ts, is) → (∀ i ∈ is, h' i = h i) → solidCaps h' ls = some (ts, is)
  | [], ts, is, he, _ => he
  | l :: ls, ts, is, he, hh => by
    simp only [solidCaps] at he ⊢
    obtain ⟨t, i1, ts', i2, h1, h2, h3⟩ := consS_some he
    obtain ⟨rfl, rfl⟩ := Prod.mk.inj h3
    rw [solidCap_eq h1 fun i hi => hh i (by simp [hi]), solidCaps_eq h2 fun i hi => hh i (by simp [hi])]
    rfl
theorem solidArg_eq {h h' : Hp} {l : LV} {t : TV} {is : List Nat} (he : solidArg h l = some (t, is)) (hh : ∀ i ∈ is, h' i = h i) : solidArg h' l = some (t, is) := by
  unfold solidArg at he ⊢
  split at he
  · unfold aggS at he
    split at he
    · rename_i ts is' h1
      simp only [Option.some.injEq, Prod.mk.injEq] at he
      obtain ⟨rfl, rfl⟩ := he
      simp only [solidCells_eq h1 hh]
      rfl
    · cases he
  · exact solidP_eq he hh
  · unfold fnS at he
    split at he
    · rename_i ts is' h1
      simp only [Option.some.injEq, Prod.mk.injEq] at he
      obtain ⟨rfl, rfl⟩ := he
      simp only [solidCaps_eq h1 hh]
      rfl
    · cases he
  · exact he
  · exact solidCell_eq he hh
theorem solidArgs_eq {h h' : Hp} : ∀ {ls : List LV} {ts : List TV} {is : List Nat}, solidArgs h ls = some (ts, is) → (∀ i ∈ is, h' i = h i) → solidArgs h' ls = some (ts, is)
  | [], ts, is, he, _ => he
  | l :: ls, ts, is, he, hh => by
    simp only [solidArgs] at he ⊢
    obtain ⟨t, i1, ts', i2, h1, h2, h3⟩ := consS_some he
    obtain ⟨rfl, rfl⟩ := Prod.mk.inj h3
    rw [solidArg_eq h1 fun i hi => hh i (by simp [hi]), solidArgs_eq h2 fun i hi => hh i (by simp [hi])]
    rfl
theorem solidRows_eq {h h' : Hp} {e e' : Nat → LV} {sz : Nat} : ∀ {xs : List X} {rs : List (List TV)} {is : List Nat}, solidRows h e sz xs = some (rs, is) → (∀ i ∈ xrs xs, e' i = e i) → (∀ i ∈ is, h' i = h i) → solidRows h' e' sz xs = some (rs, is)
  | [], rs, is, he, _, _ => he
  | x :: xs, rs, is, he, hx, hh => by
    simp only [solidRows] at he ⊢
    unfold consR at he
    split at he
    · rename_i r i1 rs' i2 h1 h2
      split at he
      · rename_i hsz
        simp only [Option.some.injEq, Prod.mk.injEq] at he
        obtain ⟨rfl, rfl⟩ := he
        rw [rd_eq fun i hi => hx i (by simp [xrs, hi]), solidCells_eq h1 fun i hi => hh i (by simp [hi]), solidRows_eq h2 (fun i hi => hx i (by simp [xrs, hi])) fun i hi => hh i (by simp [hi])]
        simp only [consR, hsz, if_true]
      · cases he
    · cases he

theorem frz_at {h h' : Hp} {j : Nat} (e : h' j = h j) (i : Nat) : upd h' i (frz (h' i)) j = upd h i (frz (h i)) j := by
  by_cases hj : j = i
  · subst hj; rw [upd_same, upd_same, e]
  · rw [upd_ne _ _ hj, upd_ne _ _ hj, e]
theorem freezeAll_at : ∀ (is : List Nat) {h h' : Hp} {j : Nat}, h' j = h j → Sx.freezeAll h' is j = Sx.freezeAll h is j
  | [], _, _, _, e => e
  | i :: is, h, h', j, e => freezeAll_at is (frz_at e i)
theorem freezeAll_out : ∀ (is : List Nat) {h : Hp} {j : Nat}, j ∉ is → Sx.freezeAll h is j = h j
  | [], _, _, _ => rfl
  | i :: is, h, j, hj => by
    show Sx.freezeAll (upd h i (frz (h i))) is j = h j
    rw [freezeAll_out is (fun hm => hj (by simp [hm])), upd_ne _ _ (fun e => hj (by simp [e]))]

/-! ### single changes -/
theorem set_loc {d : Nat} {l : LV} {wr : List Nat} (hw : ∀ i ∈ wr, st'.hp i = st.hp i) : st'.set d l = patch st' (st.set d l) (some d) wr := by
  refine St.ext' (fun i => ?_) fun i => ?_
  · simp only [St.set, patch, upd]
    by_cases e : i = d
    · subst e; simp
    · rw [if_neg e, if_neg (by simpa using fun h => e h.symm)]
  · simp only [St.set, patch, patchH]
    split
    · exact hw i (by assumption)
    · rfl
theorem setM_loc {d : Nat} {x x' : Option LV} {wr : List Nat} (h : setM st d x = some st1) (hx : x' = x) (hw : ∀ i ∈ wr, st'.hp i = st.hp i) : setM st' d x' = some (patch st' st1 (some d) wr) := by
  subst hx
  cases x' with
  | none => cases h
  | some l =>
    obtain rfl := Option.some.inj h
    exact congrArg some (set_loc hw)
theorem setV_loc {d : Nat} {x x' : Option TV} {wr : List Nat} (h : setV st d x = some st1) (hx : x' = x) (hw : ∀ i ∈ wr, st'.hp i = st.hp i) : setV st' d x' = some (patch st' st1 (some d) wr) := by
  subst hx
  cases x' with
  | none => cases h
  | some l =>
    obtain rfl := Option.some.inj h
    exact congrArg some (set_loc hw)
theorem mkO_loc {d k : Nat} {o : Ob} {l : LV} {h h' : Hp} {wr0 : List Nat} (he : mkO d k o l ⟨st.env, h⟩ = some st1) (hk : h' k = h k) (h1 : ∀ i ∈ wr0, h' i = h i) (h2 : ∀ i, i ∉ wr0 → h' i = st'.hp i) :
    mkO d k o l ⟨st'.env, h'⟩ = some (patch st' st1 (some d) (k :: wr0)) := by
  unfold mkO mkK at he ⊢
  dsimp only at he ⊢
  rw [hk]
  split at he
  · rename_i hn
    obtain rfl := Option.some.inj he
    refine congrArg some (St.ext' (fun i => ?_) fun i => ?_)
    · show upd st'.env d l i = if some d = some i then upd st.env d l i else st'.env i
      simp only [upd]
      by_cases e : i = d
      · subst e; simp
      · rw [if_neg e, if_neg (by simpa using fun h => e h.symm)]
    · show upd h' k (some o) i = if i ∈ k :: wr0 then upd h k (some o) i else st'.hp i
      by_cases e : i = k
      · subst e; rw [upd_same, if_pos (by simp), upd_same]
      · rw [upd_ne _ _ e]
        by_cases hm : i ∈ wr0
        · rw [if_pos (by simp [hm]), upd_ne _ _ e]; exact h1 i hm
        · rw [if_neg (by simp [e, hm])]; exact h2 i hm
  · cases he

/-! ### results -/
/-- F turns wr alone, and looks at wr alone -/
def LocT {β : Type} (F : St → Option (β × St)) (wr : List Nat) : Prop := ∀ (st : St) (r : β) (st1 : St), F st = some (r, st1) → st1.env = st.env ∧ ∀ st' : St, (∀ i ∈ wr, st'.hp i = st.hp i) → F st' = some (r, { env := st'.env, hp := patchH st'.hp st1.hp wr })
theorem LocT.out {β : Type} {F : St → Option (β × St)} {wr : List Nat} (h : LocT F wr) {st st1 : St} {r : β} (he : F st = some (r, st1)) {i : Nat} (hi : i ∉ wr) : st1.hp i = st.hp i := by
  have := (h st r st1 he).2 st fun _ _ => rfl
  rw [he] at this
  have e := congrArg St.hp (Prod.mk.inj (Option.some.inj this)).2
  rw [e]
  simp [patchH, hi]
theorem LocT.then {β γ δ : Type} {F : St → Option (β × St)} {G : St → Option (γ × St)} {n1 n2 : List Nat} (hF : LocT F n1) (hG : LocT G n2) (k : β → γ → δ) :
    LocT (fun st => match F st with | some (x, st1) => (match G st1 with | some (y, st2) => some (k x y, st2) | none => none) | none => none) (n1 ++ n2) := by
  intro st r st2 h
  cases h1 : F st with
  | none => simp only [h1] at h; cases h
  | some q =>
    obtain ⟨x, sta⟩ := q
    simp only [h1] at h
    cases h2 : G sta with
    | none => rw [h2] at h; cases h
    | some q =>
      obtain ⟨y, stb⟩ := q
      rw [h2] at h
      simp only [Option.some.injEq, Prod.mk.injEq] at h
      obtain ⟨rfl, rfl⟩ := h
      obtain ⟨e1, f1⟩ := hF st x sta h1
      obtain ⟨e2, f2⟩ := hG sta y stb h2
      refine ⟨e2.trans e1, fun st' hw => ?_⟩
      have g1 := f1 st' fun i hi => hw i (by simp [hi])
      have g2 := f2 ⟨st'.env, patchH st'.hp sta.hp n1⟩ fun i hi => by
        simp only [patchH]
        split
        · rfl
        · rename_i hn
          rw [hF.out h1 hn]
          exact hw i (by simp [hi])
      simp only [g1, g2]
      refine congrArg some (Prod.ext rfl (St.ext' (fun _ => rfl) fun i => ?_))
      simp only [patchH, List.mem_append]
      by_cases i2 : i ∈ n2
      · simp [i2]
      · by_cases i1 : i ∈ n1
        · simp [i1, i2, hG.out h2 i2]
        · simp [i1, i2]
theorem LocT.pure {β : Type} (r : β) : LocT (fun st => some (r, st)) [] := fun st r' st1 h => by
  simp only [Option.some.injEq, Prod.mk.injEq] at h
  obtain ⟨rfl, rfl⟩ := h
  exact ⟨rfl, fun st' _ => congrArg some (Prod.ext rfl (St.ext' (fun _ => rfl) fun i => by simp [patchH]))⟩
theorem LocT.map {β γ : Type} {F : St → Option (β × St)} {n : List Nat} (hF : LocT F n) (k : β → γ) : LocT (fun st => match F st with | some (x, st1) => some (k x, st1) | none => none) n := by
  have h := hF.then (LocT.pure ()) fun x _ => k x
  rw [List.append_nil] at h
  exact h
theorem LocT.congr {β : Type} {F G : St → Option (β × St)} {n : List Nat} (hF : LocT F n) (e : ∀ st, G st = F st) : LocT G n := by
  have : G = F := funext e
  rw [this]; exact hF

theorem consT_eq (l : LV) (x : Option (List LV × St)) : consT l x = match x with | some (ls, st) => some (l :: ls, st) | none => none := by cases x <;> rfl

def newO (k : Nat) (o : Ob) (st : St) : Option (Unit × St) := match st.hp k with
  | none => some ((), { st with hp := upd st.hp k (some o) })
  | some _ => none
theorem newO_loc (k : Nat) (o : Ob) : LocT (newO k o) [k] := by
  intro st r st1 h
  unfold newO at h
  split at h
  · rename_i hk
    simp only [Option.some.injEq, Prod.mk.injEq] at h
    obtain ⟨_, rfl⟩ := h
    refine ⟨rfl, fun st' hw => ?_⟩
    have := hw k (by simp)
    unfold newO
    rw [this, hk]
    refine congrArg some (Prod.ext rfl (St.ext' (fun _ => rfl) fun i => ?_))
    simp only [patchH, List.mem_singleton]
    by_cases e : i = k
    · subst e; simp [upd]
    · simp [upd, e]
  · cases h

theorem thawCells_loc : ∀ (ts : List TV) (k : Nat), LocT (thawCells k ts) (thawNs k ts)
  | [], k => by simpa only [thawCells, thawNs] using LocT.pure []
  | t :: ts, k => by
    have ih := thawCells_loc ts (k + 1)
    by_cases hown : ∃ e sz rows, t = .sl (.own e) sz rows
    · obtain ⟨e, sz, rows, rfl⟩ := hown
      have h := (newO_loc k (.arr false e sz rows)).then ih fun _ ls => LV.s k 0 rows.length :: ls
      simp only [thawNs]
      refine LocT.congr h fun st => ?_
      simp only [thawCells, thawOne, newO]
      cases st.hp k with
      | none => simp only; cases thawCells (k + 1) ts ⟨st.env, upd st.hp k (some (.arr false e sz rows))⟩ <;> rfl
      | some o => rfl
    · have hT : ∀ st, thawCells k (t :: ts) st = consT (.v t) (thawCells (k + 1) ts st) := fun st => by
        cases t with
        | sl fl sz rows => cases fl with
          | own e => exact absurd ⟨e, sz, rows, rfl⟩ hown
          | shared => rfl
          | tight e => rfl
        | _ => rfl
      have hN : thawNs k (t :: ts) = thawNs (k + 1) ts := by
        cases t with
        | sl fl sz rows => cases fl with
          | own e => exact absurd ⟨e, sz, rows, rfl⟩ hown
          | shared => rfl
          | tight e => rfl
        | _ => rfl
      rw [hN]
      refine LocT.congr (ih.map fun ls => LV.v t :: ls) fun st => ?_
      rw [hT]
      cases thawCells (k + 1) ts st <;> rfl

/-- F, where what it leaves goes through k, which may fail -/
theorem LocT.bind {β γ : Type} {F : St → Option (β × St)} {n : List Nat} (hF : LocT F n) (k : β → Option γ) : LocT (fun st => match F st with | some (x, st1) => (match k x with | some y => some (y, st1) | none => none) | none => none) n := by
  intro st r st1 h
  cases h1 : F st with
  | none => simp only [h1] at h; cases h
  | some q =>
    obtain ⟨x, sta⟩ := q
    simp only [h1] at h
    cases h2 : k x with
    | none => rw [h2] at h; cases h
    | some y =>
      rw [h2] at h
      simp only [Option.some.injEq, Prod.mk.injEq] at h
      obtain ⟨rfl, rfl⟩ := h
      obtain ⟨e1, f1⟩ := hF st x sta h1
      refine ⟨e1, fun st' hw => ?_⟩
      simp only [f1 st' hw, h2]
theorem LocT.none {β : Type} (n : List Nat) : LocT (fun _ : St => (Option.none : Option (β × St))) n := fun _ _ _ h => by cases h

theorem thaw1_loc (t : TV) (k : Nat) : LocT (thaw1 k t) (thawN1 k t) := by
  by_cases ha : ∃ cs, t = .agg cs
  · obtain ⟨cs, rfl⟩ := ha
    simp only [thawN1]
    by_cases hl : cs.length ≤ 16
    · refine LocT.congr ((thawCells_loc cs k).map fun ls => LV.agg ls) fun st => ?_
      simp only [thaw1, hl, if_true]
      cases thawCells k cs st <;> rfl
    · refine LocT.congr (LocT.none _) fun st => ?_
      simp only [thaw1, hl, if_false]
  · have hT : ∀ st, thaw1 k t st = oneT (thawCells k [t] st) := fun st => by cases t with
      | agg cs => exact absurd ⟨cs, rfl⟩ ha
      | _ => rfl
    have hN : thawN1 k t = thawNs k [t] := by cases t with
      | agg cs => exact absurd ⟨cs, rfl⟩ ha
      | _ => rfl
    rw [hN]
    refine LocT.congr ((thawCells_loc [t] k).bind fun ls => match ls with | [l] => some l | _ => Option.none) fun st => ?_
    rw [hT]
    cases thawCells k [t] st with
    | none => rfl
    | some q =>
      obtain ⟨ls, st1⟩ := q
      match ls with
      | [] => rfl
      | [l] => rfl
      | _ :: _ :: _ => rfl

theorem thawVs_loc : ∀ (ts : List TV) (k : Nat), LocT (thawVs k ts) (thawNVs k ts)
  | [], k => by simpa only [thawVs, thawNVs] using LocT.pure []
  | t :: ts, k => by
    simp only [thawNVs]
    refine LocT.congr ((thaw1_loc t k).then (thawVs_loc ts (k + 16)) fun l ls => l :: ls) fun st => ?_
    simp only [thawVs]
    cases thaw1 k t st with
    | none => rfl
    | some q => simp only [thawK]; cases thawVs (k + 16) ts q.2 <;> rfl
theorem thaw_loc (t : TV) (k : Nat) : LocT (thaw k t) (thawN k t) := by
  by_cases ha : ∃ cs, t = .tup cs
  · obtain ⟨cs, rfl⟩ := ha
    simp only [thawN]
    refine LocT.congr ((thawVs_loc cs k).map fun ls => LV.tup ls) fun st => ?_
    simp only [thaw]
    cases thawVs k cs st <;> rfl
  · have hT : ∀ st, thaw k t st = thaw1 k t st := fun st => by cases t with
      | tup cs => exact absurd ⟨cs, rfl⟩ ha
      | _ => rfl
    have hN : thawN k t = thawN1 k t := by cases t with
      | tup cs => exact absurd ⟨cs, rfl⟩ ha
      | _ => rfl
    rw [hN]
    exact LocT.congr (thaw1_loc t k) hT
end
end Go.Proofs.Ytonhkmpjpnjkfaa.Sx
namespace Go.Proofs.Ytonhkmpjpnjkfaa.Sx
open Go Go.RowKit

section
variable {C : Cs} {lo : Nat} {st st' st1 : St}

theorem loadL_eq {h h' : Hp} {n : Nat} {ag : Bool} {l : LV} (hh : ∀ i ∈ fpA l, h' i = h i) : loadL h' n ag l = loadL h n ag l := by
  cases l with
  | p id off => simp only [loadL, hh id (by simp [fpA])]
  | pe id r off => simp only [loadL, hh id (by simp [fpA])]
  | v t => cases t <;> rfl
  | _ => rfl
theorem iaddrL_eq {h h' : Hp} {sz : Nat} {l m : LV} (hh : ∀ i ∈ fpA l, h' i = h i) : iaddrL h' sz l m = iaddrL h sz l m := by
  unfold iaddrL
  split
  · rfl
  · rw [hh _ (by simp [fpA])]
  · rfl
theorem sliceL_eq {h h' : Hp} {e e' : Nat → LV} {te : TypeId} {sz : Nat} {a b c : Option X} {l : LV} (h1 : ∀ i ∈ oxrs a, e' i = e i) (h2 : ∀ i ∈ oxrs b, e' i = e i) (h3 : ∀ i ∈ oxrs c, e' i = e i) (hh : ∀ i ∈ fpA l, h' i = h i) :
    sliceL h' te sz e' a b c l = sliceL h te sz e a b c l := by
  unfold sliceL
  split
  · simp only [cutV2, bndX_eq h1, bndX_eq h2]
  · simp only [cutV3, bndX_eq h1, bndX_eq h2, bndX_eq (x := some _) (by simpa [oxrs] using h3)]
  · rw [hh _ (by simp [fpA])]; simp only [bndX_eq h1, bndX_eq h2]
  · rfl
theorem rowsOf_eq {h h' : Hp} {l : LV} (hh : ∀ i ∈ fpA l, h' i = h i) : rowsOf h' l = rowsOf h l := by
  cases l with
  | s id off len => simp only [rowsOf, hh id (by simp [fpA])]
  | v t => cases t <;> rfl
  | _ => rfl
theorem rowsB_eq {h h' : Hp} {l : LV} (hh : ∀ i ∈ fpA l, h' i = h i) : rowsB h' l = rowsB h l := by
  cases l with
  | s id off len => simp only [rowsB, hh id (by simp [fpA])]
  | v t => cases t <;> rfl
  | _ => rfl

theorem pick_loc {d : Nat} {a b c : LV} {wr : List Nat} (h : pickK st d a b c = some st1) (hw : ∀ i ∈ wr, st'.hp i = st.hp i) : pickK st' d a b c = some (patch st' st1 (some d) wr) := by
  unfold pickK at h ⊢
  split at h
  · split at h
    · rename_i hc; obtain rfl := Option.some.inj h; simp only [hc, if_true]; exact congrArg some (set_loc hw)
    · rename_i hc; obtain rfl := Option.some.inj h; simp only [hc]; exact congrArg some (set_loc hw)
  · cases h

theorem hp_loc {id : Nat} {o : Ob} {h h' : Hp} {wr0 : List Nat} {wr : List Nat} (hid : id ∈ wr) (hs : ∀ i ∈ wr0, i ∈ wr) (h1 : ∀ i ∈ wr, h' i = h i) (h2 : ∀ i, i ∉ wr → h' i = st'.hp i) {e e' : Nat → LV} {d : Option Nat} (he : ∀ i, e' i = if d = some i then e i else st'.env i) :
    (⟨e', upd h' id (some o)⟩ : St) = patch st' ⟨e, upd h id (some o)⟩ d wr := by
  refine St.ext' (fun i => he i) fun i => ?_
  show upd h' id (some o) i = if i ∈ wr then upd h id (some o) i else st'.hp i
  by_cases ei : i = id
  · subst ei; rw [upd_same, if_pos hid, upd_same]
  · rw [upd_ne _ _ ei, upd_ne _ _ ei]
    by_cases hm : i ∈ wr
    · rw [if_pos hm]; exact h1 i hm
    · rw [if_neg hm]; exact h2 i hm

theorem store_loc {n : Nat} {xs : List LV} {l : LV} {wr : List Nat} (h : storeL st n xs l = some st1) (hwr : wr = fpW (solidCells st.hp xs) l) (hw : ∀ i ∈ wr, st'.hp i = st.hp i) :
    storeL st' n xs l = some (patch st' st1 none wr) ∧ fpW (solidCells st'.hp xs) l = fpW (solidCells st.hp xs) l := by
  unfold storeL at h ⊢
  split at h
  · rename_i id off
    have hid : id ∈ wr := by rw [hwr]; simp [fpW]
    refine ⟨?_, rfl⟩
    simp only [hw id hid]
    unfold storeP at h ⊢
    split at h
    · split at h
      · rename_i hh
        obtain rfl := Option.some.inj h
        simp only [hh, and_self, if_true]
        exact congrArg some (hp_loc hid (wr0 := []) (by simp) hw (fun _ _ => rfl) (by simp))
      · cases h
    · cases h
  · rename_i id row off
    have hid : id ∈ wr := by rw [hwr]; simp [fpW]
    cases hs : solidCells st.hp xs with
    | none => rw [hs] at h; cases h
    | some q =>
      obtain ⟨ts, is⟩ := q
      have his : ∀ i ∈ is, i ∈ wr := fun i hi => by rw [hwr, hs]; simp [fpW, fpS, hi]
      rw [hs] at h
      rw [solidCells_eq hs fun i hi => hw i (his i hi)]
      refine ⟨?_, rfl⟩
      simp only [hw id hid]
      unfold storeE at h ⊢
      split at h
      · rename_i h1 h2
        simp only [Option.some.injEq, Prod.mk.injEq] at h1
        obtain ⟨rfl, rfl⟩ := h1
        unfold storeE2 at h ⊢
        split at h
        · rename_i r hr
          split at h
          · rename_i hh
            obtain rfl := Option.some.inj h
            simp only [hh, and_self, not_false_eq_true, if_true]
            exact congrArg some (hp_loc hid his (fun i hi => freezeAll_at _ (hw i hi)) (fun i hi => freezeAll_out _ fun hm => hi (his i hm)) (by simp))
          · cases h
        · cases h
      · cases h
  · cases h

theorem storeQ_loc {n : Nat} {x l : LV} {wr : List Nat} (h : storeQ lo st n x l = some st1) (hwr : wr = fpQ lo st.hp x l) (hw : ∀ i ∈ wr, st'.hp i = st.hp i) :
    storeQ lo st' n x l = some (patch st' st1 none wr) ∧ fpQ lo st'.hp x l = fpQ lo st.hp x l := by
  unfold storeQ at h ⊢
  unfold fpQ at hwr ⊢
  split at h
  · rename_i hlo
    rw [if_pos hlo] at hwr
    simp only [if_pos hlo]
    exact store_loc h hwr hw
  · rename_i hlo
    rw [if_neg hlo] at hwr
    simp only [if_neg hlo]
    unfold storeV at h ⊢
    unfold fpV at hwr ⊢
    split at h
    · rename_i id2 len id off
      simp only at hwr ⊢
      generalize off * 1000000 + len = nid at h hwr ⊢
      refine ⟨?_, trivial⟩
      split at h
      · rename_i hn
        rw [if_pos hn]
        rw [hw id2 (by rw [hwr]; simp), hw nid (by rw [hwr]; simp), hw id (by rw [hwr]; simp)]
        unfold putO at h ⊢
        split at h
        · split at h
          · rename_i hh
            obtain rfl := Option.some.inj h
            simp only [hh, and_self, if_true]
            refine congrArg some (hp_loc (by rw [hwr]; simp) (wr0 := []) (by simp) (fun i hi => ?_) (fun i hi => ?_) (by simp))
            · unfold upd
              split
              · rfl
              · split
                · rfl
                · exact hw i hi
            · rw [hwr] at hi
              simp only [List.mem_cons, List.not_mem_nil, or_false, not_or] at hi
              rw [upd_ne _ _ hi.2.2, upd_ne _ _ hi.2.1]
          · cases h
        · cases h
      · cases h
    · rename_i hno
      split at hwr
      · rename_i id2 len id off
        exact absurd rfl (hno id2 len id off rfl)
      · exact store_loc h hwr hw
theorem appN_loc {d : Nat} {e : TypeId} {sz : Nat} {new : List (List TV)} (h : appN lo st d e sz new = some st1) (hw : st'.hp (lo + d) = st.hp (lo + d)) : appN lo st' d e sz new = some (patch st' st1 (some d) [lo + d]) := by
  unfold appN at h ⊢
  split at h
  · rename_i hlo
    rw [if_pos hlo]
    exact mkO_loc (st := st) (wr0 := []) h hw (by simp) (fun _ _ => rfl)
  · rename_i hlo
    rw [if_neg hlo]
    unfold appV at h ⊢
    split at h
    · exact mkO_loc (st := st) (wr0 := []) h hw (by simp) (fun _ _ => rfl)
    · exact mkO_loc (st := st) (wr0 := []) h hw (by simp) (fun _ _ => rfl)
theorem app_loc {d : Nat} {e : TypeId} {sz bytes : Nat} {x : LV} {y y' : Option (Nat × List (List TV))} {wr : List Nat} (h : appK lo st d e sz bytes x y = some st1) (hy : y' = y) (hwr : wr = (lo + d) :: fpA x) (hw : ∀ i ∈ wr, st'.hp i = st.hp i) :
    appK lo st' d e sz bytes x y' = some (patch st' st1 (some d) wr) := by
  subst hy
  unfold appK at h ⊢
  split at h
  · rename_i sz' new
    split at h
    · rename_i hsz
      simp only [hsz, if_true]
      unfold appL at h ⊢
      split at h
      · rename_i fe sz2 rows
        split at h
        · rename_i hsz2
          simp only [hsz2, if_true]
          have hwr' : wr = [lo + d] := by rw [hwr]; rfl
          subst hwr'
          unfold appT at h ⊢
          split at h
          · split at h
            · rename_i hb
              simp only [hb, if_true]
              exact appN_loc h (hw _ (by simp))
            · cases h
          · split at h
            · rename_i hb
              obtain rfl := Option.some.inj h
              simp only [hb, if_true]
              exact congrArg some (set_loc hw)
            · rename_i hb
              split at h
              · rename_i hb2
                simp only [hb, if_false, hb2, if_true]
                exact mkO_loc (st := st) (wr0 := []) h (hw _ (by simp)) (by simp) (fun _ _ => rfl)
              · cases h
        · cases h
      · rename_i id len
        have hwr' : wr = [lo + d, id] := by rw [hwr]; rfl
        subst hwr'
        simp only [hw id (by simp)]
        unfold appS at h ⊢
        split at h
        · split at h
          · rename_i hh
            simp only [hh, and_self, if_true]
            refine mkO_loc (st := st) (wr0 := [id]) h ?_ ?_ ?_
            · simp only [upd]; split
              · rfl
              · exact hw _ (by simp)
            · intro i hi; simp only [List.mem_singleton] at hi; subst hi; rw [upd_same, upd_same]
            · intro i hi; exact upd_ne _ _ (by simpa using hi)
          · cases h
        · unfold appW at h ⊢
          split at h
          · split at h
            · rename_i hh
              rw [if_pos hh]
              refine mkO_loc (st := st) (wr0 := [id]) h ?_ ?_ ?_
              · simp only [upd]; split
                · rfl
                · exact hw _ (by simp)
              · intro i hi; simp only [List.mem_singleton] at hi; subst hi; rw [upd_same, upd_same]
              · intro i hi; exact upd_ne _ _ (by simpa using hi)
            · cases h
          · cases h
        · cases h
      · cases h
    · cases h
  · cases h

theorem copy_loc {d sz : Nat} {x : LV} {y y' : Option (Nat × List (List TV))} {wr : List Nat} (h : copyK st d sz x y = some st1) (hy : y' = y) (hwr : wr = fpA x) (hw : ∀ i ∈ wr, st'.hp i = st.hp i) :
    copyK st' d sz x y' = some (patch st' st1 (some d) wr) := by
  subst hy
  unfold copyK at h ⊢
  split at h
  · split at h
    · rename_i hsz
      simp only [hsz, if_true]
      unfold copyL at h ⊢
      split at h
      · rename_i id off len
        have hid : id ∈ wr := by rw [hwr]; simp [fpA]
        simp only [hw id hid]
        unfold copyO at h ⊢
        split at h
        · split at h
          · rename_i hh
            obtain rfl := Option.some.inj h
            simp only [hh, if_true]
            refine congrArg some (hp_loc hid (wr0 := []) (by simp) hw (fun _ _ => rfl) fun i => ?_)
            simp only [upd]
            by_cases ei : i = d
            · subst ei; simp
            · rw [if_neg ei, if_neg (by simpa using fun h => ei h.symm)]
          · cases h
        · cases h
      · cases h
    · cases h
  · cases h

theorem call_loc {d : Nat} {is : List Nat} {r : Option TV} (h : callR lo d is st r = some st1) (hrd : ∀ i ∈ is, st'.hp i = st.hp i) (hw : ∀ i ∈ (fpCall lo d is r).wr, st'.hp i = st.hp i) :
    callR lo d is st' r = some (patch st' st1 (some d) (fpCall lo d is r).wr) := by
  cases r with
  | none => cases h
  | some r =>
    simp only [fpCall] at hw ⊢
    simp only [callR] at h ⊢
    generalize hH : (fun h : Hp => if is.isEmpty || r.flat then h else Sx.freezeAll h is) = H at *
    have hHs : ∀ h : Hp, (if is.isEmpty || r.flat then h else Sx.freezeAll h is) = H h := fun h => by rw [← hH]
    simp only [hHs] at h ⊢
    have hat : ∀ {h h' : Hp} {j : Nat}, h' j = h j → H h' j = H h j := fun {h h' j} e => by
      rw [← hH]
      simp only
      split
      · exact e
      · exact freezeAll_at is e
    have hout : ∀ {h : Hp} {j : Nat}, j ∉ (if r.flat = true then [] else is) → H h j = h j := fun {h j} e => by
      rw [← hH]
      simp only
      split
      · rfl
      · rename_i hc
        refine freezeAll_out is fun hm => e ?_
        have : r.flat = false := by simpa using (by simpa using hc : ¬ (is = [] ∨ r.flat = true)) ∘ Or.inr
        simp [this, hm]
    cases ht : thaw (lo + (1000 + d * 64)) r { env := st.env, hp := H st.hp } with
    | none => rw [ht] at h; cases h
    | some q =>
      obtain ⟨l, st2⟩ := q
      rw [ht] at h
      obtain rfl := Option.some.inj h
      have hloc := thaw_loc r (lo + (1000 + d * 64))
      obtain ⟨e1, f1⟩ := hloc _ _ _ ht
      have g1 := f1 ⟨st'.env, H st'.hp⟩ fun i hi => hat (hw i (by simp [hi]))
      rw [g1]
      simp only [callT]
      refine congrArg some (St.ext' (fun i => ?_) fun i => ?_)
      · show upd st'.env d l i = if some d = some i then upd st2.env d l i else st'.env i
        simp only [upd]
        by_cases ei : i = d
        · subst ei; simp
        · rw [if_neg ei, if_neg (by simpa using fun h => ei h.symm)]
      · show patchH (H st'.hp) st2.hp (thawN (lo + (1000 + d * 64)) r) i = patchH st'.hp st2.hp ((if r.flat = true then [] else is) ++ thawN (lo + (1000 + d * 64)) r) i
        simp only [patchH, List.mem_append]
        by_cases i2 : i ∈ thawN (lo + (1000 + d * 64)) r
        · simp [i2]
        · by_cases i1 : i ∈ (if r.flat = true then [] else is)
          · simp only [i1, i2, or_false, if_true, if_false]
            rw [hloc.out ht i2]
            exact hat (hw i (by simp only [List.mem_append]; exact .inl i1))
          · simp only [i1, i2, or_false, if_false]
            exact hout i1

theorem callA_loc {d : Nat} {f : FuncId} {ls : List LV} (h : callA C lo d f st (solidArgs st.hp ls) = some st1) (hrd : ∀ i ∈ (fpCallA C lo d f (solidArgs st.hp ls)).rd, st'.hp i = st.hp i)
    (hw : ∀ i ∈ (fpCallA C lo d f (solidArgs st.hp ls)).wr, st'.hp i = st.hp i) :
    callA C lo d f st' (solidArgs st'.hp ls) = some (patch st' st1 (some d) (fpCallA C lo d f (solidArgs st.hp ls)).wr) ∧ solidArgs st'.hp ls = solidArgs st.hp ls := by
  cases hs : solidArgs st.hp ls with
  | none => rw [hs] at h; cases h
  | some q =>
    obtain ⟨ts, is⟩ := q
    rw [hs] at h hrd hw
    simp only [callA, fpCallA] at h hrd hw ⊢
    have his : ∀ i ∈ is, st'.hp i = st.hp i := by
      cases hr : C.t f ts with
      | none => rw [hr] at h; cases h
      | some r => rw [hr] at hrd; exact hrd
    rw [solidArgs_eq hs his]
    exact ⟨call_loc h his hw, rfl⟩

theorem callF_loc {d : Nat} {args : List LV} {l : LV} (h : callF C lo d args st l = some st1) (hrd : ∀ i ∈ (fpCallF C lo d args st.hp l).rd, st'.hp i = st.hp i) (hw : ∀ i ∈ (fpCallF C lo d args st.hp l).wr, st'.hp i = st.hp i) :
    callF C lo d args st' l = some (patch st' st1 (some d) (fpCallF C lo d args st.hp l).wr) ∧ fpCallF C lo d args st'.hp l = fpCallF C lo d args st.hp l := by
  unfold callF at h ⊢
  split at h
  · simp only [fpCallF] at hrd hw ⊢
    have k := callA_loc h hrd hw
    exact ⟨k.1, by rw [k.2]⟩
  · simp only [fpCallF] at hrd hw ⊢
    have k := callA_loc h hrd hw
    exact ⟨k.1, by rw [k.2]⟩
  · cases h

theorem tightR_none {xs : List X} : tightR lo xs none = none := by
  unfold tightR; split
  · rfl
  · unfold tightV; split
    · rename_i h; cases h
    · rfl
theorem bslice_loc {d : Nat} {e : TypeId} {sz : Nat} {rows : List (List TV)} {is : List Nat} (h : bsliceK lo st d e sz (some (rows, is)) = some st1) (hw : ∀ i ∈ (lo + d) :: is, st'.hp i = st.hp i) :
    bsliceK lo st' d e sz (some (rows, is)) = some (patch st' st1 (some d) ((lo + d) :: is)) := by
  simp only [bsliceK] at h ⊢
  exact mkO_loc (st := st) h (freezeAll_at is (hw _ (by simp))) (fun i hi => freezeAll_at is (hw i (by simp [hi]))) (fun i hi => freezeAll_out is hi)

theorem mks_loc {d : Nat} {e : TypeId} {z : List TV} {bytes : Nat} {l c : LV} (h : mksK lo st d e z bytes l c = some st1) (hw : ∀ i ∈ [lo + d], st'.hp i = st.hp i) :
    mksK lo st' d e z bytes l c = some (patch st' st1 (some d) [lo + d]) := by
  unfold mksK at h ⊢
  split at h
  · split at h
    · rename_i hh
      simp only [hh, and_self, if_true]
      exact mkO_loc (st := st) (wr0 := []) h (hw _ (by simp)) (by simp) (fun _ _ => rfl)
    · cases h
  · cases h

theorem appz_loc {d : Nat} {e : TypeId} {z : List TV} {bytes : Nat} {l c : LV} (h : appzK lo st d e z bytes l c = some st1) (hw : ∀ i ∈ [lo + d], st'.hp i = st.hp i) :
    appzK lo st' d e z bytes l c = some (patch st' st1 (some d) [lo + d]) := by
  unfold appzK at h ⊢
  split at h
  · split at h
    · rename_i hh
      simp only [hh, and_self, if_true]
      exact mkO_loc (st := st) (wr0 := []) h (hw _ (by simp)) (by simp) (fun _ _ => rfl)
    · cases h
  · cases h
theorem mgetL_eq {h h' : Hp} {ks : List Lk} {kag vag cok : Bool} {zs : List TV} {key : Option (List LV)} {l : LV} (hh : ∀ i ∈ fpA l, h' i = h i) : mgetL h' ks kag vag zs cok key l = mgetL h ks kag vag zs cok key l := by
  cases l with
  | m id => cases key <;> simp only [mgetL, hh id (by simp [fpA])]
  | _ => cases key <;> rfl
theorem mlenL_eq {h h' : Hp} {l : LV} (hh : ∀ i ∈ fpA l, h' i = h i) : mlenL h' l = mlenL h l := by
  cases l with
  | m id => simp only [mlenL, hh id (by simp [fpA])]
  | _ => rfl
theorem mupd_loc {ks : List Lk} {kag vag : Bool} {n : Nat} {val : Option (List TV × List Nat)} {key : Option (List LV)} {l : LV} {wr : List Nat} (h : mupdL st ks kag vag n val key l = some st1) (hwr : wr = fpM val l) (hw : ∀ i ∈ wr, st'.hp i = st.hp i) :
    mupdL st' ks kag vag n val key l = some (patch st' st1 none wr) := by
  unfold mupdL at h ⊢
  split at h
  · rename_i key' id
    have hid : id ∈ wr := by rw [hwr]; simp [fpM]
    simp only [hw id hid]
    unfold mupdO at h ⊢
    split at h
    · rename_i kc vc is kag' vag' ents h1 h3
      have his : ∀ i ∈ is, i ∈ wr := fun i hi => by rw [hwr]; simp [fpM, fpS, hi]
      split at h
      · rename_i hh
        simp only [hh, and_self, not_false_eq_true, if_true]
        unfold setMap at h ⊢
        split at h
        · obtain rfl := Option.some.inj h
          exact congrArg some (hp_loc hid his (fun i hi => freezeAll_at _ (hw i hi)) (fun i hi => freezeAll_out _ fun hm => hi (his i hm)) (by simp))
        · cases h
      · cases h
    · cases h
  · cases h
theorem mdel_loc {ks : List Lk} {kag : Bool} {key : Option (List LV)} {l : LV} {wr : List Nat} (h : mdelL st ks kag key l = some st1) (hwr : wr = fpA l) (hw : ∀ i ∈ wr, st'.hp i = st.hp i) :
    mdelL st' ks kag key l = some (patch st' st1 none wr) := by
  unfold mdelL at h ⊢
  split at h
  · rename_i key' id
    have hid : id ∈ wr := by rw [hwr]; simp [fpA]
    simp only [hw id hid]
    unfold mdelO at h ⊢
    split at h
    · split at h
      · rename_i hh
        simp only [hh, and_self, if_true]
        unfold setMap at h ⊢
        split at h
        · obtain rfl := Option.some.inj h
          exact congrArg some (hp_loc hid (wr0 := []) (by simp) hw (fun _ _ => rfl) (by simp))
        · cases h
      · cases h
    · cases h
  · cases h
theorem solidO_eq {h h' : Hp} {x : Option (List LV)} {ts : List TV} {is : List Nat} (he : solidO h x = some (ts, is)) (hh : ∀ i ∈ is, h' i = h i) : solidO h' x = some (ts, is) := by
  cases x with
  | none => cases he
  | some ls => exact solidCells_eq he hh

theorem loc_op {o : IOp} (hi : o.inn = false) (h : evOp C lo st o = some st1) (he : ∀ i ∈ o.reads, st'.env i = st.env i) (hrd : ∀ i ∈ (fpOp C lo st o).rd, st'.hp i = st.hp i) (hw : ∀ i ∈ (fpOp C lo st o).wr, st'.hp i = st.hp i) :
    evOp C lo st' o = some (patch st' st1 o.dst (fpOp C lo st o).wr) ∧ fpOp C lo st' o = fpOp C lo st o := by
  have r1 : ∀ {x : X}, (∀ i ∈ x.rs, i ∈ o.reads) → x.rd st'.env = x.rd st.env := fun hx => rd_eq fun i hi => he i (hx i hi)
  have r2 : ∀ {xs : List X}, (∀ i ∈ xrs xs, i ∈ o.reads) → rds st'.env xs = rds st.env xs := fun hx => rds_eq fun i hi => he i (hx i hi)
  cases o with
  | icall d f args => cases hi
  | mv d x =>
    simp only [evOp, Option.some.injEq] at h ⊢
    subst h
    rw [r1 (x := x) fun i hi => hi]
    exact ⟨set_loc hw, rfl⟩
  | pick d c a b =>
    simp only [evOp] at h ⊢
    rw [r1 (x := c) (by simp +contextual [IOp.reads]), r1 (x := a) (by simp +contextual [IOp.reads]), r1 (x := b) (by simp +contextual [IOp.reads])]
    exact ⟨pick_loc h hw, rfl⟩
  | alloc d zs =>
    exact ⟨mkO_loc (st := st) (wr0 := []) h (hw _ (by simp [fpOp])) (by simp) (fun _ _ => rfl), rfl⟩
  | box d x n =>
    simp only [evOp] at h ⊢
    rw [r1 (x := x) fun i hi => hi]
    refine ⟨?_, rfl⟩
    unfold boxK at h ⊢
    split at h
    · rename_i hh
      simp only [hh, if_true]
      exact mkO_loc (st := st) (wr0 := []) h (hw _ (by simp [fpOp])) (by simp) (fun _ _ => rfl)
    · cases h
  | build d zs ps =>
    simp only [evOp] at h ⊢
    exact ⟨setM_loc h (buildCells_eq he) hw, rfl⟩
  | bslice d e sz ps =>
    simp only [evOp, fpOp] at h hrd hw ⊢
    cases hs : solidRows st.hp st.env sz ps with
    | none =>
      rw [hs] at h
      rw [tightR_none] at h; cases h
    | some q =>
      obtain ⟨rows, is⟩ := q
      rw [hs] at h hrd hw
      rw [solidRows_eq hs he hrd]
      obtain ⟨rows', k1, _⟩ := tightR_some (lo := lo) (xs := ps) (rows := rows) (is := is)
      rw [k1] at h ⊢
      exact ⟨bslice_loc h hw, rfl⟩
  | load d a n ag =>
    simp only [evOp, fpOp] at h hrd hw ⊢
    rw [r1 (x := a) fun i hi => hi]
    exact ⟨setM_loc h (loadL_eq hrd) hw, rfl⟩
  | store a x n =>
    simp only [evOp, fpOp] at h hrd hw ⊢
    rw [r1 (x := a) (by simp +contextual [IOp.reads]), r1 (x := x) (by simp +contextual [IOp.reads])]
    have k := storeQ_loc h rfl hw
    exact ⟨k.1, by rw [k.2]⟩
  | nchk d x =>
    simp only [evOp] at h ⊢
    exact ⟨setM_loc h (by rw [r1 (x := x) fun i hi => hi]) hw, rfl⟩
  | bin d bt op x y =>
    simp only [evOp] at h ⊢
    exact ⟨setV_loc h (by rw [r1 (x := x) (by simp +contextual [IOp.reads]), r1 (x := y) (by simp +contextual [IOp.reads])]) hw, rfl⟩
  | eqs d neg ks x y =>
    simp only [evOp] at h ⊢
    exact ⟨setV_loc h (by rw [r1 (x := x) (by simp +contextual [IOp.reads]), r1 (x := y) (by simp +contextual [IOp.reads])]) hw, rfl⟩
  | un d op x =>
    simp only [evOp] at h ⊢
    exact ⟨setV_loc h (by rw [r1 (x := x) fun i hi => hi]) hw, rfl⟩
  | conv d k x =>
    simp only [evOp] at h ⊢
    exact ⟨setV_loc h (by rw [r1 (x := x) fun i hi => hi]) hw, rfl⟩
  | fld d x off n ag =>
    simp only [evOp] at h ⊢
    exact ⟨setM_loc h (by rw [r1 (x := x) fun i hi => hi]) hw, rfl⟩
  | faddr d a off =>
    simp only [evOp] at h ⊢
    exact ⟨setM_loc h (by rw [r1 (x := a) fun i hi => hi]) hw, rfl⟩
  | iaddr d x j sz =>
    simp only [evOp, fpOp] at h hrd hw ⊢
    rw [r1 (x := x) (by simp +contextual [IOp.reads])]
    exact ⟨setM_loc h (by rw [r1 (x := j) (by simp +contextual [IOp.reads])]; exact iaddrL_eq hrd) hw, rfl⟩
  | aaddr d x j len sz =>
    simp only [evOp] at h ⊢
    exact ⟨setM_loc h (by rw [r1 (x := x) (by simp +contextual [IOp.reads]), r1 (x := j) (by simp +contextual [IOp.reads])]) hw, rfl⟩
  | ixa d x j len sz ag =>
    simp only [evOp] at h ⊢
    exact ⟨setM_loc h (by rw [r1 (x := x) (by simp +contextual [IOp.reads]), r1 (x := j) (by simp +contextual [IOp.reads])]) hw, rfl⟩
  | ixs d x j =>
    simp only [evOp] at h ⊢
    exact ⟨setM_loc h (by rw [r1 (x := x) (by simp +contextual [IOp.reads]), r1 (x := j) (by simp +contextual [IOp.reads])]) hw, rfl⟩
  | slice d x l u m te sz =>
    simp only [evOp, fpOp] at h hrd hw ⊢
    rw [r1 (x := x) (by simp +contextual [IOp.reads])]
    exact ⟨setM_loc h (sliceL_eq (fun i hi => he i (by simp [IOp.reads, hi])) (fun i hi => he i (by simp [IOp.reads, hi])) (fun i hi => he i (by simp [IOp.reads, hi])) hrd) hw, rfl⟩
  | len d z x =>
    simp only [evOp] at h ⊢
    exact ⟨setV_loc h (by rw [r1 (x := x) fun i hi => hi]) hw, rfl⟩
  | cap d x =>
    simp only [evOp] at h ⊢
    exact ⟨setV_loc h (by rw [r1 (x := x) fun i hi => hi]) hw, rfl⟩
  | append d x y e sz bytes =>
    simp only [evOp, fpOp] at h hrd hw ⊢
    rw [r1 (x := x) (by simp +contextual [IOp.reads]), r1 (x := y) (by simp +contextual [IOp.reads])]
    exact ⟨app_loc h (rowsOf_eq fun i hi => hrd i (by simp [hi])) rfl hw, rfl⟩
  | copy d x y sz =>
    simp only [evOp, fpOp] at h hrd hw ⊢
    rw [r1 (x := x) (by simp +contextual [IOp.reads]), r1 (x := y) (by simp +contextual [IOp.reads])]
    exact ⟨copy_loc h (rowsOf_eq fun i hi => hrd i (by simp [hi])) rfl hw, rfl⟩
  | b2s d x =>
    simp only [evOp, fpOp] at h hrd hw ⊢
    rw [r1 (x := x) fun i hi => hi]
    exact ⟨setV_loc h (by rw [rowsB_eq hrd]) hw, rfl⟩
  | ext d x j =>
    simp only [evOp] at h ⊢
    exact ⟨setM_loc h (by rw [r1 (x := x) fun i hi => hi]) hw, rfl⟩
  | mkfn d f cs =>
    simp only [evOp, Option.some.injEq] at h ⊢
    subst h
    rw [r2 (xs := cs) fun i hi => hi]
    exact ⟨set_loc hw, rfl⟩
  | call d f args =>
    simp only [evOp, fpOp] at h hrd hw ⊢
    rw [r1 (x := f) (by simp +contextual [IOp.reads]), r2 (xs := args) (by simp +contextual [IOp.reads])]
    exact callF_loc h hrd hw
  | mn d args =>
    simp only [evOp] at h ⊢
    exact ⟨setM_loc h (by rw [r2 (xs := args) fun i hi => hi]) hw, rfl⟩
  | mx d args =>
    simp only [evOp] at h ⊢
    exact ⟨setM_loc h (by rw [r2 (xs := args) fun i hi => hi]) hw, rfl⟩
  | mkslice d l c e z bytes =>
    simp only [evOp, fpOp] at h hrd hw ⊢
    rw [r1 (x := l) (by simp +contextual [IOp.reads]), r1 (x := c) (by simp +contextual [IOp.reads])]
    exact ⟨mks_loc h hw, trivial⟩
  | isnil d neg ptr x =>
    simp only [evOp] at h ⊢
    exact ⟨setV_loc h (by rw [r1 (x := x) fun i hi => hi]) hw, rfl⟩
  | appz d x n e z bytes =>
    simp only [evOp, fpOp] at h hrd hw ⊢
    rw [r1 (x := x) (by simp +contextual [IOp.reads]), r1 (x := n) (by simp +contextual [IOp.reads])]
    exact ⟨appz_loc h hw, trivial⟩
  | mkmap d kag vag =>
    exact ⟨mkO_loc (st := st) (wr0 := []) h (hw _ (by simp [fpOp])) (by simp) (fun _ _ => rfl), rfl⟩
  | mget d ks kag vag zs cok m k =>
    simp only [evOp, fpOp] at h hrd hw ⊢
    rw [r1 (x := m) (by simp +contextual [IOp.reads]), r1 (x := k) (by simp +contextual [IOp.reads])]
    exact ⟨setM_loc h (mgetL_eq hrd) hw, rfl⟩
  | mupd ks kag vag n m k v =>
    simp only [evOp, fpOp] at h hrd hw ⊢
    rw [r1 (x := m) (by simp +contextual [IOp.reads]), r1 (x := k) (by simp +contextual [IOp.reads]), r1 (x := v) (by simp +contextual [IOp.reads])]
    cases hs : solidO st.hp (oneOf vag (v.rd st.env)) with
    | none =>
      rw [hs] at h
      unfold mupdL at h
      split at h
      · unfold mupdO at h
        split at h
        · cases ‹(none : Option (List TV × List Nat)) = some _›
        · cases h
      · cases h
    | some q =>
      obtain ⟨vc, is⟩ := q
      rw [hs] at h hw
      have hm : ∃ id, m.rd st.env = .m id := by
        unfold mupdL at h
        split at h
        · exact ⟨_, by assumption⟩
        · cases h
      obtain ⟨id, hid⟩ := hm
      have his : ∀ i ∈ is, st'.hp i = st.hp i := fun i hi => hw i (by rw [hid]; simp [fpM, fpS, hi])
      rw [solidO_eq hs his]
      exact ⟨mupd_loc h rfl hw, rfl⟩
  | mdel ks kag m k =>
    simp only [evOp, fpOp] at h hrd hw ⊢
    rw [r1 (x := m) (by simp +contextual [IOp.reads]), r1 (x := k) (by simp +contextual [IOp.reads])]
    exact ⟨mdel_loc h rfl hw, rfl⟩
  | mlen d m =>
    simp only [evOp, fpOp] at h hrd hw ⊢
    rw [r1 (x := m) fun i hi => hi]
    exact ⟨setV_loc h (by rw [mlenL_eq hrd]) hw, rfl⟩
  | bad => cases h
end
end Go.Proofs.Ytonhkmpjpnjkfaa.Sx
namespace Go.Proofs.Ytonhkmpjpnjkfaa.Sx
open Go Go.RowKit

section
variable {C : Cs} {lo : Nat} {st st' st1 : St}

theorem loc_oper {o : IOper} (hi : o.op.inn = false) (h : evOper C lo st o = some st1) (he : ∀ i ∈ o.reads, st'.env i = st.env i) (hrd : ∀ i ∈ (fpOper C lo st o).rd, st'.hp i = st.hp i) (hw : ∀ i ∈ (fpOper C lo st o).wr, st'.hp i = st.hp i) :
    evOper C lo st' o = some (patch st' st1 o.op.dst (fpOper C lo st o).wr) ∧ fpOper C lo st' o = fpOper C lo st o := by
  have hskip : ∀ {d : Option Nat}, skipK st d = some st1 → skipK st' d = some (patch st' st1 d []) := fun {d} h => by
    cases d with
    | none =>
      obtain rfl := Option.some.inj h
      refine congrArg some (St.ext' (fun i => ?_) fun i => ?_)
      · simp [patch]
      · simp [patch, patchH]
    | some d =>
      obtain rfl := Option.some.inj h
      exact congrArg some (set_loc (by simp))
  obtain ⟨op, gd⟩ := o
  cases gd with
  | none => exact loc_op hi h he hrd hw
  | some gd =>
    obtain ⟨j, want⟩ := gd
    simp only [evOper, fpOper] at h hrd hw ⊢
    rw [he j (by simp [IOper.reads])]
    have he' : ∀ i ∈ op.reads, st'.env i = st.env i := fun i hi => he i (by simp [IOper.reads, hi])
    unfold guardK at h ⊢
    split at h
    · rename_i b hb
      rw [hb] at hrd hw ⊢
      simp only [fpG] at hrd hw ⊢
      split at h
      · rename_i e
        simp only [e, if_true] at hrd hw ⊢
        exact loc_op hi h he' hrd hw
      · rename_i e
        simp only [e, if_false] at hrd hw ⊢
        exact ⟨hskip h, trivial⟩
    · rename_i hb
      rw [hb] at hrd hw ⊢
      exact ⟨hskip h, rfl⟩
    · cases h

theorem meets_false : ∀ {a b : List Nat}, meets a b = false → ∀ i ∈ a, i ∉ b
  | [], _, _, i, hi => by simp at hi
  | x :: a, b, h, i, hi => by
    simp only [meets, Bool.or_eq_false_iff] at h
    rcases List.mem_cons.1 hi with rfl | hi
    · simpa using h.1
    · exact meets_false h.2 i hi
theorem apart_ok {a b : Fp} (h : apart a b = true) : (∀ i ∈ a.wr, i ∉ b.rd) ∧ (∀ i ∈ a.wr, i ∉ b.wr) ∧ (∀ i ∈ b.wr, i ∉ a.rd) := by
  simp only [apart, Bool.and_eq_true, Bool.not_eq_true'] at h
  exact ⟨meets_false h.1.1, meets_false h.1.2, meets_false h.2⟩
theorem free2_ok {a b : IOper} (h : free2 a b = true) {d : Nat} (hd : a.op.dst = some d) : d ∉ b.reads ∧ b.op.dst ≠ some d := by
  unfold free2 at h
  rw [hd] at h
  simp only [Bool.and_eq_true, Bool.not_eq_true', bne_iff_ne] at h
  exact ⟨by simpa using h.2.1, h.2.2⟩
theorem free2_inn {a b : IOper} (h : free2 a b = true) : a.op.inn = false := by
  unfold free2 at h
  simp only [Bool.and_eq_true, Bool.not_eq_true'] at h
  exact h.1

theorem swap {p q : IOper} {s1 s2 : St} (hp : evOper C lo st p = some s1) (hq : evOper C lo s1 q = some s2) (ha : apart (fpOper C lo st p) (fpOper C lo s1 q) = true) (h1 : free2 p q = true) (h2 : free2 q p = true) :
    ∃ t1, evOper C lo st q = some t1 ∧ fpOper C lo st q = fpOper C lo s1 q ∧ evOper C lo t1 p = some s2 ∧ fpOper C lo t1 p = fpOper C lo st p := by
  obtain ⟨a1, a2, a3⟩ := apart_ok ha
  have hpp := (loc_oper (st' := st) (free2_inn h1) hp (fun _ _ => rfl) (fun _ _ => rfl) (fun _ _ => rfl)).1
  have es1 : s1 = patch st s1 p.op.dst (fpOper C lo st p).wr := Option.some.inj (hp.symm.trans hpp)
  have s1e : ∀ i, p.op.dst ≠ some i → s1.env i = st.env i := fun i hi => by rw [es1]; simp [patch, hi]
  have s1h : ∀ i, i ∉ (fpOper C lo st p).wr → s1.hp i = st.hp i := fun i hi => by rw [es1]; simp [patch, patchH, hi]
  obtain ⟨b1, b2⟩ := loc_oper (st' := st) (free2_inn h2) hq (fun i hi => (s1e i fun e => (free2_ok h1 e).1 hi).symm) (fun i hi => (s1h i fun hm => a1 i hm hi).symm) (fun i hi => (s1h i fun hm => a2 i hm hi).symm)
  have hqq := (loc_oper (st' := s1) (free2_inn h2) hq (fun _ _ => rfl) (fun _ _ => rfl) (fun _ _ => rfl)).1
  have es2 : s2 = patch s1 s2 q.op.dst (fpOper C lo s1 q).wr := Option.some.inj (hq.symm.trans hqq)
  obtain ⟨c1, c2⟩ := loc_oper (st' := patch st s2 q.op.dst (fpOper C lo s1 q).wr) (free2_inn h1) hp (fun i hi => by
    show (if q.op.dst = some i then s2.env i else st.env i) = st.env i
    rw [if_neg fun e => (free2_ok h2 e).1 hi]) (fun i hi => by
    show patchH st.hp s2.hp _ i = st.hp i
    simp only [patchH]
    rw [if_neg fun e => a3 i e hi]) (fun i hi => by
    show patchH st.hp s2.hp _ i = st.hp i
    simp only [patchH]
    rw [if_neg fun e => a2 i hi e])
  refine ⟨_, b1, b2, ?_, c2⟩
  rw [c1]
  refine congrArg some (St.ext' (fun i => ?_) fun i => ?_)
  · have e2 : s2.env i = if q.op.dst = some i then s2.env i else s1.env i := congrFun (congrArg St.env es2) i
    show (if p.op.dst = some i then s1.env i else if q.op.dst = some i then s2.env i else st.env i) = s2.env i
    by_cases hd : p.op.dst = some i
    · rw [if_pos hd, e2, if_neg (free2_ok h1 hd).2]
    · rw [if_neg hd]
      split
      · rfl
      · rename_i hq'
        rw [e2, if_neg hq', s1e i hd]
  · have e2 : s2.hp i = if i ∈ (fpOper C lo s1 q).wr then s2.hp i else s1.hp i := congrFun (congrArg St.hp es2) i
    show (if i ∈ (fpOper C lo st p).wr then s1.hp i else if i ∈ (fpOper C lo s1 q).wr then s2.hp i else st.hp i) = s2.hp i
    by_cases hd : i ∈ (fpOper C lo st p).wr
    · rw [if_pos hd, e2, if_neg (a2 i hd)]
    · rw [if_neg hd]
      split
      · rfl
      · rename_i hq'
        rw [e2, if_neg hq', s1h i hd]

structure Item where
  k : Nat
  o : IOper
  f : Fp
def Runs (C : Cs) (lo : Nat) : List Item → St → St → Prop
  | [], st, st' => st = st'
  | x :: r, st, st' => ∃ s1, evOper C lo st x.o = some s1 ∧ fpOper C lo st x.o = x.f ∧ Runs C lo r s1 st'
/-- x stands ahead of y: y waits for x, or they are apart -/
def Ind (ord : List Nat) (x y : Item) : Prop := (ord.getD y.k 0).testBit x.k = true ∨ (apart x.f y.f = true ∧ free2 x.o y.o = true ∧ free2 y.o x.o = true)

theorem bubble {x : Item} {post : List Item} : ∀ {pre : List Item} {st st' : St}, Runs C lo (pre ++ x :: post) st st' → (∀ y ∈ pre, apart y.f x.f = true ∧ free2 y.o x.o = true ∧ free2 x.o y.o = true) → Runs C lo (x :: (pre ++ post)) st st'
  | [], st, st', h, _ => h
  | y :: pre, st, st', h, ha => by
    obtain ⟨s1, h1, h2, h3⟩ := h
    obtain ⟨s2, g1, g2, g3⟩ := bubble h3 fun z hz => ha z (by simp [hz])
    obtain ⟨k1, k2, k3⟩ := ha y (by simp)
    obtain ⟨t1, e1, e2, e3, e4⟩ := swap h1 g1 (by rw [h2, g2]; exact k1) k2 k3
    exact ⟨t1, e1, e2.trans g2, s2, e3, e4.trans h2, g3⟩

def SchedOk (ord : List Nat) : List Nat → List Item → Prop
  | [], M => M = []
  | i :: s, M => ∃ pre x post, M = pre ++ x :: post ∧ x.k = i ∧ (∀ y ∈ pre, (ord.getD i 0).testBit y.k = false) ∧ SchedOk ord s (pre ++ post)

theorem sched_idx {ord : List Nat} {ios : List IOper} : ∀ {s : List Nat} {M : List Item} {st st' : St}, SchedOk ord s M → Runs C lo M st st' → M.Pairwise (Ind ord) → (∀ x ∈ M, ios[x.k]? = some x.o) → evIdx C lo ios s st = some st'
  | [], M, st, st', hs, hr, _, _ => by
    have e : M = [] := hs
    subst e
    have e : st = st' := hr
    rw [e]; rfl
  | i :: s, M, st, st', hs, hr, hp, hi => by
    obtain ⟨pre, x, post, rfl, rfl, h1, h2⟩ := hs
    have hind : ∀ y ∈ pre, Ind ord y x := fun y hy => (List.pairwise_append.1 hp).2.2 y hy x (by simp)
    obtain ⟨s1, g1, _, g3⟩ := bubble hr fun y hy => by
      rcases hind y hy with h | h
      · rw [h1 y hy] at h; cases h
      · exact h
    simp only [evIdx, hi x (by simp), g1]
    refine sched_idx h2 g3 ?_ fun y hy => hi y (by rcases List.mem_append.1 hy with h | h <;> simp [h])
    have hsub : (pre ++ post).Sublist (pre ++ x :: post) := List.Sublist.append (List.Sublist.refl _) (List.sublist_cons_self _ _)
    exact hp.sublist hsub

theorem apartAll_ok {f : Fp} {o : Nat} : ∀ {fs : List (Nat × Fp)}, apartAll f o fs = true → ∀ x ∈ fs, o.testBit x.1 = true ∨ apart x.2 f = true
  | [], _, x, hx => by simp at hx
  | (i, g) :: fs, h, x, hx => by
    simp only [apartAll, Bool.and_eq_true, Bool.or_eq_true] at h
    rcases List.mem_cons.1 hx with rfl | hx
    · exact h.1
    · exact apartAll_ok h.2 x hx
def Fp.none (f : Fp) : Prop := f.rd = [] ∧ f.wr = []
theorem meets_nil : ∀ a : List Nat, meets a [] = false
  | [] => rfl
  | x :: a => by simp [meets, meets_nil a]
theorem apart_left {f g : Fp} (h : f.none) : apart f g = true := by
  obtain ⟨a, b⟩ := f
  obtain ⟨h1, h2⟩ := h
  simp only at h1 h2
  subst h1 h2
  simp [apart, meets, meets_nil]
theorem apart_right {f g : Fp} (h : g.none) : apart f g = true := by
  obtain ⟨a, b⟩ := g
  obtain ⟨h1, h2⟩ := h
  simp only at h1 h2
  subst h1 h2
  simp [apart, meets, meets_nil]
/-- what is known behind a step -/
theorem stepD_ok {fs : List (Nat × Fp)} {i n : Nat} {k : List (Nat × Fp) → Option St → Option St} {x : Option St} {f : Fp} {r : St} (h : stepD fs i n k x f = some r) :
    ∃ fs', k fs' x = some r ∧ (f.none ∨ (i, f) ∈ fs') ∧ (∀ y ∈ fs, y ∈ fs') ∧ ∀ y ∈ fs, n.testBit y.1 = true ∨ apart y.2 f = true := by
  obtain ⟨a, b⟩ := f
  cases a with
  | nil => cases b with
    | nil => exact ⟨fs, h, .inl ⟨rfl, rfl⟩, fun _ h => h, fun y _ => .inr (apart_right ⟨rfl, rfl⟩)⟩
    | cons b w =>
      simp only [stepD, stepE] at h
      split at h
      · rename_i hh
        exact ⟨_, h, .inr (by simp), fun _ h => by simp [h], fun y hy => apartAll_ok hh y hy⟩
      · cases h
  | cons a r' =>
    simp only [stepD, stepE] at h
    split at h
    · rename_i hh
      exact ⟨_, h, .inr (by simp), fun _ h => by simp [h], fun y hy => apartAll_ok hh y hy⟩
    · cases h
theorem freeAll_ok {s : Nat} {o : IOper} : ∀ {ps : List IOper} {i : Nat}, freeAll s o i ps = true → ∀ j p, ps[j]? = some p → s.testBit (i + j) = true ∨ (free2 p o = true ∧ free2 o p = true)
  | [], _, _, j, g, hj => by simp at hj
  | x :: ps, i, h, 0, p, hj => by
    simp only [freeAll, Bool.and_eq_true, Bool.or_eq_true] at h
    simp only [List.getElem?_cons_zero, Option.some.injEq] at hj
    subst hj
    exact h.1
  | x :: ps, i, h, j + 1, p, hj => by
    simp only [freeAll, Bool.and_eq_true] at h
    have := freeAll_ok h.2 j p (by simpa using hj)
    rwa [show i + (j + 1) = i + 1 + j by omega]

theorem draw_runs {ord : List Nat} : ∀ {ios : List IOper} {os : List Oper} {k : Nat} {L : List Item} {fs : List (Nat × Fp)} {st st' : St}, evOpsD C lo ios (ord.drop k) k fs (some st) = some st' → drawOk ord k (L.map (·.o)) os ios = true →
    (∀ (i : Nat) (x : Item), L[i]? = some x → x.k = i) → L.length = k → (∀ x ∈ L, x.f.none ∨ (x.k, x.f) ∈ fs) →
    ∃ M : List Item, M.map (·.o) = ios ∧ (∀ (i : Nat) (x : Item), M[i]? = some x → x.k = k + i) ∧ Runs C lo M st st' ∧ (∀ x ∈ L, ∀ y ∈ M, Ind ord x y) ∧ M.Pairwise (Ind ord)
  | [], os, k, L, fs, st, st', h, hd, hL, hk, hfs => by
    have e : st = st' := Option.some.inj h
    exact ⟨[], rfl, by simp, e, by simp, List.Pairwise.nil⟩
  | o :: ios, [], k, L, fs, st, st', h, hd, hL, hk, hfs => by simp [drawOk] at hd
  | o :: ios, oo :: os, k, L, fs, st, st', h, hd, hL, hk, hfs => by
    cases hord : ord.drop k with
    | nil => rw [hord] at h; cases h
    | cons n rest =>
      have hn : ord.getD k 0 = n := by
        have : (ord.drop k)[0]? = some n := by rw [hord]; rfl
        rw [List.getElem?_drop] at this
        rw [List.getD_eq_getElem?_getD, show k = k + 0 by omega, this]; rfl
      have hrest : rest = ord.drop (k + 1) := by
        have : (ord.drop k).tail = rest := by rw [hord]; rfl
        rw [← this, List.tail_drop]
      rw [hord] at h
      simp only [evOpsD] at h
      obtain ⟨fs', h, hf1, hf2, hf3⟩ := stepD_ok h
      simp only [drawOk, Bool.and_eq_true] at hd
      obtain ⟨⟨_, hfree⟩, hd'⟩ := hd
      cases h1 : evOper C lo st o with
      | none => rw [h1] at h; cases ios <;> cases rest <;> cases h
      | some s1 =>
        rw [h1] at h
        rw [hrest] at h
        have hind : ∀ x ∈ L, Ind ord x ⟨k, o, fpOper C lo st o⟩ := fun x hx => by
          obtain ⟨j, hj⟩ := List.getElem?_of_mem hx
          have e := hL j x hj
          have hap : (ord.getD k 0).testBit x.k = true ∨ apart x.f (fpOper C lo st o) = true := by
            rcases hfs x hx with hz | hz
            · exact .inr (apart_left hz)
            · rw [hn]; exact hf3 _ hz
          rcases hap with h | h
          · exact .inl h
          · rcases freeAll_ok hfree j x.o (by simp [hj]) with h' | h'
            · left; simpa [e] using h'
            · exact .inr ⟨h, h'.1, h'.2⟩
        obtain ⟨M, m1, m2, m3, m4, m5⟩ := draw_runs (L := L ++ [⟨k, o, fpOper C lo st o⟩]) h (by simpa using hd') (fun i x hi => by
          by_cases hlt : i < L.length
          · rw [List.getElem?_append_left hlt] at hi; exact hL i x hi
          · rw [List.getElem?_append_right (by omega)] at hi
            have : i - L.length = 0 := by
              have := (List.getElem?_eq_some_iff.1 hi).1
              simp at this; omega
            rw [this] at hi
            simp only [List.getElem?_cons_zero, Option.some.injEq] at hi
            rw [← hi]
            show k = i
            omega) (by simp [hk]) (fun x hx => by
          rcases List.mem_append.1 hx with hx | hx
          · exact (hfs x hx).imp id (hf2 _)
          · simp only [List.mem_singleton] at hx
            subst hx
            exact hf1)
        refine ⟨⟨k, o, fpOper C lo st o⟩ :: M, by simp [m1], ?_, ⟨s1, h1, rfl, m3⟩, ?_, ?_⟩
        · intro i x hi
          cases i with
          | zero => simp only [List.getElem?_cons_zero, Option.some.injEq] at hi; rw [← hi]; rfl
          | succ i => rw [m2 i x (by simpa using hi)]; omega
        · intro x hx y hy
          rcases List.mem_cons.1 hy with rfl | hy
          · exact hind x hx
          · exact m4 x (by simp [hx]) y hy
        · exact List.Pairwise.cons (fun y hy => m4 _ (by simp) y hy) m5
end
end Go.Proofs.Ytonhkmpjpnjkfaa.Sx
namespace Go.Proofs.Ytonhkmpjpnjkfaa.Sx
open Go Go.RowKit

theorem bitsOk_ok {ws ord : List Nat} {s : Nat} : ∀ {n : Nat}, bitsOk ws ord s n = true → ∀ j < n, s.testBit j = true → j ∈ ws ∨ ∃ e ∈ ws, (ord.getD e 0).testBit j = true
  | 0, _, j, hj, _ => by omega
  | n + 1, h, j, hj, hb => by
    simp only [bitsOk, Bool.and_eq_true] at h
    by_cases e : j = n
    · subst e
      have h1 := h.1
      simp only [hb, Bool.not_true, Bool.false_or, Bool.or_eq_true] at h1
      rcases h1 with h1 | h1
      · exact .inl (by simpa using h1)
      · exact .inr (by simpa using h1)
    · exact bitsOk_ok h.2 j (by omega) hb

theorem drawOk_get {ord : List Nat} : ∀ {os : List Oper} {ios ahead : List IOper} {k : Nat}, drawOk ord k ahead os ios = true → os.length = ios.length ∧ ∀ (j : Nat) (o : Oper), os[j]? = some o →
    (∀ e ∈ waits o, e < k + j) ∧ ord.getD (k + j) 0 < 2 ^ (k + j) ∧ bitsOk (waits o) ord (ord.getD (k + j) 0) (k + j) = true
  | [], [], _, _, _ => ⟨rfl, by simp⟩
  | [], _ :: _, _, _, h => by simp [drawOk] at h
  | _ :: _, [], _, _, h => by simp [drawOk] at h
  | o :: os, i :: ios, ahead, k, h => by
    simp only [drawOk, Bool.and_eq_true] at h
    obtain ⟨⟨⟨⟨h1, h1'⟩, h2⟩, _⟩, h4⟩ := h
    obtain ⟨e, ih⟩ := drawOk_get h4
    refine ⟨by simp [e], fun j p hj => ?_⟩
    cases j with
    | zero =>
      simp only [List.getElem?_cons_zero, Option.some.injEq] at hj
      subst hj
      exact ⟨by simpa using h1, by simpa using h1', h2⟩
    | succ j =>
      have := ih j p (by simpa using hj)
      rwa [show k + 1 + j = k + (j + 1) by omega] at this

theorem testBit_lt {s k i : Nat} (h : s < 2 ^ k) (hb : s.testBit i = true) : i < k := by
  rcases Nat.lt_or_ge i k with h' | h'
  · exact h'
  · have : s < 2 ^ i := Nat.lt_of_lt_of_le h (Nat.pow_le_pow_right (by omega) h')
    rw [Nat.testBit_lt_two_pow this] at hb
    cases hb

theorem getD_set (xs : Array Bool) (i j : Nat) (b : Bool) (hi : i < xs.size) : (xs.setIfInBounds i true).getD j b = if j = i then true else xs.getD j b := by
  simp only [Array.getD_eq_getD_getElem?, Array.getElem?_setIfInBounds]
  by_cases h : i = j
  · subst h; simp [hi]
  · rw [if_neg h, if_neg fun e => h e.symm]

theorem waits_mem {o : Oper} {listed : Array Bool} : (o.after.all fun e => !Region.binds .any e || listed.getD e.on false) = true ↔ ∀ j ∈ waits o, listed.getD j false = true := by
  simp only [waits, List.mem_map, List.mem_filter, Array.all_eq_true', Bool.or_eq_true, Bool.not_eq_true', forall_exists_index, and_imp]
  constructor
  · intro h j e he hb hj
    rcases h e (by simpa using he) with h | h
    · rw [h] at hb; cases hb
    · rw [← hj]; exact h
  · intro h e he
    cases hb : Region.binds .any e with
    | false => exact .inl rfl
    | true => exact .inr (h e.on e (by simpa using he) hb rfl)

theorem go_ok {ops : Array Oper} {ord : List Nat} (hw : ∀ (j : Nat) (o : Oper), ops[j]? = some o → (∀ e ∈ waits o, e < j) ∧ ord.getD j 0 < 2 ^ j ∧ bitsOk (waits o) ord (ord.getD j 0) j = true) :
    ∀ (fuel t : Nat) (listed : Array Bool) (acc : List Nat) (M : List Item), listed.size = ops.size → (∀ j, (∃ x ∈ M, x.k = j) ↔ (j < ops.size ∧ listed.getD j true = false)) → M.Pairwise (fun x y => x.k < y.k) →
      (∀ j < ops.size, listed.getD j true = true → ∀ i, (ord.getD j 0).testBit i = true → listed.getD i true = true) → M.length ≤ fuel →
      ∃ s, Region.linearise.go .any ops fuel t listed acc = acc.reverse ++ s ∧ SchedOk ord s M
  | 0, t, listed, acc, M, _, _, _, _, hf => by
    have e : M = [] := List.eq_nil_of_length_eq_zero (by omega)
    subst e
    exact ⟨[], by simp [Region.linearise.go], rfl⟩
  | fuel + 1, t, listed, acc, M, hsz, hM, hp, hcl, hf => by
    simp only [Region.linearise.go]
    have hgd : ∀ j, j < ops.size → listed.getD j false = listed.getD j true := fun j hj => by
      simp [Array.getD_eq_getD_getElem?, hsz, hj]
    generalize hrs : ((List.range ops.size).filter fun i => !listed.getD i true && ((ops[i]?).map (·.after.all fun e => !Region.binds .any e || listed.getD e.on false)).getD false) = rs
    have hmem : ∀ i, i ∈ rs ↔ i < ops.size ∧ listed.getD i true = false ∧ ∃ o, ops[i]? = some o ∧ ∀ j ∈ waits o, listed.getD j false = true := by
      intro i
      rw [← hrs]
      simp only [List.mem_filter, List.mem_range, Bool.and_eq_true, Bool.not_eq_true']
      constructor
      · rintro ⟨h1, h2, h3⟩
        refine ⟨h1, h2, ops[i], by simp [h1], ?_⟩
        rw [show ops[i]? = some ops[i] by simp [h1]] at h3
        simpa using waits_mem.1 (by simpa using h3)
      · rintro ⟨h1, h2, o, h3, h4⟩
        refine ⟨h1, h2, ?_⟩
        rw [h3]
        simpa using waits_mem.2 h4
    cases M with
    | nil =>
      have : rs = [] := List.eq_nil_iff_forall_not_mem.2 fun i hi => by
        obtain ⟨h1, h2, _⟩ := (hmem i).1 hi
        obtain ⟨x, hx, _⟩ := (hM i).2 ⟨h1, h2⟩
        simp at hx
      rw [this]
      exact ⟨[], by simp, rfl⟩
    | cons x0 M' =>
      have hx0 := (hM x0.k).1 ⟨x0, by simp, rfl⟩
      have hmin : ∀ j < x0.k, listed.getD j true = true := fun j hj => by
        cases hl : listed.getD j true with
        | true => rfl
        | false =>
          obtain ⟨y, hy, e⟩ := (hM j).2 ⟨by omega, hl⟩
          rcases List.mem_cons.1 hy with rfl | hy
          · omega
          · have := (List.pairwise_cons.1 hp).1 y hy
            omega
      have hin : x0.k ∈ rs := (hmem _).2 ⟨hx0.1, hx0.2, ops[x0.k]'hx0.1, by simp [hx0.1], fun j hj => by
        have hlt := (hw x0.k _ (by simp [hx0.1])).1 j hj
        rw [hgd j (by omega)]
        exact hmin j hlt⟩
      have hpos : 0 < rs.length := List.length_pos_of_mem hin
      have hlt := Nat.mod_lt t hpos
      obtain ⟨i, hi⟩ : ∃ i, rs[t % rs.length]? = some i := ⟨_, List.getElem?_eq_getElem hlt⟩
      rw [hi]
      simp only
      obtain ⟨hi1, hi2, o, ho, hi3⟩ := (hmem i).1 (List.mem_of_getElem? hi)
      obtain ⟨x, hx, hxk⟩ := (hM i).2 ⟨hi1, hi2⟩
      obtain ⟨pre, post, hsp⟩ := List.append_of_mem hx
      obtain ⟨hwo, hwlt, hwb⟩ := hw i o ho
      have hbits : ∀ b, (ord.getD i 0).testBit b = true → listed.getD b true = true := fun b hb => by
        have hbl := testBit_lt hwlt hb
        rcases bitsOk_ok hwb b hbl hb with h | ⟨e, he, h⟩
        · rw [← hgd b (by omega)]; exact hi3 b h
        · have := hwo e he
          exact hcl e (by omega) (by rw [← hgd e (by omega)]; exact hi3 e he) b h
      rw [hsp] at hM hp hf
      have hpp := List.pairwise_append.1 hp
      have hpre : ∀ y ∈ pre, y.k < i := fun y hy => hxk ▸ hpp.2.2 y hy x (by simp)
      have hpost : ∀ y ∈ post, i < y.k := fun y hy => hxk ▸ (List.pairwise_cons.1 hpp.2.1).1 y hy
      have hset : ∀ j b, (listed.setIfInBounds i true).getD j b = if j = i then true else listed.getD j b := fun j b => getD_set listed i j b (by omega)
      obtain ⟨s, hs1, hs2⟩ := go_ok hw fuel (t / rs.length) (listed.setIfInBounds i true) (i :: acc) (pre ++ post) (by simp [hsz]) (fun j => by
        rw [hset]
        constructor
        · rintro ⟨y, hy, rfl⟩
          have hne : y.k ≠ i := by
            rcases List.mem_append.1 hy with h | h
            · exact Nat.ne_of_lt (hpre y h)
            · exact Nat.ne_of_gt (hpost y h)
          rw [if_neg hne]
          exact (hM y.k).1 ⟨y, by rcases List.mem_append.1 hy with h | h <;> simp [h], rfl⟩
        · rintro ⟨h1, h2⟩
          by_cases e : j = i
          · rw [if_pos e] at h2; cases h2
          · rw [if_neg e] at h2
            obtain ⟨y, hy, rfl⟩ := (hM j).2 ⟨h1, h2⟩
            refine ⟨y, ?_, rfl⟩
            rcases List.mem_append.1 hy with h | h
            · simp [h]
            · rcases List.mem_cons.1 h with rfl | h
              · exact absurd hxk e
              · simp [h]) (hp.sublist (List.Sublist.append (List.Sublist.refl _) (List.sublist_cons_self _ _))) (fun j hj hl b hb => by
        rw [hset] at hl ⊢
        split
        · rfl
        · by_cases e : j = i
          · subst e; exact hbits b hb
          · rw [if_neg e] at hl; exact hcl j hj hl b hb) (by
        simp only [List.length_append, List.length_cons] at hf ⊢; omega)
      refine ⟨i :: s, by rw [hs1]; simp, pre, x, post, hsp, hxk, fun y hy => ?_, hs2⟩
      cases hb : (ord.getD i 0).testBit y.k with
      | false => rfl
      | true =>
        have h1 := hbits _ hb
        have h2 := ((hM y.k).1 ⟨y, by simp [hy], rfl⟩).2
        rw [h1] at h2; cases h2

section
variable {C : Cs} {lo : Nat} {st st' : St}

theorem draw_idx {ops : Array Oper} {ios : List IOper} {ord : List Nat} (h : evOpsD C lo ios ord 0 [] (some st) = some st') (hd : drawOk ord 0 [] ops.toList ios = true) (t : Nat) :
    evIdx C lo ios (Region.schedule true ops t) st = some st' := by
  obtain ⟨M, m1, m2, m3, _, m5⟩ := draw_runs (L := []) (fs := []) (k := 0) (by simpa using h) (by simpa using hd) (by simp) rfl (by simp)
  obtain ⟨hlen, hget⟩ := drawOk_get hd
  have hML : M.length = ops.size := by rw [← List.length_map (f := Item.o), m1, ← hlen]; simp
  have hmem : ∀ x ∈ M, ∃ i : Nat, M[i]? = some x ∧ x.k = i := fun x hx => by
    obtain ⟨i, hi⟩ := List.getElem?_of_mem hx
    exact ⟨i, hi, by simpa using m2 i x hi⟩
  obtain ⟨s, hs1, hs2⟩ := go_ok (ops := ops) (ord := ord) (fun j o ho => by simpa using hget j o (by simpa using ho)) ops.size t (Array.replicate ops.size false) [] M (by simp) (fun j => by
    constructor
    · rintro ⟨x, hx, rfl⟩
      obtain ⟨i, hi, e⟩ := hmem x hx
      have := (List.getElem?_eq_some_iff.1 hi).1
      refine ⟨by omega, ?_⟩
      simp [Array.getD_eq_getD_getElem?, e, show i < ops.size by omega]
    · rintro ⟨h1, _⟩
      refine ⟨M[j]'(by omega), by simp, ?_⟩
      simpa using m2 j _ (List.getElem?_eq_getElem (by omega))) (by
    rw [List.pairwise_iff_getElem]
    intro i j hi hj hlt
    rw [show (M[i]).k = i by simpa using m2 i _ (List.getElem?_eq_getElem hi), show (M[j]).k = j by simpa using m2 j _ (List.getElem?_eq_getElem hj)]
    exact hlt) (fun j hj hl => by
    simp [Array.getD_eq_getD_getElem?, hj] at hl) (by omega)
  have e : Region.schedule true ops t = s := by
    simp only [Region.schedule, Bool.true_or, if_true, Region.linearise]
    rw [hs1]; rfl
  rw [e]
  refine sched_idx hs2 m3 m5 fun x hx => ?_
  obtain ⟨i, hi, e⟩ := hmem x hx
  rw [e, ← m1]
  simp [hi]
end
end Go.Proofs.Ytonhkmpjpnjkfaa.Sx
namespace Go.Proofs.Ytonhkmpjpnjkfaa.Sx
open Go Go.RowKit

theorem nodup_ok : ∀ {l : List Nat}, nodup l = true → l.Nodup
  | [], _ => List.nodup_nil
  | a :: r, h => by
    simp only [nodup, Bool.and_eq_true, Bool.not_eq_true'] at h
    exact List.nodup_cons.2 ⟨by simpa using h.1, nodup_ok h.2⟩

section
variable {N : Rm} {w0 : World} {ok0 : Nat → Prop} {ok : Nat → Prop} {a : Act} {w : World} {st : St} {ρ : Rho} {lo : Nat}

def keepRho (lo : Nat) (ρ : Rho) : List (Nat × Nat) → Rho
  | [] => fun n => if n < lo then ρ n else none
  | (a, b) :: r => upd (keepRho lo ρ r) (lo + b) (ρ (lo + a))

/-- old i is now n -/
def Now (lo : Nat) (j : List (Nat × Nat)) (h : Hp) (ρ : Rho) (r : List (Nat × Nat)) (i n : Nat) : Prop := keepHp lo j h r n = maskO lo j (h i) ∧ keepRho lo ρ r n = ρ i

theorem lk_list : ∀ {r : List (Nat × Nat)} {i n : Nat}, lk lo i r = some n → (i < lo ∧ n = i) ∨ ∃ x ∈ r, lo + x.1 = i ∧ lo + x.2 = n
  | [], i, n, h => by
    simp only [lk] at h
    split at h
    · exact .inl ⟨by assumption, (Option.some.inj h).symm⟩
    · cases h
  | (a, b) :: r, i, n, h => by
    simp only [lk] at h
    split at h
    · exact .inr ⟨(a, b), by simp, by assumption, Option.some.inj h⟩
    · rcases lk_list h with h | ⟨x, hx, h1⟩
      · exact .inl h
      · exact .inr ⟨x, by simp [hx], h1⟩
theorem keepLo_eq (j : List (Nat × Nat)) (h : Hp) (lo n : Nat) : keepLo j h lo n = if n < lo then maskO lo j (h n) else none := by
  cases lo with
  | zero => simp [keepLo, h0]
  | succ lo => rfl
theorem now_lo {j : List (Nat × Nat)} {h : Hp} : ∀ {r : List (Nat × Nat)} {i : Nat}, i < lo → Now lo j h ρ r i i
  | [], i, hi => ⟨by simp only [keepHp, keepLo_eq, hi, if_true], by simp [keepRho, hi]⟩
  | (a, b) :: r, i, hi => by
    have ih := now_lo (j := j) (h := h) (r := r) hi
    exact ⟨by simp only [keepHp]; rw [upd_ne _ _ (by omega)]; exact ih.1, by simp only [keepRho]; rw [upd_ne _ _ (by omega)]; exact ih.2⟩
theorem now_mem {j : List (Nat × Nat)} {h : Hp} : ∀ {r : List (Nat × Nat)}, (r.map (·.2)).Nodup → ∀ x ∈ r, Now lo j h ρ r (lo + x.1) (lo + x.2)
  | [], _, x, hx => by simp at hx
  | (a, b) :: r, hn, x, hx => by
    simp only [List.map_cons, List.nodup_cons] at hn
    rcases List.mem_cons.1 hx with rfl | hx
    · exact ⟨by simp only [keepHp, upd_same], by simp only [keepRho, upd_same]⟩
    · have ih := now_mem (j := j) (h := h) hn.2 x hx
      have hne : lo + x.2 ≠ lo + b := fun e => hn.1 (by rw [show b = x.2 by omega]; exact List.mem_map.2 ⟨x, hx, rfl⟩)
      exact ⟨by simp only [keepHp]; rw [upd_ne _ _ hne]; exact ih.1, by simp only [keepRho]; rw [upd_ne _ _ hne]; exact ih.2⟩
theorem now_lk {j : List (Nat × Nat)} (hj : (j.map (·.2)).Nodup) {h : Hp} {i n : Nat} (e : lk lo i j = some n) : Now lo j h ρ j i n := by
  rcases lk_list e with ⟨h1, rfl⟩ | ⟨x, hx, rfl, rfl⟩
  · exact now_lo h1
  · exact now_mem hj x hx
theorem now_inv {j : List (Nat × Nat)} {h : Hp} : ∀ {r : List (Nat × Nat)} {n : Nat} {o : Ob}, keepHp lo j h r n = some o → (n < lo ∧ Now lo j h ρ r n n) ∨ ∃ x ∈ r, lo + x.2 = n ∧ Now lo j h ρ r (lo + x.1) n
  | [], n, o, e => by
    simp only [keepHp, keepLo_eq] at e
    split at e
    · exact .inl ⟨by assumption, now_lo (by assumption)⟩
    · cases e
  | (a, b) :: r, n, o, e => by
    by_cases hn : n = lo + b
    · subst hn
      exact .inr ⟨(a, b), by simp, rfl, by simp only [keepHp, upd_same], by simp only [keepRho, upd_same]⟩
    · simp only [keepHp] at e
      rw [upd_ne _ _ hn] at e
      rcases now_inv e with ⟨h1, h2⟩ | ⟨x, hx, h1, h2⟩
      · exact .inl ⟨h1, by simp only [keepHp]; rw [upd_ne _ _ hn]; exact h2.1, by simp only [keepRho]; rw [upd_ne _ _ hn]; exact h2.2⟩
      · exact .inr ⟨x, by simp [hx], h1, by simp only [keepHp]; rw [upd_ne _ _ hn]; exact h2.1, by simp only [keepRho]; rw [upd_ne _ _ hn]; exact h2.2⟩
theorem lk_of_mem : ∀ {r : List (Nat × Nat)}, (r.map (·.1)).Nodup → ∀ x ∈ r, lk lo (lo + x.1) r = some (lo + x.2)
  | [], _, x, hx => by simp at hx
  | (a, b) :: r, hn, x, hx => by
    simp only [List.map_cons, List.nodup_cons] at hn
    rcases List.mem_cons.1 hx with rfl | hx
    · simp [lk]
    · have hne : lo + a ≠ lo + x.1 := fun e => hn.1 (by rw [show a = x.1 by omega]; exact List.mem_map.2 ⟨x, hx, rfl⟩)
      simp only [lk, hne, if_false]
      exact lk_of_mem hn.2 x hx
theorem lk_lo : ∀ {r : List (Nat × Nat)} {i : Nat}, i < lo → lk lo i r = some i
  | [], i, h => by simp [lk, h]
  | (a, b) :: r, i, h => by simp only [lk]; rw [if_neg (by omega)]; exact lk_lo h

/-- the relations, behind the renaming -/
structure Ren (lo : Nat) (j : List (Nat × Nat)) (h h' : Hp) (ρ ρ' : Rho) : Prop where
  at' : ∀ i n, lk lo i j = some n → h' n = maskO lo j (h i) ∧ ρ' n = ρ i

theorem maskC_ok {j : List (Nat × Nat)} {h h' : Hp} {ρ ρ' : Rho} (R : Ren lo j h h' ρ ρ') {l : LV} {x : Value} (hl : LRep w ok ρ h l x) : LRep w ok ρ' h' (maskC lo j l) x := by
  unfold maskC
  split
  · rename_i id off
    cases e : lk lo id j with
    | none => simp only [renP, LRep]
    | some n =>
      obtain ⟨h1, h2⟩ := R.at' _ _ e
      simp only [renP, LRep] at hl ⊢
      rw [h1]
      cases ho : h id with
      | none => rw [ho] at hl; exact hl.elim
      | some o =>
        rw [ho] at hl
        cases o with
        | var f cs => simp only [PRep] at hl; simp only [maskO, PRep]; rwa [h2]
        | arr f e sz rows => exact hl.elim
        | map f k v es => exact hl.elim
        | dead => exact hl
  · rename_i id r off
    cases e : lk lo id j with
    | none => simp only [renE, LRep]
    | some n =>
      obtain ⟨h1, h2⟩ := R.at' _ _ e
      simp only [renE, LRep] at hl ⊢
      rw [h1]
      cases ho : h id with
      | none => rw [ho] at hl; exact hl.elim
      | some o =>
        rw [ho] at hl
        cases o with
        | var f cs => exact hl.elim
        | arr f e sz rows => simp only [ERep] at hl; simp only [maskO, ERep]; rwa [h2]
        | map f k v es => exact hl.elim
        | dead => exact hl
  · rename_i id off len
    cases e : lk lo id j with
    | none => simp only [renS, LRep]
    | some n =>
      obtain ⟨h1, h2⟩ := R.at' _ _ e
      simp only [renS, LRep] at hl ⊢
      rw [h1]
      cases ho : h id with
      | none => rw [ho] at hl; exact hl.elim
      | some o =>
        rw [ho] at hl
        cases o with
        | var f cs => simp only [SRep] at hl; simp only [maskO, SRep]; rwa [h2]
        | arr f e sz rows => simp only [SRep] at hl; simp only [maskO, SRep]; rwa [h2]
        | map f k v es => exact hl.elim
        | dead => exact hl
  · rename_i id
    cases e : lk lo id j with
    | none => simp only [renM, LRep]
    | some n =>
      obtain ⟨h1, h2⟩ := R.at' _ _ e
      simp only [renM, LRep] at hl ⊢
      rw [h1]
      cases ho : h id with
      | none => rw [ho] at hl; exact hl.elim
      | some o =>
        rw [ho] at hl
        cases o with
        | var f cs => exact hl.elim
        | arr f e sz rows => exact hl.elim
        | map f k v es => simp only [MRep] at hl; simp only [maskO, MRep]; rwa [h2]
        | dead => exact hl
  · simp only [LRep] at hl ⊢; exact hl
  · simp only [LRep, LReps] at hl ⊢; exact hl
  · simp only [LRep]
theorem maskCs_length {j : List (Nat × Nat)} : ∀ ls : List LV, (maskCs lo j ls).length = ls.length
  | [] => rfl
  | _ :: ls => congrArg (· + 1) (maskCs_length ls)
theorem maskCs_ok {j : List (Nat × Nat)} {h h' : Hp} {ρ ρ' : Rho} (R : Ren lo j h h' ρ ρ') {one : Bool} : ∀ {ls : List LV} {xs : List Value}, LReps w ok ρ h one ls xs → LReps w ok ρ' h' one (maskCs lo j ls) xs
  | [], xs, hx => by simpa only [LReps, maskCs] using hx
  | l :: ls, xs, hx => by
    simp only [LReps, maskCs] at hx ⊢
    obtain ⟨v, r, h1, h2, h3, h4⟩ := hx
    exact ⟨v, r, h1, h2, maskC_ok R h3, maskCs_ok R h4⟩
theorem mask2_ok {j : List (Nat × Nat)} {h h' : Hp} {ρ ρ' : Rho} (R : Ren lo j h h' ρ ρ') {one : Bool} : ∀ {ls : List LV} {xs : List Value}, LReps w ok ρ h one ls xs → LReps w ok ρ' h' one (mask2 lo j ls) xs
  | [], xs, hx => by simpa only [LReps, mask2] using hx
  | l :: ls, xs, hx => by
    simp only [LReps] at hx
    obtain ⟨v, r, h1, h2, h3, h4⟩ := hx
    have ih := mask2_ok R h4
    unfold mask2
    split
    · rename_i e; cases e
    · rename_i cs ls' e
      obtain ⟨rfl, rfl⟩ := List.cons.inj e
      simp only [LRep] at h3
      obtain ⟨vs, k1, k2⟩ := h3
      simp only [LReps]
      exact ⟨v, r, h1, h2, by simp only [LRep]; exact ⟨vs, k1, maskCs_ok R k2⟩, ih⟩
    · rename_i c ls' _ e
      obtain ⟨rfl, rfl⟩ := List.cons.inj e
      simp only [LReps]
      exact ⟨v, r, h1, h2, maskC_ok R h3, ih⟩
theorem maskL_ok {j : List (Nat × Nat)} {h h' : Hp} {ρ ρ' : Rho} (R : Ren lo j h h' ρ ρ') {l : LV} {x : Value} (hl : LRep w ok ρ h l x) : LRep w ok ρ' h' (maskL lo j l) x := by
  unfold maskL
  split
  · simp only [LRep] at hl ⊢
    obtain ⟨vs, k1, k2⟩ := hl
    exact ⟨vs, k1, maskCs_ok R k2⟩
  · simp only [LRep] at hl ⊢
    obtain ⟨vs, k1, k2⟩ := hl
    exact ⟨vs, k1, maskCs_ok R k2⟩
  · simp only [LRep] at hl ⊢
    obtain ⟨vs, k1, k2⟩ := hl
    exact ⟨vs, k1, mask2_ok R k2⟩
  · exact maskC_ok R hl
theorem maskO_own {j : List (Nat × Nat)} {x : Option Ob} {o' : Ob} (h : maskO lo j x = some o') : ∃ o, x = some o ∧ o'.own = o.own ∧ o'.live = o.live := by
  unfold maskO at h
  split at h
  · obtain rfl := Option.some.inj h; exact ⟨_, rfl, rfl, rfl⟩
  · obtain rfl := Option.some.inj h; exact ⟨_, rfl, rfl, rfl⟩
  · obtain rfl := Option.some.inj h; exact ⟨_, rfl, rfl, rfl⟩
  · obtain rfl := Option.some.inj h; exact ⟨_, rfl, rfl, rfl⟩
  · cases h
theorem keepEnv_ok {j : List (Nat × Nat)} {e : Nat → LV} (k : Nat) : ∀ {ks : List Nat}, keepEnv lo j e ks k = .u ∨ keepEnv lo j e ks k = maskL lo j (e k)
  | [] => .inl rfl
  | s :: ks => by
    simp only [keepEnv]
    by_cases h : k = s
    · subst h; rw [upd_same]; exact .inr rfl
    · rw [upd_ne _ _ h]; exact keepEnv_ok k

theorem Gam.gc (g : Gam N w0 ok0 st ok ρ a w) {G : GC} (hG : G.ok = true) (hst : ∀ k, maskL lo G.ids (N.gh k).1 = (N.gh k).1) : Gam N w0 ok0 (G.run lo st) ok (keepRho lo ρ G.ids) a w := by
  simp only [GC.ok, Bool.and_eq_true] at hG
  have n1 := nodup_ok hG.1
  have n2 := nodup_ok hG.2
  have R : Ren lo G.ids st.hp (keepHp lo G.ids st.hp G.ids) ρ (keepRho lo ρ G.ids) := ⟨fun i n e => now_lk n2 e⟩
  have inv : ∀ n o', keepHp lo G.ids st.hp G.ids n = some o' → ∃ i o, st.hp i = some o ∧ maskO lo G.ids (some o) = some o' ∧ o'.own = o.own ∧ o'.live = o.live ∧ keepRho lo ρ G.ids n = ρ i ∧ lk lo i G.ids = some n := by
    intro n o' h
    have fin : ∀ i, Now lo G.ids st.hp ρ G.ids i n → lk lo i G.ids = some n → ∃ i o, st.hp i = some o ∧ maskO lo G.ids (some o) = some o' ∧ o'.own = o.own ∧ o'.live = o.live ∧ keepRho lo ρ G.ids n = ρ i ∧ lk lo i G.ids = some n := by
      intro i hn e
      have hm : maskO lo G.ids (st.hp i) = some o' := by rw [← hn.1]; exact h
      obtain ⟨o, ho, k1, k2⟩ := maskO_own hm
      exact ⟨i, o, ho, by rw [← ho]; exact hm, k1, k2, hn.2, e⟩
    rcases now_inv (ρ := ρ) h with ⟨h1, h2⟩ | ⟨x, hx, rfl, h2⟩
    · exact fin n h2 (lk_lo h1)
    · exact fin _ h2 (lk_of_mem n1 x hx)
  refine { below := g.below, old := g.old, size := g.size, defers := g.defers, free := ?_, inj := ?_, fresh := ?_, obj := ?_, env := fun k => ?_, kept := g.kept, gh := fun k => by
              have := maskL_ok (w := w) (ok := ok) R (g.gh k)
              rwa [hst k] at this, res := fun b o h => ⟨(g.res b o h).1, (g.res b o h).2.1, (g.res b o h).2.2.1, fun n p K hn hl hr => by
                obtain ⟨i, q, k1, _, k3, k4, k5, _⟩ := inv n p hn
                exact (g.res b o h).2.2.2 i q K k1 (by rw [← bars_eq k3 k4]; exact hl) (k5 ▸ hr)⟩ }
  · intro b hb
    refine ⟨(g.free b hb).1, fun n o' K ho hown => ?_⟩
    obtain ⟨i, o, k1, _, k3, _, k5, _⟩ := inv n o' ho
    rw [k5]
    exact (g.free b hb).2 i o K k1 (k3 ▸ hown)
  · intro n n' o o' b K K' hn hn' hl hl' hr hr'
    obtain ⟨i, p, k1, _, _, k4, k5, k6⟩ := inv n o hn
    obtain ⟨i', p', l1, _, _, l4, l5, l6⟩ := inv n' o' hn'
    have := g.inj i i' p p' b K K' k1 l1 (k4 ▸ hl) (l4 ▸ hl') (k5 ▸ hr) (l5 ▸ hr')
    subst this
    exact Option.some.inj (k6.symm.trans l6)
  · intro n o b K hn hl hr
    obtain ⟨i, p, k1, _, _, k4, k5, _⟩ := inv n o hn
    exact g.fresh i p b K k1 (k4 ▸ hl) (k5 ▸ hr)
  · intro n o' hn
    obtain ⟨i, p, k1, k2, _, _, k5, _⟩ := inv n o' hn
    have hob := g.obj i p k1
    cases p with
    | dead =>
      obtain rfl := Option.some.inj k2
      trivial
    | var f cs =>
      obtain rfl := Option.some.inj k2
      obtain ⟨b, K, cur, ty, h1, h2, h3, h4, h5⟩ := hob
      refine ⟨b, K, cur, ty, by rw [k5]; exact h1, h2, h3, ?_, ?_⟩
      · rw [maskCs_length]; exact h4
      · rw [maskCs_length]; exact maskCs_ok R h5
    | arr f e sz rows =>
      obtain rfl := Option.some.inj k2
      rcases hob with ⟨h1, h2⟩ | ⟨b, K, cur, h1, h2⟩
      · exact .inl ⟨by rw [k5]; exact h1, h2⟩
      · exact .inr ⟨b, K, cur, by rw [k5]; exact h1, h2⟩
    | map f kag vag ents =>
      obtain rfl := Option.some.inj k2
      obtain ⟨b, K, es, clock, h1, h2⟩ := hob
      exact ⟨b, K, es, clock, by rw [k5]; exact h1, h2⟩
  · rcases keepEnv_ok (lo := lo) (j := G.ids) (e := st.env) k (ks := G.slots) with h | h
    · show LRep w ok _ _ (keepEnv lo G.ids st.env G.slots k) _
      rw [h]; simp only [LRep]
    · show LRep w ok _ _ (keepEnv lo G.ids st.env G.slots k) _
      rw [h]; exact maskL_ok R (g.env k)
end
end Go.Proofs.Ytonhkmpjpnjkfaa.Sx
namespace Go.Proofs.Ytonhkmpjpnjkfaa.Sx
open Go Go.RowKit
section
variable {P : Program} {N : Rm} {w0 : World} {ok0 : Nat → Prop} {st : St} {ok : Nat → Prop} {ρ : Rho} {a : Act} {w : World}

def Rm.with (N : Rm) (b : Nat) (o : Obj) : Rm := { N with res := upd N.res b (some o) }
theorem with_at (N : Rm) (b : Nat) (o : Obj) : (N.with b o).res b = some o := upd_same _ _ _
theorem with_ne (N : Rm) {b c : Nat} (o : Obj) (h : c ≠ b) : (N.with b o).res c = N.res c := upd_ne _ _ h

/-- a new block, for nobody else -/
theorem Gam.reserve (g : Gam N w0 ok0 st ok ρ a w) (o : Obj) : Gam (N.with w.heap.size o) w0 ok0 st ok ρ a (w.alloc o) := by
  have g1 := g.world (below_alloc w o)
  refine { below := g1.below, old := g1.old, size := g1.size, defers := g1.defers, free := g1.free, inj := g1.inj, fresh := g1.fresh, obj := g1.obj, env := g1.env, kept := g1.kept, gh := g1.gh, res := fun b p h => ?_ }
  by_cases e : b = w.heap.size
  · subst e
    rw [with_at] at h
    obtain rfl := Option.some.inj h
    exact ⟨g.below.size, World.alloc_heap_new w _, fun _ ho => Nat.lt_irrefl _ (g.free _ ho).1, fun i q K hi hl hr => Nat.lt_irrefl _ (g.fresh i q _ K hi (bars_live hl) hr).2⟩
  · rw [with_ne _ _ e] at h
    exact g1.res b p h
/-- it is turned -/
theorem Gam.reput (g : Gam N w0 ok0 st ok ρ a w) {b : Nat} {o : Obj} (hb : N.res b = some o) (o' : Obj) (hw : watchO o = false := by rfl) : Gam (N.with b o') w0 ok0 st ok ρ a (w.putObj b o') := by
  obtain ⟨h1, h2, h3, h4⟩ := g.res b o hb
  have h3 := h3 hw
  have hlt : b < w.heap.size := (Array.getElem?_eq_some_iff.1 h2).1
  have hother : ∀ k, k ≠ b → (w.putObj b o').heap[k]? = w.heap[k]? := fun k hk => World.putObj_heap_other hk
  have hs : Same w (w.putObj b o') ok ok := fun k hk => ⟨hother k (fun e => h3 (e ▸ hk)), hk⟩
  have hl := Later.refl ρ st.hp
  refine { below := ?_, old := g.old, size := g.size, defers := g.defers, free := ?_, inj := g.inj, fresh := ?_, obj := ?_, env := fun k => (g.env k).to hs hl, kept := g.kept, gh := fun k => (g.gh k).to hs hl, res := ?_ }
  · exact g.below.trans ⟨rfl, rfl, rfl, by simp, fun k hk => hother k (by omega)⟩
  · intro c hc
    exact ⟨by simpa using (g.free c hc).1, (g.free c hc).2⟩
  · intro i p c K hi hl hr
    exact ⟨(g.fresh i p c K hi hl hr).1, by simpa using (g.fresh i p c K hi hl hr).2⟩
  · intro i p hi
    cases hlv : p.live with
    | false => cases p with
      | dead => trivial
      | var f cs => simp [Ob.live] at hlv
      | arr f e sz rows => simp [Ob.live] at hlv
      | map f k v es => simp [Ob.live] at hlv
    | true => exact (g.obj i p hi).to hs hl rfl fun c K hc => hother c fun e => by subst e; exact h4 i p K hi (bars_all hw hlv) hc
  · intro c p h
    by_cases e : c = b
    · subst e
      rw [with_at] at h
      obtain rfl := Option.some.inj h
      exact ⟨h1, World.putObj_heap_same hlt, fun _ => h3, fun i p K hi hl hr => h4 i p K hi (bars_all hw (bars_live hl)) hr⟩
    · rw [with_ne _ _ e] at h
      obtain ⟨k1, k2, k3, k4⟩ := g.res c p h
      exact ⟨k1, (hother c e).trans k2, k3, k4⟩

/-- held to less -/
theorem Gam.less (g : Gam N w0 ok0 st ok ρ a w) {M : Rm} (hn : M.n = N.n) (hd : M.ds = N.ds) (hK : ∀ s, M.K s = true → a.tmps.getD s undef = M.T s) (hg : ∀ k, LRep w ok ρ st.hp (M.gh k).1 (M.gh k).2) (hr : ∀ b o, M.res b = some o → N.res b = some o) : Gam M w0 ok0 st ok ρ a w :=
  { below := g.below, old := g.old, size := by rw [hn]; exact g.size, defers := by rw [hd]; exact g.defers, free := g.free, inj := g.inj, fresh := g.fresh, obj := g.obj, env := g.env, kept := hK, gh := hg, res := fun b o h => g.res b o (hr b o h) }
/-- in another frame -/
theorem Gam.frame (g : Gam N w0 ok0 st ok ρ a w) {M : Rm} {env : Nat → LV} {b : Act} (hn : b.tmps.size = M.n) (hd : b.defers = M.ds) (hK : ∀ s, M.K s = true → b.tmps.getD s undef = M.T s) (hg : ∀ k, LRep w ok ρ st.hp (M.gh k).1 (M.gh k).2)
    (he : ∀ k, LRep w ok ρ st.hp (env k) (b.tmps.getD k undef)) (hr : ∀ b o, M.res b = some o → N.res b = some o) : Gam M w0 ok0 ⟨env, st.hp⟩ ok ρ b w :=
  { below := g.below, old := g.old, size := hn, defers := hd, free := g.free, inj := g.inj, fresh := g.fresh, obj := g.obj, env := he, kept := hK, gh := hg, res := fun b o h => g.res b o (hr b o h) }
end

/-- the carried values behind the slots of a caller -/
def ghosts (env : Nat → LV) (a : Act) (gh : Nat → LV × Value) (k : Nat) : LV × Value := if k % 2 = 0 then (env (k / 2), a.tmps.getD (k / 2) undef) else gh (k / 2)
theorem ghosts_env (env : Nat → LV) (a : Act) (gh : Nat → LV × Value) (k : Nat) : ghosts env a gh (2 * k) = (env k, a.tmps.getD k undef) := by
  unfold ghosts
  rw [if_pos (by omega), show 2 * k / 2 = k by omega]
theorem ghosts_gh (env : Nat → LV) (a : Act) (gh : Nat → LV × Value) (k : Nat) : ghosts env a gh (2 * k + 1) = gh k := by
  unfold ghosts
  rw [if_neg (by omega), show (2 * k + 1) / 2 = k by omega]
theorem bindL_eq : ∀ (ls : List LV) (k i : Nat), bindL k ls i = if k ≤ i then (match ls[i - k]? with | some l => l | none => .u) else .u
  | [], k, i => by simp [bindL, e0]
  | l :: ls, k, i => by
    simp only [bindL, upd]
    by_cases e : i = k
    · subst e; simp
    · rw [if_neg e, bindL_eq ls (k + 1) i]
      by_cases hk : k ≤ i
      · rw [if_pos hk, if_pos (by omega), show i - k = (i - (k + 1)) + 1 by omega, List.getElem?_cons_succ]
      · rw [if_neg hk, if_neg (by omega)]

/-! ### marks -/
section
variable {P : Program} {w0 : World} {ok0 : Nat → Prop}
/-- the marks that ranges over functions leave, in blocks that N0 knows nothing of -/
def marksOk (N0 N : Rm) : List Deferred → Prop
  | [] => True
  | d :: ds => (∃ D, d = { target := .collected D, args := #[] } ∧ N0.res D = none ∧ N.res D = some (.deferred (some [])) ∧ ∀ d' ∈ ds, d' ≠ { target := .collected D, args := #[] }) ∧ marksOk N0 N ds
theorem marks_with {N0 N : Rm} {D : Nat} {o : Obj} : ∀ {ds : List Deferred}, marksOk N0 N ds → (∀ d ∈ ds, d ≠ { target := .collected D, args := #[] }) → marksOk N0 (N.with D o) ds
  | [], _, _ => trivial
  | d :: ds, h, hne => by
    obtain ⟨⟨E, rfl, h1, h2, h3⟩, h4⟩ := h
    refine ⟨⟨E, rfl, h1, ?_, h3⟩, marks_with h4 fun d hd => hne d (by simp [hd])⟩
    rw [with_ne]
    · exact h2
    · intro e; subst e; exact hne _ (by simp) rfl
theorem marks_up {N0 N N' : Rm} (hs : ∀ b o, N.res b = some o → N'.res b = some o) : ∀ {ds : List Deferred}, marksOk N0 N ds → marksOk N0 N' ds
  | [], _ => trivial
  | d :: ds, h => by
    obtain ⟨⟨E, rfl, h1, h2, h3⟩, h4⟩ := h
    exact ⟨⟨E, rfl, h1, hs _ _ h2, h3⟩, marks_up hs h4⟩
theorem marks_down {N0 N1 N : Rm} (hs : ∀ b, N1.res b = none → N0.res b = none) : ∀ {ds : List Deferred}, marksOk N1 N ds → marksOk N0 N ds
  | [], _ => trivial
  | d :: ds, h => by
    obtain ⟨⟨E, rfl, h1, h2, h3⟩, h4⟩ := h
    exact ⟨⟨E, rfl, hs _ h1, h2, h3⟩, marks_down hs h4⟩
theorem marks_some {N0 N : Rm} {D : Nat} : ∀ {ds : List Deferred}, marksOk N0 N ds → { target := .collected D, args := #[] } ∈ ds → N.res D = some (.deferred (some []))
  | [], _, hm => by simp at hm
  | d :: ds, h, hm => by
    obtain ⟨⟨E, rfl, h1, h2, h3⟩, h4⟩ := h
    rcases List.mem_cons.1 hm with e | hm
    · cases e; exact h2
    · exact marks_some h4 hm
theorem marks_append {N0 N : Rm} : ∀ {es bs : List Deferred}, marksOk N0 N es → marksOk N0 N bs → (∀ a ∈ es, a ∉ bs) → marksOk N0 N (es ++ bs)
  | [], _, _, hb, _ => hb
  | d :: ds, bs, h, hb, hd => by
    obtain ⟨⟨E, rfl, h1, h2, h3⟩, h4⟩ := h
    refine ⟨⟨E, rfl, h1, h2, fun d' hm => ?_⟩, marks_append h4 hb fun a ha => hd a (by simp [ha])⟩
    rcases List.mem_append.1 hm with hm | hm
    · exact h3 _ hm
    · intro e; subst e; exact hd _ (by simp) hm
theorem leaves_marks {fn : Func} {R : Ending → World → Prop} {N0 : Rm} : ∀ (ds : List Deferred) {N : Rm} {st : St} {ok : Nat → Prop} {ρ : Rho} {a : Act} {w : World}, Gam N w0 ok0 st ok ρ a w → marksOk N0 N ds → N.gh = N0.gh → (∀ b o, N0.res b = some o → N.res b = some o) →
    (∀ N' w', Gam N' w0 ok0 st ok ρ a w' → N'.gh = N0.gh → (∀ b o, N0.res b = some o → N'.res b = some o) → ∃ v, (results fn a.tmps).run P w' = .ok v w' ∧ R (.returned v) w') → LeavesInM (FR none) 0 P fn a.tmps R ds .returning w
  | [], N, st, ok, ρ, a, w, g, _, hgh, hs, hR => by
    obtain ⟨v, h1, h2⟩ := hR N w g hgh hs
    exact ⟨v, h1, h2⟩
  | d :: ds, N, st, ok, ρ, a, w, g, hm, hgh, hs, hR => by
    obtain ⟨⟨D, rfl, h1, h2, h3⟩, h4⟩ := hm
    refine ⟨by simp, .inl ⟨D, _, rfl, run_takeDeferred (g.res D _ h2).2.1, ?_⟩⟩
    refine leaves_marks ds (g.reput h2 (.deferred none)) (marks_with h4 h3) hgh (fun b o hb => ?_) hR
    rw [with_ne]
    · exact hs b o hb
    · intro e; subst e; rw [h1] at hb; cases hb
/-- a room behind: more is reserved, more marks -/
structure Ext (N N' : Rm) : Prop where
  n : N'.n = N.n
  K : N'.K = N.K
  T : N'.T = N.T
  gh : N'.gh = N.gh
  res : ∀ b o, N.res b = some o → N'.res b = some o
  ds : ∃ ms, N'.ds = ms ++ N.ds ∧ marksOk N N' ms
theorem Ext.refl (N : Rm) : Ext N N := ⟨rfl, rfl, rfl, rfl, fun _ _ h => h, [], rfl, trivial⟩
theorem Ext.trans {N N' N'' : Rm} (a : Ext N N') (b : Ext N' N'') : Ext N N'' := by
  obtain ⟨ms, h1, h2⟩ := a.ds
  obtain ⟨ms', k1, k2⟩ := b.ds
  refine ⟨b.n.trans a.n, b.K.trans a.K, b.T.trans a.T, b.gh.trans a.gh, fun x o h => b.res x o (a.res x o h), ms' ++ ms, by rw [k1, h1, List.append_assoc], ?_⟩
  have hd : ∀ x, N'.res x = none → N.res x = none := fun x h => by
    cases hx : N.res x with
    | none => rfl
    | some o => rw [a.res x o hx] at h; cases h
  refine marks_append (marks_down hd k2) (marks_up b.res h2) fun d hm hm' => ?_
  have : ∀ {ds : List Deferred}, marksOk N' N'' ds → d ∈ ds → ∃ D, d = { target := .collected D, args := #[] } ∧ N'.res D = none := by
    intro ds h hm
    induction ds with
    | nil => simp at hm
    | cons e ds ih =>
      obtain ⟨⟨E, rfl, q1, _⟩, q2⟩ := h
      rcases List.mem_cons.1 hm with rfl | hm
      · exact ⟨E, rfl, q1⟩
      · exact ih q2 hm
  obtain ⟨D, rfl, q⟩ := this k2 hm
  rw [marks_some h2 hm'] at q
  cases q
end
end Go.Proofs.Ytonhkmpjpnjkfaa.Sx
namespace Go.Proofs.Ytonhkmpjpnjkfaa.Sx
open Go Go.RowKit

theorem maskC_maskC {lo lo2 : Nat} {j j2 : List (Nat × Nat)} (h : ∀ i i', lk lo i j = some i' → lk lo2 i' j2 = some i') (l : LV) : maskC lo2 j2 (maskC lo j l) = maskC lo j l := by
  cases l with
  | p id off => simp only [maskC]; cases e : lk lo id j with
    | none => rfl
    | some i' => simp only [renP, h _ _ e]
  | pe id r off => simp only [maskC]; cases e : lk lo id j with
    | none => rfl
    | some i' => simp only [renE, h _ _ e]
  | s id off len => simp only [maskC]; cases e : lk lo id j with
    | none => rfl
    | some i' => simp only [renS, h _ _ e]
  | m id => simp only [maskC]; cases e : lk lo id j with
    | none => rfl
    | some i' => simp only [renM, h _ _ e]
  | tup cs => cases cs <;> rfl
  | _ => rfl
theorem maskCs_maskCs {lo lo2 : Nat} {j j2 : List (Nat × Nat)} (h : ∀ i i', lk lo i j = some i' → lk lo2 i' j2 = some i') : ∀ ls : List LV, maskCs lo2 j2 (maskCs lo j ls) = maskCs lo j ls
  | [] => rfl
  | l :: ls => by simp only [maskCs, maskC_maskC h, maskCs_maskCs h ls]
theorem maskC_agg {lo : Nat} {j : List (Nat × Nat)} (l : LV) : ∀ cs, maskC lo j l ≠ .agg cs := by
  intro cs
  cases l with
  | p id off => simp only [maskC]; cases lk lo id j <;> simp [renP]
  | pe id r off => simp only [maskC]; cases lk lo id j <;> simp [renE]
  | s id off len => simp only [maskC]; cases lk lo id j <;> simp [renS]
  | m id => simp only [maskC]; cases lk lo id j <;> simp [renM]
  | tup cs => cases cs <;> simp [maskC]
  | _ => simp [maskC]
theorem mask2_cons {lo : Nat} {j : List (Nat × Nat)} (l : LV) (ls : List LV) (h : ∀ cs, l ≠ .agg cs) : mask2 lo j (l :: ls) = maskC lo j l :: mask2 lo j ls := by
  cases l <;> first | rfl | exact absurd rfl (h _)
theorem mask2_mask2 {lo lo2 : Nat} {j j2 : List (Nat × Nat)} (h : ∀ i i', lk lo i j = some i' → lk lo2 i' j2 = some i') : ∀ ls : List LV, mask2 lo2 j2 (mask2 lo j ls) = mask2 lo j ls
  | [] => rfl
  | l :: ls => by
    by_cases ha : ∃ cs, l = .agg cs
    · obtain ⟨cs, rfl⟩ := ha
      simp only [mask2, maskCs_maskCs h, mask2_mask2 h ls]
    · rw [mask2_cons l ls fun cs e => ha ⟨cs, e⟩, mask2_cons _ _ (maskC_agg l), maskC_maskC h, mask2_mask2 h ls]
theorem maskL_plain {lo : Nat} {j : List (Nat × Nat)} {l : LV} (h1 : ∀ cs, l ≠ .agg cs) (h2 : ∀ f cs, l ≠ .fn f cs) (h3 : ∀ c cs, l ≠ .tup (c :: cs)) : maskL lo j l = maskC lo j l := by
  cases l with
  | agg cs => exact absurd rfl (h1 _)
  | fn f cs => exact absurd rfl (h2 _ _)
  | tup cs => cases cs with
    | nil => rfl
    | cons c cs => exact absurd rfl (h3 _ _)
  | _ => rfl
theorem maskC_fn {lo : Nat} {j : List (Nat × Nat)} (l : LV) : (∀ f cs, maskC lo j l ≠ .fn f cs) ∧ ∀ c cs, maskC lo j l ≠ .tup (c :: cs) := by
  cases l with
  | p id off => simp only [maskC]; cases lk lo id j <;> simp [renP]
  | pe id r off => simp only [maskC]; cases lk lo id j <;> simp [renE]
  | s id off len => simp only [maskC]; cases lk lo id j <;> simp [renS]
  | m id => simp only [maskC]; cases lk lo id j <;> simp [renM]
  | tup cs => cases cs <;> simp [maskC]
  | _ => simp [maskC]
theorem maskL_maskL {lo lo2 : Nat} {j j2 : List (Nat × Nat)} (h : ∀ i i', lk lo i j = some i' → lk lo2 i' j2 = some i') (l : LV) : maskL lo2 j2 (maskL lo j l) = maskL lo j l := by
  by_cases h1 : ∃ cs, l = .agg cs
  · obtain ⟨cs, rfl⟩ := h1; simp only [maskL, maskCs_maskCs h]
  by_cases h2 : ∃ f cs, l = .fn f cs
  · obtain ⟨f, cs, rfl⟩ := h2; simp only [maskL, maskCs_maskCs h]
  by_cases h3 : ∃ c cs, l = .tup (c :: cs)
  · obtain ⟨c, cs, rfl⟩ := h3
    have key : ∀ ls : List LV, maskL lo2 j2 (.tup (mask2 lo j ls)) = .tup (mask2 lo2 j2 (mask2 lo j ls)) := fun ls => by cases hm : mask2 lo j ls <;> rfl
    show maskL lo2 j2 (.tup (mask2 lo j (c :: cs))) = .tup (mask2 lo j (c :: cs))
    rw [key, mask2_mask2 h]
  rw [maskL_plain (fun cs e => h1 ⟨cs, e⟩) (fun f cs e => h2 ⟨f, cs, e⟩) (fun c cs e => h3 ⟨c, cs, e⟩), maskL_plain (maskC_agg l) (maskC_fn l).1 (maskC_fn l).2, maskC_maskC h]

theorem lk_cases {lo i i' : Nat} : ∀ {j : List (Nat × Nat)}, lk lo i j = some i' → (i' = i ∧ i < lo) ∨ ∃ q ∈ j, i = lo + q.1 ∧ i' = lo + q.2
  | [], h => by
    simp only [lk] at h
    split at h
    · exact .inl ⟨(Option.some.inj h).symm, by assumption⟩
    · cases h
  | (a, b) :: r, h => by
    simp only [lk] at h
    split at h
    · rename_i e
      exact .inr ⟨(a, b), by simp, e.symm, (Option.some.inj h).symm⟩
    · rcases lk_cases h with h | ⟨q, h1, h2⟩
      · exact .inl h
      · exact .inr ⟨q, by simp [h1], h2⟩
theorem lk_lower {lo i : Nat} (h : i < lo) : ∀ j : List (Nat × Nat), lk lo i j = some i
  | [] => by simp [lk, h]
  | (a, b) :: r => by simp only [lk]; rw [if_neg (by omega)]; exact lk_lower h r
theorem lk_diag {lo c : Nat} {r : List (Nat × Nat)} : ∀ {ks : List (Nat × Nat)}, (∀ q ∈ ks, q.1 = q.2) → (c, c) ∈ ks → lk lo (lo + c) (ks ++ r) = some (lo + c)
  | [], _, h => by simp at h
  | (a, b) :: ks, hd, h => by
    have hab : a = b := hd (a, b) (by simp)
    subst hab
    simp only [List.cons_append, lk]
    split
    · rename_i e; rw [e]
    · rename_i e
      refine lk_diag (fun q hq => hd q (by simp [hq])) ?_
      rcases List.mem_cons.1 h with h | h
      · exact absurd (by cases h; rfl) e
      · exact h

theorem ksOf_diag (g : GC) : ∀ q ∈ ksOf g, q.1 = q.2 := by
  intro q hq
  rcases List.mem_cons.1 hq with rfl | hq
  · rfl
  · obtain ⟨p, _, rfl⟩ := List.mem_map.1 hq
    rfl
theorem look_addKs {id : Nat} {ks : List (Nat × Nat)} : ∀ {A : List (Nat × GC)}, (look id (addKs ks A)).ok = true → ∃ g, look id (addKs ks A) = addK ks g
  | [], h => by simp [addKs, look, GC.ok, nodup] at h
  | (a, g) :: r, h => by
    simp only [addKs, look] at h ⊢
    split
    · exact ⟨g, rfl⟩
    · rename_i e
      rw [if_neg e] at h
      exact look_addKs h
/-- what is kept in each round stays -/
theorem keep_ks {lo id : Nat} {ks j : List (Nat × Nat)} {A : List (Nat × GC)} (hks : ∀ q ∈ ks, q.1 = q.2) (hj : ∀ q ∈ j, (q.2, q.2) ∈ ks) (hok : (look id (addKs ks A)).ok = true) (l : LV) :
    maskL lo (look id (addKs ks A)).ids (maskL lo j l) = maskL lo j l := by
  obtain ⟨g, hg⟩ := look_addKs hok
  rw [hg]
  refine maskL_maskL (fun i i' h => ?_) l
  rcases lk_cases h with ⟨rfl, h1⟩ | ⟨q, h1, _, rfl⟩
  · exact lk_lower h1 _
  · exact lk_diag hks (hj q h1)
theorem keep_low {lo : Nat} {j : List (Nat × Nat)} (hj : ∀ q ∈ j, q.2 < 1000000) (l : LV) : maskL (lo + 1000000) [] (maskL lo j l) = maskL lo j l := by
  refine maskL_maskL (fun i i' h => ?_) l
  rcases lk_cases h with ⟨rfl, h1⟩ | ⟨q, h1, _, rfl⟩
  · exact lk_lower (by omega) _
  · exact lk_lower (by have := hj q h1; omega) _

section
variable {w : World} {ok : Nat → Prop}
theorem lk_eq {lo i i' : Nat} {j : List (Nat × Nat)} (hj : ∀ q ∈ j, q.1 = q.2) (h : lk lo i j = some i') : i' = i := by
  rcases lk_cases h with ⟨h, _⟩ | ⟨q, h1, h2, h3⟩
  · exact h
  · rw [h2, h3, hj q h1]
theorem maskC_diag {ρ : Rho} {h : Hp} {lo : Nat} {j : List (Nat × Nat)} (hj : ∀ q ∈ j, q.1 = q.2) {l : LV} {x : Value} (hl : LRep w ok ρ h l x) : LRep w ok ρ h (maskC lo j l) x := by
  cases l with
  | p id off => simp only [maskC]; cases e : lk lo id j with
    | none => simp only [renP, LRep]
    | some i => have := lk_eq hj e; subst this; exact hl
  | pe id r off => simp only [maskC]; cases e : lk lo id j with
    | none => simp only [renE, LRep]
    | some i => have := lk_eq hj e; subst this; exact hl
  | s id off len => simp only [maskC]; cases e : lk lo id j with
    | none => simp only [renS, LRep]
    | some i => have := lk_eq hj e; subst this; exact hl
  | m id => simp only [maskC]; cases e : lk lo id j with
    | none => simp only [renM, LRep]
    | some i => have := lk_eq hj e; subst this; exact hl
  | v t => exact hl
  | u => exact hl
  | agg cs => simp only [maskC, LRep]
  | fn f cs => simp only [maskC, LRep]
  | tup cs => cases cs with
    | nil => exact hl
    | cons c cs => simp only [maskC, LRep]
theorem maskCs_diag {ρ : Rho} {h : Hp} {lo : Nat} {j : List (Nat × Nat)} (hj : ∀ q ∈ j, q.1 = q.2) {one : Bool} : ∀ {ls : List LV} {xs : List Value}, LReps w ok ρ h one ls xs → LReps w ok ρ h one (maskCs lo j ls) xs
  | [], xs, hl => hl
  | l :: ls, xs, hl => by
    simp only [LReps] at hl
    obtain ⟨v, r, rfl, h1, h2, h3⟩ := hl
    simp only [maskCs, LReps]
    exact ⟨v, r, rfl, h1, maskC_diag hj h2, maskCs_diag hj h3⟩
theorem mask2_diag {ρ : Rho} {h : Hp} {lo : Nat} {j : List (Nat × Nat)} (hj : ∀ q ∈ j, q.1 = q.2) {one : Bool} : ∀ {ls : List LV} {xs : List Value}, LReps w ok ρ h one ls xs → LReps w ok ρ h one (mask2 lo j ls) xs
  | [], xs, hl => hl
  | l :: ls, xs, hl => by
    simp only [LReps] at hl
    obtain ⟨v, r, rfl, h1, h2, h3⟩ := hl
    have ih := mask2_diag (lo := lo) hj h3
    by_cases ha : ∃ cs, l = .agg cs
    · obtain ⟨cs, rfl⟩ := ha
      simp only [LRep] at h2
      obtain ⟨vs, k1, k2⟩ := h2
      simp only [mask2, LReps]
      exact ⟨v, r, rfl, h1, by simp only [LRep]; exact ⟨vs, k1, maskCs_diag hj k2⟩, ih⟩
    · have e : mask2 lo j (l :: ls) = maskC lo j l :: mask2 lo j ls := by
        cases l with
        | agg cs => exact absurd ⟨cs, rfl⟩ ha
        | _ => rfl
      rw [e]
      simp only [LReps]
      exact ⟨v, r, rfl, h1, maskC_diag hj h2, ih⟩
theorem maskL_diag {ρ : Rho} {h : Hp} {lo : Nat} {j : List (Nat × Nat)} (hj : ∀ q ∈ j, q.1 = q.2) {l : LV} {x : Value} (hl : LRep w ok ρ h l x) : LRep w ok ρ h (maskL lo j l) x := by
  unfold maskL
  split
  · simp only [LRep] at hl ⊢
    obtain ⟨vs, k1, k2⟩ := hl
    exact ⟨vs, k1, maskCs_diag hj k2⟩
  · simp only [LRep] at hl ⊢
    obtain ⟨vs, k1, k2⟩ := hl
    exact ⟨vs, k1, maskCs_diag hj k2⟩
  · simp only [LRep] at hl ⊢
    obtain ⟨vs, k1, k2⟩ := hl
    exact ⟨vs, k1, mask2_diag hj k2⟩
  · exact maskC_diag hj hl

end
/-- what is carried along keeps its names -/
def Stable (N : Rm) (lo : Nat) (A B : List (Nat × GC)) : Prop := (∀ id k, (look id A).ok = true → maskL lo (look id A).ids (N.gh k).1 = (N.gh k).1) ∧ ∀ id k, (look id B).ok = true → maskL lo (look id B).ids (N.gh k).1 = (N.gh k).1
/-- where a range over a function may stand -/
def RgOk (n : Sl) (rd : Option Nat) (N : Rm) (lo : Nat) : Prop := n.rg = true → rd = none ∧ ∀ k, maskL lo [] (N.gh k).1 = (N.gh k).1

theorem marks_none {N0 N : Rm} {D : Nat} : ∀ {ds : List Deferred}, marksOk N0 N ds → { target := .collected D, args := #[] } ∈ ds → N0.res D = none
  | [], _, hm => by simp at hm
  | d :: ds, h, hm => by
    obtain ⟨⟨E, rfl, h1, h2, h3⟩, h4⟩ := h
    rcases List.mem_cons.1 hm with e | hm
    · cases e; exact h1
    · exact marks_none h4 hm
/-- a block that was turned for a while -/
theorem Ext.turn {N1 N3 : Rm} {l : Nat} {o o1 : Obj} (h1 : N1.res l = some o) (e : Ext (N1.with l o1) N3) : Ext N1 (N3.with l o) := by
  obtain ⟨ms, k1, k2⟩ := e.ds
  refine ⟨e.n, e.K, e.T, e.gh, fun b x hb => ?_, ms, k1, ?_⟩
  · by_cases hbl : b = l
    · subst hbl; rw [with_at, ← hb, h1]
    · rw [with_ne _ _ hbl]; exact e.res b x (by rw [with_ne _ _ hbl]; exact hb)
  · refine marks_with (marks_down (fun b hb => ?_) k2) fun d hd e' => ?_
    · by_cases hbl : b = l
      · subst hbl; rw [with_at] at hb; cases hb
      · rw [with_ne _ _ hbl] at hb; exact hb
    · subst e'
      have := marks_none k2 hd
      rw [with_at] at this
      cases this

section
variable {P : Program} {C : Cs} {N N' : Rm} {lo : Nat} {n : Sl} {A B : List (Nat × GC)} {rd : Option Nat}
theorem Ext.good (e : Ext N N') (h : GoodAt P C N lo) : GoodAt P C N' lo := by
  refine ⟨h.1, fun f lo' hp args r hc k => by rw [e.gh]; exact h.2.1 f lo' hp args r hc k, fun R hR => ?_⟩
  obtain ⟨l, r, n, A, B, h1, h2, h3⟩ := h.2.2 R hR
  refine ⟨l, r, n, A, B, by rw [e.T]; exact h1, e.res _ _ h2, ?_⟩
  rw [e.gh]
  exact h3
theorem Ext.le (e : Ext N N') (h : n.le N) : n.le N' := by
  refine ⟨by rw [e.n]; exact h.1, fun d hd => ?_, fun d hd => by rw [e.K]; exact h.2.2 d hd⟩
  have := h.2.1 d hd
  exact ⟨by rw [e.n]; exact this.1, by rw [e.K]; exact this.2⟩
theorem Ext.stable (e : Ext N N') (h : Stable N lo A B) : Stable N' lo A B := by
  unfold Stable
  rw [e.gh]
  exact h
theorem Ext.rg (e : Ext N N') (h : RgOk n rd N lo) : RgOk n rd N' lo := by
  unfold RgOk
  rw [e.gh]
  exact h
end
end Go.Proofs.Ytonhkmpjpnjkfaa.Sx
