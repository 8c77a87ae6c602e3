/- What is kept behind a region still says what is so. -/
import Derived.Test.YtehcfmohjcjmpaaSxSched
namespace Go.Proofs.Ytehcfmohjcjmpaa.Sx
open Go Go.RowKit

theorem nodup_ok : ∀ {l : List Nat}, nodup l = true → l.Nodup
  | [], _ => List.nodup_nil
  | a :: r, h => by
    simp only [nodup, Bool.and_eq_true, Bool.not_eq_true'] at h
    exact List.nodup_cons.2 ⟨by simpa using h.1, nodup_ok h.2⟩

section
variable {N : Nat} {w0 : World} {ok0 : Nat → Prop} {ok : Nat → Prop} {a : Act} {w : World} {st : St} {ρ : Rho} {lo : Nat}

def keepRho (lo : Nat) (ρ : Rho) : List (Nat × Nat) → Rho
  | [] => fun n => if n < lo then ρ n else none
  | (a, b) :: r => upd (keepRho lo ρ r) (lo + b) (ρ (lo + a))

/-- old i is now n -/
def Now (lo : Nat) (j : List (Nat × Nat)) (h : Hp) (ρ : Rho) (r : List (Nat × Nat)) (i n : Nat) : Prop := keepHp lo j h r n = maskO lo j (h i) ∧ keepRho lo ρ r n = ρ i

theorem lk_list : ∀ {r : List (Nat × Nat)} {i n : Nat}, lk lo i r = some n → (i < lo ∧ n = i) ∨ ∃ x ∈ r, lo + x.1 = i ∧ lo + x.2 = n
  | [], i, n, h => by
    simp only [lk] at h
    split at h
    · exact .inl ⟨by assumption, (Option.some.inj h).symm⟩
    · cases h
  | (a, b) :: r, i, n, h => by
    simp only [lk] at h
    split at h
    · exact .inr ⟨(a, b), by simp, by assumption, Option.some.inj h⟩
    · rcases lk_list h with h | ⟨x, hx, h1⟩
      · exact .inl h
      · exact .inr ⟨x, by simp [hx], h1⟩
theorem keepLo_eq (j : List (Nat × Nat)) (h : Hp) (lo n : Nat) : keepLo j h lo n = if n < lo then maskO lo j (h n) else none := by
  cases lo with
  | zero => simp [keepLo, h0]
  | succ lo => rfl
theorem now_lo {j : List (Nat × Nat)} {h : Hp} : ∀ {r : List (Nat × Nat)} {i : Nat}, i < lo → Now lo j h ρ r i i
  | [], i, hi => ⟨by simp only [keepHp, keepLo_eq, hi, if_true], by simp [keepRho, hi]⟩
  | (a, b) :: r, i, hi => by
    have ih := now_lo (j := j) (h := h) (r := r) hi
    exact ⟨by simp only [keepHp]; rw [upd_ne _ _ (by omega)]; exact ih.1, by simp only [keepRho]; rw [upd_ne _ _ (by omega)]; exact ih.2⟩
theorem now_mem {j : List (Nat × Nat)} {h : Hp} : ∀ {r : List (Nat × Nat)}, (r.map (·.2)).Nodup → ∀ x ∈ r, Now lo j h ρ r (lo + x.1) (lo + x.2)
  | [], _, x, hx => by simp at hx
  | (a, b) :: r, hn, x, hx => by
    simp only [List.map_cons, List.nodup_cons] at hn
    rcases List.mem_cons.1 hx with rfl | hx
    · exact ⟨by simp only [keepHp, upd_same], by simp only [keepRho, upd_same]⟩
    · have ih := now_mem (j := j) (h := h) hn.2 x hx
      have hne : lo + x.2 ≠ lo + b := fun e => hn.1 (by rw [show b = x.2 by omega]; exact List.mem_map.2 ⟨x, hx, rfl⟩)
      exact ⟨by simp only [keepHp]; rw [upd_ne _ _ hne]; exact ih.1, by simp only [keepRho]; rw [upd_ne _ _ hne]; exact ih.2⟩
theorem now_lk {j : List (Nat × Nat)} (hj : (j.map (·.2)).Nodup) {h : Hp} {i n : Nat} (e : lk lo i j = some n) : Now lo j h ρ j i n := by
  rcases lk_list e with ⟨h1, rfl⟩ | ⟨x, hx, rfl, rfl⟩
  · exact now_lo h1
  · exact now_mem hj x hx
theorem now_inv {j : List (Nat × Nat)} {h : Hp} : ∀ {r : List (Nat × Nat)} {n : Nat} {o : Ob}, keepHp lo j h r n = some o → (n < lo ∧ Now lo j h ρ r n n) ∨ ∃ x ∈ r, lo + x.2 = n ∧ Now lo j h ρ r (lo + x.1) n
  | [], n, o, e => by
    simp only [keepHp, keepLo_eq] at e
    split at e
    · exact .inl ⟨by assumption, now_lo (by assumption)⟩
    · cases e
  | (a, b) :: r, n, o, e => by
    by_cases hn : n = lo + b
    · subst hn
      exact .inr ⟨(a, b), by simp, rfl, by simp only [keepHp, upd_same], by simp only [keepRho, upd_same]⟩
    · simp only [keepHp] at e
      rw [upd_ne _ _ hn] at e
      rcases now_inv e with ⟨h1, h2⟩ | ⟨x, hx, h1, h2⟩
      · exact .inl ⟨h1, by simp only [keepHp]; rw [upd_ne _ _ hn]; exact h2.1, by simp only [keepRho]; rw [upd_ne _ _ hn]; exact h2.2⟩
      · exact .inr ⟨x, by simp [hx], h1, by simp only [keepHp]; rw [upd_ne _ _ hn]; exact h2.1, by simp only [keepRho]; rw [upd_ne _ _ hn]; exact h2.2⟩
theorem lk_of_mem : ∀ {r : List (Nat × Nat)}, (r.map (·.1)).Nodup → ∀ x ∈ r, lk lo (lo + x.1) r = some (lo + x.2)
  | [], _, x, hx => by simp at hx
  | (a, b) :: r, hn, x, hx => by
    simp only [List.map_cons, List.nodup_cons] at hn
    rcases List.mem_cons.1 hx with rfl | hx
    · simp [lk]
    · have hne : lo + a ≠ lo + x.1 := fun e => hn.1 (by rw [show a = x.1 by omega]; exact List.mem_map.2 ⟨x, hx, rfl⟩)
      simp only [lk, hne, if_false]
      exact lk_of_mem hn.2 x hx
theorem lk_lo : ∀ {r : List (Nat × Nat)} {i : Nat}, i < lo → lk lo i r = some i
  | [], i, h => by simp [lk, h]
  | (a, b) :: r, i, h => by simp only [lk]; rw [if_neg (by omega)]; exact lk_lo h

/-- the relations, behind the renaming -/
structure Ren (lo : Nat) (j : List (Nat × Nat)) (h h' : Hp) (ρ ρ' : Rho) : Prop where
  at' : ∀ i n, lk lo i j = some n → h' n = maskO lo j (h i) ∧ ρ' n = ρ i

theorem maskC_ok {j : List (Nat × Nat)} {h h' : Hp} {ρ ρ' : Rho} (R : Ren lo j h h' ρ ρ') {l : LV} {x : Value} (hl : LRep w ok ρ h l x) : LRep w ok ρ' h' (maskC lo j l) x := by
  unfold maskC
  split
  · rename_i id off
    cases e : lk lo id j with
    | none => simp only [renP, LRep]
    | some n =>
      obtain ⟨h1, h2⟩ := R.at' _ _ e
      simp only [renP, LRep] at hl ⊢
      rw [h1]
      cases ho : h id with
      | none => rw [ho] at hl; exact hl.elim
      | some o =>
        rw [ho] at hl
        cases o with
        | var f cs => simp only [PRep] at hl; simp only [maskO, PRep]; rwa [h2]
        | arr f e sz rows => exact hl.elim
        | map f k v es => exact hl.elim
        | dead => exact hl
  · rename_i id r off
    cases e : lk lo id j with
    | none => simp only [renE, LRep]
    | some n =>
      obtain ⟨h1, h2⟩ := R.at' _ _ e
      simp only [renE, LRep] at hl ⊢
      rw [h1]
      cases ho : h id with
      | none => rw [ho] at hl; exact hl.elim
      | some o =>
        rw [ho] at hl
        cases o with
        | var f cs => exact hl.elim
        | arr f e sz rows => simp only [ERep] at hl; simp only [maskO, ERep]; rwa [h2]
        | map f k v es => exact hl.elim
        | dead => exact hl
  · rename_i id off len
    cases e : lk lo id j with
    | none => simp only [renS, LRep]
    | some n =>
      obtain ⟨h1, h2⟩ := R.at' _ _ e
      simp only [renS, LRep] at hl ⊢
      rw [h1]
      cases ho : h id with
      | none => rw [ho] at hl; exact hl.elim
      | some o =>
        rw [ho] at hl
        cases o with
        | var f cs => exact hl.elim
        | arr f e sz rows => simp only [SRep] at hl; simp only [maskO, SRep]; rwa [h2]
        | map f k v es => exact hl.elim
        | dead => exact hl
  · rename_i id
    cases e : lk lo id j with
    | none => simp only [renM, LRep]
    | some n =>
      obtain ⟨h1, h2⟩ := R.at' _ _ e
      simp only [renM, LRep] at hl ⊢
      rw [h1]
      cases ho : h id with
      | none => rw [ho] at hl; exact hl.elim
      | some o =>
        rw [ho] at hl
        cases o with
        | var f cs => exact hl.elim
        | arr f e sz rows => exact hl.elim
        | map f k v es => simp only [MRep] at hl; simp only [maskO, MRep]; rwa [h2]
        | dead => exact hl
  · simp only [LRep] at hl ⊢; exact hl
  · simp only [LRep, LReps] at hl ⊢; exact hl
  · simp only [LRep]
theorem maskCs_ok {j : List (Nat × Nat)} {h h' : Hp} {ρ ρ' : Rho} (R : Ren lo j h h' ρ ρ') {one : Bool} : ∀ {ls : List LV} {xs : List Value}, LReps w ok ρ h one ls xs → LReps w ok ρ' h' one (maskCs lo j ls) xs
  | [], xs, hx => by simpa only [LReps, maskCs] using hx
  | l :: ls, xs, hx => by
    simp only [LReps, maskCs] at hx ⊢
    obtain ⟨v, r, h1, h2, h3, h4⟩ := hx
    exact ⟨v, r, h1, h2, maskC_ok R h3, maskCs_ok R h4⟩
theorem mask2_ok {j : List (Nat × Nat)} {h h' : Hp} {ρ ρ' : Rho} (R : Ren lo j h h' ρ ρ') {one : Bool} : ∀ {ls : List LV} {xs : List Value}, LReps w ok ρ h one ls xs → LReps w ok ρ' h' one (mask2 lo j ls) xs
  | [], xs, hx => by simpa only [LReps, mask2] using hx
  | l :: ls, xs, hx => by
    simp only [LReps] at hx
    obtain ⟨v, r, h1, h2, h3, h4⟩ := hx
    have ih := mask2_ok R h4
    unfold mask2
    split
    · rename_i e; cases e
    · rename_i cs ls' e
      obtain ⟨rfl, rfl⟩ := List.cons.inj e
      simp only [LRep] at h3
      obtain ⟨vs, k1, k2⟩ := h3
      simp only [LReps]
      exact ⟨v, r, h1, h2, by simp only [LRep]; exact ⟨vs, k1, maskCs_ok R k2⟩, ih⟩
    · rename_i c ls' _ e
      obtain ⟨rfl, rfl⟩ := List.cons.inj e
      simp only [LReps]
      exact ⟨v, r, h1, h2, maskC_ok R h3, ih⟩
theorem maskL_ok {j : List (Nat × Nat)} {h h' : Hp} {ρ ρ' : Rho} (R : Ren lo j h h' ρ ρ') {l : LV} {x : Value} (hl : LRep w ok ρ h l x) : LRep w ok ρ' h' (maskL lo j l) x := by
  unfold maskL
  split
  · simp only [LRep] at hl ⊢
    obtain ⟨vs, k1, k2⟩ := hl
    exact ⟨vs, k1, maskCs_ok R k2⟩
  · simp only [LRep] at hl ⊢
    obtain ⟨vs, k1, k2⟩ := hl
    exact ⟨vs, k1, maskCs_ok R k2⟩
  · simp only [LRep] at hl ⊢
    obtain ⟨vs, k1, k2⟩ := hl
    exact ⟨vs, k1, mask2_ok R k2⟩
  · exact maskC_ok R hl
theorem maskO_own {j : List (Nat × Nat)} {x : Option Ob} {o' : Ob} (h : maskO lo j x = some o') : ∃ o, x = some o ∧ o'.own = o.own ∧ o'.live = o.live := by
  unfold maskO at h
  split at h
  · obtain rfl := Option.some.inj h; exact ⟨_, rfl, rfl, rfl⟩
  · obtain rfl := Option.some.inj h; exact ⟨_, rfl, rfl, rfl⟩
  · obtain rfl := Option.some.inj h; exact ⟨_, rfl, rfl, rfl⟩
  · obtain rfl := Option.some.inj h; exact ⟨_, rfl, rfl, rfl⟩
  · cases h
theorem keepEnv_ok {j : List (Nat × Nat)} {e : Nat → LV} (k : Nat) : ∀ {ks : List Nat}, keepEnv lo j e ks k = .u ∨ keepEnv lo j e ks k = maskL lo j (e k)
  | [] => .inl rfl
  | s :: ks => by
    simp only [keepEnv]
    by_cases h : k = s
    · subst h; rw [upd_same]; exact .inr rfl
    · rw [upd_ne _ _ h]; exact keepEnv_ok k

theorem Gam.gc (g : Gam N w0 ok0 st ok ρ a w) {G : GC} (hG : G.ok = true) : Gam N w0 ok0 (G.run lo st) ok (keepRho lo ρ G.ids) a w := by
  simp only [GC.ok, Bool.and_eq_true] at hG
  have n1 := nodup_ok hG.1
  have n2 := nodup_ok hG.2
  have R : Ren lo G.ids st.hp (keepHp lo G.ids st.hp G.ids) ρ (keepRho lo ρ G.ids) := ⟨fun i n e => now_lk n2 e⟩
  have inv : ∀ n o', keepHp lo G.ids st.hp G.ids n = some o' → ∃ i o, st.hp i = some o ∧ maskO lo G.ids (some o) = some o' ∧ o'.own = o.own ∧ o'.live = o.live ∧ keepRho lo ρ G.ids n = ρ i ∧ lk lo i G.ids = some n := by
    intro n o' h
    have fin : ∀ i, Now lo G.ids st.hp ρ G.ids i n → lk lo i G.ids = some n → ∃ i o, st.hp i = some o ∧ maskO lo G.ids (some o) = some o' ∧ o'.own = o.own ∧ o'.live = o.live ∧ keepRho lo ρ G.ids n = ρ i ∧ lk lo i G.ids = some n := by
      intro i hn e
      have hm : maskO lo G.ids (st.hp i) = some o' := by rw [← hn.1]; exact h
      obtain ⟨o, ho, k1, k2⟩ := maskO_own hm
      exact ⟨i, o, ho, by rw [← ho]; exact hm, k1, k2, hn.2, e⟩
    rcases now_inv (ρ := ρ) h with ⟨h1, h2⟩ | ⟨x, hx, rfl, h2⟩
    · exact fin n h2 (lk_lo h1)
    · exact fin _ h2 (lk_of_mem n1 x hx)
  refine { below := g.below, old := g.old, size := g.size, defers := g.defers, free := ?_, inj := ?_, fresh := ?_, obj := ?_, env := fun k => ?_ }
  · intro b hb
    refine ⟨(g.free b hb).1, fun n o' K ho hown => ?_⟩
    obtain ⟨i, o, k1, _, k3, _, k5, _⟩ := inv n o' ho
    rw [k5]
    exact (g.free b hb).2 i o K k1 (k3 ▸ hown)
  · intro n n' o o' b K K' hn hn' hl hl' hr hr'
    obtain ⟨i, p, k1, _, _, k4, k5, k6⟩ := inv n o hn
    obtain ⟨i', p', l1, _, _, l4, l5, l6⟩ := inv n' o' hn'
    have := g.inj i i' p p' b K K' k1 l1 (k4 ▸ hl) (l4 ▸ hl') (k5 ▸ hr) (l5 ▸ hr')
    subst this
    exact Option.some.inj (k6.symm.trans l6)
  · intro n o b K hn hl hr
    obtain ⟨i, p, k1, _, _, k4, k5, _⟩ := inv n o hn
    exact g.fresh i p b K k1 (k4 ▸ hl) (k5 ▸ hr)
  · intro n o' hn
    obtain ⟨i, p, k1, k2, _, _, k5, _⟩ := inv n o' hn
    have hob := g.obj i p k1
    cases p with
    | dead =>
      obtain rfl := Option.some.inj k2
      trivial
    | var f cs =>
      obtain rfl := Option.some.inj k2
      obtain ⟨b, K, cur, ty, h1, h2, h3⟩ := hob
      exact ⟨b, K, cur, ty, by rw [k5]; exact h1, h2, maskCs_ok R h3⟩
    | arr f e sz rows =>
      obtain rfl := Option.some.inj k2
      rcases hob with ⟨h1, h2⟩ | ⟨b, K, cur, h1, h2⟩
      · exact .inl ⟨by rw [k5]; exact h1, h2⟩
      · exact .inr ⟨b, K, cur, by rw [k5]; exact h1, h2⟩
    | map f kag vag ents =>
      obtain rfl := Option.some.inj k2
      obtain ⟨b, K, es, clock, h1, h2⟩ := hob
      exact ⟨b, K, es, clock, by rw [k5]; exact h1, h2⟩
  · rcases keepEnv_ok (lo := lo) (j := G.ids) (e := st.env) k (ks := G.slots) with h | h
    · show LRep w ok _ _ (keepEnv lo G.ids st.env G.slots k) _
      rw [h]; simp only [LRep]
    · show LRep w ok _ _ (keepEnv lo G.ids st.env G.slots k) _
      rw [h]; exact maskL_ok R (g.env k)
end
end Go.Proofs.Ytehcfmohjcjmpaa.Sx
