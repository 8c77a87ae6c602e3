/- How the relation is carried over what an operation does. -/
import Derived.Test.YtehcfmohjcjmpaaSxRel
namespace Go.Proofs.Ytehcfmohjcjmpaa.Sx
open Go Go.RowKit

theorem upd_same {α : Type} (f : Nat → α) (i : Nat) (x : α) : upd f i x i = x := by simp [upd]
theorem upd_ne {α : Type} (f : Nat → α) {i j : Nat} (x : α) (h : j ≠ i) : upd f i x j = f j := by simp [upd, h]

theorem put_getD (a : Act) (d k : Nat) (v : Value) (hd : d < a.tmps.size) : (a.put (some d) v).tmps.getD k undef = if k = d then v else a.tmps.getD k undef := by
  simp only [Act.put, Array.getD_eq_getD_getElem?, Array.getElem?_setIfInBounds]
  by_cases h : d = k
  · subst h; simp [hd]
  · rw [if_neg h, if_neg (fun e => h e.symm)]

section
variable {N : Nat} {w0 : World} {ok0 : Nat → Prop} {st : St} {ok : Nat → Prop} {ρ : Rho} {a : Act} {w : World}

/-- a slot more is known -/
theorem Gam.put (g : Gam N w0 ok0 st ok ρ a w) {d : Nat} (hd : d < N) {l : LV} {v : Value} (hl : LRep w ok ρ st.hp l v) : Gam N w0 ok0 (st.set d l) ok ρ (a.put (some d) v) w :=
  { below := g.below, old := g.old, size := by simp [Act.put, g.size], defers := by simp [Act.put, g.defers], free := g.free, inj := g.inj, fresh := g.fresh, obj := g.obj
    env := fun k => by
      rw [put_getD a d k v (by rw [g.size]; exact hd)]
      simp only [St.set, upd]
      split
      · exact hl
      · exact g.env k }

theorem ORep.to {w w' : World} {ok ok' : Nat → Prop} {ρ ρ' : Rho} {h h' : Hp} (hs : Same w w' ok ok') (hl : Later ρ ρ' h h') {id : Nat} {o : Ob} (hr : ρ' id = ρ id)
    (hb : ∀ b K, ρ id = some (b, K) → w'.heap[b]? = w.heap[b]?) (ho : ORep w ok ρ h id o) : ORep w' ok' ρ' h' id o := by
  cases o with
  | dead => trivial
  | var f cs =>
    obtain ⟨b, K, cur, ty, h1, h2, h3⟩ := ho
    exact ⟨b, K, cur, ty, by rw [hr]; exact h1, by rw [hb b K h1]; exact h2, h3.to hs hl⟩
  | arr f e sz rows =>
    rcases ho with ⟨h1, h2⟩ | ⟨b, K, cur, h1, h2, h3, h4, h5, h6⟩
    · exact .inl ⟨by rw [hr]; exact h1, h2⟩
    · exact .inr ⟨b, K, cur, by rw [hr]; exact h1, by rw [hb b K h1]; exact h2, h3, h4, h5, h6.at hs (hb b K h1)⟩
  | map f k v es =>
    obtain ⟨b, K, en, cl, h1, h2, h3, h4⟩ := ho
    exact ⟨b, K, en, cl, by rw [hr]; exact h1, by rw [hb b K h1]; exact h2, h3.to hs, h4⟩

/-- a world that turns nothing of what lay there -/
theorem Gam.world (g : Gam N w0 ok0 st ok ρ a w) {w' : World} (hb : Below w.heap.size w w') : Gam N w0 ok0 st ok ρ a w' := by
  have hsz := hb.size
  have hs : Same w w' ok ok := fun b h => ⟨hb.block b (g.free b h).1, h⟩
  have hl := Later.refl ρ st.hp
  exact {
    below := g.below.trans (hb.mono g.below.size), old := g.old, size := g.size, defers := g.defers
    free := fun b h => ⟨Nat.lt_of_lt_of_le (g.free b h).1 hsz, (g.free b h).2⟩
    inj := g.inj
    fresh := fun i o b K h1 h2 h3 => ⟨(g.fresh i o b K h1 h2 h3).1, Nat.lt_of_lt_of_le (g.fresh i o b K h1 h2 h3).2 hsz⟩
    obj := fun i o h => by
      cases hlv : o.live with
      | false => cases o with
        | dead => trivial
        | var f cs => simp [Ob.live] at hlv
        | arr f e sz rows => simp [Ob.live] at hlv
        | map f k v es => simp [Ob.live] at hlv
      | true => exact (g.obj i o h).to hs hl rfl fun b K hr => hb.block b (g.fresh i o b K h hlv hr).2
    env := fun k => (g.env k).to hs hl }

theorem below_drew (w : World) : Below w.heap.size w w.drew := ⟨rfl, rfl, rfl, Nat.le_refl _, fun _ _ => rfl⟩
theorem Gam.drew (g : Gam N w0 ok0 st ok ρ a w) : Gam N w0 ok0 st ok ρ a w.drew := g.world (below_drew w)

/-- more blocks count as free -/
theorem Gam.grow (g : Gam N w0 ok0 st ok ρ a w) {ok' : Nat → Prop} (h : ∀ b, ok b → ok' b) (hold : ∀ b, ok' b → b < w0.heap.size → ok0 b) (hf : Free w ok' ρ st.hp) : Gam N w0 ok0 st ok' ρ a w := by
  have hs : Same w w ok ok' := fun b hb => ⟨rfl, h b hb⟩
  exact { below := g.below, old := hold, size := g.size, defers := g.defers, free := hf, inj := g.inj, fresh := g.fresh
          obj := fun i o ho => (g.obj i o ho).to hs (Later.refl ρ st.hp) rfl fun _ _ _ => rfl
          env := fun k => (g.env k).to hs (Later.refl ρ st.hp) }

theorem later_new {ρ : Rho} {h : Hp} {k : Nat} (hk : h k = none) (x : Option (Nat × Nat)) (o : Ob) : Later ρ (upd ρ k x) h (upd h k (some o)) := fun id p hp => by
  have hne : id ≠ k := fun e => by rw [e, hk] at hp; cases hp
  rw [upd_ne ρ _ hne, upd_ne h _ hne]
  exact (Later.refl ρ h) id p hp

/-- an object more, in a block that nobody else names -/
theorem Gam.adopt (g : Gam N w0 ok0 st ok ρ a w) {k : Nat} (hk : st.hp k = none) {o : Ob} {x : Option (Nat × Nat)}
    (hx : ∀ b K, x = some (b, K) → w0.heap.size ≤ b ∧ b < w.heap.size ∧ ¬ ok b ∧ ∀ i p K', st.hp i = some p → p.live = true → ρ i ≠ some (b, K'))
    (ho : ORep w ok (upd ρ k x) (upd st.hp k (some o)) k o) : Gam N w0 ok0 { st with hp := upd st.hp k (some o) } ok (upd ρ k x) a w := by
  have hs := Same.refl w ok
  have hl := later_new (ρ := ρ) hk x o
  refine { below := g.below, old := g.old, size := g.size, defers := g.defers, free := ?_, inj := ?_, fresh := ?_, obj := ?_, env := fun k => (g.env k).to hs hl }
  · intro b hb
    refine ⟨(g.free b hb).1, fun id p K hp hown => ?_⟩
    by_cases e : id = k
    · subst e
      rw [upd_same]
      intro hr
      exact (hx b K hr).2.2.1 hb
    · simp only [upd_ne _ _ e] at hp ⊢
      exact (g.free b hb).2 id p K hp hown
  · intro i j p p' b K K' hi hj hpl hpl' hri hrj
    by_cases ei : i = k
    · by_cases ej : j = k
      · rw [ei, ej]
      · subst ei
        rw [upd_same] at hri
        simp only [upd_ne _ _ ej] at hj hrj
        exact absurd hrj ((hx b K hri).2.2.2 j p' K' hj hpl')
    · by_cases ej : j = k
      · subst ej
        rw [upd_same] at hrj
        simp only [upd_ne _ _ ei] at hi hri
        exact absurd hri ((hx b K' hrj).2.2.2 i p K hi hpl)
      · simp only [upd_ne _ _ ei] at hi hri
        simp only [upd_ne _ _ ej] at hj hrj
        exact g.inj i j p p' b K K' hi hj hpl hpl' hri hrj
  · intro i p b K hi hpl hri
    by_cases ei : i = k
    · subst ei
      rw [upd_same] at hri
      exact ⟨(hx b K hri).1, (hx b K hri).2.1⟩
    · simp only [upd_ne _ _ ei] at hi hri
      exact g.fresh i p b K hi hpl hri
  · intro i p hi
    by_cases ei : i = k
    · subst ei
      have hi' : (upd st.hp i (some o)) i = some p := hi
      rw [upd_same] at hi'
      rw [← Option.some.inj hi']
      exact ho
    · simp only [upd_ne _ _ ei] at hi
      exact (g.obj i p hi).to hs hl (upd_ne ρ _ ei) fun _ _ _ => rfl

theorem below_alloc (w : World) (x : Obj) : Below w.heap.size w (w.alloc x) := (Below.refl _ _).alloc (Nat.le_refl _) _

/-- a new block, an object in it -/
theorem Gam.new (g : Gam N w0 ok0 st ok ρ a w) {k : Nat} (hk : st.hp k = none) {o : Ob} (cur : Array Value) (ty : TypeId) (K : Nat)
    (ho : ORep (w.alloc (.cells cur ty)) ok (upd ρ k (some (w.heap.size, K))) (upd st.hp k (some o)) k o) :
    Gam N w0 ok0 { st with hp := upd st.hp k (some o) } ok (upd ρ k (some (w.heap.size, K))) a (w.alloc (.cells cur ty)) := by
  have g' := g.world (below_alloc w (.cells cur ty))
  refine g'.adopt hk (fun b K' hx => ?_) ho
  have hb : w.heap.size = b := by have := Option.some.inj hx; exact congrArg Prod.fst this
  subst hb
  exact ⟨g.below.size, by simp, fun h => Nat.lt_irrefl _ (g.free _ h).1, fun i p K' hi hpl hr => Nat.lt_irrefl _ (g.fresh i p _ K' hi hpl hr).2⟩

theorem later_kind {ρ : Rho} {h : Hp} {id : Nat} {o o' : Ob} (ho : h id = some o)
    (hk : (∃ f cs f' cs', o = .var f cs ∧ o' = .var f' cs') ∨ (∃ f e sz rows f' e' rows', o = .arr f e sz rows ∧ o' = .arr f' e' sz rows' ∧ rows.length ≤ rows'.length) ∨ (∃ f k v es f' es', o = .map f k v es ∧ o' = .map f' k v es')) :
    Later ρ ρ h (upd h id (some o')) := fun j p hp => by
  by_cases e : j = id
  · subst e
    rw [ho] at hp
    obtain rfl := Option.some.inj hp
    rw [upd_same]
    refine .inr ⟨rfl, ?_⟩
    rcases hk with ⟨f, cs, f', cs', h1, h2⟩ | ⟨f, e, sz, rows, f', e', rows', h1, h2, h3⟩ | ⟨f, k, v, es, f', es', h1, h2⟩
    · exact .inl ⟨f, cs, f', cs', h1, by rw [h2]⟩
    · exact .inr (.inl ⟨f, e, sz, rows, f', e', rows', h1, by rw [h2], h3⟩)
    · exact .inr (.inr (.inr ⟨f, k, v, es, f', es', h1, by rw [h2]⟩))
  · rw [upd_ne h _ e]
    exact (Later.refl ρ h) j p hp

/-- an own object is written -/
theorem Gam.turn (g : Gam N w0 ok0 st ok ρ a w) {id : Nat} {o o' : Ob} (ho : st.hp id = some o) (hown : o.own = true) (hown' : o'.own = true) {b K : Nat} (hr : ρ id = some (b, K))
    (hk : (∃ f cs f' cs', o = .var f cs ∧ o' = .var f' cs') ∨ (∃ f e sz rows f' e' rows', o = .arr f e sz rows ∧ o' = .arr f' e' sz rows' ∧ rows.length ≤ rows'.length) ∨ (∃ f k v es f' es', o = .map f k v es ∧ o' = .map f' k v es'))
    {w1 : World} (hbw : Below b w w1) (hother : ∀ k, k ≠ b → w1.heap[k]? = w.heap[k]?) (hsz : w1.heap.size = w.heap.size) (hnew : ORep w1 ok ρ (upd st.hp id (some o')) id o') :
    Gam N w0 ok0 { st with hp := upd st.hp id (some o') } ok ρ a w1 := by
  have hlive : o.live = true := by rcases hk with ⟨f, cs, f', cs', rfl, _⟩ | ⟨f, e, sz, rows, f', e', rows', rfl, _⟩ | ⟨f, k, v, es, f', es', rfl, _⟩ <;> rfl
  have hlive' : o'.live = true := by rcases hk with ⟨f, cs, f', cs', _, rfl⟩ | ⟨f, e, sz, rows, f', e', rows', _, rfl, _⟩ | ⟨f, k, v, es, f', es', _, rfl⟩ <;> rfl
  have hfr := g.fresh id o b K ho hlive hr
  have hnot : ¬ ok b := fun h => (g.free b h).2 id o K ho hown hr
  have hs : Same w w1 ok ok := fun k h => ⟨hother k (fun e => hnot (e ▸ h)), h⟩
  have hl := later_kind (ρ := ρ) ho hk
  refine { below := ?_, old := g.old, size := g.size, defers := g.defers, free := ?_, inj := ?_, fresh := ?_, obj := ?_, env := fun k => (g.env k).to hs hl }
  · exact g.below.trans (hbw.mono hfr.1)
  · intro c hc
    refine ⟨by rw [hsz]; exact (g.free c hc).1, fun i p K' hi hown2 => ?_⟩
    by_cases e : i = id
    · subst e
      exact (g.free c hc).2 i o K' ho hown
    · simp only [upd_ne _ _ e] at hi
      exact (g.free c hc).2 i p K' hi hown2
  · intro i j p p' c K1 K2 hi hj hpl hpl' hri hrj
    have key : ∀ i p, (upd st.hp id (some o')) i = some p → p.live = true → ∃ p, st.hp i = some p ∧ p.live = true := by
      intro i p hi hpl
      by_cases e : i = id
      · subst e; exact ⟨o, ho, hlive⟩
      · simp only [upd_ne _ _ e] at hi; exact ⟨p, hi, hpl⟩
    obtain ⟨q, hq, hql⟩ := key i p hi hpl
    obtain ⟨q', hq', hql'⟩ := key j p' hj hpl'
    exact g.inj i j q q' c K1 K2 hq hq' hql hql' hri hrj
  · intro i p c K' hi hpl hri
    rw [hsz]
    by_cases e : i = id
    · subst e; exact g.fresh i o c K' ho hlive hri
    · simp only [upd_ne _ _ e] at hi
      exact g.fresh i p c K' hi hpl hri
  · intro i p hi
    by_cases e : i = id
    · subst e
      have hi' : (upd st.hp i (some o')) i = some p := hi
      rw [upd_same] at hi'
      rw [← Option.some.inj hi']
      exact hnew
    · simp only [upd_ne _ _ e] at hi
      cases hpl : p.live with
      | false => cases p with
        | dead => trivial
        | var f cs => simp [Ob.live] at hpl
        | arr f e sz rows => simp [Ob.live] at hpl
        | map f k v es => simp [Ob.live] at hpl
      | true => exact (g.obj i p hi).to hs hl rfl fun c K' hc => hother c fun e' => by subst e'; exact e (g.inj i id p o c K' K hi ho hpl hlive hc hr)

theorem Gam.write (g : Gam N w0 ok0 st ok ρ a w) {id : Nat} {o o' : Ob} (ho : st.hp id = some o) (hown : o.own = true) (hown' : o'.own = true) {b K : Nat} (hr : ρ id = some (b, K))
    (hk : (∃ f cs f' cs', o = .var f cs ∧ o' = .var f' cs') ∨ (∃ f e sz rows f' e' rows', o = .arr f e sz rows ∧ o' = .arr f' e' sz rows' ∧ rows.length ≤ rows'.length))
    (cur : Array Value) (hnew : ORep (w.setRow b cur) ok ρ (upd st.hp id (some o')) id o') :
    Gam N w0 ok0 { st with hp := upd st.hp id (some o') } ok ρ a (w.setRow b cur) :=
  g.turn ho hown hown' hr (by rcases hk with h | h; exact .inl h; exact .inr (.inl h)) ⟨rfl, rfl, rfl, by simp, fun k hk => setRow_other w b k cur (by omega)⟩ (fun k hk => setRow_other w b k cur hk) (by simp) hnew

/-- an object that is told no more -/
theorem later_kill {ρ : Rho} {h : Hp} (id : Nat) : Later ρ ρ h (upd h id (some .dead)) := fun j p hp => by
  by_cases e : j = id
  · subst e; rw [upd_same]; exact .inl rfl
  · rw [upd_ne h _ e]; exact (Later.refl ρ h) j p hp
theorem Gam.kill (g : Gam N w0 ok0 st ok ρ a w) (id : Nat) : Gam N w0 ok0 { st with hp := upd st.hp id (some .dead) } ok ρ a w := by
  have hs := Same.refl w ok
  have hl := later_kill (ρ := ρ) (h := st.hp) id
  have key : ∀ i p, (upd st.hp id (some .dead)) i = some p → p.live = true → st.hp i = some p := by
    intro i p hi hpl
    by_cases e : i = id
    · subst e; rw [upd_same] at hi; rw [← Option.some.inj hi] at hpl; cases hpl
    · rwa [upd_ne _ _ e] at hi
  refine { below := g.below, old := g.old, size := g.size, defers := g.defers, free := ?_, inj := ?_, fresh := ?_, obj := ?_, env := fun k => (g.env k).to hs hl }
  · intro c hc
    refine ⟨(g.free c hc).1, fun i p K' hi hown => ?_⟩
    have hpl : p.live = true := by cases p <;> simp_all [Ob.own, Ob.live]
    exact (g.free c hc).2 i p K' (key i p hi hpl) hown
  · intro i j p p' c K1 K2 hi hj hpl hpl' hri hrj
    exact g.inj i j p p' c K1 K2 (key i p hi hpl) (key j p' hj hpl') hpl hpl' hri hrj
  · intro i p c K' hi hpl hri
    exact g.fresh i p c K' (key i p hi hpl) hpl hri
  · intro i p hi
    cases hpl : p.live with
    | false => cases p with
      | dead => trivial
      | var f cs => simp [Ob.live] at hpl
      | arr f e sz rows => simp [Ob.live] at hpl
      | map f k v es => simp [Ob.live] at hpl
    | true => exact (g.obj i p (key i p hi hpl)).to hs hl rfl fun _ _ _ => rfl

/-- an own slice is written in its own block, and goes by another name -/
theorem Gam.moveIn (g : Gam N w0 ok0 st ok ρ a w) {id k : Nat} {o o' : Ob} (hk : (upd st.hp id (some .dead)) k = none) (ho : st.hp id = some o) (hown : o.own = true) (hlive' : o'.live = true) {b K K' : Nat} (hr : ρ id = some (b, K))
    (cur : Array Value) (hnew : ORep (w.setRow b cur) ok (upd ρ k (some (b, K'))) (upd (upd st.hp id (some .dead)) k (some o')) k o') :
    Gam N w0 ok0 { st with hp := upd (upd st.hp id (some .dead)) k (some o') } ok (upd ρ k (some (b, K'))) a (w.setRow b cur) := by
  have hlive : o.live = true := by cases o <;> simp_all [Ob.own, Ob.live]
  have hfr := g.fresh id o b K ho hlive hr
  have hnot : ¬ ok b := fun h => (g.free b h).2 id o K ho hown hr
  have hother : ∀ k, k ≠ b → (w.setRow b cur).heap[k]? = w.heap[k]? := fun k hk => setRow_other w b k cur hk
  have hs : Same w (w.setRow b cur) ok ok := fun k h => ⟨hother k (fun e => hnot (e ▸ h)), h⟩
  have hne : k ≠ id := fun e => by subst e; rw [upd_same] at hk; cases hk
  have hk0 : st.hp k = none := by rwa [upd_ne _ _ hne] at hk
  have hl : Later ρ (upd ρ k (some (b, K'))) st.hp (upd (upd st.hp id (some .dead)) k (some o')) := fun j p hp => by
    have hjk : j ≠ k := fun e => by rw [e, hk0] at hp; cases hp
    rw [upd_ne ρ _ hjk, upd_ne _ _ hjk]
    exact (later_kill (ρ := ρ) (h := st.hp) id) j p hp
  have key : ∀ i p, (upd (upd st.hp id (some .dead)) k (some o')) i = some p → p.live = true → i = k ∧ p = o' ∨ i ≠ k ∧ i ≠ id ∧ st.hp i = some p := by
    intro i p hi hpl
    by_cases e : i = k
    · subst e; rw [upd_same] at hi; exact .inl ⟨rfl, (Option.some.inj hi).symm⟩
    · rw [upd_ne _ _ e] at hi
      by_cases e' : i = id
      · subst e'; rw [upd_same] at hi; rw [← Option.some.inj hi] at hpl; cases hpl
      · rw [upd_ne _ _ e'] at hi; exact .inr ⟨e, e', hi⟩
  have far : ∀ i p c K1, i ≠ id → st.hp i = some p → p.live = true → ρ i = some (c, K1) → c ≠ b := by
    intro i p c K1 hi hp hpl hc e
    subst e
    exact hi (g.inj i id p o c K1 K hp ho hpl hlive hc hr)
  refine { below := ?_, old := g.old, size := g.size, defers := g.defers, free := ?_, inj := ?_, fresh := ?_, obj := ?_, env := fun k => (g.env k).to hs hl }
  · exact g.below.trans ⟨rfl, rfl, rfl, by simp, fun k hk => hother k (by omega)⟩
  · intro c hc
    refine ⟨by simpa using (g.free c hc).1, fun i p K1 hi hown2 => ?_⟩
    have hpl : p.live = true := by cases p <;> simp_all [Ob.own, Ob.live]
    rcases key i p hi hpl with ⟨rfl, rfl⟩ | ⟨h1, h2, h3⟩
    · rw [upd_same]
      intro e
      have : b = c := congrArg Prod.fst (Option.some.inj e)
      exact hnot (this ▸ hc)
    · rw [upd_ne _ _ h1]
      exact (g.free c hc).2 i p K1 h3 hown2
  · intro i j p p' c K1 K2 hi hj hpl hpl' hri hrj
    rcases key i p hi hpl with ⟨rfl, rfl⟩ | ⟨h1, h2, h3⟩
    · rcases key j p' hj hpl' with ⟨rfl, rfl⟩ | ⟨g1, g2, g3⟩
      · rfl
      · rw [upd_same] at hri
        rw [upd_ne _ _ g1] at hrj
        have : b = c := congrArg Prod.fst (Option.some.inj hri)
        exact absurd this.symm (far j p' c K2 g2 g3 hpl' hrj)
    · rcases key j p' hj hpl' with ⟨rfl, rfl⟩ | ⟨g1, g2, g3⟩
      · rw [upd_same] at hrj
        rw [upd_ne _ _ h1] at hri
        have : b = c := congrArg Prod.fst (Option.some.inj hrj)
        exact absurd this.symm (far i p c K1 h2 h3 hpl hri)
      · rw [upd_ne _ _ h1] at hri
        rw [upd_ne _ _ g1] at hrj
        exact g.inj i j p p' c K1 K2 h3 g3 hpl hpl' hri hrj
  · intro i p c K1 hi hpl hri
    simp only [size_setRow]
    rcases key i p hi hpl with ⟨rfl, rfl⟩ | ⟨h1, h2, h3⟩
    · rw [upd_same] at hri
      have : b = c := congrArg Prod.fst (Option.some.inj hri)
      rw [← this]; exact hfr
    · rw [upd_ne _ _ h1] at hri
      exact g.fresh i p c K1 h3 hpl hri
  · intro i p hi
    cases hpl : p.live with
    | false => cases p with
      | dead => trivial
      | var f cs => simp [Ob.live] at hpl
      | arr f e sz rows => simp [Ob.live] at hpl
      | map f k v es => simp [Ob.live] at hpl
    | true =>
      rcases key i p hi hpl with ⟨rfl, rfl⟩ | ⟨h1, h2, h3⟩
      · exact hnew
      · exact (g.obj i p h3).to hs hl (upd_ne ρ _ h1) fun c K1 hc => hother c (far i p c K1 h2 h3 hpl hc)

/-! ### to freeze -/
theorem later_freeze1 {ρ : Rho} {h : Hp} (i : Nat) : Later ρ ρ h (upd h i (frz (h i))) := fun j p hp => by
  by_cases e : j = i
  · subst e
    rw [upd_same, hp]
    refine .inr ⟨rfl, ?_⟩
    cases p with
    | var f cs => exact .inl ⟨f, cs, true, cs, rfl, rfl⟩
    | arr f e sz rows => exact .inr (.inl ⟨f, e, sz, rows, true, e, rows, rfl, rfl, Nat.le_refl _⟩)
    | dead => exact .inr (.inr (.inl ⟨rfl, rfl⟩))
    | map f k v es => exact .inr (.inr (.inr ⟨f, k, v, es, true, es, rfl, rfl⟩))
  · rw [upd_ne h _ e]; exact (Later.refl ρ h) j p hp
theorem ORep.fz {w : World} {ok : Nat → Prop} {ρ : Rho} {h : Hp} {id : Nat} {o : Ob} (ho : ORep w ok ρ h id o) : ORep w ok ρ h id o.freeze := by cases o <;> exact ho
theorem Ob.live_freeze (o : Ob) : o.freeze.live = o.live := by cases o <;> rfl
theorem Ob.own_freeze (o : Ob) : o.freeze.own = false := by cases o <;> rfl
theorem Gam.freeze1 (g : Gam N w0 ok0 st ok ρ a w) (i : Nat) : Gam N w0 ok0 { st with hp := upd st.hp i (frz (st.hp i)) } ok ρ a w := by
  have hs := Same.refl w ok
  have hl := later_freeze1 (ρ := ρ) (h := st.hp) i
  have key : ∀ j p, (upd st.hp i (frz (st.hp i))) j = some p → ∃ q, st.hp j = some q ∧ (p = q ∨ p = q.freeze) := by
    intro j p hp
    by_cases e : j = i
    · subst e
      rw [upd_same] at hp
      cases hq : st.hp j with
      | none => rw [hq] at hp; cases hp
      | some q => rw [hq] at hp; exact ⟨q, rfl, .inr (Option.some.inj hp).symm⟩
    · rw [upd_ne _ _ e] at hp; exact ⟨p, hp, .inl rfl⟩
  have keyl : ∀ j p, (upd st.hp i (frz (st.hp i))) j = some p → p.live = true → ∃ q, st.hp j = some q ∧ q.live = true := by
    intro j p hp hpl
    obtain ⟨q, hq, rfl | rfl⟩ := key j p hp
    · exact ⟨p, hq, hpl⟩
    · exact ⟨q, hq, by rwa [Ob.live_freeze] at hpl⟩
  refine { below := g.below, old := g.old, size := g.size, defers := g.defers, free := ?_, inj := ?_, fresh := ?_, obj := ?_, env := fun k => (g.env k).to hs hl }
  · intro c hc
    refine ⟨(g.free c hc).1, fun j p K' hj hown => ?_⟩
    obtain ⟨q, hq, rfl | rfl⟩ := key j p hj
    · exact (g.free c hc).2 j p K' hq hown
    · rw [Ob.own_freeze] at hown; cases hown
  · intro j1 j2 p p' c K1 K2 hi hj hpl hpl' hri hrj
    obtain ⟨q, hq, hql⟩ := keyl j1 p hi hpl
    obtain ⟨q', hq', hql'⟩ := keyl j2 p' hj hpl'
    exact g.inj j1 j2 q q' c K1 K2 hq hq' hql hql' hri hrj
  · intro j p c K' hj hpl hr
    obtain ⟨q, hq, hql⟩ := keyl j p hj hpl
    exact g.fresh j q c K' hq hql hr
  · intro j p hj
    obtain ⟨q, hq, rfl | rfl⟩ := key j p hj
    · exact (g.obj j p hq).to hs hl rfl fun _ _ _ => rfl
    · exact ((g.obj j q hq).to hs hl rfl fun _ _ _ => rfl).fz
theorem Gam.freezeAll (is : List Nat) : ∀ {st : St}, Gam N w0 ok0 st ok ρ a w → Gam N w0 ok0 { st with hp := freezeAll st.hp is } ok ρ a w := by
  induction is with
  | nil => intro st g; exact g
  | cons i is ih => intro st g; exact ih (g.freeze1 i)
theorem freezeAll_get (is : List Nat) : ∀ (h : Hp) (j : Nat), Sx.freezeAll h is j = h j ∨ ∃ o, h j = some o ∧ Sx.freezeAll h is j = some o.freeze := by
  induction is with
  | nil => intro h j; exact .inl rfl
  | cons i is ih =>
    intro h j
    have hone : upd h i (frz (h i)) j = h j ∨ ∃ o, h j = some o ∧ upd h i (frz (h i)) j = some o.freeze := by
      by_cases e : j = i
      · subst e
        rw [upd_same]
        cases hj : h j with
        | none => exact .inl rfl
        | some o => exact .inr ⟨o, rfl, rfl⟩
      · exact .inl (upd_ne _ _ e)
    have ff : ∀ o : Ob, o.freeze.freeze = o.freeze := fun o => by cases o <;> rfl
    rcases ih (upd h i (frz (h i))) j with h1 | ⟨o, h1, h2⟩
    · rcases hone with h3 | ⟨o, h3, h4⟩
      · exact .inl (h1.trans h3)
      · exact .inr ⟨o, h3, h1.trans h4⟩
    · rcases hone with h3 | ⟨p, h3, h4⟩
      · exact .inr ⟨o, by rw [← h3]; exact h1, h2⟩
      · rw [h4] at h1
        refine .inr ⟨p, h3, ?_⟩
        show Sx.freezeAll _ is j = _
        rw [h2, ← Option.some.inj h1, ff]
theorem freezeAll_mem (is : List Nat) : ∀ (h : Hp) (j : Nat), j ∈ is → ∀ o, Sx.freezeAll h is j = some o → o.own = false := by
  induction is with
  | nil => intro h j hj; simp at hj
  | cons i is ih =>
    intro h j hj o ho
    by_cases hm : j ∈ is
    · exact ih _ j hm o ho
    · have e : j = i := by simpa [hm] using hj
      subst e
      have ho' : Sx.freezeAll (upd h j (frz (h j))) is j = some o := ho
      rcases freezeAll_get is (upd h j (frz (h j))) j with h1 | ⟨p, h1, h2⟩
      · rw [h1, upd_same] at ho'
        cases hj : h j with
        | none => rw [hj] at ho'; cases ho'
        | some q => rw [hj] at ho'; rw [← Option.some.inj ho']; exact Ob.own_freeze q
      · rw [h2] at ho'; rw [← Option.some.inj ho']; exact Ob.own_freeze p
end
end Go.Proofs.Ytehcfmohjcjmpaa.Sx
