/- Rings in plain Lean: what the program's map says is what the reference counts. -/
import Derived.Test.YtehcfmohjcjmpaaSxMapD
namespace Go.Proofs.Ytehcfmohjcjmpaa.Sx
open Go
theorem eat_some : ∀ (r s s' : List Dart), s.Nodup → eat s r = some s' → s'.Nodup ∧ (∀ x, x ∈ s' ↔ x ∈ s ∧ x ∉ r) ∧ r.Nodup ∧ ∀ x ∈ r, x ∈ s
  | [], s, s', hs, h => by
    simp only [eat] at h
    obtain rfl := Option.some.inj h
    exact ⟨hs, fun x => by simp, by simp, by simp⟩
  | y :: r, s, s', hs, h => by
    simp only [eat] at h
    split at h
    · rename_i hy
      obtain ⟨h1, h2, h3, h4⟩ := eat_some r (s.erase y) s' (hs.erase y) h
      have hmem : ∀ x, x ∈ s.erase y ↔ x ≠ y ∧ x ∈ s := fun x => hs.mem_erase_iff
      refine ⟨h1, fun x => ?_, ?_, ?_⟩
      · rw [h2, hmem]; simp only [List.mem_cons, not_or]
        constructor
        · rintro ⟨⟨a, b⟩, c⟩; exact ⟨b, a, c⟩
        · rintro ⟨b, a, c⟩; exact ⟨⟨a, b⟩, c⟩
      · rw [List.nodup_cons]
        exact ⟨fun hm => ((hmem y).1 (h4 y hm)).1 rfl, h3⟩
      · intro x hx
        rcases List.mem_cons.1 hx with rfl | hx
        · exact hy
        · exact ((hmem x).1 (h4 x hx)).2
    · cases h
theorem eat_none : ∀ (r s : List Dart), s.Nodup → eat s r = none → ¬ (r.Nodup ∧ ∀ x ∈ r, x ∈ s)
  | [], s, _, h => by simp [eat] at h
  | y :: r, s, hs, h => by
    simp only [eat] at h
    rintro ⟨h1, h2⟩
    rw [List.nodup_cons] at h1
    rw [if_pos (h2 y (by simp))] at h
    refine eat_none r (s.erase y) (hs.erase y) h ⟨h1.2, fun x hx => ?_⟩
    rw [hs.mem_erase_iff]
    exact ⟨fun e => h1.1 (e ▸ hx), h2 x (by simp [hx])⟩
def allR (l : List Vx) : List Dart := (l.map Vx.ring).flatten
def turned (l : List Vx) : Prop := ∀ v ∈ l, v.ring = turn v.ring
theorem eatV_some : ∀ (l : List Vx) (s s' : List Dart), s.Nodup → eatV s l = some s' → s'.Nodup ∧ (∀ x, x ∈ s' ↔ x ∈ s ∧ x ∉ allR l) ∧ (allR l).Nodup ∧ (∀ x ∈ allR l, x ∈ s) ∧ turned l
  | [], s, s', hs, h => by
    simp only [eatV] at h
    obtain rfl := Option.some.inj h
    exact ⟨hs, fun x => by simp [allR], by simp [allR], by simp [allR], fun v hv => by cases hv⟩
  | v :: l, s, s', hs, h => by
    simp only [eatV] at h
    split at h
    · rename_i ht
      split at h
      · rename_i s2 he
        obtain ⟨a1, a2, a3, a4⟩ := eat_some _ _ _ hs he
        obtain ⟨b1, b2, b3, b4, b5⟩ := eatV_some l s2 s' a1 h
        have hall : allR (v :: l) = v.ring ++ allR l := by simp [allR]
        rw [hall]
        refine ⟨b1, fun x => ?_, ?_, ?_, ?_⟩
        · rw [b2, a2, List.mem_append, not_or, and_assoc]
        · rw [List.nodup_append]
          exact ⟨a3, b3, fun x hx y hy e => by subst e; exact ((a2 x).1 (b4 x hy)).2 hx⟩
        · intro x hx
          rcases List.mem_append.1 hx with hx | hx
          · exact a4 x hx
          · exact ((a2 x).1 (b4 x hx)).1
        · intro w hw
          rcases List.mem_cons.1 hw with rfl | hw
          · exact ht
          · exact b5 w hw
      · cases h
    · cases h
theorem eatV_none : ∀ (l : List Vx) (s : List Dart), s.Nodup → eatV s l = none → ¬ ((allR l).Nodup ∧ (∀ x ∈ allR l, x ∈ s) ∧ turned l)
  | [], s, _, h => by simp [eatV] at h
  | v :: l, s, hs, h => by
    simp only [eatV] at h
    rintro ⟨h1, h2, h3⟩
    have hall : allR (v :: l) = v.ring ++ allR l := by simp [allR]
    rw [hall] at h1 h2
    rw [List.nodup_append] at h1
    rw [if_pos (h3 v (by simp))] at h
    split at h
    · rename_i s2 he
      obtain ⟨a1, a2, a3, a4⟩ := eat_some _ _ _ hs he
      refine eatV_none l s2 a1 h ⟨h1.2.1, fun x hx => ?_, fun w hw => h3 w (by simp [hw])⟩
      rw [a2]
      exact ⟨h2 x (by simp [hx]), fun hv => h1.2.2 x hv x hx rfl⟩
    · rename_i he
      exact eat_none _ _ hs he ⟨h1.1, fun x hx => h2 x (by simp [hx])⟩
theorem addD_mem (s : List Dart) (x y : Dart) : y ∈ addD s x ↔ y ∈ s ∨ y = x := by
  unfold addD; split
  · rename_i h
    constructor
    · exact .inl
    · rintro (h1 | rfl)
      · exact h1
      · exact h
  · simp
theorem addD_nodup {s : List Dart} (h : s.Nodup) (x : Dart) : (addD s x).Nodup := by
  unfold addD; split
  · exact h
  · rename_i hx
    rw [List.nodup_append]
    exact ⟨h, by simp, fun a ha b hb e => by simp at hb; subst hb; subst e; exact hx ha⟩
theorem leftF (es : List Ed) : ∀ s : List Dart, s.Nodup → (es.foldl (fun s e => addD (addD s ⟨e.id, 0⟩) ⟨e.id, 1⟩) s).Nodup ∧ ∀ x, x ∈ es.foldl (fun s e => addD (addD s ⟨e.id, 0⟩) ⟨e.id, 1⟩) s ↔ x ∈ s ∨ ∃ e ∈ es, x = ⟨e.id, 0⟩ ∨ x = ⟨e.id, 1⟩ := by
  induction es with
  | nil => intro s h; exact ⟨h, fun x => by simp⟩
  | cons e es ih =>
    intro s h
    rw [List.foldl_cons]
    obtain ⟨h1, h2⟩ := ih _ (addD_nodup (addD_nodup h ⟨e.id, 0⟩) ⟨e.id, 1⟩)
    refine ⟨h1, fun x => ?_⟩
    rw [h2, addD_mem, addD_mem]
    constructor
    · rintro (((h | h) | h) | ⟨f, hf, h⟩)
      · exact .inl h
      · exact .inr ⟨e, by simp, .inl h⟩
      · exact .inr ⟨e, by simp, .inr h⟩
      · exact .inr ⟨f, by simp [hf], h⟩
    · rintro (h | ⟨f, hf, h⟩)
      · exact .inl (.inl (.inl h))
      · rcases List.mem_cons.1 hf with rfl | hf
        · rcases h with h | h
          · exact .inl (.inl (.inr h))
          · exact .inl (.inr h)
        · exact .inr ⟨f, hf, h⟩
theorem leftE_nodup (es : List Ed) : (leftE es).Nodup := (leftF es [] (by simp)).1
theorem leftE_mem (es : List Ed) (x : Dart) : x ∈ leftE es ↔ ∃ e ∈ es, x = ⟨e.id, 0⟩ ∨ x = ⟨e.id, 1⟩ := by
  have := (leftF es [] (by simp)).2 x
  simpa [leftE] using this
theorem badDart_iff (es : List Ed) (x : Dart) : badDart es x = false ↔ x ∈ leftE es := by
  rw [leftE_mem]
  unfold badDart
  cases hc : edBy es x.e with
  | none =>
    have hno := firstBy_no hc
    constructor
    · intro h; cases h
    · rintro ⟨e, he, h⟩
      have := hno e he
      rcases h with rfl | rfl <;> simp at this
  | some e =>
    obtain ⟨h1, h2⟩ := firstBy_mem hc
    have h2' : e.id = x.e := of_decide_eq_true h2
    constructor
    · intro h
      simp at h
      refine ⟨e, h1, ?_⟩
      have : x.d = 0 ∨ x.d = 1 := by omega
      obtain ⟨xe, xd⟩ := x
      simp only at h2' this
      subst h2'
      rcases this with rfl | rfl
      · left; rfl
      · right; rfl
    · rintro ⟨f, hf, rfl | rfl⟩ <;> rfl
theorem timesN_count (l : List Vx) (x : Dart) : timesN l x = (allR l).count x := by
  induction l with
  | nil => rfl
  | cons v l ih =>
    have e1 : timesN (v :: l) x = v.ring.count x + timesN l x := by simp [timesN]
    have e2 : allR (v :: l) = v.ring ++ allR l := by simp [allR]
    rw [e1, e2, List.count_append, ih]
theorem allR_mem (l : List Vx) (x : Dart) : x ∈ allR l ↔ ∃ v ∈ l, x ∈ v.ring := by
  unfold allR
  rw [List.mem_flatten]
  constructor
  · rintro ⟨r, hr, hx⟩
    obtain ⟨v, hv, rfl⟩ := List.mem_map.1 hr
    exact ⟨v, hv, hx⟩
  · rintro ⟨v, hv, hx⟩
    exact ⟨_, List.mem_map.2 ⟨v, hv, rfl⟩, hx⟩
theorem count_one {l : List Dart} (h : l.Nodup) {x : Dart} (hx : x ∈ l) : l.count x = 1 := by
  have h1 : l.count x ≤ 1 := List.nodup_iff_count.1 h x
  have h2 : 0 < l.count x := List.count_pos_iff.2 hx
  omega
theorem ringsB_iff (l : List Vx) (es : List Ed) : ringsB l es = true ↔ turned l ∧ (∀ x ∈ allR l, x ∈ leftE es) ∧ ∀ x ∈ leftE es, (allR l).count x = 1 := by
  unfold ringsB
  rw [Bool.not_eq_true', Bool.or_eq_false_iff, List.any_eq_false, List.any_eq_false]
  constructor
  · rintro ⟨h1, h2⟩
    refine ⟨fun v hv => ?_, fun x hx => ?_, fun x hx => ?_⟩
    · have := h1 v hv
      unfold badVx at this
      simp at this
      exact this.1
    · obtain ⟨v, hv, hxv⟩ := (allR_mem l x).1 hx
      have := h1 v hv
      unfold badVx at this
      rw [← badDart_iff]
      simp at this
      simpa using this.2 x hxv
    · obtain ⟨e, he, h⟩ := (leftE_mem es x).1 hx
      have := h2 e he
      unfold badEd at this
      simp only [timesN_count] at this
      simp at this
      rcases h with rfl | rfl
      · exact this.1
      · exact this.2
  · rintro ⟨h1, h2, h3⟩
    refine ⟨fun v hv => ?_, fun e he => ?_⟩
    · unfold badVx
      have k1 := h1 v hv
      rw [decide_eq_true k1]
      simp only [Bool.not_true, Bool.false_or]
      rw [Bool.not_eq_true, List.any_eq_false]
      intro x hx
      rw [(badDart_iff es x).2 (h2 x ((allR_mem l x).2 ⟨v, hv, hx⟩))]; simp
    · unfold badEd
      rw [timesN_count, timesN_count, h3 _ ((leftE_mem es _).2 ⟨e, he, .inl rfl⟩), h3 _ ((leftE_mem es _).2 ⟨e, he, .inr rfl⟩)]
      simp
theorem ringsP_iff (l : List Vx) (es : List Ed) : ringsP l es = true ↔ turned l ∧ (∀ x ∈ allR l, x ∈ leftE es) ∧ ∀ x ∈ leftE es, (allR l).count x = 1 := by
  unfold ringsP
  cases hc : eatV (leftE es) l with
  | none =>
    have := eatV_none l _ (leftE_nodup es) hc
    simp only []
    constructor
    · intro h; cases h
    · rintro ⟨h1, h2, h3⟩
      refine absurd ⟨?_, h2, h1⟩ this
      rw [List.nodup_iff_count]
      intro x
      by_cases hx : x ∈ allR l
      · rw [h3 x (h2 x hx)]; exact Nat.le_refl _
      · rw [List.count_eq_zero_of_not_mem hx]; omega
  | some s =>
    obtain ⟨a1, a2, a3, a4, a5⟩ := eatV_some l _ s (leftE_nodup es) hc
    simp only []
    constructor
    · intro h
      have hs : s = [] := List.eq_nil_of_length_eq_zero (by have := of_decide_eq_true h; omega)
      subst hs
      refine ⟨a5, a4, fun x hx => count_one a3 ?_⟩
      by_cases hm : x ∈ allR l
      · exact hm
      · have := (a2 x).2 ⟨hx, hm⟩; cases this
    · rintro ⟨h1, h2, h3⟩
      apply decide_eq_true
      cases s with
      | nil => rfl
      | cons y s =>
        obtain ⟨b1, b2⟩ := (a2 y).1 (by simp)
        have := h3 y b1
        rw [List.count_eq_zero_of_not_mem b2] at this
        cases this
theorem ringsPB (l : List Vx) (es : List Ed) : ringsP l es = ringsB l es := by
  rw [Bool.eq_iff_iff, ringsP_iff, ringsB_iff]
end Go.Proofs.Ytehcfmohjcjmpaa.Sx
