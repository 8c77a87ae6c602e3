/- Diagrams that are well formed, in plain words. -/
import Derived.Test.YtehcfmohjcjmpaaSxFormr
namespace Go.Proofs.Ytehcfmohjcjmpaa.Sx
open Go
/-! ### names that rise -/
def ltI (a b : ID) : Prop := a.s < b.s ∨ a.s = b.s ∧ a.n < b.n
theorem ltI_trans {a b c : ID} (h : ltI a b) (h' : ltI b c) : ltI a c := by unfold ltI at *; omega
theorem ltI_irrefl (a : ID) : ¬ ltI a a := by unfold ltI; omega
theorem ltI_ne {a b : ID} (h : ltI a b) : a ≠ b := fun e => ltI_irrefl b (e ▸ h)
theorem ordI_lt {a b : ID} : ordI a b < 0 ↔ ltI a b := by
  rcases ordI_cases a b with ⟨h, rfl⟩ | ⟨h, h'⟩ | ⟨h, h'⟩
  · rw [h]; constructor
    · intro h; omega
    · intro h; exact absurd h (ltI_irrefl _)
  · rw [h]; exact ⟨fun _ => h', fun _ => by omega⟩
  · rw [h]; constructor
    · intro h; omega
    · intro h; unfold ltI at h; omega
def Rise (l : List ID) : Prop := (∀ x ∈ l, mayI x = true) ∧ l.Pairwise ltI
theorem pair_of_next {α : Type} {R : α → α → Prop} (ht : ∀ a b c, R a b → R b c → R a c) {l : List α} (h : ∀ (i : Nat) (hi : i + 1 < l.length), R l[i] l[i + 1]) : l.Pairwise R := by
  rw [List.pairwise_iff_getElem]
  intro i j hi hj hij
  induction j with
  | zero => omega
  | succ j ih =>
    by_cases e : i = j
    · subst e; exact h i hj
    · exact ht _ _ _ (ih (by omega) (by omega)) (h j hj)
theorem riseI_iff (l : List ID) : riseI l = true ↔ Rise l := by
  constructor
  · intro h
    unfold riseI at h
    rw [List.all_eq_true] at h
    have hb : ∀ i, i < l.length → badR l i = false := fun i hi => by simpa using h i (List.mem_range.2 hi)
    refine ⟨fun x hx => ?_, pair_of_next (R := ltI) (fun a b c => ltI_trans) fun i hi => ?_⟩
    · obtain ⟨i, hi, rfl⟩ := List.mem_iff_getElem.1 hx
      exact (badR_no hi (hb i hi)).1
    · exact ordI_lt.1 ((badR_no hi (hb _ hi)).2 i rfl)
  · rintro ⟨h1, h2⟩
    refine riseI_true fun i hi => ?_
    cases hb : badR l i with
    | false => rfl
    | true =>
      obtain ⟨j, rfl, hj⟩ := badR_yes hi hb (h1 _ (List.getElem_mem hi))
      have := ordI_lt.2 (List.pairwise_iff_getElem.1 h2 j (j + 1) (by omega) hi (by omega))
      omega
theorem Rise.nodup {l : List ID} (h : Rise l) : l.Nodup := h.2.imp fun h => ltI_ne h
theorem riseI_ff {l : List ID} : riseI l = false ↔ ¬ Rise l := by rw [← riseI_iff]; simp
/-! ### the darts of edges -/
def dartsE (es : List Ed) : List Dart := es.flatMap fun e => [⟨e.id, 0⟩, ⟨e.id, 1⟩]
theorem dartsE_mem {es : List Ed} {x : Dart} : x ∈ dartsE es ↔ ∃ e ∈ es, x = ⟨e.id, 0⟩ ∨ x = ⟨e.id, 1⟩ := by
  unfold dartsE; rw [List.mem_flatMap]; simp
theorem dartsE_len (es : List Ed) : (dartsE es).length = 2 * es.length := by
  unfold dartsE
  induction es with
  | nil => rfl
  | cons e es ih => rw [List.flatMap_cons, List.length_append, ih]; simp; omega
theorem dartsE_nodup : ∀ {es : List Ed}, (es.map Ed.id).Nodup → (dartsE es).Nodup
  | [], _ => by simp [dartsE]
  | e :: es, h => by
    rw [List.map_cons, List.nodup_cons] at h
    unfold dartsE
    rw [List.flatMap_cons, List.nodup_append]
    refine ⟨by simp, dartsE_nodup h.2, fun a ha b hb => ?_⟩
    obtain ⟨f, hf, hb⟩ := dartsE_mem.1 hb
    have hne : f.id ≠ e.id := fun he => h.1 (he ▸ List.mem_map.2 ⟨f, hf, rfl⟩)
    rintro rfl
    simp at ha
    rcases ha with rfl | rfl <;> simp at hb <;> exact hne hb.symm
theorem leftE_iff {es : List Ed} {x : Dart} : x ∈ leftE es ↔ x ∈ dartsE es := by rw [leftE_mem, dartsE_mem]
/-! ### well formed -/
structure WF (l : List Vx) (es : List Ed) : Prop where
  lv : l.length ≤ 24
  le : es.length ≤ 40
  sv : Rise (l.map Vx.id)
  se : Rise (es.map Ed.id)
  tn : ∀ v ∈ l, v.ring = turn v.ring
  nd : (allR l).Nodup
  mem : ∀ x, x ∈ allR l ↔ x ∈ dartsE es
theorem nodup_count1 {α : Type} [DecidableEq α] {l : List α} (h : ∀ x ∈ l, l.count x = 1) : l.Nodup :=
  List.nodup_iff_count.2 fun x => by
    by_cases hx : x ∈ l
    · rw [h x hx]; exact Nat.le_refl _
    · rw [List.count_eq_zero_of_not_mem hx]; omega
theorem wf_of {l : List Vx} {es : List Ed} (h1 : l.length ≤ 24) (h2 : es.length ≤ 40) (h3 : riseI (l.map Vx.id) = true) (h4 : riseI (es.map Ed.id) = true) (h5 : ringsB l es = true) : WF l es := by
  obtain ⟨a, b, c⟩ := (ringsB_iff l es).1 h5
  have hm : ∀ x, x ∈ allR l ↔ x ∈ dartsE es := fun x => by
    constructor
    · intro hx; exact leftE_iff.1 (b x hx)
    · intro hx
      have := c x (leftE_iff.2 hx)
      exact List.count_pos_iff.1 (by omega)
  exact ⟨h1, h2, (riseI_iff _).1 h3, (riseI_iff _).1 h4, a, nodup_count1 fun x hx => c x (b x hx), hm⟩
theorem WF.rings {l : List Vx} {es : List Ed} (h : WF l es) : ringsB l es = true :=
  (ringsB_iff l es).2 ⟨h.tn, fun x hx => leftE_iff.2 ((h.mem x).1 hx), fun x hx => count_one h.nd ((h.mem x).2 (leftE_iff.1 hx))⟩
theorem formC_wf {l : List Vx} {es : List Ed} (h : WF l es) : formC l es = if labB l es then 4 else if attB l es then 1 else 0 := by
  unfold formC
  rw [if_neg (by have := h.lv; have := h.le; omega), if_neg]
  rw [(riseI_iff _).2 h.sv, (riseI_iff _).2 h.se, h.rings]; simp
theorem formC_no {l : List Vx} {es : List Ed} (h1 : l.length ≤ 24) (h2 : es.length ≤ 40) (h : ¬ WF l es) : formC l es = 10 := by
  unfold formC
  rw [if_neg (by omega), if_pos]
  cases a : riseI (l.map Vx.id) with
  | false => exact .inl rfl
  | true => cases b : riseI (es.map Ed.id) with
    | false => exact .inr (.inl rfl)
    | true => cases c : ringsB l es with
      | false => exact .inr (.inr rfl)
      | true => exact absurd (wf_of h1 h2 a b c) h
theorem formC_big {l : List Vx} {es : List Ed} (h : 24 < l.length ∨ 40 < es.length) : formC l es = 3 := by
  unfold formC; rw [if_pos (by omega)]
theorem formC_cases (l : List Vx) (es : List Ed) : formC l es = 3 ∨ formC l es = 10 ∨ WF l es ∧ (formC l es = 4 ∧ labB l es = true ∨ formC l es = 1 ∧ labB l es = false ∧ attB l es = true ∨ formC l es = 0 ∧ labB l es = false ∧ attB l es = false) := by
  by_cases hb : 24 < l.length ∨ 40 < es.length
  · exact .inl (formC_big hb)
  · by_cases hw : WF l es
    · refine .inr (.inr ⟨hw, ?_⟩)
      rw [formC_wf hw]
      cases labB l es <;> cases attB l es <;> simp
    · exact .inr (.inl (formC_no (by omega) (by omega) hw))
theorem formC_ok {l : List Vx} {es : List Ed} : formC l es = 0 ↔ WF l es ∧ labB l es = false ∧ attB l es = false := by
  constructor
  · intro h
    rcases formC_cases l es with h' | h' | ⟨hw, h' | h' | h'⟩
    · omega
    · omega
    · omega
    · omega
    · exact ⟨hw, h'.2⟩
  · rintro ⟨hw, h1, h2⟩
    rw [formC_wf hw, h1, h2]; rfl
/-! ### what is found in a diagram that is well formed -/
theorem firstBy_of {α : Type} {p : α → Bool} {l : List α} {x : α} (hx : x ∈ l) (hp : p x = true) (h1 : ∀ y ∈ l, p y = true → y = x) : firstBy p l = some x := by
  cases h : firstBy p l with
  | none => rw [firstBy_no h x hx] at hp; cases hp
  | some y => rw [h1 y (firstBy_mem h).1 (firstBy_mem h).2]
theorem inj_of_nodup {α β : Type} {f : α → β} : ∀ {l : List α}, (l.map f).Nodup → ∀ {x y : α}, x ∈ l → y ∈ l → f x = f y → x = y
  | a :: l, h, x, y, hx, hy, e => by
    rw [List.map_cons, List.nodup_cons] at h
    rcases List.mem_cons.1 hx with e1 | hx <;> rcases List.mem_cons.1 hy with e2 | hy
    · rw [e1, e2]
    · exact absurd (List.mem_map.2 ⟨y, hy, by rw [← e, e1]⟩) h.1
    · exact absurd (List.mem_map.2 ⟨x, hx, by rw [e, e2]⟩) h.1
    · exact inj_of_nodup h.2 hx hy e
section
variable {l : List Vx} {es : List Ed}
theorem vxBy_mem (h : Rise (l.map Vx.id)) {v : Vx} (hv : v ∈ l) : vxBy l v.id = some v :=
  firstBy_of hv (decide_eq_true rfl) fun y hy e => inj_of_nodup h.nodup hy hv (of_decide_eq_true e)
theorem edBy_mem (h : Rise (es.map Ed.id)) {e : Ed} (he : e ∈ es) : edBy es e.id = some e :=
  firstBy_of he (decide_eq_true rfl) fun y hy e' => inj_of_nodup h.nodup hy he (of_decide_eq_true e')
theorem vxBy_some {x : ID} {v : Vx} (h : vxBy l x = some v) : v ∈ l ∧ v.id = x := ⟨(firstBy_mem h).1, by simpa using (firstBy_mem h).2⟩
theorem edBy_some {x : ID} {v : Ed} (h : edBy es x = some v) : v ∈ es ∧ v.id = x := ⟨(firstBy_mem h).1, by simpa using (firstBy_mem h).2⟩
theorem vxBy_none {x : ID} (h : vxBy l x = none) : x ∉ l.map Vx.id := fun hx => by
  obtain ⟨v, hv, rfl⟩ := List.mem_map.1 hx
  simpa using firstBy_no h v hv
theorem edBy_none {x : ID} (h : edBy es x = none) : x ∉ es.map Ed.id := fun hx => by
  obtain ⟨v, hv, rfl⟩ := List.mem_map.1 hx
  simpa using firstBy_no h v hv
theorem atBy_some {x : Dart} {v : Vx} (h : atBy l x = some v) : v ∈ l ∧ x ∈ v.ring := ⟨(firstBy_mem h).1, by simpa using (firstBy_mem h).2⟩
theorem atBy_none {x : Dart} (h : atBy l x = none) : x ∉ allR l := fun hx => by
  obtain ⟨v, hv, hx⟩ := (allR_mem l x).1 hx
  have := firstBy_no h v hv
  simp at this
  exact this hx
/-- rings share no dart -/
theorem ring_one : ∀ {l : List Vx}, (allR l).Nodup → ∀ {x : Dart} {i j : Nat} (hi : i < l.length) (hj : j < l.length), x ∈ l[i].ring → x ∈ l[j].ring → i = j
  | v :: l, h, x, i, j, hi, hj, h1, h2 => by
    unfold allR at h
    rw [List.map_cons, List.flatten_cons, List.nodup_append] at h
    have key : ∀ k (hk : k < l.length), x ∈ v.ring → x ∈ l[k].ring → False := fun k hk a b => h.2.2 x a x ((allR_mem l x).2 ⟨_, List.getElem_mem hk, b⟩) rfl
    cases i with
    | zero => cases j with
      | zero => rfl
      | succ j => exact (key j (by simpa using hj) (by simpa using h1) (by simpa using h2)).elim
    | succ i => cases j with
      | zero => exact (key i (by simpa using hi) (by simpa using h2) (by simpa using h1)).elim
      | succ j => exact congrArg (· + 1) (ring_one (l := l) h.2.1 (x := x) (i := i) (j := j) (by simpa using hi) (by simpa using hj) (by simpa using h1) (by simpa using h2))
theorem at_one (h : (allR l).Nodup) {x : Dart} {v w : Vx} (hv : v ∈ l) (hw : w ∈ l) (h1 : x ∈ v.ring) (h2 : x ∈ w.ring) : v = w := by
  obtain ⟨i, hi, rfl⟩ := List.mem_iff_getElem.1 hv
  obtain ⟨j, hj, rfl⟩ := List.mem_iff_getElem.1 hw
  have e := ring_one h hi hj h1 h2
  simp only [e]
theorem atBy_mem (h : (allR l).Nodup) {x : Dart} {v : Vx} (hv : v ∈ l) (hx : x ∈ v.ring) : atBy l x = some v :=
  firstBy_of hv (decide_eq_true hx) fun y hy e => at_one h hy hv (of_decide_eq_true e) hx
theorem len_of_mem {α : Type} [DecidableEq α] {a b : List α} (ha : a.Nodup) (hb : b.Nodup) (h : ∀ x, x ∈ a ↔ x ∈ b) : a.length = b.length :=
  ((List.perm_ext_iff_of_nodup ha hb).2 h).length_eq
theorem WF.many (h : WF l es) : (allR l).length = 2 * es.length := by
  rw [len_of_mem h.nd (dartsE_nodup h.se.nodup) h.mem, dartsE_len]
end
end Go.Proofs.Ytehcfmohjcjmpaa.Sx
