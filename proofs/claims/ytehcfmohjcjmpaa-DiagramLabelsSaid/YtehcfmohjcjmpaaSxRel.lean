/- What the evaluator's values say of the model's: relations between trees, names, objects and a world; how they are carried on. -/
import Derived.Test.YtehcfmohjcjmpaaSxComp
import Derived.Laws.MakeOwn
import Derived.Below
namespace Go.Proofs.Ytehcfmohjcjmpaa.Sx
open Go Go.RowKit

/-! ### trees -/
section
variable (w : World) (ok : Nat → Prop)
mutual
def TRep : TV → Value → Prop
  | .int k n, v => v = .int k n
  | .bool b, v => v = .bool b
  | .str s, v => v = .string s
  | .nilfn, v => v = .nilFunc
  | .sl fl sz rows, v => ∃ a len cap, v = .slice a len cap ∧ len = rows.length ∧ len ≤ cap ∧ cap ≤ maxLen ∧ (∀ e, fl = .tight e → cap = len) ∧ (rows = [] ∨ ∃ b o, a = some ⟨b, o, none⟩ ∧ ok b ∧ RowsRep sz b rows o)
  | .pc cells, v => ∃ b o, v = .pointer (some ⟨b, o, none⟩) ∧ ok b ∧ CellsRep b cells o
  | .fn f caps, v => ∃ cs, v = .func (.func f) #[] cs ∧ ValsRep false caps cs.toList
  | .agg cells, v => ∃ cs, v = .agg cs ∧ ValsRep true cells cs.toList
  | .tup vs, v => ∃ cs, v = .tuple cs ∧ ValsRep false vs cs.toList
def RowsRep (sz b : Nat) : List (List TV) → Nat → Prop
  | [], _ => True
  | r :: rs, o => r.length = sz ∧ CellsRep b r o ∧ RowsRep sz b rs (o + sz)
def CellsRep (b : Nat) : List TV → Nat → Prop
  | [], _ => True
  | t :: ts, o => (∃ v, w.cell? ⟨b, o, none⟩ = some v ∧ v.oneCell' = true ∧ TRep t v) ∧ CellsRep b ts (o + 1)
def ValsRep (one : Bool) : List TV → List Value → Prop
  | [], vs => vs = []
  | t :: ts, vs => ∃ v r, vs = v :: r ∧ (one = true → v.oneCell' = true) ∧ TRep t v ∧ ValsRep one ts r
end
end

/-- on the blocks of ok the world w' is as w was, and they are of ok' -/
def Same (w w' : World) (ok ok' : Nat → Prop) : Prop := ∀ b, ok b → w'.heap[b]? = w.heap[b]? ∧ ok' b
theorem Same.refl (w : World) (ok : Nat → Prop) : Same w w ok ok := fun _ h => ⟨rfl, h⟩
theorem cell_same {w w' : World} {b o : Nat} (h : w'.heap[b]? = w.heap[b]?) : w'.cell? ⟨b, o, none⟩ = w.cell? ⟨b, o, none⟩ := by simp [World.cell?, h]
mutual
theorem TRep.to {w w' : World} {ok ok' : Nat → Prop} (hs : Same w w' ok ok') : ∀ {t : TV} {v : Value}, TRep w ok t v → TRep w' ok' t v
  | .int k n, v, h => by simpa only [TRep] using h
  | .bool b, v, h => by simpa only [TRep] using h
  | .str s, v, h => by simpa only [TRep] using h
  | .nilfn, v, h => by simpa only [TRep] using h
  | .sl fl sz rows, v, h => by
    simp only [TRep] at h ⊢
    obtain ⟨a, len, cap, h1, h2, h3, h3', h4, h5⟩ := h
    refine ⟨a, len, cap, h1, h2, h3, h3', h4, ?_⟩
    rcases h5 with h5 | ⟨b, o, h5, h6, h7⟩
    · exact .inl h5
    · exact .inr ⟨b, o, h5, (hs b h6).2, RowsRep.to hs h6 h7⟩
  | .pc cells, v, h => by
    simp only [TRep] at h ⊢
    obtain ⟨b, o, h1, h2, h3⟩ := h
    exact ⟨b, o, h1, (hs b h2).2, CellsRep.to hs h2 h3⟩
  | .fn f caps, v, h => by
    simp only [TRep] at h ⊢
    obtain ⟨cs, h1, h2⟩ := h
    exact ⟨cs, h1, ValsRep.to hs h2⟩
  | .agg cells, v, h => by
    simp only [TRep] at h ⊢
    obtain ⟨cs, h1, h2⟩ := h
    exact ⟨cs, h1, ValsRep.to hs h2⟩
  | .tup vs, v, h => by
    simp only [TRep] at h ⊢
    obtain ⟨cs, h1, h2⟩ := h
    exact ⟨cs, h1, ValsRep.to hs h2⟩
theorem RowsRep.to {w w' : World} {ok ok' : Nat → Prop} (hs : Same w w' ok ok') {sz b : Nat} (hb : ok b) : ∀ {rows : List (List TV)} {o : Nat}, RowsRep w ok sz b rows o → RowsRep w' ok' sz b rows o
  | [], o, h => by simp only [RowsRep]
  | r :: rs, o, h => by
    simp only [RowsRep] at h ⊢
    exact ⟨h.1, CellsRep.to hs hb h.2.1, RowsRep.to hs hb h.2.2⟩
theorem CellsRep.to {w w' : World} {ok ok' : Nat → Prop} (hs : Same w w' ok ok') {b : Nat} (hb : ok b) : ∀ {cells : List TV} {o : Nat}, CellsRep w ok b cells o → CellsRep w' ok' b cells o
  | [], o, h => by simp only [CellsRep]
  | t :: ts, o, h => by
    simp only [CellsRep] at h ⊢
    obtain ⟨⟨v, h1, h2, h3⟩, h4⟩ := h
    exact ⟨⟨v, (cell_same (hs b hb).1).trans h1, h2, TRep.to hs h3⟩, CellsRep.to hs hb h4⟩
theorem ValsRep.to {w w' : World} {ok ok' : Nat → Prop} (hs : Same w w' ok ok') {one : Bool} : ∀ {ts : List TV} {vs : List Value}, ValsRep w ok one ts vs → ValsRep w' ok' one ts vs
  | [], vs, h => by simpa only [ValsRep] using h
  | t :: ts, vs, h => by
    simp only [ValsRep] at h ⊢
    obtain ⟨v, r, h1, h2, h3, h4⟩ := h
    exact ⟨v, r, h1, h2, TRep.to hs h3, ValsRep.to hs h4⟩
end
/-- rows in a block that need not be of ok: the block itself is as it was -/
theorem CellsRep.at {w w' : World} {ok ok' : Nat → Prop} (hs : Same w w' ok ok') {b : Nat} (hb : w'.heap[b]? = w.heap[b]?) : ∀ {cells : List TV} {o : Nat}, CellsRep w ok b cells o → CellsRep w' ok' b cells o
  | [], o, h => by simp only [CellsRep]
  | t :: ts, o, h => by
    simp only [CellsRep] at h ⊢
    obtain ⟨⟨v, h1, h2, h3⟩, h4⟩ := h
    exact ⟨⟨v, (cell_same hb).trans h1, h2, h3.to hs⟩, CellsRep.at hs hb h4⟩
theorem RowsRep.at {w w' : World} {ok ok' : Nat → Prop} (hs : Same w w' ok ok') {sz b : Nat} (hb : w'.heap[b]? = w.heap[b]?) : ∀ {rows : List (List TV)} {o : Nat}, RowsRep w ok sz b rows o → RowsRep w' ok' sz b rows o
  | [], o, h => by simp only [RowsRep]
  | r :: rs, o, h => by
    simp only [RowsRep] at h ⊢
    exact ⟨h.1, CellsRep.at hs hb h.2.1, RowsRep.at hs hb h.2.2⟩

/-! ### parts of rows and cells -/
theorem CellsRep.get {w : World} {ok : Nat → Prop} {b : Nat} : ∀ {cells : List TV} {o : Nat}, CellsRep w ok b cells o → ∀ (j : Nat) (t : TV), cells[j]? = some t →
    ∃ v, w.cell? ⟨b, o + j, none⟩ = some v ∧ v.oneCell' = true ∧ TRep w ok t v
  | [], o, _, j, t, hj => by simp at hj
  | c :: cs, o, h, 0, t, hj => by
    simp only [CellsRep] at h
    simp only [List.getElem?_cons_zero, Option.some.injEq] at hj
    subst hj
    exact h.1
  | c :: cs, o, h, j + 1, t, hj => by
    simp only [CellsRep] at h
    have := CellsRep.get h.2 j t (by simpa using hj)
    rwa [show o + (j + 1) = o + 1 + j by omega]
theorem CellsRep.of {w : World} {ok : Nat → Prop} {b : Nat} : ∀ {cells : List TV} {o : Nat}, (∀ (j : Nat) (t : TV), cells[j]? = some t →
    ∃ v, w.cell? ⟨b, o + j, none⟩ = some v ∧ v.oneCell' = true ∧ TRep w ok t v) → CellsRep w ok b cells o
  | [], o, _ => by simp only [CellsRep]
  | c :: cs, o, h => by
    simp only [CellsRep]
    refine ⟨by simpa using h 0 c (by simp), CellsRep.of fun j t hj => ?_⟩
    have := h (j + 1) t (by simpa using hj)
    rwa [show o + (j + 1) = o + 1 + j by omega] at this
theorem CellsRep.drop {w : World} {ok : Nat → Prop} {b : Nat} {cells : List TV} {o : Nat} (h : CellsRep w ok b cells o) (k : Nat) : CellsRep w ok b (cells.drop k) (o + k) :=
  CellsRep.of fun j t hj => by
    have := h.get (k + j) t (by simpa [List.getElem?_drop] using hj)
    rwa [show o + (k + j) = o + k + j by omega] at this
theorem CellsRep.take {w : World} {ok : Nat → Prop} {b : Nat} {cells : List TV} {o : Nat} (h : CellsRep w ok b cells o) (k : Nat) : CellsRep w ok b (cells.take k) o :=
  CellsRep.of fun j t hj => by
    rw [List.getElem?_take] at hj
    split at hj
    · exact h.get j t hj
    · cases hj

theorem RowsRep.len {w : World} {ok : Nat → Prop} {sz b : Nat} : ∀ {rows : List (List TV)} {o : Nat}, RowsRep w ok sz b rows o → ∀ r ∈ rows, r.length = sz
  | [], _, _, r, hr => by simp at hr
  | x :: xs, o, h, r, hr => by
    simp only [RowsRep] at h
    rcases List.mem_cons.1 hr with rfl | hr
    · exact h.1
    · exact RowsRep.len h.2.2 r hr
theorem RowsRep.get {w : World} {ok : Nat → Prop} {sz b : Nat} : ∀ {rows : List (List TV)} {o : Nat}, RowsRep w ok sz b rows o → ∀ (i : Nat) (r : List TV), rows[i]? = some r → r.length = sz ∧ CellsRep w ok b r (o + i * sz)
  | [], _, _, i, r, hr => by simp at hr
  | x :: xs, o, h, 0, r, hr => by
    simp only [RowsRep] at h
    simp only [List.getElem?_cons_zero, Option.some.injEq] at hr
    subst hr
    simpa using ⟨h.1, h.2.1⟩
  | x :: xs, o, h, i + 1, r, hr => by
    simp only [RowsRep] at h
    have := RowsRep.get h.2.2 i r (by simpa using hr)
    rwa [show o + (i + 1) * sz = o + sz + i * sz by rw [Nat.add_mul]; omega]
theorem RowsRep.of {w : World} {ok : Nat → Prop} {sz b : Nat} : ∀ {rows : List (List TV)} {o : Nat}, (∀ (i : Nat) (r : List TV), rows[i]? = some r → r.length = sz ∧ CellsRep w ok b r (o + i * sz)) → RowsRep w ok sz b rows o
  | [], _, _ => by simp only [RowsRep]
  | x :: xs, o, h => by
    simp only [RowsRep]
    have h0 := h 0 x (by simp)
    refine ⟨h0.1, by simpa using h0.2, RowsRep.of fun i r hr => ?_⟩
    have := h (i + 1) r (by simpa using hr)
    rwa [show o + (i + 1) * sz = o + sz + i * sz by rw [Nat.add_mul]; omega] at this
theorem RowsRep.drop {w : World} {ok : Nat → Prop} {sz b : Nat} {rows : List (List TV)} {o : Nat} (h : RowsRep w ok sz b rows o) (k : Nat) : RowsRep w ok sz b (rows.drop k) (o + k * sz) :=
  RowsRep.of fun i r hr => by
    have := h.get (k + i) r (by simpa [List.getElem?_drop] using hr)
    rwa [show o + (k + i) * sz = o + k * sz + i * sz by rw [Nat.add_mul]; omega] at this
theorem RowsRep.take {w : World} {ok : Nat → Prop} {sz b : Nat} {rows : List (List TV)} {o : Nat} (h : RowsRep w ok sz b rows o) (k : Nat) : RowsRep w ok sz b (rows.take k) o :=
  RowsRep.of fun i r hr => by
    rw [List.getElem?_take] at hr
    split at hr
    · exact h.get i r hr
    · cases hr

/-- the cells of rows, one behind the other -/
theorem RowsRep.flat {w : World} {ok : Nat → Prop} {sz b : Nat} {rows : List (List TV)} {o : Nat} (h : RowsRep w ok sz b rows o) :
    ∃ vs : List Value, vs.length = rows.length * sz ∧ (∀ (j : Nat) (v : Value), vs[j]? = some v → w.cell? ⟨b, o + j, none⟩ = some v) ∧ (∀ v ∈ vs, v.oneCell' = true) ∧
      (∀ (i : Nat) (r : List TV), rows[i]? = some r → ∀ (j : Nat) (t : TV), r[j]? = some t → ∃ v, vs[i * sz + j]? = some v ∧ TRep w ok t v) := by
  induction rows generalizing o with
  | nil => exact ⟨[], by simp, by simp, by simp, by simp⟩
  | cons r rs ih =>
    simp only [RowsRep] at h
    obtain ⟨hr, hc, hrs⟩ := h
    obtain ⟨vs, h1, h2, h3, h4⟩ := ih hrs
    have hcs : ∃ us : List Value, us.length = sz ∧ (∀ (j : Nat) (v : Value), us[j]? = some v → w.cell? ⟨b, o + j, none⟩ = some v) ∧ (∀ v ∈ us, v.oneCell' = true) ∧
        (∀ (j : Nat) (t : TV), r[j]? = some t → ∃ v, us[j]? = some v ∧ TRep w ok t v) := by
      subst hr
      clear h1 h2 h3 h4 ih hrs vs rs
      induction r generalizing o with
      | nil => exact ⟨[], by simp, by simp, by simp, by simp⟩
      | cons c cs ih =>
        simp only [CellsRep] at hc
        obtain ⟨⟨v, hv1, hv2, hv3⟩, hc⟩ := hc
        obtain ⟨us, h1, h2, h3, h4⟩ := ih hc
        refine ⟨v :: us, by simp [h1], ?_, ?_, ?_⟩
        · intro j u hj
          cases j with
          | zero => simp only [List.getElem?_cons_zero, Option.some.injEq] at hj; subst hj; exact hv1
          | succ j => rw [show o + (j + 1) = o + 1 + j by omega]; exact h2 j u (by simpa using hj)
        · intro u hu
          rcases List.mem_cons.1 hu with rfl | hu
          · exact hv2
          · exact h3 u hu
        · intro j t hj
          cases j with
          | zero => simp only [List.getElem?_cons_zero, Option.some.injEq] at hj; subst hj; exact ⟨v, by simp, hv3⟩
          | succ j => obtain ⟨u, hu, ht⟩ := h4 j t (by simpa using hj); exact ⟨u, by simpa using hu, ht⟩
    obtain ⟨us, g1, g2, g3, g4⟩ := hcs
    refine ⟨us ++ vs, by simp [g1, h1, Nat.add_mul]; omega, ?_, ?_, ?_⟩
    · intro j v hj
      by_cases hlt : j < sz
      · exact g2 j v (by rwa [List.getElem?_append_left (by omega)] at hj)
      · rw [List.getElem?_append_right (by omega), g1] at hj
        have := h2 (j - sz) v hj
        rwa [show o + sz + (j - sz) = o + j by omega] at this
    · intro v hv
      rcases List.mem_append.1 hv with hv | hv
      · exact g3 v hv
      · exact h3 v hv
    · intro i q hi j t hj
      cases i with
      | zero =>
        simp only [List.getElem?_cons_zero, Option.some.injEq] at hi
        subst hi
        obtain ⟨v, hv, ht⟩ := g4 j t hj
        have hlt := (List.getElem?_eq_some_iff.1 hv).1
        exact ⟨v, by rw [show 0 * sz + j = j by omega, List.getElem?_append_left hlt]; exact hv, ht⟩
      | succ i =>
        obtain ⟨v, hv, ht⟩ := h4 i q (by simpa using hi) j t hj
        refine ⟨v, ?_, ht⟩
        rw [List.getElem?_append_right (by rw [g1, Nat.add_mul]; omega), g1, show (i + 1) * sz + j - sz = i * sz + j by rw [Nat.add_mul]; omega]
        exact hv

theorem ValsRep.length {w : World} {ok : Nat → Prop} {one : Bool} : ∀ {ts : List TV} {vs : List Value}, ValsRep w ok one ts vs → vs.length = ts.length
  | [], vs, h => by simp only [ValsRep] at h; simp [h]
  | t :: ts, vs, h => by
    simp only [ValsRep] at h
    obtain ⟨v, r, rfl, _, _, h4⟩ := h
    simp [ValsRep.length h4]
theorem ValsRep.get {w : World} {ok : Nat → Prop} {one : Bool} : ∀ {ts : List TV} {vs : List Value}, ValsRep w ok one ts vs → ∀ (i : Nat) (t : TV), ts[i]? = some t →
    ∃ v, vs[i]? = some v ∧ (one = true → v.oneCell' = true) ∧ TRep w ok t v
  | [], vs, h, i, t, hi => by simp at hi
  | x :: xs, vs, h, 0, t, hi => by
    simp only [ValsRep] at h
    obtain ⟨v, r, rfl, h2, h3, h4⟩ := h
    simp only [List.getElem?_cons_zero, Option.some.injEq] at hi
    subst hi
    exact ⟨v, by simp, h2, h3⟩
  | x :: xs, vs, h, i + 1, t, hi => by
    simp only [ValsRep] at h
    obtain ⟨v, r, rfl, h2, h3, h4⟩ := h
    simpa using ValsRep.get h4 i t (by simpa using hi)
theorem ValsRep.of {w : World} {ok : Nat → Prop} {one : Bool} : ∀ {ts : List TV} {vs : List Value}, vs.length = ts.length → (∀ (i : Nat) (t : TV), ts[i]? = some t →
    ∃ v, vs[i]? = some v ∧ (one = true → v.oneCell' = true) ∧ TRep w ok t v) → ValsRep w ok one ts vs
  | [], vs, hl, _ => by simp only [ValsRep]; exact List.eq_nil_of_length_eq_zero (by simpa using hl)
  | x :: xs, [], hl, _ => by simp at hl
  | x :: xs, v :: vs, hl, h => by
    simp only [ValsRep]
    obtain ⟨u, hu, h2, h3⟩ := h 0 x (by simp)
    simp only [List.getElem?_cons_zero, Option.some.injEq] at hu
    subst hu
    exact ⟨v, vs, rfl, h2, h3, ValsRep.of (by simpa using hl) fun i t hi => by simpa using h (i + 1) t (by simpa using hi)⟩
theorem ValsRep.weak {w : World} {ok : Nat → Prop} {one : Bool} {ts : List TV} {vs : List Value} (h : ValsRep w ok one ts vs) : ValsRep w ok false ts vs :=
  ValsRep.of h.length fun i t hi => by
    obtain ⟨v, h1, _, h3⟩ := h.get i t hi
    exact ⟨v, h1, by simp, h3⟩

/-! ### names -/
abbrev Rho := Nat → Option (Nat × Nat)
def PRep (ρ : Rho) (id off : Nat) (x : Value) : Option Ob → Prop
  | some (.var _ _) => ∃ b K, ρ id = some (b, K) ∧ x = .pointer (some ⟨b, off, none⟩)
  | some .dead => ∃ a, x = .pointer (some a)
  | _ => False
def ERep (ρ : Rho) (id row off : Nat) (x : Value) : Option Ob → Prop
  | some (.arr _ _ sz _) => ∃ b K, ρ id = some (b, K) ∧ x = .pointer (some ⟨b, row * sz + off, none⟩)
  | some .dead => ∃ a, x = .pointer (some a)
  | _ => False
def SRep (ρ : Rho) (id off len : Nat) (x : Value) : Option Ob → Prop
  | some (.arr _ _ sz rows) => ∃ a cap, x = .slice a len cap ∧ off + len ≤ rows.length ∧ len ≤ cap ∧ cap ≤ maxLen ∧
      ((ρ id = none ∧ cap = 0 ∧ off = 0) ∨ ∃ b K, ρ id = some (b, K) ∧ off + cap = K ∧ (a = some ⟨b, off * sz, none⟩ ∨ (cap = 0 ∧ 0 < off)))
  | some .dead => ∃ a cap, x = .slice a len cap ∧ len ≤ cap ∧ cap ≤ maxLen ∧ (len = 0 ∨ a.isSome = true)
  | _ => False
def MRep (ρ : Rho) (id : Nat) (x : Value) : Option Ob → Prop
  | some (.map _ _ _ _) => ∃ b K, ρ id = some (b, K) ∧ x = .map (some b)
  | some .dead => ∃ b, x = .map (some b)
  | _ => False
section
variable (w : World) (ok : Nat → Prop) (ρ : Rho) (h : Hp)
mutual
def LRep : LV → Value → Prop
  | .u, _ => True
  | .v t, x => TRep w ok t x
  | .p id off, x => PRep ρ id off x (h id)
  | .pe id row off, x => ERep ρ id row off x (h id)
  | .s id off len, x => SRep ρ id off len x (h id)
  | .m id, x => MRep ρ id x (h id)
  | .agg cs, x => ∃ vs, x = .agg vs ∧ LReps true cs vs.toList
  | .tup cs, x => ∃ vs, x = .tuple vs ∧ LReps false cs vs.toList
  | .fn f cs, x => ∃ vs, x = .func (.func f) #[] vs ∧ LReps false cs vs.toList
def LReps (one : Bool) : List LV → List Value → Prop
  | [], vs => vs = []
  | l :: ls, vs => ∃ v r, vs = v :: r ∧ (one = true → v.oneCell' = true) ∧ LRep l v ∧ LReps one ls r
end
end

/-- a later heap of names: what is there is of its kind, of its block; or dead -/
def Later (ρ ρ' : Rho) (h h' : Hp) : Prop := ∀ id o, h id = some o → h' id = some .dead ∨ (ρ' id = ρ id ∧
  ((∃ f cs f' cs', o = .var f cs ∧ h' id = some (.var f' cs')) ∨ (∃ f e sz rows f' e' rows', o = .arr f e sz rows ∧ h' id = some (.arr f' e' sz rows') ∧ rows.length ≤ rows'.length) ∨ (o = .dead ∧ h' id = some .dead) ∨ (∃ f k v es f' es', o = .map f k v es ∧ h' id = some (.map f' k v es'))))
theorem Later.refl (ρ : Rho) (h : Hp) : Later ρ ρ h h := fun id o ho => by
  cases o with
  | var f cs => exact .inr ⟨rfl, .inl ⟨f, cs, f, cs, rfl, ho⟩⟩
  | arr f e sz rows => exact .inr ⟨rfl, .inr (.inl ⟨f, e, sz, rows, f, e, rows, rfl, ho, Nat.le_refl _⟩)⟩
  | dead => exact .inl ho
  | map f k v es => exact .inr ⟨rfl, .inr (.inr (.inr ⟨f, k, v, es, f, es, rfl, ho⟩))⟩

theorem MRep.shape {ρ : Rho} {id : Nat} {x : Value} {o : Option Ob} (h : MRep ρ id x o) : ∃ b, x = .map (some b) := by
  unfold MRep at h
  split at h
  · obtain ⟨b, K, _, h2⟩ := h; exact ⟨_, h2⟩
  · exact h
  · exact h.elim
theorem PRep.shape {ρ : Rho} {id off : Nat} {x : Value} {o : Option Ob} (h : PRep ρ id off x o) : ∃ a, x = .pointer (some a) := by
  unfold PRep at h
  split at h
  · obtain ⟨b, K, _, h2⟩ := h; exact ⟨_, h2⟩
  · exact h
  · exact h.elim
theorem ERep.shape {ρ : Rho} {id row off : Nat} {x : Value} {o : Option Ob} (h : ERep ρ id row off x o) : ∃ a, x = .pointer (some a) := by
  unfold ERep at h
  split at h
  · obtain ⟨b, K, _, h2⟩ := h; exact ⟨_, h2⟩
  · exact h
  · exact h.elim
theorem SRep.shape {ρ : Rho} {id off len : Nat} {x : Value} {o : Option Ob} (h : SRep ρ id off len x o) : ∃ a cap, x = .slice a len cap ∧ len ≤ cap ∧ cap ≤ maxLen ∧ (len = 0 ∨ a.isSome = true) := by
  unfold SRep at h
  split at h
  · obtain ⟨a, cap, h2, h3, h4, h5, h6⟩ := h
    refine ⟨a, cap, h2, h4, h5, ?_⟩
    rcases h6 with ⟨_, h6, _⟩ | ⟨b, K, _, h7, rfl | h8⟩
    · exact .inl (by omega)
    · exact .inr rfl
    · exact .inl (by omega)
  · exact h
  · exact h.elim
theorem PRep.to {ρ ρ' : Rho} {h h' : Hp} (hl : Later ρ ρ' h h') {id off : Nat} {x : Value} (hp : PRep ρ id off x (h id)) : PRep ρ' id off x (h' id) := by
  have hsh := hp.shape
  cases ho : h id with
  | none => rw [ho] at hp; exact hp.elim
  | some o =>
    rcases hl id o ho with hd | ⟨hr, hk⟩
    · rw [hd]; exact hsh
    · rcases hk with ⟨f, cs, f', cs', rfl, h'⟩ | ⟨f, e, sz, rows, f', e', rows', rfl, h', _⟩ | ⟨rfl, h'⟩ | ⟨f, k, v, es, f', es', rfl, h'⟩
      · rw [h']; rw [ho] at hp; simp only [PRep] at hp ⊢; rwa [hr]
      · rw [ho] at hp; exact hp.elim
      · rw [h']; exact hsh
      · rw [ho] at hp; exact hp.elim
theorem ERep.to {ρ ρ' : Rho} {h h' : Hp} (hl : Later ρ ρ' h h') {id row off : Nat} {x : Value} (hp : ERep ρ id row off x (h id)) : ERep ρ' id row off x (h' id) := by
  have hsh := hp.shape
  cases ho : h id with
  | none => rw [ho] at hp; exact hp.elim
  | some o =>
    rcases hl id o ho with hd | ⟨hr, hk⟩
    · rw [hd]; exact hsh
    · rcases hk with ⟨f, cs, f', cs', rfl, h'⟩ | ⟨f, e, sz, rows, f', e', rows', rfl, h', _⟩ | ⟨rfl, h'⟩ | ⟨f, k, v, es, f', es', rfl, h'⟩
      · rw [ho] at hp; exact hp.elim
      · rw [h']; rw [ho] at hp; simp only [ERep] at hp ⊢; rwa [hr]
      · rw [h']; exact hsh
      · rw [ho] at hp; exact hp.elim
theorem SRep.to {ρ ρ' : Rho} {h h' : Hp} (hl : Later ρ ρ' h h') {id off len : Nat} {x : Value} (hp : SRep ρ id off len x (h id)) : SRep ρ' id off len x (h' id) := by
  have hsh := hp.shape
  cases ho : h id with
  | none => rw [ho] at hp; exact hp.elim
  | some o =>
    rcases hl id o ho with hd | ⟨hr, hk⟩
    · rw [hd]; exact hsh
    · rcases hk with ⟨f, cs, f', cs', rfl, h'⟩ | ⟨f, e, sz, rows, f', e', rows', rfl, h', hle⟩ | ⟨rfl, h'⟩ | ⟨f, k, v, es, f', es', rfl, h'⟩
      · rw [ho] at hp; exact hp.elim
      · rw [h']; rw [ho] at hp; simp only [SRep] at hp ⊢
        obtain ⟨a, cap, h1, h2, h3⟩ := hp
        refine ⟨a, cap, h1, by omega, ?_⟩
        rwa [hr]
      · rw [h']; exact hsh
      · rw [ho] at hp; exact hp.elim
theorem MRep.to {ρ ρ' : Rho} {h h' : Hp} (hl : Later ρ ρ' h h') {id : Nat} {x : Value} (hp : MRep ρ id x (h id)) : MRep ρ' id x (h' id) := by
  have hsh := hp.shape
  cases ho : h id with
  | none => rw [ho] at hp; exact hp.elim
  | some o =>
    rcases hl id o ho with hd | ⟨hr, hk⟩
    · rw [hd]; exact hsh
    · rcases hk with ⟨f, cs, f', cs', rfl, h'⟩ | ⟨f, e, sz, rows, f', e', rows', rfl, h', _⟩ | ⟨rfl, h'⟩ | ⟨f, k, v, es, f', es', rfl, h'⟩
      · rw [ho] at hp; exact hp.elim
      · rw [ho] at hp; exact hp.elim
      · rw [h']; exact hsh
      · rw [h']; rw [ho] at hp; simp only [MRep] at hp ⊢; rwa [hr]
mutual
theorem LRep.to {w w' : World} {ok ok' : Nat → Prop} {ρ ρ' : Rho} {h h' : Hp} (hs : Same w w' ok ok') (hl : Later ρ ρ' h h') : ∀ {l : LV} {x : Value}, LRep w ok ρ h l x → LRep w' ok' ρ' h' l x
  | .u, x, _ => by simp only [LRep]
  | .v t, x, hx => by simp only [LRep] at hx ⊢; exact hx.to hs
  | .p id off, x, hx => by simp only [LRep] at hx ⊢; exact hx.to hl
  | .pe id row off, x, hx => by simp only [LRep] at hx ⊢; exact hx.to hl
  | .s id off len, x, hx => by simp only [LRep] at hx ⊢; exact hx.to hl
  | .m id, x, hx => by simp only [LRep] at hx ⊢; exact hx.to hl
  | .agg cs, x, hx => by
    simp only [LRep] at hx ⊢
    obtain ⟨vs, h1, h2⟩ := hx
    exact ⟨vs, h1, LReps.to hs hl h2⟩
  | .tup cs, x, hx => by
    simp only [LRep] at hx ⊢
    obtain ⟨vs, h1, h2⟩ := hx
    exact ⟨vs, h1, LReps.to hs hl h2⟩
  | .fn f cs, x, hx => by
    simp only [LRep] at hx ⊢
    obtain ⟨vs, h1, h2⟩ := hx
    exact ⟨vs, h1, LReps.to hs hl h2⟩
theorem LReps.to {w w' : World} {ok ok' : Nat → Prop} {ρ ρ' : Rho} {h h' : Hp} (hs : Same w w' ok ok') (hl : Later ρ ρ' h h') {one : Bool} : ∀ {ls : List LV} {xs : List Value}, LReps w ok ρ h one ls xs → LReps w' ok' ρ' h' one ls xs
  | [], xs, hx => by simpa only [LReps] using hx
  | l :: ls, xs, hx => by
    simp only [LReps] at hx ⊢
    obtain ⟨v, r, h1, h2, h3, h4⟩ := hx
    exact ⟨v, r, h1, h2, LRep.to hs hl h3, LReps.to hs hl h4⟩
end
theorem LReps.length {w : World} {ok : Nat → Prop} {ρ : Rho} {h : Hp} {one : Bool} : ∀ {ls : List LV} {vs : List Value}, LReps w ok ρ h one ls vs → vs.length = ls.length
  | [], vs, hx => by simp only [LReps] at hx; simp [hx]
  | t :: ts, vs, hx => by
    simp only [LReps] at hx
    obtain ⟨v, r, rfl, _, _, h4⟩ := hx
    simp [LReps.length h4]
theorem LReps.get {w : World} {ok : Nat → Prop} {ρ : Rho} {h : Hp} {one : Bool} : ∀ {ls : List LV} {vs : List Value}, LReps w ok ρ h one ls vs → ∀ (i : Nat) (l : LV), ls[i]? = some l →
    ∃ v, vs[i]? = some v ∧ (one = true → v.oneCell' = true) ∧ LRep w ok ρ h l v
  | [], vs, hx, i, t, hi => by simp at hi
  | x :: xs, vs, hx, 0, t, hi => by
    simp only [LReps] at hx
    obtain ⟨v, r, rfl, h2, h3, h4⟩ := hx
    simp only [List.getElem?_cons_zero, Option.some.injEq] at hi
    subst hi
    exact ⟨v, by simp, h2, h3⟩
  | x :: xs, vs, hx, i + 1, t, hi => by
    simp only [LReps] at hx
    obtain ⟨v, r, rfl, h2, h3, h4⟩ := hx
    simpa using LReps.get h4 i t (by simpa using hi)
theorem LReps.of {w : World} {ok : Nat → Prop} {ρ : Rho} {h : Hp} {one : Bool} : ∀ {ls : List LV} {vs : List Value}, vs.length = ls.length → (∀ (i : Nat) (l : LV), ls[i]? = some l →
    ∃ v, vs[i]? = some v ∧ (one = true → v.oneCell' = true) ∧ LRep w ok ρ h l v) → LReps w ok ρ h one ls vs
  | [], vs, hl, _ => by simp only [LReps]; exact List.eq_nil_of_length_eq_zero (by simpa using hl)
  | x :: xs, [], hl, _ => by simp at hl
  | x :: xs, v :: vs, hl, hx => by
    simp only [LReps]
    obtain ⟨u, hu, h2, h3⟩ := hx 0 x (by simp)
    simp only [List.getElem?_cons_zero, Option.some.injEq] at hu
    subst hu
    exact ⟨v, vs, rfl, h2, h3, LReps.of (by simpa using hl) fun i t hi => by simpa using hx (i + 1) t (by simpa using hi)⟩

/-! ### objects -/
def Ob.own : Ob → Bool
  | .var f _ => !f
  | .arr f _ _ _ => !f
  | .map f _ _ _ => !f
  | .dead => false
def Ob.live : Ob → Bool
  | .dead => false
  | _ => true
/-- a value in one piece: cells of an aggregate, or one -/
def PackRep (w : World) (ok : Nat → Prop) (ag : Bool) (cells : List TV) (x : Value) : Prop :=
  if ag = true then ∃ vs, x = .agg vs ∧ ValsRep w ok true cells vs.toList else ∃ t, cells = [t] ∧ x.oneCell' = true ∧ TRep w ok t x
theorem PackRep.to {w w' : World} {ok ok' : Nat → Prop} (hs : Same w w' ok ok') {ag : Bool} {cells : List TV} {x : Value} (h : PackRep w ok ag cells x) : PackRep w' ok' ag cells x := by
  unfold PackRep at h ⊢
  split at h
  · rename_i e
    rw [if_pos e]
    obtain ⟨vs, h1, h2⟩ := h
    exact ⟨vs, h1, h2.to hs⟩
  · rename_i e
    rw [if_neg e]
    obtain ⟨t, h1, h2, h3⟩ := h
    exact ⟨t, h1, h2, h3.to hs⟩
def EntsRep (w : World) (ok : Nat → Prop) (kag vag : Bool) : List (List TV × List TV) → List MapEntry → Prop
  | [], es => es = []
  | x :: r, es => ∃ e r', es = e :: r' ∧ PackRep w ok kag x.1 e.key ∧ PackRep w ok vag x.2 e.val ∧ EntsRep w ok kag vag r r'
theorem EntsRep.to {w w' : World} {ok ok' : Nat → Prop} (hs : Same w w' ok ok') {kag vag : Bool} : ∀ {xs : List (List TV × List TV)} {es : List MapEntry}, EntsRep w ok kag vag xs es → EntsRep w' ok' kag vag xs es
  | [], es, h => h
  | x :: r, es, h => by
    obtain ⟨e, r', h1, h2, h3, h4⟩ := h
    exact ⟨e, r', h1, h2.to hs, h3.to hs, EntsRep.to hs h4⟩
theorem EntsRep.length {w : World} {ok : Nat → Prop} {kag vag : Bool} : ∀ {xs : List (List TV × List TV)} {es : List MapEntry}, EntsRep w ok kag vag xs es → es.length = xs.length
  | [], es, h => by
    have h : es = [] := h
    simp [h]
  | x :: r, es, h => by
    obtain ⟨e, r', rfl, h2, h3, h4⟩ := h
    simp [EntsRep.length h4]
def ORep (w : World) (ok : Nat → Prop) (ρ : Rho) (h : Hp) (id : Nat) : Ob → Prop
  | .var _ cs => ∃ b K cur ty, ρ id = some (b, K) ∧ w.heap[b]? = some (.cells cur ty (0, 0)) ∧ LReps w ok ρ h true cs cur.toList
  | .arr _ e sz rows => (ρ id = none ∧ rows = []) ∨ ∃ b K cur, ρ id = some (b, K) ∧ w.heap[b]? = some (.cells cur e (0, 0)) ∧ cur.size = K * sz ∧ K ≤ maxLen ∧ rows.length ≤ K ∧ RowsRep w ok sz b rows 0
  | .map _ kag vag ents => ∃ b K es clock, ρ id = some (b, K) ∧ w.heap[b]? = some (.map es clock) ∧ EntsRep w ok kag vag ents es.toList ∧ (∀ e ∈ es.toList, e.born < clock) ∧ (es.toList.map (·.born)).Nodup
  | .dead => True
/-- ok: blocks that no own object holds -/
def Free (w : World) (ok : Nat → Prop) (ρ : Rho) (h : Hp) : Prop := ∀ b, ok b → b < w.heap.size ∧ ∀ id o K, h id = some o → o.own = true → ρ id ≠ some (b, K)

/-- The evaluator's state st says of the frame's slots and the world what is so. -/
structure Gam (N : Nat) (w0 : World) (ok0 : Nat → Prop) (st : St) (ok : Nat → Prop) (ρ : Rho) (a : Act) (w : World) : Prop where
  below : Below w0.heap.size w0 w
  old : ∀ b, ok b → b < w0.heap.size → ok0 b
  size : a.tmps.size = N
  defers : a.defers = []
  free : Free w ok ρ st.hp
  inj : ∀ i j o o' b K K', st.hp i = some o → st.hp j = some o' → o.live = true → o'.live = true → ρ i = some (b, K) → ρ j = some (b, K') → i = j
  fresh : ∀ i o b K, st.hp i = some o → o.live = true → ρ i = some (b, K) → w0.heap.size ≤ b ∧ b < w.heap.size
  obj : ∀ i o, st.hp i = some o → ORep w ok ρ st.hp i o
  env : ∀ k, LRep w ok ρ st.hp (st.env k) (a.tmps.getD k undef)

end Go.Proofs.Ytehcfmohjcjmpaa.Sx
