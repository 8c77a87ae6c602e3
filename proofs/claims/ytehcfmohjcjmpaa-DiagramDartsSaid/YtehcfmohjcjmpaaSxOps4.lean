/- The evaluator's single operations are sound, the fourth lot: what is laid into memory. -/
import Derived.Test.YtehcfmohjcjmpaaSxOps3
namespace Go.Proofs.Ytehcfmohjcjmpaa.Sx
open Go Go.RowKit

/-- the free blocks, and those of the named objects -/
def okPlus (ok : Nat → Prop) (ρ : Rho) (h : Hp) (is : List Nat) : Nat → Prop := fun b => ok b ∨ ∃ i ∈ is, ∃ o K, h i = some o ∧ o.live = true ∧ ρ i = some (b, K)

section
variable {P : Program} {N : Nat} {w0 : World} {ok0 : Nat → Prop} {st st' : St} {ok : Nat → Prop} {ρ : Rho} {a : Act} {w w' : World}
  {next : Act → World → Prop} {Q : Exit → Act → World → Prop} {o : Oper}

theorem okPlus_mono {h : Hp} {is js : List Nat} (hs : ∀ i ∈ is, i ∈ js) : Same w w (okPlus ok ρ h is) (okPlus ok ρ h js) := fun b hb => ⟨rfl, hb.imp id fun ⟨i, hi, r⟩ => ⟨i, hs i hi, r⟩⟩
theorem okPlus_old {h : Hp} {is : List Nat} : Same w w ok (okPlus ok ρ h is) := fun b hb => ⟨rfl, .inl hb⟩

theorem Gam.frozen (g : Gam N w0 ok0 st ok ρ a w) (is : List Nat) : Gam N w0 ok0 { st with hp := Sx.freezeAll st.hp is } (okPlus ok ρ st.hp is) ρ a w := by
  refine (g.freezeAll is).grow (fun b hb => .inl hb) ?_ ?_
  · intro b hb hlt
    rcases hb with hb | ⟨i, _, ob, K, h1, h2, h3⟩
    · exact g.old b hb hlt
    · have := (g.fresh i ob b K h1 h2 h3).1
      omega
  · intro b hb
    rcases hb with hb | ⟨i, hi, ob, K, h1, h2, h3⟩
    · exact (g.freezeAll is).free b hb
    · refine ⟨(g.fresh i ob b K h1 h2 h3).2, fun j p K' hj hown hr => ?_⟩
      have hj' : Sx.freezeAll st.hp is j = some p := hj
      have hji : j ∉ is := fun hm => by
        have := freezeAll_mem is st.hp j hm p hj'
        rw [this] at hown
        cases hown
      rcases freezeAll_get is st.hp j with e | ⟨q, _, e⟩
      · have hq : st.hp j = some p := by rw [← e]; exact hj'
        have hl : p.live = true := by cases p <;> simp_all [Ob.own, Ob.live]
        have := g.inj i j ob p b K K' h1 hq h2 hl h3 hr
        exact hji (this ▸ hi)
      · rw [e] at hj'
        rw [← Option.some.inj hj', Ob.own_freeze] at hown
        cases hown

theorem freezeAll_none {h : Hp} {is : List Nat} {k : Nat} (hk : freezeAll h is k = none) : h k = none := by
  rcases freezeAll_get is h k with e | ⟨o, _, e⟩
  · rw [← e]; exact hk
  · rw [e] at hk; cases hk

/-! ### values as shared trees -/
theorem solidS_ok (g : Gam N w0 ok0 st ok ρ a w) {id off len : Nat} {t : TV} {is : List Nat} (h : solidS off len id (st.hp id) = some (t, is)) {x : Value} (hx : SRep ρ id off len x (st.hp id)) :
    TRep w (okPlus ok ρ st.hp is) t x ∧ x.oneCell' = true := by
  unfold solidS at h
  split at h
  · rename_i fz e sz rows hid
    simp only [Option.some.injEq, Prod.mk.injEq] at h
    obtain ⟨rfl, rfl⟩ := h
    rw [hid] at hx
    simp only [SRep] at hx
    obtain ⟨ad, cap, rfl, h3, h4, h5, h6⟩ := hx
    refine ⟨?_, rfl⟩
    simp only [TRep]
    refine ⟨ad, len, cap, rfl, by simp; omega, h4, h5, by simp, ?_⟩
    by_cases hz : len = 0
    · left; simp [hz]
    · rcases h6 with ⟨_, h7, _⟩ | ⟨b, K, h7, h8, h9⟩
      · omega
      · rcases h9 with rfl | ⟨h9, _⟩
        · rcases g.obj id _ hid with ⟨h10, _⟩ | ⟨b', K', cur, h10, h11, h12, h13, h14, h15⟩
          · rw [h7] at h10; cases h10
          · rw [h7] at h10
            obtain ⟨rfl, rfl⟩ : b = b' ∧ K = K' := by simpa using h10
            refine .inr ⟨b, off * sz, rfl, .inr ⟨id, by simp, _, K, hid, rfl, h7⟩, ?_⟩
            have := ((h15.drop off).take len).at (okPlus_old (ρ := ρ) (h := st.hp) (is := [id])) rfl
            simpa using this
        · omega
  · cases h

theorem solidCell_ok (g : Gam N w0 ok0 st ok ρ a w) {l : LV} {t : TV} {is : List Nat} (h : solidCell st.hp l = some (t, is)) {x : Value} (hx : LRep w ok ρ st.hp l x) :
    TRep w (okPlus ok ρ st.hp is) t x ∧ x.oneCell' = true := by
  have plain : ∀ {t : TV}, TRep w ok t x → (∀ cs, t ≠ .agg cs) → (∀ cs, t ≠ .tup cs) → TRep w (okPlus ok ρ st.hp []) t x ∧ x.oneCell' = true := fun h h1 h2 => ⟨h.to okPlus_old, (one_of_trep h h1 h2).1⟩
  unfold solidCell at h
  split at h
  case h_8 => simp only [LRep] at hx; exact solidS_ok g h hx
  case h_9 => cases h
  case h_1 =>
    rename_i fl sz rows
    simp only [Option.some.injEq, Prod.mk.injEq] at h
    obtain ⟨rfl, rfl⟩ := h
    obtain ⟨ad, cap, e1, h3, h4, h5, h6⟩ := sl_form hx
    have : TRep w ok (.sl .shared sz rows) x := by
      simp only [TRep]
      exact ⟨ad, _, cap, e1, rfl, h3, h4, by simp, h6⟩
    exact plain this (by simp) (by simp)
  all_goals
    simp only [Option.some.injEq, Prod.mk.injEq] at h
    obtain ⟨rfl, rfl⟩ := h
    exact plain (by simpa only [LRep] using hx) (by simp) (by simp)

theorem solidCells_ok (g : Gam N w0 ok0 st ok ρ a w) {one : Bool} : ∀ {ls : List LV} {ts : List TV} {is : List Nat}, solidCells st.hp ls = some (ts, is) → ∀ {xs : List Value}, LReps w ok ρ st.hp one ls xs →
    ValsRep w (okPlus ok ρ st.hp is) true ts xs
  | [], ts, is, h, xs, hx => by
    simp only [solidCells, Option.some.injEq, Prod.mk.injEq] at h
    obtain ⟨rfl, rfl⟩ := h
    simp only [LReps] at hx
    subst hx
    simp only [ValsRep]
  | l :: ls, ts, is, h, xs, hx => by
    simp only [solidCells] at h
    cases h1 : solidCell st.hp l with
    | none => rw [h1] at h; cases h
    | some p =>
      obtain ⟨t, i⟩ := p
      cases h2 : solidCells st.hp ls with
      | none => rw [h1, h2] at h; cases h
      | some q =>
        obtain ⟨us, j⟩ := q
        rw [h1, h2] at h
        simp only [consS, Option.some.injEq, Prod.mk.injEq] at h
        obtain ⟨rfl, rfl⟩ := h
        simp only [LReps] at hx
        obtain ⟨v, r, rfl, _, h4, h5⟩ := hx
        have k1 := solidCell_ok g h1 h4
        have k2 := solidCells_ok g h2 h5
        simp only [ValsRep]
        exact ⟨v, r, rfl, fun _ => k1.2, k1.1.to (okPlus_mono (by simp +contextual)), k2.to (okPlus_mono (by simp +contextual))⟩

theorem solidP_ok (g : Gam N w0 ok0 st ok ρ a w) {id off : Nat} {t : TV} {is : List Nat} (h : solidP st.hp id off (st.hp id) = some (t, is)) {x : Value} (hx : PRep ρ id off x (st.hp id)) :
    TRep w (okPlus ok ρ st.hp is) t x := by
  unfold solidP at h
  split at h
  · rename_i fz cs hid
    cases h1 : solidCells st.hp (cs.drop off) with
    | none => rw [h1] at h; cases h
    | some p =>
      obtain ⟨ts, js⟩ := p
      rw [h1] at h
      simp only [pcS, Option.some.injEq, Prod.mk.injEq] at h
      obtain ⟨rfl, rfl⟩ := h
      obtain ⟨b, K, h2, rfl⟩ : ∃ b K, ρ id = some (b, K) ∧ x = .pointer (some ⟨b, off, none⟩) := by rw [hid] at hx; exact hx
      obtain ⟨b', K', cur, ty, h3, h4, h5⟩ := g.obj id _ hid
      rw [h2] at h3
      obtain ⟨rfl, rfl⟩ : b = b' ∧ K = K' := by simpa using h3
      have h6 := solidCells_ok g h1 (xs := cur.toList.drop off) (one := true) (LReps.of (by simp [h5.length]) fun i l hi => by
        rw [List.getElem?_drop] at hi ⊢
        exact h5.get _ _ hi)
      simp only [TRep]
      refine ⟨b, off, rfl, .inr ⟨id, by simp, _, K, hid, rfl, h2⟩, CellsRep.of fun j u hj => ?_⟩
      obtain ⟨v, k1, k2, k3⟩ := h6.get j u hj
      rw [List.getElem?_drop] at k1
      exact ⟨v, by rw [cell_of_row w b (off + j) cur ty (0, 0) h4]; simpa using k1, k2 rfl, k3.to (okPlus_mono (by simp +contextual))⟩
  · cases h

theorem solidCap_ok (g : Gam N w0 ok0 st ok ρ a w) {l : LV} {t : TV} {is : List Nat} (h : solidCap st.hp l = some (t, is)) {x : Value} (hx : LRep w ok ρ st.hp l x) :
    TRep w (okPlus ok ρ st.hp is) t x := by
  unfold solidCap at h
  split at h
  · simp only [LRep] at hx; exact solidP_ok g h hx
  · exact (solidCell_ok g h hx).1
theorem solidCaps_ok (g : Gam N w0 ok0 st ok ρ a w) {one : Bool} : ∀ {ls : List LV} {ts : List TV} {is : List Nat}, solidCaps st.hp ls = some (ts, is) → ∀ {xs : List Value}, LReps w ok ρ st.hp one ls xs →
    ValsRep w (okPlus ok ρ st.hp is) false ts xs
  | [], ts, is, h, xs, hx => by
    simp only [solidCaps, Option.some.injEq, Prod.mk.injEq] at h
    obtain ⟨rfl, rfl⟩ := h
    simp only [LReps] at hx
    subst hx
    simp only [ValsRep]
  | l :: ls, ts, is, h, xs, hx => by
    simp only [solidCaps] at h
    cases h1 : solidCap st.hp l with
    | none => rw [h1] at h; cases h
    | some p =>
      obtain ⟨t, i⟩ := p
      cases h2 : solidCaps st.hp ls with
      | none => rw [h1, h2] at h; cases h
      | some q =>
        obtain ⟨us, j⟩ := q
        rw [h1, h2] at h
        simp only [consS, Option.some.injEq, Prod.mk.injEq] at h
        obtain ⟨rfl, rfl⟩ := h
        simp only [LReps] at hx
        obtain ⟨v, r, rfl, _, h4, h5⟩ := hx
        have k1 := solidCap_ok g h1 h4
        have k2 := solidCaps_ok g h2 h5
        simp only [ValsRep]
        exact ⟨v, r, rfl, by simp, k1.to (okPlus_mono (by simp +contextual)), k2.to (okPlus_mono (by simp +contextual))⟩

theorem solidArg_ok (g : Gam N w0 ok0 st ok ρ a w) {l : LV} {t : TV} {is : List Nat} (h : solidArg st.hp l = some (t, is)) {x : Value} (hx : LRep w ok ρ st.hp l x) :
    TRep w (okPlus ok ρ st.hp is) t x := by
  unfold solidArg at h
  split at h
  · rename_i cs
    cases h1 : solidCells st.hp cs with
    | none => rw [h1] at h; cases h
    | some p =>
      obtain ⟨ts, js⟩ := p
      rw [h1] at h
      simp only [aggS, Option.some.injEq, Prod.mk.injEq] at h
      obtain ⟨rfl, rfl⟩ := h
      obtain ⟨vs, rfl, h2⟩ := agg_form hx
      simp only [TRep]
      exact ⟨vs, rfl, solidCells_ok g h1 h2⟩
  · simp only [LRep] at hx; exact solidP_ok g h hx
  · rename_i f caps
    cases h1 : solidCaps st.hp caps with
    | none => rw [h1] at h; cases h
    | some p =>
      obtain ⟨ts, js⟩ := p
      rw [h1] at h
      simp only [fnS, Option.some.injEq, Prod.mk.injEq] at h
      obtain ⟨rfl, rfl⟩ := h
      simp only [LRep] at hx
      obtain ⟨vs, rfl, h2⟩ := hx
      simp only [TRep]
      exact ⟨vs, rfl, solidCaps_ok g h1 h2⟩
  · simp only [Option.some.injEq, Prod.mk.injEq] at h
    obtain ⟨rfl, rfl⟩ := h
    simp only [LRep] at hx
    exact hx.to okPlus_old
  · exact (solidCell_ok g h hx).1
theorem solidArgs_ok (g : Gam N w0 ok0 st ok ρ a w) {one : Bool} : ∀ {ls : List LV} {ts : List TV} {is : List Nat}, solidArgs st.hp ls = some (ts, is) → ∀ {xs : List Value}, LReps w ok ρ st.hp one ls xs →
    ValsRep w (okPlus ok ρ st.hp is) false ts xs
  | [], ts, is, h, xs, hx => by
    simp only [solidArgs, Option.some.injEq, Prod.mk.injEq] at h
    obtain ⟨rfl, rfl⟩ := h
    simp only [LReps] at hx
    subst hx
    simp only [ValsRep]
  | l :: ls, ts, is, h, xs, hx => by
    simp only [solidArgs] at h
    cases h1 : solidArg st.hp l with
    | none => rw [h1] at h; cases h
    | some p =>
      obtain ⟨t, i⟩ := p
      cases h2 : solidArgs st.hp ls with
      | none => rw [h1, h2] at h; cases h
      | some q =>
        obtain ⟨us, j⟩ := q
        rw [h1, h2] at h
        simp only [consS, Option.some.injEq, Prod.mk.injEq] at h
        obtain ⟨rfl, rfl⟩ := h
        simp only [LReps] at hx
        obtain ⟨v, r, rfl, _, h4, h5⟩ := hx
        have k1 := solidArg_ok g h1 h4
        have k2 := solidArgs_ok g h2 h5
        simp only [ValsRep]
        exact ⟨v, r, rfl, by simp, k1.to (okPlus_mono (by simp +contextual)), k2.to (okPlus_mono (by simp +contextual))⟩

/-! ### rows, out of flat cells -/
/-- rows and the cells that stand for them -/
def RowsAre (w : World) (ok : Nat → Prop) (sz : Nat) (rows : List (List TV)) (vs : List Value) : Prop :=
  vs.length = rows.length * sz ∧ (∀ v ∈ vs, v.oneCell' = true) ∧ ∀ (i : Nat) (r : List TV), rows[i]? = some r → r.length = sz ∧ ∀ (j : Nat) (t : TV), r[j]? = some t → ∃ v, vs[i * sz + j]? = some v ∧ TRep w ok t v
theorem RowsAre.to {w w' : World} {ok ok' : Nat → Prop} (hs : Same w w' ok ok') {sz : Nat} {rows : List (List TV)} {vs : List Value} (h : RowsAre w ok sz rows vs) : RowsAre w' ok' sz rows vs :=
  ⟨h.1, h.2.1, fun i r hi => ⟨(h.2.2 i r hi).1, fun j t hj => by obtain ⟨v, h1, h2⟩ := (h.2.2 i r hi).2 j t hj; exact ⟨v, h1, h2.to hs⟩⟩⟩
theorem RowsAre.append {sz : Nat} {r1 r2 : List (List TV)} {v1 v2 : List Value} (h1 : RowsAre w ok sz r1 v1) (h2 : RowsAre w ok sz r2 v2) : RowsAre w ok sz (r1 ++ r2) (v1 ++ v2) := by
  refine ⟨by simp [h1.1, h2.1, Nat.add_mul], fun v hv => ?_, fun i r hi => ?_⟩
  · rcases List.mem_append.1 hv with hv | hv
    · exact h1.2.1 v hv
    · exact h2.2.1 v hv
  · by_cases hlt : i < r1.length
    · rw [List.getElem?_append_left hlt] at hi
      refine ⟨(h1.2.2 i r hi).1, fun j t hj => ?_⟩
      obtain ⟨v, k1, k2⟩ := (h1.2.2 i r hi).2 j t hj
      exact ⟨v, by rw [List.getElem?_append_left (List.getElem?_eq_some_iff.1 k1).1]; exact k1, k2⟩
    · rw [List.getElem?_append_right (by omega)] at hi
      refine ⟨(h2.2.2 _ r hi).1, fun j t hj => ?_⟩
      obtain ⟨v, k1, k2⟩ := (h2.2.2 _ r hi).2 j t hj
      refine ⟨v, ?_, k2⟩
      have e : i * sz + j = v1.length + ((i - r1.length) * sz + j) := by
        rw [h1.1, ← Nat.add_assoc, ← Nat.add_mul]
        congr 2
        omega
      rw [e, List.getElem?_append_right (by omega)]
      simpa using k1
theorem RowsAre.nil {sz : Nat} : RowsAre w ok sz [] [] := ⟨by simp, by simp, by simp⟩
theorem RowsAre.one {r : List TV} {vs : List Value} (h : ValsRep w ok true r vs) : RowsAre w ok r.length [r] vs := by
  refine ⟨by simp [h.length], fun v hv => ?_, fun i q hi => ?_⟩
  · obtain ⟨i, hi, rfl⟩ := List.mem_iff_getElem.1 hv
    have hl := h.length
    obtain ⟨u, h1, h2, _⟩ := h.get i r[i] (by simp [List.getElem?_eq_getElem (show i < r.length by omega)])
    rw [List.getElem?_eq_getElem hi] at h1
    rw [Option.some.inj h1]
    exact h2 rfl
  · match i, hi with
    | 0, hi =>
      obtain rfl : r = q := by simpa using hi
      refine ⟨rfl, fun j t hj => ?_⟩
      obtain ⟨v, h1, _, h3⟩ := h.get j t hj
      exact ⟨v, by simpa using h1, h3⟩
theorem RowsAre.take {sz : Nat} {rows : List (List TV)} {vs : List Value} (h : RowsAre w ok sz rows vs) (k : Nat) : RowsAre w ok sz (rows.take k) (vs.take (k * sz)) := by
  refine ⟨?_, fun v hv => h.2.1 v (List.mem_of_mem_take hv), fun i r hi => ?_⟩
  · rw [List.length_take, List.length_take, h.1]
    rcases Nat.le_total k rows.length with hk | hk
    · rw [Nat.min_eq_left hk, Nat.min_eq_left (Nat.mul_le_mul_right _ hk)]
    · rw [Nat.min_eq_right hk, Nat.min_eq_right (Nat.mul_le_mul_right _ hk)]
  · rw [List.getElem?_take] at hi
    split at hi
    · rename_i hik
      refine ⟨(h.2.2 i r hi).1, fun j t hj => ?_⟩
      obtain ⟨v, k1, k2⟩ := (h.2.2 i r hi).2 j t hj
      refine ⟨v, ?_, k2⟩
      have hj' : j < sz := by rw [← (h.2.2 i r hi).1]; exact (List.getElem?_eq_some_iff.1 hj).1
      have : i * sz + j < k * sz := by
        have : (i + 1) * sz ≤ k * sz := Nat.mul_le_mul_right _ hik
        rw [Nat.add_mul, Nat.one_mul] at this
        omega
      rw [List.getElem?_take, if_pos this]
      exact k1
    · cases hi

/-- what stands in a block, row by row -/
theorem RowsAre.rep {sz b : Nat} {rows : List (List TV)} {vs : List Value} (h : RowsAre w ok sz rows vs) {cur : Array Value} {ty : TypeId} (hb : w.heap[b]? = some (.cells cur ty (0, 0))) (hc : ∀ (j : Nat) (v : Value), vs[j]? = some v → cur[j]? = some v) :
    RowsRep w ok sz b rows 0 :=
  RowsRep.of fun i r hi => by
    refine ⟨(h.2.2 i r hi).1, CellsRep.of fun j t hj => ?_⟩
    obtain ⟨v, k1, k2⟩ := (h.2.2 i r hi).2 j t hj
    refine ⟨v, ?_, h.2.1 v (List.mem_iff_getElem?.2 ⟨_, k1⟩), k2⟩
    rw [show 0 + i * sz + j = i * sz + j by omega, cell_of_row w b _ cur ty (0, 0) hb]
    exact hc _ v k1
theorem RowsRep.are {sz b o' : Nat} {rows : List (List TV)} (h : RowsRep w ok sz b rows o') : ∃ vs : List Value, RowsAre w ok sz rows vs ∧ ∀ (j : Nat) (v : Value), vs[j]? = some v → w.cell? ⟨b, o' + j, none⟩ = some v := by
  obtain ⟨vs, h1, h2, h3, h4⟩ := h.flat
  exact ⟨vs, ⟨h1, h3, fun i r hi => ⟨(h.get i r hi).1, h4 i r hi⟩⟩, h2⟩

theorem solidRows_ok (g : Gam N w0 ok0 st ok ρ a w) {e : TypeId} {sz : Nat} (hsz : 0 < sz) : ∀ {k : Nat} {parts : List (Nat × Operand)} {xs : List X}, rowsFrom P e k parts = some xs →
    ∀ {rows : List (List TV)} {is : List Nat}, solidRows st.hp st.env sz xs = some (rows, is) →
    ∃ us : List Value, us.length = rows.length ∧ parts.map (fun p => (p.1, a.eval p.2)) = (us.zipIdx k).map (fun x => (x.2, x.1)) ∧ (∀ u ∈ us, u.cells.size = sz) ∧ RowsAre w (okPlus ok ρ st.hp is) sz rows (us.flatMap (·.cells.toList))
  | k, [], xs, hx, rows, is, h => by
    simp only [rowsFrom, Option.some.injEq] at hx
    subst hx
    simp only [solidRows, Option.some.injEq, Prod.mk.injEq] at h
    obtain ⟨rfl, rfl⟩ := h
    exact ⟨[], rfl, rfl, by simp, RowsAre.nil⟩
  | k, (i, x) :: ps, xs, hx, rows, is, h => by
    simp only [rowsFrom] at hx
    split at hx
    · rename_i hik
      subst hik
      split at hx
      · rename_i p r hp hr
        obtain rfl := Option.some.inj hx
        simp only [solidRows] at h
        cases h1 : solidCells st.hp (X.rd st.env p).cells with
        | none => rw [h1] at h; cases h
        | some q =>
          obtain ⟨ts, i1⟩ := q
          cases h2 : solidRows st.hp st.env sz r with
          | none => rw [h1, h2] at h; cases h
          | some q =>
            obtain ⟨rs, i2⟩ := q
            rw [h1, h2] at h
            simp only [consR] at h
            split at h
            · rename_i hlen
              simp only [Option.some.injEq, Prod.mk.injEq] at h
              obtain ⟨rfl, rfl⟩ := h
              have hne : (X.rd st.env p).cells ≠ [] := fun e => by
                rw [e] at h1
                simp only [solidCells, Option.some.injEq, Prod.mk.injEq] at h1
                rw [← h1.1] at hlen
                simp at hlen
                omega
              have k1 := solidCells_ok g h1 (cells_ok (rd_ok g hp) hne)
              obtain ⟨us, j1, j2, j3, j4⟩ := solidRows_ok g hsz hr h2
              have hl := k1.length
              refine ⟨a.eval x :: us, by simp [j1], by simp [j2], ?_, ?_⟩
              · intro u hu
                rcases List.mem_cons.1 hu with rfl | hu
                · rw [← hlen, ← hl]; simp
                · exact j3 u hu
              · have m1 : RowsAre w (okPlus ok ρ st.hp (i1 ++ i2)) sz [ts] (a.eval x).cells.toList := by rw [← hlen]; exact (RowsAre.one k1).to (okPlus_mono (by simp +contextual))
                exact m1.append (j4.to (okPlus_mono (by simp +contextual)))
            · cases h
      · cases hx
    · cases hx

/-- a new slice of the call's own: its block, its rows -/
theorem ok_arr (g : Gam N w0 ok0 st ok ρ a w) {d : Nat} (hd : o.dst = some d) (hN : d < N) {id : Nat} {e : TypeId} {sz n : Nat} {rows : List (List TV)} (hm : mkO d id (.arr false e sz rows) (.s id 0 n) st = some st') {w1 : World} {cur : Array Value} {cap : Nat}
    (hrun : (execOp a.eval o).run P w = .ok (.value (.slice (some ⟨w.heap.size, 0, none⟩) n cap)) (w1.alloc (.cells cur e))) (hw1 : w1 = w ∨ w1 = w.drew)
    {vs : List Value} (hrows : RowsAre w ok sz rows vs) (hcur : ∀ (j : Nat) (v : Value), vs[j]? = some v → cur[j]? = some v) (hsz : cur.size = cap * sz) (hcap : cap ≤ maxLen) (hn : n ≤ rows.length) (hle : rows.length ≤ cap)
    (hnext : Into N w0 ok0 st' next) : o.wp P a w next Q := by
  have hid := (mkO_some hm).1
  have hs : Same w (w1.alloc (.cells cur e)) ok ok := by
    rcases hw1 with h | h <;> rw [h]
    · exact same_alloc g _
    · exact same_drew_alloc g _
  have hb : (w1.alloc (.cells cur e)).heap[w.heap.size]? = some (.cells cur e (0, 0)) := by
    rcases hw1 with h | h <;> rw [h]
    · exact heap_alloc_new w _
    · exact heap_alloc_new w.drew _
  refine ok_new g hd hN hm cap hrun hw1 (.inr ⟨w.heap.size, cap, cur, upd_same _ _ _, hb, hsz, hcap, hle, (hrows.to hs).rep hb hcur⟩) ?_ hnext
  simp only [LRep, SRep, upd_same]
  exact ⟨_, cap, rfl, by omega, by omega, hcap, .inr ⟨w.heap.size, cap, rfl, by omega, .inl (by simp)⟩⟩

theorem op_bslice (g : Gam N w0 ok0 st ok ρ a w) {d : Nat} (hd : o.dst = some d) (hN : d < N) {t e : TypeId} {len sz lo : Nat} {parts : Array (Nat × Operand)} {xs : List X} (ho : o.op = .buildSlice t len parts)
    (hx : rowsFrom P e 0 parts.toList = some xs) (hu : P.underlying t = some (.slice e)) (hs : size? P e = some sz) {zs : List TV} (hz : zeroT P e = some zs) (hlen : xs.length = len) (hsm : len * sz ≤ 16777216) (hsz : 0 < sz)
    (he : bsliceK lo st d e sz (solidRows st.hp st.env sz xs) = some st') (hn : Into N w0 ok0 st' next) : o.wp P a w next Q := by
  cases hr : solidRows st.hp st.env sz xs with
  | none => rw [hr] at he; cases he
  | some q =>
    obtain ⟨rows, is⟩ := q
    rw [hr] at he
    simp only [bsliceK] at he
    obtain ⟨us, h1, h2, h3, h4⟩ := solidRows_ok g hsz hx hr
    have hrl : rows.length = xs.length := by
      clear he h1 h2 h3 h4 hx hlen
      induction xs generalizing rows is with
      | nil => simp only [solidRows, Option.some.injEq, Prod.mk.injEq] at hr; rw [← hr.1]; rfl
      | cons x xs ih =>
        simp only [solidRows] at hr
        unfold consR at hr
        split at hr
        · split at hr
          · rename_i r i rs js _ hrs _
            simp only [Option.some.injEq, Prod.mk.injEq] at hr
            rw [← hr.1, List.length_cons, List.length_cons, ih rs js hrs]
          · cases hr
        · cases hr
    have hul : us.length = len := by omega
    obtain ⟨z, hz1, _⟩ := zeroT_some hz
    have g' := g.frozen is
    have hfill : ∀ c0 : Array Value, c0.size = len * sz → Instr.fill (fun i => some (i * sz, sz)) c0 (parts.toList.map fun x => (x.1, a.eval x.2)) = some (us.flatMap (·.cells.toList)).toArray := by
      intro c0 hc0
      have := fill_rows sz us 0 c0 h3 (by rw [hc0, Nat.zero_add, hul]; exact Nat.le_refl _)
      rw [h2, this]
      congr 1
      apply Array.ext'
      simp only [Nat.zero_mul, List.take_zero, List.nil_append, Nat.zero_add]
      rw [List.drop_eq_nil_of_le (by simp [hc0, hul]), List.append_nil]
    have hrun : (execOp a.eval o).run P w = .ok (.value (.slice (some ⟨w.heap.size, 0, none⟩) len len)) (w.alloc (.cells (us.flatMap (·.cells.toList)).toArray e)) := by
      have hnot : ¬ (16777216 < len * sz) := by omega
      by_cases hzero : len * sz = 0
      · have hf := hfill ((Array.range (len * sz)).map fun x => (#[] : Array Value)[x % (#[] : Array Value).size]!) (by simp)
        simp only [hzero] at hf
        simp [execOp, ho, Instr.buildSlice, run_underlying hu, run_sizeOf w hs, hzero, newRow] at hf ⊢
        simp [hf]
      · have hf := hfill ((Array.range (len * sz)).map fun x => z.cells[x % z.cells.size]!) (by simp)
        simp [execOp, ho, Instr.buildSlice, run_underlying hu, run_sizeOf w hs, hzero, newRow, hnot, run_zeroValue w hz1]
        rw [hf]
        simp
    refine ok_arr g' hd hN he (cap := len) (cur := (us.flatMap (·.cells.toList)).toArray) (w1 := w) (vs := us.flatMap (·.cells.toList)) ?_ (.inl rfl) (h4.to (Same.refl _ _)) (by simp) ?_ ?_ (Nat.le_refl _) (by omega) hn
    · rw [hrun, hrl, hlen]
    · rw [List.size_toArray, h4.1, hrl, hlen]
    · have : len ≤ len * sz := Nat.le_mul_of_pos_right _ hsz
      simp only [maxLen]
      omega
end
end Go.Proofs.Ytehcfmohjcjmpaa.Sx
