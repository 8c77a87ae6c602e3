/- The evaluator's single operations are sound, the sixth lot: structs that are built, appends, copies, the least and the greatest, equal structs. -/
import Derived.Test.YtehcfmohjcjmpaaSxOps5
namespace Go.Proofs.Ytehcfmohjcjmpaa.Sx
open Go Go.RowKit
section
variable {P : Program} {N : Nat} {w0 : World} {ok0 : Nat → Prop} {st st' : St} {ok : Nat → Prop} {ρ : Rho} {a : Act} {w w' : World}
  {next : Act → World → Prop} {Q : Exit → Act → World → Prop} {o : Oper}

/-! ### to build a struct -/
theorem placesOf_mapM : ∀ {fs : List Field} {pl : List (Nat × Nat)}, placesOf P fs = some pl → fs.mapM (fun f => (P.info? f.type).map fun i => (f.offset, i.size)) = some pl
  | [], pl, h => by simp only [placesOf, Option.some.injEq] at h; subst h; rfl
  | f :: fs, pl, h => by
    simp only [placesOf] at h
    split at h
    · rename_i n r hn hr
      obtain rfl := Option.some.inj h
      have ih := placesOf_mapM hr
      unfold size? at hn
      cases hi : P.info? f.type with
      | none => rw [hi] at hn; cases hn
      | some i =>
        rw [hi] at hn
        simp only [Option.map_some, Option.some.injEq] at hn
        simp [List.mapM_cons, hi, ih, hn]
    · cases h

theorem fill_ok (g : Gam N w0 ok0 st ok ρ a w) (place : Nat → Option (Nat × Nat)) : ∀ {parts : List (Nat × Operand)} {ps : List (Nat × Nat × X)},
    ps.length = parts.length → (∀ (k : Nat) (p : Nat × Operand) (q : Nat × Nat × X), parts[k]? = some p → ps[k]? = some q → place p.1 = some (q.1, q.2.1) ∧ 0 < q.2.1 ∧ ∃ t, cX P t p.2 = some q.2.2) →
    ∀ {cs : List LV} {cells : Array Value} {r : LV}, LReps w ok ρ st.hp true cs cells.toList → buildCells st.env cs ps = some r →
    ∃ cells' : Array Value, Instr.fill place cells (parts.map fun p => (p.1, a.eval p.2)) = some cells' ∧ LRep w ok ρ st.hp r (.agg cells')
  | [], [], _, _, cs, cells, r, hc, hb => by
    simp only [buildCells, Option.some.injEq] at hb
    subst hb
    exact ⟨cells, rfl, by simp only [LRep]; exact ⟨cells, rfl, hc⟩⟩
  | [], _ :: _, hl, _, _, _, _, _, _ => by simp at hl
  | _ :: _, [], hl, _, _, _, _, _, _ => by simp at hl
  | (i, x) :: parts, (off, n, y) :: ps, hl, hp, cs, cells, r, hc, hb => by
    simp only [buildCells] at hb
    split at hb
    · rename_i hcond
      obtain ⟨hlen, hle⟩ := hcond
      obtain ⟨hpl, hpos, t, hx⟩ := hp 0 _ _ rfl rfl
      simp only at hpl hpos hx
      have hcells := cells_ok (rd_ok g hx) (fun e => by rw [e] at hlen; simp at hlen; omega)
      have hcl : (a.eval x).cells.size = n := by have := hcells.length; simp at this; omega
      have hcs := hc.length
      simp only [Array.length_toList] at hcs
      have hspl := hc.splice hcells (off := off) (by omega)
      rw [Array.length_toList, hcl] at hspl
      obtain ⟨cells', h1, h2⟩ := fill_ok g place (parts := parts) (ps := ps) (by simpa using hl) (fun k p q h h' => hp (k + 1) p q (by simpa using h) (by simpa using h'))
        (cells := (cells.toList.take off ++ (a.eval x).cells.toList ++ cells.toList.drop (off + n)).toArray) (by simpa using hspl) hb
      refine ⟨cells', ?_, h2⟩
      rw [List.map_cons, fill_cons place cells i (a.eval x) _ off n hpl hcl (by omega)]
      exact h1
    · cases hb

theorem partsOf_get {fs : List Field} {pl : List (Nat × Nat)} : ∀ {parts : List (Nat × Operand)} {ps : List (Nat × Nat × X)}, partsOf P fs pl parts = some ps →
    ps.length = parts.length ∧ ∀ (k : Nat) (p : Nat × Operand) (q : Nat × Nat × X), parts[k]? = some p → ps[k]? = some q → pl[p.1]? = some (q.1, q.2.1) ∧ 0 < q.2.1 ∧ ∃ t, cX P t p.2 = some q.2.2
  | [], ps, h => by simp only [partsOf, Option.some.injEq] at h; subst h; exact ⟨rfl, by simp⟩
  | (i, x) :: parts, ps, h => by
    simp only [partsOf] at h
    split at h
    · rename_i q r hq hr
      obtain rfl := Option.some.inj h
      obtain ⟨h1, h2⟩ := partsOf_get hr
      refine ⟨by simp [h1], fun k p q' hp hq' => ?_⟩
      cases k with
      | zero =>
        simp only [List.getElem?_cons_zero, Option.some.injEq] at hp hq'
        subst hp
        subst hq'
        unfold partOf at hq
        split at hq
        · rename_i f off n hf hpl
          split at hq
          · rename_i y hy
            obtain rfl := Option.some.inj hq
            exact ⟨hpl, Nat.succ_pos _, _, hy⟩
          · cases hq
        · cases hq
      | succ k => exact h2 k p q' (by simpa using hp) (by simpa using hq')
    · cases h
theorem apartsOf_get {e : TypeId} {n : Nat} : ∀ {parts : List (Nat × Operand)} {ps : List (Nat × Nat × X)}, apartsOf P e n parts = some ps →
    ps.length = parts.length ∧ ∀ (k : Nat) (p : Nat × Operand) (q : Nat × Nat × X), parts[k]? = some p → ps[k]? = some q → q.1 = p.1 * n ∧ q.2.1 = n ∧ ∃ t, cX P t p.2 = some q.2.2
  | [], ps, h => by simp only [apartsOf, Option.some.injEq] at h; subst h; exact ⟨rfl, by simp⟩
  | (i, x) :: parts, ps, h => by
    simp only [apartsOf] at h
    split at h
    · rename_i q r hq hr
      obtain rfl := Option.some.inj h
      obtain ⟨h1, h2⟩ := apartsOf_get hr
      refine ⟨by simp [h1], fun k p q' hp hq' => ?_⟩
      cases k with
      | zero =>
        simp only [List.getElem?_cons_zero, Option.some.injEq] at hp hq'
        subst hp
        subst hq'
        exact ⟨rfl, rfl, _, hq⟩
      | succ k => exact h2 k p q' (by simpa using hp) (by simpa using hq')
    · cases h

theorem op_build (g : Gam N w0 ok0 st ok ρ a w) {d : Nat} (hd : o.dst = some d) (hN : d < N) {t : TypeId} {parts : Array (Nat × Operand)} {zs : List TV} {ps : List (Nat × Nat × X)} (ho : o.op = .build t parts) (hz : zeroT P t = some zs)
    (hc : (∃ fs pl, P.underlying t = some (.struct fs) ∧ placesOf P fs.toList = some pl ∧ partsOf P fs.toList pl parts.toList = some ps) ∨ (∃ k e n, P.underlying t = some (.array k e) ∧ size? P e = some (n + 1) ∧ apartsOf P e (n + 1) parts.toList = some ps))
    (he : setM st d (buildCells st.env (liftV zs) ps) = some st') (hn : Into N w0 ok0 st' next) : o.wp P a w next Q := by
  obtain ⟨l, hl, rfl⟩ := setM_some he
  obtain ⟨z, hz1, hz2⟩ := zeroT_some hz
  have hzc := cVs_ok (w := w) (ok := ok) (ρ := ρ) (st := st) hz2
  have key : ∃ cells', P.built t (parts.map fun p => (p.1, a.eval p.2)).toList = some cells' ∧ LRep w ok ρ st.hp l (.agg cells') := by
    cases hi : P.info? t with
    | none => rw [hi] at hz1; cases hz1
    | some it =>
      have hz1' : it.zero = some z := by rw [hi] at hz1; exact hz1
      rcases hc with ⟨fs, pl, h1, h2, h3⟩ | ⟨k, e, n, h1, h2, h3⟩
      · obtain ⟨k1, k2⟩ := partsOf_get h3
        obtain ⟨cells', f1, f2⟩ := fill_ok g (fun i => pl.toArray[i]?) k1 (fun k p q hp hq => by simpa using k2 k p q hp hq) (cells := z.cells) hzc hl
        refine ⟨cells', ?_, f2⟩
        simp only [Program.built, hi, h1, hz1', placesOf_mapM h2, Array.toList_map]
        exact f1
      · obtain ⟨k1, k2⟩ := apartsOf_get h3
        obtain ⟨cells', f1, f2⟩ := fill_ok g (fun i => some (i * (n + 1), n + 1)) k1 (fun k p q hp hq => by obtain ⟨j1, j2, j3⟩ := k2 k p q hp hq; exact ⟨by rw [j1, j2], by omega, j3⟩) (cells := z.cells) hzc hl
        unfold size? at h2
        cases hie : P.info? e with
        | none => rw [hie] at h2; cases h2
        | some ie =>
          rw [hie] at h2
          simp only [Option.map_some, Option.some.injEq] at h2
          refine ⟨cells', ?_, f2⟩
          simp only [Program.built, hi, h1, hz1', hie, h2, Array.toList_map]
          exact f1
  obtain ⟨cells', hb, hr⟩ := key
  refine ok_val g hd hN (v := .agg cells') ?_ hr hn
  have := run_build (P := P) w t _ cells' hb
  simp [execOp, ho, this]

/-! ### appends -/
theorem byteRows_are (s : List UInt8) : RowsAre w ok 1 (byteRows s) (s.map fun b => Value.int .u8 b.toNat) := by
  induction s with
  | nil => exact RowsAre.nil
  | cons b s ih =>
    have h1 : RowsAre w ok [TV.int .u8 (b.toNat : Int)].length [[TV.int .u8 (b.toNat : Int)]] [Value.int .u8 b.toNat] := RowsAre.one (by
      simp only [ValsRep, TRep]
      exact ⟨_, _, rfl, fun _ => rfl, rfl, rfl⟩)
    exact h1.append ih
theorem byteRows_length (s : List UInt8) : (byteRows s).length = s.length := by induction s with
  | nil => rfl
  | cons b s ih => simp [byteRows, ih]

/-- what is appended, or copied -/
theorem rowsOf_ok (g : Gam N w0 ok0 st ok ρ a w) {l : LV} {sz : Nat} {new : List (List TV)} (h : rowsOf st.hp l = some (sz, new)) {x : Value} (hx : LRep w ok ρ st.hp l x) :
    ∃ news : List Value, RowsAre w ok sz new news ∧ (∀ w1 : World, (Builtin.lenOf x).run P w1 = .ok new.length w1) ∧
      (∀ (w1 : World) (n : Nat), w1.heap = w.heap → n ≤ new.length → (Builtin.firstCells sz n x).run P w1 = .ok (news.take (n * sz)).toArray w1) := by
  have first : ∀ {rows : List (List TV)} {vs : List Value} {b o' cap len : Nat}, RowsAre w ok sz rows vs → len = rows.length → (∀ j v, vs[j]? = some v → w.cell? ⟨b, o' + j, none⟩ = some v) →
      ∀ (w1 : World) (n : Nat), w1.heap = w.heap → n ≤ rows.length → (Builtin.firstCells sz n (.slice (some ⟨b, o', none⟩) len cap)).run P w1 = .ok (vs.take (n * sz)).toArray w1 := by
    intro rows vs b o' cap len hr hlen hc w1 n hw hn
    have hl : (vs.take (n * sz)).length = n * sz := by
      rw [List.length_take, hr.1]
      exact Nat.min_eq_left (Nat.mul_le_mul_right _ hn)
    have := run_loadCells_list (P := P) w1 ⟨b, o', none⟩ (vs.take (n * sz)) (fun j v hj => by
      rw [addr_add]
      have : w1.cell? ⟨b, o' + j, none⟩ = w.cell? ⟨b, o' + j, none⟩ := by simp [World.cell?, hw]
      rw [this]
      rw [List.getElem?_take] at hj
      split at hj
      · exact hc j v hj
      · cases hj)
    rw [hl] at this
    simp [Builtin.firstCells, this]
  unfold rowsOf at h
  split at h
  · rename_i fl sz' rows
    simp only [Option.some.injEq, Prod.mk.injEq] at h
    obtain ⟨rfl, rfl⟩ := h
    obtain ⟨ad, cap, rfl, h3, h4, h5, h6⟩ := sl_form hx
    rcases h6 with rfl | ⟨b, o', rfl, hb, hr⟩
    · refine ⟨[], RowsAre.nil, fun w1 => rfl, fun w1 n _ hn => ?_⟩
      obtain rfl : n = 0 := by simpa using hn
      cases ad <;> simp [Builtin.firstCells, loadCells, loadCellsFrom]
    · obtain ⟨vs, k1, k2⟩ := hr.are
      exact ⟨vs, k1, fun w1 => rfl, first k1 rfl k2⟩
  · rename_i z
    simp only [Option.some.injEq, Prod.mk.injEq] at h
    obtain ⟨rfl, rfl⟩ := h
    have e1 := lv_str hx
    subst e1
    refine ⟨_, byteRows_are z.data.toList, fun w1 => by rw [byteRows_length]; rfl, fun w1 n _ hn => ?_⟩
    rw [byteRows_length] at hn
    simp only [Builtin.firstCells, Sem.run_pure, Nat.mul_one]
    congr 1
    apply Array.ext'
    have : (z.extract 0 n).data.toList = z.data.toList.take n := by
      simp [ByteArray.extract, ByteArray.copySlice]
    simp
  · rename_i id off len
    unfold rowsS at h
    split at h
    · rename_i fz e sz' rows hid
      simp only [Option.some.injEq, Prod.mk.injEq] at h
      obtain ⟨rfl, rfl⟩ := h
      simp only [LRep, hid, SRep] at hx
      obtain ⟨ad, cap, rfl, h3, h4, h5, h6⟩ := hx
      have hlen : len = ((rows.drop off).take len).length := by simp; omega
      by_cases hz : len = 0
      · subst hz
        refine ⟨[], by simpa using RowsAre.nil, fun w1 => by simp [Builtin.lenOf], fun w1 n _ hn => ?_⟩
        obtain rfl : n = 0 := by simpa using hn
        cases ad <;> simp [Builtin.firstCells, loadCells, loadCellsFrom]
      · rcases h6 with ⟨_, h7, _⟩ | ⟨b, K, h7, h8, h9⟩
        · omega
        · rcases h9 with rfl | ⟨h9, _⟩
          · rcases g.obj id _ hid with ⟨h10, _⟩ | ⟨b', K', cur, h10, h11, h12, h13, h14, h15⟩
            · rw [h7] at h10; cases h10
            · rw [h7] at h10
              obtain ⟨rfl, rfl⟩ : b = b' ∧ K = K' := by simpa using h10
              obtain ⟨vs, k1, k2⟩ := ((h15.drop off).take len).are
              exact ⟨vs, k1, fun w1 => by rw [← hlen]; rfl, first k1 hlen (by simpa using k2)⟩
          · omega
    · cases h
  · cases h

end
end Go.Proofs.Ytehcfmohjcjmpaa.Sx
