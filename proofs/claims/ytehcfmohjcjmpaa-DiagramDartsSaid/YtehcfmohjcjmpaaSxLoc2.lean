/- Every operation is local; two that are apart go in either order. -/
import Derived.Test.YtehcfmohjcjmpaaSxLoc
namespace Go.Proofs.Ytehcfmohjcjmpaa.Sx
open Go Go.RowKit

section
variable {C : FuncId → List TV → Option TV} {lo : Nat} {st st' st1 : St}

theorem loadL_eq {h h' : Hp} {n : Nat} {ag : Bool} {l : LV} (hh : ∀ i ∈ fpA l, h' i = h i) : loadL h' n ag l = loadL h n ag l := by
  cases l with
  | p id off => simp only [loadL, hh id (by simp [fpA])]
  | pe id r off => simp only [loadL, hh id (by simp [fpA])]
  | v t => cases t <;> rfl
  | _ => rfl
theorem iaddrL_eq {h h' : Hp} {sz : Nat} {l m : LV} (hh : ∀ i ∈ fpA l, h' i = h i) : iaddrL h' sz l m = iaddrL h sz l m := by
  unfold iaddrL
  split
  · rfl
  · rw [hh _ (by simp [fpA])]
  · rfl
theorem sliceL_eq {h h' : Hp} {e e' : Nat → LV} {te : TypeId} {sz : Nat} {a b c : Option X} {l : LV} (h1 : ∀ i ∈ oxrs a, e' i = e i) (h2 : ∀ i ∈ oxrs b, e' i = e i) (h3 : ∀ i ∈ oxrs c, e' i = e i) (hh : ∀ i ∈ fpA l, h' i = h i) :
    sliceL h' te sz e' a b c l = sliceL h te sz e a b c l := by
  unfold sliceL
  split
  · simp only [cutV2, bndX_eq h1, bndX_eq h2]
  · simp only [cutV3, bndX_eq h1, bndX_eq h2, bndX_eq (x := some _) (by simpa [oxrs] using h3)]
  · rw [hh _ (by simp [fpA])]; simp only [bndX_eq h1, bndX_eq h2]
  · rfl
theorem rowsOf_eq {h h' : Hp} {l : LV} (hh : ∀ i ∈ fpA l, h' i = h i) : rowsOf h' l = rowsOf h l := by
  cases l with
  | s id off len => simp only [rowsOf, hh id (by simp [fpA])]
  | v t => cases t <;> rfl
  | _ => rfl
theorem rowsB_eq {h h' : Hp} {l : LV} (hh : ∀ i ∈ fpA l, h' i = h i) : rowsB h' l = rowsB h l := by
  cases l with
  | s id off len => simp only [rowsB, hh id (by simp [fpA])]
  | v t => cases t <;> rfl
  | _ => rfl

theorem pick_loc {d : Nat} {a b c : LV} {wr : List Nat} (h : pickK st d a b c = some st1) (hw : ∀ i ∈ wr, st'.hp i = st.hp i) : pickK st' d a b c = some (patch st' st1 (some d) wr) := by
  unfold pickK at h ⊢
  split at h
  · split at h
    · rename_i hc; obtain rfl := Option.some.inj h; simp only [hc, if_true]; exact congrArg some (set_loc hw)
    · rename_i hc; obtain rfl := Option.some.inj h; simp only [hc]; exact congrArg some (set_loc hw)
  · cases h

theorem hp_loc {id : Nat} {o : Ob} {h h' : Hp} {wr0 : List Nat} {wr : List Nat} (hid : id ∈ wr) (hs : ∀ i ∈ wr0, i ∈ wr) (h1 : ∀ i ∈ wr, h' i = h i) (h2 : ∀ i, i ∉ wr → h' i = st'.hp i) {e e' : Nat → LV} {d : Option Nat} (he : ∀ i, e' i = if d = some i then e i else st'.env i) :
    (⟨e', upd h' id (some o)⟩ : St) = patch st' ⟨e, upd h id (some o)⟩ d wr := by
  refine St.ext' (fun i => he i) fun i => ?_
  show upd h' id (some o) i = if i ∈ wr then upd h id (some o) i else st'.hp i
  by_cases ei : i = id
  · subst ei; rw [upd_same, if_pos hid, upd_same]
  · rw [upd_ne _ _ ei, upd_ne _ _ ei]
    by_cases hm : i ∈ wr
    · rw [if_pos hm]; exact h1 i hm
    · rw [if_neg hm]; exact h2 i hm

theorem store_loc {n : Nat} {xs : List LV} {l : LV} {wr : List Nat} (h : storeL st n xs l = some st1) (hwr : wr = fpW (solidCells st.hp xs) l) (hw : ∀ i ∈ wr, st'.hp i = st.hp i) :
    storeL st' n xs l = some (patch st' st1 none wr) ∧ fpW (solidCells st'.hp xs) l = fpW (solidCells st.hp xs) l := by
  unfold storeL at h ⊢
  split at h
  · rename_i id off
    have hid : id ∈ wr := by rw [hwr]; simp [fpW]
    refine ⟨?_, rfl⟩
    simp only [hw id hid]
    unfold storeP at h ⊢
    split at h
    · split at h
      · rename_i hh
        obtain rfl := Option.some.inj h
        simp only [hh, and_self, if_true]
        exact congrArg some (hp_loc hid (wr0 := []) (by simp) hw (fun _ _ => rfl) (by simp))
      · cases h
    · cases h
  · rename_i id row off
    have hid : id ∈ wr := by rw [hwr]; simp [fpW]
    cases hs : solidCells st.hp xs with
    | none => rw [hs] at h; cases h
    | some q =>
      obtain ⟨ts, is⟩ := q
      have his : ∀ i ∈ is, i ∈ wr := fun i hi => by rw [hwr, hs]; simp [fpW, fpS, hi]
      rw [hs] at h
      rw [solidCells_eq hs fun i hi => hw i (his i hi)]
      refine ⟨?_, rfl⟩
      simp only [hw id hid]
      unfold storeE at h ⊢
      split at h
      · rename_i h1 h2
        simp only [Option.some.injEq, Prod.mk.injEq] at h1
        obtain ⟨rfl, rfl⟩ := h1
        unfold storeE2 at h ⊢
        split at h
        · rename_i r hr
          split at h
          · rename_i hh
            obtain rfl := Option.some.inj h
            simp only [hh, and_self, not_false_eq_true, if_true]
            exact congrArg some (hp_loc hid his (fun i hi => freezeAll_at _ (hw i hi)) (fun i hi => freezeAll_out _ fun hm => hi (his i hm)) (by simp))
          · cases h
        · cases h
      · cases h
  · cases h

theorem app_loc {d : Nat} {e : TypeId} {sz bytes : Nat} {x : LV} {y y' : Option (Nat × List (List TV))} {wr : List Nat} (h : appK lo st d e sz bytes x y = some st1) (hy : y' = y) (hwr : wr = (lo + d) :: fpA x) (hw : ∀ i ∈ wr, st'.hp i = st.hp i) :
    appK lo st' d e sz bytes x y' = some (patch st' st1 (some d) wr) := by
  subst hy
  unfold appK at h ⊢
  split at h
  · rename_i sz' new
    split at h
    · rename_i hsz
      simp only [hsz, if_true]
      unfold appL at h ⊢
      split at h
      · rename_i fe sz2 rows
        split at h
        · rename_i hsz2
          simp only [hsz2, if_true]
          have hwr' : wr = [lo + d] := by rw [hwr]; rfl
          subst hwr'
          unfold appT at h ⊢
          split at h
          · split at h
            · rename_i hb
              simp only [hb, if_true]
              exact mkO_loc (st := st) (wr0 := []) h (hw _ (by simp)) (by simp) (fun _ _ => rfl)
            · cases h
          · split at h
            · rename_i hb
              obtain rfl := Option.some.inj h
              simp only [hb, if_true]
              exact congrArg some (set_loc hw)
            · rename_i hb
              split at h
              · rename_i hb2
                simp only [hb, if_false, hb2, if_true]
                exact mkO_loc (st := st) (wr0 := []) h (hw _ (by simp)) (by simp) (fun _ _ => rfl)
              · cases h
        · cases h
      · rename_i id len
        have hwr' : wr = [lo + d, id] := by rw [hwr]; rfl
        subst hwr'
        simp only [hw id (by simp)]
        unfold appS at h ⊢
        split at h
        · split at h
          · rename_i hh
            simp only [hh, and_self, if_true]
            refine mkO_loc (st := st) (wr0 := [id]) h ?_ ?_ ?_
            · simp only [upd]; split
              · rfl
              · exact hw _ (by simp)
            · intro i hi; simp only [List.mem_singleton] at hi; subst hi; rw [upd_same, upd_same]
            · intro i hi; exact upd_ne _ _ (by simpa using hi)
          · cases h
        · cases h
      · cases h
    · cases h
  · cases h

theorem copy_loc {d sz : Nat} {x : LV} {y y' : Option (Nat × List (List TV))} {wr : List Nat} (h : copyK st d sz x y = some st1) (hy : y' = y) (hwr : wr = fpA x) (hw : ∀ i ∈ wr, st'.hp i = st.hp i) :
    copyK st' d sz x y' = some (patch st' st1 (some d) wr) := by
  subst hy
  unfold copyK at h ⊢
  split at h
  · split at h
    · rename_i hsz
      simp only [hsz, if_true]
      unfold copyL at h ⊢
      split at h
      · rename_i id off len
        have hid : id ∈ wr := by rw [hwr]; simp [fpA]
        simp only [hw id hid]
        unfold copyO at h ⊢
        split at h
        · split at h
          · rename_i hh
            obtain rfl := Option.some.inj h
            simp only [hh, if_true]
            refine congrArg some (hp_loc hid (wr0 := []) (by simp) hw (fun _ _ => rfl) fun i => ?_)
            simp only [upd]
            by_cases ei : i = d
            · subst ei; simp
            · rw [if_neg ei, if_neg (by simpa using fun h => ei h.symm)]
          · cases h
        · cases h
      · cases h
    · cases h
  · cases h

theorem call_loc {d : Nat} {is : List Nat} {r : Option TV} (h : callR lo d is st r = some st1) (hrd : ∀ i ∈ is, st'.hp i = st.hp i) (hw : ∀ i ∈ (fpCall lo d is r).wr, st'.hp i = st.hp i) :
    callR lo d is st' r = some (patch st' st1 (some d) (fpCall lo d is r).wr) := by
  cases r with
  | none => cases h
  | some r =>
    simp only [fpCall] at hw ⊢
    simp only [callR] at h ⊢
    generalize hH : (fun h : Hp => if is.isEmpty || r.flat then h else Sx.freezeAll h is) = H at *
    have hHs : ∀ h : Hp, (if is.isEmpty || r.flat then h else Sx.freezeAll h is) = H h := fun h => by rw [← hH]
    simp only [hHs] at h ⊢
    have hat : ∀ {h h' : Hp} {j : Nat}, h' j = h j → H h' j = H h j := fun {h h' j} e => by
      rw [← hH]
      simp only
      split
      · exact e
      · exact freezeAll_at is e
    have hout : ∀ {h : Hp} {j : Nat}, j ∉ (if r.flat = true then [] else is) → H h j = h j := fun {h j} e => by
      rw [← hH]
      simp only
      split
      · rfl
      · rename_i hc
        refine freezeAll_out is fun hm => e ?_
        have : r.flat = false := by simpa using (by simpa using hc : ¬ (is = [] ∨ r.flat = true)) ∘ Or.inr
        simp [this, hm]
    cases ht : thaw (lo + (1000 + d * 64)) r { env := st.env, hp := H st.hp } with
    | none => rw [ht] at h; cases h
    | some q =>
      obtain ⟨l, st2⟩ := q
      rw [ht] at h
      obtain rfl := Option.some.inj h
      have hloc := thaw_loc r (lo + (1000 + d * 64))
      obtain ⟨e1, f1⟩ := hloc _ _ _ ht
      have g1 := f1 ⟨st'.env, H st'.hp⟩ fun i hi => hat (hw i (by simp [hi]))
      rw [g1]
      simp only [callT]
      refine congrArg some (St.ext' (fun i => ?_) fun i => ?_)
      · show upd st'.env d l i = if some d = some i then upd st2.env d l i else st'.env i
        simp only [upd]
        by_cases ei : i = d
        · subst ei; simp
        · rw [if_neg ei, if_neg (by simpa using fun h => ei h.symm)]
      · show patchH (H st'.hp) st2.hp (thawN (lo + (1000 + d * 64)) r) i = patchH st'.hp st2.hp ((if r.flat = true then [] else is) ++ thawN (lo + (1000 + d * 64)) r) i
        simp only [patchH, List.mem_append]
        by_cases i2 : i ∈ thawN (lo + (1000 + d * 64)) r
        · simp [i2]
        · by_cases i1 : i ∈ (if r.flat = true then [] else is)
          · simp only [i1, i2, or_false, if_true, if_false]
            rw [hloc.out ht i2]
            exact hat (hw i (by simp only [List.mem_append]; exact .inl i1))
          · simp only [i1, i2, or_false, if_false]
            exact hout i1

theorem callA_loc {d : Nat} {f : FuncId} {ls : List LV} (h : callA C lo d f st (solidArgs st.hp ls) = some st1) (hrd : ∀ i ∈ (fpCallA C lo d f (solidArgs st.hp ls)).rd, st'.hp i = st.hp i)
    (hw : ∀ i ∈ (fpCallA C lo d f (solidArgs st.hp ls)).wr, st'.hp i = st.hp i) :
    callA C lo d f st' (solidArgs st'.hp ls) = some (patch st' st1 (some d) (fpCallA C lo d f (solidArgs st.hp ls)).wr) ∧ solidArgs st'.hp ls = solidArgs st.hp ls := by
  cases hs : solidArgs st.hp ls with
  | none => rw [hs] at h; cases h
  | some q =>
    obtain ⟨ts, is⟩ := q
    rw [hs] at h hrd hw
    simp only [callA, fpCallA] at h hrd hw ⊢
    have his : ∀ i ∈ is, st'.hp i = st.hp i := by
      cases hr : C f ts with
      | none => rw [hr] at h; cases h
      | some r => rw [hr] at hrd; exact hrd
    rw [solidArgs_eq hs his]
    exact ⟨call_loc h his hw, rfl⟩

theorem callF_loc {d : Nat} {args : List LV} {l : LV} (h : callF C lo d args st l = some st1) (hrd : ∀ i ∈ (fpCallF C lo d args st.hp l).rd, st'.hp i = st.hp i) (hw : ∀ i ∈ (fpCallF C lo d args st.hp l).wr, st'.hp i = st.hp i) :
    callF C lo d args st' l = some (patch st' st1 (some d) (fpCallF C lo d args st.hp l).wr) ∧ fpCallF C lo d args st'.hp l = fpCallF C lo d args st.hp l := by
  unfold callF at h ⊢
  split at h
  · simp only [fpCallF] at hrd hw ⊢
    have k := callA_loc h hrd hw
    exact ⟨k.1, by rw [k.2]⟩
  · simp only [fpCallF] at hrd hw ⊢
    have k := callA_loc h hrd hw
    exact ⟨k.1, by rw [k.2]⟩
  · cases h

theorem bslice_loc {d : Nat} {e : TypeId} {sz : Nat} {rows : List (List TV)} {is : List Nat} (h : bsliceK lo st d e sz (some (rows, is)) = some st1) (hw : ∀ i ∈ (lo + d) :: is, st'.hp i = st.hp i) :
    bsliceK lo st' d e sz (some (rows, is)) = some (patch st' st1 (some d) ((lo + d) :: is)) := by
  simp only [bsliceK] at h ⊢
  exact mkO_loc (st := st) h (freezeAll_at is (hw _ (by simp))) (fun i hi => freezeAll_at is (hw i (by simp [hi]))) (fun i hi => freezeAll_out is hi)

theorem mks_loc {d : Nat} {e : TypeId} {z : List TV} {bytes : Nat} {l c : LV} (h : mksK lo st d e z bytes l c = some st1) (hw : ∀ i ∈ [lo + d], st'.hp i = st.hp i) :
    mksK lo st' d e z bytes l c = some (patch st' st1 (some d) [lo + d]) := by
  unfold mksK at h ⊢
  split at h
  · split at h
    · rename_i hh
      simp only [hh, and_self, if_true]
      exact mkO_loc (st := st) (wr0 := []) h (hw _ (by simp)) (by simp) (fun _ _ => rfl)
    · cases h
  · cases h

theorem appz_loc {d : Nat} {e : TypeId} {z : List TV} {bytes : Nat} {l c : LV} (h : appzK lo st d e z bytes l c = some st1) (hw : ∀ i ∈ [lo + d], st'.hp i = st.hp i) :
    appzK lo st' d e z bytes l c = some (patch st' st1 (some d) [lo + d]) := by
  unfold appzK at h ⊢
  split at h
  · split at h
    · rename_i hh
      simp only [hh, and_self, if_true]
      exact mkO_loc (st := st) (wr0 := []) h (hw _ (by simp)) (by simp) (fun _ _ => rfl)
    · cases h
  · cases h
theorem mgetL_eq {h h' : Hp} {ks : List Lk} {kag vag cok : Bool} {zs : List TV} {key : Option (List LV)} {l : LV} (hh : ∀ i ∈ fpA l, h' i = h i) : mgetL h' ks kag vag zs cok key l = mgetL h ks kag vag zs cok key l := by
  cases l with
  | m id => cases key <;> simp only [mgetL, hh id (by simp [fpA])]
  | _ => cases key <;> rfl
theorem mlenL_eq {h h' : Hp} {l : LV} (hh : ∀ i ∈ fpA l, h' i = h i) : mlenL h' l = mlenL h l := by
  cases l with
  | m id => simp only [mlenL, hh id (by simp [fpA])]
  | _ => rfl
theorem mupd_loc {ks : List Lk} {kag vag : Bool} {n : Nat} {val : Option (List TV × List Nat)} {key : Option (List LV)} {l : LV} {wr : List Nat} (h : mupdL st ks kag vag n val key l = some st1) (hwr : wr = fpM val l) (hw : ∀ i ∈ wr, st'.hp i = st.hp i) :
    mupdL st' ks kag vag n val key l = some (patch st' st1 none wr) := by
  unfold mupdL at h ⊢
  split at h
  · rename_i key' id
    have hid : id ∈ wr := by rw [hwr]; simp [fpM]
    simp only [hw id hid]
    unfold mupdO at h ⊢
    split at h
    · rename_i kc vc is kag' vag' ents h1 h3
      have his : ∀ i ∈ is, i ∈ wr := fun i hi => by rw [hwr]; simp [fpM, fpS, hi]
      split at h
      · rename_i hh
        simp only [hh, and_self, not_false_eq_true, if_true]
        unfold setMap at h ⊢
        split at h
        · obtain rfl := Option.some.inj h
          exact congrArg some (hp_loc hid his (fun i hi => freezeAll_at _ (hw i hi)) (fun i hi => freezeAll_out _ fun hm => hi (his i hm)) (by simp))
        · cases h
      · cases h
    · cases h
  · cases h
theorem mdel_loc {ks : List Lk} {kag : Bool} {key : Option (List LV)} {l : LV} {wr : List Nat} (h : mdelL st ks kag key l = some st1) (hwr : wr = fpA l) (hw : ∀ i ∈ wr, st'.hp i = st.hp i) :
    mdelL st' ks kag key l = some (patch st' st1 none wr) := by
  unfold mdelL at h ⊢
  split at h
  · rename_i key' id
    have hid : id ∈ wr := by rw [hwr]; simp [fpA]
    simp only [hw id hid]
    unfold mdelO at h ⊢
    split at h
    · split at h
      · rename_i hh
        simp only [hh, and_self, if_true]
        unfold setMap at h ⊢
        split at h
        · obtain rfl := Option.some.inj h
          exact congrArg some (hp_loc hid (wr0 := []) (by simp) hw (fun _ _ => rfl) (by simp))
        · cases h
      · cases h
    · cases h
  · cases h
theorem solidO_eq {h h' : Hp} {x : Option (List LV)} {ts : List TV} {is : List Nat} (he : solidO h x = some (ts, is)) (hh : ∀ i ∈ is, h' i = h i) : solidO h' x = some (ts, is) := by
  cases x with
  | none => cases he
  | some ls => exact solidCells_eq he hh

theorem loc_op {o : IOp} (h : evOp C lo st o = some st1) (he : ∀ i ∈ o.reads, st'.env i = st.env i) (hrd : ∀ i ∈ (fpOp C lo st o).rd, st'.hp i = st.hp i) (hw : ∀ i ∈ (fpOp C lo st o).wr, st'.hp i = st.hp i) :
    evOp C lo st' o = some (patch st' st1 o.dst (fpOp C lo st o).wr) ∧ fpOp C lo st' o = fpOp C lo st o := by
  have r1 : ∀ {x : X}, (∀ i ∈ x.rs, i ∈ o.reads) → x.rd st'.env = x.rd st.env := fun hx => rd_eq fun i hi => he i (hx i hi)
  have r2 : ∀ {xs : List X}, (∀ i ∈ xrs xs, i ∈ o.reads) → rds st'.env xs = rds st.env xs := fun hx => rds_eq fun i hi => he i (hx i hi)
  cases o with
  | mv d x =>
    simp only [evOp, Option.some.injEq] at h ⊢
    subst h
    rw [r1 (x := x) fun i hi => hi]
    exact ⟨set_loc hw, rfl⟩
  | pick d c a b =>
    simp only [evOp] at h ⊢
    rw [r1 (x := c) (by simp +contextual [IOp.reads]), r1 (x := a) (by simp +contextual [IOp.reads]), r1 (x := b) (by simp +contextual [IOp.reads])]
    exact ⟨pick_loc h hw, rfl⟩
  | alloc d zs =>
    exact ⟨mkO_loc (st := st) (wr0 := []) h (hw _ (by simp [fpOp])) (by simp) (fun _ _ => rfl), rfl⟩
  | box d x n =>
    simp only [evOp] at h ⊢
    rw [r1 (x := x) fun i hi => hi]
    refine ⟨?_, rfl⟩
    unfold boxK at h ⊢
    split at h
    · rename_i hh
      simp only [hh, if_true]
      exact mkO_loc (st := st) (wr0 := []) h (hw _ (by simp [fpOp])) (by simp) (fun _ _ => rfl)
    · cases h
  | build d zs ps =>
    simp only [evOp] at h ⊢
    exact ⟨setM_loc h (buildCells_eq he) hw, rfl⟩
  | bslice d e sz ps =>
    simp only [evOp, fpOp] at h hrd hw ⊢
    cases hs : solidRows st.hp st.env sz ps with
    | none => rw [hs] at h; cases h
    | some q =>
      obtain ⟨rows, is⟩ := q
      rw [hs] at h hrd hw
      rw [solidRows_eq hs he hrd]
      exact ⟨bslice_loc h hw, rfl⟩
  | load d a n ag =>
    simp only [evOp, fpOp] at h hrd hw ⊢
    rw [r1 (x := a) fun i hi => hi]
    exact ⟨setM_loc h (loadL_eq hrd) hw, rfl⟩
  | store a x n =>
    simp only [evOp, fpOp] at h hrd hw ⊢
    rw [r1 (x := a) (by simp +contextual [IOp.reads]), r1 (x := x) (by simp +contextual [IOp.reads])]
    have k := store_loc h rfl hw
    exact ⟨k.1, by rw [k.2]⟩
  | nchk d x =>
    simp only [evOp] at h ⊢
    exact ⟨setM_loc h (by rw [r1 (x := x) fun i hi => hi]) hw, rfl⟩
  | bin d bt op x y =>
    simp only [evOp] at h ⊢
    exact ⟨setV_loc h (by rw [r1 (x := x) (by simp +contextual [IOp.reads]), r1 (x := y) (by simp +contextual [IOp.reads])]) hw, rfl⟩
  | eqs d neg ks x y =>
    simp only [evOp] at h ⊢
    exact ⟨setV_loc h (by rw [r1 (x := x) (by simp +contextual [IOp.reads]), r1 (x := y) (by simp +contextual [IOp.reads])]) hw, rfl⟩
  | un d op x =>
    simp only [evOp] at h ⊢
    exact ⟨setV_loc h (by rw [r1 (x := x) fun i hi => hi]) hw, rfl⟩
  | conv d k x =>
    simp only [evOp] at h ⊢
    exact ⟨setV_loc h (by rw [r1 (x := x) fun i hi => hi]) hw, rfl⟩
  | fld d x off n ag =>
    simp only [evOp] at h ⊢
    exact ⟨setM_loc h (by rw [r1 (x := x) fun i hi => hi]) hw, rfl⟩
  | faddr d a off =>
    simp only [evOp] at h ⊢
    exact ⟨setM_loc h (by rw [r1 (x := a) fun i hi => hi]) hw, rfl⟩
  | iaddr d x j sz =>
    simp only [evOp, fpOp] at h hrd hw ⊢
    rw [r1 (x := x) (by simp +contextual [IOp.reads])]
    exact ⟨setM_loc h (by rw [r1 (x := j) (by simp +contextual [IOp.reads])]; exact iaddrL_eq hrd) hw, rfl⟩
  | aaddr d x j len sz =>
    simp only [evOp] at h ⊢
    exact ⟨setM_loc h (by rw [r1 (x := x) (by simp +contextual [IOp.reads]), r1 (x := j) (by simp +contextual [IOp.reads])]) hw, rfl⟩
  | ixa d x j len sz ag =>
    simp only [evOp] at h ⊢
    exact ⟨setM_loc h (by rw [r1 (x := x) (by simp +contextual [IOp.reads]), r1 (x := j) (by simp +contextual [IOp.reads])]) hw, rfl⟩
  | ixs d x j =>
    simp only [evOp] at h ⊢
    exact ⟨setM_loc h (by rw [r1 (x := x) (by simp +contextual [IOp.reads]), r1 (x := j) (by simp +contextual [IOp.reads])]) hw, rfl⟩
  | slice d x l u m te sz =>
    simp only [evOp, fpOp] at h hrd hw ⊢
    rw [r1 (x := x) (by simp +contextual [IOp.reads])]
    exact ⟨setM_loc h (sliceL_eq (fun i hi => he i (by simp [IOp.reads, hi])) (fun i hi => he i (by simp [IOp.reads, hi])) (fun i hi => he i (by simp [IOp.reads, hi])) hrd) hw, rfl⟩
  | len d z x =>
    simp only [evOp] at h ⊢
    exact ⟨setV_loc h (by rw [r1 (x := x) fun i hi => hi]) hw, rfl⟩
  | cap d x =>
    simp only [evOp] at h ⊢
    exact ⟨setV_loc h (by rw [r1 (x := x) fun i hi => hi]) hw, rfl⟩
  | append d x y e sz bytes =>
    simp only [evOp, fpOp] at h hrd hw ⊢
    rw [r1 (x := x) (by simp +contextual [IOp.reads]), r1 (x := y) (by simp +contextual [IOp.reads])]
    exact ⟨app_loc h (rowsOf_eq fun i hi => hrd i (by simp [hi])) rfl hw, rfl⟩
  | copy d x y sz =>
    simp only [evOp, fpOp] at h hrd hw ⊢
    rw [r1 (x := x) (by simp +contextual [IOp.reads]), r1 (x := y) (by simp +contextual [IOp.reads])]
    exact ⟨copy_loc h (rowsOf_eq fun i hi => hrd i (by simp [hi])) rfl hw, rfl⟩
  | b2s d x =>
    simp only [evOp, fpOp] at h hrd hw ⊢
    rw [r1 (x := x) fun i hi => hi]
    exact ⟨setV_loc h (by rw [rowsB_eq hrd]) hw, rfl⟩
  | ext d x j =>
    simp only [evOp] at h ⊢
    exact ⟨setM_loc h (by rw [r1 (x := x) fun i hi => hi]) hw, rfl⟩
  | mkfn d f cs =>
    simp only [evOp, Option.some.injEq] at h ⊢
    subst h
    rw [r2 (xs := cs) fun i hi => hi]
    exact ⟨set_loc hw, rfl⟩
  | call d f args =>
    simp only [evOp, fpOp] at h hrd hw ⊢
    rw [r1 (x := f) (by simp +contextual [IOp.reads]), r2 (xs := args) (by simp +contextual [IOp.reads])]
    exact callF_loc h hrd hw
  | mn d args =>
    simp only [evOp] at h ⊢
    exact ⟨setM_loc h (by rw [r2 (xs := args) fun i hi => hi]) hw, rfl⟩
  | mx d args =>
    simp only [evOp] at h ⊢
    exact ⟨setM_loc h (by rw [r2 (xs := args) fun i hi => hi]) hw, rfl⟩
  | mkslice d l c e z bytes =>
    simp only [evOp, fpOp] at h hrd hw ⊢
    rw [r1 (x := l) (by simp +contextual [IOp.reads]), r1 (x := c) (by simp +contextual [IOp.reads])]
    exact ⟨mks_loc h hw, trivial⟩
  | isnil d neg ptr x =>
    simp only [evOp] at h ⊢
    exact ⟨setV_loc h (by rw [r1 (x := x) fun i hi => hi]) hw, rfl⟩
  | appz d x n e z bytes =>
    simp only [evOp, fpOp] at h hrd hw ⊢
    rw [r1 (x := x) (by simp +contextual [IOp.reads]), r1 (x := n) (by simp +contextual [IOp.reads])]
    exact ⟨appz_loc h hw, trivial⟩
  | mkmap d kag vag =>
    exact ⟨mkO_loc (st := st) (wr0 := []) h (hw _ (by simp [fpOp])) (by simp) (fun _ _ => rfl), rfl⟩
  | mget d ks kag vag zs cok m k =>
    simp only [evOp, fpOp] at h hrd hw ⊢
    rw [r1 (x := m) (by simp +contextual [IOp.reads]), r1 (x := k) (by simp +contextual [IOp.reads])]
    exact ⟨setM_loc h (mgetL_eq hrd) hw, rfl⟩
  | mupd ks kag vag n m k v =>
    simp only [evOp, fpOp] at h hrd hw ⊢
    rw [r1 (x := m) (by simp +contextual [IOp.reads]), r1 (x := k) (by simp +contextual [IOp.reads]), r1 (x := v) (by simp +contextual [IOp.reads])]
    cases hs : solidO st.hp (oneOf vag (v.rd st.env)) with
    | none =>
      rw [hs] at h
      unfold mupdL at h
      split at h
      · unfold mupdO at h
        split at h
        · cases ‹(none : Option (List TV × List Nat)) = some _›
        · cases h
      · cases h
    | some q =>
      obtain ⟨vc, is⟩ := q
      rw [hs] at h hw
      have hm : ∃ id, m.rd st.env = .m id := by
        unfold mupdL at h
        split at h
        · exact ⟨_, by assumption⟩
        · cases h
      obtain ⟨id, hid⟩ := hm
      have his : ∀ i ∈ is, st'.hp i = st.hp i := fun i hi => hw i (by rw [hid]; simp [fpM, fpS, hi])
      rw [solidO_eq hs his]
      exact ⟨mupd_loc h rfl hw, rfl⟩
  | mdel ks kag m k =>
    simp only [evOp, fpOp] at h hrd hw ⊢
    rw [r1 (x := m) (by simp +contextual [IOp.reads]), r1 (x := k) (by simp +contextual [IOp.reads])]
    exact ⟨mdel_loc h rfl hw, rfl⟩
  | mlen d m =>
    simp only [evOp, fpOp] at h hrd hw ⊢
    rw [r1 (x := m) fun i hi => hi]
    exact ⟨setV_loc h (by rw [mlenL_eq hrd]) hw, rfl⟩
  | bad => cases h
end
end Go.Proofs.Ytehcfmohjcjmpaa.Sx
