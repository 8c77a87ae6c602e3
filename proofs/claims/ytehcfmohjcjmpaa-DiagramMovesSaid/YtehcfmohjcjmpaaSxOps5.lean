/- The evaluator's single operations are sound, the fifth lot: stores, structs, appends. -/
import Derived.Test.YtehcfmohjcjmpaaSxOps4
namespace Go.Proofs.Ytehcfmohjcjmpaa.Sx
open Go Go.RowKit
section
variable {P : Program} {N : Nat} {w0 : World} {ok0 : Nat → Prop} {st st' : St} {ok : Nat → Prop} {ρ : Rho} {a : Act} {w w' : World}
  {next : Act → World → Prop} {Q : Exit → Act → World → Prop} {o : Oper}

theorem setFrom_eq : ∀ (xs : List LV) (cs : List LV) (off : Nat), off + xs.length ≤ cs.length → setFrom cs off xs = cs.take off ++ xs ++ cs.drop (off + xs.length)
  | [], cs, off, _ => by simp [setFrom]
  | x :: xs, cs, off, h => by
    simp only [List.length_cons] at h
    have hk : off < cs.length := by omega
    simp only [setFrom]
    rw [setFrom_eq xs (cs.set off x) (off + 1) (by simp; omega)]
    have e1 : (cs.set off x).take (off + 1) = cs.take off ++ [x] := by
      rw [List.take_succ_eq_append_getElem (by simpa using hk), List.take_set_of_le (Nat.le_refl _)]
      simp
    have e2 : (cs.set off x).drop (off + 1 + xs.length) = cs.drop (off + (xs.length + 1)) := by
      rw [List.drop_set_of_lt (by omega), show off + 1 + xs.length = off + (xs.length + 1) by omega]
    rw [e1, e2]
    simp
theorem setFromT_eq : ∀ (xs : List TV) (cs : List TV) (off : Nat), off + xs.length ≤ cs.length → setFromT cs off xs = cs.take off ++ xs ++ cs.drop (off + xs.length)
  | [], cs, off, _ => by simp [setFromT]
  | x :: xs, cs, off, h => by
    simp only [List.length_cons] at h
    have hk : off < cs.length := by omega
    simp only [setFromT]
    rw [setFromT_eq xs (cs.set off x) (off + 1) (by simp; omega)]
    have e1 : (cs.set off x).take (off + 1) = cs.take off ++ [x] := by
      rw [List.take_succ_eq_append_getElem (by simpa using hk), List.take_set_of_le (Nat.le_refl _)]
      simp
    have e2 : (cs.set off x).drop (off + 1 + xs.length) = cs.drop (off + (xs.length + 1)) := by
      rw [List.drop_set_of_lt (by omega), show off + 1 + xs.length = off + (xs.length + 1) by omega]
    rw [e1, e2]
    simp

/-- a part of a row is put in the place of another -/
theorem LReps.splice {one : Bool} {cs xs : List LV} {vs us : List Value} (h : LReps w ok ρ st.hp one cs vs) (hx : LReps w ok ρ st.hp one xs us) {off : Nat} (hle : off + xs.length ≤ cs.length) :
    LReps w ok ρ st.hp one (setFrom cs off xs) (vs.take off ++ us ++ vs.drop (off + us.length)) := by
  have hl := h.length
  have hu := hx.length
  rw [setFrom_eq xs cs off hle]
  refine LReps.of (by simp; omega) fun i l hi => ?_
  by_cases h1 : i < off
  · rw [List.getElem?_append_left (by simp; omega), List.getElem?_append_left (by simp; omega), List.getElem?_take, if_pos h1] at hi
    obtain ⟨v, k1, k2⟩ := h.get i l hi
    exact ⟨v, by rw [List.getElem?_append_left (by simp; omega), List.getElem?_append_left (by simp; omega), List.getElem?_take, if_pos h1]; exact k1, k2⟩
  · by_cases h2 : i < off + xs.length
    · rw [List.getElem?_append_left (by simp; omega), List.getElem?_append_right (by simp; omega)] at hi
      have e : i - (cs.take off).length = i - off := by simp; omega
      rw [e] at hi
      obtain ⟨v, k1, k2⟩ := hx.get _ l hi
      refine ⟨v, ?_, k2⟩
      rw [List.getElem?_append_left (by simp; omega), List.getElem?_append_right (by simp; omega)]
      rw [show i - (vs.take off).length = i - off by simp; omega]
      exact k1
    · rw [List.getElem?_append_right (by simp; omega), List.getElem?_drop] at hi
      have e : off + xs.length + (i - (cs.take off ++ xs).length) = i := by simp; omega
      rw [e] at hi
      obtain ⟨v, k1, k2⟩ := h.get i l hi
      refine ⟨v, ?_, k2⟩
      rw [List.getElem?_append_right (by simp; omega), List.getElem?_drop]
      rw [show off + us.length + (i - (vs.take off ++ us).length) = i by simp; omega]
      exact k1

theorem LReps.one' {one : Bool} {cs : List LV} {vs : List Value} (h : LReps w ok ρ st.hp one cs vs) (ho : one = true) : ∀ v ∈ vs, v.oneCell' = true := fun v hv => by
  obtain ⟨i, hi, rfl⟩ := List.mem_iff_getElem.1 hv
  have hl := h.length
  obtain ⟨u, h1, h2, _⟩ := h.get i cs[i] (by simp [List.getElem?_eq_getElem (show i < cs.length by omega)])
  rw [List.getElem?_eq_getElem hi] at h1
  rw [Option.some.inj h1]
  exact h2 ho

theorem setRow_same (w : World) (b : Nat) (cur cur' : Array Value) (t : TypeId) (hg : w.heap[b]? = some (.cells cur t (0, 0))) : (w.setRow b cur').heap[b]? = some (.cells cur' t (0, 0)) := setRow_heap w b cur cur' t _ hg

theorem Into.skip {d : Option Tmp} (hd : d = none) (g : Gam N w0 ok0 st ok ρ a w) (hn : Into N w0 ok0 st next) : next (a.put d undef) w := by subst hd; exact hn _ _ _ _ g

theorem freezeAll_not (is : List Nat) : ∀ (h : Hp) (j : Nat), j ∉ is → freezeAll h is j = h j := by
  induction is with
  | nil => intro h j _; rfl
  | cons i is ih =>
    intro h j hj
    simp only [List.mem_cons, not_or] at hj
    simp only [freezeAll]
    rw [ih _ j hj.2, upd_ne _ _ hj.1]

theorem splice_get (cur us : List Value) (p k : Nat) (hle : p + us.length ≤ cur.length) :
    (cur.take p ++ us ++ cur.drop (p + us.length))[k]? = if p ≤ k ∧ k < p + us.length then us[k - p]? else cur[k]? := by
  split
  · rename_i h
    rw [List.getElem?_append_left (by simp; omega), List.getElem?_append_right (by simp; omega)]
    congr 1
    simp
    omega
  · rename_i h
    by_cases h1 : k < p
    · rw [List.getElem?_append_left (by simp; omega), List.getElem?_append_left (by simp; omega), List.getElem?_take, if_pos h1]
    · rw [List.getElem?_append_right (by simp; omega), List.getElem?_drop]
      congr 1
      simp
      omega

/-- rows, one of which is written in part -/
theorem RowsRep.setRow {w : World} {ok : Nat → Prop} {sz b : Nat} {rows : List (List TV)} (h : RowsRep w ok sz b rows 0) {cur : Array Value} {ty : TypeId} (hg : w.heap[b]? = some (.cells cur ty (0, 0))) (hcur : rows.length * sz ≤ cur.size)
    {row off : Nat} {r ts : List TV} {us : List Value} (hrow : rows[row]? = some r) (hle : off + ts.length ≤ r.length) (hts : ValsRep w ok true ts us) (hnot : ∀ c, ok c → c ≠ b) :
    RowsRep (w.setRow b (cur.toList.take (row * sz + off) ++ us ++ cur.toList.drop (row * sz + off + us.length)).toArray) ok sz b (rows.set row (setFromT r off ts)) 0 := by
  have hs : Same w (w.setRow b (cur.toList.take (row * sz + off) ++ us ++ cur.toList.drop (row * sz + off + us.length)).toArray) ok ok := fun c hc => ⟨setRow_other w b c _ (hnot c hc), hc⟩
  have hus := hts.length
  obtain ⟨hrl, hr⟩ := h.get row r hrow
  have hlt : row < rows.length := (List.getElem?_eq_some_iff.1 hrow).1
  have hfit : row * sz + sz ≤ rows.length * sz := by
    have : (row + 1) * sz ≤ rows.length * sz := Nat.mul_le_mul_right _ hlt
    rwa [Nat.add_mul, Nat.one_mul] at this
  have cell : ∀ k, (w.setRow b (cur.toList.take (row * sz + off) ++ us ++ cur.toList.drop (row * sz + off + us.length)).toArray).cell? ⟨b, k, none⟩ = if row * sz + off ≤ k ∧ k < row * sz + off + us.length then us[k - (row * sz + off)]? else w.cell? ⟨b, k, none⟩ := by
    intro k
    rw [cell_of_row _ b k _ ty (0, 0) (setRow_same w b cur _ ty hg), cell_of_row w b k cur ty (0, 0) hg]
    simp only [List.getElem?_toArray]
    rw [splice_get cur.toList us (row * sz + off) k (by simp; omega)]
    simp
  refine RowsRep.of fun i q hi => ?_
  rw [List.getElem?_set] at hi
  split at hi
  · rename_i e
    subst e
    obtain rfl := Option.some.inj hi
    have hset := setFromT_eq ts r off hle
    refine ⟨by rw [hset]; simp; omega, CellsRep.of fun j t hj => ?_⟩
    rw [hset] at hj
    by_cases h1 : off ≤ j ∧ j < off + ts.length
    · rw [List.getElem?_append_left (by simp; omega), List.getElem?_append_right (by simp; omega)] at hj
      have e : j - (r.take off).length = j - off := by simp; omega
      rw [e] at hj
      obtain ⟨v, k1, k2, k3⟩ := hts.get _ t hj
      refine ⟨v, ?_, k2 rfl, k3.to hs⟩
      rw [cell, if_pos ⟨by omega, by omega⟩]
      rw [show 0 + row * sz + j - (row * sz + off) = j - off by omega]
      exact k1
    · have hj' : r[j]? = some t := by
        by_cases h2 : j < off
        · rw [List.getElem?_append_left (by simp; omega), List.getElem?_append_left (by simp; omega), List.getElem?_take, if_pos h2] at hj
          exact hj
        · rw [List.getElem?_append_right (by simp; omega), List.getElem?_drop] at hj
          rw [← hj]
          congr 1
          simp
          omega
      obtain ⟨v, k1, k2, k3⟩ := hr.get j t hj'
      refine ⟨v, ?_, k2, k3.to hs⟩
      rw [cell, if_neg (by omega)]
      exact k1
  · rename_i hne
    obtain ⟨hql, hq⟩ := h.get i q hi
    refine ⟨hql, CellsRep.of fun j t hj => ?_⟩
    obtain ⟨v, k1, k2, k3⟩ := hq.get j t hj
    refine ⟨v, ?_, k2, k3.to hs⟩
    have hjl : j < sz := by rw [← hql]; exact (List.getElem?_eq_some_iff.1 hj).1
    have hfar : ¬ (row * sz + off ≤ 0 + i * sz + j ∧ 0 + i * sz + j < row * sz + off + us.length) := by
      rcases Nat.lt_or_gt_of_ne hne with hlt' | hlt'
      · have : (row + 1) * sz ≤ i * sz := Nat.mul_le_mul_right _ hlt'
        rw [Nat.add_mul, Nat.one_mul] at this
        omega
      · have : (i + 1) * sz ≤ row * sz := Nat.mul_le_mul_right _ hlt'
        rw [Nat.add_mul, Nat.one_mul] at this
        omega
    rw [cell, if_neg hfar]
    exact k1

theorem op_store (g : Gam N w0 ok0 st ok ρ a w) (hd : o.dst = none) {t t1 : TypeId} {ad x : Operand} {p x' : X} {n : Nat} (ho : o.op = .store t ad x) (hp : cX P t1 ad = some p) (hx : cX P t x = some x') (hs : size? P t = some (n + 1))
    (he : storeL st (n + 1) (x'.rd st.env).cells (p.rd st.env) = some st') (hn : Into N w0 ok0 st' next) : o.wp P a w next Q := by
  have h1 := rd_ok g hp
  have h2 := rd_ok g hx
  generalize p.rd st.env = lp at he h1
  generalize hlx : x'.rd st.env = lx at he h2
  unfold storeL at he
  split at he
  · rename_i id off
    unfold storeP at he
    split at he
    · rename_i cs hid
      split at he
      · rename_i hc
        obtain ⟨hle, hlen⟩ := hc
        obtain rfl := Option.some.inj he
        simp only [LRep, hid, PRep] at h1
        obtain ⟨b, K, h3, h4⟩ := h1
        obtain ⟨b', K', cur, ty, h5, h6, h7⟩ := g.obj id _ hid
        rw [h3] at h5
        obtain ⟨rfl, rfl⟩ : b = b' ∧ K = K' := by simpa using h5
        have hcells := cells_ok h2 (fun e => by rw [e] at hlen; simp at hlen)
        have hcl : (a.eval x).cells.size = n + 1 := by have := hcells.length; simp at this; omega
        have hcurl := h7.length
        simp only [Array.length_toList] at hcurl
        have hrun := run_storeVar (P := P) w hs b off ty cur (a.eval x) h6 hcl (by omega) (hcells.one' rfl)
        have hspl := h7.splice hcells (off := off) (by omega)
        rw [Array.length_toList, hcl] at hspl
        refine wp_skip' (w' := w.setRow b (cur.toList.take off ++ (a.eval x).cells.toList ++ cur.toList.drop (off + (n + 1))).toArray) ?_ ?_
        · simp [execOp, ho, Instr.storeAt, h4, Instr.sureAddr, hrun]
        · refine Into.skip hd (g.write hid rfl (o' := .var false (setFrom cs off lx.cells)) rfl h3 (.inl ⟨_, _, _, _, rfl, rfl⟩) _ ?_) hn
          refine ⟨b, K, _, ty, h3, setRow_same w b cur _ ty h6, ?_⟩
          have hs' : Same w (w.setRow b (cur.toList.take off ++ (a.eval x).cells.toList ++ cur.toList.drop (off + (n + 1))).toArray) ok ok := fun c hcok =>
            ⟨setRow_other w b c _ (fun e => (g.free c hcok).2 id _ K hid rfl (e ▸ h3)), hcok⟩
          exact hspl.to hs' (later_kind hid (.inl ⟨_, _, _, _, rfl, rfl⟩))
      · cases he
    · cases he
  · rename_i id row off
    cases hsol : solidCells st.hp lx.cells with
    | none => rw [hsol] at he; simp only [storeE] at he; cases he
    | some q =>
      obtain ⟨ts, is⟩ := q
      rw [hsol] at he
      unfold storeE at he
      split at he
      · rename_i ts' is' e sz rows heq hid
        simp only [Option.some.injEq, Prod.mk.injEq] at heq
        obtain ⟨rfl, rfl⟩ := heq
        cases hrow : rows[row]? with
        | none => rw [hrow] at he; cases he
        | some r =>
          rw [hrow] at he
          simp only [storeE2] at he
          split at he
          · rename_i hc
            obtain ⟨hle, hlen, hnot⟩ := hc
            obtain rfl := Option.some.inj he
            simp only [LRep, hid, ERep] at h1
            obtain ⟨b, K, h3, h4⟩ := h1
            have hcells := cells_ok h2 (fun e => by
              rw [e] at hsol
              simp only [solidCells, Option.some.injEq, Prod.mk.injEq] at hsol
              rw [← hsol.1] at hlen
              simp at hlen)
            have hts := solidCells_ok g hsol hcells
            have hcl : (a.eval x).cells.size = n + 1 := by have := hts.length; simp at this; omega
            have g' := g.frozen is
            have hid' : freezeAll st.hp is id = some (.arr false e sz rows) := by rw [freezeAll_not is st.hp id hnot, hid]
            rcases g'.obj id _ hid' with ⟨h5, _⟩ | ⟨b', K', cur, h5, h6, h7, h8, h9, h10⟩
            · rw [h3] at h5; cases h5
            · rw [h3] at h5
              obtain ⟨rfl, rfl⟩ : b = b' ∧ K = K' := by simpa using h5
              have hnb : ∀ c, okPlus ok ρ st.hp is c → c ≠ b := fun c hc e' => (g'.free c hc).2 id _ K hid' rfl (e' ▸ h3)
              have hrl := (h10.get row r hrow).1
              have hlt : row < rows.length := (List.getElem?_eq_some_iff.1 hrow).1
              have hcur : rows.length * sz ≤ cur.size := by rw [h7]; exact Nat.mul_le_mul_right _ h9
              have hfit : row * sz + sz ≤ rows.length * sz := by
                have : (row + 1) * sz ≤ rows.length * sz := Nat.mul_le_mul_right _ hlt
                rwa [Nat.add_mul, Nat.one_mul] at this
              have hrun := run_storeVar (P := P) w hs b (row * sz + off) e cur (a.eval x) h6 hcl (by omega) (hcells.one' rfl)
              have hrep := h10.setRow h6 hcur hrow (off := off) (ts := ts) (us := (a.eval x).cells.toList) (by omega) hts hnb
              rw [Array.length_toList, hcl] at hrep
              refine wp_skip' (w' := w.setRow b (cur.toList.take (row * sz + off) ++ (a.eval x).cells.toList ++ cur.toList.drop (row * sz + off + (n + 1))).toArray) ?_ ?_
              · simp [execOp, ho, Instr.storeAt, h4, Instr.sureAddr, hrun]
              · refine Into.skip hd (g'.write hid' rfl (o' := .arr false e sz (rows.set row (setFromT r off ts))) rfl h3 (.inr ⟨_, _, _, _, _, _, _, rfl, rfl, by simp⟩) _ ?_) hn
                exact .inr ⟨b, K, _, h3, setRow_same w b cur _ e h6, by simp; omega, h8, by simpa using h9, hrep⟩
          · cases he
      · cases he
  · cases he
end
end Go.Proofs.Ytehcfmohjcjmpaa.Sx
