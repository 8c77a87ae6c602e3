/- The evaluator's single operations are sound: those that no call is. -/
import Derived.Test.YtehcfmohjcjmpaaSxRun
namespace Go.Proofs.Ytehcfmohjcjmpaa.Sx
open Go Go.RowKit

/-- wherever the state st' is told, 'next' holds -/
def Into (N : Nat) (w0 : World) (ok0 : Nat → Prop) (st' : St) (next : Act → World → Prop) : Prop := ∀ ok ρ a w, Gam N w0 ok0 st' ok ρ a w → next a w

section
variable {P : Program} {N : Nat} {w0 : World} {ok0 : Nat → Prop} {st st' : St} {ok : Nat → Prop} {ρ : Rho} {a : Act} {w w' : World}
  {next : Act → World → Prop} {Q : Exit → Act → World → Prop} {o : Oper}

theorem wp_val {v : Value} (hrun : (execOp a.eval o).run P w = .ok (.value v) w') (h : next (a.put o.dst v) w') : o.wp P a w next Q := by
  unfold Oper.wp; rw [hrun]; exact h
theorem wp_skip' (hrun : (execOp a.eval o).run P w = .ok .skip w') (h : next (a.put o.dst undef) w') : o.wp P a w next Q := by
  unfold Oper.wp; rw [hrun]; exact h

/-- an operation that only computes -/
theorem ok_val (g : Gam N w0 ok0 st ok ρ a w) {d : Nat} (hd : o.dst = some d) (hN : d < N) {v : Value} {l : LV} (hrun : (execOp a.eval o).run P w = .ok (.value v) w) (hl : LRep w ok ρ st.hp l v)
    (hn : Into N w0 ok0 (st.set d l) next) : o.wp P a w next Q :=
  wp_val hrun (by rw [hd]; exact hn _ _ _ _ (g.put hN hl))

/-! ### operands -/
theorem cV_ok {t : TypeId} {v : Value} {x : TV} (h : cV P t v = some x) : TRep w ok x v := by
  unfold cV at h
  split at h
  · obtain rfl := Option.some.inj h; simp only [TRep]
  · obtain rfl := Option.some.inj h; simp only [TRep]
  · obtain rfl := Option.some.inj h; simp only [TRep]
  · obtain rfl := Option.some.inj h; simp only [TRep]
  · unfold cNil at h
    split at h
    · obtain rfl := Option.some.inj h
      simp only [TRep]
      exact ⟨none, 0, 0, rfl, rfl, Nat.le_refl _, Nat.zero_le _, fun _ _ => rfl, .inl trivial⟩
    · cases h
  · cases h

theorem rd_ok (g : Gam N w0 ok0 st ok ρ a w) {t : TypeId} {x : Operand} {y : X} (h : cX P t x = some y) : LRep w ok ρ st.hp (y.rd st.env) (a.eval x) := by
  cases x with
  | tmp i => obtain rfl := Option.some.inj h; exact g.env _
  | func f =>
    obtain rfl := Option.some.inj h
    simp only [X.rd, LRep, Act.eval]
    exact ⟨#[], rfl, by simp only [LReps]⟩
  | global i => cases h
  | const v =>
    simp only [cX] at h
    split at h
    · rename_i hu
      obtain rfl := Option.some.inj h
      simp only [X.rd, LRep, Act.eval]
      unfold isUndef at hu
      split at hu
      · rename_i vs
        obtain rfl := Array.isEmpty_iff.1 hu
        exact ⟨#[], rfl, by simp only [LReps]⟩
      · cases hu
    · cases hv : cV P t v with
      | none => rw [hv] at h; cases h
      | some z =>
        rw [hv] at h
        obtain rfl := Option.some.inj h
        simp only [X.rd, LRep, Act.eval]
        exact cV_ok hv

theorem rds_ok (g : Gam N w0 ok0 st ok ρ a w) : ∀ {ts : List TypeId} {xs : List Operand} {ys : List X}, cXs P ts xs = some ys → LReps w ok ρ st.hp false (rds st.env ys) (xs.map a.eval)
  | [], [], ys, h => by simp only [cXs, Option.some.injEq] at h; subst h; simp only [rds, LReps, List.map_nil]
  | [], _ :: _, ys, h => by simp only [cXs] at h; cases h
  | _ :: _, [], ys, h => by simp only [cXs] at h; cases h
  | t :: ts, x :: xs, ys, h => by
    simp only [cXs] at h
    split at h
    · rename_i y r hy hr
      obtain rfl := Option.some.inj h
      simp only [rds, LReps, List.map_cons]
      exact ⟨_, _, rfl, by simp, rd_ok g hy, rds_ok g hr⟩
    · cases h

/-! ### shapes -/
theorem lrep_v {t : TV} {v : Value} (h : TRep w ok t v) : LRep w ok ρ st.hp (.v t) v := by simpa only [LRep] using h
theorem trep_bool {b : Bool} : TRep w ok (.bool b) (.bool b) := by simp only [TRep]
theorem trep_int {k : IntKind} {n : Int} : TRep w ok (.int k n) (.int k n) := by simp only [TRep]
theorem trep_str {z : ByteArray} : TRep w ok (.str z) (.string z) := by simp only [TRep]
theorem lv_int {k : IntKind} {n : Int} {x : Value} (h : LRep w ok ρ st.hp (.v (.int k n)) x) : x = .int k n := by simpa only [LRep, TRep] using h
theorem lv_bool {b : Bool} {x : Value} (h : LRep w ok ρ st.hp (.v (.bool b)) x) : x = .bool b := by simpa only [LRep, TRep] using h
theorem lv_str {s : ByteArray} {x : Value} (h : LRep w ok ρ st.hp (.v (.str s)) x) : x = .string s := by simpa only [LRep, TRep] using h

theorem one_of_trep {t : TV} {v : Value} (h : TRep w ok t v) (ha : ∀ cs, t ≠ .agg cs) (ht : ∀ cs, t ≠ .tup cs) : v.oneCell' = true ∧ v.cells = #[v] := by
  cases t with
  | agg cs => exact absurd rfl (ha cs)
  | tup cs => exact absurd rfl (ht cs)
  | int k n => simp only [TRep] at h; subst h; exact ⟨rfl, rfl⟩
  | bool b => simp only [TRep] at h; subst h; exact ⟨rfl, rfl⟩
  | str s => simp only [TRep] at h; subst h; exact ⟨rfl, rfl⟩
  | nilfn => simp only [TRep] at h; subst h; exact ⟨rfl, rfl⟩
  | sl fl sz rows => simp only [TRep] at h; obtain ⟨a, len, cap, rfl, _⟩ := h; exact ⟨rfl, rfl⟩
  | pc cs => simp only [TRep] at h; obtain ⟨b, o, rfl, _⟩ := h; exact ⟨rfl, rfl⟩
  | fn f cs => simp only [TRep] at h; obtain ⟨b, rfl, _⟩ := h; exact ⟨rfl, rfl⟩

theorem cells_ok {l : LV} {x : Value} (h : LRep w ok ρ st.hp l x) (hne : l.cells ≠ []) : LReps w ok ρ st.hp true l.cells x.cells.toList := by
  have single : ∀ {l : LV} {x : Value}, LRep w ok ρ st.hp l x → x.oneCell' = true → x.cells = #[x] → LReps w ok ρ st.hp true [l] x.cells.toList := by
    intro l x h h1 h2
    rw [h2]
    simp only [LReps]
    exact ⟨x, [], rfl, fun _ => h1, h, rfl⟩
  cases l with
  | u => exact absurd rfl hne
  | tup vs => exact absurd rfl hne
  | agg cs =>
    simp only [LRep] at h
    obtain ⟨vs, rfl, h2⟩ := h
    exact h2
  | v t =>
    cases t with
    | agg cs => exact absurd rfl hne
    | tup cs => exact absurd rfl hne
    | int k n => have := one_of_trep (w := w) (ok := ok) (by simpa only [LRep] using h) (by simp) (by simp); exact single h this.1 this.2
    | bool b => have := one_of_trep (w := w) (ok := ok) (by simpa only [LRep] using h) (by simp) (by simp); exact single h this.1 this.2
    | str s => have := one_of_trep (w := w) (ok := ok) (by simpa only [LRep] using h) (by simp) (by simp); exact single h this.1 this.2
    | nilfn => have := one_of_trep (w := w) (ok := ok) (by simpa only [LRep] using h) (by simp) (by simp); exact single h this.1 this.2
    | sl fl sz rows => have := one_of_trep (w := w) (ok := ok) (by simpa only [LRep] using h) (by simp) (by simp); exact single h this.1 this.2
    | pc cs => have := one_of_trep (w := w) (ok := ok) (by simpa only [LRep] using h) (by simp) (by simp); exact single h this.1 this.2
    | fn f cs => have := one_of_trep (w := w) (ok := ok) (by simpa only [LRep] using h) (by simp) (by simp); exact single h this.1 this.2
  | p id off =>
    have h' := h
    simp only [LRep] at h'
    obtain ⟨b, rfl⟩ := h'.shape
    exact single h rfl rfl
  | pe id row off =>
    have h' := h
    simp only [LRep] at h'
    obtain ⟨b, rfl⟩ := h'.shape
    exact single h rfl rfl
  | s id off len =>
    have h' := h
    simp only [LRep] at h'
    obtain ⟨b, cap, rfl, _⟩ := h'.shape
    exact single h rfl rfl
  | fn f cs =>
    have h' := h
    simp only [LRep] at h'
    obtain ⟨vs, rfl, _⟩ := h'
    exact single h rfl rfl
  | m id =>
    have h' := h
    simp only [LRep] at h'
    obtain ⟨b, rfl⟩ := h'.shape
    exact single h rfl rfl

theorem setM_some {d : Nat} {m : Option LV} (h : setM st d m = some st') : ∃ l, m = some l ∧ st' = st.set d l := by
  cases m with
  | none => cases h
  | some l => exact ⟨l, rfl, (Option.some.inj h).symm⟩
theorem setV_some {d : Nat} {m : Option TV} (h : setV st d m = some st') : ∃ t, m = some t ∧ st' = st.set d (.v t) := by
  cases m with
  | none => cases h
  | some t => exact ⟨t, rfl, (Option.some.inj h).symm⟩
theorem mkO_some {d id : Nat} {ob : Ob} {l : LV} (h : mkO d id ob l st = some st') : st.hp id = none ∧ st' = ({ st with hp := upd st.hp id (some ob) } : St).set d l := by
  unfold mkO at h
  cases hi : st.hp id with
  | none => rw [hi] at h; exact ⟨rfl, (Option.some.inj h).symm⟩
  | some o => rw [hi] at h; cases h

/-- a new block, named; the slot holds what is said of it -/
theorem ok_new (g : Gam N w0 ok0 st ok ρ a w) {d : Nat} (hd : o.dst = some d) (hN : d < N) {id : Nat} {ob : Ob} {l : LV} (hm : mkO d id ob l st = some st') {v : Value} {w1 : World} {cur : Array Value} {ty : TypeId} (K : Nat)
    (hrun : (execOp a.eval o).run P w = .ok (.value v) (w1.alloc (.cells cur ty))) (hw1 : w1 = w ∨ w1 = w.drew)
    (ho : ORep (w1.alloc (.cells cur ty)) ok (upd ρ id (some (w.heap.size, K))) (upd st.hp id (some ob)) id ob)
    (hl : LRep (w1.alloc (.cells cur ty)) ok (upd ρ id (some (w.heap.size, K))) (upd st.hp id (some ob)) l v)
    (hn : Into N w0 ok0 st' next) : o.wp P a w next Q := by
  obtain ⟨hid, rfl⟩ := mkO_some hm
  have hsz : w1.heap.size = w.heap.size := by rcases hw1 with rfl | rfl <;> rfl
  have g1 : Gam N w0 ok0 st ok ρ a w1 := by
    rcases hw1 with rfl | rfl
    · exact g
    · exact g.drew
  refine wp_val hrun ?_
  rw [hd]
  rw [← hsz] at ho hl
  exact hn _ _ _ _ ((g1.new hid cur ty K ho).put hN hl)

theorem same_alloc (g : Gam N w0 ok0 st ok ρ a w) (x : Obj) : Same w (w.alloc x) ok ok := fun b hb => ⟨Below.heap_alloc w x b (g.free b hb).1, hb⟩
theorem same_drew_alloc (g : Gam N w0 ok0 st ok ρ a w) (x : Obj) : Same w (w.drew.alloc x) ok ok := fun b hb => ⟨Below.heap_alloc w.drew x b (g.free b hb).1, hb⟩

/-- a new variable -/
theorem ok_var (g : Gam N w0 ok0 st ok ρ a w) {d : Nat} (hd : o.dst = some d) (hN : d < N) {id : Nat} {cs : List LV} (hm : mkO d id (.var false cs) (.p id 0) st = some st') {cur : Array Value} {ty : TypeId}
    (hrun : (execOp a.eval o).run P w = .ok (.value (.pointer (some ⟨w.heap.size, 0, none⟩))) (w.alloc (.cells cur ty)))
    (hcs : LReps w ok ρ st.hp true cs cur.toList) (hn : Into N w0 ok0 st' next) : o.wp P a w next Q := by
  have hid := (mkO_some hm).1
  refine ok_new g hd hN hm 0 hrun (.inl rfl) ?_ ?_ hn
  · exact ⟨w.heap.size, 0, cur, ty, upd_same _ _ _, heap_alloc_new w _, hcs.to (same_alloc g _) (later_new hid _ _)⟩
  · simp only [LRep, PRep, upd_same]
    exact ⟨_, _, rfl, rfl⟩

/-! ### the operations -/
theorem op_mv (g : Gam N w0 ok0 st ok ρ a w) {d : Nat} (hd : o.dst = some d) (hN : d < N) {t : TypeId} {x : Operand} {y : X} (ho : o.op = .move x ∨ o.op = .assign x) (hy : cX P t x = some y)
    (hn : Into N w0 ok0 (st.set d (y.rd st.env)) next) : o.wp P a w next Q := by
  refine ok_val g hd hN (v := a.eval x) ?_ (rd_ok g hy) hn
  rcases ho with ho | ho <;> simp [execOp, ho]

theorem op_pick (g : Gam N w0 ok0 st ok ρ a w) {d : Nat} (hd : o.dst = some d) (hN : d < N) {t : TypeId} {c x y : Operand} {c' x' y' : X} (ho : o.op = .pick c x y) (hc : cX P t c = some c') (hx : cX P t x = some x') (hy : cX P t y = some y')
    (he : pickK st d (x'.rd st.env) (y'.rd st.env) (c'.rd st.env) = some st') (hn : Into N w0 ok0 st' next) : o.wp P a w next Q := by
  have h := rd_ok g hc
  generalize hl : c'.rd st.env = l at he h
  unfold pickK at he
  split at he
  · have hb := lv_bool h
    split at he
    · rename_i e
      subst e
      obtain rfl := Option.some.inj he
      refine ok_val g hd hN (v := a.eval x) ?_ (rd_ok g hx) hn
      simp [execOp, ho, hb, asBool]
    · rename_i e
      obtain rfl := Option.some.inj he
      refine ok_val g hd hN (v := a.eval y) ?_ (rd_ok g hy) hn
      simp [execOp, ho, hb, asBool, e]
  · cases he

theorem cV_one {t : TypeId} {v : Value} {x : TV} (h : cV P t v = some x) : v.oneCell' = true := by
  unfold cV at h
  split at h <;> first | rfl | cases h
theorem cVs_ok : ∀ {ts : List TypeId} {vs : List Value} {zs : List TV}, cVs P ts vs = some zs → LReps w ok ρ st.hp true (liftV zs) vs
  | [], [], zs, h => by simp only [cVs, Option.some.injEq] at h; subst h; simp only [liftV, LReps]
  | [], _ :: _, zs, h => by simp only [cVs] at h; cases h
  | _ :: _, [], zs, h => by simp only [cVs] at h; cases h
  | t :: ts, v :: vs, zs, h => by
    simp only [cVs] at h
    split at h
    · rename_i x xs hx hxs
      obtain rfl := Option.some.inj h
      simp only [liftV, LReps]
      exact ⟨v, vs, rfl, fun _ => cV_one hx, by simp only [LRep]; exact cV_ok hx, cVs_ok hxs⟩
    · cases h
theorem zeroT_some {t : TypeId} {zs : List TV} (h : zeroT P t = some zs) : ∃ z, (P.info? t).bind (·.zero) = some z ∧ cVs P (leaves P 20 t) z.cells.toList = some zs := by
  unfold zeroT at h
  split at h
  · rename_i z hz; exact ⟨z, hz, h⟩
  · cases h

theorem op_alloc (g : Gam N w0 ok0 st ok ρ a w) {d : Nat} (hd : o.dst = some d) (hN : d < N) {e : TypeId} {zs : List TV} (ho : o.op = .alloc e) (hz : zeroT P e = some zs) {lo : Nat}
    (he : mkO d (lo + d) (.var false (liftV zs)) (.p (lo + d) 0) st = some st') (hn : Into N w0 ok0 st' next) : o.wp P a w next Q := by
  obtain ⟨z, h1, h2⟩ := zeroT_some hz
  refine ok_var g hd hN he (cur := z.cells) (ty := e) ?_ (cVs_ok h2) hn
  simp [execOp, ho, run_alloc w h1]

theorem op_box (g : Gam N w0 ok0 st ok ρ a w) {d : Nat} (hd : o.dst = some d) (hN : d < N) {e : TypeId} {x : Operand} {y : X} {n : Nat} (ho : o.op = .box e x) (hy : cX P e x = some y) {lo : Nat}
    (he : boxK lo st d (n + 1) (y.rd st.env).cells = some st') (hn : Into N w0 ok0 st' next) : o.wp P a w next Q := by
  unfold boxK at he
  split at he
  · rename_i hlen
    refine ok_var g hd hN he (cur := (a.eval x).cells) (ty := e) ?_ (cells_ok (rd_ok g hy) (fun h => by rw [h] at hlen; cases hlen)) hn
    simp [execOp, ho, run_box w]
  · cases he

theorem packL_ok {ag : Bool} {cs : List LV} {l : LV} (h : packL ag cs = some l) {vs : List Value} (hv : LReps w ok ρ st.hp true cs vs) : LRep w ok ρ st.hp l (packV ag vs) := by
  cases ag with
  | true =>
    simp only [packL, Option.some.injEq] at h
    subst h
    simp only [LRep, packV, if_true]
    exact ⟨_, rfl, by simpa using hv⟩
  | false =>
    match cs, h with
    | [c], h =>
      simp only [packL, Option.some.injEq] at h
      subst h
      simp only [LReps] at hv
      obtain ⟨v, r, rfl, _, h3, rfl⟩ := hv
      simpa [packV] using h3

theorem LReps.sub {one : Bool} {cs : List LV} {vs : List Value} (h : LReps w ok ρ st.hp one cs vs) (off n : Nat) : LReps w ok ρ st.hp one ((cs.drop off).take n) ((vs.drop off).take n) := by
  refine LReps.of (by simp [h.length]) fun i l hi => ?_
  rw [List.getElem?_take] at hi
  split at hi
  · rename_i hin
    rw [List.getElem?_drop] at hi
    obtain ⟨v, h1, h2, h3⟩ := h.get _ _ hi
    exact ⟨v, by rw [List.getElem?_take, if_pos hin, List.getElem?_drop]; exact h1, h2, h3⟩
  · cases hi

theorem cut_ok {ag : Bool} {cs : List LV} {off n : Nat} {l : LV} (h : cut ag cs off n = some l) {vs : List Value} (hv : LReps w ok ρ st.hp true cs vs) :
    off + n ≤ vs.length ∧ LRep w ok ρ st.hp l (packV ag ((vs.drop off).take n)) := by
  unfold cut at h
  split at h
  · rename_i hle
    exact ⟨by rw [hv.length]; exact hle, packL_ok h (hv.sub off n)⟩
  · cases h

theorem trep_cells {b : Nat} : ∀ {cells : List TV} {off : Nat}, CellsRep w ok b cells off → ∃ vs : List Value, vs.length = cells.length ∧ LReps w ok ρ st.hp true (liftV cells) vs ∧ (∀ j v, vs[j]? = some v → w.cell? ⟨b, off + j, none⟩ = some v)
  | [], off, _ => ⟨[], rfl, by simp only [liftV, LReps], by simp⟩
  | c :: cs, off, h => by
    simp only [CellsRep] at h
    obtain ⟨⟨v, h1, h2, h3⟩, h4⟩ := h
    obtain ⟨vs, g1, g2, g3⟩ := trep_cells h4
    refine ⟨v :: vs, by simp [g1], ?_, ?_⟩
    · simp only [liftV, LReps]
      exact ⟨v, vs, rfl, fun _ => h2, by simp only [LRep]; exact h3, g2⟩
    · intro j u hj
      cases j with
      | zero => simp only [List.getElem?_cons_zero, Option.some.injEq] at hj; subst hj; exact h1
      | succ j => rw [show off + (j + 1) = off + 1 + j by omega]; exact g3 j u (by simpa using hj)

theorem liftV_drop : ∀ (cs : List TV) (k : Nat), liftV (cs.drop k) = (liftV cs).drop k
  | [], k => by simp [liftV]
  | c :: cs, 0 => rfl
  | c :: cs, k + 1 => by simpa [liftV] using liftV_drop cs k
theorem liftV_take : ∀ (cs : List TV) (k : Nat), liftV (cs.take k) = (liftV cs).take k
  | [], k => by simp [liftV]
  | c :: cs, 0 => rfl
  | c :: cs, k + 1 => by simpa [liftV] using liftV_take cs k
theorem liftV_length : ∀ cs : List TV, (liftV cs).length = cs.length
  | [] => rfl
  | c :: cs => by simp [liftV, liftV_length cs]

/-- what is read at an address -/
theorem loadR_ok {ag : Bool} {off n : Nat} {r : List TV} {l : LV} (h : loadR ag off n (some r) = some l) {b o' : Nat} (hr : CellsRep w ok b r o') :
    ∃ vs : List Value, vs.length = n ∧ (∀ j v, vs[j]? = some v → w.cell? ⟨b, o' + off + j, none⟩ = some v) ∧ LRep w ok ρ st.hp l (packV ag vs) := by
  simp only [loadR] at h
  split at h
  · rename_i hle
    obtain ⟨vs, h1, h2, h3⟩ := trep_cells (ρ := ρ) (st := st) ((hr.drop off).take n)
    exact ⟨vs, by rw [h1]; simp; omega, h3, packL_ok h h2⟩
  · cases h

theorem loadL_ok (g : Gam N w0 ok0 st ok ρ a w) {n : Nat} {ag : Bool} {l r : LV} (h : loadL st.hp n ag l = some r) {x : Value} (hx : LRep w ok ρ st.hp l x) :
    ∃ b o' vs, x = .pointer (some ⟨b, o', none⟩) ∧ vs.length = n ∧ (∀ j v, vs[j]? = some v → w.cell? ⟨b, o' + j, none⟩ = some v) ∧ LRep w ok ρ st.hp r (packV ag vs) := by
  unfold loadL at h
  split at h
  · rename_i id off
    simp only [LRep] at hx
    unfold loadO at h
    split at h
    · rename_i cs hid
      obtain ⟨b, K, h1, rfl⟩ : ∃ b K, ρ id = some (b, K) ∧ x = .pointer (some ⟨b, off, none⟩) := by rw [hid] at hx; exact hx
      obtain ⟨b', K', cur, ty, h2, h3, h4⟩ := g.obj id _ hid
      rw [h1] at h2
      obtain ⟨rfl, rfl⟩ : b = b' ∧ K = K' := by simpa using h2
      obtain ⟨hle, hr⟩ := cut_ok h h4
      refine ⟨b, off, (cur.toList.drop off).take n, rfl, by simp only [Array.length_toList, List.length_take, List.length_drop] at hle ⊢; omega, fun j v hj => ?_, hr⟩
      rw [List.getElem?_take] at hj
      split at hj
      · rw [List.getElem?_drop] at hj
        rw [cell_of_row w b (off + j) cur ty (0, 0) h3]
        simpa using hj
      · cases hj
    · cases h
  · rename_i id row off
    simp only [LRep] at hx
    unfold loadE at h
    split at h
    · rename_i e sz rows hid
      obtain ⟨b, K, h1, rfl⟩ : ∃ b K, ρ id = some (b, K) ∧ x = .pointer (some ⟨b, row * sz + off, none⟩) := by rw [hid] at hx; exact hx
      rcases g.obj id _ hid with ⟨h2, _⟩ | ⟨b', K', cur, h2, h3, h4, h5, h6, h7⟩
      · rw [h1] at h2; cases h2
      · rw [h1] at h2
        obtain ⟨rfl, rfl⟩ : b = b' ∧ K = K' := by simpa using h2
        cases hrow : rows[row]? with
        | none => rw [hrow] at h; cases h
        | some q =>
          rw [hrow] at h
          obtain ⟨_, hq⟩ := h7.get row q hrow
          obtain ⟨vs, k1, k2, k3⟩ := loadR_ok (ρ := ρ) (st := st) h hq
          exact ⟨b, row * sz + off, vs, rfl, k1, by simpa using k2, k3⟩
    · cases h
  · rename_i cs
    simp only [LRep, TRep] at hx
    obtain ⟨b, o', rfl, _, h3⟩ := hx
    obtain ⟨vs, k1, k2, k3⟩ := loadR_ok (ρ := ρ) (st := st) h h3
    exact ⟨b, o', vs, rfl, k1, by simpa using k2, k3⟩
  · cases h

theorem op_load (g : Gam N w0 ok0 st ok ρ a w) {d : Nat} (hd : o.dst = some d) (hN : d < N) {t t' : TypeId} {x : Operand} {y : X} {n : Nat} (ho : o.op = .load t x) (hy : cX P t' x = some y) (hs : size? P t = some n) (hu : ∃ k, P.underlying t = some k) (h1 : isAggB P t = false → n = 1)
    (he : setM st d (loadL st.hp n (isAggB P t) (y.rd st.env)) = some st') (hn : Into N w0 ok0 st' next) : o.wp P a w next Q := by
  obtain ⟨l, hl, rfl⟩ := setM_some he
  obtain ⟨b, o', vs, hx, k1, k2, k3⟩ := loadL_ok g hl (rd_ok g hy)
  obtain ⟨k, hk⟩ := hu
  refine ok_val g hd hN (v := packV (isAggB P t) vs) ?_ k3 hn
  have := run_loadVar (P := P) w hk hs b o' vs k1 h1 k2
  simp [execOp, ho, Instr.loadAt, hx, Instr.sureAddr, this]
end
end Go.Proofs.Ytehcfmohjcjmpaa.Sx
