/- The evaluator's single operations are sound, the last lot: nil, append of zeros, maps. Every operation of the evaluator is sound. A region's operations, one behind the other. An operation of the evaluator looks at its footprint alone, and turns no more. Every operation is local; two that are apart go in either order. A region whose order is drawn: in every order that may be drawn it comes to the same. The orders that may be drawn. What is kept behind a region still says what is so. A block that nobody else names, turned; what is carried along; marks. What stays named, named by two lists; rooms behind. -/
import Derived.MapKept
import Derived.RangeFuncIn
import Derived.RangeFuncRecord
import Derived.RangeFuncLeaves
import Derived.RangeFuncCalls
import Derived.Test.YtfhijlhiifkkhaaSxG2
set_option maxRecDepth 100000
namespace Go.Proofs.Ytfhijlhiifkkhaa.Sx
open Go Go.RowKit
section
variable {P : Program} {N : Rm} {w0 : World} {ok0 : Nat → Prop} {st st' : St} {ok : Nat → Prop} {ρ : Rho} {a : Act} {w w' : World}
  {next : Act → World → Prop} {Q : Exit → Act → World → Prop} {o : Oper} {rd : Option Nat}

theorem one_cells' {x : Value} (h : x.oneCell' = true) : x.cells = #[x] := by cases x <;> first | rfl | (simp [Value.oneCell'] at h)
/-! ### nil -/
theorem isnilS {l : LV} {r : Bool} (g : Gam N w0 ok0 st ok ρ a w) (h : isnilL false l = some r) {x : Value} (hl : LRep w ok ρ st.hp l x) : r = false ∧ ∃ ad n c, x = .slice (some ad) n c := by
  unfold isnilL at h
  split at h
  · obtain ⟨ad, cap, rfl, h2, h3, h4, h5⟩ := sl_form hl
    refine ⟨(Option.some.inj h).symm, ?_⟩
    rcases h5 with h5 | ⟨b, o, rfl, _⟩
    · cases h5
    · exact ⟨_, _, _, rfl⟩
  · simp only [LRep] at hl
    obtain ⟨ad, cap, rfl, _, _, h3⟩ := hl.shape
    refine ⟨(Option.some.inj h).symm, ?_⟩
    rcases h3 with h3 | h3
    · omega
    · obtain ⟨b, rfl⟩ := Option.isSome_iff_exists.1 h3
      exact ⟨_, _, _, rfl⟩
  all_goals first | (cases ‹false = true›; done) | (cases h; done)
theorem isnilP {l : LV} {r : Bool} (h : isnilL true l = some r) {x : Value} (hl : LRep w ok ρ st.hp l x) : r = false ∧ ∃ ad, x = .pointer (some ad) := by
  unfold isnilL at h
  split at h
  · cases ‹true = false›
  · cases ‹true = false›
  · exact ⟨(Option.some.inj h).symm, lv_p hl⟩
  · exact ⟨(Option.some.inj h).symm, lv_pe hl⟩
  · simp only [LRep, TRep] at hl
    obtain ⟨b, o, rfl, _⟩ := hl
    exact ⟨(Option.some.inj h).symm, _, rfl⟩
  · cases h

theorem run_equalIn_sl {t e : TypeId} (hu : P.underlying t = some (.slice e)) (ad : Addr) (n c : Nat) (d : Nat) : (Op.equalIn (d + 1) t (.slice (some ad) n c) (.slice none 0 0)).run P w = .ok false w := by
  simp [Op.equalIn, run_underlying hu]
theorem run_equalIn_pt {t e : TypeId} (hu : P.underlying t = some (.pointer e)) (ad : Addr) (d : Nat) : (Op.equalIn (d + 1) t (.pointer (some ad)) (.pointer none)).run P w = .ok false w := by
  simp [Op.equalIn, run_underlying hu]
theorem run_nilS {t e : TypeId} (hu : P.underlying t = some (.slice e)) (ad : Addr) (n c : Nat) (neg : Bool) : (binOp (if neg then .neq else .eql) t (.slice (some ad) n c) (.slice none 0 0)).run P w = .ok (.bool (if neg then !false else false)) w := by
  have h : (Op.equalIn 10000 t (.slice (some ad) n c) (.slice none 0 0)).run P w = .ok false w := run_equalIn_sl (w := w) hu ad n c 9999
  cases neg <;> simp [binOp, Op.equal, Op.maxDepth, h]
theorem run_nilP {t e : TypeId} (hu : P.underlying t = some (.pointer e)) (ad : Addr) (neg : Bool) : (binOp (if neg then .neq else .eql) t (.pointer (some ad)) (.pointer none)).run P w = .ok (.bool (if neg then !false else false)) w := by
  have h : (Op.equalIn 10000 t (.pointer (some ad)) (.pointer none)).run P w = .ok false w := run_equalIn_pt (w := w) hu ad 9999
  cases neg <;> simp [binOp, Op.equal, Op.maxDepth, h]
theorem run_nilG (op : BinOp) (t : TypeId) (x y : Operand) {u v : Value} (h : (∃ a n c, u = .slice a n c) ∨ (∃ a, u = .pointer a)) : (eqGuard op t x y u v).run P w = .ok () w := by
  rcases h with ⟨a, n, c, rfl⟩ | ⟨a, rfl⟩ <;> cases op <;> simp [eqGuard]

theorem op_isnil (g : Gam N w0 ok0 st ok ρ a w) {d : Nat} (hd : o.dst = some d) (hN : N.may d) {t t1 u : TypeId} {x y : Operand} {x' : X} {neg ptr : Bool} (ho : o.op = .binOp (if neg then .neq else .eql) t x y u)
    (hx : cX P t1 x = some x') (hy : isNilC P t y = some ptr) (he : setV st d (nilB neg (isnilL ptr (x'.rd st.env))) = some st') (hn : Into N w0 ok0 st' next) : o.wpIn (FR rd) 0 P a w next Q := by
  obtain ⟨r, hr, rfl⟩ := setV_some he
  have h1 := rd_ok g hx
  generalize x'.rd st.env = l at hr h1
  cases hb : isnilL ptr l with
  | none => rw [hb] at hr; cases hr
  | some b =>
    rw [hb] at hr
    obtain rfl := Option.some.inj hr
    unfold isNilC at hy
    split at hy
    · split at hy
      · rename_i hu
        obtain rfl := Option.some.inj hy
        obtain ⟨rfl, ad, n, c, e1⟩ := isnilS g hb h1
        refine ok_val g hd hN (v := .bool (if neg then !false else false)) ?_ (lrep_v trep_bool) hn
        have hg := run_nilG (P := P) (w := w) (if neg then .neq else .eql) t x (.const (.slice none 0 0)) (u := .slice (some ad) n c) (v := .slice none 0 0) (.inl ⟨_, _, _, rfl⟩)
        have hr := run_nilS (P := P) (w := w) hu ad n c neg
        have hev : a.eval (.const (.slice none 0 0)) = .slice none 0 0 := rfl
        simp only [execOp, ho, e1, hev, Sem.run_bind, hg, Result.andThen_ok, hr, Sem.run_pure]
      · cases hy
    · split at hy
      · rename_i hu
        obtain rfl := Option.some.inj hy
        obtain ⟨rfl, ad, e1⟩ := isnilP hb h1
        refine ok_val g hd hN (v := .bool (if neg then !false else false)) ?_ (lrep_v trep_bool) hn
        have hg := run_nilG (P := P) (w := w) (if neg then .neq else .eql) t x (.const (.pointer none)) (u := .pointer (some ad)) (v := .pointer none) (.inr ⟨_, rfl⟩)
        have hr := run_nilP (P := P) (w := w) hu ad neg
        have hev : a.eval (.const (.pointer none)) = .pointer none := rfl
        simp only [execOp, ho, e1, hev, Sem.run_bind, hg, Result.andThen_ok, hr, Sem.run_pure]
      · cases hy
    · cases hy

theorem op_allocM (g : Gam N w0 ok0 st ok ρ a w) {d : Nat} (hd : o.dst = some d) (hN : N.may d) {e : TypeId} (ho : o.op = .alloc e) (hz : zeroM P e = true) {lo : Nat}
    (he : mkO d (lo + d) (.var false [.u]) (.p (lo + d) 0) st = some st') (hn : Into N w0 ok0 st' next) : o.wpIn (FR rd) 0 P a w next Q := by
  have hz' : ∃ z, (P.info? e).bind (·.zero) = some z ∧ z.oneCell' = true := by
    unfold zeroM at hz
    split at hz
    · exact ⟨_, by assumption, rfl⟩
    · exact ⟨_, by assumption, rfl⟩
    · cases hz
  obtain ⟨z, hz1, hz2⟩ := hz'
  have hr := run_alloc (P := P) w hz1
  refine ok_var g hd hN he (cur := z.cells) (ty := e) ?_ ?_ hn
  · simp [execOp, ho, hr]
  · rw [one_cells' hz2]
    simp only [LReps]
    exact ⟨z, [], rfl, fun _ => hz2, by simp only [LRep], rfl⟩

/-! ### append of zeros to nothing -/
theorem zeros_vals {e : TypeId} {i : TypeInfo} {zs : List TV} (hi : P.info? e = some i) (hz : zeroT P e = some zs) : ∃ z, i.zero = some z ∧ zs.length = z.cells.size ∧ ValsRep w ok true zs z.cells.toList := by
  obtain ⟨z, hz1, hz2⟩ := zeroT_some hz
  rw [hi] at hz1
  have hzl := cVs_length hz2
  have hzc := cVs_ok (w := w) (ok := ok) (ρ := fun _ => none) (st := ⟨e0, h0⟩) hz2
  refine ⟨z, hz1, by simpa using hzl, ValsRep.of (by simpa using hzl.symm) fun j t' hj => ?_⟩
  obtain ⟨v, k1, k2, k3⟩ := hzc.get j (.v t') (by
    have : ∀ (zs : List TV) (j : Nat) (t' : TV), zs[j]? = some t' → (liftV zs)[j]? = some (.v t') := by
      intro zs
      induction zs with
      | nil => intro j t' h; simp at h
      | cons q qs ih => intro j t' h; cases j with
        | zero => simpa [liftV] using h
        | succ j => simpa [liftV] using ih j t' (by simpa using h)
    exact this zs j t' hj)
  exact ⟨v, k1, k2, by simpa only [LRep] using k3⟩
theorem zeros_are {zs : List TV} {vs : List Value} (h : ValsRep w ok true zs vs) (m : Nat) : RowsAre w ok zs.length (List.replicate m zs) (List.replicate m vs).flatten := by
  have hone := RowsAre.one h
  induction m with
  | zero => exact RowsAre.nil
  | succ m ih => simpa [List.replicate_succ] using hone.append ih
theorem flat_len (vs : List Value) (m : Nat) : (List.replicate m vs).flatten.length = m * vs.length := by
  induction m with
  | zero => simp
  | succ m ih => rw [List.replicate_succ, List.flatten_cons, List.length_append, ih, Nat.add_mul, Nat.one_mul, Nat.add_comm]
theorem flat_get (vs : List Value) : ∀ (m j : Nat), j < m * vs.length → (List.replicate m vs).flatten[j]? = vs[j % vs.length]?
  | 0, j, hj => by simp at hj
  | m + 1, j, hj => by
    rw [Nat.add_mul, Nat.one_mul] at hj
    rw [List.replicate_succ, List.flatten_cons]
    by_cases hlt : j < vs.length
    · rw [List.getElem?_append_left hlt, Nat.mod_eq_of_lt hlt]
    · rw [List.getElem?_append_right (by omega), flat_get vs m (j - vs.length) (by omega), Nat.mod_eq_sub_mod (show j ≥ vs.length by omega)]
theorem zeroCells_get {zero : Array Value} {n j : Nat} (h : j < n * zero.size) (hp : 0 < zero.size) : (Builtin.zeroCells zero n)[j]? = zero[j % zero.size]? := by
  have hlt : j % zero.size < zero.size := Nat.mod_lt _ hp
  simp only [Builtin.zeroCells, Array.getElem?_map]
  rw [Array.getElem?_eq_getElem (by simpa using h)]
  simp [hlt]

theorem run_append_zeros (t u ty e : TypeId) (i : TypeInfo) (z : Value) (k : IntKind) (ht : P.underlying t = some (.slice e)) (hu : P.underlying u = some (.int k)) (hi : P.info? e = some i) (hz : i.zero = some z)
    (b : Option Addr) (n : Int) (h0 : 0 < n) (hby : n * i.bytes ≤ 140737488355328) (hb : 0 < i.bytes) (hs : 0 < i.size) :
    (Builtin.append_ #[t, u] ty #[.slice b 0 0, .int .i64 n]).run P w =
      .ok (.slice (some ⟨w.heap.size, 0, none⟩) n.toNat (grownCap w n.toNat 0 e))
        (w.drew.alloc (.cells (Builtin.zeroCells z.cells n.toNat ++ Builtin.zeroCells z.cells (grownCap w n.toNat 0 e - n.toNat)) e)) := by
  have hnb : n ≤ 140737488355328 := by
    have : n * 1 ≤ n * (i.bytes : Int) := Int.mul_le_mul_of_nonneg_left (by omega) (by omega)
    omega
  have wn : IntKind.i64.wrap n = n := by rw [IntKind.wrap_i64]; omega
  have q1 : ¬ n < 0 := by omega
  have q2 : ¬ (281474976710656 < n * (i.bytes : Int)) := by omega
  have q4' : ¬ ((9223372036854775807 : Int) < max n 0) := by omega
  have hx : n.toNat * i.bytes ≤ 140737488355328 := by
    have e : ((n.toNat * i.bytes : Nat) : Int) = n * (i.bytes : Int) := by rw [Int.natCast_mul, Int.toNat_of_nonneg (by omega)]
    omega
  have q5 : ¬ (281474976710656 < Builtin.nextslicecap n.toNat 0 * i.bytes) := by
    have := growslice_fits (by omega : 0 < n.toNat) hx
    omega
  have q6 : ¬ (n ≤ 0) := by omega
  have q7' : ¬ (n.toNat * i.size = 0) := by rw [Nat.mul_eq_zero]; omega
  have hf : (Builtin.firstCells i.size 0 (.slice b 0 0)).run P w.drew = .ok #[] w.drew := by
    cases b <;> simp [Builtin.firstCells, loadCells, loadCellsFrom]
  simp [Builtin.append_, run_underlying ht, run_underlying hu, sizeOf, typeInfo, zeroValue, hi, hz, asInt, asIntOf, wn, q1, q2, q4', q5, q6, q7', Question.forced, hf, newRow, grownCap]

theorem run_append_zero0 (t u ty e : TypeId) (i : TypeInfo) (k : IntKind) (ht : P.underlying t = some (.slice e)) (hu : P.underlying u = some (.int k)) (hi : P.info? e = some i)
    (b : Option Addr) : (Builtin.append_ #[t, u] ty #[.slice b 0 0, .int .i64 0]).run P w = .ok (.slice b 0 0) w := by
  have wn : IntKind.i64.wrap 0 = 0 := rfl
  cases b <;> simp [Builtin.append_, run_underlying ht, run_underlying hu, sizeOf, typeInfo, hi, asInt, asIntOf, wn, storeCells]

theorem op_appz (g : Gam N w0 ok0 st ok ρ a w) {d : Nat} (hd : o.dst = some d) (hN : N.may d) {t u e t1 t2 : TypeId} {x y : Operand} {x' y' : X} {lo : Nat} {i : TypeInfo} {zs : List TV}
    (ho : o.op = .call { callee := .builtin .append, args := #[x, y], argTypes := #[t, u] }) (hx : cX P t1 x = some x') (hy : cX P t2 y = some y') (ht : P.underlying t = some (.slice e)) {k : IntKind} (hu : P.underlying u = some (.int k))
    (hi : P.info? e = some i) (hz : zeroT P e = some zs) (hzl : zs.length = i.size) (hb : 0 < i.bytes) (hs : 0 < i.size)
    (he : appzK lo st d e zs i.bytes (x'.rd st.env) (y'.rd st.env) = some st') (hn : Into N w0 ok0 st' next) : o.wpIn (FR rd) 0 P a w next Q := by
  have h1 := rd_ok g hx
  have h2 := rd_ok g hy
  generalize x'.rd st.env = l1 at he h1
  generalize y'.rd st.env = l2 at he h2
  unfold appzK at he
  split at he
  · rename_i fe sz n
    split at he
    · rename_i hc
      obtain ⟨hsz, h0, hby⟩ := hc
      have e2 := lv_int h2
      simp only [LRep, TRep] at h1
      obtain ⟨ad, len, cap, e1, r2, r3, r4, r5, _⟩ := h1
      have r5 := r5 fe rfl
      simp only [List.length_nil] at r2
      subst r2
      subst r5
      obtain ⟨z, hz1, hz2, hz3⟩ := zeros_vals (w := w) (ok := ok) hi hz
      rcases Int.lt_or_eq_of_le h0 with hp | rfl
      · have hrun := run_append_zeros (P := P) (w := w) t u o.type e i z k ht hu hi hz1 ad n hp hby hb hs
        have hge := grownCap_ge w n.toNat 0 e
        have hnb : n ≤ 140737488355328 := by
          have : n * 1 ≤ n * (i.bytes : Int) := Int.mul_le_mul_of_nonneg_left (by omega) (by omega)
          omega
        have hl : (List.replicate n.toNat z.cells.toList).flatten.length = n.toNat * i.size := by rw [flat_len, Array.length_toList, ← hz2, hzl]
        refine ok_arr g hd hN he (cap := grownCap w n.toNat 0 e) (w1 := w.drew) (cur := Builtin.zeroCells z.cells n.toNat ++ Builtin.zeroCells z.cells (grownCap w n.toNat 0 e - n.toNat)) (vs := (List.replicate n.toNat z.cells.toList).flatten)
          ?_ (.inr rfl) (zeros_are hz3 n.toNat) ?_ ?_ (grownCap_le_maxLen w _ _ _ (by simp only [maxLen]; omega)) (by simp) (by simpa using hge) hn
        · simp [execOp, ho, resolve, invoke, builtin, e1, e2, hrun]
        · intro j v hj
          have hjl := (List.getElem?_eq_some_iff.1 hj).1
          rw [hl] at hjl
          have hj2 : j < n.toNat * z.cells.size := by rw [← hz2, hzl]; exact hjl
          rw [Array.getElem?_append_left (by rw [size_zeroCells]; exact hj2), zeroCells_get hj2 (by omega)]
          rw [flat_get _ _ _ (by simpa using hj2)] at hj
          simpa using hj
        · simp only [Array.size_append, size_zeroCells, ← hz2]
          rw [← Nat.add_mul]
          congr 1
          omega
      · have hrun := run_append_zero0 (P := P) (w := w) t u o.type e i k ht hu hi ad
        exact ok_empty g hd hN (by simpa using he) (ad := ad) (by simp [execOp, ho, resolve, invoke, builtin, e1, e2, hrun]) hn
    · cases he
  · cases he

/-! ### maps: keys -/
theorem check_fields {k : TypeId → Option (List Lk)} {em : Bool} {d : Nat} (hk : ∀ t ks, k t = some ks → (∃ u, P.underlying t = some u) ∧ ∀ (xs : List Value) (w : World), xs.length = ks.length →
      (Instr.checkKey em d t (packV (isAggB P t) xs)).run P w = .ok () w) (w : World) (xs : Array Value) :
    ∀ {fs : List Field} {off : Nat} {ks : List Lk}, flatFs P k fs off = some ks → xs.size = off + ks.length →
      (forIn fs PUnit.unit (fun f _ => do if f.name ≠ "_" then (do Instr.checkKey em d f.type (← part f.type xs f.offset); pure (.yield PUnit.unit)) else pure (.yield PUnit.unit)) : Sem PUnit).run P w = .ok () w
  | [], off, ks, h, hl => by simp
  | f :: fs, off, ks, h, hl => by
    simp only [flatFs] at h
    split at h
    · rename_i k1 k2 h1 h2
      split at h
      · rename_i hc
        obtain ⟨hname, hoff, hsz, hag, hpos⟩ := hc
        obtain rfl := Option.some.inj h
        obtain ⟨⟨u, hu⟩, hrun⟩ := hk _ _ h1
        rw [hsz] at h2
        simp only [List.length_append] at hl
        have px := run_part (P := P) w hu hsz xs f.offset (by omega) hag
        have hlen : ((xs.toList.drop f.offset).take k1.length).length = k1.length := by simp; omega
        have hr := hrun _ w hlen
        have ih := check_fields hk w xs h2 (by simp; omega)
        simp only [List.forIn_cons, hname, ne_eq, not_false_eq_true, if_true, Sem.run_bind, px, Result.andThen_ok, hr, Sem.run_pure]
        exact ih
      · cases h
    · cases h
theorem run_checkKey_flat (em : Bool) : ∀ (n : Nat) {t : TypeId} {ks : List Lk}, flatEq P n t = some ks → ∀ d, n ≤ d → (∃ u, P.underlying t = some u) ∧ ∀ (xs : List Value) (w : World), xs.length = ks.length →
    (Instr.checkKey em d t (packV (isAggB P t) xs)).run P w = .ok () w
  | 0, t, ks, h, d, _ => by cases h
  | n + 1, t, ks, h, d, hd => by
    obtain ⟨d, rfl⟩ : ∃ e, d = e + 1 := ⟨d - 1, by omega⟩
    simp only [flatEq] at h
    split at h
    · rename_i hu
      exact ⟨⟨_, hu⟩, fun xs w hl => by simp [Instr.checkKey, run_underlying hu]⟩
    · rename_i hu
      exact ⟨⟨_, hu⟩, fun xs w hl => by simp [Instr.checkKey, run_underlying hu]⟩
    · rename_i hu
      exact ⟨⟨_, hu⟩, fun xs w hl => by simp [Instr.checkKey, run_underlying hu]⟩
    · rename_i fs hu
      split at h
      · cases h
      · refine ⟨⟨_, hu⟩, fun xs w hl => ?_⟩
        have ha : isAggB P t = true := by simp [isAggB, hu]
        have := check_fields (em := em) (fun t ks h => run_checkKey_flat em n h d (by omega)) w xs.toArray h (by simpa using hl)
        simp only [packV, ha, if_true, Instr.checkKey, Sem.run_bind, run_underlying hu, Result.andThen_ok]
        rw [← Array.forIn_toList]
        rw [this]
        simp
    · cases h

/-- where a key is, cell by cell -/
def findV (ks : List Lk) (kx : List Value) : List MapEntry → Nat → Option (Option (Nat × MapEntry))
  | [], _ => some none
  | e :: es, i => match eqVals ks kx e.key.cells.toList with
    | some true => some (some (i, e))
    | some false => findV ks kx es (i + 1)
    | none => none
def Shaped (ag : Bool) (v : Value) : Prop := v = packV ag v.cells.toList
theorem run_findAsking {kt : TypeId} {ks : List Lk} (hk : flatEq P 10 kt = some ks) {kx : List Value} (w : World) : ∀ {es : List MapEntry} {i : Nat} {r : Option (Nat × MapEntry)}, findV ks kx es i = some r → (∀ e ∈ es, Shaped (isAggB P kt) e.key) →
    (Instr.findAsking kt (packV (isAggB P kt) kx) es i).run P w = .ok (r.map fun p => (p.1, p.2.val)) w
  | [], i, r, h, hs => by
    obtain rfl := Option.some.inj h
    simp [Instr.findAsking]
  | e :: es, i, r, h, hs => by
    have hse := hs e (by simp)
    have heq : ∀ b, eqVals ks kx e.key.cells.toList = some b → (Op.equal kt (packV (isAggB P kt) kx) e.key).run P w = .ok b w := by
      intro b hb
      have := (flatEq_sound 10 hk 10000 (by omega)).2 _ _ b w hb
      have e' : packV (isAggB P kt) e.key.cells.toList = e.key := hse.symm
      rw [e'] at this
      simpa [Op.equal, Op.maxDepth] using this
    simp only [findV] at h
    split at h
    · rename_i hb
      obtain rfl := Option.some.inj h
      simp [Instr.findAsking, heq _ hb]
    · rename_i hb
      have ih := run_findAsking hk w h fun x hx => hs x (by simp [hx])
      simp [Instr.findAsking, heq _ hb, ih]
    · cases h
theorem findNow_at {kt : TypeId} {ks : List Lk} (hk : flatEq P 10 kt = some ks) {u : TypeDesc} (hu : P.underlying kt = some u) {kx : List Value} : ∀ {es : List MapEntry} {i : Nat} {r : Option (Nat × MapEntry)}, findV ks kx es i = some r → (∀ e ∈ es, Shaped (isAggB P kt) e.key) →
    ∀ {r'}, Instr.findNow u (packV (isAggB P kt) kx) es i = some r' → r' = r.map fun p => (p.1, p.2.val)
  | [], i, r, h, hs, r', h' => by
    obtain rfl := Option.some.inj h
    obtain rfl := Option.some.inj h'
    rfl
  | e :: es, i, r, h, hs, r', h' => by
    have hse := hs e (by simp)
    have key : ∀ b c, Instr.sameNow u (packV (isAggB P kt) kx) e.key = some b → eqVals ks kx e.key.cells.toList = some c → b = c := by
      intro b c hb hc
      obtain ⟨l1, l2⟩ := eqVals_length hc
      have leaf : ∀ k0 : Lk, ks = [k0] → isAggB P kt = false → ∃ x, packV (isAggB P kt) kx = x ∧ eqVal k0 x e.key = some c := by
        intro k0 e0 ha
        subst e0
        have e1 : packV (isAggB P kt) e.key.cells.toList = e.key := hse.symm
        generalize e.key.cells.toList = ys at *
        match kx, ys, l1, l2 with
        | [x], [y], _, _ =>
          simp only [packV, ha, Bool.false_eq_true, if_false, List.headD_cons] at e1 ⊢
          subst e1
          simp only [eqVals] at hc
          obtain ⟨p, q, h1, h2, rfl⟩ := andO_some hc
          obtain rfl := Option.some.inj h2
          exact ⟨x, rfl, by simpa using h1⟩
      simp only [flatEq, hu] at hk
      cases u with
      | bool =>
        obtain ⟨x, e1, e2⟩ := leaf .b (Option.some.inj hk).symm (by simp [isAggB, hu])
        rw [e1] at hb
        unfold eqVal at e2
        split at e2 <;> simp_all [Instr.sameNow]
      | int k0 =>
        obtain ⟨x, e1, e2⟩ := leaf .i (Option.some.inj hk).symm (by simp [isAggB, hu])
        rw [e1] at hb
        unfold eqVal at e2
        split at e2 <;> simp_all [Instr.sameNow]
      | string =>
        obtain ⟨x, e1, e2⟩ := leaf .z (Option.some.inj hk).symm (by simp [isAggB, hu])
        rw [e1] at hb
        unfold eqVal at e2
        split at e2
        · cases ‹Lk.z = Lk.i›
        · cases ‹Lk.z = Lk.b›
        · rename_i a' b' _ hk'
          rw [hk'] at hb
          have hb : some (a' == b') = some b := hb
          have e2 : some (a'.toList == b'.toList) = some c := e2
          rw [← Option.some.inj hb, ← Option.some.inj e2, beq_toListBytes]
        · cases e2
      | struct fs => simp [Instr.sameNow] at hb
      | _ => simp at hk
    simp only [Instr.findNow] at h'
    simp only [findV] at h
    split at h'
    · rename_i hb
      split at h
      · obtain rfl := Option.some.inj h
        obtain rfl := Option.some.inj h'
        rfl
      · rename_i hc
        cases key _ _ hb hc
      · cases h
    · rename_i hb
      split at h
      · rename_i hc
        cases key _ _ hb hc
      · exact findNow_at hk hu h (fun x hx => hs x (by simp [hx])) h'
      · cases h
    · cases h'
theorem run_findKey_flat {kt : TypeId} {ks : List Lk} (hk : flatEq P 10 kt = some ks) {kx : List Value} (w : World) {es : List MapEntry} {r : Option (Nat × MapEntry)} (h : findV ks kx es 0 = some r) (hs : ∀ e ∈ es, Shaped (isAggB P kt) e.key) :
    (Instr.findKey kt (packV (isAggB P kt) kx) es).run P w = .ok (r.map fun p => (p.1, p.2.val)) w := by
  obtain ⟨u, hu⟩ := (run_checkKey_flat (P := P) false 10 hk 10 (Nat.le_refl _)).1
  have hA := run_findAsking hk w h hs
  simp only [Instr.findKey, Sem.run_bind, run_underlying hu, Result.andThen_ok]
  cases hn : Instr.findNow u (packV (isAggB P kt) kx) es 0 with
  | none => simpa using hA
  | some r' => simp [findNow_at hk hu h hs hn]

/-! ### maps: entries -/
theorem liftV_reps {one : Bool} {h : Hp} : ∀ {ts : List TV} {vs : List Value}, ValsRep w ok one ts vs → LReps w ok ρ h one (liftV ts) vs
  | [], vs, hv => by simp only [ValsRep] at hv; simp only [liftV, LReps]; exact hv
  | t :: ts, vs, hv => by
    simp only [ValsRep] at hv
    obtain ⟨v, r, h1, h2, h3, h4⟩ := hv
    simp only [liftV, LReps]
    exact ⟨v, r, h1, h2, by simp only [LRep]; exact h3, liftV_reps h4⟩
theorem one_cells {x : Value} (h : x.oneCell' = true) : x.cells = #[x] := by cases x <;> first | rfl | (simp [Value.oneCell'] at h)
theorem pack_cells {h : Hp} {ag : Bool} {cells : List TV} {x : Value} (hp : PackRep w ok ag cells x) : LReps w ok ρ h true (liftV cells) x.cells.toList ∧ Shaped ag x := by
  unfold PackRep at hp
  split at hp
  · rename_i e
    obtain ⟨vs, rfl, h2⟩ := hp
    subst e
    exact ⟨liftV_reps h2, by simp [Shaped, packV, Value.cells]⟩
  · rename_i e
    obtain ⟨t, rfl, h2, h3⟩ := hp
    have e' : ag = false := by simpa using e
    subst e'
    rw [one_cells h2]
    refine ⟨?_, by simp [Shaped, packV, one_cells h2]⟩
    simp only [liftV, LReps]
    exact ⟨x, [], rfl, fun _ => h2, by simp only [LRep]; exact h3, rfl⟩
theorem pack_lrep {h : Hp} {ag : Bool} {cells : List TV} {x : Value} (hp : PackRep w ok ag cells x) {l : LV} (hl : packL ag (liftV cells) = some l) : LRep w ok ρ h l x := by
  unfold PackRep at hp
  split at hp
  · rename_i e
    obtain ⟨vs, rfl, h2⟩ := hp
    subst e
    obtain rfl := Option.some.inj hl
    simp only [LRep]
    exact ⟨vs, rfl, liftV_reps h2⟩
  · rename_i e
    obtain ⟨t, rfl, h2, h3⟩ := hp
    have e' : ag = false := by simpa using e
    subst e'
    obtain rfl := Option.some.inj hl
    simp only [LRep]
    exact h3
theorem ents_shaped {kag vag : Bool} : ∀ {ents : List (List TV × List TV)} {es : List MapEntry}, EntsRep w ok kag vag ents es → ∀ e ∈ es, Shaped kag e.key
  | [], es, h, e, he => by
    have h : es = [] := h
    subst h
    simp at he
  | x :: r, es, h, e, he => by
    obtain ⟨e', r', rfl, h2, h3, h4⟩ := h
    rcases List.mem_cons.1 he with rfl | he
    · exact (pack_cells (ρ := fun _ => none) (h := h0) h2).2
    · exact ents_shaped h4 e he
theorem findM_V {h : Hp} {kag vag : Bool} {ks : List Lk} {key : List LV} {kx : List Value} (hk : LReps w ok ρ h true key kx) (hh : st.hp = h) : ∀ {ents : List (List TV × List TV)} {es : List MapEntry} {r : Option (List TV)} (i : Nat), EntsRep w ok kag vag ents es → findM ks key ents = some r →
    (r = none ∧ findV ks kx es i = some none) ∨ ∃ v j e, r = some v ∧ findV ks kx es i = some (some (i + j, e)) ∧ es[j]? = some e ∧ PackRep w ok vag v e.val
  | [], es, r, i, hr, hf => by
    have hr : es = [] := hr
    subst hr
    obtain rfl := Option.some.inj hf
    exact .inl ⟨rfl, rfl⟩
  | (a', v) :: ents, es, r, i, hr, hf => by
    obtain ⟨e, r', rfl, h2, h3, h4⟩ := hr
    subst hh
    simp only [findM] at hf
    split at hf
    · rename_i hb
      have := eqCells_vals hb hk (pack_cells h2).1
      obtain rfl := Option.some.inj hf
      exact .inr ⟨v, 0, e, rfl, by simp [findV, this], rfl, h3⟩
    · rename_i hb
      have := eqCells_vals hb hk (pack_cells h2).1
      rcases findM_V hk rfl (i + 1) h4 hf with ⟨k1, k2⟩ | ⟨v', j, e', k1, k2, k3, k4⟩
      · exact .inl ⟨k1, by simp only [findV, this]; exact k2⟩
      · exact .inr ⟨v', j + 1, e', k1, by simp only [findV, this]; rw [k2]; congr 3; omega, by simpa using k3, k4⟩
    · cases hf
theorem consM_some {x : List TV × List TV} {y : Option (List (List TV × List TV))} {r : List (List TV × List TV)} (h : consM x y = some r) : ∃ r', y = some r' ∧ r = x :: r' := by
  cases y with
  | none => cases h
  | some r' => exact ⟨r', rfl, (Option.some.inj h).symm⟩
theorem updM_V {h : Hp} {kag vag : Bool} {ks : List Lk} {key : List LV} {kx : List Value} (hk : LReps w ok ρ h true key kx) (hh : st.hp = h) {kc vc : List TV} {kv vv : Value} (hkc : PackRep w ok kag kc kv) (hvc : PackRep w ok vag vc vv) :
    ∀ {ents ents' : List (List TV × List TV)} {es : List MapEntry} (i : Nat), EntsRep w ok kag vag ents es → updM ks key kc vc ents = some ents' →
    (findV ks kx es i = some none ∧ ∀ n, EntsRep w ok kag vag ents' (es ++ [⟨kv, vv, n⟩])) ∨
    ∃ j e, findV ks kx es i = some (some (i + j, e)) ∧ es[j]? = some e ∧ eqVals ks kx e.key.cells.toList = some true ∧ EntsRep w ok kag vag ents' (es.modify j fun e => { e with key := kv, val := vv })
  | [], ents', es, i, hr, hf => by
    have hr : es = [] := hr
    subst hr
    obtain rfl := Option.some.inj hf
    exact .inl ⟨rfl, fun n => ⟨_, _, rfl, hkc, hvc, rfl⟩⟩
  | (a', v) :: ents, ents', es, i, hr, hf => by
    obtain ⟨e, r', rfl, h2, h3, h4⟩ := hr
    subst hh
    simp only [updM] at hf
    split at hf
    · rename_i hb
      have := eqCells_vals hb hk (pack_cells h2).1
      obtain rfl := Option.some.inj hf
      exact .inr ⟨0, e, by simp [findV, this], rfl, this, by simp only [List.modify_zero_cons]; exact ⟨_, _, rfl, hkc, hvc, h4⟩⟩
    · rename_i hb
      have := eqCells_vals hb hk (pack_cells h2).1
      obtain ⟨r1, e1, rfl⟩ := consM_some hf
      rcases updM_V hk rfl hkc hvc (i + 1) h4 e1 with ⟨k1, k2⟩ | ⟨j, e', k1, k2, k3, k4⟩
      · exact .inl ⟨by simp only [findV, this]; exact k1, fun n => ⟨e, _, rfl, h2, h3, k2 n⟩⟩
      · refine .inr ⟨j + 1, e', by simp only [findV, this]; rw [k1]; congr 3; omega, by simpa using k2, k3, ?_⟩
        simp only [List.modify_succ_cons]
        exact ⟨e, _, rfl, h2, h3, k4⟩
    · cases hf
theorem delM_V {h : Hp} {kag vag : Bool} {ks : List Lk} {key : List LV} {kx : List Value} (hk : LReps w ok ρ h true key kx) (hh : st.hp = h) :
    ∀ {ents ents' : List (List TV × List TV)} {es : List MapEntry} (i : Nat), EntsRep w ok kag vag ents es → delM ks key ents = some ents' →
    (findV ks kx es i = some none ∧ EntsRep w ok kag vag ents' es) ∨ ∃ j e, findV ks kx es i = some (some (i + j, e)) ∧ EntsRep w ok kag vag ents' (es.eraseIdx j)
  | [], ents', es, i, hr, hf => by
    have hr : es = [] := hr
    subst hr
    obtain rfl := Option.some.inj hf
    exact .inl ⟨rfl, rfl⟩
  | (a', v) :: ents, ents', es, i, hr, hf => by
    obtain ⟨e, r', rfl, h2, h3, h4⟩ := hr
    subst hh
    simp only [delM] at hf
    split at hf
    · rename_i hb
      have := eqCells_vals hb hk (pack_cells h2).1
      obtain rfl := Option.some.inj hf
      exact .inr ⟨0, e, by simp [findV, this], by simpa using h4⟩
    · rename_i hb
      have := eqCells_vals hb hk (pack_cells h2).1
      obtain ⟨r1, e1, rfl⟩ := consM_some hf
      rcases delM_V hk rfl (i + 1) h4 e1 with ⟨k1, k2⟩ | ⟨j, e', k1, k2⟩
      · exact .inl ⟨by simp only [findV, this]; exact k1, ⟨e, _, rfl, h2, h3, k2⟩⟩
      · refine .inr ⟨j + 1, e', by simp only [findV, this]; rw [k1]; congr 3; omega, ?_⟩
        simp only [List.eraseIdx_cons_succ]
        exact ⟨e, _, rfl, h2, h3, k2⟩
    · cases hf

theorem eqVal_bits {k : Lk} {u v : Value} (h : eqVal k u v = some true) (n : Nat) : Instr.sameBits n v u = true := by
  unfold eqVal at h
  split at h
  · split at h
    · rename_i e
      subst e
      have := Option.some.inj h
      simp only [beq_iff_eq] at this
      subst this
      unfold Instr.sameBits; simp
    · cases h
  · have := Option.some.inj h
    simp only [beq_iff_eq] at this
    subst this
    unfold Instr.sameBits; simp
  · have := Option.some.inj h
    rw [← beq_toListBytes, Go.MapKept.bytes_beq] at this
    subst this
    unfold Instr.sameBits
    rw [Go.MapKept.bytes_beq]
  · cases h
theorem eqVals_bits (n : Nat) : ∀ {ks : List Lk} {us vs : List Value}, eqVals ks us vs = some true → ((vs.zip us).all fun (x, y) => Instr.sameBits n x y) = true
  | [], [], [], h => rfl
  | k :: ks, u :: us, v :: vs, h => by
    simp only [eqVals] at h
    obtain ⟨p, q, h1, h2, h3⟩ := andO_some h
    have h3 : p = true ∧ q = true := by simpa using h3.symm
    obtain ⟨rfl, rfl⟩ := h3
    simp only [List.zip_cons_cons, List.all_cons, eqVal_bits h1 n, Bool.true_and]
    exact eqVals_bits n h2
  | [], _ :: _, _, h => by simp [eqVals] at h
  | [], [], _ :: _, h => by simp [eqVals] at h
  | _ :: _, [], _, h => by simp [eqVals] at h
  | _ :: _, _ :: _, [], h => by simp [eqVals] at h
theorem run_stays {ks : List Lk} {kag : Bool} {kx : List Value} {old : Value} (hs : Shaped kag old) (hl : kag = false → ks.length = 1) (h : eqVals ks kx old.cells.toList = some true) (w : World) : (Instr.keyThatStays old (packV kag kx)).run P w = .ok (packV kag kx) w := by
  have hb : Instr.sameBits 10000 old (packV kag kx) = true := by
    have hlen := eqVals_length h
    cases kag with
    | true =>
      rw [hs]
      simp only [packV, if_true]
      have := eqVals_bits 9999 h
      unfold Instr.sameBits
      simp only [Bool.and_eq_true, beq_iff_eq]
      exact ⟨by simp [hlen.1, ← hlen.2], by simpa using this⟩
    | false =>
      have h1 := hl rfl
      rw [hs]
      simp only [Bool.false_eq_true, packV, if_false]
      generalize old.cells.toList = ys at *
      match ks, kx, ys, h1, hlen, h with
      | [k], [x], [y], _, _, h =>
        simp only [eqVals] at h
        obtain ⟨p, q, k1, k2, k3⟩ := andO_some h
        obtain rfl := Option.some.inj k2
        have : p = true := by simpa using k3.symm
        subst this
        simpa using eqVal_bits k1 10000
  simp [Instr.keyThatStays, hb]

theorem oneOf_ok {ag : Bool} {l : LV} {cs : List LV} {h : Hp} (he : oneOf ag l = some cs) {x : Value} (hl : LRep w ok ρ h l x) : ∃ xs : List Value, x = packV ag xs ∧ LReps w ok ρ h true cs xs := by
  unfold oneOf at he
  have single : ∀ {l : LV}, LRep w ok ρ h l x → x.oneCell' = true → ∃ xs : List Value, x = packV false xs ∧ LReps w ok ρ h true [l] xs := fun {l} hl h1 =>
    ⟨[x], by simp [packV], by simp only [LReps]; exact ⟨x, [], rfl, fun _ => h1, hl, rfl⟩⟩
  split at he
  · obtain rfl := Option.some.inj he
    simp only [LRep] at hl
    obtain ⟨vs, rfl, h2⟩ := hl
    exact ⟨vs.toList, by simp [packV], h2⟩
  · obtain rfl := Option.some.inj he
    exact single hl (by simp only [LRep, TRep] at hl; subst hl; rfl)
  · obtain rfl := Option.some.inj he
    exact single hl (by simp only [LRep, TRep] at hl; subst hl; rfl)
  · obtain rfl := Option.some.inj he
    exact single hl (by simp only [LRep, TRep] at hl; subst hl; rfl)
  · obtain rfl := Option.some.inj he
    exact single hl (by simp only [LRep, TRep] at hl; obtain ⟨a, len, cap, rfl, _⟩ := hl; rfl)
  · obtain rfl := Option.some.inj he
    exact single hl (by have hl' := hl; simp only [LRep] at hl'; obtain ⟨b, cap, rfl, _⟩ := hl'.shape; rfl)
  · cases he
theorem oneOf_len {l : LV} {cs : List LV} (he : oneOf false l = some cs) : cs.length = 1 := by
  unfold oneOf at he
  split at he
  · cases ‹false = true›
  all_goals first | (obtain rfl := Option.some.inj he; rfl) | (cases he; done)
theorem scalTV_ok {l : LV} {t : TV} (h : scalTV l = some t) {h' : Hp} {x : Value} {ok' : Nat → Prop} {w1 : World} (hl : LRep w ok ρ h' l x) : TRep w1 ok' t x := by
  unfold scalTV at h
  split at h
  all_goals first | (cases h; done) | (obtain rfl := Option.some.inj h; simp only [LRep, TRep] at hl ⊢; exact hl)
theorem scalTVs_ok {one : Bool} {h' : Hp} {ok' : Nat → Prop} {w1 : World} : ∀ {ls : List LV} {ts : List TV}, scalTVs ls = some ts → ∀ {xs : List Value}, LReps w ok ρ h' one ls xs → ValsRep w1 ok' one ts xs
  | [], ts, h, xs, hl => by
    obtain rfl := Option.some.inj h
    simp only [LReps] at hl
    simp only [ValsRep]
    exact hl
  | l :: ls, ts, h, xs, hl => by
    simp only [scalTVs] at h
    unfold consO at h
    split at h
    · rename_i h1 h2
      obtain rfl := Option.some.inj h
      simp only [LReps] at hl
      obtain ⟨v, r, rfl, k1, k2, k3⟩ := hl
      simp only [ValsRep]
      exact ⟨v, r, rfl, k1, scalTV_ok h1 k2, scalTVs_ok h2 k3⟩
    · cases h
theorem vals_pack {ag : Bool} {ts : List TV} {xs : List Value} (h : ValsRep w ok true ts xs) (hl : ag = false → ts.length = 1) : PackRep w ok ag ts (packV ag xs) := by
  unfold PackRep
  cases ag with
  | true => simp only [packV, if_true]; exact ⟨_, rfl, by simpa using h⟩
  | false =>
    have h1 := hl rfl
    match ts, h1, h with
    | [t], _, h =>
      simp only [ValsRep] at h
      obtain ⟨v, r, rfl, h2, h3, rfl⟩ := h
      simp only [packV, Bool.false_eq_true, if_false, List.headD_cons]
      exact ⟨t, rfl, h2 trivial, h3⟩

/-! ### maps: the operations -/
def setMapW (w : World) (b : Nat) (es : Array MapEntry) (clock : Nat) : World := { w with heap := w.heap.setIfInBounds b (.map es clock) }
theorem op_mkmap (g : Gam N w0 ok0 st ok ρ a w) {d : Nat} (hd : o.dst = some d) (hN : N.may d) {t : TypeId} {lo : Nat} {kag vag : Bool} (ho : o.op = .makeMap t none)
    (he : mkO d (lo + d) (.map false kag vag []) (.m (lo + d)) st = some st') (hn : Into N w0 ok0 st' next) : o.wpIn (FR rd) 0 P a w next Q := by
  obtain ⟨hid, rfl⟩ := mkO_some he
  have g1 := g.world (below_alloc w (.map #[] 0))
  have g2 := g1.adopt hid (o := .map false kag vag []) (x := some (w.heap.size, 0)) (fun b K hx => by
      have hb : w.heap.size = b := congrArg Prod.fst (Option.some.inj hx)
      subst hb
      exact ⟨⟨g.below.size, g.res_none⟩, by simp, fun h => Nat.lt_irrefl _ (g.free _ h).1, fun i p K' hi hpl hr => Nat.lt_irrefl _ (g.fresh i p _ K' hi hpl hr).2⟩)
    ⟨w.heap.size, 0, #[], 0, upd_same _ _ _, heap_alloc_new w _, rfl, by simp, by simp⟩
  refine wp_val (v := .map (some w.heap.size)) (w' := w.alloc (.map #[] 0)) (by simp [execOp, ho, Instr.makeMap]) ?_
  rw [hd]
  refine hn _ _ _ _ (g2.put hN ?_)
  simp only [LRep, MRep, upd_same]
  exact ⟨_, _, rfl, rfl⟩

theorem map_form (g : Gam N w0 ok0 st ok ρ a w) {id : Nat} {f kag vag : Bool} {ents : List (List TV × List TV)} (hid : st.hp id = some (.map f kag vag ents)) {x : Value} (hx : LRep w ok ρ st.hp (.m id) x) :
    ∃ b K es clock, x = .map (some b) ∧ ρ id = some (b, K) ∧ w.heap[b]? = some (.map es clock) ∧ EntsRep w ok kag vag ents es.toList ∧ (∀ e ∈ es.toList, e.born < clock) ∧ (es.toList.map (·.born)).Nodup := by
  simp only [LRep, hid, MRep] at hx
  obtain ⟨b, K, h1, rfl⟩ := hx
  obtain ⟨b', K', es, clock, k1, k2, k3, k4, k5⟩ := g.obj id _ hid
  rw [h1] at k1
  obtain ⟨rfl, rfl⟩ : b = b' ∧ K = K' := by simpa using k1
  exact ⟨b, K, es, clock, rfl, h1, k2, k3, k4, k5⟩

theorem op_mlen (g : Gam N w0 ok0 st ok ρ a w) {d : Nat} (hd : o.dst = some d) (hN : N.may d) {t k e t1 : TypeId} {x : Operand} {x' : X} (ho : o.op = .call { callee := .builtin .len, args := #[x], argTypes := #[t] }) (hx : cX P t1 x = some x')
    (ht : P.underlying t = some (.map k e)) (he : setV st d (mlenL st.hp (x'.rd st.env)) = some st') (hn : Into N w0 ok0 st' next) : o.wpIn (FR rd) 0 P a w next Q := by
  obtain ⟨r, hr, rfl⟩ := setV_some he
  have h1 := rd_ok g hx
  generalize x'.rd st.env = l at hr h1
  unfold mlenL at hr
  split at hr
  · rename_i id
    unfold mlenO at hr
    split at hr
    · rename_i f kag vag ents hid
      obtain rfl := Option.some.inj hr
      obtain ⟨b, K, es, clock, e1, _, k2, k3, _⟩ := map_form g hid h1
      have hl := k3.length
      refine ok_val g hd hN (v := .int .i64 ents.length) ?_ (lrep_v trep_int) hn
      have hg := Go.MapKept.run_getObj_map (P := P) k2
      simp [execOp, ho, resolve, invoke, builtin, e1, Builtin.len_, run_underlying ht, hg, goInt, ← hl]
    · cases hr
  · cases hr

theorem run_zero_pack {e : TypeId} {zs : List TV} (hz : zeroT P e = some zs) (hp : plainTy P e zs.length = true) (hzo : zeroOk P e = true) : ∃ z, (zeroValue e).run P w = .ok z w ∧ PackRep w ok (isAggB P e) zs z := by
  obtain ⟨z, hz1, hz2⟩ := zeroT_some hz
  have hzl := cVs_length hz2
  have hzc := cVs_ok (w := w) (ok := ok) (ρ := fun _ => none) (st := ⟨e0, h0⟩) hz2
  have hval : ValsRep w ok true zs z.cells.toList := ValsRep.of (by simpa using hzl.symm) fun j t' hj => by
    obtain ⟨v, k1, k2, k3⟩ := hzc.get j (.v t') (by
      have : ∀ (zs : List TV) (j : Nat) (t' : TV), zs[j]? = some t' → (liftV zs)[j]? = some (.v t') := by
        intro zs
        induction zs with
        | nil => intro j t' h; simp at h
        | cons q qs ih => intro j t' h; cases j with
          | zero => simpa [liftV] using h
          | succ j => simpa [liftV] using ih j t' (by simpa using h)
      exact this zs j t' hj)
    exact ⟨v, k1, k2, by simpa only [LRep] using k3⟩
  refine ⟨z, run_zeroValue w hz1, ?_⟩
  have hlen : isAggB P e = false → zs.length = 1 := by
    intro h
    simp only [plainTy, h, Bool.and_eq_true, Bool.false_or, beq_iff_eq] at hp
    exact hp.2
  have := vals_pack (ag := isAggB P e) hval hlen
  have e' : packV (isAggB P e) z.cells.toList = z := by
    unfold zeroOk at hzo
    rw [hz1] at hzo
    cases ha : isAggB P e with
    | true =>
      rw [ha] at hzo
      cases z <;> simp_all [packV, Value.cells]
    | false =>
      rw [ha] at hzo
      cases z <;> simp_all [packV, Value.cells]
  rwa [e'] at this

theorem op_mget (g : Gam N w0 ok0 st ok ρ a w) {d : Nat} (hd : o.dst = some d) (hN : N.may d) {t k e t1 t2 : TypeId} {x y : Operand} {x' y' : X} {cok : Bool} {ks : List Lk} {zs : List TV} (ho : o.op = .lookup t x y cok) (hx : cX P t1 x = some x') (hy : cX P t2 y = some y')
    (ht : P.underlying t = some (.map k e)) (hk : flatEq P 10 k = some ks) (hz : zeroT P e = some zs) (hp : plainTy P e zs.length = true) (hzo : zeroOk P e = true)
    (he : setM st d (mgetL st.hp ks (isAggB P k) (isAggB P e) zs cok (oneOf (isAggB P k) (y'.rd st.env)) (x'.rd st.env)) = some st') (hn : Into N w0 ok0 st' next) : o.wpIn (FR rd) 0 P a w next Q := by
  obtain ⟨r, hr, rfl⟩ := setM_some he
  have h1 := rd_ok g hx
  have h2 := rd_ok g hy
  generalize x'.rd st.env = l1 at hr h1
  generalize y'.rd st.env = l2 at hr h2
  unfold mgetL at hr
  split at hr
  · rename_i key id hkey
    unfold mgetO at hr
    split at hr
    · rename_i f kag vag ents hid
      split at hr
      · rename_i hc
        obtain ⟨rfl, rfl, hlen⟩ := hc
        obtain ⟨b, K, es, clock, e1, _, k2, k3, _⟩ := map_form g hid h1
        obtain ⟨kx, e2, hkx⟩ := oneOf_ok hkey h2
        have hg := Go.MapKept.run_getObj_map (P := P) k2
        have hck := (run_checkKey_flat (P := P) es.isEmpty 10 hk 10000 (by omega)).2 kx w (by rw [hkx.length, hlen])
        cases hf : findM ks key ents with
        | none => rw [hf] at hr; cases hr
        | some fr =>
          rw [hf] at hr
          have fin : ∀ (v : Value) (bb : Bool), LRep w ok ρ st.hp r (if cok then .tuple #[v, .bool bb] else v) → (execOp a.eval o).run P w = .ok (.value (if cok then .tuple #[v, .bool bb] else v)) w → o.wpIn (FR rd) 0 P a w next Q :=
            fun v bb hl hrun => ok_val g hd hN hrun hl hn
          have shape : ∀ (v : Value) (bb : Bool) (cells : List TV), PackRep w ok (isAggB P e) cells v → mgetP bb cok (packL (isAggB P e) (liftV cells)) = some r → LRep w ok ρ st.hp r (if cok then .tuple #[v, .bool bb] else v) := by
            intro v bb cells hpk hm
            cases hpl : packL (isAggB P e) (liftV cells) with
            | none => rw [hpl] at hm; cases cok <;> cases hm
            | some l =>
              rw [hpl] at hm
              have hl := pack_lrep (ρ := ρ) (h := st.hp) hpk hpl
              cases cok with
              | false => obtain rfl := Option.some.inj hm; exact hl
              | true =>
                obtain rfl := Option.some.inj hm
                simp only [if_true, LRep]
                exact ⟨_, rfl, by simp only [LReps]; exact ⟨_, _, rfl, by simp, hl, _, _, rfl, by simp, by simp only [LRep, TRep], rfl⟩⟩
          rcases findM_V hkx rfl 0 k3 hf with ⟨rfl, hv⟩ | ⟨v, j, en, rfl, hv, _, hpk⟩
          · obtain ⟨z, hz1, hz2⟩ := run_zero_pack (w := w) (ok := ok) hz hp hzo
            refine fin z false (shape z false zs hz2 hr) ?_
            have hfk := run_findKey_flat hk w hv (ents_shaped k3)
            simp only [Option.map_none] at hfk
            cases cok <;> simp [execOp, ho, e1, e2, Instr.lookup, run_underlying ht, hg, hck, hfk, hz1]
          · refine fin en.val true (shape en.val true v hpk hr) ?_
            have hfk := run_findKey_flat hk w hv (ents_shaped k3)
            simp only [Option.map_some] at hfk
            cases cok <;> simp [execOp, ho, e1, e2, Instr.lookup, run_underlying ht, hg, hck, hfk]
      · cases hr
    · cases hr
  · cases hr

theorem setMap_some {h : Hp} {id : Nat} {kag vag : Bool} {x : Option (List (List TV × List TV))} (he : setMap st h id kag vag x = some st') : ∃ es, x = some es ∧ st' = { st with hp := upd h id (some (.map false kag vag es)) } := by
  cases x with
  | none => cases he
  | some es => exact ⟨es, rfl, (Option.some.inj he).symm⟩
theorem same_setMap (g : Gam N w0 ok0 st ok ρ a w) {id b K : Nat} {o' : Ob} (hid : st.hp id = some o') (hown : o'.own = true) (hr : ρ id = some (b, K)) (es : Array MapEntry) (clock : Nat) : Same w (setMapW w b es clock) ok ok := fun c hc => by
  have hne : c ≠ b := fun e => (g.free c hc).2 id _ K hid hown (e ▸ hr)
  exact ⟨by simp [setMapW, Ne.symm hne], hc⟩
theorem Gam.setMapG (g : Gam N w0 ok0 st ok ρ a w) {id b K : Nat} {kag vag : Bool} {ents ents' : List (List TV × List TV)} (hid : st.hp id = some (.map false kag vag ents)) (hr : ρ id = some (b, K)) {es es' : Array MapEntry} {clock clock' : Nat} (hb : w.heap[b]? = some (.map es clock))
    (hents : EntsRep w ok kag vag ents' es'.toList) (hbn : ∀ e ∈ es'.toList, e.born < clock') (hnd : (es'.toList.map (·.born)).Nodup) :
    Gam N w0 ok0 { st with hp := upd st.hp id (some (.map false kag vag ents')) } ok ρ a (setMapW w b es' clock') := by
  have hlt : b < w.heap.size := (Array.getElem?_eq_some_iff.1 hb).1
  refine g.turn hid rfl rfl hr (.inr (.inr ⟨_, _, _, _, _, _, rfl, rfl⟩)) ⟨rfl, rfl, rfl, by simp [setMapW], fun k hk => by simp [setMapW, Nat.ne_of_gt hk]⟩ (fun k hk => by simp [setMapW, Ne.symm hk]) (by simp [setMapW]) ?_
  exact ⟨b, K, es', clock', hr, by simp [setMapW, hlt], hents.to (same_setMap g hid rfl hr es' clock'), hbn, hnd⟩

theorem op_mdel (g : Gam N w0 ok0 st ok ρ a w) (hd : o.dst = none) {t k e u t1 t2 : TypeId} {x y : Operand} {x' y' : X} {ks : List Lk} (ho : o.op = .call { callee := .builtin .delete, args := #[x, y], argTypes := #[t, u] }) (hx : cX P t1 x = some x') (hy : cX P t2 y = some y')
    (ht : P.underlying t = some (.map k e)) (hk : flatEq P 10 k = some ks) (he : mdelL st ks (isAggB P k) (oneOf (isAggB P k) (y'.rd st.env)) (x'.rd st.env) = some st') (hn : Into N w0 ok0 st' next) : o.wpIn (FR rd) 0 P a w next Q := by
  have h1 := rd_ok g hx
  have h2 := rd_ok g hy
  generalize x'.rd st.env = l1 at he h1
  generalize y'.rd st.env = l2 at he h2
  unfold mdelL at he
  split at he
  · rename_i key id hkey
    unfold mdelO at he
    split at he
    · rename_i kag vag ents hid
      split at he
      · rename_i hc
        obtain ⟨rfl, hlen⟩ := hc
        obtain ⟨ents', hd1, rfl⟩ := setMap_some he
        obtain ⟨b, K, es, clock, e1, hr, k2, k3, k4, k5⟩ := map_form g hid h1
        obtain ⟨kx, e2, hkx⟩ := oneOf_ok hkey h2
        have hg := Go.MapKept.run_getObj_map (P := P) k2
        have hck := (run_checkKey_flat (P := P) es.isEmpty 10 hk 10000 (by omega)).2 kx w (by rw [hkx.length, hlen])
        have fin : ∀ es' : Array MapEntry, EntsRep w ok (isAggB P k) vag ents' es'.toList → (∀ e ∈ es'.toList, e.born < clock) → (es'.toList.map (·.born)).Nodup → (execOp a.eval o).run P w = .ok (.value (.tuple #[])) (setMapW w b es' clock) → o.wpIn (FR rd) 0 P a w next Q := by
          intro es' q1 q2 q3 hrun
          refine wp_val hrun ?_
          rw [hd]
          exact hn _ _ _ _ (g.setMapG hid hr k2 q1 q2 q3)
        rcases delM_V hkx rfl 0 k3 hd1 with ⟨hv, q1⟩ | ⟨j, en, hv, q1⟩
        · have hfk := run_findKey_flat hk w hv (ents_shaped k3)
          simp only [Option.map_none] at hfk
          have hs := Go.MapKept.run_setObj_map (P := P) (.map es clock) k2
          refine fin es q1 k4 k5 ?_
          simp [execOp, ho, resolve, invoke, builtin, e1, e2, Builtin.delete_, run_underlying ht, hg, hck, hfk, hs, setMapW]
        · have hfk := run_findKey_flat hk w hv (ents_shaped k3)
          simp only [Option.map_some, Nat.zero_add] at hfk
          have hs := Go.MapKept.run_setObj_map (P := P) (.map (es.eraseIdxIfInBounds j) clock) k2
          refine fin (es.eraseIdxIfInBounds j) (by simpa using q1) ?_ ?_ ?_
          · intro e he'
            simp only [Array.toList_eraseIdxIfInBounds] at he'
            exact k4 e (List.mem_of_mem_eraseIdx he')
          · simp only [Array.toList_eraseIdxIfInBounds]
            exact k5.sublist ((List.eraseIdx_sublist _ _).map _)
          · simp [execOp, ho, resolve, invoke, builtin, e1, e2, Builtin.delete_, run_underlying ht, hg, hck, hfk, hs, setMapW]
      · cases he
    · cases he
  · cases he

theorem op_mupd (g : Gam N w0 ok0 st ok ρ a w) (hd : o.dst = none) {t k e t1 t2 t3 : TypeId} {x y z : Operand} {x' y' z' : X} {ks : List Lk} {n : Nat} (ho : o.op = .mapUpdate t x y z) (hx : cX P t1 x = some x') (hy : cX P t2 y = some y') (hz : cX P t3 z = some z')
    (ht : P.underlying t = some (.map k e)) (hk : flatEq P 10 k = some ks) (hp : plainTy P e n = true)
    (he : mupdL st ks (isAggB P k) (isAggB P e) n (solidO st.hp (oneOf (isAggB P e) (z'.rd st.env))) (oneOf (isAggB P k) (y'.rd st.env)) (x'.rd st.env) = some st') (hn : Into N w0 ok0 st' next) : o.wpIn (FR rd) 0 P a w next Q := by
  have h1 := rd_ok g hx
  have h2 := rd_ok g hy
  have h3 := rd_ok g hz
  generalize x'.rd st.env = l1 at he h1
  generalize y'.rd st.env = l2 at he h2
  generalize z'.rd st.env = l3 at he h3
  unfold mupdL at he
  split at he
  · rename_i key id hkey
    unfold mupdO at he
    split at he
    · rename_i kc vc is kag vag ents hkc hvc hid
      split at he
      · rename_i hc
        obtain ⟨rfl, rfl, hlen, hvl, hnot⟩ := hc
        obtain ⟨ents', hd1, rfl⟩ := setMap_some he
        obtain ⟨kx, e2, hkx⟩ := oneOf_ok hkey h2
        have hko : isAggB P k = false → kc.length = 1 := fun h => by
          rw [h] at hkey
          have := oneOf_len hkey
          have h' := (scalTVs_ok (w1 := w) (ok' := ok) hkc hkx).length
          rw [hkx.length] at h'
          omega
        obtain ⟨cs, hcs, hso⟩ : ∃ cs, oneOf (isAggB P e) l3 = some cs ∧ solidCells st.hp cs = some (vc, is) := by
          cases hoo : oneOf (isAggB P e) l3 with
          | none => rw [hoo] at hvc; cases hvc
          | some cs => rw [hoo] at hvc; exact ⟨cs, rfl, hvc⟩
        obtain ⟨vx, e3, hvx⟩ := oneOf_ok hcs h3
        have gf := g.frozen is
        have hvals := solidCells_ok g hso hvx
        have hvlen : isAggB P e = false → vc.length = 1 := fun h => by
          simp only [plainTy, h, Bool.and_eq_true, Bool.false_or, beq_iff_eq] at hp
          omega
        have hpv := vals_pack hvals hvlen
        have hpk : PackRep w (okPlus ok ρ st.hp is) (isAggB P k) kc (packV (isAggB P k) kx) := vals_pack (scalTVs_ok hkc hkx) hko
        have hid' : (Sx.freezeAll st.hp is) id = some (.map false (isAggB P k) (isAggB P e) ents) := by rw [freezeAll_not is st.hp id hnot, hid]
        have h1' : LRep w (okPlus ok ρ st.hp is) ρ (Sx.freezeAll st.hp is) (.m id) (a.eval x) := by
          simp only [LRep, hid', MRep]
          simpa only [LRep, hid, MRep] using h1
        have hkx' : LReps w (okPlus ok ρ st.hp is) ρ (Sx.freezeAll st.hp is) true key kx := by
          have hq := scalTVs_ok (w1 := w) (ok' := okPlus ok ρ st.hp is) hkc hkx
          have : ∀ {ls : List LV} {ts : List TV} {xs : List Value}, scalTVs ls = some ts → ValsRep w (okPlus ok ρ st.hp is) true ts xs → LReps w (okPlus ok ρ st.hp is) ρ (Sx.freezeAll st.hp is) true ls xs := by
            intro ls
            induction ls with
            | nil => intro ts xs h hv; obtain rfl := Option.some.inj h; simp only [ValsRep] at hv; simp only [LReps]; exact hv
            | cons l ls ih =>
              intro ts xs h hv
              simp only [scalTVs] at h
              unfold consO at h
              split at h
              · rename_i q1 q2
                obtain rfl := Option.some.inj h
                simp only [ValsRep] at hv
                obtain ⟨v, r, rfl, r1, r2, r3⟩ := hv
                simp only [LReps]
                refine ⟨v, r, rfl, r1, ?_, ih q2 r3⟩
                unfold scalTV at q1
                split at q1
                all_goals first | (cases q1; done) | (obtain rfl := Option.some.inj q1; simp only [LRep]; exact r2)
              · cases h
          exact this hkc hq
        obtain ⟨b, K, es, clock, e1, hr, k2, k3, k4, k5⟩ := map_form gf hid' h1'
        have hg := Go.MapKept.run_getObj_map (P := P) k2
        have hck := (run_checkKey_flat (P := P) false 10 hk 10000 (by omega)).2 kx w (by rw [hkx.length]; have := (scalTVs_ok (w1 := w) (ok' := ok) hkc hkx).length; rw [hkx.length] at this; omega)
        rcases updM_V (st := { st with hp := Sx.freezeAll st.hp is }) hkx' rfl hpk hpv 0 k3 hd1 with ⟨hv, q1⟩ | ⟨j, en, hv, q2, q3, q1⟩
        · have hfk := run_findKey_flat hk w hv (ents_shaped k3)
          simp only [Option.map_none] at hfk
          have hs := Go.MapKept.run_setObj_map (P := P) (.map (es.push ⟨packV (isAggB P k) kx, packV (isAggB P e) vx, clock⟩) (clock + 1)) k2
          have hrun : (execOp a.eval o).run P w = .ok .skip (setMapW w b (es.push ⟨packV (isAggB P k) kx, packV (isAggB P e) vx, clock⟩) (clock + 1)) := by
            simp [execOp, ho, e1, e2, e3, Instr.mapUpdate, run_underlying ht, hg, hck, hfk, hs, setMapW]
          refine wp_skip' hrun ?_
          refine Into.skip hd (gf.setMapG hid' hr k2 (by simpa using q1 clock) ?_ ?_) hn
          · intro e' he'
            simp only [Array.toList_push, List.mem_append, List.mem_singleton] at he'
            rcases he' with he' | rfl
            · exact Nat.lt_succ_of_lt (k4 e' he')
            · exact Nat.lt_succ_self _
          · simp only [Array.toList_push, List.map_append, List.map_cons, List.map_nil]
            rw [List.nodup_append]
            refine ⟨k5, by simp, ?_⟩
            intro x hx y hy
            obtain ⟨e', he', rfl⟩ := List.mem_map.1 hx
            simp only [List.mem_singleton] at hy
            subst hy
            exact Nat.ne_of_lt (k4 e' he')
        · have hfk := run_findKey_flat hk w hv (ents_shaped k3)
          simp only [Option.map_some, Nat.zero_add] at hfk
          have hsh : Shaped (isAggB P k) en.key := ents_shaped k3 en (List.mem_of_getElem? q2)
          have hst := run_stays (P := P) hsh (fun h => by have := hko h; omega) q3 w
          have hget : es[j]? = some en := by simpa using q2
          have hs := Go.MapKept.run_setObj_map (P := P) (.map (es.modify j fun q => { q with key := packV (isAggB P k) kx, val := packV (isAggB P e) vx }) clock) k2
          have hrun : (execOp a.eval o).run P w = .ok .skip (setMapW w b (es.modify j fun x => { x with key := packV (isAggB P k) kx, val := packV (isAggB P e) vx }) clock) := by
            simp [execOp, ho, e1, e2, e3, Instr.mapUpdate, run_underlying ht, hg, hck, hfk, hget, hst, hs, setMapW]
          have hborn : (es.modify j fun x => { x with key := packV (isAggB P k) kx, val := packV (isAggB P e) vx }).toList.map (·.born) = es.toList.map (·.born) := by
            rw [Array.toList_modify]
            apply List.ext_getElem?
            intro i
            simp only [List.getElem?_map, List.getElem?_modify]
            cases es.toList[i]? with
            | none => simp
            | some e' => by_cases hij : j = i <;> simp [hij]
          refine wp_skip' hrun ?_
          refine Into.skip hd (gf.setMapG hid' hr k2 (by rw [Array.toList_modify]; exact q1) ?_ ?_) hn
          · intro e' he'
            have : e'.born ∈ es.toList.map (·.born) := by rw [← hborn]; exact List.mem_map.2 ⟨e', he', rfl⟩
            obtain ⟨e'', h1'', h2''⟩ := List.mem_map.1 this
            rw [← h2'']
            exact k4 e'' h1''
          · rw [hborn]; exact k5
      · cases he
    · cases he
  · cases he
end
end Go.Proofs.Ytfhijlhiifkkhaa.Sx
namespace Go.Proofs.Ytfhijlhiifkkhaa.Sx
open Go Go.RowKit
def Sl.le (n : Sl) (N : Rm) : Prop := n.n ≤ N.n ∧ (∀ d, n.may d = true → N.may d) ∧ ∀ d, n.pr.contains d = true → N.K d = true

section
variable {P : Program} {C : Cs} {N : Rm} {w0 : World} {ok0 : Nat → Prop} {ok : Nat → Prop} {a : Act} {w w' : World} {st st' : St} {ρ : Rho}
  {next : Act → World → Prop} {Q : Exit → Act → World → Prop} {o : Oper} {rd : Option Nat} {lo : Nat}

theorem arr_of {α : Type} {xs : Array α} {l : List α} (h : xs.toList = l) : xs = l.toArray := by rw [← h]

theorem plainTy_ok {t : TypeId} {n : Nat} (h : plainTy P t n = true) : (∃ k, P.underlying t = some k) ∧ (isAggB P t = false → n = 1) := by
  simp only [plainTy, Bool.and_eq_true, Bool.or_eq_true, beq_iff_eq] at h
  refine ⟨Option.isSome_iff_exists.1 h.1, fun e => ?_⟩
  rcases h.2 with h | h
  · rw [e] at h; cases h
  · exact h

theorem slice_or_string {t : TypeId} (h : sliceOrString P t = true) : (∃ e', P.underlying t = some (.slice e')) ∨ P.underlying t = some .string := by
  unfold sliceOrString at h
  split at h
  · exact .inl ⟨_, by assumption⟩
  · exact .inr (by assumption)
  · cases h

theorem int_ty {t : TypeId} (h : intTy P t = true) : ∃ k, P.underlying t = some (.int k) := by
  unfold intTy at h
  split at h
  · exact ⟨_, by assumption⟩
  · cases h
theorem cNilBin_ok (g : Gam N w0 ok0 st ok ρ a w) {d : Nat} (hd : o.dst = some d) (hN : N.may d) {op : BinOp} {t u : TypeId} {x y : Operand} {ptr : Bool} (ho : o.op = .binOp op t x y u) (hy : isNilC P t y = some ptr) {i : IOp} (hc : cNilBin P d op t ptr x = some i)
    (he : evOp C lo st i = some st') (hn : Into N w0 ok0 st' next) : i.dst = some d ∧ o.wpIn (FR rd) 0 P a w next Q := by
  unfold cNilBin at hc
  split at hc
  · rename_i hx
    obtain rfl := Option.some.inj hc
    exact ⟨rfl, op_isnil g hd hN (neg := false) ho hx hy he hn⟩
  · rename_i hx
    obtain rfl := Option.some.inj hc
    exact ⟨rfl, op_isnil g hd hN (neg := true) ho hx hy he hn⟩
  · cases hc
theorem cBin_ok (g : Gam N w0 ok0 st ok ρ a w) {d : Nat} (hd : o.dst = some d) (hN : N.may d) {op : BinOp} {t u : TypeId} {x y : Operand} (ho : o.op = .binOp op t x y u) {i : IOp} (hc : cBin P d op t x y u = some i)
    (he : evOp C lo st i = some st') (hn : Into N w0 ok0 st' next) : i.dst = some d ∧ o.wpIn (FR rd) 0 P a w next Q := by
  unfold cBin at hc
  split at hc
  · rename_i fs hu
    split at hc
    · cases hc
    · rename_i hg
      have hg' : P.eqGuardType P.depth t = false := by simpa using hg
      split at hc
      · rename_i ks a' b' hk hx hy
        obtain rfl := Option.some.inj hc
        exact ⟨rfl, op_eqs g hd hN ho (neg := false) rfl hx hy hu hk hg' he hn⟩
      · rename_i ks a' b' hk hx hy
        obtain rfl := Option.some.inj hc
        exact ⟨rfl, op_eqs g hd hN ho (neg := true) rfl hx hy hu hk hg' he hn⟩
      · cases hc
  · split at hc
    · rename_i hx hy
      obtain rfl := Option.some.inj hc
      exact ⟨rfl, op_bin g hd hN ho hx hy (by simp) he hn⟩
    · cases hc
  · rename_i hu
    split at hc
    · rename_i hx hy
      obtain rfl := Option.some.inj hc
      exact ⟨rfl, op_bin g hd hN ho hx hy (fun _ => hu) he hn⟩
    · cases hc
  · split at hc
    · rename_i hx hy
      obtain rfl := Option.some.inj hc
      exact ⟨rfl, op_bin g hd hN ho hx hy (by simp) he hn⟩
    · cases hc
  · cases hc

theorem cCall_ok (hC : GoodAt P C N lo) (g : Gam N w0 ok0 st ok ρ a w) {d : Nat} (hd : o.dst = some d) (hN : N.may d) {c : Call} {ty : TypeId} (ho : o.op = .call c) {i : IOp} (hc : cCall P d ty c = some i)
    (he : evOp C lo st i = some st') (hn : Into N w0 ok0 st' next) : i.dst = some d ∧ o.wpIn (FR rd) 0 P a w next Q := by
  obtain ⟨callee, args, argTypes⟩ := c
  unfold cCall at hc
  simp only at hc
  split at hc
  · rename_i x t h1 h2
    have h1 := arr_of h1
    have h2 := arr_of h2
    subst h1 h2
    split at hc
    · rename_i hu hx
      obtain rfl := Option.some.inj hc
      exact ⟨rfl, op_len g hd hN ho hx (z := false) (by simp) (fun _ => ⟨_, hu⟩) he hn⟩
    · rename_i hu hx
      obtain rfl := Option.some.inj hc
      exact ⟨rfl, op_len g hd hN ho hx (z := true) (fun _ => hu) (by simp) he hn⟩
    · rename_i hu hx
      obtain rfl := Option.some.inj hc
      exact ⟨rfl, op_mlen g hd hN ho hx hu he hn⟩
    · cases hc
  · rename_i x t h1 h2
    have h1 := arr_of h1
    have h2 := arr_of h2
    subst h1 h2
    split at hc
    · rename_i hu hx
      obtain rfl := Option.some.inj hc
      exact ⟨rfl, op_cap g hd hN ho hx hu he hn⟩
    · cases hc
  · rename_i x y t u h1 h2
    have h1 := arr_of h1
    have h2 := arr_of h2
    subst h1 h2
    split at hc
    · rename_i e ht
      split at hc
      · rename_i i z a' b' hi hz hx hy
        split at hc
        · rename_i hh
          split at hc
          · rename_i hs
            obtain rfl := Option.some.inj hc
            exact ⟨rfl, op_append g hd hN ho hx hy ht (slice_or_string hs) hi hz hh.1 hh.2.1 hh.2.2 he hn⟩
          · split at hc
            · rename_i hs
              obtain rfl := Option.some.inj hc
              obtain ⟨k, hk⟩ := int_ty hs
              exact ⟨rfl, op_appz g hd hN ho hx hy ht hk hi hz hh.1 hh.2.1 hh.2.2 he hn⟩
            · cases hc
        · cases hc
      · cases hc
    · cases hc
  · rename_i x y t u h1 h2
    have h1 := arr_of h1
    have h2 := arr_of h2
    subst h1 h2
    split at hc
    · rename_i e ht
      split at hc
      · rename_i n a' b' hs hx hy
        obtain rfl := Option.some.inj hc
        exact ⟨rfl, op_copy g hd hN ho hx hy ht hs he hn⟩
      · cases hc
    · cases hc
  · rename_i h1 h2
    cases hx : cXs P argTypes.toList args.toList with
    | none => rw [hx] at hc; cases hc
    | some ys =>
      rw [hx] at hc
      obtain rfl := Option.some.inj hc
      exact ⟨rfl, op_mn g hd hN ho hx he hn⟩
  · cases hx : cXs P argTypes.toList args.toList with
    | none => rw [hx] at hc; cases hc
    | some ys =>
      rw [hx] at hc
      obtain rfl := Option.some.inj hc
      exact ⟨rfl, op_mx g hd hN ho hx he hn⟩
  · split at hc
    · rename_i hx hxs
      obtain rfl := Option.some.inj hc
      exact ⟨rfl, op_call hC.1 g hd hN ho hx hxs he hn⟩
    · cases hc
  · cases hc

theorem cOp_ok (hC : GoodAt P C N lo) (g : Gam N w0 ok0 st ok ρ a w) {d : Nat} (hd : o.dst = some d) (hN : N.may d) {ty : TypeId} {i : IOp} (hc : cOp P d ty o.op = some i)
    (he : evOp C lo st i = some st') (hn : Into N w0 ok0 st' next) : i.dst = some d ∧ o.wpIn (FR rd) 0 P a w next Q := by
  cases ho : o.op with
  | move x =>
    rw [ho] at hc
    simp only [cOp, Option.map_eq_some_iff] at hc
    obtain ⟨y, hy, rfl⟩ := hc
    simp only [evOp, Option.some.injEq] at he
    subst he
    exact ⟨rfl, op_mv g hd hN (.inl ho) hy hn⟩
  | assign x =>
    rw [ho] at hc
    simp only [cOp, Option.map_eq_some_iff] at hc
    obtain ⟨y, hy, rfl⟩ := hc
    simp only [evOp, Option.some.injEq] at he
    subst he
    exact ⟨rfl, op_mv g hd hN (.inr ho) hy hn⟩
  | pick c x y =>
    rw [ho] at hc
    simp only [cOp] at hc
    split at hc
    · rename_i h1 h2 h3
      obtain rfl := Option.some.inj hc
      exact ⟨rfl, op_pick g hd hN ho h1 h2 h3 he hn⟩
    · cases hc
  | alloc e =>
    rw [ho] at hc
    simp only [cOp] at hc
    split at hc
    · rename_i zs hz
      obtain rfl := Option.some.inj hc
      exact ⟨rfl, op_alloc g hd hN ho hz he hn⟩
    · split at hc
      · rename_i hz
        obtain rfl := Option.some.inj hc
        exact ⟨rfl, op_allocM g hd hN ho hz he hn⟩
      · cases hc
  | box e x =>
    rw [ho] at hc
    simp only [cOp] at hc
    split at hc
    · rename_i h1 h2
      obtain rfl := Option.some.inj hc
      exact ⟨rfl, op_box g hd hN ho h2 he hn⟩
    · cases hc
  | build t parts =>
    rw [ho] at hc
    simp only [cOp] at hc
    split at hc
    · rename_i fs zs hu hz
      split at hc
      · rename_i pl hp
        split at hc
        · rename_i ps hps
          obtain rfl := Option.some.inj hc
          exact ⟨rfl, op_build g hd hN ho hz (.inl ⟨fs, pl, hu, hp, hps⟩) he hn⟩
        · cases hc
      · cases hc
    · rename_i k e zs hu hz
      split at hc
      · rename_i n hs
        split at hc
        · rename_i ps hps
          obtain rfl := Option.some.inj hc
          exact ⟨rfl, op_build g hd hN ho hz (.inr ⟨k, e, n, hu, hs, hps⟩) he hn⟩
        · cases hc
      · cases hc
    · cases hc
  | buildSlice t len parts =>
    rw [ho] at hc
    simp only [cOp] at hc
    split at hc
    · rename_i e hu
      split at hc
      · rename_i n rs zs hs hr hz
        split at hc
        · rename_i hh
          obtain rfl := Option.some.inj hc
          exact ⟨rfl, op_bslice g hd hN ho hr hu hs hz hh.1 hh.2.1 hh.2.2 he hn⟩
        · cases hc
      · cases hc
    · cases hc
  | load t x =>
    rw [ho] at hc
    simp only [cOp] at hc
    split at hc
    · rename_i n y hs hy
      split at hc
      · rename_i hp
        obtain rfl := Option.some.inj hc
        have h := plainTy_ok hp
        exact ⟨rfl, op_load g hd hN ho hy hs h.1 h.2 he hn⟩
      · cases hc
    · cases hc
  | nilCheck x =>
    rw [ho] at hc
    simp only [cOp, Option.map_eq_some_iff] at hc
    obtain ⟨y, hy, rfl⟩ := hc
    exact ⟨rfl, op_nchk g hd hN ho hy he hn⟩
  | binOp op t x y u =>
    rw [ho] at hc
    simp only [cOp] at hc
    split at hc
    · rename_i hy
      exact cNilBin_ok g hd hN ho hy hc he hn
    · exact cBin_ok g hd hN ho hc he hn
  | unOp op t x =>
    rw [ho] at hc
    simp only [cOp, Option.map_eq_some_iff] at hc
    obtain ⟨y, hy, rfl⟩ := hc
    exact ⟨rfl, op_un g hd hN ho hy he hn⟩
  | convert src dst x =>
    rw [ho] at hc
    simp only [cOp] at hc
    split at hc
    · rename_i h1 h2 h3
      obtain rfl := Option.some.inj hc
      exact ⟨rfl, op_conv g hd hN ho h3 h1 h2 he hn⟩
    · rename_i e y h1 h2 h3
      split at hc
      · rename_i h4
        obtain rfl := Option.some.inj hc
        exact ⟨rfl, op_b2s g hd hN ho h3 h1 h4 h2 he hn⟩
      · cases hc
    · cases hc
  | slice t x l h m =>
    rw [ho] at hc
    simp only [cOp] at hc
    split at hc
    · rename_i e hu
      split at hc
      · rename_i n y l' h' m' hs hx hl hh hm
        split at hc
        · cases hc
        · rename_i hne
          obtain rfl := Option.some.inj hc
          refine ⟨rfl, op_slice g hd hN ho hx hl hh hm hu hs (fun h1 h2 => ?_) he hn⟩
          subst h2
          cases m with
          | none => exact h1 rfl
          | some m => exact hne rfl
      · cases hc
    · cases hc
  | fieldAddr t x f =>
    rw [ho] at hc
    simp only [cOp] at hc
    split at hc
    · rename_i fs y hu hx
      split at hc
      · rename_i fd hf
        split at hc
        · rename_i n hs
          obtain rfl := Option.some.inj hc
          exact ⟨rfl, op_faddr g hd hN ho hx hu hf hs he hn⟩
        · cases hc
      · cases hc
    · cases hc
  | field t x f =>
    rw [ho] at hc
    simp only [cOp] at hc
    split at hc
    · rename_i fs y hu hx
      split at hc
      · rename_i fd hf
        split at hc
        · rename_i n hs
          split at hc
          · rename_i hp
            obtain rfl := Option.some.inj hc
            have h := plainTy_ok hp
            exact ⟨rfl, op_fld g hd hN ho hx hu hf hs h.1 h.2 he hn⟩
          · cases hc
        · cases hc
      · cases hc
    · cases hc
  | indexAddr t x j =>
    rw [ho] at hc
    simp only [cOp] at hc
    split at hc
    · rename_i e hu
      split at hc
      · rename_i n y j' hs hx hi
        obtain rfl := Option.some.inj hc
        exact ⟨rfl, op_iaddr g hd hN ho hx hi hu hs he hn⟩
      · cases hc
    · rename_i k e hu
      split at hc
      · rename_i n y j' hs hx hi
        obtain rfl := Option.some.inj hc
        exact ⟨rfl, op_aaddr g hd hN ho hx hi hu hs he hn⟩
      · cases hc
    · cases hc
  | index t x j =>
    rw [ho] at hc
    simp only [cOp] at hc
    split at hc
    · rename_i k e hu
      split at hc
      · rename_i n y j' hs hx hi
        split at hc
        · rename_i hp
          obtain rfl := Option.some.inj hc
          have h := plainTy_ok hp
          exact ⟨rfl, op_ixa g hd hN ho hx hi hu hs h.1 h.2 he hn⟩
        · cases hc
      · cases hc
    · rename_i hu
      split at hc
      · rename_i hx hi
        obtain rfl := Option.some.inj hc
        exact ⟨rfl, op_ixs g hd hN ho hx hi hu he hn⟩
      · cases hc
    · cases hc
  | extract x j =>
    rw [ho] at hc
    simp only [cOp, Option.map_eq_some_iff] at hc
    obtain ⟨y, hy, rfl⟩ := hc
    exact ⟨rfl, op_ext g hd hN ho hy he hn⟩
  | makeFunc fn first caps =>
    rw [ho] at hc
    cases fn with
    | func f =>
      simp only [cOp] at hc
      split at hc
      · rename_i hf
        obtain rfl := Array.isEmpty_iff.1 hf
        simp only [Option.map_eq_some_iff] at hc
        obtain ⟨cs, hcs, rfl⟩ := hc
        simp only [evOp, Option.some.injEq] at he
        subst he
        exact ⟨rfl, op_mkfn g hd hN ho hcs hn⟩
      · cases hc
    | _ => simp only [cOp] at hc; cases hc
  | makeSlice t l c =>
    rw [ho] at hc
    simp only [cOp] at hc
    split at hc
    · rename_i e hu
      split at hc
      · rename_i i z x y hi hz hx hy
        split at hc
        · rename_i hh
          obtain rfl := Option.some.inj hc
          exact ⟨rfl, op_mkslice g hd hN ho hx hy hu hi hz hh.1 hh.2.1 hh.2.2 he hn⟩
        · cases hc
      · cases hc
    · cases hc
  | call c =>
    rw [ho] at hc
    exact cCall_ok hC g hd hN ho hc he hn
  | makeMap t r =>
    rw [ho] at hc
    cases r with
    | none =>
      simp only [cOp] at hc
      split at hc
      · obtain rfl := Option.some.inj hc
        exact ⟨rfl, op_mkmap g hd hN ho he hn⟩
      · cases hc
    | some r => simp only [cOp] at hc; cases hc
  | lookup t x j cok =>
    rw [ho] at hc
    simp only [cOp] at hc
    split at hc
    · rename_i k e ht
      split at hc
      · rename_i ks zs y j' hk hz hx hj
        split at hc
        · rename_i hp
          simp only [Bool.and_eq_true] at hp
          obtain rfl := Option.some.inj hc
          exact ⟨rfl, op_mget g hd hN ho hx hj ht hk hz hp.1 hp.2 he hn⟩
        · cases hc
      · cases hc
    · cases hc
  | _ => rw [ho] at hc; simp only [cOp] at hc; cases hc

theorem cOp_call {P : Program} {d d' : Nat} {ty : TypeId} {op : Op} {f : X} {args : List X} (hc : cOp P d ty op = some (.call d' f args)) :
    d' = d ∧ ∃ x xs ts us t1, op = .call { callee := .value x, args := xs, argTypes := ts } ∧ cX P t1 x = some f ∧ cXs P us xs.toList = some args := by
  by_cases hcall : ∃ c, op = .call c
  · obtain ⟨c, rfl⟩ := hcall
    obtain ⟨callee, xs, ts⟩ := c
    simp only [cOp] at hc
    unfold cCall at hc
    repeat' split at hc
    all_goals first
      | (cases hc; done)
      | (simp only [Option.map_eq_some_iff] at hc; obtain ⟨y, _, h⟩ := hc; cases h; done)
      | skip
    rename_i h1 _ _ _ _ hx hxs
    simp only [Option.some.injEq, IOp.call.injEq] at hc
    obtain ⟨rfl, rfl, rfl⟩ := hc
    simp only at h1
    subst h1
    exact ⟨rfl, _, _, _, _, _, rfl, hx, hxs⟩
  · unfold cOp at hc
    split at hc
    all_goals first
      | (exact absurd ⟨_, rfl⟩ hcall)
      | (cases hc; done)
      | (simp only [Option.map_eq_some_iff] at hc; obtain ⟨y, _, h⟩ := hc; cases h; done)
      | skip
    all_goals repeat' split at hc
    all_goals first
      | (cases hc; done)
      | (simp only [Option.map_eq_some_iff] at hc; obtain ⟨y, _, h⟩ := hc; cases h; done)
      | skip
    all_goals first
      | (unfold cNilBin at hc; repeat' split at hc) <;> (cases hc; done)
      | (unfold cBin at hc; repeat' split at hc) <;> (cases hc; done)
theorem opd_ok (hC : GoodAt P C N lo) (g : Gam N w0 ok0 st ok ρ a w) {n : Sl} (hnN : n.le N) {i : IOp} (hc : cOpd P n o = some i)
    (he : evOp C lo st i = some st') (hn : Into N w0 ok0 st' next) : o.wpIn (FR rd) 0 P a w next Q := by
  unfold cOpd at hc
  split at hc
  · rename_i d hd
    split at hc
    · rename_i hlt
      simp only [Option.map_eq_some_iff] at hc
      obtain ⟨i0, hc, rfl⟩ := hc
      by_cases hin : ∃ a f args, i0 = .call a f args ∧ n.io.contains d = true
      · obtain ⟨a', f, args, rfl, hio⟩ := hin
        simp only [toIn, hio, if_true] at he
        obtain ⟨rfl, x, xs, ts, us, t1, ho, hx, hxs⟩ := cOp_call hc
        exact op_icall hC g hd (hnN.2.1 _ hlt) ho hx hxs he hn
      · have e : toIn n.io d i0 = i0 := by
          cases i0 with
          | call a f args =>
            simp only [toIn]
            rw [if_neg]
            intro h
            exact hin ⟨a, f, args, rfl, h⟩
          | _ => rfl
        rw [e] at he
        exact (cOp_ok hC g hd (hnN.2.1 _ hlt) hc he hn).2
    · cases hc
  · rename_i hd
    split at hc
    · rename_i t x y ho
      split at hc
      · rename_i m p v hs hp hv
        obtain rfl := Option.some.inj hc
        exact op_storeQ g hd ho hp hv hs he hn
      · cases hc
    · rename_i t x y z ho
      split at hc
      · rename_i k e ht
        split at hc
        · rename_i ks n x' y' z' hk hs hx hy hz
          split at hc
          · rename_i hp
            obtain rfl := Option.some.inj hc
            exact op_mupd g hd ho hx hy hz ht hk hp he hn
          · cases hc
        · cases hc
      · cases hc
    · rename_i c ho
      obtain ⟨callee, args, argTypes⟩ := c
      unfold cDel at hc
      simp only at hc
      split at hc
      · rename_i x y t u h1 h2
        have h1 := arr_of h1
        have h2 := arr_of h2
        subst h1 h2
        split at hc
        · rename_i k e ht
          split at hc
          · rename_i ks a' b' hk hx hy
            obtain rfl := Option.some.inj hc
            exact op_mdel g hd ho hx hy ht hk he hn
          · cases hc
        · cases hc
      · cases hc
    · cases hc
end

/-! ### where an operation's value goes -/
theorem cBin_dst {P : Program} {d : Nat} {op : BinOp} {t u : TypeId} {x y : Operand} {i : IOp} (hc : cBin P d op t x y u = some i) : i.dst = some d := by
  unfold cBin at hc
  repeat' split at hc
  all_goals first | (cases hc; done) | (obtain rfl := Option.some.inj hc; rfl)
theorem cNilBin_dst {P : Program} {d : Nat} {op : BinOp} {t : TypeId} {x : Operand} {ptr : Bool} {i : IOp} (hc : cNilBin P d op t ptr x = some i) : i.dst = some d := by
  unfold cNilBin at hc
  repeat' split at hc
  all_goals first | (cases hc; done) | (obtain rfl := Option.some.inj hc; rfl)
theorem cCall_dst {P : Program} {d : Nat} {ty : TypeId} {c : Call} {i : IOp} (hc : cCall P d ty c = some i) : i.dst = some d := by
  unfold cCall at hc
  repeat' split at hc
  all_goals first | (cases hc; done) | (obtain rfl := Option.some.inj hc; rfl) | (simp only [Option.map_eq_some_iff] at hc; obtain ⟨y, hy, rfl⟩ := hc; rfl)
theorem cOp_dst {P : Program} {d : Nat} {ty : TypeId} {op : Op} {i : IOp} (hc : cOp P d ty op = some i) : i.dst = some d := by
  unfold cOp at hc
  split at hc
  case h_10 =>
    split at hc
    · exact cNilBin_dst hc
    · exact cBin_dst hc
  case h_21 => exact cCall_dst hc
  all_goals
    repeat' split at hc
    all_goals first | (cases hc; done) | (obtain rfl := Option.some.inj hc; rfl) | (simp only [Option.map_eq_some_iff] at hc; obtain ⟨y, hy, rfl⟩ := hc; rfl)
theorem cOpd_dst {P : Program} {n : Sl} {o : Oper} {i : IOp} (hc : cOpd P n o = some i) : i.dst = o.dst := by
  unfold cOpd at hc
  split at hc
  · rename_i d hd
    rw [hd]
    split at hc
    · simp only [Option.map_eq_some_iff] at hc
      obtain ⟨i0, hc, rfl⟩ := hc
      rw [← cOp_dst hc]
      cases i0 with
      | call a f args => simp only [toIn]; split <;> rfl
      | _ => rfl
    · cases hc
  · rename_i hd
    rw [hd]
    unfold cDel at hc
    repeat' split at hc
    all_goals first | (cases hc; done) | (obtain rfl := Option.some.inj hc; rfl)
theorem cOpd_lt {P : Program} {n : Sl} {o : Oper} {i : IOp} {d : Nat} (hc : cOpd P n o = some i) (hd : o.dst = some d) : n.may d = true := by
  unfold cOpd at hc
  rw [hd] at hc
  simp only at hc
  split at hc
  · assumption
  · cases hc
end Go.Proofs.Ytfhijlhiifkkhaa.Sx
namespace Go.Proofs.Ytfhijlhiifkkhaa.Sx
open Go Go.RowKit

/-- operations in the order of a list of their numbers -/
def evIdx (C : Cs) (lo : Nat) (ios : List IOper) : List Nat → St → Option St
  | [], st => some st
  | i :: s, st => match ios[i]? with
    | none => evIdx C lo ios s st
    | some o => match evOper C lo st o with
      | some st' => evIdx C lo ios s st'
      | none => none

section
variable {P : Program} {C : Cs} {N : Rm} {w0 : World} {ok0 : Nat → Prop} {ok : Nat → Prop} {a : Act} {w w' : World} {st st' : St} {ρ : Rho}
  {next : Act → World → Prop} {Q : Exit → Act → World → Prop} {o : Oper} {rd : Option Nat} {lo : Nat} {ops : Array Oper} {n : Sl}

theorem tmp_of (g : Gam N w0 ok0 st ok ρ a w) {d : Nat} (hd : d < N.n) : ∃ v, a.tmps[d]? = some v ∧ LRep w ok ρ st.hp (st.env d) v := by
  have hlt : d < a.tmps.size := by rw [g.size]; exact hd
  refine ⟨a.tmps[d], by simp [hlt], ?_⟩
  have h := g.env d
  rwa [show a.tmps.getD d undef = a.tmps[d] by simp [Array.getD_eq_getD_getElem?, hlt]] at h

theorem skip_ok (g : Gam N w0 ok0 st ok ρ a w) {d : Option Nat} (hd : ∀ k, d = some k → N.may k) (he : skipK st d = some st') (hn : Into N w0 ok0 st' next) : next (a.put d undef) w := by
  cases d with
  | none =>
    obtain rfl := Option.some.inj he
    exact hn _ _ _ _ g
  | some k =>
    obtain rfl := Option.some.inj he
    exact hn _ _ _ _ (g.put (hd k rfl) (by simp only [LRep]; exact ⟨#[], rfl, by simp only [LReps]⟩))

theorem oper_ok (hC : GoodAt P C N lo) (g : Gam N w0 ok0 st ok ρ a w) (hnN : n.le N) (he : evOper C lo st (cOper P n ops o) = some st') (hn : Into N w0 ok0 st' next) :
    if Region.wanted o (yielded ops a.tmps) then o.wpIn (FR rd) 0 P a w next Q else (∀ f, o.about P w a.eval = some f → (FR rd).fn f) ∧ next (a.put o.dst undef) w := by
  unfold cOper at he
  split at he
  · rename_i i gd hc hg
    unfold cGuard at hg
    split at hg
    · rename_i hog
      obtain rfl := Option.some.inj hg
      simp only [Region.wanted, hog, if_true]
      exact opd_ok hC g hnN hc he hn
    · rename_i j b hog
      split at hg
      · rename_i d hd
        obtain rfl := Option.some.inj hg
        have hdn : d < n.n ∧ ∃ p, ops[j]? = some p ∧ p.dst = some d := by
          unfold dstOf at hd
          split at hd
          · rename_i p hp
            split at hd
            · rename_i d' hpd
              split at hd
              · rename_i hlt
                obtain rfl := Option.some.inj hd
                exact ⟨hlt, p, hp, hpd⟩
              · cases hd
            · cases hd
          · cases hd
        obtain ⟨hlt, p, hp, hpd⟩ := hdn
        obtain ⟨v, hv, hr⟩ := tmp_of g (Nat.lt_of_lt_of_le hlt hnN.1)
        have hy : yielded ops a.tmps j = (match v with | .bool b => some b | _ => none) := by
          simp only [yielded, hp, Option.bind_some, hpd, hv]
          cases v <;> rfl
        have hskip : skipK st i.dst = some st' → next (a.put o.dst undef) w := fun h => by
          rw [cOpd_dst hc] at h
          exact skip_ok g (fun k hk => hnN.2.1 _ (cOpd_lt hc hk)) h hn
        simp only [evOper] at he
        unfold guardK at he
        split at he
        · rename_i b' hb
          rw [hb] at hr
          simp only [LRep, TRep] at hr
          subst hr
          simp only at hy
          split at he
          · rename_i e
            subst e
            simp only [Region.wanted, hog, hy, BEq.rfl, if_true]
            exact opd_ok hC g hnN hc he hn
          · rename_i e
            have : Region.wanted o (yielded ops a.tmps) = false := by
              simp only [Region.wanted, hog, hy]
              simpa using e
            simp only [this]
            exact ⟨fun _ _ => trivial, hskip he⟩
        · rename_i hb
          rw [hb] at hr
          simp only [LRep] at hr
          obtain ⟨vs, rfl, _⟩ := hr
          simp only at hy
          have : Region.wanted o (yielded ops a.tmps) = false := by
            simp only [Region.wanted, hog, hy]
            rfl
          simp only [this]
          exact ⟨fun _ _ => trivial, hskip he⟩
        · cases he
      · cases hg
  · cases he

theorem cOpers_get : ∀ {os : List Oper} (k : Nat), (cOpers P n ops os)[k]? = (os[k]?).map (cOper P n ops)
  | [], k => by simp [cOpers]
  | o :: os, 0 => by simp [cOpers]
  | o :: os, k + 1 => by simp [cOpers, cOpers_get]

theorem wpOps_ok (hC : GoodAt P C N lo) (hnN : n.le N) : ∀ {s : List Nat} {st : St} {ok : Nat → Prop} {ρ : Rho} {a : Act} {w : World}, Gam N w0 ok0 st ok ρ a w → evIdx C lo (cOpers P n ops ops.toList) s st = some st' → Into N w0 ok0 st' (Q .normal) → wpOpsIn (FR rd) 0 P ops Q s a w
  | [], st, ok, ρ, a, w, g, he, hn => by
    obtain rfl := Option.some.inj he
    exact hn _ _ _ _ g
  | i :: s, st, ok, ρ, a, w, g, he, hn => by
    simp only [evIdx, cOpers_get, Array.getElem?_toList] at he
    simp only [wpOpsIn]
    cases ho : ops[i]? with
    | none =>
      rw [ho] at he
      simp only [Option.map_none] at he
      exact wpOps_ok hC hnN g he hn
    | some o =>
      rw [ho] at he
      simp only [Option.map_some] at he
      cases h1 : evOper C lo st (cOper P n ops o) with
      | none => rw [h1] at he; cases he
      | some st1 =>
        rw [h1] at he
        exact oper_ok (next := wpOpsIn (FR rd) 0 P ops Q s) hC g hnN h1 fun ok ρ a w g' => wpOps_ok hC hnN g' he hn

theorem evOps_idx (ios : List IOper) : ∀ (r : List IOper) (k : Nat) (st : St), (∀ j, ios[k + j]? = r[j]?) → evOps C lo r (some st) = evIdx C lo ios (List.range' k r.length) st
  | [], k, st, _ => by simp [evOps, evIdx]
  | o :: r, k, st, h => by
    have h0 : ios[k]? = some o := by simpa using h 0
    simp only [evOps, List.length_cons, List.range'_succ, evIdx, h0]
    cases h1 : evOper C lo st o with
    | none => cases r <;> rfl
    | some st1 => exact evOps_idx ios r (k + 1) st1 fun j => by have := h (j + 1); simpa [Nat.add_assoc, Nat.add_comm 1 j] using this
theorem cOpers_length : ∀ {os : List Oper}, (cOpers P n ops os).length = os.length
  | [] => rfl
  | o :: os => by simp [cOpers, cOpers_length]
end
end Go.Proofs.Ytfhijlhiifkkhaa.Sx
namespace Go.Proofs.Ytfhijlhiifkkhaa.Sx
open Go Go.RowKit

def patchH (h' h1 : Hp) (wr : List Nat) : Hp := fun i => if i ∈ wr then h1 i else h' i
def patch (st' st1 : St) (d : Option Nat) (wr : List Nat) : St := { env := fun i => if d = some i then st1.env i else st'.env i, hp := patchH st'.hp st1.hp wr }

theorem St.ext' {a b : St} (h1 : ∀ i, a.env i = b.env i) (h2 : ∀ i, a.hp i = b.hp i) : a = b := by
  obtain ⟨e, h⟩ := a
  obtain ⟨e', h'⟩ := b
  have : e = e' := funext h1
  have : h = h' := funext h2
  subst_vars
  rfl

section
variable {C : Cs} {lo : Nat} {st st' st1 : St}

theorem rd_eq {e e' : Nat → LV} {x : X} (h : ∀ i ∈ x.rs, e' i = e i) : x.rd e' = x.rd e := by
  cases x with
  | t i => exact h i (by simp [X.rs])
  | c l => rfl
  | fn f => rfl
theorem rds_eq {e e' : Nat → LV} : ∀ {xs : List X}, (∀ i ∈ xrs xs, e' i = e i) → rds e' xs = rds e xs
  | [], _ => rfl
  | x :: xs, h => by
    simp only [rds]
    rw [rd_eq fun i hi => h i (by simp [xrs, hi]), rds_eq fun i hi => h i (by simp [xrs, hi])]
theorem buildCells_eq {e e' : Nat → LV} : ∀ {ps : List (Nat × Nat × X)} {cs : List LV}, (∀ i ∈ prs ps, e' i = e i) → buildCells e' cs ps = buildCells e cs ps
  | [], _, _ => rfl
  | (off, n, x) :: ps, cs, h => by
    simp only [buildCells]
    rw [rd_eq fun i hi => h i (by simp [prs, hi])]
    split
    · exact buildCells_eq fun i hi => h i (by simp [prs, hi])
    · rfl
theorem bndX_eq {e e' : Nat → LV} {k : Nat} {x : Option X} {m : Option Nat} (h : ∀ i ∈ oxrs x, e' i = e i) : bndX e' k x m = bndX e k x m := by
  cases x with
  | none => cases m <;> rfl
  | some x => cases m with
    | none => rfl
    | some m => simp only [bndX]; rw [rd_eq fun i hi => h i (by simpa [oxrs] using hi)]

/-! ### trees of what lies in memory -/
theorem solidS_eq {h h' : Hp} {off len id : Nat} {t : TV} {is : List Nat} (he : solidS off len id (h id) = some (t, is)) (hh : ∀ i ∈ is, h' i = h i) : solidS off len id (h' id) = some (t, is) := by
  have hm : id ∈ is := by
    unfold solidS at he
    split at he
    · simp only [Option.some.injEq, Prod.mk.injEq] at he
      rw [← he.2]; simp
    · cases he
  rw [hh id hm]; exact he
theorem solidCell_eq {h h' : Hp} {l : LV} {t : TV} {is : List Nat} (he : solidCell h l = some (t, is)) (hh : ∀ i ∈ is, h' i = h i) : solidCell h' l = some (t, is) := by
  unfold solidCell at he ⊢
  split at he
  case h_8 => exact solidS_eq he hh
  all_goals first | exact he | (cases he; done)
theorem consS_some {x : Option (TV × List Nat)} {y : Option (List TV × List Nat)} {r : List TV × List Nat} (h : consS x y = some r) : ∃ t i ts is, x = some (t, i) ∧ y = some (ts, is) ∧ r = (t :: ts, i ++ is) := by
  unfold consS at h
  split at h
  · exact ⟨_, _, _, _, rfl, rfl, (Option.some.inj h).symm⟩
  · cases h
theorem solidCells_eq {h h' : Hp} : ∀ {ls : List LV} {ts : List TV} {is : List Nat}, solidCells h ls = some (ts, is) → (∀ i ∈ is, h' i = h i) → solidCells h' ls = some (ts, is)
  | [], ts, is, he, _ => he
  | l :: ls, ts, is, he, hh => by
    simp only [solidCells] at he ⊢
    obtain ⟨t, i1, ts', i2, h1, h2, h3⟩ := consS_some he
    obtain ⟨rfl, rfl⟩ := Prod.mk.inj h3
    rw [solidCell_eq h1 fun i hi => hh i (by simp [hi]), solidCells_eq h2 fun i hi => hh i (by simp [hi])]
    rfl
theorem solidP_eq {h h' : Hp} {id off : Nat} {t : TV} {is : List Nat} (he : solidP h id off (h id) = some (t, is)) (hh : ∀ i ∈ is, h' i = h i) : solidP h' id off (h' id) = some (t, is) := by
  unfold solidP at he
  split at he
  · rename_i f cs ho
    unfold pcS at he
    split at he
    · rename_i ts is' h1
      simp only [Option.some.injEq, Prod.mk.injEq] at he
      obtain ⟨rfl, rfl⟩ := he
      rw [hh id (by simp), ho]
      simp only [solidP]
      rw [solidCells_eq h1 fun i hi => hh i (by simp [hi])]
      rfl
    · cases he
  · cases he
theorem solidCap_eq {h h' : Hp} {l : LV} {t : TV} {is : List Nat} (he : solidCap h l = some (t, is)) (hh : ∀ i ∈ is, h' i = h i) : solidCap h' l = some (t, is) := by
  unfold solidCap at he ⊢
  split at he
  · exact solidP_eq he hh
  · exact solidCell_eq he hh
theorem solidCaps_eq {h h' : Hp} : ∀ {ls : List LV} {ts : List TV} {is : List Nat}, solidCaps h ls = some (ts, is) → (∀ i ∈ is, h' i = h i) → solidCaps h' ls = some (ts, is)
  | [], ts, is, he, _ => he
  | l :: ls, ts, is, he, hh => by
    simp only [solidCaps] at he ⊢
    obtain ⟨t, i1, ts', i2, h1, h2, h3⟩ := consS_some he
    obtain ⟨rfl, rfl⟩ := Prod.mk.inj h3
    rw [solidCap_eq h1 fun i hi => hh i (by simp [hi]), solidCaps_eq h2 fun i hi => hh i (by simp [hi])]
    rfl
theorem solidArg_eq {h h' : Hp} {l : LV} {t : TV} {is : List Nat} (he : solidArg h l = some (t, is)) (hh : ∀ i ∈ is, h' i = h i) : solidArg h' l = some (t, is) := by
  unfold solidArg at he ⊢
  split at he
  · unfold aggS at he
    split at he
    · rename_i ts is' h1
      simp only [Option.some.injEq, Prod.mk.injEq] at he
      obtain ⟨rfl, rfl⟩ := he
      simp only [solidCells_eq h1 hh]
      rfl
    · cases he
  · exact solidP_eq he hh
  · unfold fnS at he
    split at he
    · rename_i ts is' h1
      simp only [Option.some.injEq, Prod.mk.injEq] at he
      obtain ⟨rfl, rfl⟩ := he
      simp only [solidCaps_eq h1 hh]
      rfl
    · cases he
  · exact he
  · exact solidCell_eq he hh
theorem solidArgs_eq {h h' : Hp} : ∀ {ls : List LV} {ts : List TV} {is : List Nat}, solidArgs h ls = some (ts, is) → (∀ i ∈ is, h' i = h i) → solidArgs h' ls = some (ts, is)
  | [], ts, is, he, _ => he
  | l :: ls, ts, is, he, hh => by
    simp only [solidArgs] at he ⊢
    obtain ⟨t, i1, ts', i2, h1, h2, h3⟩ := consS_some he
    obtain ⟨rfl, rfl⟩ := Prod.mk.inj h3
    rw [solidArg_eq h1 fun i hi => hh i (by simp [hi]), solidArgs_eq h2 fun i hi => hh i (by simp [hi])]
    rfl
theorem solidRows_eq {h h' : Hp} {e e' : Nat → LV} {sz : Nat} : ∀ {xs : List X} {rs : List (List TV)} {is : List Nat}, solidRows h e sz xs = some (rs, is) → (∀ i ∈ xrs xs, e' i = e i) → (∀ i ∈ is, h' i = h i) → solidRows h' e' sz xs = some (rs, is)
  | [], rs, is, he, _, _ => he
  | x :: xs, rs, is, he, hx, hh => by
    simp only [solidRows] at he ⊢
    unfold consR at he
    split at he
    · rename_i r i1 rs' i2 h1 h2
      split at he
      · rename_i hsz
        simp only [Option.some.injEq, Prod.mk.injEq] at he
        obtain ⟨rfl, rfl⟩ := he
        rw [rd_eq fun i hi => hx i (by simp [xrs, hi]), solidCells_eq h1 fun i hi => hh i (by simp [hi]), solidRows_eq h2 (fun i hi => hx i (by simp [xrs, hi])) fun i hi => hh i (by simp [hi])]
        simp only [consR, hsz, if_true]
      · cases he
    · cases he

theorem frz_at {h h' : Hp} {j : Nat} (e : h' j = h j) (i : Nat) : upd h' i (frz (h' i)) j = upd h i (frz (h i)) j := by
  by_cases hj : j = i
  · subst hj; rw [upd_same, upd_same, e]
  · rw [upd_ne _ _ hj, upd_ne _ _ hj, e]
theorem freezeAll_at : ∀ (is : List Nat) {h h' : Hp} {j : Nat}, h' j = h j → Sx.freezeAll h' is j = Sx.freezeAll h is j
  | [], _, _, _, e => e
  | i :: is, h, h', j, e => freezeAll_at is (frz_at e i)
theorem freezeAll_out : ∀ (is : List Nat) {h : Hp} {j : Nat}, j ∉ is → Sx.freezeAll h is j = h j
  | [], _, _, _ => rfl
  | i :: is, h, j, hj => by
    show Sx.freezeAll (upd h i (frz (h i))) is j = h j
    rw [freezeAll_out is (fun hm => hj (by simp [hm])), upd_ne _ _ (fun e => hj (by simp [e]))]

/-! ### single changes -/
theorem set_loc {d : Nat} {l : LV} {wr : List Nat} (hw : ∀ i ∈ wr, st'.hp i = st.hp i) : st'.set d l = patch st' (st.set d l) (some d) wr := by
  refine St.ext' (fun i => ?_) fun i => ?_
  · simp only [St.set, patch, upd]
    by_cases e : i = d
    · subst e; simp
    · rw [if_neg e, if_neg (by simpa using fun h => e h.symm)]
  · simp only [St.set, patch, patchH]
    split
    · exact hw i (by assumption)
    · rfl
theorem setM_loc {d : Nat} {x x' : Option LV} {wr : List Nat} (h : setM st d x = some st1) (hx : x' = x) (hw : ∀ i ∈ wr, st'.hp i = st.hp i) : setM st' d x' = some (patch st' st1 (some d) wr) := by
  subst hx
  cases x' with
  | none => cases h
  | some l =>
    obtain rfl := Option.some.inj h
    exact congrArg some (set_loc hw)
theorem setV_loc {d : Nat} {x x' : Option TV} {wr : List Nat} (h : setV st d x = some st1) (hx : x' = x) (hw : ∀ i ∈ wr, st'.hp i = st.hp i) : setV st' d x' = some (patch st' st1 (some d) wr) := by
  subst hx
  cases x' with
  | none => cases h
  | some l =>
    obtain rfl := Option.some.inj h
    exact congrArg some (set_loc hw)
theorem mkO_loc {d k : Nat} {o : Ob} {l : LV} {h h' : Hp} {wr0 : List Nat} (he : mkO d k o l ⟨st.env, h⟩ = some st1) (hk : h' k = h k) (h1 : ∀ i ∈ wr0, h' i = h i) (h2 : ∀ i, i ∉ wr0 → h' i = st'.hp i) :
    mkO d k o l ⟨st'.env, h'⟩ = some (patch st' st1 (some d) (k :: wr0)) := by
  unfold mkO mkK at he ⊢
  dsimp only at he ⊢
  rw [hk]
  split at he
  · rename_i hn
    obtain rfl := Option.some.inj he
    refine congrArg some (St.ext' (fun i => ?_) fun i => ?_)
    · show upd st'.env d l i = if some d = some i then upd st.env d l i else st'.env i
      simp only [upd]
      by_cases e : i = d
      · subst e; simp
      · rw [if_neg e, if_neg (by simpa using fun h => e h.symm)]
    · show upd h' k (some o) i = if i ∈ k :: wr0 then upd h k (some o) i else st'.hp i
      by_cases e : i = k
      · subst e; rw [upd_same, if_pos (by simp), upd_same]
      · rw [upd_ne _ _ e]
        by_cases hm : i ∈ wr0
        · rw [if_pos (by simp [hm]), upd_ne _ _ e]; exact h1 i hm
        · rw [if_neg (by simp [e, hm])]; exact h2 i hm
  · cases he

/-! ### results -/
/-- F turns wr alone, and looks at wr alone -/
def LocT {β : Type} (F : St → Option (β × St)) (wr : List Nat) : Prop := ∀ (st : St) (r : β) (st1 : St), F st = some (r, st1) → st1.env = st.env ∧ ∀ st' : St, (∀ i ∈ wr, st'.hp i = st.hp i) → F st' = some (r, { env := st'.env, hp := patchH st'.hp st1.hp wr })
theorem LocT.out {β : Type} {F : St → Option (β × St)} {wr : List Nat} (h : LocT F wr) {st st1 : St} {r : β} (he : F st = some (r, st1)) {i : Nat} (hi : i ∉ wr) : st1.hp i = st.hp i := by
  have := (h st r st1 he).2 st fun _ _ => rfl
  rw [he] at this
  have e := congrArg St.hp (Prod.mk.inj (Option.some.inj this)).2
  rw [e]
  simp [patchH, hi]
theorem LocT.then {β γ δ : Type} {F : St → Option (β × St)} {G : St → Option (γ × St)} {n1 n2 : List Nat} (hF : LocT F n1) (hG : LocT G n2) (k : β → γ → δ) :
    LocT (fun st => match F st with | some (x, st1) => (match G st1 with | some (y, st2) => some (k x y, st2) | none => none) | none => none) (n1 ++ n2) := by
  intro st r st2 h
  cases h1 : F st with
  | none => simp only [h1] at h; cases h
  | some q =>
    obtain ⟨x, sta⟩ := q
    simp only [h1] at h
    cases h2 : G sta with
    | none => rw [h2] at h; cases h
    | some q =>
      obtain ⟨y, stb⟩ := q
      rw [h2] at h
      simp only [Option.some.injEq, Prod.mk.injEq] at h
      obtain ⟨rfl, rfl⟩ := h
      obtain ⟨e1, f1⟩ := hF st x sta h1
      obtain ⟨e2, f2⟩ := hG sta y stb h2
      refine ⟨e2.trans e1, fun st' hw => ?_⟩
      have g1 := f1 st' fun i hi => hw i (by simp [hi])
      have g2 := f2 ⟨st'.env, patchH st'.hp sta.hp n1⟩ fun i hi => by
        simp only [patchH]
        split
        · rfl
        · rename_i hn
          rw [hF.out h1 hn]
          exact hw i (by simp [hi])
      simp only [g1, g2]
      refine congrArg some (Prod.ext rfl (St.ext' (fun _ => rfl) fun i => ?_))
      simp only [patchH, List.mem_append]
      by_cases i2 : i ∈ n2
      · simp [i2]
      · by_cases i1 : i ∈ n1
        · simp [i1, i2, hG.out h2 i2]
        · simp [i1, i2]
theorem LocT.pure {β : Type} (r : β) : LocT (fun st => some (r, st)) [] := fun st r' st1 h => by
  simp only [Option.some.injEq, Prod.mk.injEq] at h
  obtain ⟨rfl, rfl⟩ := h
  exact ⟨rfl, fun st' _ => congrArg some (Prod.ext rfl (St.ext' (fun _ => rfl) fun i => by simp [patchH]))⟩
theorem LocT.map {β γ : Type} {F : St → Option (β × St)} {n : List Nat} (hF : LocT F n) (k : β → γ) : LocT (fun st => match F st with | some (x, st1) => some (k x, st1) | none => none) n := by
  have h := hF.then (LocT.pure ()) fun x _ => k x
  rw [List.append_nil] at h
  exact h
theorem LocT.congr {β : Type} {F G : St → Option (β × St)} {n : List Nat} (hF : LocT F n) (e : ∀ st, G st = F st) : LocT G n := by
  have : G = F := funext e
  rw [this]; exact hF

theorem consT_eq (l : LV) (x : Option (List LV × St)) : consT l x = match x with | some (ls, st) => some (l :: ls, st) | none => none := by cases x <;> rfl

def newO (k : Nat) (o : Ob) (st : St) : Option (Unit × St) := match st.hp k with
  | none => some ((), { st with hp := upd st.hp k (some o) })
  | some _ => none
theorem newO_loc (k : Nat) (o : Ob) : LocT (newO k o) [k] := by
  intro st r st1 h
  unfold newO at h
  split at h
  · rename_i hk
    simp only [Option.some.injEq, Prod.mk.injEq] at h
    obtain ⟨_, rfl⟩ := h
    refine ⟨rfl, fun st' hw => ?_⟩
    have := hw k (by simp)
    unfold newO
    rw [this, hk]
    refine congrArg some (Prod.ext rfl (St.ext' (fun _ => rfl) fun i => ?_))
    simp only [patchH, List.mem_singleton]
    by_cases e : i = k
    · subst e; simp [upd]
    · simp [upd, e]
  · cases h

theorem thawCells_loc : ∀ (ts : List TV) (k : Nat), LocT (thawCells k ts) (thawNs k ts)
  | [], k => by simpa only [thawCells, thawNs] using LocT.pure []
  | t :: ts, k => by
    have ih := thawCells_loc ts (k + 1)
    by_cases hown : ∃ e sz rows, t = .sl (.own e) sz rows
    · obtain ⟨e, sz, rows, rfl⟩ := hown
      have h := (newO_loc k (.arr false e sz rows)).then ih fun _ ls => LV.s k 0 rows.length :: ls
      simp only [thawNs]
      refine LocT.congr h fun st => ?_
      simp only [thawCells, thawOne, newO]
      cases st.hp k with
      | none => simp only; cases thawCells (k + 1) ts ⟨st.env, upd st.hp k (some (.arr false e sz rows))⟩ <;> rfl
      | some o => rfl
    · have hT : ∀ st, thawCells k (t :: ts) st = consT (.v t) (thawCells (k + 1) ts st) := fun st => by
        cases t with
        | sl fl sz rows => cases fl with
          | own e => exact absurd ⟨e, sz, rows, rfl⟩ hown
          | shared => rfl
          | tight e => rfl
        | _ => rfl
      have hN : thawNs k (t :: ts) = thawNs (k + 1) ts := by
        cases t with
        | sl fl sz rows => cases fl with
          | own e => exact absurd ⟨e, sz, rows, rfl⟩ hown
          | shared => rfl
          | tight e => rfl
        | _ => rfl
      rw [hN]
      refine LocT.congr (ih.map fun ls => LV.v t :: ls) fun st => ?_
      rw [hT]
      cases thawCells (k + 1) ts st <;> rfl

/-- F, where what it leaves goes through k, which may fail -/
theorem LocT.bind {β γ : Type} {F : St → Option (β × St)} {n : List Nat} (hF : LocT F n) (k : β → Option γ) : LocT (fun st => match F st with | some (x, st1) => (match k x with | some y => some (y, st1) | none => none) | none => none) n := by
  intro st r st1 h
  cases h1 : F st with
  | none => simp only [h1] at h; cases h
  | some q =>
    obtain ⟨x, sta⟩ := q
    simp only [h1] at h
    cases h2 : k x with
    | none => rw [h2] at h; cases h
    | some y =>
      rw [h2] at h
      simp only [Option.some.injEq, Prod.mk.injEq] at h
      obtain ⟨rfl, rfl⟩ := h
      obtain ⟨e1, f1⟩ := hF st x sta h1
      refine ⟨e1, fun st' hw => ?_⟩
      simp only [f1 st' hw, h2]
theorem LocT.none {β : Type} (n : List Nat) : LocT (fun _ : St => (Option.none : Option (β × St))) n := fun _ _ _ h => by cases h

theorem thaw1_loc (t : TV) (k : Nat) : LocT (thaw1 k t) (thawN1 k t) := by
  by_cases ha : ∃ cs, t = .agg cs
  · obtain ⟨cs, rfl⟩ := ha
    simp only [thawN1]
    by_cases hl : cs.length ≤ 16
    · refine LocT.congr ((thawCells_loc cs k).map fun ls => LV.agg ls) fun st => ?_
      simp only [thaw1, hl, if_true]
      cases thawCells k cs st <;> rfl
    · refine LocT.congr (LocT.none _) fun st => ?_
      simp only [thaw1, hl, if_false]
  · have hT : ∀ st, thaw1 k t st = oneT (thawCells k [t] st) := fun st => by cases t with
      | agg cs => exact absurd ⟨cs, rfl⟩ ha
      | _ => rfl
    have hN : thawN1 k t = thawNs k [t] := by cases t with
      | agg cs => exact absurd ⟨cs, rfl⟩ ha
      | _ => rfl
    rw [hN]
    refine LocT.congr ((thawCells_loc [t] k).bind fun ls => match ls with | [l] => some l | _ => Option.none) fun st => ?_
    rw [hT]
    cases thawCells k [t] st with
    | none => rfl
    | some q =>
      obtain ⟨ls, st1⟩ := q
      match ls with
      | [] => rfl
      | [l] => rfl
      | _ :: _ :: _ => rfl

theorem thawVs_loc : ∀ (ts : List TV) (k : Nat), LocT (thawVs k ts) (thawNVs k ts)
  | [], k => by simpa only [thawVs, thawNVs] using LocT.pure []
  | t :: ts, k => by
    simp only [thawNVs]
    refine LocT.congr ((thaw1_loc t k).then (thawVs_loc ts (k + 16)) fun l ls => l :: ls) fun st => ?_
    simp only [thawVs]
    cases thaw1 k t st with
    | none => rfl
    | some q => simp only [thawK]; cases thawVs (k + 16) ts q.2 <;> rfl
theorem thaw_loc (t : TV) (k : Nat) : LocT (thaw k t) (thawN k t) := by
  by_cases ha : ∃ cs, t = .tup cs
  · obtain ⟨cs, rfl⟩ := ha
    simp only [thawN]
    refine LocT.congr ((thawVs_loc cs k).map fun ls => LV.tup ls) fun st => ?_
    simp only [thaw]
    cases thawVs k cs st <;> rfl
  · have hT : ∀ st, thaw k t st = thaw1 k t st := fun st => by cases t with
      | tup cs => exact absurd ⟨cs, rfl⟩ ha
      | _ => rfl
    have hN : thawN k t = thawN1 k t := by cases t with
      | tup cs => exact absurd ⟨cs, rfl⟩ ha
      | _ => rfl
    rw [hN]
    exact LocT.congr (thaw1_loc t k) hT
end
end Go.Proofs.Ytfhijlhiifkkhaa.Sx
namespace Go.Proofs.Ytfhijlhiifkkhaa.Sx
open Go Go.RowKit

section
variable {C : Cs} {lo : Nat} {st st' st1 : St}

theorem loadL_eq {h h' : Hp} {n : Nat} {ag : Bool} {l : LV} (hh : ∀ i ∈ fpA l, h' i = h i) : loadL h' n ag l = loadL h n ag l := by
  cases l with
  | p id off => simp only [loadL, hh id (by simp [fpA])]
  | pe id r off => simp only [loadL, hh id (by simp [fpA])]
  | v t => cases t <;> rfl
  | _ => rfl
theorem iaddrL_eq {h h' : Hp} {sz : Nat} {l m : LV} (hh : ∀ i ∈ fpA l, h' i = h i) : iaddrL h' sz l m = iaddrL h sz l m := by
  unfold iaddrL
  split
  · rfl
  · rw [hh _ (by simp [fpA])]
  · rfl
theorem sliceL_eq {h h' : Hp} {e e' : Nat → LV} {te : TypeId} {sz : Nat} {a b c : Option X} {l : LV} (h1 : ∀ i ∈ oxrs a, e' i = e i) (h2 : ∀ i ∈ oxrs b, e' i = e i) (h3 : ∀ i ∈ oxrs c, e' i = e i) (hh : ∀ i ∈ fpA l, h' i = h i) :
    sliceL h' te sz e' a b c l = sliceL h te sz e a b c l := by
  unfold sliceL
  split
  · simp only [cutV2, bndX_eq h1, bndX_eq h2]
  · simp only [cutV3, bndX_eq h1, bndX_eq h2, bndX_eq (x := some _) (by simpa [oxrs] using h3)]
  · rw [hh _ (by simp [fpA])]; simp only [bndX_eq h1, bndX_eq h2]
  · rfl
theorem rowsOf_eq {h h' : Hp} {l : LV} (hh : ∀ i ∈ fpA l, h' i = h i) : rowsOf h' l = rowsOf h l := by
  cases l with
  | s id off len => simp only [rowsOf, hh id (by simp [fpA])]
  | v t => cases t <;> rfl
  | _ => rfl
theorem rowsB_eq {h h' : Hp} {l : LV} (hh : ∀ i ∈ fpA l, h' i = h i) : rowsB h' l = rowsB h l := by
  cases l with
  | s id off len => simp only [rowsB, hh id (by simp [fpA])]
  | v t => cases t <;> rfl
  | _ => rfl

theorem pick_loc {d : Nat} {a b c : LV} {wr : List Nat} (h : pickK st d a b c = some st1) (hw : ∀ i ∈ wr, st'.hp i = st.hp i) : pickK st' d a b c = some (patch st' st1 (some d) wr) := by
  unfold pickK at h ⊢
  split at h
  · split at h
    · rename_i hc; obtain rfl := Option.some.inj h; simp only [hc, if_true]; exact congrArg some (set_loc hw)
    · rename_i hc; obtain rfl := Option.some.inj h; simp only [hc]; exact congrArg some (set_loc hw)
  · cases h

theorem hp_loc {id : Nat} {o : Ob} {h h' : Hp} {wr0 : List Nat} {wr : List Nat} (hid : id ∈ wr) (hs : ∀ i ∈ wr0, i ∈ wr) (h1 : ∀ i ∈ wr, h' i = h i) (h2 : ∀ i, i ∉ wr → h' i = st'.hp i) {e e' : Nat → LV} {d : Option Nat} (he : ∀ i, e' i = if d = some i then e i else st'.env i) :
    (⟨e', upd h' id (some o)⟩ : St) = patch st' ⟨e, upd h id (some o)⟩ d wr := by
  refine St.ext' (fun i => he i) fun i => ?_
  show upd h' id (some o) i = if i ∈ wr then upd h id (some o) i else st'.hp i
  by_cases ei : i = id
  · subst ei; rw [upd_same, if_pos hid, upd_same]
  · rw [upd_ne _ _ ei, upd_ne _ _ ei]
    by_cases hm : i ∈ wr
    · rw [if_pos hm]; exact h1 i hm
    · rw [if_neg hm]; exact h2 i hm

theorem store_loc {n : Nat} {xs : List LV} {l : LV} {wr : List Nat} (h : storeL st n xs l = some st1) (hwr : wr = fpW (solidCells st.hp xs) l) (hw : ∀ i ∈ wr, st'.hp i = st.hp i) :
    storeL st' n xs l = some (patch st' st1 none wr) ∧ fpW (solidCells st'.hp xs) l = fpW (solidCells st.hp xs) l := by
  unfold storeL at h ⊢
  split at h
  · rename_i id off
    have hid : id ∈ wr := by rw [hwr]; simp [fpW]
    refine ⟨?_, rfl⟩
    simp only [hw id hid]
    unfold storeP at h ⊢
    split at h
    · split at h
      · rename_i hh
        obtain rfl := Option.some.inj h
        simp only [hh, and_self, if_true]
        exact congrArg some (hp_loc hid (wr0 := []) (by simp) hw (fun _ _ => rfl) (by simp))
      · cases h
    · cases h
  · rename_i id row off
    have hid : id ∈ wr := by rw [hwr]; simp [fpW]
    cases hs : solidCells st.hp xs with
    | none => rw [hs] at h; cases h
    | some q =>
      obtain ⟨ts, is⟩ := q
      have his : ∀ i ∈ is, i ∈ wr := fun i hi => by rw [hwr, hs]; simp [fpW, fpS, hi]
      rw [hs] at h
      rw [solidCells_eq hs fun i hi => hw i (his i hi)]
      refine ⟨?_, rfl⟩
      simp only [hw id hid]
      unfold storeE at h ⊢
      split at h
      · rename_i h1 h2
        simp only [Option.some.injEq, Prod.mk.injEq] at h1
        obtain ⟨rfl, rfl⟩ := h1
        unfold storeE2 at h ⊢
        split at h
        · rename_i r hr
          split at h
          · rename_i hh
            obtain rfl := Option.some.inj h
            simp only [hh, and_self, not_false_eq_true, if_true]
            exact congrArg some (hp_loc hid his (fun i hi => freezeAll_at _ (hw i hi)) (fun i hi => freezeAll_out _ fun hm => hi (his i hm)) (by simp))
          · cases h
        · cases h
      · cases h
  · cases h

theorem storeQ_loc {n : Nat} {x l : LV} {wr : List Nat} (h : storeQ lo st n x l = some st1) (hwr : wr = fpQ lo st.hp x l) (hw : ∀ i ∈ wr, st'.hp i = st.hp i) :
    storeQ lo st' n x l = some (patch st' st1 none wr) ∧ fpQ lo st'.hp x l = fpQ lo st.hp x l := by
  unfold storeQ at h ⊢
  unfold fpQ at hwr ⊢
  split at h
  · rename_i hlo
    rw [if_pos hlo] at hwr
    simp only [if_pos hlo]
    exact store_loc h hwr hw
  · rename_i hlo
    rw [if_neg hlo] at hwr
    simp only [if_neg hlo]
    unfold storeV at h ⊢
    unfold fpV at hwr ⊢
    split at h
    · rename_i id2 len id off
      simp only at hwr ⊢
      generalize off * 1000000 + len = nid at h hwr ⊢
      refine ⟨?_, trivial⟩
      split at h
      · rename_i hn
        rw [if_pos hn]
        rw [hw id2 (by rw [hwr]; simp), hw nid (by rw [hwr]; simp), hw id (by rw [hwr]; simp)]
        unfold putO at h ⊢
        split at h
        · split at h
          · rename_i hh
            obtain rfl := Option.some.inj h
            simp only [hh, and_self, if_true]
            refine congrArg some (hp_loc (by rw [hwr]; simp) (wr0 := []) (by simp) (fun i hi => ?_) (fun i hi => ?_) (by simp))
            · unfold upd
              split
              · rfl
              · split
                · rfl
                · exact hw i hi
            · rw [hwr] at hi
              simp only [List.mem_cons, List.not_mem_nil, or_false, not_or] at hi
              rw [upd_ne _ _ hi.2.2, upd_ne _ _ hi.2.1]
          · cases h
        · cases h
      · cases h
    · rename_i hno
      split at hwr
      · rename_i id2 len id off
        exact absurd rfl (hno id2 len id off rfl)
      · exact store_loc h hwr hw
theorem appN_loc {d : Nat} {e : TypeId} {sz : Nat} {new : List (List TV)} (h : appN lo st d e sz new = some st1) (hw : st'.hp (lo + d) = st.hp (lo + d)) : appN lo st' d e sz new = some (patch st' st1 (some d) [lo + d]) := by
  unfold appN at h ⊢
  split at h
  · rename_i hlo
    rw [if_pos hlo]
    exact mkO_loc (st := st) (wr0 := []) h hw (by simp) (fun _ _ => rfl)
  · rename_i hlo
    rw [if_neg hlo]
    unfold appV at h ⊢
    split at h
    · exact mkO_loc (st := st) (wr0 := []) h hw (by simp) (fun _ _ => rfl)
    · exact mkO_loc (st := st) (wr0 := []) h hw (by simp) (fun _ _ => rfl)
theorem app_loc {d : Nat} {e : TypeId} {sz bytes : Nat} {x : LV} {y y' : Option (Nat × List (List TV))} {wr : List Nat} (h : appK lo st d e sz bytes x y = some st1) (hy : y' = y) (hwr : wr = (lo + d) :: fpA x) (hw : ∀ i ∈ wr, st'.hp i = st.hp i) :
    appK lo st' d e sz bytes x y' = some (patch st' st1 (some d) wr) := by
  subst hy
  unfold appK at h ⊢
  split at h
  · rename_i sz' new
    split at h
    · rename_i hsz
      simp only [hsz, if_true]
      unfold appL at h ⊢
      split at h
      · rename_i fe sz2 rows
        split at h
        · rename_i hsz2
          simp only [hsz2, if_true]
          have hwr' : wr = [lo + d] := by rw [hwr]; rfl
          subst hwr'
          unfold appT at h ⊢
          split at h
          · split at h
            · rename_i hb
              simp only [hb, if_true]
              exact appN_loc h (hw _ (by simp))
            · cases h
          · split at h
            · rename_i hb
              obtain rfl := Option.some.inj h
              simp only [hb, if_true]
              exact congrArg some (set_loc hw)
            · rename_i hb
              split at h
              · rename_i hb2
                simp only [hb, if_false, hb2, if_true]
                exact mkO_loc (st := st) (wr0 := []) h (hw _ (by simp)) (by simp) (fun _ _ => rfl)
              · cases h
        · cases h
      · rename_i id len
        have hwr' : wr = [lo + d, id] := by rw [hwr]; rfl
        subst hwr'
        simp only [hw id (by simp)]
        unfold appS at h ⊢
        split at h
        · split at h
          · rename_i hh
            simp only [hh, and_self, if_true]
            refine mkO_loc (st := st) (wr0 := [id]) h ?_ ?_ ?_
            · simp only [upd]; split
              · rfl
              · exact hw _ (by simp)
            · intro i hi; simp only [List.mem_singleton] at hi; subst hi; rw [upd_same, upd_same]
            · intro i hi; exact upd_ne _ _ (by simpa using hi)
          · cases h
        · unfold appW at h ⊢
          split at h
          · split at h
            · rename_i hh
              rw [if_pos hh]
              refine mkO_loc (st := st) (wr0 := [id]) h ?_ ?_ ?_
              · simp only [upd]; split
                · rfl
                · exact hw _ (by simp)
              · intro i hi; simp only [List.mem_singleton] at hi; subst hi; rw [upd_same, upd_same]
              · intro i hi; exact upd_ne _ _ (by simpa using hi)
            · cases h
          · cases h
        · cases h
      · cases h
    · cases h
  · cases h

theorem copy_loc {d sz : Nat} {x : LV} {y y' : Option (Nat × List (List TV))} {wr : List Nat} (h : copyK st d sz x y = some st1) (hy : y' = y) (hwr : wr = fpA x) (hw : ∀ i ∈ wr, st'.hp i = st.hp i) :
    copyK st' d sz x y' = some (patch st' st1 (some d) wr) := by
  subst hy
  unfold copyK at h ⊢
  split at h
  · split at h
    · rename_i hsz
      simp only [hsz, if_true]
      unfold copyL at h ⊢
      split at h
      · rename_i id off len
        have hid : id ∈ wr := by rw [hwr]; simp [fpA]
        simp only [hw id hid]
        unfold copyO at h ⊢
        split at h
        · split at h
          · rename_i hh
            obtain rfl := Option.some.inj h
            simp only [hh, if_true]
            refine congrArg some (hp_loc hid (wr0 := []) (by simp) hw (fun _ _ => rfl) fun i => ?_)
            simp only [upd]
            by_cases ei : i = d
            · subst ei; simp
            · rw [if_neg ei, if_neg (by simpa using fun h => ei h.symm)]
          · cases h
        · cases h
      · cases h
    · cases h
  · cases h

theorem call_loc {d : Nat} {is : List Nat} {r : Option TV} (h : callR lo d is st r = some st1) (hrd : ∀ i ∈ is, st'.hp i = st.hp i) (hw : ∀ i ∈ (fpCall lo d is r).wr, st'.hp i = st.hp i) :
    callR lo d is st' r = some (patch st' st1 (some d) (fpCall lo d is r).wr) := by
  cases r with
  | none => cases h
  | some r =>
    simp only [fpCall] at hw ⊢
    simp only [callR] at h ⊢
    generalize hH : (fun h : Hp => if is.isEmpty || r.flat then h else Sx.freezeAll h is) = H at *
    have hHs : ∀ h : Hp, (if is.isEmpty || r.flat then h else Sx.freezeAll h is) = H h := fun h => by rw [← hH]
    simp only [hHs] at h ⊢
    have hat : ∀ {h h' : Hp} {j : Nat}, h' j = h j → H h' j = H h j := fun {h h' j} e => by
      rw [← hH]
      simp only
      split
      · exact e
      · exact freezeAll_at is e
    have hout : ∀ {h : Hp} {j : Nat}, j ∉ (if r.flat = true then [] else is) → H h j = h j := fun {h j} e => by
      rw [← hH]
      simp only
      split
      · rfl
      · rename_i hc
        refine freezeAll_out is fun hm => e ?_
        have : r.flat = false := by simpa using (by simpa using hc : ¬ (is = [] ∨ r.flat = true)) ∘ Or.inr
        simp [this, hm]
    cases ht : thaw (lo + (1000 + d * 64)) r { env := st.env, hp := H st.hp } with
    | none => rw [ht] at h; cases h
    | some q =>
      obtain ⟨l, st2⟩ := q
      rw [ht] at h
      obtain rfl := Option.some.inj h
      have hloc := thaw_loc r (lo + (1000 + d * 64))
      obtain ⟨e1, f1⟩ := hloc _ _ _ ht
      have g1 := f1 ⟨st'.env, H st'.hp⟩ fun i hi => hat (hw i (by simp [hi]))
      rw [g1]
      simp only [callT]
      refine congrArg some (St.ext' (fun i => ?_) fun i => ?_)
      · show upd st'.env d l i = if some d = some i then upd st2.env d l i else st'.env i
        simp only [upd]
        by_cases ei : i = d
        · subst ei; simp
        · rw [if_neg ei, if_neg (by simpa using fun h => ei h.symm)]
      · show patchH (H st'.hp) st2.hp (thawN (lo + (1000 + d * 64)) r) i = patchH st'.hp st2.hp ((if r.flat = true then [] else is) ++ thawN (lo + (1000 + d * 64)) r) i
        simp only [patchH, List.mem_append]
        by_cases i2 : i ∈ thawN (lo + (1000 + d * 64)) r
        · simp [i2]
        · by_cases i1 : i ∈ (if r.flat = true then [] else is)
          · simp only [i1, i2, or_false, if_true, if_false]
            rw [hloc.out ht i2]
            exact hat (hw i (by simp only [List.mem_append]; exact .inl i1))
          · simp only [i1, i2, or_false, if_false]
            exact hout i1

theorem callA_loc {d : Nat} {f : FuncId} {ls : List LV} (h : callA C lo d f st (solidArgs st.hp ls) = some st1) (hrd : ∀ i ∈ (fpCallA C lo d f (solidArgs st.hp ls)).rd, st'.hp i = st.hp i)
    (hw : ∀ i ∈ (fpCallA C lo d f (solidArgs st.hp ls)).wr, st'.hp i = st.hp i) :
    callA C lo d f st' (solidArgs st'.hp ls) = some (patch st' st1 (some d) (fpCallA C lo d f (solidArgs st.hp ls)).wr) ∧ solidArgs st'.hp ls = solidArgs st.hp ls := by
  cases hs : solidArgs st.hp ls with
  | none => rw [hs] at h; cases h
  | some q =>
    obtain ⟨ts, is⟩ := q
    rw [hs] at h hrd hw
    simp only [callA, fpCallA] at h hrd hw ⊢
    have his : ∀ i ∈ is, st'.hp i = st.hp i := by
      cases hr : C.t f ts with
      | none => rw [hr] at h; cases h
      | some r => rw [hr] at hrd; exact hrd
    rw [solidArgs_eq hs his]
    exact ⟨call_loc h his hw, rfl⟩

theorem callF_loc {d : Nat} {args : List LV} {l : LV} (h : callF C lo d args st l = some st1) (hrd : ∀ i ∈ (fpCallF C lo d args st.hp l).rd, st'.hp i = st.hp i) (hw : ∀ i ∈ (fpCallF C lo d args st.hp l).wr, st'.hp i = st.hp i) :
    callF C lo d args st' l = some (patch st' st1 (some d) (fpCallF C lo d args st.hp l).wr) ∧ fpCallF C lo d args st'.hp l = fpCallF C lo d args st.hp l := by
  unfold callF at h ⊢
  split at h
  · simp only [fpCallF] at hrd hw ⊢
    have k := callA_loc h hrd hw
    exact ⟨k.1, by rw [k.2]⟩
  · simp only [fpCallF] at hrd hw ⊢
    have k := callA_loc h hrd hw
    exact ⟨k.1, by rw [k.2]⟩
  · cases h

theorem tightR_none {xs : List X} : tightR lo xs none = none := by
  unfold tightR; split
  · rfl
  · unfold tightV; split
    · rename_i h; cases h
    · rfl
theorem bslice_loc {d : Nat} {e : TypeId} {sz : Nat} {rows : List (List TV)} {is : List Nat} (h : bsliceK lo st d e sz (some (rows, is)) = some st1) (hw : ∀ i ∈ (lo + d) :: is, st'.hp i = st.hp i) :
    bsliceK lo st' d e sz (some (rows, is)) = some (patch st' st1 (some d) ((lo + d) :: is)) := by
  simp only [bsliceK] at h ⊢
  exact mkO_loc (st := st) h (freezeAll_at is (hw _ (by simp))) (fun i hi => freezeAll_at is (hw i (by simp [hi]))) (fun i hi => freezeAll_out is hi)

theorem mks_loc {d : Nat} {e : TypeId} {z : List TV} {bytes : Nat} {l c : LV} (h : mksK lo st d e z bytes l c = some st1) (hw : ∀ i ∈ [lo + d], st'.hp i = st.hp i) :
    mksK lo st' d e z bytes l c = some (patch st' st1 (some d) [lo + d]) := by
  unfold mksK at h ⊢
  split at h
  · split at h
    · rename_i hh
      simp only [hh, and_self, if_true]
      exact mkO_loc (st := st) (wr0 := []) h (hw _ (by simp)) (by simp) (fun _ _ => rfl)
    · cases h
  · cases h

theorem appz_loc {d : Nat} {e : TypeId} {z : List TV} {bytes : Nat} {l c : LV} (h : appzK lo st d e z bytes l c = some st1) (hw : ∀ i ∈ [lo + d], st'.hp i = st.hp i) :
    appzK lo st' d e z bytes l c = some (patch st' st1 (some d) [lo + d]) := by
  unfold appzK at h ⊢
  split at h
  · split at h
    · rename_i hh
      simp only [hh, and_self, if_true]
      exact mkO_loc (st := st) (wr0 := []) h (hw _ (by simp)) (by simp) (fun _ _ => rfl)
    · cases h
  · cases h
theorem mgetL_eq {h h' : Hp} {ks : List Lk} {kag vag cok : Bool} {zs : List TV} {key : Option (List LV)} {l : LV} (hh : ∀ i ∈ fpA l, h' i = h i) : mgetL h' ks kag vag zs cok key l = mgetL h ks kag vag zs cok key l := by
  cases l with
  | m id => cases key <;> simp only [mgetL, hh id (by simp [fpA])]
  | _ => cases key <;> rfl
theorem mlenL_eq {h h' : Hp} {l : LV} (hh : ∀ i ∈ fpA l, h' i = h i) : mlenL h' l = mlenL h l := by
  cases l with
  | m id => simp only [mlenL, hh id (by simp [fpA])]
  | _ => rfl
theorem mupd_loc {ks : List Lk} {kag vag : Bool} {n : Nat} {val : Option (List TV × List Nat)} {key : Option (List LV)} {l : LV} {wr : List Nat} (h : mupdL st ks kag vag n val key l = some st1) (hwr : wr = fpM val l) (hw : ∀ i ∈ wr, st'.hp i = st.hp i) :
    mupdL st' ks kag vag n val key l = some (patch st' st1 none wr) := by
  unfold mupdL at h ⊢
  split at h
  · rename_i key' id
    have hid : id ∈ wr := by rw [hwr]; simp [fpM]
    simp only [hw id hid]
    unfold mupdO at h ⊢
    split at h
    · rename_i kc vc is kag' vag' ents h1 h3
      have his : ∀ i ∈ is, i ∈ wr := fun i hi => by rw [hwr]; simp [fpM, fpS, hi]
      split at h
      · rename_i hh
        simp only [hh, and_self, not_false_eq_true, if_true]
        unfold setMap at h ⊢
        split at h
        · obtain rfl := Option.some.inj h
          exact congrArg some (hp_loc hid his (fun i hi => freezeAll_at _ (hw i hi)) (fun i hi => freezeAll_out _ fun hm => hi (his i hm)) (by simp))
        · cases h
      · cases h
    · cases h
  · cases h
theorem mdel_loc {ks : List Lk} {kag : Bool} {key : Option (List LV)} {l : LV} {wr : List Nat} (h : mdelL st ks kag key l = some st1) (hwr : wr = fpA l) (hw : ∀ i ∈ wr, st'.hp i = st.hp i) :
    mdelL st' ks kag key l = some (patch st' st1 none wr) := by
  unfold mdelL at h ⊢
  split at h
  · rename_i key' id
    have hid : id ∈ wr := by rw [hwr]; simp [fpA]
    simp only [hw id hid]
    unfold mdelO at h ⊢
    split at h
    · split at h
      · rename_i hh
        simp only [hh, and_self, if_true]
        unfold setMap at h ⊢
        split at h
        · obtain rfl := Option.some.inj h
          exact congrArg some (hp_loc hid (wr0 := []) (by simp) hw (fun _ _ => rfl) (by simp))
        · cases h
      · cases h
    · cases h
  · cases h
theorem solidO_eq {h h' : Hp} {x : Option (List LV)} {ts : List TV} {is : List Nat} (he : solidO h x = some (ts, is)) (hh : ∀ i ∈ is, h' i = h i) : solidO h' x = some (ts, is) := by
  cases x with
  | none => cases he
  | some ls => exact solidCells_eq he hh

theorem loc_op {o : IOp} (hi : o.inn = false) (h : evOp C lo st o = some st1) (he : ∀ i ∈ o.reads, st'.env i = st.env i) (hrd : ∀ i ∈ (fpOp C lo st o).rd, st'.hp i = st.hp i) (hw : ∀ i ∈ (fpOp C lo st o).wr, st'.hp i = st.hp i) :
    evOp C lo st' o = some (patch st' st1 o.dst (fpOp C lo st o).wr) ∧ fpOp C lo st' o = fpOp C lo st o := by
  have r1 : ∀ {x : X}, (∀ i ∈ x.rs, i ∈ o.reads) → x.rd st'.env = x.rd st.env := fun hx => rd_eq fun i hi => he i (hx i hi)
  have r2 : ∀ {xs : List X}, (∀ i ∈ xrs xs, i ∈ o.reads) → rds st'.env xs = rds st.env xs := fun hx => rds_eq fun i hi => he i (hx i hi)
  cases o with
  | icall d f args => cases hi
  | mv d x =>
    simp only [evOp, Option.some.injEq] at h ⊢
    subst h
    rw [r1 (x := x) fun i hi => hi]
    exact ⟨set_loc hw, rfl⟩
  | pick d c a b =>
    simp only [evOp] at h ⊢
    rw [r1 (x := c) (by simp +contextual [IOp.reads]), r1 (x := a) (by simp +contextual [IOp.reads]), r1 (x := b) (by simp +contextual [IOp.reads])]
    exact ⟨pick_loc h hw, rfl⟩
  | alloc d zs =>
    exact ⟨mkO_loc (st := st) (wr0 := []) h (hw _ (by simp [fpOp])) (by simp) (fun _ _ => rfl), rfl⟩
  | box d x n =>
    simp only [evOp] at h ⊢
    rw [r1 (x := x) fun i hi => hi]
    refine ⟨?_, rfl⟩
    unfold boxK at h ⊢
    split at h
    · rename_i hh
      simp only [hh, if_true]
      exact mkO_loc (st := st) (wr0 := []) h (hw _ (by simp [fpOp])) (by simp) (fun _ _ => rfl)
    · cases h
  | build d zs ps =>
    simp only [evOp] at h ⊢
    exact ⟨setM_loc h (buildCells_eq he) hw, rfl⟩
  | bslice d e sz ps =>
    simp only [evOp, fpOp] at h hrd hw ⊢
    cases hs : solidRows st.hp st.env sz ps with
    | none =>
      rw [hs] at h
      rw [tightR_none] at h; cases h
    | some q =>
      obtain ⟨rows, is⟩ := q
      rw [hs] at h hrd hw
      rw [solidRows_eq hs he hrd]
      obtain ⟨rows', k1, _⟩ := tightR_some (lo := lo) (xs := ps) (rows := rows) (is := is)
      rw [k1] at h ⊢
      exact ⟨bslice_loc h hw, rfl⟩
  | load d a n ag =>
    simp only [evOp, fpOp] at h hrd hw ⊢
    rw [r1 (x := a) fun i hi => hi]
    exact ⟨setM_loc h (loadL_eq hrd) hw, rfl⟩
  | store a x n =>
    simp only [evOp, fpOp] at h hrd hw ⊢
    rw [r1 (x := a) (by simp +contextual [IOp.reads]), r1 (x := x) (by simp +contextual [IOp.reads])]
    have k := storeQ_loc h rfl hw
    exact ⟨k.1, by rw [k.2]⟩
  | nchk d x =>
    simp only [evOp] at h ⊢
    exact ⟨setM_loc h (by rw [r1 (x := x) fun i hi => hi]) hw, rfl⟩
  | bin d bt op x y =>
    simp only [evOp] at h ⊢
    exact ⟨setV_loc h (by rw [r1 (x := x) (by simp +contextual [IOp.reads]), r1 (x := y) (by simp +contextual [IOp.reads])]) hw, rfl⟩
  | eqs d neg ks x y =>
    simp only [evOp] at h ⊢
    exact ⟨setV_loc h (by rw [r1 (x := x) (by simp +contextual [IOp.reads]), r1 (x := y) (by simp +contextual [IOp.reads])]) hw, rfl⟩
  | un d op x =>
    simp only [evOp] at h ⊢
    exact ⟨setV_loc h (by rw [r1 (x := x) fun i hi => hi]) hw, rfl⟩
  | conv d k x =>
    simp only [evOp] at h ⊢
    exact ⟨setV_loc h (by rw [r1 (x := x) fun i hi => hi]) hw, rfl⟩
  | fld d x off n ag =>
    simp only [evOp] at h ⊢
    exact ⟨setM_loc h (by rw [r1 (x := x) fun i hi => hi]) hw, rfl⟩
  | faddr d a off =>
    simp only [evOp] at h ⊢
    exact ⟨setM_loc h (by rw [r1 (x := a) fun i hi => hi]) hw, rfl⟩
  | iaddr d x j sz =>
    simp only [evOp, fpOp] at h hrd hw ⊢
    rw [r1 (x := x) (by simp +contextual [IOp.reads])]
    exact ⟨setM_loc h (by rw [r1 (x := j) (by simp +contextual [IOp.reads])]; exact iaddrL_eq hrd) hw, rfl⟩
  | aaddr d x j len sz =>
    simp only [evOp] at h ⊢
    exact ⟨setM_loc h (by rw [r1 (x := x) (by simp +contextual [IOp.reads]), r1 (x := j) (by simp +contextual [IOp.reads])]) hw, rfl⟩
  | ixa d x j len sz ag =>
    simp only [evOp] at h ⊢
    exact ⟨setM_loc h (by rw [r1 (x := x) (by simp +contextual [IOp.reads]), r1 (x := j) (by simp +contextual [IOp.reads])]) hw, rfl⟩
  | ixs d x j =>
    simp only [evOp] at h ⊢
    exact ⟨setM_loc h (by rw [r1 (x := x) (by simp +contextual [IOp.reads]), r1 (x := j) (by simp +contextual [IOp.reads])]) hw, rfl⟩
  | slice d x l u m te sz =>
    simp only [evOp, fpOp] at h hrd hw ⊢
    rw [r1 (x := x) (by simp +contextual [IOp.reads])]
    exact ⟨setM_loc h (sliceL_eq (fun i hi => he i (by simp [IOp.reads, hi])) (fun i hi => he i (by simp [IOp.reads, hi])) (fun i hi => he i (by simp [IOp.reads, hi])) hrd) hw, rfl⟩
  | len d z x =>
    simp only [evOp] at h ⊢
    exact ⟨setV_loc h (by rw [r1 (x := x) fun i hi => hi]) hw, rfl⟩
  | cap d x =>
    simp only [evOp] at h ⊢
    exact ⟨setV_loc h (by rw [r1 (x := x) fun i hi => hi]) hw, rfl⟩
  | append d x y e sz bytes =>
    simp only [evOp, fpOp] at h hrd hw ⊢
    rw [r1 (x := x) (by simp +contextual [IOp.reads]), r1 (x := y) (by simp +contextual [IOp.reads])]
    exact ⟨app_loc h (rowsOf_eq fun i hi => hrd i (by simp [hi])) rfl hw, rfl⟩
  | copy d x y sz =>
    simp only [evOp, fpOp] at h hrd hw ⊢
    rw [r1 (x := x) (by simp +contextual [IOp.reads]), r1 (x := y) (by simp +contextual [IOp.reads])]
    exact ⟨copy_loc h (rowsOf_eq fun i hi => hrd i (by simp [hi])) rfl hw, rfl⟩
  | b2s d x =>
    simp only [evOp, fpOp] at h hrd hw ⊢
    rw [r1 (x := x) fun i hi => hi]
    exact ⟨setV_loc h (by rw [rowsB_eq hrd]) hw, rfl⟩
  | ext d x j =>
    simp only [evOp] at h ⊢
    exact ⟨setM_loc h (by rw [r1 (x := x) fun i hi => hi]) hw, rfl⟩
  | mkfn d f cs =>
    simp only [evOp, Option.some.injEq] at h ⊢
    subst h
    rw [r2 (xs := cs) fun i hi => hi]
    exact ⟨set_loc hw, rfl⟩
  | call d f args =>
    simp only [evOp, fpOp] at h hrd hw ⊢
    rw [r1 (x := f) (by simp +contextual [IOp.reads]), r2 (xs := args) (by simp +contextual [IOp.reads])]
    exact callF_loc h hrd hw
  | mn d args =>
    simp only [evOp] at h ⊢
    exact ⟨setM_loc h (by rw [r2 (xs := args) fun i hi => hi]) hw, rfl⟩
  | mx d args =>
    simp only [evOp] at h ⊢
    exact ⟨setM_loc h (by rw [r2 (xs := args) fun i hi => hi]) hw, rfl⟩
  | mkslice d l c e z bytes =>
    simp only [evOp, fpOp] at h hrd hw ⊢
    rw [r1 (x := l) (by simp +contextual [IOp.reads]), r1 (x := c) (by simp +contextual [IOp.reads])]
    exact ⟨mks_loc h hw, trivial⟩
  | isnil d neg ptr x =>
    simp only [evOp] at h ⊢
    exact ⟨setV_loc h (by rw [r1 (x := x) fun i hi => hi]) hw, rfl⟩
  | appz d x n e z bytes =>
    simp only [evOp, fpOp] at h hrd hw ⊢
    rw [r1 (x := x) (by simp +contextual [IOp.reads]), r1 (x := n) (by simp +contextual [IOp.reads])]
    exact ⟨appz_loc h hw, trivial⟩
  | mkmap d kag vag =>
    exact ⟨mkO_loc (st := st) (wr0 := []) h (hw _ (by simp [fpOp])) (by simp) (fun _ _ => rfl), rfl⟩
  | mget d ks kag vag zs cok m k =>
    simp only [evOp, fpOp] at h hrd hw ⊢
    rw [r1 (x := m) (by simp +contextual [IOp.reads]), r1 (x := k) (by simp +contextual [IOp.reads])]
    exact ⟨setM_loc h (mgetL_eq hrd) hw, rfl⟩
  | mupd ks kag vag n m k v =>
    simp only [evOp, fpOp] at h hrd hw ⊢
    rw [r1 (x := m) (by simp +contextual [IOp.reads]), r1 (x := k) (by simp +contextual [IOp.reads]), r1 (x := v) (by simp +contextual [IOp.reads])]
    cases hs : solidO st.hp (oneOf vag (v.rd st.env)) with
    | none =>
      rw [hs] at h
      unfold mupdL at h
      split at h
      · unfold mupdO at h
        split at h
        · cases ‹(none : Option (List TV × List Nat)) = some _›
        · cases h
      · cases h
    | some q =>
      obtain ⟨vc, is⟩ := q
      rw [hs] at h hw
      have hm : ∃ id, m.rd st.env = .m id := by
        unfold mupdL at h
        split at h
        · exact ⟨_, by assumption⟩
        · cases h
      obtain ⟨id, hid⟩ := hm
      have his : ∀ i ∈ is, st'.hp i = st.hp i := fun i hi => hw i (by rw [hid]; simp [fpM, fpS, hi])
      rw [solidO_eq hs his]
      exact ⟨mupd_loc h rfl hw, rfl⟩
  | mdel ks kag m k =>
    simp only [evOp, fpOp] at h hrd hw ⊢
    rw [r1 (x := m) (by simp +contextual [IOp.reads]), r1 (x := k) (by simp +contextual [IOp.reads])]
    exact ⟨mdel_loc h rfl hw, rfl⟩
  | mlen d m =>
    simp only [evOp, fpOp] at h hrd hw ⊢
    rw [r1 (x := m) fun i hi => hi]
    exact ⟨setV_loc h (by rw [mlenL_eq hrd]) hw, rfl⟩
  | bad => cases h
end
end Go.Proofs.Ytfhijlhiifkkhaa.Sx
namespace Go.Proofs.Ytfhijlhiifkkhaa.Sx
open Go Go.RowKit

section
variable {C : Cs} {lo : Nat} {st st' st1 : St}

theorem loc_oper {o : IOper} (hi : o.op.inn = false) (h : evOper C lo st o = some st1) (he : ∀ i ∈ o.reads, st'.env i = st.env i) (hrd : ∀ i ∈ (fpOper C lo st o).rd, st'.hp i = st.hp i) (hw : ∀ i ∈ (fpOper C lo st o).wr, st'.hp i = st.hp i) :
    evOper C lo st' o = some (patch st' st1 o.op.dst (fpOper C lo st o).wr) ∧ fpOper C lo st' o = fpOper C lo st o := by
  have hskip : ∀ {d : Option Nat}, skipK st d = some st1 → skipK st' d = some (patch st' st1 d []) := fun {d} h => by
    cases d with
    | none =>
      obtain rfl := Option.some.inj h
      refine congrArg some (St.ext' (fun i => ?_) fun i => ?_)
      · simp [patch]
      · simp [patch, patchH]
    | some d =>
      obtain rfl := Option.some.inj h
      exact congrArg some (set_loc (by simp))
  obtain ⟨op, gd⟩ := o
  cases gd with
  | none => exact loc_op hi h he hrd hw
  | some gd =>
    obtain ⟨j, want⟩ := gd
    simp only [evOper, fpOper] at h hrd hw ⊢
    rw [he j (by simp [IOper.reads])]
    have he' : ∀ i ∈ op.reads, st'.env i = st.env i := fun i hi => he i (by simp [IOper.reads, hi])
    unfold guardK at h ⊢
    split at h
    · rename_i b hb
      rw [hb] at hrd hw ⊢
      simp only [fpG] at hrd hw ⊢
      split at h
      · rename_i e
        simp only [e, if_true] at hrd hw ⊢
        exact loc_op hi h he' hrd hw
      · rename_i e
        simp only [e, if_false] at hrd hw ⊢
        exact ⟨hskip h, trivial⟩
    · rename_i hb
      rw [hb] at hrd hw ⊢
      exact ⟨hskip h, rfl⟩
    · cases h

theorem meets_false : ∀ {a b : List Nat}, meets a b = false → ∀ i ∈ a, i ∉ b
  | [], _, _, i, hi => by simp at hi
  | x :: a, b, h, i, hi => by
    simp only [meets, Bool.or_eq_false_iff] at h
    rcases List.mem_cons.1 hi with rfl | hi
    · simpa using h.1
    · exact meets_false h.2 i hi
theorem apart_ok {a b : Fp} (h : apart a b = true) : (∀ i ∈ a.wr, i ∉ b.rd) ∧ (∀ i ∈ a.wr, i ∉ b.wr) ∧ (∀ i ∈ b.wr, i ∉ a.rd) := by
  simp only [apart, Bool.and_eq_true, Bool.not_eq_true'] at h
  exact ⟨meets_false h.1.1, meets_false h.1.2, meets_false h.2⟩
theorem free2_ok {a b : IOper} (h : free2 a b = true) {d : Nat} (hd : a.op.dst = some d) : d ∉ b.reads ∧ b.op.dst ≠ some d := by
  unfold free2 at h
  rw [hd] at h
  simp only [Bool.and_eq_true, Bool.not_eq_true', bne_iff_ne] at h
  exact ⟨by simpa using h.2.1, h.2.2⟩
theorem free2_inn {a b : IOper} (h : free2 a b = true) : a.op.inn = false := by
  unfold free2 at h
  simp only [Bool.and_eq_true, Bool.not_eq_true'] at h
  exact h.1

theorem swap {p q : IOper} {s1 s2 : St} (hp : evOper C lo st p = some s1) (hq : evOper C lo s1 q = some s2) (ha : apart (fpOper C lo st p) (fpOper C lo s1 q) = true) (h1 : free2 p q = true) (h2 : free2 q p = true) :
    ∃ t1, evOper C lo st q = some t1 ∧ fpOper C lo st q = fpOper C lo s1 q ∧ evOper C lo t1 p = some s2 ∧ fpOper C lo t1 p = fpOper C lo st p := by
  obtain ⟨a1, a2, a3⟩ := apart_ok ha
  have hpp := (loc_oper (st' := st) (free2_inn h1) hp (fun _ _ => rfl) (fun _ _ => rfl) (fun _ _ => rfl)).1
  have es1 : s1 = patch st s1 p.op.dst (fpOper C lo st p).wr := Option.some.inj (hp.symm.trans hpp)
  have s1e : ∀ i, p.op.dst ≠ some i → s1.env i = st.env i := fun i hi => by rw [es1]; simp [patch, hi]
  have s1h : ∀ i, i ∉ (fpOper C lo st p).wr → s1.hp i = st.hp i := fun i hi => by rw [es1]; simp [patch, patchH, hi]
  obtain ⟨b1, b2⟩ := loc_oper (st' := st) (free2_inn h2) hq (fun i hi => (s1e i fun e => (free2_ok h1 e).1 hi).symm) (fun i hi => (s1h i fun hm => a1 i hm hi).symm) (fun i hi => (s1h i fun hm => a2 i hm hi).symm)
  have hqq := (loc_oper (st' := s1) (free2_inn h2) hq (fun _ _ => rfl) (fun _ _ => rfl) (fun _ _ => rfl)).1
  have es2 : s2 = patch s1 s2 q.op.dst (fpOper C lo s1 q).wr := Option.some.inj (hq.symm.trans hqq)
  obtain ⟨c1, c2⟩ := loc_oper (st' := patch st s2 q.op.dst (fpOper C lo s1 q).wr) (free2_inn h1) hp (fun i hi => by
    show (if q.op.dst = some i then s2.env i else st.env i) = st.env i
    rw [if_neg fun e => (free2_ok h2 e).1 hi]) (fun i hi => by
    show patchH st.hp s2.hp _ i = st.hp i
    simp only [patchH]
    rw [if_neg fun e => a3 i e hi]) (fun i hi => by
    show patchH st.hp s2.hp _ i = st.hp i
    simp only [patchH]
    rw [if_neg fun e => a2 i hi e])
  refine ⟨_, b1, b2, ?_, c2⟩
  rw [c1]
  refine congrArg some (St.ext' (fun i => ?_) fun i => ?_)
  · have e2 : s2.env i = if q.op.dst = some i then s2.env i else s1.env i := congrFun (congrArg St.env es2) i
    show (if p.op.dst = some i then s1.env i else if q.op.dst = some i then s2.env i else st.env i) = s2.env i
    by_cases hd : p.op.dst = some i
    · rw [if_pos hd, e2, if_neg (free2_ok h1 hd).2]
    · rw [if_neg hd]
      split
      · rfl
      · rename_i hq'
        rw [e2, if_neg hq', s1e i hd]
  · have e2 : s2.hp i = if i ∈ (fpOper C lo s1 q).wr then s2.hp i else s1.hp i := congrFun (congrArg St.hp es2) i
    show (if i ∈ (fpOper C lo st p).wr then s1.hp i else if i ∈ (fpOper C lo s1 q).wr then s2.hp i else st.hp i) = s2.hp i
    by_cases hd : i ∈ (fpOper C lo st p).wr
    · rw [if_pos hd, e2, if_neg (a2 i hd)]
    · rw [if_neg hd]
      split
      · rfl
      · rename_i hq'
        rw [e2, if_neg hq', s1h i hd]

structure Item where
  k : Nat
  o : IOper
  f : Fp
def Runs (C : Cs) (lo : Nat) : List Item → St → St → Prop
  | [], st, st' => st = st'
  | x :: r, st, st' => ∃ s1, evOper C lo st x.o = some s1 ∧ fpOper C lo st x.o = x.f ∧ Runs C lo r s1 st'
/-- x stands ahead of y: y waits for x, or they are apart -/
def Ind (ord : List Nat) (x y : Item) : Prop := (ord.getD y.k 0).testBit x.k = true ∨ (apart x.f y.f = true ∧ free2 x.o y.o = true ∧ free2 y.o x.o = true)

theorem bubble {x : Item} {post : List Item} : ∀ {pre : List Item} {st st' : St}, Runs C lo (pre ++ x :: post) st st' → (∀ y ∈ pre, apart y.f x.f = true ∧ free2 y.o x.o = true ∧ free2 x.o y.o = true) → Runs C lo (x :: (pre ++ post)) st st'
  | [], st, st', h, _ => h
  | y :: pre, st, st', h, ha => by
    obtain ⟨s1, h1, h2, h3⟩ := h
    obtain ⟨s2, g1, g2, g3⟩ := bubble h3 fun z hz => ha z (by simp [hz])
    obtain ⟨k1, k2, k3⟩ := ha y (by simp)
    obtain ⟨t1, e1, e2, e3, e4⟩ := swap h1 g1 (by rw [h2, g2]; exact k1) k2 k3
    exact ⟨t1, e1, e2.trans g2, s2, e3, e4.trans h2, g3⟩

def SchedOk (ord : List Nat) : List Nat → List Item → Prop
  | [], M => M = []
  | i :: s, M => ∃ pre x post, M = pre ++ x :: post ∧ x.k = i ∧ (∀ y ∈ pre, (ord.getD i 0).testBit y.k = false) ∧ SchedOk ord s (pre ++ post)

theorem sched_idx {ord : List Nat} {ios : List IOper} : ∀ {s : List Nat} {M : List Item} {st st' : St}, SchedOk ord s M → Runs C lo M st st' → M.Pairwise (Ind ord) → (∀ x ∈ M, ios[x.k]? = some x.o) → evIdx C lo ios s st = some st'
  | [], M, st, st', hs, hr, _, _ => by
    have e : M = [] := hs
    subst e
    have e : st = st' := hr
    rw [e]; rfl
  | i :: s, M, st, st', hs, hr, hp, hi => by
    obtain ⟨pre, x, post, rfl, rfl, h1, h2⟩ := hs
    have hind : ∀ y ∈ pre, Ind ord y x := fun y hy => (List.pairwise_append.1 hp).2.2 y hy x (by simp)
    obtain ⟨s1, g1, _, g3⟩ := bubble hr fun y hy => by
      rcases hind y hy with h | h
      · rw [h1 y hy] at h; cases h
      · exact h
    simp only [evIdx, hi x (by simp), g1]
    refine sched_idx h2 g3 ?_ fun y hy => hi y (by rcases List.mem_append.1 hy with h | h <;> simp [h])
    have hsub : (pre ++ post).Sublist (pre ++ x :: post) := List.Sublist.append (List.Sublist.refl _) (List.sublist_cons_self _ _)
    exact hp.sublist hsub

theorem apartAll_ok {f : Fp} {o : Nat} : ∀ {fs : List (Nat × Fp)}, apartAll f o fs = true → ∀ x ∈ fs, o.testBit x.1 = true ∨ apart x.2 f = true
  | [], _, x, hx => by simp at hx
  | (i, g) :: fs, h, x, hx => by
    simp only [apartAll, Bool.and_eq_true, Bool.or_eq_true] at h
    rcases List.mem_cons.1 hx with rfl | hx
    · exact h.1
    · exact apartAll_ok h.2 x hx
def Fp.none (f : Fp) : Prop := f.rd = [] ∧ f.wr = []
theorem meets_nil : ∀ a : List Nat, meets a [] = false
  | [] => rfl
  | x :: a => by simp [meets, meets_nil a]
theorem apart_left {f g : Fp} (h : f.none) : apart f g = true := by
  obtain ⟨a, b⟩ := f
  obtain ⟨h1, h2⟩ := h
  simp only at h1 h2
  subst h1 h2
  simp [apart, meets, meets_nil]
theorem apart_right {f g : Fp} (h : g.none) : apart f g = true := by
  obtain ⟨a, b⟩ := g
  obtain ⟨h1, h2⟩ := h
  simp only at h1 h2
  subst h1 h2
  simp [apart, meets, meets_nil]
/-- what is known behind a step -/
theorem stepD_ok {fs : List (Nat × Fp)} {i n : Nat} {k : List (Nat × Fp) → Option St → Option St} {x : Option St} {f : Fp} {r : St} (h : stepD fs i n k x f = some r) :
    ∃ fs', k fs' x = some r ∧ (f.none ∨ (i, f) ∈ fs') ∧ (∀ y ∈ fs, y ∈ fs') ∧ ∀ y ∈ fs, n.testBit y.1 = true ∨ apart y.2 f = true := by
  obtain ⟨a, b⟩ := f
  cases a with
  | nil => cases b with
    | nil => exact ⟨fs, h, .inl ⟨rfl, rfl⟩, fun _ h => h, fun y _ => .inr (apart_right ⟨rfl, rfl⟩)⟩
    | cons b w =>
      simp only [stepD, stepE] at h
      split at h
      · rename_i hh
        exact ⟨_, h, .inr (by simp), fun _ h => by simp [h], fun y hy => apartAll_ok hh y hy⟩
      · cases h
  | cons a r' =>
    simp only [stepD, stepE] at h
    split at h
    · rename_i hh
      exact ⟨_, h, .inr (by simp), fun _ h => by simp [h], fun y hy => apartAll_ok hh y hy⟩
    · cases h
theorem freeAll_ok {s : Nat} {o : IOper} : ∀ {ps : List IOper} {i : Nat}, freeAll s o i ps = true → ∀ j p, ps[j]? = some p → s.testBit (i + j) = true ∨ (free2 p o = true ∧ free2 o p = true)
  | [], _, _, j, g, hj => by simp at hj
  | x :: ps, i, h, 0, p, hj => by
    simp only [freeAll, Bool.and_eq_true, Bool.or_eq_true] at h
    simp only [List.getElem?_cons_zero, Option.some.injEq] at hj
    subst hj
    exact h.1
  | x :: ps, i, h, j + 1, p, hj => by
    simp only [freeAll, Bool.and_eq_true] at h
    have := freeAll_ok h.2 j p (by simpa using hj)
    rwa [show i + (j + 1) = i + 1 + j by omega]

theorem draw_runs {ord : List Nat} : ∀ {ios : List IOper} {os : List Oper} {k : Nat} {L : List Item} {fs : List (Nat × Fp)} {st st' : St}, evOpsD C lo ios (ord.drop k) k fs (some st) = some st' → drawOk ord k (L.map (·.o)) os ios = true →
    (∀ (i : Nat) (x : Item), L[i]? = some x → x.k = i) → L.length = k → (∀ x ∈ L, x.f.none ∨ (x.k, x.f) ∈ fs) →
    ∃ M : List Item, M.map (·.o) = ios ∧ (∀ (i : Nat) (x : Item), M[i]? = some x → x.k = k + i) ∧ Runs C lo M st st' ∧ (∀ x ∈ L, ∀ y ∈ M, Ind ord x y) ∧ M.Pairwise (Ind ord)
  | [], os, k, L, fs, st, st', h, hd, hL, hk, hfs => by
    have e : st = st' := Option.some.inj h
    exact ⟨[], rfl, by simp, e, by simp, List.Pairwise.nil⟩
  | o :: ios, [], k, L, fs, st, st', h, hd, hL, hk, hfs => by simp [drawOk] at hd
  | o :: ios, oo :: os, k, L, fs, st, st', h, hd, hL, hk, hfs => by
    cases hord : ord.drop k with
    | nil => rw [hord] at h; cases h
    | cons n rest =>
      have hn : ord.getD k 0 = n := by
        have : (ord.drop k)[0]? = some n := by rw [hord]; rfl
        rw [List.getElem?_drop] at this
        rw [List.getD_eq_getElem?_getD, show k = k + 0 by omega, this]; rfl
      have hrest : rest = ord.drop (k + 1) := by
        have : (ord.drop k).tail = rest := by rw [hord]; rfl
        rw [← this, List.tail_drop]
      rw [hord] at h
      simp only [evOpsD] at h
      obtain ⟨fs', h, hf1, hf2, hf3⟩ := stepD_ok h
      simp only [drawOk, Bool.and_eq_true] at hd
      obtain ⟨⟨_, hfree⟩, hd'⟩ := hd
      cases h1 : evOper C lo st o with
      | none => rw [h1] at h; cases ios <;> cases rest <;> cases h
      | some s1 =>
        rw [h1] at h
        rw [hrest] at h
        have hind : ∀ x ∈ L, Ind ord x ⟨k, o, fpOper C lo st o⟩ := fun x hx => by
          obtain ⟨j, hj⟩ := List.getElem?_of_mem hx
          have e := hL j x hj
          have hap : (ord.getD k 0).testBit x.k = true ∨ apart x.f (fpOper C lo st o) = true := by
            rcases hfs x hx with hz | hz
            · exact .inr (apart_left hz)
            · rw [hn]; exact hf3 _ hz
          rcases hap with h | h
          · exact .inl h
          · rcases freeAll_ok hfree j x.o (by simp [hj]) with h' | h'
            · left; simpa [e] using h'
            · exact .inr ⟨h, h'.1, h'.2⟩
        obtain ⟨M, m1, m2, m3, m4, m5⟩ := draw_runs (L := L ++ [⟨k, o, fpOper C lo st o⟩]) h (by simpa using hd') (fun i x hi => by
          by_cases hlt : i < L.length
          · rw [List.getElem?_append_left hlt] at hi; exact hL i x hi
          · rw [List.getElem?_append_right (by omega)] at hi
            have : i - L.length = 0 := by
              have := (List.getElem?_eq_some_iff.1 hi).1
              simp at this; omega
            rw [this] at hi
            simp only [List.getElem?_cons_zero, Option.some.injEq] at hi
            rw [← hi]
            show k = i
            omega) (by simp [hk]) (fun x hx => by
          rcases List.mem_append.1 hx with hx | hx
          · exact (hfs x hx).imp id (hf2 _)
          · simp only [List.mem_singleton] at hx
            subst hx
            exact hf1)
        refine ⟨⟨k, o, fpOper C lo st o⟩ :: M, by simp [m1], ?_, ⟨s1, h1, rfl, m3⟩, ?_, ?_⟩
        · intro i x hi
          cases i with
          | zero => simp only [List.getElem?_cons_zero, Option.some.injEq] at hi; rw [← hi]; rfl
          | succ i => rw [m2 i x (by simpa using hi)]; omega
        · intro x hx y hy
          rcases List.mem_cons.1 hy with rfl | hy
          · exact hind x hx
          · exact m4 x (by simp [hx]) y hy
        · exact List.Pairwise.cons (fun y hy => m4 _ (by simp) y hy) m5
end
end Go.Proofs.Ytfhijlhiifkkhaa.Sx
namespace Go.Proofs.Ytfhijlhiifkkhaa.Sx
open Go Go.RowKit

theorem bitsOk_ok {ws ord : List Nat} {s : Nat} : ∀ {n : Nat}, bitsOk ws ord s n = true → ∀ j < n, s.testBit j = true → j ∈ ws ∨ ∃ e ∈ ws, (ord.getD e 0).testBit j = true
  | 0, _, j, hj, _ => by omega
  | n + 1, h, j, hj, hb => by
    simp only [bitsOk, Bool.and_eq_true] at h
    by_cases e : j = n
    · subst e
      have h1 := h.1
      simp only [hb, Bool.not_true, Bool.false_or, Bool.or_eq_true] at h1
      rcases h1 with h1 | h1
      · exact .inl (by simpa using h1)
      · exact .inr (by simpa using h1)
    · exact bitsOk_ok h.2 j (by omega) hb

theorem drawOk_get {ord : List Nat} : ∀ {os : List Oper} {ios ahead : List IOper} {k : Nat}, drawOk ord k ahead os ios = true → os.length = ios.length ∧ ∀ (j : Nat) (o : Oper), os[j]? = some o →
    (∀ e ∈ waits o, e < k + j) ∧ ord.getD (k + j) 0 < 2 ^ (k + j) ∧ bitsOk (waits o) ord (ord.getD (k + j) 0) (k + j) = true
  | [], [], _, _, _ => ⟨rfl, by simp⟩
  | [], _ :: _, _, _, h => by simp [drawOk] at h
  | _ :: _, [], _, _, h => by simp [drawOk] at h
  | o :: os, i :: ios, ahead, k, h => by
    simp only [drawOk, Bool.and_eq_true] at h
    obtain ⟨⟨⟨⟨h1, h1'⟩, h2⟩, _⟩, h4⟩ := h
    obtain ⟨e, ih⟩ := drawOk_get h4
    refine ⟨by simp [e], fun j p hj => ?_⟩
    cases j with
    | zero =>
      simp only [List.getElem?_cons_zero, Option.some.injEq] at hj
      subst hj
      exact ⟨by simpa using h1, by simpa using h1', h2⟩
    | succ j =>
      have := ih j p (by simpa using hj)
      rwa [show k + 1 + j = k + (j + 1) by omega] at this

theorem testBit_lt {s k i : Nat} (h : s < 2 ^ k) (hb : s.testBit i = true) : i < k := by
  rcases Nat.lt_or_ge i k with h' | h'
  · exact h'
  · have : s < 2 ^ i := Nat.lt_of_lt_of_le h (Nat.pow_le_pow_right (by omega) h')
    rw [Nat.testBit_lt_two_pow this] at hb
    cases hb

theorem getD_set (xs : Array Bool) (i j : Nat) (b : Bool) (hi : i < xs.size) : (xs.setIfInBounds i true).getD j b = if j = i then true else xs.getD j b := by
  simp only [Array.getD_eq_getD_getElem?, Array.getElem?_setIfInBounds]
  by_cases h : i = j
  · subst h; simp [hi]
  · rw [if_neg h, if_neg fun e => h e.symm]

theorem waits_mem {o : Oper} {listed : Array Bool} : (o.after.all fun e => !Region.binds .any e || listed.getD e.on false) = true ↔ ∀ j ∈ waits o, listed.getD j false = true := by
  simp only [waits, List.mem_map, List.mem_filter, Array.all_eq_true', Bool.or_eq_true, Bool.not_eq_true', forall_exists_index, and_imp]
  constructor
  · intro h j e he hb hj
    rcases h e (by simpa using he) with h | h
    · rw [h] at hb; cases hb
    · rw [← hj]; exact h
  · intro h e he
    cases hb : Region.binds .any e with
    | false => exact .inl rfl
    | true => exact .inr (h e.on e (by simpa using he) hb rfl)

theorem go_ok {ops : Array Oper} {ord : List Nat} (hw : ∀ (j : Nat) (o : Oper), ops[j]? = some o → (∀ e ∈ waits o, e < j) ∧ ord.getD j 0 < 2 ^ j ∧ bitsOk (waits o) ord (ord.getD j 0) j = true) :
    ∀ (fuel t : Nat) (listed : Array Bool) (acc : List Nat) (M : List Item), listed.size = ops.size → (∀ j, (∃ x ∈ M, x.k = j) ↔ (j < ops.size ∧ listed.getD j true = false)) → M.Pairwise (fun x y => x.k < y.k) →
      (∀ j < ops.size, listed.getD j true = true → ∀ i, (ord.getD j 0).testBit i = true → listed.getD i true = true) → M.length ≤ fuel →
      ∃ s, Region.linearise.go .any ops fuel t listed acc = acc.reverse ++ s ∧ SchedOk ord s M
  | 0, t, listed, acc, M, _, _, _, _, hf => by
    have e : M = [] := List.eq_nil_of_length_eq_zero (by omega)
    subst e
    exact ⟨[], by simp [Region.linearise.go], rfl⟩
  | fuel + 1, t, listed, acc, M, hsz, hM, hp, hcl, hf => by
    simp only [Region.linearise.go]
    have hgd : ∀ j, j < ops.size → listed.getD j false = listed.getD j true := fun j hj => by
      simp [Array.getD_eq_getD_getElem?, hsz, hj]
    generalize hrs : ((List.range ops.size).filter fun i => !listed.getD i true && ((ops[i]?).map (·.after.all fun e => !Region.binds .any e || listed.getD e.on false)).getD false) = rs
    have hmem : ∀ i, i ∈ rs ↔ i < ops.size ∧ listed.getD i true = false ∧ ∃ o, ops[i]? = some o ∧ ∀ j ∈ waits o, listed.getD j false = true := by
      intro i
      rw [← hrs]
      simp only [List.mem_filter, List.mem_range, Bool.and_eq_true, Bool.not_eq_true']
      constructor
      · rintro ⟨h1, h2, h3⟩
        refine ⟨h1, h2, ops[i], by simp [h1], ?_⟩
        rw [show ops[i]? = some ops[i] by simp [h1]] at h3
        simpa using waits_mem.1 (by simpa using h3)
      · rintro ⟨h1, h2, o, h3, h4⟩
        refine ⟨h1, h2, ?_⟩
        rw [h3]
        simpa using waits_mem.2 h4
    cases M with
    | nil =>
      have : rs = [] := List.eq_nil_iff_forall_not_mem.2 fun i hi => by
        obtain ⟨h1, h2, _⟩ := (hmem i).1 hi
        obtain ⟨x, hx, _⟩ := (hM i).2 ⟨h1, h2⟩
        simp at hx
      rw [this]
      exact ⟨[], by simp, rfl⟩
    | cons x0 M' =>
      have hx0 := (hM x0.k).1 ⟨x0, by simp, rfl⟩
      have hmin : ∀ j < x0.k, listed.getD j true = true := fun j hj => by
        cases hl : listed.getD j true with
        | true => rfl
        | false =>
          obtain ⟨y, hy, e⟩ := (hM j).2 ⟨by omega, hl⟩
          rcases List.mem_cons.1 hy with rfl | hy
          · omega
          · have := (List.pairwise_cons.1 hp).1 y hy
            omega
      have hin : x0.k ∈ rs := (hmem _).2 ⟨hx0.1, hx0.2, ops[x0.k]'hx0.1, by simp [hx0.1], fun j hj => by
        have hlt := (hw x0.k _ (by simp [hx0.1])).1 j hj
        rw [hgd j (by omega)]
        exact hmin j hlt⟩
      have hpos : 0 < rs.length := List.length_pos_of_mem hin
      have hlt := Nat.mod_lt t hpos
      obtain ⟨i, hi⟩ : ∃ i, rs[t % rs.length]? = some i := ⟨_, List.getElem?_eq_getElem hlt⟩
      rw [hi]
      simp only
      obtain ⟨hi1, hi2, o, ho, hi3⟩ := (hmem i).1 (List.mem_of_getElem? hi)
      obtain ⟨x, hx, hxk⟩ := (hM i).2 ⟨hi1, hi2⟩
      obtain ⟨pre, post, hsp⟩ := List.append_of_mem hx
      obtain ⟨hwo, hwlt, hwb⟩ := hw i o ho
      have hbits : ∀ b, (ord.getD i 0).testBit b = true → listed.getD b true = true := fun b hb => by
        have hbl := testBit_lt hwlt hb
        rcases bitsOk_ok hwb b hbl hb with h | ⟨e, he, h⟩
        · rw [← hgd b (by omega)]; exact hi3 b h
        · have := hwo e he
          exact hcl e (by omega) (by rw [← hgd e (by omega)]; exact hi3 e he) b h
      rw [hsp] at hM hp hf
      have hpp := List.pairwise_append.1 hp
      have hpre : ∀ y ∈ pre, y.k < i := fun y hy => hxk ▸ hpp.2.2 y hy x (by simp)
      have hpost : ∀ y ∈ post, i < y.k := fun y hy => hxk ▸ (List.pairwise_cons.1 hpp.2.1).1 y hy
      have hset : ∀ j b, (listed.setIfInBounds i true).getD j b = if j = i then true else listed.getD j b := fun j b => getD_set listed i j b (by omega)
      obtain ⟨s, hs1, hs2⟩ := go_ok hw fuel (t / rs.length) (listed.setIfInBounds i true) (i :: acc) (pre ++ post) (by simp [hsz]) (fun j => by
        rw [hset]
        constructor
        · rintro ⟨y, hy, rfl⟩
          have hne : y.k ≠ i := by
            rcases List.mem_append.1 hy with h | h
            · exact Nat.ne_of_lt (hpre y h)
            · exact Nat.ne_of_gt (hpost y h)
          rw [if_neg hne]
          exact (hM y.k).1 ⟨y, by rcases List.mem_append.1 hy with h | h <;> simp [h], rfl⟩
        · rintro ⟨h1, h2⟩
          by_cases e : j = i
          · rw [if_pos e] at h2; cases h2
          · rw [if_neg e] at h2
            obtain ⟨y, hy, rfl⟩ := (hM j).2 ⟨h1, h2⟩
            refine ⟨y, ?_, rfl⟩
            rcases List.mem_append.1 hy with h | h
            · simp [h]
            · rcases List.mem_cons.1 h with rfl | h
              · exact absurd hxk e
              · simp [h]) (hp.sublist (List.Sublist.append (List.Sublist.refl _) (List.sublist_cons_self _ _))) (fun j hj hl b hb => by
        rw [hset] at hl ⊢
        split
        · rfl
        · by_cases e : j = i
          · subst e; exact hbits b hb
          · rw [if_neg e] at hl; exact hcl j hj hl b hb) (by
        simp only [List.length_append, List.length_cons] at hf ⊢; omega)
      refine ⟨i :: s, by rw [hs1]; simp, pre, x, post, hsp, hxk, fun y hy => ?_, hs2⟩
      cases hb : (ord.getD i 0).testBit y.k with
      | false => rfl
      | true =>
        have h1 := hbits _ hb
        have h2 := ((hM y.k).1 ⟨y, by simp [hy], rfl⟩).2
        rw [h1] at h2; cases h2

section
variable {C : Cs} {lo : Nat} {st st' : St}

theorem draw_idx {ops : Array Oper} {ios : List IOper} {ord : List Nat} (h : evOpsD C lo ios ord 0 [] (some st) = some st') (hd : drawOk ord 0 [] ops.toList ios = true) (t : Nat) :
    evIdx C lo ios (Region.schedule true ops t) st = some st' := by
  obtain ⟨M, m1, m2, m3, _, m5⟩ := draw_runs (L := []) (fs := []) (k := 0) (by simpa using h) (by simpa using hd) (by simp) rfl (by simp)
  obtain ⟨hlen, hget⟩ := drawOk_get hd
  have hML : M.length = ops.size := by rw [← List.length_map (f := Item.o), m1, ← hlen]; simp
  have hmem : ∀ x ∈ M, ∃ i : Nat, M[i]? = some x ∧ x.k = i := fun x hx => by
    obtain ⟨i, hi⟩ := List.getElem?_of_mem hx
    exact ⟨i, hi, by simpa using m2 i x hi⟩
  obtain ⟨s, hs1, hs2⟩ := go_ok (ops := ops) (ord := ord) (fun j o ho => by simpa using hget j o (by simpa using ho)) ops.size t (Array.replicate ops.size false) [] M (by simp) (fun j => by
    constructor
    · rintro ⟨x, hx, rfl⟩
      obtain ⟨i, hi, e⟩ := hmem x hx
      have := (List.getElem?_eq_some_iff.1 hi).1
      refine ⟨by omega, ?_⟩
      simp [Array.getD_eq_getD_getElem?, e, show i < ops.size by omega]
    · rintro ⟨h1, _⟩
      refine ⟨M[j]'(by omega), by simp, ?_⟩
      simpa using m2 j _ (List.getElem?_eq_getElem (by omega))) (by
    rw [List.pairwise_iff_getElem]
    intro i j hi hj hlt
    rw [show (M[i]).k = i by simpa using m2 i _ (List.getElem?_eq_getElem hi), show (M[j]).k = j by simpa using m2 j _ (List.getElem?_eq_getElem hj)]
    exact hlt) (fun j hj hl => by
    simp [Array.getD_eq_getD_getElem?, hj] at hl) (by omega)
  have e : Region.schedule true ops t = s := by
    simp only [Region.schedule, Bool.true_or, if_true, Region.linearise]
    rw [hs1]; rfl
  rw [e]
  refine sched_idx hs2 m3 m5 fun x hx => ?_
  obtain ⟨i, hi, e⟩ := hmem x hx
  rw [e, ← m1]
  simp [hi]
end
end Go.Proofs.Ytfhijlhiifkkhaa.Sx
namespace Go.Proofs.Ytfhijlhiifkkhaa.Sx
open Go Go.RowKit

theorem nodup_ok : ∀ {l : List Nat}, nodup l = true → l.Nodup
  | [], _ => List.nodup_nil
  | a :: r, h => by
    simp only [nodup, Bool.and_eq_true, Bool.not_eq_true'] at h
    exact List.nodup_cons.2 ⟨by simpa using h.1, nodup_ok h.2⟩

section
variable {N : Rm} {w0 : World} {ok0 : Nat → Prop} {ok : Nat → Prop} {a : Act} {w : World} {st : St} {ρ : Rho} {lo : Nat}

def keepRho (lo : Nat) (ρ : Rho) : List (Nat × Nat) → Rho
  | [] => fun n => if n < lo then ρ n else none
  | (a, b) :: r => upd (keepRho lo ρ r) (lo + b) (ρ (lo + a))

/-- old i is now n -/
def Now (lo : Nat) (j : List (Nat × Nat)) (h : Hp) (ρ : Rho) (r : List (Nat × Nat)) (i n : Nat) : Prop := keepHp lo j h r n = maskO lo j (h i) ∧ keepRho lo ρ r n = ρ i

theorem lk_list : ∀ {r : List (Nat × Nat)} {i n : Nat}, lk lo i r = some n → (i < lo ∧ n = i) ∨ ∃ x ∈ r, lo + x.1 = i ∧ lo + x.2 = n
  | [], i, n, h => by
    simp only [lk] at h
    split at h
    · exact .inl ⟨by assumption, (Option.some.inj h).symm⟩
    · cases h
  | (a, b) :: r, i, n, h => by
    simp only [lk] at h
    split at h
    · exact .inr ⟨(a, b), by simp, by assumption, Option.some.inj h⟩
    · rcases lk_list h with h | ⟨x, hx, h1⟩
      · exact .inl h
      · exact .inr ⟨x, by simp [hx], h1⟩
theorem keepLo_eq (j : List (Nat × Nat)) (h : Hp) (lo n : Nat) : keepLo j h lo n = if n < lo then maskO lo j (h n) else none := by
  cases lo with
  | zero => simp [keepLo, h0]
  | succ lo => rfl
theorem now_lo {j : List (Nat × Nat)} {h : Hp} : ∀ {r : List (Nat × Nat)} {i : Nat}, i < lo → Now lo j h ρ r i i
  | [], i, hi => ⟨by simp only [keepHp, keepLo_eq, hi, if_true], by simp [keepRho, hi]⟩
  | (a, b) :: r, i, hi => by
    have ih := now_lo (j := j) (h := h) (r := r) hi
    exact ⟨by simp only [keepHp]; rw [upd_ne _ _ (by omega)]; exact ih.1, by simp only [keepRho]; rw [upd_ne _ _ (by omega)]; exact ih.2⟩
theorem now_mem {j : List (Nat × Nat)} {h : Hp} : ∀ {r : List (Nat × Nat)}, (r.map (·.2)).Nodup → ∀ x ∈ r, Now lo j h ρ r (lo + x.1) (lo + x.2)
  | [], _, x, hx => by simp at hx
  | (a, b) :: r, hn, x, hx => by
    simp only [List.map_cons, List.nodup_cons] at hn
    rcases List.mem_cons.1 hx with rfl | hx
    · exact ⟨by simp only [keepHp, upd_same], by simp only [keepRho, upd_same]⟩
    · have ih := now_mem (j := j) (h := h) hn.2 x hx
      have hne : lo + x.2 ≠ lo + b := fun e => hn.1 (by rw [show b = x.2 by omega]; exact List.mem_map.2 ⟨x, hx, rfl⟩)
      exact ⟨by simp only [keepHp]; rw [upd_ne _ _ hne]; exact ih.1, by simp only [keepRho]; rw [upd_ne _ _ hne]; exact ih.2⟩
theorem now_lk {j : List (Nat × Nat)} (hj : (j.map (·.2)).Nodup) {h : Hp} {i n : Nat} (e : lk lo i j = some n) : Now lo j h ρ j i n := by
  rcases lk_list e with ⟨h1, rfl⟩ | ⟨x, hx, rfl, rfl⟩
  · exact now_lo h1
  · exact now_mem hj x hx
theorem now_inv {j : List (Nat × Nat)} {h : Hp} : ∀ {r : List (Nat × Nat)} {n : Nat} {o : Ob}, keepHp lo j h r n = some o → (n < lo ∧ Now lo j h ρ r n n) ∨ ∃ x ∈ r, lo + x.2 = n ∧ Now lo j h ρ r (lo + x.1) n
  | [], n, o, e => by
    simp only [keepHp, keepLo_eq] at e
    split at e
    · exact .inl ⟨by assumption, now_lo (by assumption)⟩
    · cases e
  | (a, b) :: r, n, o, e => by
    by_cases hn : n = lo + b
    · subst hn
      exact .inr ⟨(a, b), by simp, rfl, by simp only [keepHp, upd_same], by simp only [keepRho, upd_same]⟩
    · simp only [keepHp] at e
      rw [upd_ne _ _ hn] at e
      rcases now_inv e with ⟨h1, h2⟩ | ⟨x, hx, h1, h2⟩
      · exact .inl ⟨h1, by simp only [keepHp]; rw [upd_ne _ _ hn]; exact h2.1, by simp only [keepRho]; rw [upd_ne _ _ hn]; exact h2.2⟩
      · exact .inr ⟨x, by simp [hx], h1, by simp only [keepHp]; rw [upd_ne _ _ hn]; exact h2.1, by simp only [keepRho]; rw [upd_ne _ _ hn]; exact h2.2⟩
theorem lk_of_mem : ∀ {r : List (Nat × Nat)}, (r.map (·.1)).Nodup → ∀ x ∈ r, lk lo (lo + x.1) r = some (lo + x.2)
  | [], _, x, hx => by simp at hx
  | (a, b) :: r, hn, x, hx => by
    simp only [List.map_cons, List.nodup_cons] at hn
    rcases List.mem_cons.1 hx with rfl | hx
    · simp [lk]
    · have hne : lo + a ≠ lo + x.1 := fun e => hn.1 (by rw [show a = x.1 by omega]; exact List.mem_map.2 ⟨x, hx, rfl⟩)
      simp only [lk, hne, if_false]
      exact lk_of_mem hn.2 x hx
theorem lk_lo : ∀ {r : List (Nat × Nat)} {i : Nat}, i < lo → lk lo i r = some i
  | [], i, h => by simp [lk, h]
  | (a, b) :: r, i, h => by simp only [lk]; rw [if_neg (by omega)]; exact lk_lo h

/-- the relations, behind the renaming -/
structure Ren (lo : Nat) (j : List (Nat × Nat)) (h h' : Hp) (ρ ρ' : Rho) : Prop where
  at' : ∀ i n, lk lo i j = some n → h' n = maskO lo j (h i) ∧ ρ' n = ρ i

theorem maskC_ok {j : List (Nat × Nat)} {h h' : Hp} {ρ ρ' : Rho} (R : Ren lo j h h' ρ ρ') {l : LV} {x : Value} (hl : LRep w ok ρ h l x) : LRep w ok ρ' h' (maskC lo j l) x := by
  unfold maskC
  split
  · rename_i id off
    cases e : lk lo id j with
    | none => simp only [renP, LRep]
    | some n =>
      obtain ⟨h1, h2⟩ := R.at' _ _ e
      simp only [renP, LRep] at hl ⊢
      rw [h1]
      cases ho : h id with
      | none => rw [ho] at hl; exact hl.elim
      | some o =>
        rw [ho] at hl
        cases o with
        | var f cs => simp only [PRep] at hl; simp only [maskO, PRep]; rwa [h2]
        | arr f e sz rows => exact hl.elim
        | map f k v es => exact hl.elim
        | dead => exact hl
  · rename_i id r off
    cases e : lk lo id j with
    | none => simp only [renE, LRep]
    | some n =>
      obtain ⟨h1, h2⟩ := R.at' _ _ e
      simp only [renE, LRep] at hl ⊢
      rw [h1]
      cases ho : h id with
      | none => rw [ho] at hl; exact hl.elim
      | some o =>
        rw [ho] at hl
        cases o with
        | var f cs => exact hl.elim
        | arr f e sz rows => simp only [ERep] at hl; simp only [maskO, ERep]; rwa [h2]
        | map f k v es => exact hl.elim
        | dead => exact hl
  · rename_i id off len
    cases e : lk lo id j with
    | none => simp only [renS, LRep]
    | some n =>
      obtain ⟨h1, h2⟩ := R.at' _ _ e
      simp only [renS, LRep] at hl ⊢
      rw [h1]
      cases ho : h id with
      | none => rw [ho] at hl; exact hl.elim
      | some o =>
        rw [ho] at hl
        cases o with
        | var f cs => simp only [SRep] at hl; simp only [maskO, SRep]; rwa [h2]
        | arr f e sz rows => simp only [SRep] at hl; simp only [maskO, SRep]; rwa [h2]
        | map f k v es => exact hl.elim
        | dead => exact hl
  · rename_i id
    cases e : lk lo id j with
    | none => simp only [renM, LRep]
    | some n =>
      obtain ⟨h1, h2⟩ := R.at' _ _ e
      simp only [renM, LRep] at hl ⊢
      rw [h1]
      cases ho : h id with
      | none => rw [ho] at hl; exact hl.elim
      | some o =>
        rw [ho] at hl
        cases o with
        | var f cs => exact hl.elim
        | arr f e sz rows => exact hl.elim
        | map f k v es => simp only [MRep] at hl; simp only [maskO, MRep]; rwa [h2]
        | dead => exact hl
  · simp only [LRep] at hl ⊢; exact hl
  · simp only [LRep, LReps] at hl ⊢; exact hl
  · simp only [LRep]
theorem maskCs_length {j : List (Nat × Nat)} : ∀ ls : List LV, (maskCs lo j ls).length = ls.length
  | [] => rfl
  | _ :: ls => congrArg (· + 1) (maskCs_length ls)
theorem maskCs_ok {j : List (Nat × Nat)} {h h' : Hp} {ρ ρ' : Rho} (R : Ren lo j h h' ρ ρ') {one : Bool} : ∀ {ls : List LV} {xs : List Value}, LReps w ok ρ h one ls xs → LReps w ok ρ' h' one (maskCs lo j ls) xs
  | [], xs, hx => by simpa only [LReps, maskCs] using hx
  | l :: ls, xs, hx => by
    simp only [LReps, maskCs] at hx ⊢
    obtain ⟨v, r, h1, h2, h3, h4⟩ := hx
    exact ⟨v, r, h1, h2, maskC_ok R h3, maskCs_ok R h4⟩
theorem mask2_ok {j : List (Nat × Nat)} {h h' : Hp} {ρ ρ' : Rho} (R : Ren lo j h h' ρ ρ') {one : Bool} : ∀ {ls : List LV} {xs : List Value}, LReps w ok ρ h one ls xs → LReps w ok ρ' h' one (mask2 lo j ls) xs
  | [], xs, hx => by simpa only [LReps, mask2] using hx
  | l :: ls, xs, hx => by
    simp only [LReps] at hx
    obtain ⟨v, r, h1, h2, h3, h4⟩ := hx
    have ih := mask2_ok R h4
    unfold mask2
    split
    · rename_i e; cases e
    · rename_i cs ls' e
      obtain ⟨rfl, rfl⟩ := List.cons.inj e
      simp only [LRep] at h3
      obtain ⟨vs, k1, k2⟩ := h3
      simp only [LReps]
      exact ⟨v, r, h1, h2, by simp only [LRep]; exact ⟨vs, k1, maskCs_ok R k2⟩, ih⟩
    · rename_i c ls' _ e
      obtain ⟨rfl, rfl⟩ := List.cons.inj e
      simp only [LReps]
      exact ⟨v, r, h1, h2, maskC_ok R h3, ih⟩
theorem maskL_ok {j : List (Nat × Nat)} {h h' : Hp} {ρ ρ' : Rho} (R : Ren lo j h h' ρ ρ') {l : LV} {x : Value} (hl : LRep w ok ρ h l x) : LRep w ok ρ' h' (maskL lo j l) x := by
  unfold maskL
  split
  · simp only [LRep] at hl ⊢
    obtain ⟨vs, k1, k2⟩ := hl
    exact ⟨vs, k1, maskCs_ok R k2⟩
  · simp only [LRep] at hl ⊢
    obtain ⟨vs, k1, k2⟩ := hl
    exact ⟨vs, k1, maskCs_ok R k2⟩
  · simp only [LRep] at hl ⊢
    obtain ⟨vs, k1, k2⟩ := hl
    exact ⟨vs, k1, mask2_ok R k2⟩
  · exact maskC_ok R hl
theorem maskO_own {j : List (Nat × Nat)} {x : Option Ob} {o' : Ob} (h : maskO lo j x = some o') : ∃ o, x = some o ∧ o'.own = o.own ∧ o'.live = o.live := by
  unfold maskO at h
  split at h
  · obtain rfl := Option.some.inj h; exact ⟨_, rfl, rfl, rfl⟩
  · obtain rfl := Option.some.inj h; exact ⟨_, rfl, rfl, rfl⟩
  · obtain rfl := Option.some.inj h; exact ⟨_, rfl, rfl, rfl⟩
  · obtain rfl := Option.some.inj h; exact ⟨_, rfl, rfl, rfl⟩
  · cases h
theorem keepEnv_ok {j : List (Nat × Nat)} {e : Nat → LV} (k : Nat) : ∀ {ks : List Nat}, keepEnv lo j e ks k = .u ∨ keepEnv lo j e ks k = maskL lo j (e k)
  | [] => .inl rfl
  | s :: ks => by
    simp only [keepEnv]
    by_cases h : k = s
    · subst h; rw [upd_same]; exact .inr rfl
    · rw [upd_ne _ _ h]; exact keepEnv_ok k

theorem Gam.gc (g : Gam N w0 ok0 st ok ρ a w) {G : GC} (hG : G.ok = true) (hst : ∀ k, maskL lo G.ids (N.gh k).1 = (N.gh k).1) : Gam N w0 ok0 (G.run lo st) ok (keepRho lo ρ G.ids) a w := by
  simp only [GC.ok, Bool.and_eq_true] at hG
  have n1 := nodup_ok hG.1
  have n2 := nodup_ok hG.2
  have R : Ren lo G.ids st.hp (keepHp lo G.ids st.hp G.ids) ρ (keepRho lo ρ G.ids) := ⟨fun i n e => now_lk n2 e⟩
  have inv : ∀ n o', keepHp lo G.ids st.hp G.ids n = some o' → ∃ i o, st.hp i = some o ∧ maskO lo G.ids (some o) = some o' ∧ o'.own = o.own ∧ o'.live = o.live ∧ keepRho lo ρ G.ids n = ρ i ∧ lk lo i G.ids = some n := by
    intro n o' h
    have fin : ∀ i, Now lo G.ids st.hp ρ G.ids i n → lk lo i G.ids = some n → ∃ i o, st.hp i = some o ∧ maskO lo G.ids (some o) = some o' ∧ o'.own = o.own ∧ o'.live = o.live ∧ keepRho lo ρ G.ids n = ρ i ∧ lk lo i G.ids = some n := by
      intro i hn e
      have hm : maskO lo G.ids (st.hp i) = some o' := by rw [← hn.1]; exact h
      obtain ⟨o, ho, k1, k2⟩ := maskO_own hm
      exact ⟨i, o, ho, by rw [← ho]; exact hm, k1, k2, hn.2, e⟩
    rcases now_inv (ρ := ρ) h with ⟨h1, h2⟩ | ⟨x, hx, rfl, h2⟩
    · exact fin n h2 (lk_lo h1)
    · exact fin _ h2 (lk_of_mem n1 x hx)
  refine { below := g.below, old := g.old, size := g.size, defers := g.defers, free := ?_, inj := ?_, fresh := ?_, obj := ?_, env := fun k => ?_, kept := g.kept, gh := fun k => by
              have := maskL_ok (w := w) (ok := ok) R (g.gh k)
              rwa [hst k] at this, res := fun b o h => ⟨(g.res b o h).1, (g.res b o h).2.1, (g.res b o h).2.2.1, fun n p K hn hl hr => by
                obtain ⟨i, q, k1, _, k3, k4, k5, _⟩ := inv n p hn
                exact (g.res b o h).2.2.2 i q K k1 (by rw [← bars_eq k3 k4]; exact hl) (k5 ▸ hr)⟩ }
  · intro b hb
    refine ⟨(g.free b hb).1, fun n o' K ho hown => ?_⟩
    obtain ⟨i, o, k1, _, k3, _, k5, _⟩ := inv n o' ho
    rw [k5]
    exact (g.free b hb).2 i o K k1 (k3 ▸ hown)
  · intro n n' o o' b K K' hn hn' hl hl' hr hr'
    obtain ⟨i, p, k1, _, _, k4, k5, k6⟩ := inv n o hn
    obtain ⟨i', p', l1, _, _, l4, l5, l6⟩ := inv n' o' hn'
    have := g.inj i i' p p' b K K' k1 l1 (k4 ▸ hl) (l4 ▸ hl') (k5 ▸ hr) (l5 ▸ hr')
    subst this
    exact Option.some.inj (k6.symm.trans l6)
  · intro n o b K hn hl hr
    obtain ⟨i, p, k1, _, _, k4, k5, _⟩ := inv n o hn
    exact g.fresh i p b K k1 (k4 ▸ hl) (k5 ▸ hr)
  · intro n o' hn
    obtain ⟨i, p, k1, k2, _, _, k5, _⟩ := inv n o' hn
    have hob := g.obj i p k1
    cases p with
    | dead =>
      obtain rfl := Option.some.inj k2
      trivial
    | var f cs =>
      obtain rfl := Option.some.inj k2
      obtain ⟨b, K, cur, ty, h1, h2, h3, h4, h5⟩ := hob
      refine ⟨b, K, cur, ty, by rw [k5]; exact h1, h2, h3, ?_, ?_⟩
      · rw [maskCs_length]; exact h4
      · rw [maskCs_length]; exact maskCs_ok R h5
    | arr f e sz rows =>
      obtain rfl := Option.some.inj k2
      rcases hob with ⟨h1, h2⟩ | ⟨b, K, cur, h1, h2⟩
      · exact .inl ⟨by rw [k5]; exact h1, h2⟩
      · exact .inr ⟨b, K, cur, by rw [k5]; exact h1, h2⟩
    | map f kag vag ents =>
      obtain rfl := Option.some.inj k2
      obtain ⟨b, K, es, clock, h1, h2⟩ := hob
      exact ⟨b, K, es, clock, by rw [k5]; exact h1, h2⟩
  · rcases keepEnv_ok (lo := lo) (j := G.ids) (e := st.env) k (ks := G.slots) with h | h
    · show LRep w ok _ _ (keepEnv lo G.ids st.env G.slots k) _
      rw [h]; simp only [LRep]
    · show LRep w ok _ _ (keepEnv lo G.ids st.env G.slots k) _
      rw [h]; exact maskL_ok R (g.env k)
end
end Go.Proofs.Ytfhijlhiifkkhaa.Sx
namespace Go.Proofs.Ytfhijlhiifkkhaa.Sx
open Go Go.RowKit
section
variable {P : Program} {N : Rm} {w0 : World} {ok0 : Nat → Prop} {st : St} {ok : Nat → Prop} {ρ : Rho} {a : Act} {w : World}

def Rm.with (N : Rm) (b : Nat) (o : Obj) : Rm := { N with res := upd N.res b (some o) }
theorem with_at (N : Rm) (b : Nat) (o : Obj) : (N.with b o).res b = some o := upd_same _ _ _
theorem with_ne (N : Rm) {b c : Nat} (o : Obj) (h : c ≠ b) : (N.with b o).res c = N.res c := upd_ne _ _ h

/-- a new block, for nobody else -/
theorem Gam.reserve (g : Gam N w0 ok0 st ok ρ a w) (o : Obj) : Gam (N.with w.heap.size o) w0 ok0 st ok ρ a (w.alloc o) := by
  have g1 := g.world (below_alloc w o)
  refine { below := g1.below, old := g1.old, size := g1.size, defers := g1.defers, free := g1.free, inj := g1.inj, fresh := g1.fresh, obj := g1.obj, env := g1.env, kept := g1.kept, gh := g1.gh, res := fun b p h => ?_ }
  by_cases e : b = w.heap.size
  · subst e
    rw [with_at] at h
    obtain rfl := Option.some.inj h
    exact ⟨g.below.size, World.alloc_heap_new w _, fun _ ho => Nat.lt_irrefl _ (g.free _ ho).1, fun i q K hi hl hr => Nat.lt_irrefl _ (g.fresh i q _ K hi (bars_live hl) hr).2⟩
  · rw [with_ne _ _ e] at h
    exact g1.res b p h
/-- it is turned -/
theorem Gam.reput (g : Gam N w0 ok0 st ok ρ a w) {b : Nat} {o : Obj} (hb : N.res b = some o) (o' : Obj) (hw : watchO o = false := by rfl) : Gam (N.with b o') w0 ok0 st ok ρ a (w.putObj b o') := by
  obtain ⟨h1, h2, h3, h4⟩ := g.res b o hb
  have h3 := h3 hw
  have hlt : b < w.heap.size := (Array.getElem?_eq_some_iff.1 h2).1
  have hother : ∀ k, k ≠ b → (w.putObj b o').heap[k]? = w.heap[k]? := fun k hk => World.putObj_heap_other hk
  have hs : Same w (w.putObj b o') ok ok := fun k hk => ⟨hother k (fun e => h3 (e ▸ hk)), hk⟩
  have hl := Later.refl ρ st.hp
  refine { below := ?_, old := g.old, size := g.size, defers := g.defers, free := ?_, inj := g.inj, fresh := ?_, obj := ?_, env := fun k => (g.env k).to hs hl, kept := g.kept, gh := fun k => (g.gh k).to hs hl, res := ?_ }
  · exact g.below.trans ⟨rfl, rfl, rfl, by simp, fun k hk => hother k (by omega)⟩
  · intro c hc
    exact ⟨by simpa using (g.free c hc).1, (g.free c hc).2⟩
  · intro i p c K hi hl hr
    exact ⟨(g.fresh i p c K hi hl hr).1, by simpa using (g.fresh i p c K hi hl hr).2⟩
  · intro i p hi
    cases hlv : p.live with
    | false => cases p with
      | dead => trivial
      | var f cs => simp [Ob.live] at hlv
      | arr f e sz rows => simp [Ob.live] at hlv
      | map f k v es => simp [Ob.live] at hlv
    | true => exact (g.obj i p hi).to hs hl rfl fun c K hc => hother c fun e => by subst e; exact h4 i p K hi (bars_all hw hlv) hc
  · intro c p h
    by_cases e : c = b
    · subst e
      rw [with_at] at h
      obtain rfl := Option.some.inj h
      exact ⟨h1, World.putObj_heap_same hlt, fun _ => h3, fun i p K hi hl hr => h4 i p K hi (bars_all hw (bars_live hl)) hr⟩
    · rw [with_ne _ _ e] at h
      obtain ⟨k1, k2, k3, k4⟩ := g.res c p h
      exact ⟨k1, (hother c e).trans k2, k3, k4⟩

/-- held to less -/
theorem Gam.less (g : Gam N w0 ok0 st ok ρ a w) {M : Rm} (hn : M.n = N.n) (hd : M.ds = N.ds) (hK : ∀ s, M.K s = true → a.tmps.getD s undef = M.T s) (hg : ∀ k, LRep w ok ρ st.hp (M.gh k).1 (M.gh k).2) (hr : ∀ b o, M.res b = some o → N.res b = some o) : Gam M w0 ok0 st ok ρ a w :=
  { below := g.below, old := g.old, size := by rw [hn]; exact g.size, defers := by rw [hd]; exact g.defers, free := g.free, inj := g.inj, fresh := g.fresh, obj := g.obj, env := g.env, kept := hK, gh := hg, res := fun b o h => g.res b o (hr b o h) }
/-- in another frame -/
theorem Gam.frame (g : Gam N w0 ok0 st ok ρ a w) {M : Rm} {env : Nat → LV} {b : Act} (hn : b.tmps.size = M.n) (hd : b.defers = M.ds) (hK : ∀ s, M.K s = true → b.tmps.getD s undef = M.T s) (hg : ∀ k, LRep w ok ρ st.hp (M.gh k).1 (M.gh k).2)
    (he : ∀ k, LRep w ok ρ st.hp (env k) (b.tmps.getD k undef)) (hr : ∀ b o, M.res b = some o → N.res b = some o) : Gam M w0 ok0 ⟨env, st.hp⟩ ok ρ b w :=
  { below := g.below, old := g.old, size := hn, defers := hd, free := g.free, inj := g.inj, fresh := g.fresh, obj := g.obj, env := he, kept := hK, gh := hg, res := fun b o h => g.res b o (hr b o h) }
end

/-- the carried values behind the slots of a caller -/
def ghosts (env : Nat → LV) (a : Act) (gh : Nat → LV × Value) (k : Nat) : LV × Value := if k % 2 = 0 then (env (k / 2), a.tmps.getD (k / 2) undef) else gh (k / 2)
theorem ghosts_env (env : Nat → LV) (a : Act) (gh : Nat → LV × Value) (k : Nat) : ghosts env a gh (2 * k) = (env k, a.tmps.getD k undef) := by
  unfold ghosts
  rw [if_pos (by omega), show 2 * k / 2 = k by omega]
theorem ghosts_gh (env : Nat → LV) (a : Act) (gh : Nat → LV × Value) (k : Nat) : ghosts env a gh (2 * k + 1) = gh k := by
  unfold ghosts
  rw [if_neg (by omega), show (2 * k + 1) / 2 = k by omega]
theorem bindL_eq : ∀ (ls : List LV) (k i : Nat), bindL k ls i = if k ≤ i then (match ls[i - k]? with | some l => l | none => .u) else .u
  | [], k, i => by simp [bindL, e0]
  | l :: ls, k, i => by
    simp only [bindL, upd]
    by_cases e : i = k
    · subst e; simp
    · rw [if_neg e, bindL_eq ls (k + 1) i]
      by_cases hk : k ≤ i
      · rw [if_pos hk, if_pos (by omega), show i - k = (i - (k + 1)) + 1 by omega, List.getElem?_cons_succ]
      · rw [if_neg hk, if_neg (by omega)]

/-! ### marks -/
section
variable {P : Program} {w0 : World} {ok0 : Nat → Prop}
/-- the marks that ranges over functions leave, in blocks that N0 knows nothing of -/
def marksOk (N0 N : Rm) : List Deferred → Prop
  | [] => True
  | d :: ds => (∃ D, d = { target := .collected D, args := #[] } ∧ N0.res D = none ∧ N.res D = some (.deferred (some [])) ∧ ∀ d' ∈ ds, d' ≠ { target := .collected D, args := #[] }) ∧ marksOk N0 N ds
theorem marks_with {N0 N : Rm} {D : Nat} {o : Obj} : ∀ {ds : List Deferred}, marksOk N0 N ds → (∀ d ∈ ds, d ≠ { target := .collected D, args := #[] }) → marksOk N0 (N.with D o) ds
  | [], _, _ => trivial
  | d :: ds, h, hne => by
    obtain ⟨⟨E, rfl, h1, h2, h3⟩, h4⟩ := h
    refine ⟨⟨E, rfl, h1, ?_, h3⟩, marks_with h4 fun d hd => hne d (by simp [hd])⟩
    rw [with_ne]
    · exact h2
    · intro e; subst e; exact hne _ (by simp) rfl
theorem marks_up {N0 N N' : Rm} (hs : ∀ b o, N.res b = some o → N'.res b = some o) : ∀ {ds : List Deferred}, marksOk N0 N ds → marksOk N0 N' ds
  | [], _ => trivial
  | d :: ds, h => by
    obtain ⟨⟨E, rfl, h1, h2, h3⟩, h4⟩ := h
    exact ⟨⟨E, rfl, h1, hs _ _ h2, h3⟩, marks_up hs h4⟩
theorem marks_down {N0 N1 N : Rm} (hs : ∀ b, N1.res b = none → N0.res b = none) : ∀ {ds : List Deferred}, marksOk N1 N ds → marksOk N0 N ds
  | [], _ => trivial
  | d :: ds, h => by
    obtain ⟨⟨E, rfl, h1, h2, h3⟩, h4⟩ := h
    exact ⟨⟨E, rfl, hs _ h1, h2, h3⟩, marks_down hs h4⟩
theorem marks_some {N0 N : Rm} {D : Nat} : ∀ {ds : List Deferred}, marksOk N0 N ds → { target := .collected D, args := #[] } ∈ ds → N.res D = some (.deferred (some []))
  | [], _, hm => by simp at hm
  | d :: ds, h, hm => by
    obtain ⟨⟨E, rfl, h1, h2, h3⟩, h4⟩ := h
    rcases List.mem_cons.1 hm with e | hm
    · cases e; exact h2
    · exact marks_some h4 hm
theorem marks_append {N0 N : Rm} : ∀ {es bs : List Deferred}, marksOk N0 N es → marksOk N0 N bs → (∀ a ∈ es, a ∉ bs) → marksOk N0 N (es ++ bs)
  | [], _, _, hb, _ => hb
  | d :: ds, bs, h, hb, hd => by
    obtain ⟨⟨E, rfl, h1, h2, h3⟩, h4⟩ := h
    refine ⟨⟨E, rfl, h1, h2, fun d' hm => ?_⟩, marks_append h4 hb fun a ha => hd a (by simp [ha])⟩
    rcases List.mem_append.1 hm with hm | hm
    · exact h3 _ hm
    · intro e; subst e; exact hd _ (by simp) hm
theorem leaves_marks {fn : Func} {R : Ending → World → Prop} {N0 : Rm} : ∀ (ds : List Deferred) {N : Rm} {st : St} {ok : Nat → Prop} {ρ : Rho} {a : Act} {w : World}, Gam N w0 ok0 st ok ρ a w → marksOk N0 N ds → N.gh = N0.gh → (∀ b o, N0.res b = some o → N.res b = some o) →
    (∀ N' w', Gam N' w0 ok0 st ok ρ a w' → N'.gh = N0.gh → (∀ b o, N0.res b = some o → N'.res b = some o) → ∃ v, (results fn a.tmps).run P w' = .ok v w' ∧ R (.returned v) w') → LeavesInM (FR none) 0 P fn a.tmps R ds .returning w
  | [], N, st, ok, ρ, a, w, g, _, hgh, hs, hR => by
    obtain ⟨v, h1, h2⟩ := hR N w g hgh hs
    exact ⟨v, h1, h2⟩
  | d :: ds, N, st, ok, ρ, a, w, g, hm, hgh, hs, hR => by
    obtain ⟨⟨D, rfl, h1, h2, h3⟩, h4⟩ := hm
    refine ⟨by simp, .inl ⟨D, _, rfl, run_takeDeferred (g.res D _ h2).2.1, ?_⟩⟩
    refine leaves_marks ds (g.reput h2 (.deferred none)) (marks_with h4 h3) hgh (fun b o hb => ?_) hR
    rw [with_ne]
    · exact hs b o hb
    · intro e; subst e; rw [h1] at hb; cases hb
/-- a room behind: more is reserved, more marks -/
structure Ext (N N' : Rm) : Prop where
  n : N'.n = N.n
  K : N'.K = N.K
  T : N'.T = N.T
  gh : N'.gh = N.gh
  res : ∀ b o, N.res b = some o → N'.res b = some o
  ds : ∃ ms, N'.ds = ms ++ N.ds ∧ marksOk N N' ms
theorem Ext.refl (N : Rm) : Ext N N := ⟨rfl, rfl, rfl, rfl, fun _ _ h => h, [], rfl, trivial⟩
theorem Ext.trans {N N' N'' : Rm} (a : Ext N N') (b : Ext N' N'') : Ext N N'' := by
  obtain ⟨ms, h1, h2⟩ := a.ds
  obtain ⟨ms', k1, k2⟩ := b.ds
  refine ⟨b.n.trans a.n, b.K.trans a.K, b.T.trans a.T, b.gh.trans a.gh, fun x o h => b.res x o (a.res x o h), ms' ++ ms, by rw [k1, h1, List.append_assoc], ?_⟩
  have hd : ∀ x, N'.res x = none → N.res x = none := fun x h => by
    cases hx : N.res x with
    | none => rfl
    | some o => rw [a.res x o hx] at h; cases h
  refine marks_append (marks_down hd k2) (marks_up b.res h2) fun d hm hm' => ?_
  have : ∀ {ds : List Deferred}, marksOk N' N'' ds → d ∈ ds → ∃ D, d = { target := .collected D, args := #[] } ∧ N'.res D = none := by
    intro ds h hm
    induction ds with
    | nil => simp at hm
    | cons e ds ih =>
      obtain ⟨⟨E, rfl, q1, _⟩, q2⟩ := h
      rcases List.mem_cons.1 hm with rfl | hm
      · exact ⟨E, rfl, q1⟩
      · exact ih q2 hm
  obtain ⟨D, rfl, q⟩ := this k2 hm
  rw [marks_some h2 hm'] at q
  cases q
end
end Go.Proofs.Ytfhijlhiifkkhaa.Sx
namespace Go.Proofs.Ytfhijlhiifkkhaa.Sx
open Go Go.RowKit

theorem maskC_maskC {lo lo2 : Nat} {j j2 : List (Nat × Nat)} (h : ∀ i i', lk lo i j = some i' → lk lo2 i' j2 = some i') (l : LV) : maskC lo2 j2 (maskC lo j l) = maskC lo j l := by
  cases l with
  | p id off => simp only [maskC]; cases e : lk lo id j with
    | none => rfl
    | some i' => simp only [renP, h _ _ e]
  | pe id r off => simp only [maskC]; cases e : lk lo id j with
    | none => rfl
    | some i' => simp only [renE, h _ _ e]
  | s id off len => simp only [maskC]; cases e : lk lo id j with
    | none => rfl
    | some i' => simp only [renS, h _ _ e]
  | m id => simp only [maskC]; cases e : lk lo id j with
    | none => rfl
    | some i' => simp only [renM, h _ _ e]
  | tup cs => cases cs <;> rfl
  | _ => rfl
theorem maskCs_maskCs {lo lo2 : Nat} {j j2 : List (Nat × Nat)} (h : ∀ i i', lk lo i j = some i' → lk lo2 i' j2 = some i') : ∀ ls : List LV, maskCs lo2 j2 (maskCs lo j ls) = maskCs lo j ls
  | [] => rfl
  | l :: ls => by simp only [maskCs, maskC_maskC h, maskCs_maskCs h ls]
theorem maskC_agg {lo : Nat} {j : List (Nat × Nat)} (l : LV) : ∀ cs, maskC lo j l ≠ .agg cs := by
  intro cs
  cases l with
  | p id off => simp only [maskC]; cases lk lo id j <;> simp [renP]
  | pe id r off => simp only [maskC]; cases lk lo id j <;> simp [renE]
  | s id off len => simp only [maskC]; cases lk lo id j <;> simp [renS]
  | m id => simp only [maskC]; cases lk lo id j <;> simp [renM]
  | tup cs => cases cs <;> simp [maskC]
  | _ => simp [maskC]
theorem mask2_cons {lo : Nat} {j : List (Nat × Nat)} (l : LV) (ls : List LV) (h : ∀ cs, l ≠ .agg cs) : mask2 lo j (l :: ls) = maskC lo j l :: mask2 lo j ls := by
  cases l <;> first | rfl | exact absurd rfl (h _)
theorem mask2_mask2 {lo lo2 : Nat} {j j2 : List (Nat × Nat)} (h : ∀ i i', lk lo i j = some i' → lk lo2 i' j2 = some i') : ∀ ls : List LV, mask2 lo2 j2 (mask2 lo j ls) = mask2 lo j ls
  | [] => rfl
  | l :: ls => by
    by_cases ha : ∃ cs, l = .agg cs
    · obtain ⟨cs, rfl⟩ := ha
      simp only [mask2, maskCs_maskCs h, mask2_mask2 h ls]
    · rw [mask2_cons l ls fun cs e => ha ⟨cs, e⟩, mask2_cons _ _ (maskC_agg l), maskC_maskC h, mask2_mask2 h ls]
theorem maskL_plain {lo : Nat} {j : List (Nat × Nat)} {l : LV} (h1 : ∀ cs, l ≠ .agg cs) (h2 : ∀ f cs, l ≠ .fn f cs) (h3 : ∀ c cs, l ≠ .tup (c :: cs)) : maskL lo j l = maskC lo j l := by
  cases l with
  | agg cs => exact absurd rfl (h1 _)
  | fn f cs => exact absurd rfl (h2 _ _)
  | tup cs => cases cs with
    | nil => rfl
    | cons c cs => exact absurd rfl (h3 _ _)
  | _ => rfl
theorem maskC_fn {lo : Nat} {j : List (Nat × Nat)} (l : LV) : (∀ f cs, maskC lo j l ≠ .fn f cs) ∧ ∀ c cs, maskC lo j l ≠ .tup (c :: cs) := by
  cases l with
  | p id off => simp only [maskC]; cases lk lo id j <;> simp [renP]
  | pe id r off => simp only [maskC]; cases lk lo id j <;> simp [renE]
  | s id off len => simp only [maskC]; cases lk lo id j <;> simp [renS]
  | m id => simp only [maskC]; cases lk lo id j <;> simp [renM]
  | tup cs => cases cs <;> simp [maskC]
  | _ => simp [maskC]
theorem maskL_maskL {lo lo2 : Nat} {j j2 : List (Nat × Nat)} (h : ∀ i i', lk lo i j = some i' → lk lo2 i' j2 = some i') (l : LV) : maskL lo2 j2 (maskL lo j l) = maskL lo j l := by
  by_cases h1 : ∃ cs, l = .agg cs
  · obtain ⟨cs, rfl⟩ := h1; simp only [maskL, maskCs_maskCs h]
  by_cases h2 : ∃ f cs, l = .fn f cs
  · obtain ⟨f, cs, rfl⟩ := h2; simp only [maskL, maskCs_maskCs h]
  by_cases h3 : ∃ c cs, l = .tup (c :: cs)
  · obtain ⟨c, cs, rfl⟩ := h3
    have key : ∀ ls : List LV, maskL lo2 j2 (.tup (mask2 lo j ls)) = .tup (mask2 lo2 j2 (mask2 lo j ls)) := fun ls => by cases hm : mask2 lo j ls <;> rfl
    show maskL lo2 j2 (.tup (mask2 lo j (c :: cs))) = .tup (mask2 lo j (c :: cs))
    rw [key, mask2_mask2 h]
  rw [maskL_plain (fun cs e => h1 ⟨cs, e⟩) (fun f cs e => h2 ⟨f, cs, e⟩) (fun c cs e => h3 ⟨c, cs, e⟩), maskL_plain (maskC_agg l) (maskC_fn l).1 (maskC_fn l).2, maskC_maskC h]

theorem lk_cases {lo i i' : Nat} : ∀ {j : List (Nat × Nat)}, lk lo i j = some i' → (i' = i ∧ i < lo) ∨ ∃ q ∈ j, i = lo + q.1 ∧ i' = lo + q.2
  | [], h => by
    simp only [lk] at h
    split at h
    · exact .inl ⟨(Option.some.inj h).symm, by assumption⟩
    · cases h
  | (a, b) :: r, h => by
    simp only [lk] at h
    split at h
    · rename_i e
      exact .inr ⟨(a, b), by simp, e.symm, (Option.some.inj h).symm⟩
    · rcases lk_cases h with h | ⟨q, h1, h2⟩
      · exact .inl h
      · exact .inr ⟨q, by simp [h1], h2⟩
theorem lk_lower {lo i : Nat} (h : i < lo) : ∀ j : List (Nat × Nat), lk lo i j = some i
  | [] => by simp [lk, h]
  | (a, b) :: r => by simp only [lk]; rw [if_neg (by omega)]; exact lk_lower h r
theorem lk_diag {lo c : Nat} {r : List (Nat × Nat)} : ∀ {ks : List (Nat × Nat)}, (∀ q ∈ ks, q.1 = q.2) → (c, c) ∈ ks → lk lo (lo + c) (ks ++ r) = some (lo + c)
  | [], _, h => by simp at h
  | (a, b) :: ks, hd, h => by
    have hab : a = b := hd (a, b) (by simp)
    subst hab
    simp only [List.cons_append, lk]
    split
    · rename_i e; rw [e]
    · rename_i e
      refine lk_diag (fun q hq => hd q (by simp [hq])) ?_
      rcases List.mem_cons.1 h with h | h
      · exact absurd (by cases h; rfl) e
      · exact h

theorem ksOf_diag (g : GC) : ∀ q ∈ ksOf g, q.1 = q.2 := by
  intro q hq
  rcases List.mem_cons.1 hq with rfl | hq
  · rfl
  · obtain ⟨p, _, rfl⟩ := List.mem_map.1 hq
    rfl
theorem look_addKs {id : Nat} {ks : List (Nat × Nat)} : ∀ {A : List (Nat × GC)}, (look id (addKs ks A)).ok = true → ∃ g, look id (addKs ks A) = addK ks g
  | [], h => by simp [addKs, look, GC.ok, nodup] at h
  | (a, g) :: r, h => by
    simp only [addKs, look] at h ⊢
    split
    · exact ⟨g, rfl⟩
    · rename_i e
      rw [if_neg e] at h
      exact look_addKs h
/-- what is kept in each round stays -/
theorem keep_ks {lo id : Nat} {ks j : List (Nat × Nat)} {A : List (Nat × GC)} (hks : ∀ q ∈ ks, q.1 = q.2) (hj : ∀ q ∈ j, (q.2, q.2) ∈ ks) (hok : (look id (addKs ks A)).ok = true) (l : LV) :
    maskL lo (look id (addKs ks A)).ids (maskL lo j l) = maskL lo j l := by
  obtain ⟨g, hg⟩ := look_addKs hok
  rw [hg]
  refine maskL_maskL (fun i i' h => ?_) l
  rcases lk_cases h with ⟨rfl, h1⟩ | ⟨q, h1, _, rfl⟩
  · exact lk_lower h1 _
  · exact lk_diag hks (hj q h1)
theorem keep_low {lo : Nat} {j : List (Nat × Nat)} (hj : ∀ q ∈ j, q.2 < 1000000) (l : LV) : maskL (lo + 1000000) [] (maskL lo j l) = maskL lo j l := by
  refine maskL_maskL (fun i i' h => ?_) l
  rcases lk_cases h with ⟨rfl, h1⟩ | ⟨q, h1, _, rfl⟩
  · exact lk_lower (by omega) _
  · exact lk_lower (by have := hj q h1; omega) _

section
variable {w : World} {ok : Nat → Prop}
theorem lk_eq {lo i i' : Nat} {j : List (Nat × Nat)} (hj : ∀ q ∈ j, q.1 = q.2) (h : lk lo i j = some i') : i' = i := by
  rcases lk_cases h with ⟨h, _⟩ | ⟨q, h1, h2, h3⟩
  · exact h
  · rw [h2, h3, hj q h1]
theorem maskC_diag {ρ : Rho} {h : Hp} {lo : Nat} {j : List (Nat × Nat)} (hj : ∀ q ∈ j, q.1 = q.2) {l : LV} {x : Value} (hl : LRep w ok ρ h l x) : LRep w ok ρ h (maskC lo j l) x := by
  cases l with
  | p id off => simp only [maskC]; cases e : lk lo id j with
    | none => simp only [renP, LRep]
    | some i => have := lk_eq hj e; subst this; exact hl
  | pe id r off => simp only [maskC]; cases e : lk lo id j with
    | none => simp only [renE, LRep]
    | some i => have := lk_eq hj e; subst this; exact hl
  | s id off len => simp only [maskC]; cases e : lk lo id j with
    | none => simp only [renS, LRep]
    | some i => have := lk_eq hj e; subst this; exact hl
  | m id => simp only [maskC]; cases e : lk lo id j with
    | none => simp only [renM, LRep]
    | some i => have := lk_eq hj e; subst this; exact hl
  | v t => exact hl
  | u => exact hl
  | agg cs => simp only [maskC, LRep]
  | fn f cs => simp only [maskC, LRep]
  | tup cs => cases cs with
    | nil => exact hl
    | cons c cs => simp only [maskC, LRep]
theorem maskCs_diag {ρ : Rho} {h : Hp} {lo : Nat} {j : List (Nat × Nat)} (hj : ∀ q ∈ j, q.1 = q.2) {one : Bool} : ∀ {ls : List LV} {xs : List Value}, LReps w ok ρ h one ls xs → LReps w ok ρ h one (maskCs lo j ls) xs
  | [], xs, hl => hl
  | l :: ls, xs, hl => by
    simp only [LReps] at hl
    obtain ⟨v, r, rfl, h1, h2, h3⟩ := hl
    simp only [maskCs, LReps]
    exact ⟨v, r, rfl, h1, maskC_diag hj h2, maskCs_diag hj h3⟩
theorem mask2_diag {ρ : Rho} {h : Hp} {lo : Nat} {j : List (Nat × Nat)} (hj : ∀ q ∈ j, q.1 = q.2) {one : Bool} : ∀ {ls : List LV} {xs : List Value}, LReps w ok ρ h one ls xs → LReps w ok ρ h one (mask2 lo j ls) xs
  | [], xs, hl => hl
  | l :: ls, xs, hl => by
    simp only [LReps] at hl
    obtain ⟨v, r, rfl, h1, h2, h3⟩ := hl
    have ih := mask2_diag (lo := lo) hj h3
    by_cases ha : ∃ cs, l = .agg cs
    · obtain ⟨cs, rfl⟩ := ha
      simp only [LRep] at h2
      obtain ⟨vs, k1, k2⟩ := h2
      simp only [mask2, LReps]
      exact ⟨v, r, rfl, h1, by simp only [LRep]; exact ⟨vs, k1, maskCs_diag hj k2⟩, ih⟩
    · have e : mask2 lo j (l :: ls) = maskC lo j l :: mask2 lo j ls := by
        cases l with
        | agg cs => exact absurd ⟨cs, rfl⟩ ha
        | _ => rfl
      rw [e]
      simp only [LReps]
      exact ⟨v, r, rfl, h1, maskC_diag hj h2, ih⟩
theorem maskL_diag {ρ : Rho} {h : Hp} {lo : Nat} {j : List (Nat × Nat)} (hj : ∀ q ∈ j, q.1 = q.2) {l : LV} {x : Value} (hl : LRep w ok ρ h l x) : LRep w ok ρ h (maskL lo j l) x := by
  unfold maskL
  split
  · simp only [LRep] at hl ⊢
    obtain ⟨vs, k1, k2⟩ := hl
    exact ⟨vs, k1, maskCs_diag hj k2⟩
  · simp only [LRep] at hl ⊢
    obtain ⟨vs, k1, k2⟩ := hl
    exact ⟨vs, k1, maskCs_diag hj k2⟩
  · simp only [LRep] at hl ⊢
    obtain ⟨vs, k1, k2⟩ := hl
    exact ⟨vs, k1, mask2_diag hj k2⟩
  · exact maskC_diag hj hl

end
/-- what is carried along keeps its names -/
def Stable (N : Rm) (lo : Nat) (A B : List (Nat × GC)) : Prop := (∀ id k, (look id A).ok = true → maskL lo (look id A).ids (N.gh k).1 = (N.gh k).1) ∧ ∀ id k, (look id B).ok = true → maskL lo (look id B).ids (N.gh k).1 = (N.gh k).1
/-- where a range over a function may stand -/
def RgOk (n : Sl) (rd : Option Nat) (N : Rm) (lo : Nat) : Prop := n.rg = true → rd = none ∧ ∀ k, maskL lo [] (N.gh k).1 = (N.gh k).1

theorem marks_none {N0 N : Rm} {D : Nat} : ∀ {ds : List Deferred}, marksOk N0 N ds → { target := .collected D, args := #[] } ∈ ds → N0.res D = none
  | [], _, hm => by simp at hm
  | d :: ds, h, hm => by
    obtain ⟨⟨E, rfl, h1, h2, h3⟩, h4⟩ := h
    rcases List.mem_cons.1 hm with e | hm
    · cases e; exact h1
    · exact marks_none h4 hm
/-- a block that was turned for a while -/
theorem Ext.turn {N1 N3 : Rm} {l : Nat} {o o1 : Obj} (h1 : N1.res l = some o) (e : Ext (N1.with l o1) N3) : Ext N1 (N3.with l o) := by
  obtain ⟨ms, k1, k2⟩ := e.ds
  refine ⟨e.n, e.K, e.T, e.gh, fun b x hb => ?_, ms, k1, ?_⟩
  · by_cases hbl : b = l
    · subst hbl; rw [with_at, ← hb, h1]
    · rw [with_ne _ _ hbl]; exact e.res b x (by rw [with_ne _ _ hbl]; exact hb)
  · refine marks_with (marks_down (fun b hb => ?_) k2) fun d hd e' => ?_
    · by_cases hbl : b = l
      · subst hbl; rw [with_at] at hb; cases hb
      · rw [with_ne _ _ hbl] at hb; exact hb
    · subst e'
      have := marks_none k2 hd
      rw [with_at] at this
      cases this

section
variable {P : Program} {C : Cs} {N N' : Rm} {lo : Nat} {n : Sl} {A B : List (Nat × GC)} {rd : Option Nat}
theorem Ext.good (e : Ext N N') (h : GoodAt P C N lo) : GoodAt P C N' lo := by
  refine ⟨h.1, fun f lo' hp args r hc k => by rw [e.gh]; exact h.2.1 f lo' hp args r hc k, fun R hR => ?_⟩
  obtain ⟨l, r, n, A, B, h1, h2, h3⟩ := h.2.2 R hR
  refine ⟨l, r, n, A, B, by rw [e.T]; exact h1, e.res _ _ h2, ?_⟩
  rw [e.gh]
  exact h3
theorem Ext.le (e : Ext N N') (h : n.le N) : n.le N' := by
  refine ⟨by rw [e.n]; exact h.1, fun d hd => ?_, fun d hd => by rw [e.K]; exact h.2.2 d hd⟩
  have := h.2.1 d hd
  exact ⟨by rw [e.n]; exact this.1, by rw [e.K]; exact this.2⟩
theorem Ext.stable (e : Ext N N') (h : Stable N lo A B) : Stable N' lo A B := by
  unfold Stable
  rw [e.gh]
  exact h
theorem Ext.rg (e : Ext N N') (h : RgOk n rd N lo) : RgOk n rd N' lo := by
  unfold RgOk
  rw [e.gh]
  exact h
end
end Go.Proofs.Ytfhijlhiifkkhaa.Sx
