/- The evaluator's single operations are sound, the last lot: nil, append of zeros, maps. -/
import Derived.Test.YtehcfmohjcjmpaaSxOps9
import Derived.MapKept
namespace Go.Proofs.Ytehcfmohjcjmpaa.Sx
open Go Go.RowKit
section
variable {P : Program} {N : Nat} {w0 : World} {ok0 : Nat → Prop} {st st' : St} {ok : Nat → Prop} {ρ : Rho} {a : Act} {w w' : World}
  {next : Act → World → Prop} {Q : Exit → Act → World → Prop} {o : Oper}

theorem one_cells' {x : Value} (h : x.oneCell' = true) : x.cells = #[x] := by cases x <;> first | rfl | (simp [Value.oneCell'] at h)
/-! ### nil -/
theorem isnilS {l : LV} {r : Bool} (g : Gam N w0 ok0 st ok ρ a w) (h : isnilL false l = some r) {x : Value} (hl : LRep w ok ρ st.hp l x) : r = false ∧ ∃ ad n c, x = .slice (some ad) n c := by
  unfold isnilL at h
  split at h
  · obtain ⟨ad, cap, rfl, h2, h3, h4, h5⟩ := sl_form hl
    refine ⟨(Option.some.inj h).symm, ?_⟩
    rcases h5 with h5 | ⟨b, o, rfl, _⟩
    · cases h5
    · exact ⟨_, _, _, rfl⟩
  · simp only [LRep] at hl
    obtain ⟨ad, cap, rfl, _, _, h3⟩ := hl.shape
    refine ⟨(Option.some.inj h).symm, ?_⟩
    rcases h3 with h3 | h3
    · omega
    · obtain ⟨b, rfl⟩ := Option.isSome_iff_exists.1 h3
      exact ⟨_, _, _, rfl⟩
  all_goals first | (cases ‹false = true›; done) | (cases h; done)
theorem isnilP {l : LV} {r : Bool} (h : isnilL true l = some r) {x : Value} (hl : LRep w ok ρ st.hp l x) : r = false ∧ ∃ ad, x = .pointer (some ad) := by
  unfold isnilL at h
  split at h
  · cases ‹true = false›
  · cases ‹true = false›
  · exact ⟨(Option.some.inj h).symm, lv_p hl⟩
  · exact ⟨(Option.some.inj h).symm, lv_pe hl⟩
  · simp only [LRep, TRep] at hl
    obtain ⟨b, o, rfl, _⟩ := hl
    exact ⟨(Option.some.inj h).symm, _, rfl⟩
  · cases h

theorem run_equalIn_sl {t e : TypeId} (hu : P.underlying t = some (.slice e)) (ad : Addr) (n c : Nat) (d : Nat) : (Op.equalIn (d + 1) t (.slice (some ad) n c) (.slice none 0 0)).run P w = .ok false w := by
  simp [Op.equalIn, run_underlying hu]
theorem run_equalIn_pt {t e : TypeId} (hu : P.underlying t = some (.pointer e)) (ad : Addr) (d : Nat) : (Op.equalIn (d + 1) t (.pointer (some ad)) (.pointer none)).run P w = .ok false w := by
  simp [Op.equalIn, run_underlying hu]
theorem run_nilS {t e : TypeId} (hu : P.underlying t = some (.slice e)) (ad : Addr) (n c : Nat) (neg : Bool) : (binOp (if neg then .neq else .eql) t (.slice (some ad) n c) (.slice none 0 0)).run P w = .ok (.bool (if neg then !false else false)) w := by
  have h : (Op.equalIn 10000 t (.slice (some ad) n c) (.slice none 0 0)).run P w = .ok false w := run_equalIn_sl (w := w) hu ad n c 9999
  cases neg <;> simp [binOp, Op.equal, Op.maxDepth, h]
theorem run_nilP {t e : TypeId} (hu : P.underlying t = some (.pointer e)) (ad : Addr) (neg : Bool) : (binOp (if neg then .neq else .eql) t (.pointer (some ad)) (.pointer none)).run P w = .ok (.bool (if neg then !false else false)) w := by
  have h : (Op.equalIn 10000 t (.pointer (some ad)) (.pointer none)).run P w = .ok false w := run_equalIn_pt (w := w) hu ad 9999
  cases neg <;> simp [binOp, Op.equal, Op.maxDepth, h]
theorem run_nilG (op : BinOp) (t : TypeId) (x y : Operand) {u v : Value} (h : (∃ a n c, u = .slice a n c) ∨ (∃ a, u = .pointer a)) : (eqGuard op t x y u v).run P w = .ok () w := by
  rcases h with ⟨a, n, c, rfl⟩ | ⟨a, rfl⟩ <;> cases op <;> simp [eqGuard]

theorem op_isnil (g : Gam N w0 ok0 st ok ρ a w) {d : Nat} (hd : o.dst = some d) (hN : d < N) {t t1 u : TypeId} {x y : Operand} {x' : X} {neg ptr : Bool} (ho : o.op = .binOp (if neg then .neq else .eql) t x y u)
    (hx : cX P t1 x = some x') (hy : isNilC P t y = some ptr) (he : setV st d (nilB neg (isnilL ptr (x'.rd st.env))) = some st') (hn : Into N w0 ok0 st' next) : o.wp P a w next Q := by
  obtain ⟨r, hr, rfl⟩ := setV_some he
  have h1 := rd_ok g hx
  generalize x'.rd st.env = l at hr h1
  cases hb : isnilL ptr l with
  | none => rw [hb] at hr; cases hr
  | some b =>
    rw [hb] at hr
    obtain rfl := Option.some.inj hr
    unfold isNilC at hy
    split at hy
    · split at hy
      · rename_i hu
        obtain rfl := Option.some.inj hy
        obtain ⟨rfl, ad, n, c, e1⟩ := isnilS g hb h1
        refine ok_val g hd hN (v := .bool (if neg then !false else false)) ?_ (lrep_v trep_bool) hn
        have hg := run_nilG (P := P) (w := w) (if neg then .neq else .eql) t x (.const (.slice none 0 0)) (u := .slice (some ad) n c) (v := .slice none 0 0) (.inl ⟨_, _, _, rfl⟩)
        have hr := run_nilS (P := P) (w := w) hu ad n c neg
        have hev : a.eval (.const (.slice none 0 0)) = .slice none 0 0 := rfl
        simp only [execOp, ho, e1, hev, Sem.run_bind, hg, Result.andThen_ok, hr, Sem.run_pure]
      · cases hy
    · split at hy
      · rename_i hu
        obtain rfl := Option.some.inj hy
        obtain ⟨rfl, ad, e1⟩ := isnilP hb h1
        refine ok_val g hd hN (v := .bool (if neg then !false else false)) ?_ (lrep_v trep_bool) hn
        have hg := run_nilG (P := P) (w := w) (if neg then .neq else .eql) t x (.const (.pointer none)) (u := .pointer (some ad)) (v := .pointer none) (.inr ⟨_, rfl⟩)
        have hr := run_nilP (P := P) (w := w) hu ad neg
        have hev : a.eval (.const (.pointer none)) = .pointer none := rfl
        simp only [execOp, ho, e1, hev, Sem.run_bind, hg, Result.andThen_ok, hr, Sem.run_pure]
      · cases hy
    · cases hy

theorem op_allocM (g : Gam N w0 ok0 st ok ρ a w) {d : Nat} (hd : o.dst = some d) (hN : d < N) {e : TypeId} (ho : o.op = .alloc e) (hz : zeroM P e = true) {lo : Nat}
    (he : mkO d (lo + d) (.var false [.u]) (.p (lo + d) 0) st = some st') (hn : Into N w0 ok0 st' next) : o.wp P a w next Q := by
  have hz' : ∃ z, (P.info? e).bind (·.zero) = some z ∧ z.oneCell' = true := by
    unfold zeroM at hz
    split at hz
    · exact ⟨_, by assumption, rfl⟩
    · exact ⟨_, by assumption, rfl⟩
    · cases hz
  obtain ⟨z, hz1, hz2⟩ := hz'
  have hr := run_alloc (P := P) w hz1
  refine ok_var g hd hN he (cur := z.cells) (ty := e) ?_ ?_ hn
  · simp [execOp, ho, hr]
  · rw [one_cells' hz2]
    simp only [LReps]
    exact ⟨z, [], rfl, fun _ => hz2, by simp only [LRep], rfl⟩

/-! ### append of zeros to nothing -/
theorem zeros_vals {e : TypeId} {i : TypeInfo} {zs : List TV} (hi : P.info? e = some i) (hz : zeroT P e = some zs) : ∃ z, i.zero = some z ∧ zs.length = z.cells.size ∧ ValsRep w ok true zs z.cells.toList := by
  obtain ⟨z, hz1, hz2⟩ := zeroT_some hz
  rw [hi] at hz1
  have hzl := cVs_length hz2
  have hzc := cVs_ok (w := w) (ok := ok) (ρ := fun _ => none) (st := ⟨e0, h0⟩) hz2
  refine ⟨z, hz1, by simpa using hzl, ValsRep.of (by simpa using hzl.symm) fun j t' hj => ?_⟩
  obtain ⟨v, k1, k2, k3⟩ := hzc.get j (.v t') (by
    have : ∀ (zs : List TV) (j : Nat) (t' : TV), zs[j]? = some t' → (liftV zs)[j]? = some (.v t') := by
      intro zs
      induction zs with
      | nil => intro j t' h; simp at h
      | cons q qs ih => intro j t' h; cases j with
        | zero => simpa [liftV] using h
        | succ j => simpa [liftV] using ih j t' (by simpa using h)
    exact this zs j t' hj)
  exact ⟨v, k1, k2, by simpa only [LRep] using k3⟩
theorem zeros_are {zs : List TV} {vs : List Value} (h : ValsRep w ok true zs vs) (m : Nat) : RowsAre w ok zs.length (List.replicate m zs) (List.replicate m vs).flatten := by
  have hone := RowsAre.one h
  induction m with
  | zero => exact RowsAre.nil
  | succ m ih => simpa [List.replicate_succ] using hone.append ih
theorem flat_len (vs : List Value) (m : Nat) : (List.replicate m vs).flatten.length = m * vs.length := by
  induction m with
  | zero => simp
  | succ m ih => rw [List.replicate_succ, List.flatten_cons, List.length_append, ih, Nat.add_mul, Nat.one_mul, Nat.add_comm]
theorem flat_get (vs : List Value) : ∀ (m j : Nat), j < m * vs.length → (List.replicate m vs).flatten[j]? = vs[j % vs.length]?
  | 0, j, hj => by simp at hj
  | m + 1, j, hj => by
    rw [Nat.add_mul, Nat.one_mul] at hj
    rw [List.replicate_succ, List.flatten_cons]
    by_cases hlt : j < vs.length
    · rw [List.getElem?_append_left hlt, Nat.mod_eq_of_lt hlt]
    · rw [List.getElem?_append_right (by omega), flat_get vs m (j - vs.length) (by omega), Nat.mod_eq_sub_mod (show j ≥ vs.length by omega)]
theorem zeroCells_get {zero : Array Value} {n j : Nat} (h : j < n * zero.size) (hp : 0 < zero.size) : (Builtin.zeroCells zero n)[j]? = zero[j % zero.size]? := by
  have hlt : j % zero.size < zero.size := Nat.mod_lt _ hp
  simp only [Builtin.zeroCells, Array.getElem?_map]
  rw [Array.getElem?_eq_getElem (by simpa using h)]
  simp [hlt]

theorem run_append_zeros (t u ty e : TypeId) (i : TypeInfo) (z : Value) (k : IntKind) (ht : P.underlying t = some (.slice e)) (hu : P.underlying u = some (.int k)) (hi : P.info? e = some i) (hz : i.zero = some z)
    (b : Option Addr) (n : Int) (h0 : 0 < n) (hby : n * i.bytes ≤ 140737488355328) (hb : 0 < i.bytes) (hs : 0 < i.size) :
    (Builtin.append_ #[t, u] ty #[.slice b 0 0, .int .i64 n]).run P w =
      .ok (.slice (some ⟨w.heap.size, 0, none⟩) n.toNat (grownCap w n.toNat 0 e))
        (w.drew.alloc (.cells (Builtin.zeroCells z.cells n.toNat ++ Builtin.zeroCells z.cells (grownCap w n.toNat 0 e - n.toNat)) e)) := by
  have hnb : n ≤ 140737488355328 := by
    have : n * 1 ≤ n * (i.bytes : Int) := Int.mul_le_mul_of_nonneg_left (by omega) (by omega)
    omega
  have wn : IntKind.i64.wrap n = n := by rw [IntKind.wrap_i64]; omega
  have q1 : ¬ n < 0 := by omega
  have q2 : ¬ (281474976710656 < n * (i.bytes : Int)) := by omega
  have q4' : ¬ ((9223372036854775807 : Int) < max n 0) := by omega
  have hx : n.toNat * i.bytes ≤ 140737488355328 := by
    have e : ((n.toNat * i.bytes : Nat) : Int) = n * (i.bytes : Int) := by rw [Int.natCast_mul, Int.toNat_of_nonneg (by omega)]
    omega
  have q5 : ¬ (281474976710656 < Builtin.nextslicecap n.toNat 0 * i.bytes) := by
    have := growslice_fits (by omega : 0 < n.toNat) hx
    omega
  have q6 : ¬ (n ≤ 0) := by omega
  have q7' : ¬ (n.toNat * i.size = 0) := by rw [Nat.mul_eq_zero]; omega
  have hf : (Builtin.firstCells i.size 0 (.slice b 0 0)).run P w.drew = .ok #[] w.drew := by
    cases b <;> simp [Builtin.firstCells, loadCells, loadCellsFrom]
  simp [Builtin.append_, run_underlying ht, run_underlying hu, sizeOf, typeInfo, zeroValue, hi, hz, asInt, asIntOf, wn, q1, q2, q4', q5, q6, q7', Question.forced, hf, newRow, grownCap]

theorem run_append_zero0 (t u ty e : TypeId) (i : TypeInfo) (k : IntKind) (ht : P.underlying t = some (.slice e)) (hu : P.underlying u = some (.int k)) (hi : P.info? e = some i)
    (b : Option Addr) : (Builtin.append_ #[t, u] ty #[.slice b 0 0, .int .i64 0]).run P w = .ok (.slice b 0 0) w := by
  have wn : IntKind.i64.wrap 0 = 0 := rfl
  cases b <;> simp [Builtin.append_, run_underlying ht, run_underlying hu, sizeOf, typeInfo, hi, asInt, asIntOf, wn, storeCells]

theorem op_appz (g : Gam N w0 ok0 st ok ρ a w) {d : Nat} (hd : o.dst = some d) (hN : d < N) {t u e t1 t2 : TypeId} {x y : Operand} {x' y' : X} {lo : Nat} {i : TypeInfo} {zs : List TV}
    (ho : o.op = .call { callee := .builtin .append, args := #[x, y], argTypes := #[t, u] }) (hx : cX P t1 x = some x') (hy : cX P t2 y = some y') (ht : P.underlying t = some (.slice e)) {k : IntKind} (hu : P.underlying u = some (.int k))
    (hi : P.info? e = some i) (hz : zeroT P e = some zs) (hzl : zs.length = i.size) (hb : 0 < i.bytes) (hs : 0 < i.size)
    (he : appzK lo st d e zs i.bytes (x'.rd st.env) (y'.rd st.env) = some st') (hn : Into N w0 ok0 st' next) : o.wp P a w next Q := by
  have h1 := rd_ok g hx
  have h2 := rd_ok g hy
  generalize x'.rd st.env = l1 at he h1
  generalize y'.rd st.env = l2 at he h2
  unfold appzK at he
  split at he
  · rename_i fe sz n
    split at he
    · rename_i hc
      obtain ⟨hsz, h0, hby⟩ := hc
      have e2 := lv_int h2
      simp only [LRep, TRep] at h1
      obtain ⟨ad, len, cap, e1, r2, r3, r4, r5, _⟩ := h1
      have r5 := r5 fe rfl
      simp only [List.length_nil] at r2
      subst r2
      subst r5
      obtain ⟨z, hz1, hz2, hz3⟩ := zeros_vals (w := w) (ok := ok) hi hz
      rcases Int.lt_or_eq_of_le h0 with hp | rfl
      · have hrun := run_append_zeros (P := P) (w := w) t u o.type e i z k ht hu hi hz1 ad n hp hby hb hs
        have hge := grownCap_ge w n.toNat 0 e
        have hnb : n ≤ 140737488355328 := by
          have : n * 1 ≤ n * (i.bytes : Int) := Int.mul_le_mul_of_nonneg_left (by omega) (by omega)
          omega
        have hl : (List.replicate n.toNat z.cells.toList).flatten.length = n.toNat * i.size := by rw [flat_len, Array.length_toList, ← hz2, hzl]
        refine ok_arr g hd hN he (cap := grownCap w n.toNat 0 e) (w1 := w.drew) (cur := Builtin.zeroCells z.cells n.toNat ++ Builtin.zeroCells z.cells (grownCap w n.toNat 0 e - n.toNat)) (vs := (List.replicate n.toNat z.cells.toList).flatten)
          ?_ (.inr rfl) (zeros_are hz3 n.toNat) ?_ ?_ (grownCap_le_maxLen w _ _ _ (by simp only [maxLen]; omega)) (by simp) (by simpa using hge) hn
        · simp [execOp, ho, resolve, invoke, builtin, e1, e2, hrun]
        · intro j v hj
          have hjl := (List.getElem?_eq_some_iff.1 hj).1
          rw [hl] at hjl
          have hj2 : j < n.toNat * z.cells.size := by rw [← hz2, hzl]; exact hjl
          rw [Array.getElem?_append_left (by rw [size_zeroCells]; exact hj2), zeroCells_get hj2 (by omega)]
          rw [flat_get _ _ _ (by simpa using hj2)] at hj
          simpa using hj
        · simp only [Array.size_append, size_zeroCells, ← hz2]
          rw [← Nat.add_mul]
          congr 1
          omega
      · have hrun := run_append_zero0 (P := P) (w := w) t u o.type e i k ht hu hi ad
        exact ok_empty g hd hN (by simpa using he) (ad := ad) (by simp [execOp, ho, resolve, invoke, builtin, e1, e2, hrun]) hn
    · cases he
  · cases he

/-! ### maps: keys -/
theorem check_fields {k : TypeId → Option (List Lk)} {em : Bool} {d : Nat} (hk : ∀ t ks, k t = some ks → (∃ u, P.underlying t = some u) ∧ ∀ (xs : List Value) (w : World), xs.length = ks.length →
      (Instr.checkKey em d t (packV (isAggB P t) xs)).run P w = .ok () w) (w : World) (xs : Array Value) :
    ∀ {fs : List Field} {off : Nat} {ks : List Lk}, flatFs P k fs off = some ks → xs.size = off + ks.length →
      (forIn fs PUnit.unit (fun f _ => do if f.name ≠ "_" then (do Instr.checkKey em d f.type (← part f.type xs f.offset); pure (.yield PUnit.unit)) else pure (.yield PUnit.unit)) : Sem PUnit).run P w = .ok () w
  | [], off, ks, h, hl => by simp
  | f :: fs, off, ks, h, hl => by
    simp only [flatFs] at h
    split at h
    · rename_i k1 k2 h1 h2
      split at h
      · rename_i hc
        obtain ⟨hname, hoff, hsz, hag, hpos⟩ := hc
        obtain rfl := Option.some.inj h
        obtain ⟨⟨u, hu⟩, hrun⟩ := hk _ _ h1
        rw [hsz] at h2
        simp only [List.length_append] at hl
        have px := run_part (P := P) w hu hsz xs f.offset (by omega) hag
        have hlen : ((xs.toList.drop f.offset).take k1.length).length = k1.length := by simp; omega
        have hr := hrun _ w hlen
        have ih := check_fields hk w xs h2 (by simp; omega)
        simp only [List.forIn_cons, hname, ne_eq, not_false_eq_true, if_true, Sem.run_bind, px, Result.andThen_ok, hr, Sem.run_pure]
        exact ih
      · cases h
    · cases h
theorem run_checkKey_flat (em : Bool) : ∀ (n : Nat) {t : TypeId} {ks : List Lk}, flatEq P n t = some ks → ∀ d, n ≤ d → (∃ u, P.underlying t = some u) ∧ ∀ (xs : List Value) (w : World), xs.length = ks.length →
    (Instr.checkKey em d t (packV (isAggB P t) xs)).run P w = .ok () w
  | 0, t, ks, h, d, _ => by cases h
  | n + 1, t, ks, h, d, hd => by
    obtain ⟨d, rfl⟩ : ∃ e, d = e + 1 := ⟨d - 1, by omega⟩
    simp only [flatEq] at h
    split at h
    · rename_i hu
      exact ⟨⟨_, hu⟩, fun xs w hl => by simp [Instr.checkKey, run_underlying hu]⟩
    · rename_i hu
      exact ⟨⟨_, hu⟩, fun xs w hl => by simp [Instr.checkKey, run_underlying hu]⟩
    · rename_i hu
      exact ⟨⟨_, hu⟩, fun xs w hl => by simp [Instr.checkKey, run_underlying hu]⟩
    · rename_i fs hu
      split at h
      · cases h
      · refine ⟨⟨_, hu⟩, fun xs w hl => ?_⟩
        have ha : isAggB P t = true := by simp [isAggB, hu]
        have := check_fields (em := em) (fun t ks h => run_checkKey_flat em n h d (by omega)) w xs.toArray h (by simpa using hl)
        simp only [packV, ha, if_true, Instr.checkKey, Sem.run_bind, run_underlying hu, Result.andThen_ok]
        rw [← Array.forIn_toList]
        rw [this]
        simp
    · cases h

/-- where a key is, cell by cell -/
def findV (ks : List Lk) (kx : List Value) : List MapEntry → Nat → Option (Option (Nat × MapEntry))
  | [], _ => some none
  | e :: es, i => match eqVals ks kx e.key.cells.toList with
    | some true => some (some (i, e))
    | some false => findV ks kx es (i + 1)
    | none => none
def Shaped (ag : Bool) (v : Value) : Prop := v = packV ag v.cells.toList
theorem run_findAsking {kt : TypeId} {ks : List Lk} (hk : flatEq P 10 kt = some ks) {kx : List Value} (w : World) : ∀ {es : List MapEntry} {i : Nat} {r : Option (Nat × MapEntry)}, findV ks kx es i = some r → (∀ e ∈ es, Shaped (isAggB P kt) e.key) →
    (Instr.findAsking kt (packV (isAggB P kt) kx) es i).run P w = .ok (r.map fun p => (p.1, p.2.val)) w
  | [], i, r, h, hs => by
    obtain rfl := Option.some.inj h
    simp [Instr.findAsking]
  | e :: es, i, r, h, hs => by
    have hse := hs e (by simp)
    have heq : ∀ b, eqVals ks kx e.key.cells.toList = some b → (Op.equal kt (packV (isAggB P kt) kx) e.key).run P w = .ok b w := by
      intro b hb
      have := (flatEq_sound 10 hk 10000 (by omega)).2 _ _ b w hb
      have e' : packV (isAggB P kt) e.key.cells.toList = e.key := hse.symm
      rw [e'] at this
      simpa [Op.equal, Op.maxDepth] using this
    simp only [findV] at h
    split at h
    · rename_i hb
      obtain rfl := Option.some.inj h
      simp [Instr.findAsking, heq _ hb]
    · rename_i hb
      have ih := run_findAsking hk w h fun x hx => hs x (by simp [hx])
      simp [Instr.findAsking, heq _ hb, ih]
    · cases h
theorem findNow_at {kt : TypeId} {ks : List Lk} (hk : flatEq P 10 kt = some ks) {u : TypeDesc} (hu : P.underlying kt = some u) {kx : List Value} : ∀ {es : List MapEntry} {i : Nat} {r : Option (Nat × MapEntry)}, findV ks kx es i = some r → (∀ e ∈ es, Shaped (isAggB P kt) e.key) →
    ∀ {r'}, Instr.findNow u (packV (isAggB P kt) kx) es i = some r' → r' = r.map fun p => (p.1, p.2.val)
  | [], i, r, h, hs, r', h' => by
    obtain rfl := Option.some.inj h
    obtain rfl := Option.some.inj h'
    rfl
  | e :: es, i, r, h, hs, r', h' => by
    have hse := hs e (by simp)
    have key : ∀ b c, Instr.sameNow u (packV (isAggB P kt) kx) e.key = some b → eqVals ks kx e.key.cells.toList = some c → b = c := by
      intro b c hb hc
      obtain ⟨l1, l2⟩ := eqVals_length hc
      have leaf : ∀ k0 : Lk, ks = [k0] → isAggB P kt = false → ∃ x, packV (isAggB P kt) kx = x ∧ eqVal k0 x e.key = some c := by
        intro k0 e0 ha
        subst e0
        have e1 : packV (isAggB P kt) e.key.cells.toList = e.key := hse.symm
        generalize e.key.cells.toList = ys at *
        match kx, ys, l1, l2 with
        | [x], [y], _, _ =>
          simp only [packV, ha, Bool.false_eq_true, if_false, List.headD_cons] at e1 ⊢
          subst e1
          simp only [eqVals] at hc
          obtain ⟨p, q, h1, h2, rfl⟩ := andO_some hc
          obtain rfl := Option.some.inj h2
          exact ⟨x, rfl, by simpa using h1⟩
      simp only [flatEq, hu] at hk
      cases u with
      | bool =>
        obtain ⟨x, e1, e2⟩ := leaf .b (Option.some.inj hk).symm (by simp [isAggB, hu])
        rw [e1] at hb
        unfold eqVal at e2
        split at e2 <;> simp_all [Instr.sameNow]
      | int k0 =>
        obtain ⟨x, e1, e2⟩ := leaf .i (Option.some.inj hk).symm (by simp [isAggB, hu])
        rw [e1] at hb
        unfold eqVal at e2
        split at e2 <;> simp_all [Instr.sameNow]
      | string =>
        obtain ⟨x, e1, e2⟩ := leaf .z (Option.some.inj hk).symm (by simp [isAggB, hu])
        rw [e1] at hb
        unfold eqVal at e2
        split at e2
        · cases ‹Lk.z = Lk.i›
        · cases ‹Lk.z = Lk.b›
        · rename_i a' b' _ hk'
          rw [hk'] at hb
          have hb : some (a' == b') = some b := hb
          have e2 : some (a'.toList == b'.toList) = some c := e2
          rw [← Option.some.inj hb, ← Option.some.inj e2, beq_toListBytes]
        · cases e2
      | struct fs => simp [Instr.sameNow] at hb
      | _ => simp at hk
    simp only [Instr.findNow] at h'
    simp only [findV] at h
    split at h'
    · rename_i hb
      split at h
      · obtain rfl := Option.some.inj h
        obtain rfl := Option.some.inj h'
        rfl
      · rename_i hc
        cases key _ _ hb hc
      · cases h
    · rename_i hb
      split at h
      · rename_i hc
        cases key _ _ hb hc
      · exact findNow_at hk hu h (fun x hx => hs x (by simp [hx])) h'
      · cases h
    · cases h'
theorem run_findKey_flat {kt : TypeId} {ks : List Lk} (hk : flatEq P 10 kt = some ks) {kx : List Value} (w : World) {es : List MapEntry} {r : Option (Nat × MapEntry)} (h : findV ks kx es 0 = some r) (hs : ∀ e ∈ es, Shaped (isAggB P kt) e.key) :
    (Instr.findKey kt (packV (isAggB P kt) kx) es).run P w = .ok (r.map fun p => (p.1, p.2.val)) w := by
  obtain ⟨u, hu⟩ := (run_checkKey_flat (P := P) false 10 hk 10 (Nat.le_refl _)).1
  have hA := run_findAsking hk w h hs
  simp only [Instr.findKey, Sem.run_bind, run_underlying hu, Result.andThen_ok]
  cases hn : Instr.findNow u (packV (isAggB P kt) kx) es 0 with
  | none => simpa using hA
  | some r' => simp [findNow_at hk hu h hs hn]

/-! ### maps: entries -/
theorem liftV_reps {one : Bool} {h : Hp} : ∀ {ts : List TV} {vs : List Value}, ValsRep w ok one ts vs → LReps w ok ρ h one (liftV ts) vs
  | [], vs, hv => by simp only [ValsRep] at hv; simp only [liftV, LReps]; exact hv
  | t :: ts, vs, hv => by
    simp only [ValsRep] at hv
    obtain ⟨v, r, h1, h2, h3, h4⟩ := hv
    simp only [liftV, LReps]
    exact ⟨v, r, h1, h2, by simp only [LRep]; exact h3, liftV_reps h4⟩
theorem one_cells {x : Value} (h : x.oneCell' = true) : x.cells = #[x] := by cases x <;> first | rfl | (simp [Value.oneCell'] at h)
theorem pack_cells {h : Hp} {ag : Bool} {cells : List TV} {x : Value} (hp : PackRep w ok ag cells x) : LReps w ok ρ h true (liftV cells) x.cells.toList ∧ Shaped ag x := by
  unfold PackRep at hp
  split at hp
  · rename_i e
    obtain ⟨vs, rfl, h2⟩ := hp
    subst e
    exact ⟨liftV_reps h2, by simp [Shaped, packV, Value.cells]⟩
  · rename_i e
    obtain ⟨t, rfl, h2, h3⟩ := hp
    have e' : ag = false := by simpa using e
    subst e'
    rw [one_cells h2]
    refine ⟨?_, by simp [Shaped, packV, one_cells h2]⟩
    simp only [liftV, LReps]
    exact ⟨x, [], rfl, fun _ => h2, by simp only [LRep]; exact h3, rfl⟩
theorem pack_lrep {h : Hp} {ag : Bool} {cells : List TV} {x : Value} (hp : PackRep w ok ag cells x) {l : LV} (hl : packL ag (liftV cells) = some l) : LRep w ok ρ h l x := by
  unfold PackRep at hp
  split at hp
  · rename_i e
    obtain ⟨vs, rfl, h2⟩ := hp
    subst e
    obtain rfl := Option.some.inj hl
    simp only [LRep]
    exact ⟨vs, rfl, liftV_reps h2⟩
  · rename_i e
    obtain ⟨t, rfl, h2, h3⟩ := hp
    have e' : ag = false := by simpa using e
    subst e'
    obtain rfl := Option.some.inj hl
    simp only [LRep]
    exact h3
theorem ents_shaped {kag vag : Bool} : ∀ {ents : List (List TV × List TV)} {es : List MapEntry}, EntsRep w ok kag vag ents es → ∀ e ∈ es, Shaped kag e.key
  | [], es, h, e, he => by
    have h : es = [] := h
    subst h
    simp at he
  | x :: r, es, h, e, he => by
    obtain ⟨e', r', rfl, h2, h3, h4⟩ := h
    rcases List.mem_cons.1 he with rfl | he
    · exact (pack_cells (ρ := fun _ => none) (h := h0) h2).2
    · exact ents_shaped h4 e he
theorem findM_V {h : Hp} {kag vag : Bool} {ks : List Lk} {key : List LV} {kx : List Value} (hk : LReps w ok ρ h true key kx) (hh : st.hp = h) : ∀ {ents : List (List TV × List TV)} {es : List MapEntry} {r : Option (List TV)} (i : Nat), EntsRep w ok kag vag ents es → findM ks key ents = some r →
    (r = none ∧ findV ks kx es i = some none) ∨ ∃ v j e, r = some v ∧ findV ks kx es i = some (some (i + j, e)) ∧ es[j]? = some e ∧ PackRep w ok vag v e.val
  | [], es, r, i, hr, hf => by
    have hr : es = [] := hr
    subst hr
    obtain rfl := Option.some.inj hf
    exact .inl ⟨rfl, rfl⟩
  | (a', v) :: ents, es, r, i, hr, hf => by
    obtain ⟨e, r', rfl, h2, h3, h4⟩ := hr
    subst hh
    simp only [findM] at hf
    split at hf
    · rename_i hb
      have := eqCells_vals hb hk (pack_cells h2).1
      obtain rfl := Option.some.inj hf
      exact .inr ⟨v, 0, e, rfl, by simp [findV, this], rfl, h3⟩
    · rename_i hb
      have := eqCells_vals hb hk (pack_cells h2).1
      rcases findM_V hk rfl (i + 1) h4 hf with ⟨k1, k2⟩ | ⟨v', j, e', k1, k2, k3, k4⟩
      · exact .inl ⟨k1, by simp only [findV, this]; exact k2⟩
      · exact .inr ⟨v', j + 1, e', k1, by simp only [findV, this]; rw [k2]; congr 3; omega, by simpa using k3, k4⟩
    · cases hf
theorem consM_some {x : List TV × List TV} {y : Option (List (List TV × List TV))} {r : List (List TV × List TV)} (h : consM x y = some r) : ∃ r', y = some r' ∧ r = x :: r' := by
  cases y with
  | none => cases h
  | some r' => exact ⟨r', rfl, (Option.some.inj h).symm⟩
theorem updM_V {h : Hp} {kag vag : Bool} {ks : List Lk} {key : List LV} {kx : List Value} (hk : LReps w ok ρ h true key kx) (hh : st.hp = h) {kc vc : List TV} {kv vv : Value} (hkc : PackRep w ok kag kc kv) (hvc : PackRep w ok vag vc vv) :
    ∀ {ents ents' : List (List TV × List TV)} {es : List MapEntry} (i : Nat), EntsRep w ok kag vag ents es → updM ks key kc vc ents = some ents' →
    (findV ks kx es i = some none ∧ ∀ n, EntsRep w ok kag vag ents' (es ++ [⟨kv, vv, n⟩])) ∨
    ∃ j e, findV ks kx es i = some (some (i + j, e)) ∧ es[j]? = some e ∧ eqVals ks kx e.key.cells.toList = some true ∧ EntsRep w ok kag vag ents' (es.modify j fun e => { e with key := kv, val := vv })
  | [], ents', es, i, hr, hf => by
    have hr : es = [] := hr
    subst hr
    obtain rfl := Option.some.inj hf
    exact .inl ⟨rfl, fun n => ⟨_, _, rfl, hkc, hvc, rfl⟩⟩
  | (a', v) :: ents, ents', es, i, hr, hf => by
    obtain ⟨e, r', rfl, h2, h3, h4⟩ := hr
    subst hh
    simp only [updM] at hf
    split at hf
    · rename_i hb
      have := eqCells_vals hb hk (pack_cells h2).1
      obtain rfl := Option.some.inj hf
      exact .inr ⟨0, e, by simp [findV, this], rfl, this, by simp only [List.modify_zero_cons]; exact ⟨_, _, rfl, hkc, hvc, h4⟩⟩
    · rename_i hb
      have := eqCells_vals hb hk (pack_cells h2).1
      obtain ⟨r1, e1, rfl⟩ := consM_some hf
      rcases updM_V hk rfl hkc hvc (i + 1) h4 e1 with ⟨k1, k2⟩ | ⟨j, e', k1, k2, k3, k4⟩
      · exact .inl ⟨by simp only [findV, this]; exact k1, fun n => ⟨e, _, rfl, h2, h3, k2 n⟩⟩
      · refine .inr ⟨j + 1, e', by simp only [findV, this]; rw [k1]; congr 3; omega, by simpa using k2, k3, ?_⟩
        simp only [List.modify_succ_cons]
        exact ⟨e, _, rfl, h2, h3, k4⟩
    · cases hf
theorem delM_V {h : Hp} {kag vag : Bool} {ks : List Lk} {key : List LV} {kx : List Value} (hk : LReps w ok ρ h true key kx) (hh : st.hp = h) :
    ∀ {ents ents' : List (List TV × List TV)} {es : List MapEntry} (i : Nat), EntsRep w ok kag vag ents es → delM ks key ents = some ents' →
    (findV ks kx es i = some none ∧ EntsRep w ok kag vag ents' es) ∨ ∃ j e, findV ks kx es i = some (some (i + j, e)) ∧ EntsRep w ok kag vag ents' (es.eraseIdx j)
  | [], ents', es, i, hr, hf => by
    have hr : es = [] := hr
    subst hr
    obtain rfl := Option.some.inj hf
    exact .inl ⟨rfl, rfl⟩
  | (a', v) :: ents, ents', es, i, hr, hf => by
    obtain ⟨e, r', rfl, h2, h3, h4⟩ := hr
    subst hh
    simp only [delM] at hf
    split at hf
    · rename_i hb
      have := eqCells_vals hb hk (pack_cells h2).1
      obtain rfl := Option.some.inj hf
      exact .inr ⟨0, e, by simp [findV, this], by simpa using h4⟩
    · rename_i hb
      have := eqCells_vals hb hk (pack_cells h2).1
      obtain ⟨r1, e1, rfl⟩ := consM_some hf
      rcases delM_V hk rfl (i + 1) h4 e1 with ⟨k1, k2⟩ | ⟨j, e', k1, k2⟩
      · exact .inl ⟨by simp only [findV, this]; exact k1, ⟨e, _, rfl, h2, h3, k2⟩⟩
      · refine .inr ⟨j + 1, e', by simp only [findV, this]; rw [k1]; congr 3; omega, ?_⟩
        simp only [List.eraseIdx_cons_succ]
        exact ⟨e, _, rfl, h2, h3, k2⟩
    · cases hf

theorem eqVal_bits {k : Lk} {u v : Value} (h : eqVal k u v = some true) (n : Nat) : Instr.sameBits n v u = true := by
  unfold eqVal at h
  split at h
  · split at h
    · rename_i e
      subst e
      have := Option.some.inj h
      simp only [beq_iff_eq] at this
      subst this
      unfold Instr.sameBits; simp
    · cases h
  · have := Option.some.inj h
    simp only [beq_iff_eq] at this
    subst this
    unfold Instr.sameBits; simp
  · have := Option.some.inj h
    rw [← beq_toListBytes, Go.MapKept.bytes_beq] at this
    subst this
    unfold Instr.sameBits
    rw [Go.MapKept.bytes_beq]
  · cases h
theorem eqVals_bits (n : Nat) : ∀ {ks : List Lk} {us vs : List Value}, eqVals ks us vs = some true → ((vs.zip us).all fun (x, y) => Instr.sameBits n x y) = true
  | [], [], [], h => rfl
  | k :: ks, u :: us, v :: vs, h => by
    simp only [eqVals] at h
    obtain ⟨p, q, h1, h2, h3⟩ := andO_some h
    have h3 : p = true ∧ q = true := by simpa using h3.symm
    obtain ⟨rfl, rfl⟩ := h3
    simp only [List.zip_cons_cons, List.all_cons, eqVal_bits h1 n, Bool.true_and]
    exact eqVals_bits n h2
  | [], _ :: _, _, h => by simp [eqVals] at h
  | [], [], _ :: _, h => by simp [eqVals] at h
  | _ :: _, [], _, h => by simp [eqVals] at h
  | _ :: _, _ :: _, [], h => by simp [eqVals] at h
theorem run_stays {ks : List Lk} {kag : Bool} {kx : List Value} {old : Value} (hs : Shaped kag old) (hl : kag = false → ks.length = 1) (h : eqVals ks kx old.cells.toList = some true) (w : World) : (Instr.keyThatStays old (packV kag kx)).run P w = .ok (packV kag kx) w := by
  have hb : Instr.sameBits 10000 old (packV kag kx) = true := by
    have hlen := eqVals_length h
    cases kag with
    | true =>
      rw [hs]
      simp only [packV, if_true]
      have := eqVals_bits 9999 h
      unfold Instr.sameBits
      simp only [Bool.and_eq_true, beq_iff_eq]
      exact ⟨by simp [hlen.1, ← hlen.2], by simpa using this⟩
    | false =>
      have h1 := hl rfl
      rw [hs]
      simp only [Bool.false_eq_true, packV, if_false]
      generalize old.cells.toList = ys at *
      match ks, kx, ys, h1, hlen, h with
      | [k], [x], [y], _, _, h =>
        simp only [eqVals] at h
        obtain ⟨p, q, k1, k2, k3⟩ := andO_some h
        obtain rfl := Option.some.inj k2
        have : p = true := by simpa using k3.symm
        subst this
        simpa using eqVal_bits k1 10000
  simp [Instr.keyThatStays, hb]

theorem oneOf_ok {ag : Bool} {l : LV} {cs : List LV} {h : Hp} (he : oneOf ag l = some cs) {x : Value} (hl : LRep w ok ρ h l x) : ∃ xs : List Value, x = packV ag xs ∧ LReps w ok ρ h true cs xs := by
  unfold oneOf at he
  have single : ∀ {l : LV}, LRep w ok ρ h l x → x.oneCell' = true → ∃ xs : List Value, x = packV false xs ∧ LReps w ok ρ h true [l] xs := fun {l} hl h1 =>
    ⟨[x], by simp [packV], by simp only [LReps]; exact ⟨x, [], rfl, fun _ => h1, hl, rfl⟩⟩
  split at he
  · obtain rfl := Option.some.inj he
    simp only [LRep] at hl
    obtain ⟨vs, rfl, h2⟩ := hl
    exact ⟨vs.toList, by simp [packV], h2⟩
  · obtain rfl := Option.some.inj he
    exact single hl (by simp only [LRep, TRep] at hl; subst hl; rfl)
  · obtain rfl := Option.some.inj he
    exact single hl (by simp only [LRep, TRep] at hl; subst hl; rfl)
  · obtain rfl := Option.some.inj he
    exact single hl (by simp only [LRep, TRep] at hl; subst hl; rfl)
  · obtain rfl := Option.some.inj he
    exact single hl (by simp only [LRep, TRep] at hl; obtain ⟨a, len, cap, rfl, _⟩ := hl; rfl)
  · obtain rfl := Option.some.inj he
    exact single hl (by have hl' := hl; simp only [LRep] at hl'; obtain ⟨b, cap, rfl, _⟩ := hl'.shape; rfl)
  · cases he
theorem oneOf_len {l : LV} {cs : List LV} (he : oneOf false l = some cs) : cs.length = 1 := by
  unfold oneOf at he
  split at he
  · cases ‹false = true›
  all_goals first | (obtain rfl := Option.some.inj he; rfl) | (cases he; done)
theorem scalTV_ok {l : LV} {t : TV} (h : scalTV l = some t) {h' : Hp} {x : Value} {ok' : Nat → Prop} {w1 : World} (hl : LRep w ok ρ h' l x) : TRep w1 ok' t x := by
  unfold scalTV at h
  split at h
  all_goals first | (cases h; done) | (obtain rfl := Option.some.inj h; simp only [LRep, TRep] at hl ⊢; exact hl)
theorem scalTVs_ok {one : Bool} {h' : Hp} {ok' : Nat → Prop} {w1 : World} : ∀ {ls : List LV} {ts : List TV}, scalTVs ls = some ts → ∀ {xs : List Value}, LReps w ok ρ h' one ls xs → ValsRep w1 ok' one ts xs
  | [], ts, h, xs, hl => by
    obtain rfl := Option.some.inj h
    simp only [LReps] at hl
    simp only [ValsRep]
    exact hl
  | l :: ls, ts, h, xs, hl => by
    simp only [scalTVs] at h
    unfold consO at h
    split at h
    · rename_i h1 h2
      obtain rfl := Option.some.inj h
      simp only [LReps] at hl
      obtain ⟨v, r, rfl, k1, k2, k3⟩ := hl
      simp only [ValsRep]
      exact ⟨v, r, rfl, k1, scalTV_ok h1 k2, scalTVs_ok h2 k3⟩
    · cases h
theorem vals_pack {ag : Bool} {ts : List TV} {xs : List Value} (h : ValsRep w ok true ts xs) (hl : ag = false → ts.length = 1) : PackRep w ok ag ts (packV ag xs) := by
  unfold PackRep
  cases ag with
  | true => simp only [packV, if_true]; exact ⟨_, rfl, by simpa using h⟩
  | false =>
    have h1 := hl rfl
    match ts, h1, h with
    | [t], _, h =>
      simp only [ValsRep] at h
      obtain ⟨v, r, rfl, h2, h3, rfl⟩ := h
      simp only [packV, Bool.false_eq_true, if_false, List.headD_cons]
      exact ⟨t, rfl, h2 trivial, h3⟩

/-! ### maps: the operations -/
def setMapW (w : World) (b : Nat) (es : Array MapEntry) (clock : Nat) : World := { w with heap := w.heap.setIfInBounds b (.map es clock) }
theorem op_mkmap (g : Gam N w0 ok0 st ok ρ a w) {d : Nat} (hd : o.dst = some d) (hN : d < N) {t : TypeId} {lo : Nat} {kag vag : Bool} (ho : o.op = .makeMap t none)
    (he : mkO d (lo + d) (.map false kag vag []) (.m (lo + d)) st = some st') (hn : Into N w0 ok0 st' next) : o.wp P a w next Q := by
  obtain ⟨hid, rfl⟩ := mkO_some he
  have g1 := g.world (below_alloc w (.map #[] 0))
  have g2 := g1.adopt hid (o := .map false kag vag []) (x := some (w.heap.size, 0)) (fun b K hx => by
      have hb : w.heap.size = b := congrArg Prod.fst (Option.some.inj hx)
      subst hb
      exact ⟨g.below.size, by simp, fun h => Nat.lt_irrefl _ (g.free _ h).1, fun i p K' hi hpl hr => Nat.lt_irrefl _ (g.fresh i p _ K' hi hpl hr).2⟩)
    ⟨w.heap.size, 0, #[], 0, upd_same _ _ _, heap_alloc_new w _, rfl, by simp, by simp⟩
  refine wp_val (v := .map (some w.heap.size)) (w' := w.alloc (.map #[] 0)) (by simp [execOp, ho, Instr.makeMap]) ?_
  rw [hd]
  refine hn _ _ _ _ (g2.put hN ?_)
  simp only [LRep, MRep, upd_same]
  exact ⟨_, _, rfl, rfl⟩

theorem map_form (g : Gam N w0 ok0 st ok ρ a w) {id : Nat} {f kag vag : Bool} {ents : List (List TV × List TV)} (hid : st.hp id = some (.map f kag vag ents)) {x : Value} (hx : LRep w ok ρ st.hp (.m id) x) :
    ∃ b K es clock, x = .map (some b) ∧ ρ id = some (b, K) ∧ w.heap[b]? = some (.map es clock) ∧ EntsRep w ok kag vag ents es.toList ∧ (∀ e ∈ es.toList, e.born < clock) ∧ (es.toList.map (·.born)).Nodup := by
  simp only [LRep, hid, MRep] at hx
  obtain ⟨b, K, h1, rfl⟩ := hx
  obtain ⟨b', K', es, clock, k1, k2, k3, k4, k5⟩ := g.obj id _ hid
  rw [h1] at k1
  obtain ⟨rfl, rfl⟩ : b = b' ∧ K = K' := by simpa using k1
  exact ⟨b, K, es, clock, rfl, h1, k2, k3, k4, k5⟩

theorem op_mlen (g : Gam N w0 ok0 st ok ρ a w) {d : Nat} (hd : o.dst = some d) (hN : d < N) {t k e t1 : TypeId} {x : Operand} {x' : X} (ho : o.op = .call { callee := .builtin .len, args := #[x], argTypes := #[t] }) (hx : cX P t1 x = some x')
    (ht : P.underlying t = some (.map k e)) (he : setV st d (mlenL st.hp (x'.rd st.env)) = some st') (hn : Into N w0 ok0 st' next) : o.wp P a w next Q := by
  obtain ⟨r, hr, rfl⟩ := setV_some he
  have h1 := rd_ok g hx
  generalize x'.rd st.env = l at hr h1
  unfold mlenL at hr
  split at hr
  · rename_i id
    unfold mlenO at hr
    split at hr
    · rename_i f kag vag ents hid
      obtain rfl := Option.some.inj hr
      obtain ⟨b, K, es, clock, e1, _, k2, k3, _⟩ := map_form g hid h1
      have hl := k3.length
      refine ok_val g hd hN (v := .int .i64 ents.length) ?_ (lrep_v trep_int) hn
      have hg := Go.MapKept.run_getObj_map (P := P) k2
      simp [execOp, ho, resolve, invoke, builtin, e1, Builtin.len_, run_underlying ht, hg, goInt, ← hl]
    · cases hr
  · cases hr

theorem run_zero_pack {e : TypeId} {zs : List TV} (hz : zeroT P e = some zs) (hp : plainTy P e zs.length = true) (hzo : zeroOk P e = true) : ∃ z, (zeroValue e).run P w = .ok z w ∧ PackRep w ok (isAggB P e) zs z := by
  obtain ⟨z, hz1, hz2⟩ := zeroT_some hz
  have hzl := cVs_length hz2
  have hzc := cVs_ok (w := w) (ok := ok) (ρ := fun _ => none) (st := ⟨e0, h0⟩) hz2
  have hval : ValsRep w ok true zs z.cells.toList := ValsRep.of (by simpa using hzl.symm) fun j t' hj => by
    obtain ⟨v, k1, k2, k3⟩ := hzc.get j (.v t') (by
      have : ∀ (zs : List TV) (j : Nat) (t' : TV), zs[j]? = some t' → (liftV zs)[j]? = some (.v t') := by
        intro zs
        induction zs with
        | nil => intro j t' h; simp at h
        | cons q qs ih => intro j t' h; cases j with
          | zero => simpa [liftV] using h
          | succ j => simpa [liftV] using ih j t' (by simpa using h)
      exact this zs j t' hj)
    exact ⟨v, k1, k2, by simpa only [LRep] using k3⟩
  refine ⟨z, run_zeroValue w hz1, ?_⟩
  have hlen : isAggB P e = false → zs.length = 1 := by
    intro h
    simp only [plainTy, h, Bool.and_eq_true, Bool.false_or, beq_iff_eq] at hp
    exact hp.2
  have := vals_pack (ag := isAggB P e) hval hlen
  have e' : packV (isAggB P e) z.cells.toList = z := by
    unfold zeroOk at hzo
    rw [hz1] at hzo
    cases ha : isAggB P e with
    | true =>
      rw [ha] at hzo
      cases z <;> simp_all [packV, Value.cells]
    | false =>
      rw [ha] at hzo
      cases z <;> simp_all [packV, Value.cells]
  rwa [e'] at this

theorem op_mget (g : Gam N w0 ok0 st ok ρ a w) {d : Nat} (hd : o.dst = some d) (hN : d < N) {t k e t1 t2 : TypeId} {x y : Operand} {x' y' : X} {cok : Bool} {ks : List Lk} {zs : List TV} (ho : o.op = .lookup t x y cok) (hx : cX P t1 x = some x') (hy : cX P t2 y = some y')
    (ht : P.underlying t = some (.map k e)) (hk : flatEq P 10 k = some ks) (hz : zeroT P e = some zs) (hp : plainTy P e zs.length = true) (hzo : zeroOk P e = true)
    (he : setM st d (mgetL st.hp ks (isAggB P k) (isAggB P e) zs cok (oneOf (isAggB P k) (y'.rd st.env)) (x'.rd st.env)) = some st') (hn : Into N w0 ok0 st' next) : o.wp P a w next Q := by
  obtain ⟨r, hr, rfl⟩ := setM_some he
  have h1 := rd_ok g hx
  have h2 := rd_ok g hy
  generalize x'.rd st.env = l1 at hr h1
  generalize y'.rd st.env = l2 at hr h2
  unfold mgetL at hr
  split at hr
  · rename_i key id hkey
    unfold mgetO at hr
    split at hr
    · rename_i f kag vag ents hid
      split at hr
      · rename_i hc
        obtain ⟨rfl, rfl, hlen⟩ := hc
        obtain ⟨b, K, es, clock, e1, _, k2, k3, _⟩ := map_form g hid h1
        obtain ⟨kx, e2, hkx⟩ := oneOf_ok hkey h2
        have hg := Go.MapKept.run_getObj_map (P := P) k2
        have hck := (run_checkKey_flat (P := P) es.isEmpty 10 hk 10000 (by omega)).2 kx w (by rw [hkx.length, hlen])
        cases hf : findM ks key ents with
        | none => rw [hf] at hr; cases hr
        | some fr =>
          rw [hf] at hr
          have fin : ∀ (v : Value) (bb : Bool), LRep w ok ρ st.hp r (if cok then .tuple #[v, .bool bb] else v) → (execOp a.eval o).run P w = .ok (.value (if cok then .tuple #[v, .bool bb] else v)) w → o.wp P a w next Q :=
            fun v bb hl hrun => ok_val g hd hN hrun hl hn
          have shape : ∀ (v : Value) (bb : Bool) (cells : List TV), PackRep w ok (isAggB P e) cells v → mgetP bb cok (packL (isAggB P e) (liftV cells)) = some r → LRep w ok ρ st.hp r (if cok then .tuple #[v, .bool bb] else v) := by
            intro v bb cells hpk hm
            cases hpl : packL (isAggB P e) (liftV cells) with
            | none => rw [hpl] at hm; cases cok <;> cases hm
            | some l =>
              rw [hpl] at hm
              have hl := pack_lrep (ρ := ρ) (h := st.hp) hpk hpl
              cases cok with
              | false => obtain rfl := Option.some.inj hm; exact hl
              | true =>
                obtain rfl := Option.some.inj hm
                simp only [if_true, LRep]
                exact ⟨_, rfl, by simp only [LReps]; exact ⟨_, _, rfl, by simp, hl, _, _, rfl, by simp, by simp only [LRep, TRep], rfl⟩⟩
          rcases findM_V hkx rfl 0 k3 hf with ⟨rfl, hv⟩ | ⟨v, j, en, rfl, hv, _, hpk⟩
          · obtain ⟨z, hz1, hz2⟩ := run_zero_pack (w := w) (ok := ok) hz hp hzo
            refine fin z false (shape z false zs hz2 hr) ?_
            have hfk := run_findKey_flat hk w hv (ents_shaped k3)
            simp only [Option.map_none] at hfk
            cases cok <;> simp [execOp, ho, e1, e2, Instr.lookup, run_underlying ht, hg, hck, hfk, hz1]
          · refine fin en.val true (shape en.val true v hpk hr) ?_
            have hfk := run_findKey_flat hk w hv (ents_shaped k3)
            simp only [Option.map_some] at hfk
            cases cok <;> simp [execOp, ho, e1, e2, Instr.lookup, run_underlying ht, hg, hck, hfk]
      · cases hr
    · cases hr
  · cases hr

theorem setMap_some {h : Hp} {id : Nat} {kag vag : Bool} {x : Option (List (List TV × List TV))} (he : setMap st h id kag vag x = some st') : ∃ es, x = some es ∧ st' = { st with hp := upd h id (some (.map false kag vag es)) } := by
  cases x with
  | none => cases he
  | some es => exact ⟨es, rfl, (Option.some.inj he).symm⟩
theorem same_setMap (g : Gam N w0 ok0 st ok ρ a w) {id b K : Nat} {o' : Ob} (hid : st.hp id = some o') (hown : o'.own = true) (hr : ρ id = some (b, K)) (es : Array MapEntry) (clock : Nat) : Same w (setMapW w b es clock) ok ok := fun c hc => by
  have hne : c ≠ b := fun e => (g.free c hc).2 id _ K hid hown (e ▸ hr)
  exact ⟨by simp [setMapW, Ne.symm hne], hc⟩
theorem Gam.setMapG (g : Gam N w0 ok0 st ok ρ a w) {id b K : Nat} {kag vag : Bool} {ents ents' : List (List TV × List TV)} (hid : st.hp id = some (.map false kag vag ents)) (hr : ρ id = some (b, K)) {es es' : Array MapEntry} {clock clock' : Nat} (hb : w.heap[b]? = some (.map es clock))
    (hents : EntsRep w ok kag vag ents' es'.toList) (hbn : ∀ e ∈ es'.toList, e.born < clock') (hnd : (es'.toList.map (·.born)).Nodup) :
    Gam N w0 ok0 { st with hp := upd st.hp id (some (.map false kag vag ents')) } ok ρ a (setMapW w b es' clock') := by
  have hlt : b < w.heap.size := (Array.getElem?_eq_some_iff.1 hb).1
  refine g.turn hid rfl rfl hr (.inr (.inr ⟨_, _, _, _, _, _, rfl, rfl⟩)) ⟨rfl, rfl, rfl, by simp [setMapW], fun k hk => by simp [setMapW, Nat.ne_of_gt hk]⟩ (fun k hk => by simp [setMapW, Ne.symm hk]) (by simp [setMapW]) ?_
  exact ⟨b, K, es', clock', hr, by simp [setMapW, hlt], hents.to (same_setMap g hid rfl hr es' clock'), hbn, hnd⟩

theorem op_mdel (g : Gam N w0 ok0 st ok ρ a w) (hd : o.dst = none) {t k e u t1 t2 : TypeId} {x y : Operand} {x' y' : X} {ks : List Lk} (ho : o.op = .call { callee := .builtin .delete, args := #[x, y], argTypes := #[t, u] }) (hx : cX P t1 x = some x') (hy : cX P t2 y = some y')
    (ht : P.underlying t = some (.map k e)) (hk : flatEq P 10 k = some ks) (he : mdelL st ks (isAggB P k) (oneOf (isAggB P k) (y'.rd st.env)) (x'.rd st.env) = some st') (hn : Into N w0 ok0 st' next) : o.wp P a w next Q := by
  have h1 := rd_ok g hx
  have h2 := rd_ok g hy
  generalize x'.rd st.env = l1 at he h1
  generalize y'.rd st.env = l2 at he h2
  unfold mdelL at he
  split at he
  · rename_i key id hkey
    unfold mdelO at he
    split at he
    · rename_i kag vag ents hid
      split at he
      · rename_i hc
        obtain ⟨rfl, hlen⟩ := hc
        obtain ⟨ents', hd1, rfl⟩ := setMap_some he
        obtain ⟨b, K, es, clock, e1, hr, k2, k3, k4, k5⟩ := map_form g hid h1
        obtain ⟨kx, e2, hkx⟩ := oneOf_ok hkey h2
        have hg := Go.MapKept.run_getObj_map (P := P) k2
        have hck := (run_checkKey_flat (P := P) es.isEmpty 10 hk 10000 (by omega)).2 kx w (by rw [hkx.length, hlen])
        have fin : ∀ es' : Array MapEntry, EntsRep w ok (isAggB P k) vag ents' es'.toList → (∀ e ∈ es'.toList, e.born < clock) → (es'.toList.map (·.born)).Nodup → (execOp a.eval o).run P w = .ok (.value (.tuple #[])) (setMapW w b es' clock) → o.wp P a w next Q := by
          intro es' q1 q2 q3 hrun
          refine wp_val hrun ?_
          rw [hd]
          exact hn _ _ _ _ (g.setMapG hid hr k2 q1 q2 q3)
        rcases delM_V hkx rfl 0 k3 hd1 with ⟨hv, q1⟩ | ⟨j, en, hv, q1⟩
        · have hfk := run_findKey_flat hk w hv (ents_shaped k3)
          simp only [Option.map_none] at hfk
          have hs := Go.MapKept.run_setObj_map (P := P) (.map es clock) k2
          refine fin es q1 k4 k5 ?_
          simp [execOp, ho, resolve, invoke, builtin, e1, e2, Builtin.delete_, run_underlying ht, hg, hck, hfk, hs, setMapW]
        · have hfk := run_findKey_flat hk w hv (ents_shaped k3)
          simp only [Option.map_some, Nat.zero_add] at hfk
          have hs := Go.MapKept.run_setObj_map (P := P) (.map (es.eraseIdxIfInBounds j) clock) k2
          refine fin (es.eraseIdxIfInBounds j) (by simpa using q1) ?_ ?_ ?_
          · intro e he'
            simp only [Array.toList_eraseIdxIfInBounds] at he'
            exact k4 e (List.mem_of_mem_eraseIdx he')
          · simp only [Array.toList_eraseIdxIfInBounds]
            exact k5.sublist ((List.eraseIdx_sublist _ _).map _)
          · simp [execOp, ho, resolve, invoke, builtin, e1, e2, Builtin.delete_, run_underlying ht, hg, hck, hfk, hs, setMapW]
      · cases he
    · cases he
  · cases he

theorem op_mupd (g : Gam N w0 ok0 st ok ρ a w) (hd : o.dst = none) {t k e t1 t2 t3 : TypeId} {x y z : Operand} {x' y' z' : X} {ks : List Lk} {n : Nat} (ho : o.op = .mapUpdate t x y z) (hx : cX P t1 x = some x') (hy : cX P t2 y = some y') (hz : cX P t3 z = some z')
    (ht : P.underlying t = some (.map k e)) (hk : flatEq P 10 k = some ks) (hp : plainTy P e n = true)
    (he : mupdL st ks (isAggB P k) (isAggB P e) n (solidO st.hp (oneOf (isAggB P e) (z'.rd st.env))) (oneOf (isAggB P k) (y'.rd st.env)) (x'.rd st.env) = some st') (hn : Into N w0 ok0 st' next) : o.wp P a w next Q := by
  have h1 := rd_ok g hx
  have h2 := rd_ok g hy
  have h3 := rd_ok g hz
  generalize x'.rd st.env = l1 at he h1
  generalize y'.rd st.env = l2 at he h2
  generalize z'.rd st.env = l3 at he h3
  unfold mupdL at he
  split at he
  · rename_i key id hkey
    unfold mupdO at he
    split at he
    · rename_i kc vc is kag vag ents hkc hvc hid
      split at he
      · rename_i hc
        obtain ⟨rfl, rfl, hlen, hvl, hnot⟩ := hc
        obtain ⟨ents', hd1, rfl⟩ := setMap_some he
        obtain ⟨kx, e2, hkx⟩ := oneOf_ok hkey h2
        have hko : isAggB P k = false → kc.length = 1 := fun h => by
          rw [h] at hkey
          have := oneOf_len hkey
          have h' := (scalTVs_ok (w1 := w) (ok' := ok) hkc hkx).length
          rw [hkx.length] at h'
          omega
        obtain ⟨cs, hcs, hso⟩ : ∃ cs, oneOf (isAggB P e) l3 = some cs ∧ solidCells st.hp cs = some (vc, is) := by
          cases hoo : oneOf (isAggB P e) l3 with
          | none => rw [hoo] at hvc; cases hvc
          | some cs => rw [hoo] at hvc; exact ⟨cs, rfl, hvc⟩
        obtain ⟨vx, e3, hvx⟩ := oneOf_ok hcs h3
        have gf := g.frozen is
        have hvals := solidCells_ok g hso hvx
        have hvlen : isAggB P e = false → vc.length = 1 := fun h => by
          simp only [plainTy, h, Bool.and_eq_true, Bool.false_or, beq_iff_eq] at hp
          omega
        have hpv := vals_pack hvals hvlen
        have hpk : PackRep w (okPlus ok ρ st.hp is) (isAggB P k) kc (packV (isAggB P k) kx) := vals_pack (scalTVs_ok hkc hkx) hko
        have hid' : (Sx.freezeAll st.hp is) id = some (.map false (isAggB P k) (isAggB P e) ents) := by rw [freezeAll_not is st.hp id hnot, hid]
        have h1' : LRep w (okPlus ok ρ st.hp is) ρ (Sx.freezeAll st.hp is) (.m id) (a.eval x) := by
          simp only [LRep, hid', MRep]
          simpa only [LRep, hid, MRep] using h1
        have hkx' : LReps w (okPlus ok ρ st.hp is) ρ (Sx.freezeAll st.hp is) true key kx := by
          have hq := scalTVs_ok (w1 := w) (ok' := okPlus ok ρ st.hp is) hkc hkx
          have : ∀ {ls : List LV} {ts : List TV} {xs : List Value}, scalTVs ls = some ts → ValsRep w (okPlus ok ρ st.hp is) true ts xs → LReps w (okPlus ok ρ st.hp is) ρ (Sx.freezeAll st.hp is) true ls xs := by
            intro ls
            induction ls with
            | nil => intro ts xs h hv; obtain rfl := Option.some.inj h; simp only [ValsRep] at hv; simp only [LReps]; exact hv
            | cons l ls ih =>
              intro ts xs h hv
              simp only [scalTVs] at h
              unfold consO at h
              split at h
              · rename_i q1 q2
                obtain rfl := Option.some.inj h
                simp only [ValsRep] at hv
                obtain ⟨v, r, rfl, r1, r2, r3⟩ := hv
                simp only [LReps]
                refine ⟨v, r, rfl, r1, ?_, ih q2 r3⟩
                unfold scalTV at q1
                split at q1
                all_goals first | (cases q1; done) | (obtain rfl := Option.some.inj q1; simp only [LRep]; exact r2)
              · cases h
          exact this hkc hq
        obtain ⟨b, K, es, clock, e1, hr, k2, k3, k4, k5⟩ := map_form gf hid' h1'
        have hg := Go.MapKept.run_getObj_map (P := P) k2
        have hck := (run_checkKey_flat (P := P) false 10 hk 10000 (by omega)).2 kx w (by rw [hkx.length]; have := (scalTVs_ok (w1 := w) (ok' := ok) hkc hkx).length; rw [hkx.length] at this; omega)
        rcases updM_V (st := { st with hp := Sx.freezeAll st.hp is }) hkx' rfl hpk hpv 0 k3 hd1 with ⟨hv, q1⟩ | ⟨j, en, hv, q2, q3, q1⟩
        · have hfk := run_findKey_flat hk w hv (ents_shaped k3)
          simp only [Option.map_none] at hfk
          have hs := Go.MapKept.run_setObj_map (P := P) (.map (es.push ⟨packV (isAggB P k) kx, packV (isAggB P e) vx, clock⟩) (clock + 1)) k2
          have hrun : (execOp a.eval o).run P w = .ok .skip (setMapW w b (es.push ⟨packV (isAggB P k) kx, packV (isAggB P e) vx, clock⟩) (clock + 1)) := by
            simp [execOp, ho, e1, e2, e3, Instr.mapUpdate, run_underlying ht, hg, hck, hfk, hs, setMapW]
          refine wp_skip' hrun ?_
          refine Into.skip hd (gf.setMapG hid' hr k2 (by simpa using q1 clock) ?_ ?_) hn
          · intro e' he'
            simp only [Array.toList_push, List.mem_append, List.mem_singleton] at he'
            rcases he' with he' | rfl
            · exact Nat.lt_succ_of_lt (k4 e' he')
            · exact Nat.lt_succ_self _
          · simp only [Array.toList_push, List.map_append, List.map_cons, List.map_nil]
            rw [List.nodup_append]
            refine ⟨k5, by simp, ?_⟩
            intro x hx y hy
            obtain ⟨e', he', rfl⟩ := List.mem_map.1 hx
            simp only [List.mem_singleton] at hy
            subst hy
            exact Nat.ne_of_lt (k4 e' he')
        · have hfk := run_findKey_flat hk w hv (ents_shaped k3)
          simp only [Option.map_some, Nat.zero_add] at hfk
          have hsh : Shaped (isAggB P k) en.key := ents_shaped k3 en (List.mem_of_getElem? q2)
          have hst := run_stays (P := P) hsh (fun h => by have := hko h; omega) q3 w
          have hget : es[j]? = some en := by simpa using q2
          have hs := Go.MapKept.run_setObj_map (P := P) (.map (es.modify j fun q => { q with key := packV (isAggB P k) kx, val := packV (isAggB P e) vx }) clock) k2
          have hrun : (execOp a.eval o).run P w = .ok .skip (setMapW w b (es.modify j fun x => { x with key := packV (isAggB P k) kx, val := packV (isAggB P e) vx }) clock) := by
            simp [execOp, ho, e1, e2, e3, Instr.mapUpdate, run_underlying ht, hg, hck, hfk, hget, hst, hs, setMapW]
          have hborn : (es.modify j fun x => { x with key := packV (isAggB P k) kx, val := packV (isAggB P e) vx }).toList.map (·.born) = es.toList.map (·.born) := by
            rw [Array.toList_modify]
            apply List.ext_getElem?
            intro i
            simp only [List.getElem?_map, List.getElem?_modify]
            cases es.toList[i]? with
            | none => simp
            | some e' => by_cases hij : j = i <;> simp [hij]
          refine wp_skip' hrun ?_
          refine Into.skip hd (gf.setMapG hid' hr k2 (by rw [Array.toList_modify]; exact q1) ?_ ?_) hn
          · intro e' he'
            have : e'.born ∈ es.toList.map (·.born) := by rw [← hborn]; exact List.mem_map.2 ⟨e', he', rfl⟩
            obtain ⟨e'', h1'', h2''⟩ := List.mem_map.1 this
            rw [← h2'']
            exact k4 e'' h1''
          · rw [hborn]; exact k5
      · cases he
    · cases he
  · cases he
end
end Go.Proofs.Ytehcfmohjcjmpaa.Sx
