/- The evaluator's single operations are sound, the eighth lot: copies, bytes to a string, the least and the greatest, a made slice, equal structs. -/
import Derived.Test.YtehcfmohjcjmpaaSxOps7
import Derived.Laws.BytesString
namespace Go.Proofs.Ytehcfmohjcjmpaa.Sx
open Go Go.RowKit
section
variable {P : Program} {N : Nat} {w0 : World} {ok0 : Nat → Prop} {st st' : St} {ok : Nat → Prop} {ρ : Rho} {a : Act} {w w' : World}
  {next : Act → World → Prop} {Q : Exit → Act → World → Prop} {o : Oper}

theorem RowsAre.drop {sz : Nat} {rows : List (List TV)} {vs : List Value} (h : RowsAre w ok sz rows vs) (k : Nat) : RowsAre w ok sz (rows.drop k) (vs.drop (k * sz)) := by
  refine ⟨?_, fun v hv => h.2.1 v (List.mem_of_mem_drop hv), fun i r hi => ?_⟩
  · rw [List.length_drop, List.length_drop, h.1, Nat.sub_mul]
  · rw [List.getElem?_drop] at hi
    refine ⟨(h.2.2 _ r hi).1, fun j t hj => ?_⟩
    obtain ⟨v, k1, k2⟩ := (h.2.2 _ r hi).2 j t hj
    refine ⟨v, ?_, k2⟩
    rw [List.getElem?_drop, ← Nat.add_assoc, ← Nat.add_mul]
    exact k1

theorem op_copy (g : Gam N w0 ok0 st ok ρ a w) {d : Nat} (hd : o.dst = some d) (hN : d < N) {t u e t1 t2 : TypeId} {x y : Operand} {x' y' : X} {sz : Nat}
    (ho : o.op = .call { callee := .builtin .copy, args := #[x, y], argTypes := #[t, u] }) (hx : cX P t1 x = some x') (hy : cX P t2 y = some y') (ht : P.underlying t = some (.slice e)) (hs : size? P e = some sz)
    (he : copyK st d sz (x'.rd st.env) (rowsOf st.hp (y'.rd st.env)) = some st') (hn : Into N w0 ok0 st' next) : o.wp P a w next Q := by
  unfold copyK at he
  split at he
  · rename_i sz' new hrows
    split at he
    · rename_i hsz
      subst hsz
      obtain ⟨news, h1, h2, h3⟩ := rowsOf_ok (P := P) g hrows (rd_ok g hy)
      have hxr := rd_ok g hx
      generalize x'.rd st.env = l at he hxr
      unfold copyL at he
      split at he
      · rename_i id off len
        unfold copyO at he
        split at he
        · rename_i e' sz'' rows hid
          split at he
          · rename_i hsz2
            subst hsz2
            obtain rfl := Option.some.inj he
            simp only [LRep, hid, SRep] at hxr
            obtain ⟨ad, cap, e1, k3, k4, k5, k6⟩ := hxr
            have hmin : Nat.min new.length len ≤ new.length := Nat.min_le_left _ _
            have hfirst := h3 w (Nat.min new.length len) rfl hmin
            have hcells : (news.take (Nat.min new.length len * sz'')).length = Nat.min new.length len * sz'' := by
              rw [List.length_take, h1.1]
              exact Nat.min_eq_left (Nat.mul_le_mul_right _ hmin)
            have hlent := h2 w
            have hml : Nat.min new.length len ≤ len := Nat.min_le_right _ _
            generalize hm : Nat.min new.length len = m at *
            have hm' : min new.length len = m := hm
            rcases k6 with ⟨r1, r2, r3⟩ | ⟨b, K, r1, r2, r3⟩
            · have hl0 : len = 0 := by omega
              have hm0 : m = 0 := by omega
              rcases g.obj id _ hid with ⟨_, rfl⟩ | ⟨b', K', cur, h10, _⟩
              · refine ok_val g hd hN (v := goInt m) (l := .v (.int .i64 m)) ?_ (lrep_v trep_int) ?_
                · subst hm0
                  cases ad <;> simp [execOp, ho, resolve, invoke, builtin, e1, Builtin.copy_, run_underlying ht, hlent, run_sizeOf w hs, hm, hfirst, storeCells]
                · have hst : ({ env := upd st.env d (.v (.int .i64 (min new.length len : Nat))), hp := upd st.hp id (some (.arr false e' sz'' (List.take off [] ++ List.take (min new.length len) new ++ List.drop (off + min new.length len) []))) } : St) = st.set d (.v (.int .i64 m)) := by
                    simp only [St.set, hm']
                    congr 1
                    funext j
                    simp only [upd]
                    split
                    · rename_i ej
                      subst ej
                      rw [hid, hm0]
                      simp
                    · rfl
                  rw [hst] at hn
                  exact hn
              · rw [r1] at h10; cases h10
            · rcases g.obj id _ hid with ⟨h10, _⟩ | ⟨b', K', cur, h10, h11, h12, h13, h14, h15⟩
              · rw [r1] at h10; cases h10
              · rw [r1] at h10
                obtain ⟨rfl, rfl⟩ : b = b' ∧ K = K' := by simpa using h10
                obtain ⟨vs, j1, j2⟩ := h15.are
                have hnb : ∀ c, ok c → c ≠ b := fun c hc' e'' => (g.free c hc').2 id _ K hid rfl (e'' ▸ r1)
                have hone : ∀ v ∈ news.take (m * sz''), v.oneCell' = true := fun v hv => h1.2.1 v (List.mem_of_mem_take hv)
                have hfitR : off * sz'' + m * sz'' ≤ rows.length * sz'' := by rw [← Nat.add_mul]; exact Nat.mul_le_mul_right _ (by omega)
                have hcur : rows.length * sz'' ≤ cur.size := by rw [h12]; exact Nat.mul_le_mul_right _ h14
                have hs' : Same w (w.setRow b (cur.toList.take (off * sz'') ++ news.take (m * sz'') ++ cur.toList.drop (off * sz'' + m * sz'')).toArray) ok ok := fun c hc' => ⟨setRow_other w b c _ (hnb c hc'), hc'⟩
                have hst := run_storeCells_at P b (off * sz'') e' (news.take (m * sz'')) 0 cur w h11 (by rw [hcells]; omega) hone
                simp only [Nat.add_zero, hcells] at hst
                have hrun : (execOp a.eval o).run P w = .ok (.value (.int .i64 m)) (w.setRow b (cur.toList.take (off * sz'') ++ news.take (m * sz'') ++ cur.toList.drop (off * sz'' + m * sz'')).toArray) := by
                  rcases r3 with rfl | ⟨r3, r4⟩
                  · simp [execOp, ho, resolve, invoke, builtin, e1, Builtin.copy_, run_underlying ht, hlent, run_sizeOf w hs, hm, hfirst, hst, goInt]
                  · have hm0 : m = 0 := by omega
                    subst hm0
                    have hsame : w.setRow b (cur.toList.take (off * sz'') ++ news.take (0 * sz'') ++ cur.toList.drop (off * sz'' + 0 * sz'')).toArray = w := by
                      have := setRow_self w b cur e' (0, 0) h11
                      simpa using this
                    rw [hsame]
                    cases ad <;> simp [execOp, ho, resolve, invoke, builtin, e1, Builtin.copy_, run_underlying ht, hlent, run_sizeOf w hs, hm, hfirst, storeCells, goInt]
                have hrl : rows.length ≤ (rows.take off ++ new.take m ++ rows.drop (off + m)).length := by simp; omega
                refine wp_val hrun ?_
                rw [hd]
                have hstd : ({ env := upd st.env d (.v (.int .i64 (min new.length len : Nat))), hp := upd st.hp id (some (.arr false e' sz'' (List.take off rows ++ List.take (min new.length len) new ++ List.drop (off + min new.length len) rows))) } : St) =
                    ({ st with hp := upd st.hp id (some (.arr false e' sz'' (List.take off rows ++ List.take m new ++ List.drop (off + m) rows))) } : St).set d (.v (.int .i64 m)) := by
                  simp only [St.set, hm']
                rw [hstd] at hn
                refine hn _ _ _ _ ((g.write hid rfl (o' := .arr false e' sz'' (rows.take off ++ new.take m ++ rows.drop (off + m))) rfl r1 (.inr ⟨_, _, _, _, _, _, _, rfl, rfl, hrl⟩) _ ?_).put hN (lrep_v trep_int))
                refine .inr ⟨b, K, _, r1, setRow_same w b cur _ e' h11, ?_, h13, by simp; omega, ((((j1.take off).append (h1.take m)).append (j1.drop (off + m))).to hs').rep (setRow_same w b cur _ e' h11) ?_⟩
                · simp only [List.size_toArray, List.length_append, hcells, List.length_take, List.length_drop, Array.length_toList]
                  omega
                · intro j v hj
                  have hvl := j1.1
                  have hvc : ∀ j v, vs[j]? = some v → cur[j]? = some v := fun j v hj => by
                    have := j2 j v hj
                    rw [cell_of_row w b (0 + j) cur e' (0, 0) h11] at this
                    simpa using this
                  simp only [List.getElem?_toArray]
                  have hsp := splice_get cur.toList (news.take (m * sz'')) (off * sz'') j (by rw [hcells]; simp; omega)
                  rw [hcells] at hsp
                  rw [hsp]
                  by_cases c1 : j < off * sz''
                  · rw [if_neg (by omega)]
                    rw [List.getElem?_append_left (by simp; omega), List.getElem?_append_left (by simp; omega), List.getElem?_take, if_pos c1] at hj
                    simpa using hvc j v hj
                  · by_cases c2 : j < off * sz'' + m * sz''
                    · rw [if_pos ⟨by omega, c2⟩]
                      rw [List.getElem?_append_left (by simp [hcells]; omega), List.getElem?_append_right (by simp; omega)] at hj
                      have e : j - (vs.take (off * sz'')).length = j - off * sz'' := by simp; omega
                      rw [e] at hj
                      exact hj
                    · rw [if_neg (by omega)]
                      rw [List.getElem?_append_right (by simp [hcells]; omega), List.getElem?_drop] at hj
                      have e : (off + m) * sz'' + (j - (vs.take (off * sz'') ++ news.take (m * sz'')).length) = j := by
                        simp only [List.length_append, hcells, List.length_take, Nat.add_mul]
                        omega
                      rw [e] at hj
                      simpa using hvc j v hj
          · cases he
        · cases he
      · cases he
    · cases he
  · cases he

theorem bytesOf_ok : ∀ {rows : List (List TV)} {bs : List UInt8}, bytesOf rows = some bs → ∃ ns : List Int, rows = ns.map (fun n => [TV.int .u8 n]) ∧ bs = ns.map (fun n => UInt8.ofNat n.toNat)
  | [], bs, h => by simp only [bytesOf, Option.some.injEq] at h; subst h; exact ⟨[], rfl, rfl⟩
  | r :: rs, bs, h => by
    have key : ∃ n, r = [.int .u8 n] := by
      cases r with
      | nil => simp [bytesOf] at h
      | cons c cs => cases cs with
        | cons c' cs => simp [bytesOf] at h
        | nil => cases c with
          | int k n => cases k <;> first | exact ⟨n, rfl⟩ | simp [bytesOf] at h
          | _ => simp [bytesOf] at h
    obtain ⟨n, rfl⟩ := key
    simp only [bytesOf] at h
    cases hb : bytesOf rs with
    | none => rw [hb] at h; cases h
    | some b =>
      rw [hb] at h
      obtain rfl := Option.some.inj h
      obtain ⟨ns, h1, h2⟩ := bytesOf_ok hb
      exact ⟨n :: ns, by simp [h1], by simp [h2]⟩
theorem foldl_push (ns : List Int) : ∀ s : ByteArray, (ns.foldl (fun r n => r.push (UInt8.ofNat n.toNat)) s) = ⟨s.data ++ (ns.map (fun n => UInt8.ofNat n.toNat)).toArray⟩ := by
  induction ns with
  | nil => intro s; simp
  | cons n ns ih =>
    intro s
    rw [List.foldl_cons, ih]
    simp [ByteArray.push]

theorem rowsB_of {h : Hp} {l : LV} {r : Nat × List (List TV)} (e : rowsB h l = some r) : rowsOf h l = some r := by
  unfold rowsB at e
  split at e
  · exact e
  · exact e
  · cases e
theorem op_b2s (g : Gam N w0 ok0 st ok ρ a w) {d : Nat} (hd : o.dst = some d) (hN : d < N) {src dst e t1 : TypeId} {x : Operand} {x' : X} (ho : o.op = .convert src dst x) (hx : cX P t1 x = some x')
    (hs : P.underlying src = some (.slice e)) (he8 : P.underlying e = some (.int .u8)) (hdst : P.underlying dst = some .string)
    (he : setV st d (b2sK (rowsB st.hp (x'.rd st.env))) = some st') (hn : Into N w0 ok0 st' next) : o.wp P a w next Q := by
  obtain ⟨r, hr, rfl⟩ := setV_some he
  unfold b2sK at hr
  split at hr
  · rename_i rows hrowsB
    have hns : ∀ z, x'.rd st.env ≠ .v (.str z) := fun z e => by rw [e] at hrowsB; cases hrowsB
    have hrows := rowsB_of hrowsB
    obtain ⟨news, h1, h2, h3⟩ := rowsOf_ok (P := P) g hrows (rd_ok g hx)
    cases hb : bytesOf rows with
    | none => rw [hb] at hr; cases hr
    | some bs =>
      rw [hb] at hr
      obtain rfl := Option.some.inj hr
      obtain ⟨ns, rfl, rfl⟩ := bytesOf_ok hb
      have hnews : news = ns.map (Value.int .u8) := by
        apply List.ext_getElem?
        intro i
        rcases Nat.lt_or_ge i ns.length with hi | hi
        · obtain ⟨v, k1, k2⟩ := (h1.2.2 i [TV.int .u8 ns[i]] (by simp [hi])).2 0 _ rfl
          simp only [TRep] at k2
          subst k2
          simp at k1
          rw [k1]
          simp [hi]
        · have hl := h1.1
          simp at hl
          rw [List.getElem?_eq_none (by omega), List.getElem?_eq_none (by simpa using hi)]
      obtain ⟨ad, cap, hev⟩ : ∃ ad cap, a.eval x = .slice ad ns.length cap := by
        have hxr := rd_ok g hx
        generalize x'.rd st.env = l at hrows hxr hns
        unfold rowsOf at hrows
        split at hrows
        · simp only [Option.some.injEq, Prod.mk.injEq] at hrows
          obtain ⟨ad, cap, e1, _⟩ := sl_form hxr
          rw [hrows.2] at e1
          exact ⟨ad, cap, by simpa using e1⟩
        · exact absurd rfl (hns _)
        · rename_i id off len
          unfold rowsS at hrows
          split at hrows
          · rename_i hid
            simp only [Option.some.injEq, Prod.mk.injEq] at hrows
            simp only [LRep, hid, SRep] at hxr
            obtain ⟨ad, cap, e1, k3, _⟩ := hxr
            have := congrArg List.length hrows.2
            simp at this
            exact ⟨ad, cap, by rw [e1]; congr 1; omega⟩
          · cases hrows
        · cases hrows
      have hlast := h3 w ns.length rfl (by simp)
      rw [hev, hnews] at hlast
      refine ok_val g hd hN (v := .string _) ?_ (lrep_v trep_str) hn
      cases ad with
      | none =>
        have hz : ns = [] := by
          have hlm : (ns.map (Value.int .u8)).take ns.length = ns.map (Value.int .u8) := List.take_of_length_le (by simp)
          simp only [Builtin.firstCells, Sem.run_pure, Nat.mul_one, hlm] at hlast
          have := Result.ok.inj hlast
          have := this.1
          cases ns with
          | nil => rfl
          | cons n ns => simp at this
        subst hz
        simp [execOp, ho, hev, run_convert_bytes_string w src dst e none 0 cap hs he8 hdst, Conv.bytesToString]
        rfl
      | some ad =>
        have hlm : (ns.map (Value.int .u8)).take ns.length = ns.map (Value.int .u8) := List.take_of_length_le (by simp)
        simp only [Builtin.firstCells, Nat.mul_one, hlm] at hlast
        have := run_bytesToString (P := P) w ad ns.length cap ns hlast
        rw [foldl_push] at this
        simp [execOp, ho, hev, run_convert_bytes_string w src dst e (some ad) ns.length cap hs he8 hdst, this]
  · cases hr

theorem minGo_ok {k : IntKind} : ∀ {ls : List LV} {xs : List Value} {m : Int} {r : LV}, LReps w ok ρ st.hp false ls xs → minGo k m ls = some r → ∃ v, (xs.foldlM Builtin.min2 (.int k m)).run P w = .ok v w ∧ LRep w ok ρ st.hp r v
  | [], xs, m, r, h, hm => by
    simp only [LReps] at h
    subst h
    simp only [minGo, Option.some.injEq] at hm
    subst hm
    exact ⟨.int k m, rfl, lrep_v trep_int⟩
  | l :: ls, xs, m, r, h, hm => by
    simp only [LReps] at h
    obtain ⟨v, xs', rfl, _, h3, h4⟩ := h
    have key : ∃ k' y, l = .v (.int k' y) := by
      cases l with
      | v t => cases t with
        | int k' y => exact ⟨k', y, rfl⟩
        | _ => simp [minGo] at hm
      | _ => simp [minGo] at hm
    obtain ⟨k', y, rfl⟩ := key
    simp only [minGo] at hm
    have e1 := lv_int h3
    subst e1
    obtain ⟨v, h5, h6⟩ := minGo_ok h4 hm
    exact ⟨v, by simpa [List.foldlM_cons, Builtin.min2] using h5, h6⟩
theorem maxGo_ok {k : IntKind} : ∀ {ls : List LV} {xs : List Value} {m : Int} {r : LV}, LReps w ok ρ st.hp false ls xs → maxGo k m ls = some r → ∃ v, (xs.foldlM Builtin.max2 (.int k m)).run P w = .ok v w ∧ LRep w ok ρ st.hp r v
  | [], xs, m, r, h, hm => by
    simp only [LReps] at h
    subst h
    simp only [maxGo, Option.some.injEq] at hm
    subst hm
    exact ⟨.int k m, rfl, lrep_v trep_int⟩
  | l :: ls, xs, m, r, h, hm => by
    simp only [LReps] at h
    obtain ⟨v, xs', rfl, _, h3, h4⟩ := h
    have key : ∃ k' y, l = .v (.int k' y) := by
      cases l with
      | v t => cases t with
        | int k' y => exact ⟨k', y, rfl⟩
        | _ => simp [maxGo] at hm
      | _ => simp [maxGo] at hm
    obtain ⟨k', y, rfl⟩ := key
    simp only [maxGo] at hm
    have e1 := lv_int h3
    subst e1
    obtain ⟨v, h5, h6⟩ := maxGo_ok h4 hm
    exact ⟨v, by simpa [List.foldlM_cons, Builtin.max2] using h5, h6⟩
theorem op_mn (g : Gam N w0 ok0 st ok ρ a w) {d : Nat} (hd : o.dst = some d) (hN : d < N) {ts : Array TypeId} {us : List TypeId} {xs : Array Operand} {ys : List X} (ho : o.op = .call { callee := .builtin .min, args := xs, argTypes := ts }) (hx : cXs P us xs.toList = some ys)
    (he : setM st d (foldMin (rds st.env ys)) = some st') (hn : Into N w0 ok0 st' next) : o.wp P a w next Q := by
  obtain ⟨r, hr, rfl⟩ := setM_some he
  have h := rds_ok g hx
  generalize rds st.env ys = ls at hr h
  generalize hxs : xs.toList.map a.eval = vs at h
  unfold foldMin at hr
  split at hr
  · simp only [LReps] at h
    obtain ⟨v, vs', rfl, _, h3, h4⟩ := h
    have e1 := lv_int h3
    subst e1
    obtain ⟨v, h5, h6⟩ := minGo_ok (P := P) h4 hr
    refine ok_val g hd hN (v := v) ?_ h6 hn
    simp [execOp, ho, resolve, invoke, builtin, Builtin.min_, hxs, h5]
  · cases hr
theorem op_mx (g : Gam N w0 ok0 st ok ρ a w) {d : Nat} (hd : o.dst = some d) (hN : d < N) {ts : Array TypeId} {us : List TypeId} {xs : Array Operand} {ys : List X} (ho : o.op = .call { callee := .builtin .max, args := xs, argTypes := ts }) (hx : cXs P us xs.toList = some ys)
    (he : setM st d (foldMax (rds st.env ys)) = some st') (hn : Into N w0 ok0 st' next) : o.wp P a w next Q := by
  obtain ⟨r, hr, rfl⟩ := setM_some he
  have h := rds_ok g hx
  generalize rds st.env ys = ls at hr h
  generalize hxs : xs.toList.map a.eval = vs at h
  unfold foldMax at hr
  split at hr
  · simp only [LReps] at h
    obtain ⟨v, vs', rfl, _, h3, h4⟩ := h
    have e1 := lv_int h3
    subst e1
    obtain ⟨v, h5, h6⟩ := maxGo_ok (P := P) h4 hr
    refine ok_val g hd hN (v := v) ?_ h6 hn
    simp [execOp, ho, resolve, invoke, builtin, Builtin.max_, hxs, h5]
  · cases hr

theorem op_mkslice (g : Gam N w0 ok0 st ok ρ a w) {d : Nat} (hd : o.dst = some d) (hN : d < N) {t e t1 t2 : TypeId} {x y : Operand} {x' y' : X} {lo : Nat} {i : TypeInfo} {zs : List TV} (ho : o.op = .makeSlice t x y) (hx : cX P t1 x = some x') (hy : cX P t2 y = some y')
    (ht : P.underlying t = some (.slice e)) (hi : P.info? e = some i) (hz : zeroT P e = some zs) (hzl : zs.length = i.size) (hb : 0 < i.bytes) (hsz : 0 < i.size)
    (he : mksK lo st d e zs i.bytes (x'.rd st.env) (y'.rd st.env) = some st') (hn : Into N w0 ok0 st' next) : o.wp P a w next Q := by
  have h1 := rd_ok g hx
  have h2 := rd_ok g hy
  generalize x'.rd st.env = l1 at he h1
  generalize y'.rd st.env = l2 at he h2
  unfold mksK at he
  split at he
  · rename_i n c
    split at he
    · rename_i hc
      obtain ⟨h0, rfl, hby⟩ := hc
      have e1 := lv_int h1
      have e2 := lv_int h2
      obtain ⟨z, hz1, hz2⟩ := zeroT_some hz
      have hzc := cVs_ok (w := w) (ok := ok) (ρ := ρ) (st := st) hz2
      have hzlen := cVs_length hz2
      simp only [Array.length_toList] at hzlen
      have hz1' : i.zero = some z := by rw [hi] at hz1; exact hz1
      have hnb : c ≤ 140737488355328 := by
        have : c * 1 ≤ c * (i.bytes : Int) := Int.mul_le_mul_of_nonneg_left (by omega) h0
        omega
      have hrun := run_make (P := P) w t e i z ht hi hz1' .i64 .i64 c c h0 (Int.le_refl _) (by rw [Int.mul_comm]; omega) (by omega)
      have hval : ValsRep w ok true zs z.cells.toList := ValsRep.of (by simpa using hzlen.symm) fun j t' hj => by
        obtain ⟨v, k1, k2, k3⟩ := hzc.get j (.v t') (by
          have : ∀ (zs : List TV) (j : Nat) (t' : TV), zs[j]? = some t' → (liftV zs)[j]? = some (.v t') := by
            intro zs
            induction zs with
            | nil => intro j t' h; simp at h
            | cons q qs ih => intro j t' h; cases j with
              | zero => simpa [liftV] using h
              | succ j => simpa [liftV] using ih j t' (by simpa using h)
          exact this zs j t' hj)
        exact ⟨v, k1, k2, by simpa only [LRep] using k3⟩
      have hone := RowsAre.one hval
      have hall : ∀ m : Nat, RowsAre w ok zs.length (List.replicate m zs) (List.replicate m z.cells.toList).flatten := by
        intro m
        induction m with
        | zero => exact RowsAre.nil
        | succ m ih => simpa [List.replicate_succ] using hone.append ih
      have hsz' : 0 < z.cells.size := by omega
      refine ok_arr g hd hN he (cap := c.toNat) (w1 := w) (cur := madeCells z.cells (c.toNat * i.size)) (vs := (List.replicate c.toNat z.cells.toList).flatten) ?_ (.inl rfl) (hall c.toNat) ?_ (by rw [size_madeCells, hzl]) (by simp only [maxLen]; omega) (by simp) (by simp) hn
      · simp [execOp, ho, e1, e2, hrun]
      · intro j v hj
        have hjl := (List.getElem?_eq_some_iff.1 hj).1
        have lenR : ∀ m : Nat, (List.replicate m z.cells.toList).flatten.length = m * z.cells.size := fun m => by
          induction m with
          | zero => simp
          | succ m ih => rw [List.replicate_succ, List.flatten_cons, List.length_append, ih, Nat.add_mul, Nat.one_mul, Array.length_toList, Nat.add_comm]
        have hl : (List.replicate c.toNat z.cells.toList).flatten.length = c.toNat * i.size := by rw [lenR, ← hzlen, hzl]
        have hgetR : ∀ (m j : Nat), j < m * z.cells.size → (List.replicate m z.cells.toList).flatten[j]? = z.cells.toList[j % z.cells.size]? := fun m => by
          induction m with
          | zero => intro j hj; simp at hj
          | succ m ih =>
            intro j hj
            rw [Nat.add_mul, Nat.one_mul] at hj
            rw [List.replicate_succ, List.flatten_cons]
            by_cases hlt : j < z.cells.size
            · rw [List.getElem?_append_left (by simpa using hlt), Nat.mod_eq_of_lt hlt]
            · rw [List.getElem?_append_right (by simpa using hlt), Array.length_toList, ih (j - z.cells.size) (by omega), Nat.mod_eq_sub_mod (show j ≥ z.cells.size by omega)]
        have hget := hgetR c.toNat j (by rw [← lenR]; exact hjl)
        rw [hget] at hj
        have hlt : j % z.cells.size < z.cells.size := Nat.mod_lt _ hsz'
        have hj2 : j < c.toNat * i.size := by omega
        simp only [madeCells, Array.getElem?_map]
        rw [Array.getElem?_eq_getElem (by simpa using hj2)]
        simp only [Option.map_some, Array.getElem_range]
        rw [← hj]
        simp [hlt]
    · cases he
  · cases he
end
end Go.Proofs.Ytehcfmohjcjmpaa.Sx
