/- The evaluator's single operations are sound, the seventh lot: append, copy. -/
import Derived.Test.YtehcfmohjcjmpaaSxOps6
namespace Go.Proofs.Ytehcfmohjcjmpaa.Sx
open Go Go.RowKit
section
variable {P : Program} {N : Nat} {w0 : World} {ok0 : Nat → Prop} {st st' : St} {ok : Nat → Prop} {ρ : Rho} {a : Act} {w w' : World}
  {next : Act → World → Prop} {Q : Exit → Act → World → Prop} {o : Oper}

theorem cVs_length : ∀ {ts : List TypeId} {vs : List Value} {zs : List TV}, cVs P ts vs = some zs → zs.length = vs.length
  | [], [], zs, h => by simp only [cVs, Option.some.injEq] at h; subst h; rfl
  | [], _ :: _, zs, h => by simp only [cVs] at h; cases h
  | _ :: _, [], zs, h => by simp only [cVs] at h; cases h
  | t :: ts, v :: vs, zs, h => by
    simp only [cVs] at h
    split at h
    · rename_i x xs hx hxs
      obtain rfl := Option.some.inj h
      simp [cVs_length hxs]
    · cases h

/-- an empty slice that lies nowhere yet -/
theorem ok_empty (g : Gam N w0 ok0 st ok ρ a w) {d : Nat} (hd : o.dst = some d) (hN : d < N) {id : Nat} {e : TypeId} {sz : Nat} (hm : mkO d id (.arr false e sz []) (.s id 0 0) st = some st') {ad : Option Addr}
    (hrun : (execOp a.eval o).run P w = .ok (.value (.slice ad 0 0)) w) (hn : Into N w0 ok0 st' next) : o.wp P a w next Q := by
  obtain ⟨hid, rfl⟩ := mkO_some hm
  have g1 := g.adopt hid (o := .arr false e sz []) (x := none) (by simp) (.inl ⟨upd_same _ _ _, rfl⟩)
  refine wp_val hrun ?_
  rw [hd]
  refine hn _ _ _ _ (g1.put hN ?_)
  simp only [LRep, SRep, upd_same]
  exact ⟨ad, 0, rfl, Nat.le_refl _, Nat.le_refl _, Nat.zero_le _, .inl (by simp)⟩

theorem kill_none {id k : Nat} {h : Hp} (hk : upd h id (some .dead) k = none) : h k = none := by
  by_cases e : k = id
  · subst e; rw [upd_same] at hk; cases hk
  · rwa [upd_ne _ _ e] at hk

theorem news_all {sz : Nat} {new : List (List TV)} {news : List Value} (hnews : RowsAre w ok sz new news) : news.take (new.length * sz) = news := List.take_of_length_le (by rw [hnews.1]; exact Nat.le_refl _)

section
variable {d : Nat} {t u e : TypeId} {x y : Operand} {lo : Nat} {i : TypeInfo} {z : Value} {new : List (List TV)} {news : List Value}
  (ho : o.op = .call { callee := .builtin .append, args := #[x, y], argTypes := #[t, u] }) (ht : P.underlying t = some (.slice e)) (hu : (∃ e', P.underlying u = some (.slice e')) ∨ P.underlying u = some .string)
  (hi : P.info? e = some i) (hz : i.zero = some z) (hzs : z.cells.size = i.size)
  (hnews : RowsAre w ok i.size new news) (hlen : ∀ w1 : World, (Builtin.lenOf (a.eval y)).run P w1 = .ok new.length w1)
  (hfirst : ∀ (w1 : World) (n : Nat), w1.heap = w.heap → n ≤ new.length → (Builtin.firstCells i.size n (a.eval y)).run P w1 = .ok (news.take (n * i.size)).toArray w1)
include ho ht hu hi hz hzs hnews hlen hfirst

/-- a new block is made -/
theorem ok_far {st0 : St} (g : Gam N w0 ok0 st0 ok ρ a w) (hd : o.dst = some d) (hN : d < N) {rows : List (List TV)} {olds : List Value} (holds : RowsAre w ok i.size rows olds) {ad : Option Addr} {cap : Nat} (hx : a.eval x = .slice ad rows.length cap)
    (hold : ∀ w1 : World, w1.heap = w.heap → (Builtin.firstCells i.size rows.length (.slice ad rows.length cap)).run P w1 = .ok olds.toArray w1)
    (hg : cap < rows.length + new.length) (hby : (rows.length + new.length) * i.bytes ≤ 140737488355328) (h63 : rows.length + new.length ≤ maxLen)
    (hm : mkO d (lo + d) (.arr false e i.size (rows ++ new)) (.s (lo + d) 0 (rows.length + new.length)) st0 = some st') (hn : Into N w0 ok0 st' next) : o.wp P a w next Q := by
  have hnew := hfirst w.drew new.length rfl (Nat.le_refl _)
  rw [news_all hnews] at hnew
  have hrun := run_append_far (P := P) w t u o.type e i z ht hu hi hz ad rows.length cap olds (hold w.drew rfl) (a.eval y) new.length news (hlen w) hnew hg h63 hby
  have hge := grownCap_ge w (rows.length + new.length) cap e
  refine ok_arr g hd hN hm (cap := grownCap w (rows.length + new.length) cap e) (w1 := w.drew)
    (cur := (olds ++ news ++ (Builtin.zeroCells z.cells (grownCap w (rows.length + new.length) cap e - (rows.length + new.length))).toList).toArray) (vs := olds ++ news) ?_ (.inr rfl) (holds.append hnews) ?_ ?_ (grownCap_le_maxLen w _ _ _ h63) (by simp) (by simpa using hge) hn
  · simp [execOp, ho, resolve, invoke, builtin, hx, hrun]
  · intro j v hj
    simp only [List.getElem?_toArray]
    rw [List.getElem?_append_left (List.getElem?_eq_some_iff.1 hj).1]
    exact hj
  · simp only [List.size_toArray, List.length_append, Array.length_toList, size_zeroCells, hzs, holds.1, hnews.1]
    rw [← Nat.add_mul, ← Nat.add_mul]
    congr 1
    omega

omit hz hzs hnews in
theorem ok_none (hx : ∃ ad len cap, a.eval x = .slice ad len cap ∧ len ≤ cap) (h0 : new = []) : (execOp a.eval o).run P w = .ok (.value (a.eval x)) w := by
  obtain ⟨ad, len, cap, hx, hle⟩ := hx
  subst h0
  have hnew := hfirst w 0 rfl (Nat.le_refl _)
  have hrun := run_append_none (P := P) w t u o.type e i ht hu hi ad len cap (a.eval y) (hlen w) (by simpa using hnew) hle
  simp [execOp, ho, resolve, invoke, builtin, hx, hrun]

theorem append_ok (g : Gam N w0 ok0 st ok ρ a w) (hd : o.dst = some d) (hN : d < N) {l : LV} (hx : LRep w ok ρ st.hp l (a.eval x)) (hb : 0 < i.bytes) (hbs : 0 < i.size)
    (he : appL lo st d e i.size i.bytes new l = some st') (hn : Into N w0 ok0 st' next) : o.wp P a w next Q := by
  have small : ∀ {m : Nat}, m * i.bytes ≤ 140737488355328 → m ≤ maxLen := fun {m} h => by
    have := Nat.le_mul_of_pos_right m hb
    simp only [maxLen]
    omega
  unfold appL at he
  split at he
  · rename_i te sz' rows
    split at he
    · rename_i hsz
      subst hsz
      obtain ⟨ad, cap, e1, h3, h4, h5, h6⟩ := sl_form hx
      obtain rfl := h5 _ rfl
      cases rows with
      | nil =>
        simp only [appT] at he
        split at he
        · rename_i hby
          cases new with
          | nil =>
            have hr := ok_none ho ht hu hi hlen hfirst ⟨ad, _, _, e1, Nat.le_refl _⟩ rfl
            rw [e1] at hr
            exact ok_empty g hd hN he hr hn
          | cons q qs =>
            refine ok_far ho ht hu hi hz hzs hnews hlen hfirst g hd hN (rows := []) (olds := []) (lo := lo) RowsAre.nil e1 (fun w1 _ => ?_) (by simp) (by simpa using hby) (small (by simpa using hby)) (by simpa using he) hn
            cases ad <;> simp [Builtin.firstCells, loadCells, loadCellsFrom]
        · cases he
      | cons r rows =>
        simp only [appT] at he
        split at he
        · rename_i hem
          obtain rfl : new = [] := by simpa using hem
          obtain rfl := Option.some.inj he
          refine ok_val g hd hN (v := a.eval x) (ok_none ho ht hu hi hlen hfirst ⟨ad, _, _, e1, Nat.le_refl _⟩ rfl) ?_ hn
          refine lrep_v ?_
          simp only [TRep]
          exact ⟨ad, _, _, e1, rfl, Nat.le_refl _, h4, fun _ _ => rfl, h6⟩
        · split at he
          · rename_i hem hby
            rcases h6 with h6 | ⟨b, o', rfl, hbk, hr⟩
            · cases h6
            · obtain ⟨vs, k1, k2⟩ := hr.are
              refine ok_far ho ht hu hi hz hzs hnews hlen hfirst g hd hN (rows := r :: rows) (olds := vs) (lo := lo) k1 e1 (fun w1 hw => ?_) ?_ hby (small hby) he hn
              · exact run_first_rows w1 i.size _ b o' _ vs k1.1 (fun j v hj => by
                  have := k2 j v hj
                  simpa [World.cell?, hw] using this)
              · cases new with
                | nil => simp at hem
                | cons q qs => simp
          · cases he
    · cases he
  · rename_i id len
    unfold appS at he
    split at he
    · rename_i e' sz' rows hid
      split at he
      · rename_i hc
        obtain ⟨rfl, rfl, hby⟩ := hc
        simp only [LRep, hid, SRep] at hx
        obtain ⟨ad, cap, e1, h3, h4, h5, h6⟩ := hx
        have hm := he
        have hidk := (mkO_some hm).1
        have gk := g.kill id
        rcases h6 with ⟨r1, r2, _⟩ | ⟨b, K, r1, r2, r3⟩
        · have hlen0 : len = 0 := by omega
          subst hlen0
          subst r2
          rcases g.obj id _ hid with ⟨_, rfl⟩ | ⟨b', K', cur, h10, _⟩
          · cases new with
            | nil =>
              have hr := ok_none ho ht hu hi hlen hfirst ⟨ad, _, _, e1, Nat.le_refl _⟩ rfl
              rw [e1] at hr
              exact ok_empty gk hd hN (by simpa using hm) hr hn
            | cons q qs =>
              refine ok_far ho ht hu hi hz hzs hnews hlen hfirst gk hd hN (rows := []) (olds := []) (lo := lo) RowsAre.nil e1 (fun w1 _ => ?_) (by simp) (by simpa using hby) (small (by simpa using hby)) (by simpa using hm) hn
              cases ad <;> simp [Builtin.firstCells, loadCells, loadCellsFrom]
          · rw [r1] at h10; cases h10
        · rcases g.obj id _ hid with ⟨h10, _⟩ | ⟨b', K', cur, h10, h11, h12, h13, h14, h15⟩
          · rw [r1] at h10; cases h10
          · rw [r1] at h10
            obtain ⟨rfl, rfl⟩ : b = b' ∧ K = K' := by simpa using h10
            rcases r3 with rfl | ⟨_, r4⟩
            · simp only [Nat.zero_mul] at e1
              obtain rfl : cap = K := by omega
              obtain ⟨vs, k1, k2⟩ := (h15.take len).are
              have hlr : (rows.take len).length = len := by simp; omega
              have k2' : ∀ j v, vs[j]? = some v → cur[j]? = some v := fun j v hj => by
                have := k2 j v hj
                rw [cell_of_row w b (0 + j) cur e' (0, 0) h11] at this
                simpa using this
              by_cases hroom : len + new.length ≤ cap
              · have hnew := hfirst w new.length rfl (Nat.le_refl _)
                rw [news_all hnews] at hnew
                have hfit : len * i.size + news.length ≤ cur.size := by rw [hnews.1, h12, ← Nat.add_mul]; exact Nat.mul_le_mul_right _ hroom
                have hrun := run_append_near (P := P) w t u o.type e' i ht hu hi b len cap cur h11 (a.eval y) new.length news (hlen w) hnew hnews.2.1 hroom hfit
                obtain ⟨hk0, rfl⟩ := mkO_some hm
                have hnb : ∀ c, ok c → c ≠ b := fun c hc' e'' => (g.free c hc').2 id _ cap hid rfl (e'' ▸ r1)
                have hs' : Same w (w.setRow b (cur.toList.take (len * i.size) ++ news ++ cur.toList.drop (len * i.size + news.length)).toArray) ok ok := fun c hc' => ⟨setRow_other w b c _ (hnb c hc'), hc'⟩
                have hvl : vs.length = len * i.size := by rw [k1.1, hlr]
                refine wp_val (v := .slice (some ⟨b, 0, none⟩) (len + new.length) cap) (w' := w.setRow b (cur.toList.take (len * i.size) ++ news ++ cur.toList.drop (len * i.size + news.length)).toArray) ?_ ?_
                · simp [execOp, ho, resolve, invoke, builtin, e1, hrun]
                · rw [hd]
                  refine hn _ _ _ _ ((g.moveIn hk0 hid rfl (o' := .arr false e' i.size (rows.take len ++ new)) rfl r1 (K' := cap) _ ?_).put hN ?_)
                  · refine .inr ⟨b, cap, _, upd_same _ _ _, setRow_same w b cur _ e' h11, ?_, h13, by simp; omega, ((k1.to hs').append (hnews.to hs')).rep (setRow_same w b cur _ e' h11) ?_⟩
                    · simp only [List.size_toArray, List.length_append, List.length_take, List.length_drop, Array.length_toList]
                      omega
                    · intro j v hj
                      simp only [List.getElem?_toArray]
                      rw [splice_get cur.toList news (len * i.size) j (by simpa using hfit)]
                      by_cases hj1 : j < vs.length
                      · rw [List.getElem?_append_left hj1] at hj
                        rw [if_neg (by omega)]
                        simpa using k2' j v hj
                      · rw [List.getElem?_append_right (by omega)] at hj
                        have hj2 := (List.getElem?_eq_some_iff.1 hj).1
                        rw [if_pos ⟨by omega, by omega⟩]
                        rw [show j - len * i.size = j - vs.length by omega]
                        exact hj
                  · simp only [LRep, SRep, upd_same]
                    exact ⟨_, cap, rfl, by simp; omega, hroom, h13, .inr ⟨b, cap, rfl, by omega, .inl (by simp)⟩⟩
              · refine ok_far ho ht hu hi hz hzs hnews hlen hfirst gk hd hN (rows := rows.take len) (olds := vs) (lo := lo) (ad := some ⟨b, 0, none⟩) (cap := cap) k1 (by rw [hlr]; exact e1) (fun w1 hw => ?_) (by rw [hlr]; omega) (by rw [hlr]; exact hby) (small (by rw [hlr]; exact hby)) (by rw [hlr]; exact hm) hn
                exact run_first_rows w1 i.size _ b 0 _ vs k1.1 (fun j v hj => by
                  have := k2 j v hj
                  simpa [World.cell?, hw] using this)
            · cases r4
      · cases he
    · cases he
  · cases he
end

theorem op_append (g : Gam N w0 ok0 st ok ρ a w) {d : Nat} (hd : o.dst = some d) (hN : d < N) {t u e t1 t2 : TypeId} {x y : Operand} {x' y' : X} {lo : Nat} {i : TypeInfo} {zs : List TV}
    (ho : o.op = .call { callee := .builtin .append, args := #[x, y], argTypes := #[t, u] }) (hx : cX P t1 x = some x') (hy : cX P t2 y = some y') (ht : P.underlying t = some (.slice e)) (hu : (∃ e', P.underlying u = some (.slice e')) ∨ P.underlying u = some .string)
    (hi : P.info? e = some i) (hz : zeroT P e = some zs) (hzl : zs.length = i.size) (hb : 0 < i.bytes) (hbs : 0 < i.size)
    (he : appK lo st d e i.size i.bytes (x'.rd st.env) (rowsOf st.hp (y'.rd st.env)) = some st') (hn : Into N w0 ok0 st' next) : o.wp P a w next Q := by
  unfold appK at he
  split at he
  · rename_i sz' new hrows
    split at he
    · rename_i hsz
      subst hsz
      obtain ⟨news, h1, h2, h3⟩ := rowsOf_ok (P := P) g hrows (rd_ok g hy)
      obtain ⟨z, hz1, hz2⟩ := zeroT_some hz
      rw [hi] at hz1
      exact append_ok ho ht hu hi hz1 (by have := cVs_length hz2; simp at this; omega) h1 h2 h3 g hd hN (rd_ok g hx) hb hbs he hn
    · cases he
  · cases he
end
end Go.Proofs.Ytehcfmohjcjmpaa.Sx
