/- DiagramMoves: a dart at another vertex; a dart at two. -/
import Derived.Test.YtehcfmohjcjmpaaSxA
import Derived.Test.YtehcfmohjcjmpaaSxCnt
namespace Go.Proofs.Ytehcfmohjcjmpaa.Sx
open Go
/-- without a dart -/
def woD (x : Dart) (v : Vx) : Vx := reR v (turn (v.ring.filter (fun y => decide (¬ y = x))))
def movV (v : List Vx) (x : Dart) (k : Nat) (hk : k < v.length) : List Vx := (v.map (woD x)).set k (reR v[k] (insR (woD x v[k]).ring Dart0 x))
def twoV (v : List Vx) (x : Dart) (k : Nat) (hk : k < v.length) : List Vx := v.set k (reR v[k] (insR v[k].ring Dart0 x))
theorem wo_not (x : Dart) (v : Vx) : x ∉ (woD x v).ring := fun h => by
  have := ((rot_turn (v.ring.filter (fun y => decide (¬ y = x)))).mem x).2 h
  simp at this
theorem wo_nodup {x : Dart} {v : Vx} (h : v.ring.Nodup) : (woD x v).ring.Nodup := (rot_turn _).nodup (h.filter _)
theorem wo_count (x : Dart) (v : Vx) (y : Dart) : (woD x v).ring.count y = if y = x then 0 else v.ring.count y := by
  show (turn _).count y = _
  rw [← (rot_turn _).count, count_filter_ne]
theorem ins_count {r : List Dart} {a x : Dart} (hx : x ∉ r) (y : Dart) : (insR r a x).count y = r.count y + if y = x then 1 else 0 := by
  rw [insR_eq hx, ← (rot_turn _).count, count_insL]
theorem ins_turned {r : List Dart} (hn : r.Nodup) {a x : Dart} (hx : x ∉ r) : insR r a x = turn (insR r a x) := by
  rw [insR_eq hx, turn_turn (insL_nodup hn hx)]
theorem set_map_of {β : Type} (f : Vx → β) (hf : ∀ u r, f (reR u r) = f u) {v m : List Vx} {k : Nat} (hk : k < v.length) (r : List Dart) (hm : m.map f = v.map f) : (m.set k (reR v[k] r)).map f = v.map f := by
  have hl : m.length = v.length := by have := congrArg List.length hm; simpa using this
  rw [map_set_of f (by omega) (x := reR v[k] r) ?_, hm]
  rw [hf]
  have h1 : (m.map f)[k]'(by simp; omega) = (v.map f)[k]'(by simpa using hk) := by simp only [hm]
  simpa using h1.symm
theorem wo_map {β : Type} (f : Vx → β) (hf : ∀ u r, f (reR u r) = f u) (x : Dart) (v : List Vx) : (v.map (woD x)).map f = v.map f := by
  rw [List.map_map]
  exact List.map_congr_left fun u _ => hf u _
theorem mov_map {β : Type} (f : Vx → β) (hf : ∀ u r, f (reR u r) = f u) (v : List Vx) (x : Dart) (k : Nat) (hk : k < v.length) : (movV v x k hk).map f = v.map f := set_map_of f hf hk _ (wo_map f hf x v)
theorem two_map {β : Type} (f : Vx → β) (hf : ∀ u r, f (reR u r) = f u) (v : List Vx) (x : Dart) (k : Nat) (hk : k < v.length) : (twoV v x k hk).map f = v.map f := set_map_of f hf hk _ rfl
theorem mov_form {v : List Vx} {es : List Ed} {x : Dart} {k : Nat} (h : formC v es = 0) (hk : k < v.length) (hx : x ∈ allR v) : formC (movV v x k hk) es = 0 := by
  obtain ⟨hw, _, _⟩ := formC_ok.1 h
  refine form_same h (wf_of_count hw (mov_map _ (fun _ _ => rfl) v x k hk) (fun u hu => ?_) fun y => ?_) (mov_map _ (fun _ _ => rfl) v x k hk) (mov_map _ (fun _ _ => rfl) v x k hk)
  · rcases List.mem_or_eq_of_mem_set hu with hu | rfl
    · obtain ⟨z, hz, rfl⟩ := List.mem_map.1 hu
      exact (turn_turn ((ring_nodup hw.nd hz).filter _)).symm
    · exact ins_turned (wo_nodup (ring_nodup hw.nd (List.getElem_mem hk))) (wo_not x _)
  · have hk' : k < (v.map (woD x)).length := by simpa using hk
    have h1 := count_set hk' (reR v[k] (insR (woD x v[k]).ring Dart0 x)) y
    have h2 := count_map (woD x) y (fun n => if y = x then 0 else n) (fun a b => by split <;> rfl) (fun u => wo_count x u y) v
    have h3 : (reR v[k] (insR (woD x v[k]).ring Dart0 x)).ring.count y = (woD x v[k]).ring.count y + if y = x then 1 else 0 := ins_count (wo_not x _) y
    rw [List.getElem_map, h3, h2] at h1
    have h4 : (allR v).count x = 1 := count_one hw.nd hx
    unfold movV
    by_cases e : y = x
    · subst e
      simp only [if_true] at h1
      omega
    · simp only [if_neg e] at h1
      omega
theorem two_form {v : List Vx} {es : List Ed} {x : Dart} {k : Nat} (h : formC v es = 0) (hk : k < v.length) (hx : x ∈ allR v) (hnot : x ∉ v[k].ring) : formC (twoV v x k hk) es = 10 := by
  obtain ⟨hw, _, _⟩ := formC_ok.1 h
  refine formC_no (by unfold twoV; rw [List.length_set]; exact hw.lv) hw.le (not_wf_count (y := x) ?_)
  have h1 := count_set hk (reR v[k] (insR v[k].ring Dart0 x)) x
  have h3 : (reR v[k] (insR v[k].ring Dart0 x)).ring.count x = v[k].ring.count x + if x = x then 1 else 0 := ins_count hnot x
  have h4 : (allR v).count x = 1 := count_one hw.nd hx
  rw [h3, if_pos rfl] at h1
  unfold twoV
  omega
theorem mov_at {v : List Vx} {es : List Ed} {x : Dart} {k : Nat} (h : formC v es = 0) (hk : k < v.length) (hx : x ∈ allR v) : ∃ u, atBy (movV v x k hk) x = some u ∧ u.id = v[k].id := by
  obtain ⟨hw, _, _⟩ := formC_ok.1 (mov_form h hk hx)
  have hm : reR v[k] (insR (woD x v[k]).ring Dart0 x) ∈ movV v x k hk := List.mem_set (by simpa using hk) _
  refine ⟨_, atBy_mem hw.nd hm ?_, rfl⟩
  show x ∈ insR _ _ _
  have := ins_count (a := Dart0) (wo_not x v[k]) x
  rw [if_pos rfl] at this
  exact List.count_pos_iff.1 (by omega)
theorem mov_ne {v : List Vx} {es : List Ed} {x : Dart} {k : Nat} (h : formC v es = 0) (hk : k < v.length) (hx : x ∈ allR v) (hnot : x ∉ v[k].ring) : movV v x k hk ≠ v := fun e => by
  have hl : k < (movV v x k hk).length := by rw [e]; exact hk
  have h1 : (movV v x k hk)[k] = v[k] := by simp only [e]
  have h2 : (movV v x k hk)[k] = reR v[k] (insR (woD x v[k]).ring Dart0 x) := List.getElem_set_self (l := v.map (woD x)) hl
  rw [h1] at h2
  have h3 := ins_count (a := Dart0) (wo_not x v[k]) x
  rw [if_pos rfl] at h3
  have h4 : x ∈ v[k].ring := by
    rw [h2]
    show x ∈ insR _ _ _
    exact List.count_pos_iff.1 (by omega)
  exact hnot h4
def mixV (x : Dart) (v : List Vx) (i : Nat) : List Vx := (v.take i).map (woD x) ++ v.drop i
theorem mix_at {x : Dart} {v : List Vx} {i : Nat} (h : i < v.length) : (mixV x v i)[i]? = some v[i] := by
  unfold mixV
  rw [List.getElem?_append_right (by simp; omega), List.length_map, List.length_take, Nat.min_eq_left (by omega), Nat.sub_self, List.getElem?_drop, Nat.add_zero, List.getElem?_eq_getElem h]
theorem mix_len (x : Dart) (v : List Vx) (i : Nat) : (mixV x v i).length = v.length := by
  unfold mixV; rw [List.length_append, List.length_map, List.length_take, List.length_drop]; omega
theorem mix_set {x : Dart} {v : List Vx} {i : Nat} (h : i < v.length) : (mixV x v i).set i (woD x v[i]) = mixV x v (i + 1) := by
  unfold mixV
  rw [List.set_append_right _ _ (by rw [List.length_map, List.length_take]; omega), List.length_map, List.length_take, Nat.min_eq_left (by omega), Nat.sub_self, List.drop_eq_getElem_cons h, List.set_cons_zero, List.take_succ_eq_append_getElem h, List.map_append, List.append_assoc]
  rfl
theorem moves_l1 (v : List Vx) (e : List Ed) (x : Dart) (k : Nat) (hv : v.length ≤ 100) (hr : FitsR v) : E (call F) 0 f7_l1 (⟨(upd (upd (upd (upd (upd (upd (upd Sx.e0 12 (.v (.int .i64 (0)))) 11 (.p 11 0)) 10 (.p 10 0)) 7 (.v (.bool true))) 4 (.p 4 0)) 3 (.p 3 0)) 2 (.v (.int .i64 ((k : Int))))), (upd (upd (upd (upd (upd (upd (upd (upd (upd (upd Sx.h0 10705 (some (.arr false 47 4 (rowsBy Ed.c e)))) 10704 (some (.arr false 38 5 (rowsBy Vx.c v)))) 10641 (some (.arr false 47 4 (rowsBy Ed.c e)))) 10640 (some (.arr false 38 5 (rowsBy Vx.c (v))))) 10193 (some (.arr true 47 4 (rowsBy Ed.c e)))) 10192 (some (.arr true 38 5 (rowsBy Vx.c v)))) 11 (some (.var false [(.s 10704 0 v.length), (.s 10705 0 e.length)]))) 10 (some (.var false [(.s 10640 0 v.length), (.s 10641 0 e.length)]))) 4 (some (.var false [(.v (.int .i64 (x.e.s))), (.v (.int .i64 (x.e.n))), (.v (.int .i64 (x.d)))]))) 3 (some (.var false [(.s 10192 0 v.length), (.s 10193 0 e.length)])))⟩ : St) = some (.exit 0, (⟨(upd (upd (upd (upd (upd (upd Sx.e0 11 (.p 11 0)) 10 (.p 10 0)) 7 (.v (.bool true))) 4 (.p 4 0)) 3 (.p 3 0)) 2 (.v (.int .i64 ((k : Int))))), (upd (upd (upd (upd (upd (upd (upd (upd (upd (upd Sx.h0 10705 (some (.arr false 47 4 (rowsBy Ed.c e)))) 10704 (some (.arr false 38 5 (rowsBy Vx.c v)))) 10641 (some (.arr false 47 4 (rowsBy Ed.c e)))) 10640 (some (.arr false 38 5 (rowsBy Vx.c (v.map (woD x)))))) 10193 (some (.arr true 47 4 (rowsBy Ed.c e)))) 10192 (some (.arr true 38 5 (rowsBy Vx.c v)))) 11 (some (.var false [(.s 10704 0 v.length), (.s 10705 0 e.length)]))) 10 (some (.var false [(.s 10640 0 v.length), (.s 10641 0 e.length)]))) 4 (some (.var false [(.v (.int .i64 (x.e.s))), (.v (.int .i64 (x.e.n))), (.v (.int .i64 (x.d)))]))) 3 (some (.var false [(.s 10192 0 v.length), (.s 10193 0 e.length)])))⟩ : St)) := by
  have l1 : E (call F) 0 f7_l1 (⟨(upd (upd (upd (upd (upd (upd (upd Sx.e0 12 (.v (.int .i64 (0)))) 11 (.p 11 0)) 10 (.p 10 0)) 7 (.v (.bool true))) 4 (.p 4 0)) 3 (.p 3 0)) 2 (.v (.int .i64 ((k : Int))))), (upd (upd (upd (upd (upd (upd (upd (upd (upd (upd Sx.h0 10705 (some (.arr false 47 4 (rowsBy Ed.c e)))) 10704 (some (.arr false 38 5 (rowsBy Vx.c v)))) 10641 (some (.arr false 47 4 (rowsBy Ed.c e)))) 10640 (some (.arr false 38 5 (rowsBy Vx.c (mixV x v 0))))) 10193 (some (.arr true 47 4 (rowsBy Ed.c e)))) 10192 (some (.arr true 38 5 (rowsBy Vx.c v)))) 11 (some (.var false [(.s 10704 0 v.length), (.s 10705 0 e.length)]))) 10 (some (.var false [(.s 10640 0 v.length), (.s 10641 0 e.length)]))) 4 (some (.var false [(.v (.int .i64 (x.e.s))), (.v (.int .i64 (x.e.n))), (.v (.int .i64 (x.d)))]))) 3 (some (.var false [(.s 10192 0 v.length), (.s 10193 0 e.length)])))⟩ : St) = some (.exit 0, (⟨(upd (upd (upd (upd (upd (upd Sx.e0 11 (.p 11 0)) 10 (.p 10 0)) 7 (.v (.bool true))) 4 (.p 4 0)) 3 (.p 3 0)) 2 (.v (.int .i64 ((k : Int))))), (upd (upd (upd (upd (upd (upd (upd (upd (upd (upd Sx.h0 10705 (some (.arr false 47 4 (rowsBy Ed.c e)))) 10704 (some (.arr false 38 5 (rowsBy Vx.c v)))) 10641 (some (.arr false 47 4 (rowsBy Ed.c e)))) 10640 (some (.arr false 38 5 (rowsBy Vx.c (v.map (woD x)))))) 10193 (some (.arr true 47 4 (rowsBy Ed.c e)))) 10192 (some (.arr true 38 5 (rowsBy Vx.c v)))) 11 (some (.var false [(.s 10704 0 v.length), (.s 10705 0 e.length)]))) 10 (some (.var false [(.s 10640 0 v.length), (.s 10641 0 e.length)]))) 4 (some (.var false [(.v (.int .i64 (x.e.s))), (.v (.int .i64 (x.e.n))), (.v (.int .i64 (x.d)))]))) 3 (some (.var false [(.s 10192 0 v.length), (.s 10193 0 e.length)])))⟩ : St)) := by
    refine loop_to (b := f7_b1) (fun q0 => (⟨(upd (upd (upd (upd (upd (upd (upd Sx.e0 12 (.v (.int .i64 ((q0 : Int))))) 11 (.p 11 0)) 10 (.p 10 0)) 7 (.v (.bool true))) 4 (.p 4 0)) 3 (.p 3 0)) 2 (.v (.int .i64 ((k : Int))))), (upd (upd (upd (upd (upd (upd (upd (upd (upd (upd Sx.h0 10705 (some (.arr false 47 4 (rowsBy Ed.c e)))) 10704 (some (.arr false 38 5 (rowsBy Vx.c v)))) 10641 (some (.arr false 47 4 (rowsBy Ed.c e)))) 10640 (some (.arr false 38 5 (rowsBy Vx.c (mixV x v q0))))) 10193 (some (.arr true 47 4 (rowsBy Ed.c e)))) 10192 (some (.arr true 38 5 (rowsBy Vx.c v)))) 11 (some (.var false [(.s 10704 0 v.length), (.s 10705 0 e.length)]))) 10 (some (.var false [(.s 10640 0 v.length), (.s 10641 0 e.length)]))) 4 (some (.var false [(.v (.int .i64 (x.e.s))), (.v (.int .i64 (x.e.n))), (.v (.int .i64 (x.d)))]))) 3 (some (.var false [(.s 10192 0 v.length), (.s 10193 0 e.length)])))⟩ : St)) (v.length) ?_ ?_ (by simp)
    · intro i hi
      have hiz : (i : Int) < (v.length : Int) := by omega
      have hg := mix_at (x := x) hi
      have hil : i < (mixV x v i).length := by rw [mix_len]; exact hi
      have hgr : (rowsBy Vx.c (mixV x v i))[i]? = some (Vx.c v[i]) := by
        rw [rowsBy_get Vx.c hil]
        rw [List.getElem?_eq_getElem hil] at hg
        rw [Option.some.inj hg]
      have hs : (rowsBy Vx.c (mixV x v i)).set i (Vx.c (woD x v[i])) = rowsBy Vx.c (mixV x v (i + 1)) := by rw [rowsBy_set, mix_set hi]
      simp only [Vx.c, woD, reR] at hs
      have rm := i_r03_Remove v[i].ring x (hr _ (List.getElem_mem hi))
      generalize turn (v[i].ring.filter (fun y => decide (¬ y = x))) = r at *
      simp only [f7_b1, hiz, hgr, Vx.c, rm, hs, wrap_succ hi (show v.length ≤ 9223372036854775807 by omega), List.set_cons_zero, List.set_cons_succ, go_sem, reduceIte, Nat.reduceEqDiff, Nat.reduceAdd, Nat.reduceMul, Nat.reduceLeDiff, Nat.reduceBEq, List.length_cons, List.length_nil, not_false_eq_true, Nat.testBit, Nat.reduceShiftRight, Nat.reduceAnd, Nat.reduceBNe]
    · rw [show mixV x v v.length = v.map (woD x) by unfold mixV; rw [List.take_length, List.drop_length, List.append_nil]]
      simp only [f7_b1, dec_ge (Nat.le_refl v.length), go_sem, reduceIte, Nat.reduceEqDiff, Nat.reduceAdd, Nat.reduceLeDiff, List.length_cons, List.length_nil]
  exact l1
set_option maxHeartbeats 2000000 in
theorem t_moves (vs : List Vx) (es : List Ed) (x : Dart) (a : Int) : call F 7 [.agg [.sl .shared 5 (rowsBy Vx.c vs), .sl .shared 4 (rowsBy Ed.c es)], .agg [.int .i64 x.e.s, .int .i64 x.e.n, .int .i64 x.d], .int .i64 a] = some (.bool true) := by
  have cf := c_few vs es
  have hr := fewVx_fits 30 30 (by decide) vs
  have h30 := fewVx_ring 30 30 vs
  have hvl := fewVx_len 30 30 vs
  have hel : (es.take 50).length ≤ 50 := by rw [List.length_take]; omega
  generalize fewVx 30 30 vs = v at *
  generalize es.take 50 = e at *
  have hlv : Fits v := Fits.of (by omega)
  have f1 := i_diagram_Form v e hr
  have a1 := i_At v x hlv hr (.sl .shared 4 (rowsBy Ed.c e))
  by_cases hok : formC v e = 0
  case neg =>
    have hd : decide (¬ formC v e = 0) = true := dec_t hok
    cases ha : atBy v x with
    | none =>
      rw [ha] at a1
      simp only [atT, idT] at a1
      rw [call_code F (show F 7 = some (.code f7) from rfl)]
      simp only [f7, cf, c_shown, a1, f1, hd, rowsBy_takeAll, go_sem, reduceIte, reduceCtorEq, Nat.reduceEqDiff, Nat.reduceAdd, Nat.reduceMul, Nat.reduceLeDiff, List.length_cons, List.length_nil, ne_eq, Nat.testBit, Nat.reduceShiftRight, Nat.reduceAnd, Nat.reduceBNe]
    | some u =>
      rw [ha] at a1
      simp only [atT, idT] at a1
      rw [call_code F (show F 7 = some (.code f7) from rfl)]
      simp only [f7, cf, c_shown, a1, f1, hd, rowsBy_takeAll, go_sem, reduceIte, reduceCtorEq, Nat.reduceEqDiff, Nat.reduceAdd, Nat.reduceMul, Nat.reduceLeDiff, List.length_cons, List.length_nil, ne_eq, Nat.testBit, Nat.reduceShiftRight, Nat.reduceAnd, Nat.reduceBNe]
  rw [hok] at f1
  cases ha : atBy v x with
  | none =>
    rw [ha] at a1
    simp only [atT, idT] at a1
    rw [call_code F (show F 7 = some (.code f7) from rfl)]
    simp only [f7, cf, c_shown, a1, f1, rowsBy_takeAll, go_sem, reduceIte, reduceCtorEq, Nat.reduceEqDiff, Nat.reduceAdd, Nat.reduceMul, Nat.reduceLeDiff, List.length_cons, List.length_nil, ne_eq, not_true_eq_false, Nat.testBit, Nat.reduceShiftRight, Nat.reduceAnd, Nat.reduceBNe]
  | some u =>
    rw [ha] at a1
    simp only [atT, idT] at a1
    by_cases hz : a < 0
    · have hz0 : decide (a < 0) = true := dec_t hz
      rw [call_code F (show F 7 = some (.code f7) from rfl)]
      simp only [f7, cf, c_shown, a1, f1, hz0, rowsBy_takeAll, go_sem, reduceIte, reduceCtorEq, Nat.reduceEqDiff, Nat.reduceAdd, Nat.reduceMul, Nat.reduceLeDiff, List.length_cons, List.length_nil, ne_eq, not_true_eq_false, Nat.testBit, Nat.reduceShiftRight, Nat.reduceAnd, Nat.reduceBNe]
    · have hz0 : decide (a < 0) = false := dec_f hz
      by_cases hg : (v.length : Int) ≤ a
      · have hg1 : decide (a ≥ (v.length : Int)) = true := dec_t hg
        rw [call_code F (show F 7 = some (.code f7) from rfl)]
        simp only [f7, cf, c_shown, a1, f1, hz0, hg1, rowsBy_takeAll, go_sem, reduceIte, reduceCtorEq, Nat.reduceEqDiff, Nat.reduceAdd, Nat.reduceMul, Nat.reduceLeDiff, List.length_cons, List.length_nil, ne_eq, not_true_eq_false, Nat.testBit, Nat.reduceShiftRight, Nat.reduceAnd, Nat.reduceBNe]
      · obtain ⟨k, rfl⟩ : ∃ k : Nat, a = (k : Int) := ⟨a.toNat, by omega⟩
        have hk : k < v.length := by omega
        have hkz : (k : Int) < (v.length : Int) := by omega
        have hg1 : decide ((k : Int) ≥ (v.length : Int)) = false := dec_f (by omega)
        obtain ⟨hum, hux⟩ := atBy_some ha
        obtain ⟨hw, _, _⟩ := formC_ok.1 hok
        by_cases hid : v[k].id = u.id
        · have hid0 := dec_t hid
          rw [call_code F (show F 7 = some (.code f7) from rfl)]
          simp only [f7, cf, c_shown, a1, f1, hz0, hg1, hkz, rowsBy_get Vx.c hk, Vx.c, hid0, rowsBy_takeAll, go_sem, reduceIte, reduceCtorEq, Nat.reduceEqDiff, Nat.reduceAdd, Nat.reduceMul, Nat.reduceLeDiff, List.length_cons, List.length_nil, ne_eq, not_true_eq_false, Nat.testBit, Nat.reduceShiftRight, Nat.reduceAnd, Nat.reduceBNe]
        · have hid0 := dec_f hid
          have hx : x ∈ allR v := (allR_mem v x).2 ⟨u, hum, hux⟩
          have hnot : x ∉ v[k].ring := fun h => hid (by rw [at_one hw.nd (List.getElem_mem hk) hum h hux])
          have c1 := i_diagram_Clone v e (by omega) (by omega) hr
          have l1 := moves_l1 v e x k (by omega) hr
          have h3 := h30 _ (List.getElem_mem hk)
          have hwl : (woD x v[k]).ring.length ≤ 30 := by
            show (turn _).length ≤ _
            rw [turn_length]
            exact Nat.le_trans (List.length_filter_le _ _) h3
          have i1 := i_r03_Insert (woD x v[k]).ring Dart0 x (by omega)
          have i2 := i_r03_Insert v[k].ring Dart0 x (by omega)
          have hkm : k < (v.map (woD x)).length := by rw [List.length_map]; exact hk
          have g1 : (rowsBy Vx.c (v.map (woD x)))[k]? = some (Vx.c (woD x v[k])) := by rw [rowsBy_get Vx.c hkm, List.getElem_map]
          have s1 : (rowsBy Vx.c (v.map (woD x))).set k (Vx.c (reR v[k] (insR (woD x v[k]).ring Dart0 x))) = rowsBy Vx.c (movV v x k hk) := by rw [rowsBy_set]; rfl
          have s2 : (rowsBy Vx.c v).set k (Vx.c (reR v[k] (insR v[k].ring Dart0 x))) = rowsBy Vx.c (twoV v x k hk) := by rw [rowsBy_set]; rfl
          have lm : (movV v x k hk).length = v.length := by unfold movV; rw [List.length_set, List.length_map]
          have lt : (twoV v x k hk).length = v.length := by unfold twoV; rw [List.length_set]
          have insl : ∀ r : List Dart, r.length ≤ 30 → Fits (insR r Dart0 x) := fun r hr => by
            unfold insR
            split
            · exact Fits.of (by rw [turn_length]; omega)
            · refine Fits.of ?_
              rw [turn_length, List.length_append, List.length_append, List.length_take, List.length_drop]; simp; omega
          have hrm : FitsR (movV v x k hk) := fun z hz => by
            rcases List.mem_or_eq_of_mem_set hz with hz | rfl
            · obtain ⟨y, hy, rfl⟩ := List.mem_map.1 hz
              refine Fits.of ?_
              show (turn _).length ≤ _
              rw [turn_length]
              have := h30 _ hy
              exact Nat.le_trans (List.length_filter_le _ _) (by omega)
            · exact insl _ hwl
          have hrt : FitsR (twoV v x k hk) := fun z hz => by
            rcases List.mem_or_eq_of_mem_set hz with hz | rfl
            · exact hr _ hz
            · exact insl _ h3
          have fm := i_diagram_Form (movV v x k hk) e hrm
          have ft := i_diagram_Form (twoV v x k hk) e hrt
          rw [mov_form hok hk hx] at fm
          rw [two_form hok hk hx hnot] at ft
          obtain ⟨w, hwa, hwi⟩ := mov_at hok hk hx
          have am := i_At (movV v x k hk) x (Fits.of (by omega)) hrm (.sl .shared 4 (rowsBy Ed.c e))
          rw [hwa] at am
          simp only [atT, idT, hwi] at am
          have sm := i_diagram_Same (movV v x k hk) v e e (Fits.of (by omega)) hrm (Fits.of (by omega))
          rw [dec_f (mov_ne hok hk hx hnot), Bool.false_and] at sm
          have tm : (movV v x k hk).take v.length = movV v x k hk := List.take_of_length_le (by omega)
          have tt : (twoV v x k hk).take v.length = twoV v x k hk := List.take_of_length_le (by omega)
          simp only [Vx.c, woD, reR] at g1 s1 s2 i1
          simp only [Dart0, ID0] at i1 i2 s1 s2
          generalize movV v x k hk = M at *
          generalize twoV v x k hk = T at *
          have hle := len_eq (n := v.length) (m := v.length) rfl
          rw [call_code F (show F 7 = some (.code f7) from rfl)]
          simp only [f7, cf, c_shown, a1, f1, hz0, hg1, hkz, rowsBy_get Vx.c hk, Vx.c, hid0, c1, l1, g1, s1, s2, i1, i2, fm, ft, am, sm, tm, tt, decide_true, Int.natCast_nonneg, and_self, List.set_cons_zero, List.set_cons_succ, rowsBy_takeAll, go_sem, reduceIte, reduceCtorEq, Nat.reduceEqDiff, Nat.reduceAdd, Nat.reduceMul, Nat.reduceLeDiff, Nat.reduceBEq, List.length_cons, List.length_nil, ne_eq, not_true_eq_false, not_false_eq_true, Nat.testBit, Nat.reduceShiftRight, Nat.reduceAnd, Nat.reduceBNe]
end Go.Proofs.Ytehcfmohjcjmpaa.Sx
