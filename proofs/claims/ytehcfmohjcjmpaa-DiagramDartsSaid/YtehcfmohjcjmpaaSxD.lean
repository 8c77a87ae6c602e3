/- DiagramDarts: each edge's darts stand at one vertex; without an edge it is not well formed. -/
import Derived.Test.YtehcfmohjcjmpaaSxA
import Derived.Test.YtehcfmohjcjmpaaSxWf
namespace Go.Proofs.Ytehcfmohjcjmpaa.Sx
open Go
theorem allR_succ {l : List Vx} {i : Nat} (h : i < l.length) : (allR (l.take (i + 1))).length = (allR (l.take i)).length + l[i].ring.length := by
  unfold allR
  rw [List.take_succ_eq_append_getElem h, List.map_append, List.flatten_append, List.length_append]; simp
theorem allR_le {l : List Vx} {k : Nat} (hr : ∀ v ∈ l, v.ring.length ≤ k) : ∀ i, (allR (l.take i)).length ≤ i * k
  | 0 => by simp [allR]
  | i + 1 => by
    have := allR_le hr i
    by_cases h : i < l.length
    · rw [allR_succ h]
      have h1 := hr _ (List.getElem_mem h)
      rw [Nat.add_mul]; omega
    · rw [List.take_of_length_le (by omega), ← List.take_of_length_le (show l.length ≤ i by omega)]; exact Nat.le_trans this (Nat.mul_le_mul_right _ (Nat.le_succ i))
theorem less_bad {l : List Vx} {es : List Ed} (h : WF l es) {k : Nat} (hk : k < es.length) : formC l (es.take k ++ es.drop (k + 1)) = 10 := by
  have hl := h.lv
  have he := h.le
  refine formC_no hl (by rw [List.length_append, List.length_take, List.length_drop]; omega) fun hw => ?_
  have h1 : (⟨es[k].id, 0⟩ : Dart) ∈ allR l := (h.mem _).2 (dartsE_mem.2 ⟨_, List.getElem_mem hk, .inl rfl⟩)
  obtain ⟨f, hf, hff⟩ := dartsE_mem.1 ((hw.mem _).1 h1)
  have hid : f.id = es[k].id := by rcases hff with e | e <;> simp at e; exact e.symm
  have hs := List.pairwise_iff_getElem.1 h.se.2
  have hne : ∀ j (hj : j < es.length), j ≠ k → es[j].id ≠ es[k].id := fun j hj hjk e => by
    rcases Nat.lt_or_gt_of_ne hjk with hlt | hgt
    · have := hs j k (by simpa using hj) (by simpa using hk) hlt
      simp only [List.getElem_map] at this
      rw [e] at this
      exact ltI_irrefl _ this
    · have := hs k j (by simpa using hk) (by simpa using hj) hgt
      simp only [List.getElem_map] at this
      rw [e] at this
      exact ltI_irrefl _ this
  rcases List.mem_append.1 hf with hf | hf
  · obtain ⟨j, hj, rfl⟩ := List.mem_iff_getElem.1 hf
    rw [List.length_take] at hj
    rw [List.getElem_take] at hid
    exact hne j (by omega) (by omega) hid
  · obtain ⟨j, hj, rfl⟩ := List.mem_iff_getElem.1 hf
    rw [List.length_drop] at hj
    rw [List.getElem_drop] at hid
    exact hne (k + 1 + j) (by omega) (by omega) hid
theorem darts_l2 (v : List Vx) (e : List Ed) (a : Int) (n : Nat) (i : Nat) (hi : i < v.length) (hw : WF v e) (hr : FitsR v) : E (call F) 0 f8_l2 (⟨(upd (upd (upd (upd (upd (upd Sx.e0 8 (.v (.int .i64 (0)))) 7 (.v (.int .i64 ((i : Int))))) 6 (.v (.int .i64 ((n : Int))))) 5 (.v (.bool true))) 2 (.p 2 0)) 1 (.v (.int .i64 (a)))), (upd (upd (upd Sx.h0 10129 (some (.arr false 47 4 (rowsBy Ed.c e)))) 10128 (some (.arr false 38 5 (rowsBy Vx.c v)))) 2 (some (.var false [(.s 10128 0 v.length), (.s 10129 0 e.length)])))⟩ : St) =
    some (.exit 2, (⟨(upd (upd (upd (upd (upd Sx.e0 7 (.v (.int .i64 ((i : Int))))) 6 (.v (.int .i64 ((n : Int))))) 5 (.v (.bool true))) 2 (.p 2 0)) 1 (.v (.int .i64 (a)))), (upd (upd (upd Sx.h0 10129 (some (.arr false 47 4 (rowsBy Ed.c e)))) 10128 (some (.arr false 38 5 (rowsBy Vx.c v)))) 2 (some (.var false [(.s 10128 0 v.length), (.s 10129 0 e.length)])))⟩ : St)) := by
  have hlv : Fits v := Fits.of (by have := hw.lv; omega)
  have hle : Fits e := Fits.of (by have := hw.le; omega)
  have hiz : (i : Int) < (v.length : Int) := by omega
  have hrl := (hr _ (List.getElem_mem hi)).le
  have l1 : E (call F) 0 f8_l2 (⟨(upd (upd (upd (upd (upd (upd Sx.e0 8 (.v (.int .i64 (0)))) 7 (.v (.int .i64 ((i : Int))))) 6 (.v (.int .i64 ((n : Int))))) 5 (.v (.bool true))) 2 (.p 2 0)) 1 (.v (.int .i64 (a)))), (upd (upd (upd Sx.h0 10129 (some (.arr false 47 4 (rowsBy Ed.c e)))) 10128 (some (.arr false 38 5 (rowsBy Vx.c v)))) 2 (some (.var false [(.s 10128 0 v.length), (.s 10129 0 e.length)])))⟩ : St) = some (.exit 2, (⟨(upd (upd (upd (upd (upd Sx.e0 7 (.v (.int .i64 ((i : Int))))) 6 (.v (.int .i64 ((n : Int))))) 5 (.v (.bool true))) 2 (.p 2 0)) 1 (.v (.int .i64 (a)))), (upd (upd (upd Sx.h0 10129 (some (.arr false 47 4 (rowsBy Ed.c e)))) 10128 (some (.arr false 38 5 (rowsBy Vx.c v)))) 2 (some (.var false [(.s 10128 0 v.length), (.s 10129 0 e.length)])))⟩ : St)) := by
    refine loop_to (b := f8_b2) (fun q0 => (⟨(upd (upd (upd (upd (upd (upd Sx.e0 8 (.v (.int .i64 ((q0 : Int))))) 7 (.v (.int .i64 ((i : Int))))) 6 (.v (.int .i64 ((n : Int))))) 5 (.v (.bool true))) 2 (.p 2 0)) 1 (.v (.int .i64 (a)))), (upd (upd (upd Sx.h0 10129 (some (.arr false 47 4 (rowsBy Ed.c e)))) 10128 (some (.arr false 38 5 (rowsBy Vx.c v)))) 2 (some (.var false [(.s 10128 0 v.length), (.s 10129 0 e.length)])))⟩ : St)) (v[i].ring.length) ?_ ?_ (by simp)
    · intro k hk
      have hkz : (k : Int) < (v[i].ring.length : Int) := by omega
      have hx := atBy_mem hw.nd (List.getElem_mem hi) (List.getElem_mem hk)
      have a1 := i_At v v[i].ring[k] hlv hr (.sl .shared 4 (rowsBy Ed.c e))
      rw [hx] at a1
      have hm : v[i].ring[k] ∈ dartsE e := (hw.mem _).1 ((allR_mem v _).2 ⟨_, List.getElem_mem hi, List.getElem_mem hk⟩)
      obtain ⟨f, hf, hff⟩ := dartsE_mem.1 hm
      have hid : v[i].ring[k].e = f.id := by rcases hff with h | h <;> rw [h]
      have e1 := i_diagram_Edge e v[i].ring[k].e hle v
      rw [hid, edBy_mem hw.se hf, ← hid] at e1
      simp only [atT, edT, idT] at a1 e1
      simp only [f8_b2, hiz, hkz, rowsBy_get Vx.c hi, Vx.c, rowsBy_get Dart.c hk, Dart.c, a1, e1, decide_true, wrap_succ hk (show v[i].ring.length ≤ 9223372036854775807 by omega), rowsBy_takeAll, go_sem, reduceIte, Nat.reduceEqDiff, Nat.reduceAdd, Nat.reduceMul, Nat.reduceLeDiff, Nat.reduceBEq, List.length_cons, List.length_nil, Nat.testBit, Nat.reduceShiftRight, Nat.reduceAnd, Nat.reduceBNe]
    · simp only [f8_b2, hiz, rowsBy_get Vx.c hi, Vx.c, dec_ge (Nat.le_refl v[i].ring.length), go_sem, reduceIte, Nat.reduceEqDiff, Nat.reduceAdd, Nat.reduceLeDiff, List.length_cons, List.length_nil]
  exact l1
theorem darts_l1 (v : List Vx) (e : List Ed) (a : Int) (hw : WF v e) (hr : FitsR v) (h30 : ∀ x ∈ v, x.ring.length ≤ 30) : E (call F) 0 f8_l1 (⟨(upd (upd (upd (upd (upd Sx.e0 7 (.v (.int .i64 (0)))) 6 (.v (.int .i64 (0)))) 5 (.v (.bool true))) 2 (.p 2 0)) 1 (.v (.int .i64 (a)))), (upd (upd (upd Sx.h0 10129 (some (.arr false 47 4 (rowsBy Ed.c e)))) 10128 (some (.arr false 38 5 (rowsBy Vx.c v)))) 2 (some (.var false [(.s 10128 0 v.length), (.s 10129 0 e.length)])))⟩ : St) =
    some (.exit 0, (⟨(upd (upd (upd (upd Sx.e0 6 (.v (.int .i64 (((allR v).length : Int))))) 5 (.v (.bool true))) 2 (.p 2 0)) 1 (.v (.int .i64 (a)))), (upd (upd (upd Sx.h0 10129 (some (.arr false 47 4 (rowsBy Ed.c e)))) 10128 (some (.arr false 38 5 (rowsBy Vx.c v)))) 2 (some (.var false [(.s 10128 0 v.length), (.s 10129 0 e.length)])))⟩ : St)) := by
  have hlv := hw.lv
  have l1 : E (call F) 0 f8_l1 (⟨(upd (upd (upd (upd (upd Sx.e0 7 (.v (.int .i64 (0)))) 6 (.v (.int .i64 (((allR (v.take 0)).length : Int))))) 5 (.v (.bool true))) 2 (.p 2 0)) 1 (.v (.int .i64 (a)))), (upd (upd (upd Sx.h0 10129 (some (.arr false 47 4 (rowsBy Ed.c e)))) 10128 (some (.arr false 38 5 (rowsBy Vx.c v)))) 2 (some (.var false [(.s 10128 0 v.length), (.s 10129 0 e.length)])))⟩ : St) = some (.exit 0, (⟨(upd (upd (upd (upd Sx.e0 6 (.v (.int .i64 (((allR v).length : Int))))) 5 (.v (.bool true))) 2 (.p 2 0)) 1 (.v (.int .i64 (a)))), (upd (upd (upd Sx.h0 10129 (some (.arr false 47 4 (rowsBy Ed.c e)))) 10128 (some (.arr false 38 5 (rowsBy Vx.c v)))) 2 (some (.var false [(.s 10128 0 v.length), (.s 10129 0 e.length)])))⟩ : St)) := by
    refine loop_to (b := f8_b1) (fun q0 => (⟨(upd (upd (upd (upd (upd Sx.e0 7 (.v (.int .i64 ((q0 : Int))))) 6 (.v (.int .i64 (((allR (v.take q0)).length : Int))))) 5 (.v (.bool true))) 2 (.p 2 0)) 1 (.v (.int .i64 (a)))), (upd (upd (upd Sx.h0 10129 (some (.arr false 47 4 (rowsBy Ed.c e)))) 10128 (some (.arr false 38 5 (rowsBy Vx.c v)))) 2 (some (.var false [(.s 10128 0 v.length), (.s 10129 0 e.length)])))⟩ : St)) (v.length) ?_ ?_ (by simp)
    · intro i hi
      have hiz : (i : Int) < (v.length : Int) := by omega
      have hm := allR_le h30 i
      have h3 := h30 _ (List.getElem_mem hi)
      have hs := allR_succ hi
      rw [hs]
      have l2 := darts_l2 v e a ((allR (v.take i)).length + v[i].ring.length) i hi hw hr
      have hwr : IntKind.i64.wrap (((allR (v.take i)).length : Int) + (v[i].ring.length : Int)) = (((allR (v.take i)).length + v[i].ring.length : Nat) : Int) := by
        rw [wrap64 (by omega) (by omega)]; omega
      generalize (allR (v.take i)).length = m at *
      simp only [f8_b1, hiz, rowsBy_get Vx.c hi, Vx.c, hwr, l2, wrap_succ hi (show v.length ≤ 9223372036854775807 by omega), go_sem, reduceIte, Nat.reduceEqDiff, Nat.reduceAdd, Nat.reduceLeDiff, List.length_cons, List.length_nil]
    · rw [List.take_length]
      simp only [f8_b1, dec_ge (Nat.le_refl v.length), go_sem, reduceIte, Nat.reduceEqDiff, Nat.reduceAdd, Nat.reduceLeDiff, List.length_cons, List.length_nil]
  exact l1
theorem t_darts (vs : List Vx) (es : List Ed) (a : Int) : call F 8 [.agg [.sl .shared 5 (rowsBy Vx.c vs), .sl .shared 4 (rowsBy Ed.c es)], .int .i64 a] = some (.bool true) := by
  have cf := c_few vs es
  have hr := fewVx_fits 30 30 (by decide) vs
  have h30 := fewVx_ring 30 30 vs
  generalize fewVx 30 30 vs = v at *
  generalize es.take 50 = e at *
  have f1 := i_diagram_Form v e hr
  by_cases hok : formC v e = 0
  · obtain ⟨hw, _, _⟩ := formC_ok.1 hok
    rw [hok] at f1
    have hv := hw.lv
    have he := hw.le
    have hlv : Fits v := Fits.of (by omega)
    have hle : Fits e := Fits.of (by omega)
    have l1 := darts_l1 v e a hw hr h30
    have hmany := hw.many
    rw [hmany] at l1
    have hmul : IntKind.i64.wrap (2 * (e.length : Int)) = ((2 * e.length : Nat) : Int) := by rw [wrap64 (by omega) (by omega)]; omega
    have d1 : decide (¬ ((2 * e.length : Nat) : Int) = ((2 * e.length : Nat) : Int)) = false := by simp
    have n1 := i_diagram_Names v e (by omega) (by omega)
    have hadd : IntKind.i64.wrap ((v.length : Int) + (e.length : Int)) = ((v.length + e.length : Nat) : Int) := by rw [wrap64 (by omega) (by omega)]; omega
    have hnl : (v.map Vx.id ++ e.map Ed.id).length = v.length + e.length := by rw [List.length_append, List.length_map, List.length_map]
    have d2 : decide (¬ ((v.length + e.length : Nat) : Int) = ((v.length + e.length : Nat) : Int)) = false := by simp
    generalize v.map Vx.id ++ e.map Ed.id = ns at *
    generalize hM : 2 * e.length = M at *
    by_cases hz : a < 0
    · rw [call_code F (show F 8 = some (.code f8) from rfl)]
      simp only [f8, cf, c_shown, f1, l1, hmul, n1, hadd, hnl, dec_t hz, rowsBy_takeAll, go_sem, reduceIte, reduceCtorEq, Nat.reduceEqDiff, Nat.reduceAdd, Nat.reduceMul, Nat.reduceLeDiff, Nat.reduceBEq, List.length_cons, List.length_nil, ne_eq, not_true_eq_false, Nat.testBit, Nat.reduceShiftRight, Nat.reduceAnd, Nat.reduceBNe]
    · have hz0 : decide (a < 0) = false := dec_f hz
      by_cases hg : (e.length : Int) ≤ a
      · have hg1 : decide (a ≥ (e.length : Int)) = true := dec_t hg
        rw [call_code F (show F 8 = some (.code f8) from rfl)]
        simp only [f8, cf, c_shown, f1, l1, hmul, n1, hadd, hnl, hz0, hg1, rowsBy_takeAll, go_sem, reduceIte, reduceCtorEq, Nat.reduceEqDiff, Nat.reduceAdd, Nat.reduceMul, Nat.reduceLeDiff, Nat.reduceBEq, List.length_cons, List.length_nil, ne_eq, not_true_eq_false, Nat.testBit, Nat.reduceShiftRight, Nat.reduceAnd, Nat.reduceBNe]
      · obtain ⟨k, rfl⟩ : ∃ k : Nat, a = (k : Int) := ⟨a.toNat, by omega⟩
        have hk : k < e.length := by omega
        have hg1 : decide ((k : Int) ≥ (e.length : Int)) = false := dec_f (by omega)
        have f2 := i_diagram_Form v (e.take k ++ e.drop (k + 1)) hr
        rw [less_bad hw hk] at f2
        have k1 := i_diagram_Clone v e (by omega) (by omega) hr
        have s1 := i_diagram_Same v v e e hlv hr hle
        rw [dec_t rfl, dec_t rfl, Bool.and_self] at s1
        have hq : (e.take k ++ e.drop (k + 1)).length = e.length - 1 := by rw [List.length_append, List.length_take, List.length_drop]; omega
        have s2 := i_diagram_Same v v (e.take k ++ e.drop (k + 1)) e hlv hr (Fits.of (by omega))
        rw [dec_t rfl, dec_f (show ¬ e.take k ++ e.drop (k + 1) = e from fun h => by rw [h] at hq; omega), Bool.and_false] at s2
        have h1z : (k : Int) ≤ (e.length : Int) := by omega
        have h2z : ((k + 1 : Nat) : Int) ≤ (e.length : Int) := by omega
        have hkw := wrap_succ hk (show e.length ≤ 9223372036854775807 by omega)
        have hb1 : (e.take k).length * 40 ≤ 140737488355328 := by rw [List.length_take]; omega
        have hb2 : ((e.take k).length + (e.drop (k + 1)).length) * 40 ≤ 140737488355328 := by rw [List.length_take, List.length_drop]; omega
        rw [call_code F (show F 8 = some (.code f8) from rfl)]
        simp only [f8, cf, c_shown, f1, l1, hmul, n1, hadd, hnl, hz0, hg1, f2, k1, s1, s2, h1z, h2z, hkw, hb1, hb2, Int.natCast_nonneg, and_self, rowsBy_takeAll, go_sem, reduceIte, reduceCtorEq, Nat.reduceEqDiff, Nat.reduceAdd, Nat.reduceMul, Nat.reduceLeDiff, Nat.reduceBEq, List.length_cons, List.length_nil, ne_eq, not_true_eq_false, Nat.testBit, Nat.reduceShiftRight, Nat.reduceAnd, Nat.reduceBNe]
  · have hd : decide (¬ formC v e = 0) = true := dec_t hok
    rw [call_code F (show F 8 = some (.code f8) from rfl)]
    simp only [f8, cf, c_shown, f1, hd, rowsBy_takeAll, go_sem, reduceIte, reduceCtorEq, Nat.reduceEqDiff, Nat.reduceAdd, Nat.reduceMul, Nat.reduceLeDiff, List.length_cons, List.length_nil, ne_eq]
end Go.Proofs.Ytehcfmohjcjmpaa.Sx
