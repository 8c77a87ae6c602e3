/- Chapter 04: what the laws begin with. -/
import Derived.Test.YtehcfmohjcjmpaaSxDia
namespace Go.Proofs.Ytehcfmohjcjmpaa.Sx
open Go
/-- the first of some -/
def fewVx (n k : Nat) (l : List Vx) : List Vx := (l.take n).map fun v => ⟨v.id, v.ring.take k, v.label, v.attr⟩
theorem fewVx_len (n k : Nat) (l : List Vx) : (fewVx n k l).length ≤ n := by unfold fewVx; rw [List.length_map, List.length_take]; omega
theorem fewVx_len2 (n k : Nat) (l : List Vx) : (fewVx n k l).length ≤ l.length := by unfold fewVx; rw [List.length_map, List.length_take]; omega
theorem fewVx_fits (n k : Nat) (hk : k ≤ 1000000) (l : List Vx) : FitsR (fewVx n k l) := by
  intro v hv
  unfold fewVx at hv
  obtain ⟨w, _, rfl⟩ := List.mem_map.1 hv
  refine Fits.of ?_
  show (w.ring.take k).length ≤ _
  rw [List.length_take]; omega
theorem fewVx_ring (n k : Nat) (l : List Vx) : ∀ v ∈ fewVx n k l, v.ring.length ≤ k := by
  intro v hv
  unfold fewVx at hv
  obtain ⟨w, _, rfl⟩ := List.mem_map.1 hv
  show (w.ring.take k).length ≤ _
  rw [List.length_take]; omega
theorem fewVx_succ {n k : Nat} {l : List Vx} (h : n < l.length) : fewVx (n + 1) k l = fewVx n k l ++ [⟨l[n].id, l[n].ring.take k, l[n].label, l[n].attr⟩] := by
  unfold fewVx
  rw [List.take_succ_eq_append_getElem h, List.map_append]; rfl
theorem fewVx_min (n k : Nat) (l : List Vx) : fewVx (min l.length n) k l = fewVx n k l := by
  unfold fewVx
  congr 1
  rcases Nat.le_total l.length n with h | h
  · rw [Nat.min_eq_left h, List.take_of_length_le (Nat.le_refl _), List.take_of_length_le h]
  · rw [Nat.min_eq_right h]
theorem take_min {α : Type} (n : Nat) (l : List α) : l.take (min l.length n) = l.take n := by
  rcases Nat.le_total l.length n with h | h
  · rw [Nat.min_eq_left h, List.take_of_length_le (Nat.le_refl _), List.take_of_length_le h]
  · rw [Nat.min_eq_right h]
theorem few_l1 (vs : List Vx) (es : List Ed) : E (call F) 0 f11_l1 (⟨(upd (upd (upd (upd Sx.e0 4 (.v (.int .i64 (0)))) 3 (.p 3 0)) 2 (.p 2 0)) 1 (.p 1 0)), (upd (upd (upd Sx.h0 3 (some (.var false [(.v (.sl (.tight 38) 5 [])), (.v (.sl (.tight 47) 4 []))]))) 2 (some (.var false [(.v (.sl (.tight 38) 5 [])), (.v (.sl (.tight 47) 4 []))]))) 1 (some (.var false [(.v (.sl .shared 5 (rowsBy Vx.c vs))), (.v (.sl .shared 4 (rowsBy Ed.c es)))])))⟩ : St) =
    some (if min vs.length 30 = 0 then (.exit 0, (⟨(upd (upd (upd Sx.e0 3 (.p 3 0)) 2 (.p 2 0)) 1 (.p 1 0)), (upd (upd (upd Sx.h0 3 (some (.var false [(.v (.sl (.tight 38) 5 [])), (.v (.sl (.tight 47) 4 []))]))) 2 (some (.var false [(.v (.sl (.tight 38) 5 [])), (.v (.sl (.tight 47) 4 []))]))) 1 (some (.var false [(.v (.sl .shared 5 (rowsBy Vx.c vs))), (.v (.sl .shared 4 (rowsBy Ed.c es)))])))⟩ : St)) else (.exit 0, (⟨(upd (upd (upd Sx.e0 3 (.p 3 0)) 2 (.p 2 0)) 1 (.p 1 0)), (upd (upd (upd (upd Sx.h0 10192 (some (.arr false 38 5 (rowsBy Vx.c (fewVx 30 30 vs))))) 3 (some (.var false [(.s 10192 0 (fewVx 30 30 vs).length), (.v (.sl (.tight 47) 4 []))]))) 2 (some (.var false [(.v (.sl (.tight 38) 5 [])), (.v (.sl (.tight 47) 4 []))]))) 1 (some (.var false [(.v (.sl .shared 5 (rowsBy Vx.c vs))), (.v (.sl .shared 4 (rowsBy Ed.c es)))])))⟩ : St))) := by
  rw [← fewVx_min 30 30 vs]
  have l1 : E (call F) 0 f11_l1 (⟨(upd (upd (upd (upd Sx.e0 4 (.v (.int .i64 (0)))) 3 (.p 3 0)) 2 (.p 2 0)) 1 (.p 1 0)), (upd (upd (upd Sx.h0 3 (some (.var false [(.v (.sl (.tight 38) 5 [])), (.v (.sl (.tight 47) 4 []))]))) 2 (some (.var false [(.v (.sl (.tight 38) 5 [])), (.v (.sl (.tight 47) 4 []))]))) 1 (some (.var false [(.v (.sl .shared 5 (rowsBy Vx.c vs))), (.v (.sl .shared 4 (rowsBy Ed.c es)))])))⟩ : St) = some (if min vs.length 30 = 0 then (.exit 0, (⟨(upd (upd (upd Sx.e0 3 (.p 3 0)) 2 (.p 2 0)) 1 (.p 1 0)), (upd (upd (upd Sx.h0 3 (some (.var false [(.v (.sl (.tight 38) 5 [])), (.v (.sl (.tight 47) 4 []))]))) 2 (some (.var false [(.v (.sl (.tight 38) 5 [])), (.v (.sl (.tight 47) 4 []))]))) 1 (some (.var false [(.v (.sl .shared 5 (rowsBy Vx.c vs))), (.v (.sl .shared 4 (rowsBy Ed.c es)))])))⟩ : St)) else (.exit 0, (⟨(upd (upd (upd Sx.e0 3 (.p 3 0)) 2 (.p 2 0)) 1 (.p 1 0)), (upd (upd (upd (upd Sx.h0 10192 (some (.arr false 38 5 (rowsBy Vx.c (fewVx (min vs.length 30) 30 vs))))) 3 (some (.var false [(.s 10192 0 (fewVx (min vs.length 30) 30 vs).length), (.v (.sl (.tight 47) 4 []))]))) 2 (some (.var false [(.v (.sl (.tight 38) 5 [])), (.v (.sl (.tight 47) 4 []))]))) 1 (some (.var false [(.v (.sl .shared 5 (rowsBy Vx.c vs))), (.v (.sl .shared 4 (rowsBy Ed.c es)))])))⟩ : St))) := by
    refine loop_grow (b := f11_b1) _ (fun q0 => (⟨(upd (upd (upd (upd Sx.e0 4 (.v (.int .i64 ((q0 : Int))))) 3 (.p 3 0)) 2 (.p 2 0)) 1 (.p 1 0)), (upd (upd (upd (upd Sx.h0 10192 (some (.arr false 38 5 (rowsBy Vx.c (fewVx q0 30 vs))))) 3 (some (.var false [(.s 10192 0 (fewVx q0 30 vs).length), (.v (.sl (.tight 47) 4 []))]))) 2 (some (.var false [(.v (.sl (.tight 38) 5 [])), (.v (.sl (.tight 47) 4 []))]))) 1 (some (.var false [(.v (.sl .shared 5 (rowsBy Vx.c vs))), (.v (.sl .shared 4 (rowsBy Ed.c es)))])))⟩ : St)) (min vs.length 30) ?_ (by simp) ?_ ?_ ?_ (by simp)
    · intro h0
      have h0' : vs.length = 0 := by omega
      simp only [f11_b1, show decide ((0 : Int) < (vs.length : Int)) = false from decide_eq_false (by omega), go_sem, reduceIte, Nat.reduceEqDiff, Nat.reduceAdd, Nat.reduceLeDiff, List.length_cons, List.length_nil]
    · intro hn
      have h1 : 0 < vs.length := by omega
      have hs := fewVx_succ (n := 0) (k := 30) h1
      have e0 : fewVx 0 30 vs = [] := rfl
      rw [e0, List.nil_append, Nat.zero_add] at hs
      rw [hs]
      have e2 : rowsBy Vx.c [⟨vs[0].id, vs[0].ring.take 30, vs[0].label, vs[0].attr⟩] = [[.int .i64 vs[0].id.s, .int .i64 vs[0].id.n, .sl .shared 3 (rowsBy Dart.c (vs[0].ring.take 30)), .str vs[0].label, .int .i64 vs[0].attr]] := rfl
      rw [e2]
      have d1 : decide ((0 : Int) < (vs.length : Int)) = true := decide_eq_true (by omega)
      have h1z : (0 : Int) < (vs.length : Int) := by omega
      by_cases hr : vs[0].ring.length > 30
      · have k1 : decide ((vs[0].ring.length : Int) > 30) = true := decide_eq_true (by omega)
        have k2 : (30 : Int) ≤ (vs[0].ring.length : Int) := by omega
        simp only [f11_b1, h1z, rowsBy_get Vx.c h1, Vx.c, k1, k2, Int.reduceLT, show IntKind.i64.wrap 1 = 1 from rfl, go_sem, reduceIte, Nat.reduceEqDiff, Nat.reduceAdd, Nat.reduceMul, Nat.reduceLeDiff, List.length_cons, List.length_nil, Int.reduceLT, Int.reduceLE, Int.reduceAdd, Int.reduceToNat, Int.cast_ofNat_Int]
      · have k1 : decide ((vs[0].ring.length : Int) > 30) = false := decide_eq_false (by omega)
        rw [List.take_of_length_le (show vs[0].ring.length ≤ 30 by omega)]
        simp only [f11_b1, h1z, rowsBy_get Vx.c h1, Vx.c, k1, Int.reduceLT, show IntKind.i64.wrap 1 = 1 from rfl, go_sem, reduceIte, Nat.reduceEqDiff, Nat.reduceAdd, Nat.reduceMul, Nat.reduceLeDiff, List.length_cons, List.length_nil, Int.reduceLT, Int.reduceLE, Int.reduceAdd, Int.reduceToNat, Int.cast_ofNat_Int]
    · intro i hi0 hi
      have h1 : i < vs.length := by omega
      have h1z : (i : Int) < (vs.length : Int) := by omega
      have h2 : i < 30 := by omega
      have h3 : decide ((i : Int) < 30) = true := decide_eq_true (by omega)
      have hw : (30 : Nat) ≤ 9223372036854775807 := by decide
      have hs := fewVx_succ (k := 30) h1
      have hl : (fewVx i 30 vs).length ≤ i := fewVx_len i 30 vs
      have h5 : ((fewVx i 30 vs).length + 1) * 64 ≤ 140737488355328 := by omega
      rw [hs]
      have e2 : (fewVx i 30 vs ++ ([⟨vs[i].id, vs[i].ring.take 30, vs[i].label, vs[i].attr⟩] : List Vx)).length = (fewVx i 30 vs).length + 1 := by rw [List.length_append]; rfl
      rw [e2]
      generalize fewVx i 30 vs = m at *
      have e3 : rowsBy Vx.c m ++ [[.int .i64 vs[i].id.s, .int .i64 vs[i].id.n, .sl .shared 3 (rowsBy Dart.c (vs[i].ring.take 30)), .str vs[i].label, .int .i64 vs[i].attr]] = rowsBy Vx.c (m ++ [⟨vs[i].id, vs[i].ring.take 30, vs[i].label, vs[i].attr⟩]) := rowsBy_snoc Vx.c m ⟨vs[i].id, vs[i].ring.take 30, vs[i].label, vs[i].attr⟩
      by_cases hr : vs[i].ring.length > 30
      · have k1 : decide ((vs[i].ring.length : Int) > 30) = true := decide_eq_true (by omega)
        have k2 : (30 : Int) ≤ (vs[i].ring.length : Int) := by omega
        simp only [f11_b1, h1z, h3, rowsBy_get Vx.c h1, Vx.c, k1, k2, h5, e3, wrap_succ h2 hw, List.take_length, go_sem, reduceIte, Nat.reduceEqDiff, Nat.reduceAdd, Nat.reduceLeDiff, List.length_cons, List.length_nil, Int.reduceLE, Int.reduceToNat]
      · have k1 : decide ((vs[i].ring.length : Int) > 30) = false := decide_eq_false (by omega)
        rw [List.take_of_length_le (show vs[i].ring.length ≤ 30 by omega)] at e3 ⊢
        simp only [f11_b1, h1z, h3, rowsBy_get Vx.c h1, Vx.c, k1, h5, e3, wrap_succ h2 hw, List.take_length, go_sem, reduceIte, Nat.reduceEqDiff, Nat.reduceAdd, Nat.reduceLeDiff, List.length_cons, List.length_nil, Int.reduceLE, Int.reduceToNat]
    · intro hn
      by_cases h : vs.length ≤ 30
      · rw [Nat.min_eq_left h]
        simp only [f11_b1, dec_ge (Nat.le_refl vs.length), go_sem, reduceIte, Nat.reduceEqDiff, Nat.reduceAdd, Nat.reduceLeDiff, List.length_cons, List.length_nil]
      · rw [Nat.min_eq_right (by omega)]
        simp only [f11_b1, show decide ((30 : Int) < (vs.length : Int)) = true from decide_eq_true (by omega), go_sem, reduceIte, Nat.reduceEqDiff, Nat.reduceAdd, Nat.reduceLeDiff, List.length_cons, List.length_nil, Int.reduceLT, Int.cast_ofNat_Int]
  exact l1
theorem few_l2a (vs : List Vx) (es : List Ed) : E (call F) 0 f11_l2 (⟨(upd (upd (upd (upd Sx.e0 6 (.v (.int .i64 (0)))) 3 (.p 3 0)) 2 (.p 2 0)) 1 (.p 1 0)), (upd (upd (upd Sx.h0 3 (some (.var false [(.v (.sl (.tight 38) 5 [])), (.v (.sl (.tight 47) 4 []))]))) 2 (some (.var false [(.v (.sl (.tight 38) 5 [])), (.v (.sl (.tight 47) 4 []))]))) 1 (some (.var false [(.v (.sl .shared 5 (rowsBy Vx.c vs))), (.v (.sl .shared 4 (rowsBy Ed.c es)))])))⟩ : St) =
    some (if min es.length 50 = 0 then (.exit 2, (⟨(upd (upd Sx.e0 3 (.p 3 0)) 2 (.p 2 0)), (upd (upd Sx.h0 3 (some (.var false [(.v (.sl (.tight 38) 5 [])), (.v (.sl (.tight 47) 4 []))]))) 2 (some (.var false [(.v (.sl (.tight 38) 5 [])), (.v (.sl (.tight 47) 4 []))])))⟩ : St)) else (.exit 2, (⟨(upd (upd Sx.e0 3 (.p 3 0)) 2 (.p 2 0)), (upd (upd (upd Sx.h0 10193 (some (.arr false 47 4 (rowsBy Ed.c (es.take 50))))) 3 (some (.var false [(.v (.sl (.tight 38) 5 [])), (.s 10193 0 (es.take 50).length)]))) 2 (some (.var false [(.v (.sl (.tight 38) 5 [])), (.v (.sl (.tight 47) 4 []))])))⟩ : St))) := by
  rw [← take_min 50 es]
  have l1 : E (call F) 0 f11_l2 (⟨(upd (upd (upd (upd Sx.e0 6 (.v (.int .i64 (0)))) 3 (.p 3 0)) 2 (.p 2 0)) 1 (.p 1 0)), (upd (upd (upd Sx.h0 3 (some (.var false [(.v (.sl (.tight 38) 5 [])), (.v (.sl (.tight 47) 4 []))]))) 2 (some (.var false [(.v (.sl (.tight 38) 5 [])), (.v (.sl (.tight 47) 4 []))]))) 1 (some (.var false [(.v (.sl .shared 5 (rowsBy Vx.c vs))), (.v (.sl .shared 4 (rowsBy Ed.c es)))])))⟩ : St) = some (if min es.length 50 = 0 then (.exit 2, (⟨(upd (upd Sx.e0 3 (.p 3 0)) 2 (.p 2 0)), (upd (upd Sx.h0 3 (some (.var false [(.v (.sl (.tight 38) 5 [])), (.v (.sl (.tight 47) 4 []))]))) 2 (some (.var false [(.v (.sl (.tight 38) 5 [])), (.v (.sl (.tight 47) 4 []))])))⟩ : St)) else (.exit 2, (⟨(upd (upd Sx.e0 3 (.p 3 0)) 2 (.p 2 0)), (upd (upd (upd Sx.h0 10193 (some (.arr false 47 4 (rowsBy Ed.c (es.take (min es.length 50)))))) 3 (some (.var false [(.v (.sl (.tight 38) 5 [])), (.s 10193 0 (es.take (min es.length 50)).length)]))) 2 (some (.var false [(.v (.sl (.tight 38) 5 [])), (.v (.sl (.tight 47) 4 []))])))⟩ : St))) := by
    refine loop_grow (b := f11_b2) _ (fun q0 => (⟨(upd (upd (upd (upd Sx.e0 6 (.v (.int .i64 ((q0 : Int))))) 3 (.p 3 0)) 2 (.p 2 0)) 1 (.p 1 0)), (upd (upd (upd (upd Sx.h0 10193 (some (.arr false 47 4 (rowsBy Ed.c (es.take q0))))) 3 (some (.var false [(.v (.sl (.tight 38) 5 [])), (.s 10193 0 (es.take q0).length)]))) 2 (some (.var false [(.v (.sl (.tight 38) 5 [])), (.v (.sl (.tight 47) 4 []))]))) 1 (some (.var false [(.v (.sl .shared 5 (rowsBy Vx.c vs))), (.v (.sl .shared 4 (rowsBy Ed.c es)))])))⟩ : St)) (min es.length 50) ?_ (by simp) ?_ ?_ ?_ (by simp)
    · intro h0
      simp only [f11_b2, show decide ((0 : Int) < (es.length : Int)) = false from decide_eq_false (by omega), go_sem, reduceIte, Nat.reduceEqDiff, Nat.reduceAdd, List.length_cons, List.length_nil]
    · intro hn
      have h1 : 0 < es.length := by omega
      have hs : es.take 1 = [es[0]] := List.take_succ_eq_append_getElem (i := 0) h1
      rw [hs]
      have e2 : rowsBy Ed.c [es[0]] = [[.int .i64 es[0].id.s, .int .i64 es[0].id.n, .str es[0].label, .int .i64 es[0].attr]] := rfl
      rw [e2]
      have d1 : decide ((0 : Int) < (es.length : Int)) = true := decide_eq_true (by omega)
      have h1z : (0 : Int) < (es.length : Int) := by omega
      simp only [f11_b2, h1z, rowsBy_get Ed.c h1, Ed.c, Int.reduceLT, show IntKind.i64.wrap 1 = 1 from rfl, go_sem, reduceIte, Nat.reduceEqDiff, Nat.reduceAdd, Nat.reduceMul, Nat.reduceLeDiff, Nat.reduceBEq, List.length_cons, List.length_nil, Int.reduceLT, Int.reduceAdd, Int.reduceToNat, Int.cast_ofNat_Int, Nat.testBit, Nat.reduceShiftRight, Nat.reduceAnd, Nat.reduceBNe]
    · intro i hi0 hi
      have h1 : i < es.length := by omega
      have h1z : (i : Int) < (es.length : Int) := by omega
      have h2 : i < 50 := by omega
      have h3 : decide ((i : Int) < 50) = true := decide_eq_true (by omega)
      have hw : (50 : Nat) ≤ 9223372036854775807 := by decide
      have hs : es.take (i + 1) = es.take i ++ [es[i]] := List.take_succ_eq_append_getElem h1
      have hl : (es.take i).length ≤ i := by rw [List.length_take]; omega
      have h5 : ((es.take i).length + 1) * 40 ≤ 140737488355328 := by omega
      rw [hs]
      have e2 : (es.take i ++ [es[i]]).length = (es.take i).length + 1 := by rw [List.length_append]; rfl
      rw [e2]
      generalize es.take i = q at *
      have e3 : rowsBy Ed.c q ++ [[.int .i64 es[i].id.s, .int .i64 es[i].id.n, .str es[i].label, .int .i64 es[i].attr]] = rowsBy Ed.c (q ++ [es[i]]) := rowsBy_snoc Ed.c q es[i]
      simp only [f11_b2, h1z, h3, rowsBy_get Ed.c h1, Ed.c, h5, e3, wrap_succ h2 hw, List.take_length, go_sem, reduceIte, Nat.reduceEqDiff, Nat.reduceAdd, Nat.reduceBEq, List.length_cons, List.length_nil, Nat.testBit, Nat.reduceShiftRight, Nat.reduceAnd, Nat.reduceBNe]
    · intro hn
      by_cases h : es.length ≤ 50
      · rw [Nat.min_eq_left h]
        simp only [f11_b2, dec_ge (Nat.le_refl es.length), go_sem, reduceIte, Nat.reduceEqDiff, Nat.reduceAdd, List.length_cons, List.length_nil]
      · rw [Nat.min_eq_right (by omega)]
        simp only [f11_b2, show decide ((50 : Int) < (es.length : Int)) = true from decide_eq_true (by omega), go_sem, reduceIte, Nat.reduceEqDiff, Nat.reduceAdd, List.length_cons, List.length_nil, Int.reduceLT, Int.cast_ofNat_Int]
  exact l1
theorem few_l2b (vs : List Vx) (es : List Ed) (m : List Vx) : E (call F) 0 f11_l2 (⟨(upd (upd (upd (upd Sx.e0 6 (.v (.int .i64 (0)))) 3 (.p 3 0)) 2 (.p 2 0)) 1 (.p 1 0)), (upd (upd (upd (upd Sx.h0 10192 (some (.arr false 38 5 (rowsBy Vx.c m)))) 3 (some (.var false [(.s 10192 0 m.length), (.v (.sl (.tight 47) 4 []))]))) 2 (some (.var false [(.v (.sl (.tight 38) 5 [])), (.v (.sl (.tight 47) 4 []))]))) 1 (some (.var false [(.v (.sl .shared 5 (rowsBy Vx.c vs))), (.v (.sl .shared 4 (rowsBy Ed.c es)))])))⟩ : St) =
    some (if min es.length 50 = 0 then (.exit 2, (⟨(upd (upd Sx.e0 3 (.p 3 0)) 2 (.p 2 0)), (upd (upd (upd Sx.h0 10192 (some (.arr false 38 5 (rowsBy Vx.c m)))) 3 (some (.var false [(.s 10192 0 m.length), (.v (.sl (.tight 47) 4 []))]))) 2 (some (.var false [(.v (.sl (.tight 38) 5 [])), (.v (.sl (.tight 47) 4 []))])))⟩ : St)) else (.exit 2, (⟨(upd (upd Sx.e0 3 (.p 3 0)) 2 (.p 2 0)), (upd (upd (upd (upd Sx.h0 10193 (some (.arr false 47 4 (rowsBy Ed.c (es.take 50))))) 10192 (some (.arr false 38 5 (rowsBy Vx.c m)))) 3 (some (.var false [(.s 10192 0 m.length), (.s 10193 0 (es.take 50).length)]))) 2 (some (.var false [(.v (.sl (.tight 38) 5 [])), (.v (.sl (.tight 47) 4 []))])))⟩ : St))) := by
  rw [← take_min 50 es]
  have l1 : E (call F) 0 f11_l2 (⟨(upd (upd (upd (upd Sx.e0 6 (.v (.int .i64 (0)))) 3 (.p 3 0)) 2 (.p 2 0)) 1 (.p 1 0)), (upd (upd (upd (upd Sx.h0 10192 (some (.arr false 38 5 (rowsBy Vx.c m)))) 3 (some (.var false [(.s 10192 0 m.length), (.v (.sl (.tight 47) 4 []))]))) 2 (some (.var false [(.v (.sl (.tight 38) 5 [])), (.v (.sl (.tight 47) 4 []))]))) 1 (some (.var false [(.v (.sl .shared 5 (rowsBy Vx.c vs))), (.v (.sl .shared 4 (rowsBy Ed.c es)))])))⟩ : St) = some (if min es.length 50 = 0 then (.exit 2, (⟨(upd (upd Sx.e0 3 (.p 3 0)) 2 (.p 2 0)), (upd (upd (upd Sx.h0 10192 (some (.arr false 38 5 (rowsBy Vx.c m)))) 3 (some (.var false [(.s 10192 0 m.length), (.v (.sl (.tight 47) 4 []))]))) 2 (some (.var false [(.v (.sl (.tight 38) 5 [])), (.v (.sl (.tight 47) 4 []))])))⟩ : St)) else (.exit 2, (⟨(upd (upd Sx.e0 3 (.p 3 0)) 2 (.p 2 0)), (upd (upd (upd (upd Sx.h0 10193 (some (.arr false 47 4 (rowsBy Ed.c (es.take (min es.length 50)))))) 10192 (some (.arr false 38 5 (rowsBy Vx.c m)))) 3 (some (.var false [(.s 10192 0 m.length), (.s 10193 0 (es.take (min es.length 50)).length)]))) 2 (some (.var false [(.v (.sl (.tight 38) 5 [])), (.v (.sl (.tight 47) 4 []))])))⟩ : St))) := by
    refine loop_grow (b := f11_b2) _ (fun q0 => (⟨(upd (upd (upd (upd Sx.e0 6 (.v (.int .i64 ((q0 : Int))))) 3 (.p 3 0)) 2 (.p 2 0)) 1 (.p 1 0)), (upd (upd (upd (upd (upd Sx.h0 10193 (some (.arr false 47 4 (rowsBy Ed.c (es.take q0))))) 10192 (some (.arr false 38 5 (rowsBy Vx.c m)))) 3 (some (.var false [(.s 10192 0 m.length), (.s 10193 0 (es.take q0).length)]))) 2 (some (.var false [(.v (.sl (.tight 38) 5 [])), (.v (.sl (.tight 47) 4 []))]))) 1 (some (.var false [(.v (.sl .shared 5 (rowsBy Vx.c vs))), (.v (.sl .shared 4 (rowsBy Ed.c es)))])))⟩ : St)) (min es.length 50) ?_ (by simp) ?_ ?_ ?_ (by simp)
    · intro h0
      simp only [f11_b2, show decide ((0 : Int) < (es.length : Int)) = false from decide_eq_false (by omega), go_sem, reduceIte, Nat.reduceEqDiff, Nat.reduceAdd, List.length_cons, List.length_nil]
    · intro hn
      have h1 : 0 < es.length := by omega
      have hs : es.take 1 = [es[0]] := List.take_succ_eq_append_getElem (i := 0) h1
      rw [hs]
      have e2 : rowsBy Ed.c [es[0]] = [[.int .i64 es[0].id.s, .int .i64 es[0].id.n, .str es[0].label, .int .i64 es[0].attr]] := rfl
      rw [e2]
      have d1 : decide ((0 : Int) < (es.length : Int)) = true := decide_eq_true (by omega)
      have h1z : (0 : Int) < (es.length : Int) := by omega
      simp only [f11_b2, h1z, rowsBy_get Ed.c h1, Ed.c, Int.reduceLT, show IntKind.i64.wrap 1 = 1 from rfl, go_sem, reduceIte, Nat.reduceEqDiff, Nat.reduceAdd, Nat.reduceMul, Nat.reduceLeDiff, Nat.reduceBEq, List.length_cons, List.length_nil, Int.reduceLT, Int.reduceAdd, Int.reduceToNat, Int.cast_ofNat_Int, Nat.testBit, Nat.reduceShiftRight, Nat.reduceAnd, Nat.reduceBNe]
    · intro i hi0 hi
      have h1 : i < es.length := by omega
      have h1z : (i : Int) < (es.length : Int) := by omega
      have h2 : i < 50 := by omega
      have h3 : decide ((i : Int) < 50) = true := decide_eq_true (by omega)
      have hw : (50 : Nat) ≤ 9223372036854775807 := by decide
      have hs : es.take (i + 1) = es.take i ++ [es[i]] := List.take_succ_eq_append_getElem h1
      have hl : (es.take i).length ≤ i := by rw [List.length_take]; omega
      have h5 : ((es.take i).length + 1) * 40 ≤ 140737488355328 := by omega
      rw [hs]
      have e2 : (es.take i ++ [es[i]]).length = (es.take i).length + 1 := by rw [List.length_append]; rfl
      rw [e2]
      generalize es.take i = q at *
      have e3 : rowsBy Ed.c q ++ [[.int .i64 es[i].id.s, .int .i64 es[i].id.n, .str es[i].label, .int .i64 es[i].attr]] = rowsBy Ed.c (q ++ [es[i]]) := rowsBy_snoc Ed.c q es[i]
      simp only [f11_b2, h1z, h3, rowsBy_get Ed.c h1, Ed.c, h5, e3, wrap_succ h2 hw, List.take_length, go_sem, reduceIte, Nat.reduceEqDiff, Nat.reduceAdd, Nat.reduceBEq, List.length_cons, List.length_nil, Nat.testBit, Nat.reduceShiftRight, Nat.reduceAnd, Nat.reduceBNe]
    · intro hn
      by_cases h : es.length ≤ 50
      · rw [Nat.min_eq_left h]
        simp only [f11_b2, dec_ge (Nat.le_refl es.length), go_sem, reduceIte, Nat.reduceEqDiff, Nat.reduceAdd, List.length_cons, List.length_nil]
      · rw [Nat.min_eq_right (by omega)]
        simp only [f11_b2, show decide ((50 : Int) < (es.length : Int)) = true from decide_eq_true (by omega), go_sem, reduceIte, Nat.reduceEqDiff, Nat.reduceAdd, List.length_cons, List.length_nil, Int.reduceLT, Int.cast_ofNat_Int]
  exact l1
theorem c_few (vs : List Vx) (es : List Ed) : call F 11 [.agg [.sl .shared 5 (rowsBy Vx.c vs), .sl .shared 4 (rowsBy Ed.c es)]] = some (.agg [.sl (.own 38) 5 (rowsBy Vx.c (fewVx 30 30 vs)), .sl (.own 47) 4 (rowsBy Ed.c (es.take 50))]) := by
  have l1 := few_l1 vs es
  have ze : min es.length 50 = 0 → es.take 50 = [] := fun h => List.eq_nil_of_length_eq_zero (by rw [List.length_take]; omega)
  have zv : min vs.length 30 = 0 → fewVx 30 30 vs = [] := fun h => List.eq_nil_of_length_eq_zero (by unfold fewVx; rw [List.length_map, List.length_take]; omega)
  by_cases h1 : min vs.length 30 = 0
  · rw [if_pos h1] at l1
    have l2 := few_l2a vs es
    rw [zv h1]
    by_cases h2 : min es.length 50 = 0
    · rw [if_pos h2] at l2
      rw [ze h2]
      rw [call_code F (show F 11 = some (.code f11) from rfl)]
      simp only [f11, l1, l2, rowsBy_nil, go_sem, reduceIte, reduceCtorEq, Nat.reduceEqDiff, Nat.reduceAdd, List.length_cons, List.length_nil]
    · rw [if_neg h2] at l2
      generalize es.take 50 = q at *
      rw [call_code F (show F 11 = some (.code f11) from rfl)]
      simp only [f11, l1, l2, rowsBy_nil, List.take_length, go_sem, reduceIte, reduceCtorEq, Nat.reduceEqDiff, Nat.reduceAdd, List.length_cons, List.length_nil]
  · rw [if_neg h1] at l1
    have l2 := few_l2b vs es (fewVx 30 30 vs)
    generalize fewVx 30 30 vs = m at *
    by_cases h2 : min es.length 50 = 0
    · rw [if_pos h2] at l2
      rw [ze h2]
      rw [call_code F (show F 11 = some (.code f11) from rfl)]
      simp only [f11, l1, l2, rowsBy_nil, List.take_length, go_sem, reduceIte, reduceCtorEq, Nat.reduceEqDiff, Nat.reduceAdd, List.length_cons, List.length_nil]
    · rw [if_neg h2] at l2
      generalize es.take 50 = q at *
      rw [call_code F (show F 11 = some (.code f11) from rfl)]
      simp only [f11, l1, l2, List.take_length, go_sem, reduceIte, reduceCtorEq, Nat.reduceEqDiff, Nat.reduceAdd, Nat.reduceBEq, List.length_cons, List.length_nil]
theorem few_fitsL (vs : List Vx) (es : List Ed) (n k m : Nat) (h : FitsL vs es) : FitsL (fewVx n k vs) (es.take m) := by
  refine ⟨fun v hv => ?_, fun v hv => h.2 v (List.mem_of_mem_take hv)⟩
  unfold fewVx at hv
  obtain ⟨w, hw, rfl⟩ := List.mem_map.1 hv
  exact h.1 w (List.mem_of_mem_take hw)
def loopV : List Vx := [⟨⟨1, 1⟩, [⟨⟨1, 2⟩, 0⟩, ⟨⟨1, 2⟩, 1⟩], ⟨#[]⟩, 0⟩]
def loopE : List Ed := [⟨⟨1, 2⟩, ⟨#[]⟩, 0⟩]
theorem c_loop : call F 33 [] = some (.agg [.sl (.own 38) 5 (rowsBy Vx.c loopV), .sl (.own 47) 4 (rowsBy Ed.c loopE)]) := by
  rw [call_code F (show F 33 = some (.code f33) from rfl)]
  simp only [f33, go_sem, reduceIte, reduceCtorEq, Nat.reduceEqDiff, Nat.reduceAdd, Nat.reduceLeDiff, Nat.reduceBEq, List.length_cons, List.length_nil]
  rfl
theorem c_shown : call F 10 [] = some (.bool true) := by
  have hr : FitsR loopV := by
    intro v hv
    obtain rfl : v = _ := by simpa [loopV] using hv
    exact Fits.of (by decide)
  have f1 := i_diagram_Form loopV loopE hr
  have f2 := i_diagram_Form loopV [] hr
  rw [show formC loopV loopE = 0 by decide +kernel] at f1
  rw [show formC loopV [] = 10 by decide +kernel] at f2
  have ml := c_MayLabel ⟨#[97, 32, 98]⟩
  rw [show (mayB ⟨#[97, 32, 98]⟩ && decide (((⟨#[97, 32, 98]⟩ : ByteArray).size : Int) ≤ 16)) = true by decide +kernel] at ml
  have hl := c_loop
  simp only [rowsBy_nil] at f2
  generalize loopV = lv at *
  generalize loopE = le at *
  rw [call_code F (show F 10 = some (.code f10) from rfl)]
  simp only [f10, hl, f1, f2, ml, rowsBy_takeAll, go_sem, reduceIte, reduceCtorEq, Nat.reduceEqDiff, Nat.reduceAdd, Nat.reduceMul, Nat.reduceLeDiff, List.length_cons, List.length_nil]
end Go.Proofs.Ytehcfmohjcjmpaa.Sx
