/- Chapter 11: corners, and what the laws begin with. -/
import Derived.Test.YtjhbejlpmchhfaaSxAnchor
namespace Go.Proofs.Ytjhbejlpmchhfaa.Sx
open Go
def corT (x : ID) (a : Dart) (e : Int) : TV := .tup [.agg [.int .i64 x.s, .int .i64 x.n, .int .i64 a.e.s, .int .i64 a.e.n, .int .i64 a.d], .int .i64 e]
/-- where a corner is now -/
def corD (v : Vx) (d : Dart) : Dart := if d ∈ v.ring then d else Dart0
def corR (vs : List Vx) (gs : List Gn) (x : ID) (a : Dart) : TV :=
  match vxBy vs x with
  | none => corT ⟨0, 0⟩ Dart0 13
  | some v => corT x (corD v (res vs gs a)) 0
theorem i_Corner (vs : List Vx) (gs : List Gn) (eds : List Ed) (hl : Fits vs) (hr : FitsR vs) (hg : gs.length ≤ 999999) (x : ID) (a : Dart) : call F 10 [.agg [.sl .shared 5 (rowsBy Vx.c vs), .sl .shared 4 (rowsBy Ed.c eds), .sl .shared 6 (rowsBy Gn.c gs)], .agg [.int .i64 x.s, .int .i64 x.n, .int .i64 a.e.s, .int .i64 a.e.n, .int .i64 a.d]] = some (corR vs gs x a) := by
  have hv := i_diagram_Vertex vs x hl hr (.sl .shared 4 (rowsBy Ed.c eds))
  unfold corR
  cases hc : vxBy vs x with
  | none =>
    rw [hc] at hv
    simp only [vxT] at hv
    simp only [corT, Dart0, ID0]
    rw [call_code F (show F 10 = some (.code f10) from rfl)]
    simp only [f10, hv, go_sem, reduceIte, reduceCtorEq, Nat.reduceEqDiff, Nat.reduceAdd, Nat.reduceMul, Nat.reduceLeDiff, List.length_cons, List.length_nil]
  | some v =>
    rw [hc] at hv
    simp only [vxT] at hv
    have rs := i_Resolve vs gs eds hl hr hg a
    simp only [corT, corD]
    generalize res vs gs a = d at *
    simp only [dartT] at rs
    have hcn := c_Contains_Dart v.ring d.e.s d.e.n d.d (hr v (firstBy_mem hc).1)
    rw [show (⟨⟨d.e.s, d.e.n⟩, d.d⟩ : Dart) = d from rfl] at hcn
    by_cases hm : d ∈ v.ring
    · rw [dec_t hm] at hcn
      rw [if_pos hm]
      rw [call_code F (show F 10 = some (.code f10) from rfl)]
      simp only [f10, hv, rs, hcn, go_sem, reduceIte, reduceCtorEq, Nat.reduceEqDiff, Nat.reduceAdd, Nat.reduceMul, Nat.reduceLeDiff, List.length_cons, List.length_nil]
    · rw [dec_f hm] at hcn
      rw [if_neg hm]
      simp only [Dart0, ID0]
      rw [call_code F (show F 10 = some (.code f10) from rfl)]
      simp only [f10, hv, rs, hcn, go_sem, reduceIte, reduceCtorEq, Nat.reduceEqDiff, Nat.reduceAdd, Nat.reduceMul, Nat.reduceLeDiff, List.length_cons, List.length_nil]
theorem c_dart (n : Int) : call F 16 [.int .i64 n] = some (.agg [.int .i64 1, .int .i64 n, .int .i64 0]) := by
  rw [call_code F (show F 16 = some (.code f16) from rfl)]
  simp only [f16, go_sem, reduceIte, reduceCtorEq, Nat.reduceEqDiff, Nat.reduceAdd, Nat.reduceLeDiff, List.length_cons, List.length_nil]
def cutR (v : Vx) : Vx := ⟨v.id, v.ring.take 82, v.label, v.attr⟩
def fewV (vs : List Vx) : List Vx := (vs.take (min vs.length 26)).map cutR
def fewE (l : List Ed) : List Ed := l.take (min l.length 42)
def fewG (l : List Gn) : List Gn := l.take (min l.length 400)
theorem few_l1 (vs : List Vx) (gs : List Gn) (eds : List Ed) : E (call F) 0 f8_l1 (⟨(upd (upd (upd (upd Sx.e0 4 (.v (.int .i64 (0)))) 3 (.s 3 0 0)) 2 (.p 2 0)) 1 (.p 1 0)), (upd (upd (upd Sx.h0 3 (some (.arr false 43 5 []))) 2 (some (.var false [(.v (.sl (.tight 43) 5 [])), (.v (.sl (.tight 65) 4 [])), (.v (.sl (.tight 55) 6 []))]))) 1 (some (.var false [(.v (.sl .shared 5 (rowsBy Vx.c vs))), (.v (.sl .shared 4 (rowsBy Ed.c eds))), (.v (.sl .shared 6 (rowsBy Gn.c gs)))])))⟩ : St) =
    some (.exit 0, (⟨(upd (upd (upd Sx.e0 3 (.s 3 0 ((vs.take (min vs.length 26)).map cutR).length)) 2 (.p 2 0)) 1 (.p 1 0)), (upd (upd (upd Sx.h0 3 (some (.arr false 43 5 (rowsBy Vx.c ((vs.take (min vs.length 26)).map cutR))))) 2 (some (.var false [(.v (.sl (.tight 43) 5 [])), (.v (.sl (.tight 65) 4 [])), (.v (.sl (.tight 55) 6 []))]))) 1 (some (.var false [(.v (.sl .shared 5 (rowsBy Vx.c vs))), (.v (.sl .shared 4 (rowsBy Ed.c eds))), (.v (.sl .shared 6 (rowsBy Gn.c gs)))])))⟩ : St)) := by
  refine loop_to (b := f8_b1) (fun i => (⟨(upd (upd (upd (upd Sx.e0 4 (.v (.int .i64 ((i : Int))))) 3 (.s 3 0 ((vs.take i).map cutR).length)) 2 (.p 2 0)) 1 (.p 1 0)), (upd (upd (upd Sx.h0 3 (some (.arr false 43 5 (rowsBy Vx.c ((vs.take i).map cutR))))) 2 (some (.var false [(.v (.sl (.tight 43) 5 [])), (.v (.sl (.tight 65) 4 [])), (.v (.sl (.tight 55) 6 []))]))) 1 (some (.var false [(.v (.sl .shared 5 (rowsBy Vx.c vs))), (.v (.sl .shared 4 (rowsBy Ed.c eds))), (.v (.sl .shared 6 (rowsBy Gn.c gs)))])))⟩ : St)) (min vs.length 26) ?_ ?_ (by simp)
  · intro i hi
    have h1 : i < vs.length := by omega
    have h1z : (i : Int) < (vs.length : Int) := by omega
    have h2 : i < 26 := by omega
    have h3 : decide ((i : Int) < 26) = true := decide_eq_true (by omega)
    have hw : (26 : Nat) ≤ 9223372036854775807 := by decide
    have hs : (vs.take (i + 1)).map cutR = (vs.take i).map cutR ++ [cutR vs[i]] := by rw [List.take_succ_eq_append_getElem h1, List.map_append]; rfl
    have hl : ((vs.take i).map cutR).length ≤ i := by rw [List.length_map, List.length_take]; omega
    have h5 : (((vs.take i).map cutR).length + 1) * 64 ≤ 140737488355328 := by omega
    rw [hs]
    have e2 : ((vs.take i).map cutR ++ [cutR vs[i]]).length = ((vs.take i).map cutR).length + 1 := by rw [List.length_append]; rfl
    rw [e2]
    have hc : cutR vs[i] = ⟨vs[i].id, vs[i].ring.take 82, vs[i].label, vs[i].attr⟩ := rfl
    generalize (vs.take i).map cutR = m at *
    by_cases hr : vs[i].ring.length > 82
    · have k1 : decide ((vs[i].ring.length : Int) > 82) = true := decide_eq_true (by omega)
      have k2 : (82 : Int) ≤ (vs[i].ring.length : Int) := by omega
      have e3 : rowsBy Vx.c m ++ [[.int .i64 vs[i].id.s, .int .i64 vs[i].id.n, .sl .shared 3 (rowsBy Dart.c (vs[i].ring.take 82)), .str vs[i].label, .int .i64 vs[i].attr]] = rowsBy Vx.c (m ++ [cutR vs[i]]) := by rw [hc]; exact rowsBy_snoc Vx.c m ⟨vs[i].id, vs[i].ring.take 82, vs[i].label, vs[i].attr⟩
      simp only [f8_b1, h1z, h3, rowsBy_get Vx.c h1, Vx.c, k1, k2, h5, e3, wrap_succ h2 hw, List.take_length, go_sem, reduceIte, Nat.reduceEqDiff, Nat.reduceAdd, Nat.reduceLeDiff, List.length_cons, List.length_nil, Int.reduceLE, Int.reduceToNat]
    · have k1 : decide ((vs[i].ring.length : Int) > 82) = false := decide_eq_false (by omega)
      have e3 : rowsBy Vx.c m ++ [[.int .i64 vs[i].id.s, .int .i64 vs[i].id.n, .sl .shared 3 (rowsBy Dart.c vs[i].ring), .str vs[i].label, .int .i64 vs[i].attr]] = rowsBy Vx.c (m ++ [cutR vs[i]]) := by rw [hc, List.take_of_length_le (by omega)]; exact rowsBy_snoc Vx.c m vs[i]
      simp only [f8_b1, h1z, h3, rowsBy_get Vx.c h1, Vx.c, k1, h5, e3, wrap_succ h2 hw, List.take_length, go_sem, reduceIte, Nat.reduceEqDiff, Nat.reduceAdd, Nat.reduceLeDiff, List.length_cons, List.length_nil, Int.reduceLE, Int.reduceToNat]
  · by_cases h : vs.length ≤ 26
    · rw [Nat.min_eq_left h]
      simp only [f8_b1, dec_ge (Nat.le_refl vs.length), go_sem, reduceIte, Nat.reduceEqDiff, Nat.reduceAdd, Nat.reduceLeDiff, List.length_cons, List.length_nil]
    · rw [Nat.min_eq_right (by omega)]
      simp only [f8_b1, show decide ((26 : Int) < (vs.length : Int)) = true from decide_eq_true (by omega), go_sem, reduceIte, Nat.reduceEqDiff, Nat.reduceAdd, Nat.reduceLeDiff, List.length_cons, List.length_nil, Int.reduceLT, Int.cast_ofNat_Int]
theorem few_l2 (vs : List Vx) (gs : List Gn) (eds : List Ed) (m0 : List Vx) : E (call F) 0 f8_l2 (⟨(upd (upd (upd (upd (upd Sx.e0 7 (.v (.int .i64 (0)))) 6 (.s 6 0 0)) 3 (.s 3 0 (m0).length)) 2 (.p 2 0)) 1 (.p 1 0)), (upd (upd (upd (upd Sx.h0 6 (some (.arr false 65 4 []))) 3 (some (.arr false 43 5 (rowsBy Vx.c (m0))))) 2 (some (.var false [(.v (.sl (.tight 43) 5 [])), (.v (.sl (.tight 65) 4 [])), (.v (.sl (.tight 55) 6 []))]))) 1 (some (.var false [(.v (.sl .shared 5 (rowsBy Vx.c vs))), (.v (.sl .shared 4 (rowsBy Ed.c eds))), (.v (.sl .shared 6 (rowsBy Gn.c gs)))])))⟩ : St) =
    some (.exit 2, (⟨(upd (upd (upd (upd Sx.e0 6 (.s 6 0 (eds.take (min eds.length 42)).length)) 3 (.s 3 0 (m0).length)) 2 (.p 2 0)) 1 (.p 1 0)), (upd (upd (upd (upd Sx.h0 6 (some (.arr false 65 4 (rowsBy Ed.c (eds.take (min eds.length 42)))))) 3 (some (.arr false 43 5 (rowsBy Vx.c (m0))))) 2 (some (.var false [(.v (.sl (.tight 43) 5 [])), (.v (.sl (.tight 65) 4 [])), (.v (.sl (.tight 55) 6 []))]))) 1 (some (.var false [(.v (.sl .shared 5 (rowsBy Vx.c vs))), (.v (.sl .shared 4 (rowsBy Ed.c eds))), (.v (.sl .shared 6 (rowsBy Gn.c gs)))])))⟩ : St)) := by
  refine loop_to (b := f8_b2) (fun i => (⟨(upd (upd (upd (upd (upd Sx.e0 7 (.v (.int .i64 ((i : Int))))) 6 (.s 6 0 (eds.take i).length)) 3 (.s 3 0 (m0).length)) 2 (.p 2 0)) 1 (.p 1 0)), (upd (upd (upd (upd Sx.h0 6 (some (.arr false 65 4 (rowsBy Ed.c (eds.take i))))) 3 (some (.arr false 43 5 (rowsBy Vx.c (m0))))) 2 (some (.var false [(.v (.sl (.tight 43) 5 [])), (.v (.sl (.tight 65) 4 [])), (.v (.sl (.tight 55) 6 []))]))) 1 (some (.var false [(.v (.sl .shared 5 (rowsBy Vx.c vs))), (.v (.sl .shared 4 (rowsBy Ed.c eds))), (.v (.sl .shared 6 (rowsBy Gn.c gs)))])))⟩ : St)) (min eds.length 42) ?_ ?_ (by simp)
  · intro i hi
    have h1 : i < eds.length := by omega
    have h1z : (i : Int) < (eds.length : Int) := by omega
    have h2 : i < 42 := by omega
    have h3 : decide ((i : Int) < 42) = true := decide_eq_true (by omega)
    have hw : (42 : Nat) ≤ 9223372036854775807 := by decide
    have hs : eds.take (i + 1) = eds.take i ++ [eds[i]] := List.take_succ_eq_append_getElem h1
    have hl : (eds.take i).length ≤ i := by rw [List.length_take]; omega
    have h5 : ((eds.take i).length + 1) * 40 ≤ 140737488355328 := by omega
    rw [hs]
    have e2 : (eds.take i ++ [eds[i]]).length = (eds.take i).length + 1 := by rw [List.length_append]; rfl
    rw [e2]
    generalize eds.take i = m at *
    have e3 : rowsBy Ed.c m ++ [[.int .i64 eds[i].id.s, .int .i64 eds[i].id.n, .str eds[i].label, .int .i64 eds[i].attr]] = rowsBy Ed.c (m ++ [eds[i]]) := rowsBy_snoc Ed.c m eds[i]
    simp only [f8_b2, h1z, h3, rowsBy_get Ed.c h1, Ed.c, h5, e3, wrap_succ h2 hw, List.take_length, go_sem, reduceIte, Nat.reduceEqDiff, Nat.reduceAdd, Nat.reduceLeDiff, List.length_cons, List.length_nil]
  · by_cases h : eds.length ≤ 42
    · rw [Nat.min_eq_left h]
      simp only [f8_b2, dec_ge (Nat.le_refl eds.length), go_sem, reduceIte, Nat.reduceEqDiff, Nat.reduceAdd, Nat.reduceLeDiff, List.length_cons, List.length_nil]
    · rw [Nat.min_eq_right (by omega)]
      simp only [f8_b2, show decide ((42 : Int) < (eds.length : Int)) = true from decide_eq_true (by omega), go_sem, reduceIte, Nat.reduceEqDiff, Nat.reduceAdd, Nat.reduceLeDiff, List.length_cons, List.length_nil, Int.reduceLT, Int.cast_ofNat_Int]
theorem few_l3 (vs : List Vx) (gs : List Gn) (eds : List Ed) (m0 : List Vx) (m1 : List Ed) : E (call F) 0 f8_l3 (⟨(upd (upd (upd (upd (upd (upd Sx.e0 9 (.v (.int .i64 (0)))) 8 (.s 8 0 0)) 6 (.s 6 0 m1.length)) 3 (.s 3 0 m0.length)) 2 (.p 2 0)) 1 (.p 1 0)), (upd (upd (upd (upd (upd Sx.h0 8 (some (.arr false 55 6 []))) 6 (some (.arr false 65 4 (rowsBy Ed.c m1)))) 3 (some (.arr false 43 5 (rowsBy Vx.c m0)))) 2 (some (.var false [(.v (.sl (.tight 43) 5 [])), (.v (.sl (.tight 65) 4 [])), (.v (.sl (.tight 55) 6 []))]))) 1 (some (.var false [(.v (.sl .shared 5 (rowsBy Vx.c vs))), (.v (.sl .shared 4 (rowsBy Ed.c eds))), (.v (.sl .shared 6 (rowsBy Gn.c gs)))])))⟩ : St) =
    some (.exit 4, (⟨(upd (upd (upd (upd Sx.e0 8 (.s 8 0 (gs.take (min gs.length 400)).length)) 6 (.s 6 0 m1.length)) 3 (.s 3 0 m0.length)) 2 (.p 2 0)), (upd (upd (upd (upd Sx.h0 8 (some (.arr false 55 6 (rowsBy Gn.c (gs.take (min gs.length 400)))))) 6 (some (.arr false 65 4 (rowsBy Ed.c m1)))) 3 (some (.arr false 43 5 (rowsBy Vx.c m0)))) 2 (some (.var false [(.v (.sl (.tight 43) 5 [])), (.v (.sl (.tight 65) 4 [])), (.v (.sl (.tight 55) 6 []))])))⟩ : St)) := by
  refine loop_to (b := f8_b3) (fun i => (⟨(upd (upd (upd (upd (upd (upd Sx.e0 9 (.v (.int .i64 ((i : Int))))) 8 (.s 8 0 (gs.take i).length)) 6 (.s 6 0 m1.length)) 3 (.s 3 0 m0.length)) 2 (.p 2 0)) 1 (.p 1 0)), (upd (upd (upd (upd (upd Sx.h0 8 (some (.arr false 55 6 (rowsBy Gn.c (gs.take i))))) 6 (some (.arr false 65 4 (rowsBy Ed.c m1)))) 3 (some (.arr false 43 5 (rowsBy Vx.c m0)))) 2 (some (.var false [(.v (.sl (.tight 43) 5 [])), (.v (.sl (.tight 65) 4 [])), (.v (.sl (.tight 55) 6 []))]))) 1 (some (.var false [(.v (.sl .shared 5 (rowsBy Vx.c vs))), (.v (.sl .shared 4 (rowsBy Ed.c eds))), (.v (.sl .shared 6 (rowsBy Gn.c gs)))])))⟩ : St)) (min gs.length 400) ?_ ?_ (by simp)
  · intro i hi
    have h1 : i < gs.length := by omega
    have h1z : (i : Int) < (gs.length : Int) := by omega
    have h2 : i < 400 := by omega
    have h3 : decide ((i : Int) < 400) = true := decide_eq_true (by omega)
    have hw : (400 : Nat) ≤ 9223372036854775807 := by decide
    have hs : gs.take (i + 1) = gs.take i ++ [gs[i]] := List.take_succ_eq_append_getElem h1
    have hl : (gs.take i).length ≤ i := by rw [List.length_take]; omega
    have h5 : ((gs.take i).length + 1) * 48 ≤ 140737488355328 := by omega
    rw [hs]
    have e2 : (gs.take i ++ [gs[i]]).length = (gs.take i).length + 1 := by rw [List.length_append]; rfl
    rw [e2]
    generalize gs.take i = m at *
    have e3 : rowsBy Gn.c m ++ [[.int .i64 gs[i].d.e.s, .int .i64 gs[i].d.e.n, .int .i64 gs[i].d.d, .int .i64 gs[i].to.e.s, .int .i64 gs[i].to.e.n, .int .i64 gs[i].to.d]] = rowsBy Gn.c (m ++ [gs[i]]) := rowsBy_snoc Gn.c m gs[i]
    simp only [f8_b3, h1z, h3, rowsBy_get Gn.c h1, Gn.c, h5, e3, wrap_succ h2 hw, List.take_length, go_sem, reduceIte, Nat.reduceEqDiff, Nat.reduceAdd, List.length_cons, List.length_nil]
  · by_cases h : gs.length ≤ 400
    · rw [Nat.min_eq_left h]
      simp only [f8_b3, dec_ge (Nat.le_refl gs.length), go_sem, reduceIte, Nat.reduceEqDiff, Nat.reduceAdd, List.length_cons, List.length_nil]
    · rw [Nat.min_eq_right (by omega)]
      simp only [f8_b3, show decide ((400 : Int) < (gs.length : Int)) = true from decide_eq_true (by omega), go_sem, reduceIte, Nat.reduceEqDiff, Nat.reduceAdd, List.length_cons, List.length_nil, Int.reduceLT, Int.cast_ofNat_Int]
theorem c_few (vs : List Vx) (gs : List Gn) (eds : List Ed) : call F 8 [.agg [.sl .shared 5 (rowsBy Vx.c vs), .sl .shared 4 (rowsBy Ed.c eds), .sl .shared 6 (rowsBy Gn.c gs)]] = some (.agg [.sl (.own 43) 5 (rowsBy Vx.c (fewV vs)), .sl (.own 65) 4 (rowsBy Ed.c (fewE eds)), .sl (.own 55) 6 (rowsBy Gn.c (fewG gs))]) := by
  have l1 := few_l1 vs gs eds
  rw [show (vs.take (min vs.length 26)).map cutR = fewV vs from rfl] at l1
  have l2 := few_l2 vs gs eds (fewV vs)
  rw [show eds.take (min eds.length 42) = fewE eds from rfl] at l2
  have l3 := few_l3 vs gs eds (fewV vs) (fewE eds)
  rw [show gs.take (min gs.length 400) = fewG gs from rfl] at l3
  generalize fewV vs = m0 at *
  generalize fewE eds = m1 at *
  generalize fewG gs = m2 at *
  rw [call_code F (show F 8 = some (.code f8) from rfl)]
  simp only [f8, l1, l2, l3, go_sem, reduceIte, reduceCtorEq, Nat.reduceEqDiff, Nat.reduceAdd, Nat.reduceLeDiff, Nat.reduceBEq, List.length_cons, List.length_nil]
/-- those that rise -/
def riseOk (a : List Gn) (g : Gn) : Bool := match a.getLast? with
  | none => true
  | some z => decide (ordD z.d g.d < 0)
def rise (l : List Gn) : List Gn := l.foldl (fun a g => if riseOk a g then a ++ [g] else a) []
theorem rise_succ {l : List Gn} {i : Nat} (h : i < l.length) : rise (l.take (i + 1)) = if riseOk (rise (l.take i)) l[i] then rise (l.take i) ++ [l[i]] else rise (l.take i) := by
  rw [List.take_succ_eq_append_getElem h]
  unfold rise
  rw [List.foldl_append]; rfl
theorem rise_len (l : List Gn) : ∀ i, (rise (l.take i)).length ≤ i
  | 0 => by simp [rise]
  | i + 1 => by
    have := rise_len l i
    by_cases h : i < l.length
    · rw [rise_succ h]; split
      · simp; omega
      · omega
    · rw [List.take_of_length_le (by omega), ← List.take_of_length_le (show l.length ≤ i by omega)]; omega
theorem rise_len' (l : List Gn) : (rise l).length ≤ l.length := by
  have := rise_len l l.length
  rwa [List.take_length] at this
theorem rise_l1 (gs : List Gn) (hg : Fits gs) : E (call F) 0 f9_l1 (⟨(upd (upd (upd Sx.e0 4 (.v (.int .i64 (0)))) 3 (.s 3 0 0)) 0 (.v (.sl .shared 6 (rowsBy Gn.c gs)))), (upd Sx.h0 3 (some (.arr false 55 6 [])))⟩ : St) =
    some (.exit 0, (⟨(upd Sx.e0 3 (.s 3 0 (rise gs).length)), (upd Sx.h0 3 (some (.arr false 55 6 (rowsBy Gn.c (rise gs)))))⟩ : St)) := by
  have hgl := hg.le
  have key := loop_to (C := call F) (lo := 0) (b := f9_b1) (fun i => (⟨(upd (upd (upd Sx.e0 4 (.v (.int .i64 ((i : Int))))) 3 (.s 3 0 (rise (gs.take i)).length)) 0 (.v (.sl .shared 6 (rowsBy Gn.c gs)))), (upd Sx.h0 3 (some (.arr false 55 6 (rowsBy Gn.c (rise (gs.take i))))))⟩ : St)) gs.length (r := (.exit 0, (⟨(upd Sx.e0 3 (.s 3 0 (rise gs).length)), (upd Sx.h0 3 (some (.arr false 55 6 (rowsBy Gn.c (rise gs)))))⟩ : St))) ?_ ?_ (by simp)
  · exact key
  · intro i hi
    have h1z : (i : Int) < (gs.length : Int) := by omega
    have hw : gs.length ≤ 9223372036854775807 := by omega
    have hl := rise_len gs i
    have h5 : ((rise (gs.take i)).length + 1) * 48 ≤ 140737488355328 := by omega
    rw [rise_succ hi]
    generalize rise (gs.take i) = m at *
    have e2 : (m ++ [gs[i]]).length = m.length + 1 := by simp
    have e3 : rowsBy Gn.c m ++ [[.int .i64 gs[i].d.e.s, .int .i64 gs[i].d.e.n, .int .i64 gs[i].d.d, .int .i64 gs[i].to.e.s, .int .i64 gs[i].to.e.n, .int .i64 gs[i].to.d]] = rowsBy Gn.c (m ++ [gs[i]]) := rowsBy_snoc Gn.c m gs[i]
    by_cases hm : m.length = 0
    · have k0 : decide ((m.length : Int) = 0) = true := decide_eq_true (by omega)
      have hr : riseOk m gs[i] = true := by
        have : m = [] := List.eq_nil_of_length_eq_zero hm
        subst this; rfl
      rw [if_pos hr, e2]
      simp only [f9_b1, h1z, rowsBy_get Gn.c hi, Gn.c, k0, h5, e3, wrap_succ hi hw, List.take_length, go_sem, reduceIte, reduceCtorEq, Nat.reduceEqDiff, Nat.reduceAdd, List.length_cons, List.length_nil]
    · have k0 : decide ((m.length : Int) = 0) = false := decide_eq_false (by omega)
      have hlast : m.length - 1 < m.length := by omega
      have hz : IntKind.i64.wrap ((m.length : Int) - 1) = ((m.length - 1 : Nat) : Int) := by rw [wrap64 (by omega) (by omega)]; omega
      have hzz : ((m.length - 1 : Nat) : Int) < (m.length : Int) := by omega
      have hr : riseOk m gs[i] = decide (ordD m[m.length - 1].d gs[i].d < 0) := by
        unfold riseOk
        rw [List.getLast?_eq_getElem?, List.getElem?_eq_getElem hlast]
      have od := c_r01_OrderDart m[m.length - 1].d.e.s m[m.length - 1].d.e.n m[m.length - 1].d.d gs[i].d.e.s gs[i].d.e.n gs[i].d.d
      rw [show ordD ⟨⟨m[m.length - 1].d.e.s, m[m.length - 1].d.e.n⟩, m[m.length - 1].d.d⟩ ⟨⟨gs[i].d.e.s, gs[i].d.e.n⟩, gs[i].d.d⟩ = ordD m[m.length - 1].d gs[i].d from rfl] at od
      generalize hzd : m[m.length - 1] = z at *
      have gz := rowsBy_get Gn.c hlast
      rw [hzd] at gz
      rw [hr]
      by_cases ho : ordD z.d gs[i].d < 0
      · have ho' := dec_t ho
        rw [ho']
        rw [if_pos rfl, e2]
        simp only [f9_b1, h1z, hz, hzz, rowsBy_get Gn.c hi, gz, Gn.c, k0, h5, e3, od, ho', wrap_succ hi hw, List.take_length, go_sem, reduceIte, reduceCtorEq, Nat.reduceEqDiff, Nat.reduceAdd, Nat.reduceMul, Nat.reduceLeDiff, List.length_cons, List.length_nil, Nat.testBit, Nat.reduceShiftRight, Nat.reduceAnd, Nat.reduceBNe]
      · have ho' := dec_f ho
        rw [ho']
        rw [if_neg (by simp)]
        simp only [f9_b1, h1z, hz, hzz, rowsBy_get Gn.c hi, gz, Gn.c, k0, h5, e3, od, ho', wrap_succ hi hw, List.take_length, go_sem, reduceIte, reduceCtorEq, Nat.reduceEqDiff, Nat.reduceAdd, Nat.reduceMul, Nat.reduceLeDiff, List.length_cons, List.length_nil, Nat.testBit, Nat.reduceShiftRight, Nat.reduceAnd, Nat.reduceBNe]
  · rw [List.take_length]
    simp only [f9_b1, dec_ge (Nat.le_refl gs.length), go_sem, reduceIte, reduceCtorEq, Nat.reduceEqDiff]
theorem c_rising (gs : List Gn) (hg : Fits gs) : call F 9 [.sl .shared 6 (rowsBy Gn.c gs)] = some (.sl (.own 55) 6 (rowsBy Gn.c (rise gs))) := by
  have l1 := rise_l1 gs hg
  rw [call_code F (show F 9 = some (.code f9) from rfl)]
  simp only [f9, l1, go_sem, reduceIte, reduceCtorEq, Nat.reduceEqDiff, List.length_nil]
theorem c_shown : call F 7 [] = some (.bool true) := by
  have r1 := i_Resolve [⟨⟨1, 9⟩, [⟨⟨1, 1⟩, 0⟩], ⟨#[]⟩, 0⟩] [⟨⟨⟨1, 2⟩, 0⟩, ⟨⟨1, 1⟩, 0⟩⟩, ⟨⟨⟨1, 3⟩, 0⟩, ⟨⟨1, 2⟩, 0⟩⟩] [] (by unfold Fits; decide) (by intro v hv; simp at hv; subst hv; unfold Fits; decide) (by decide) ⟨⟨1, 3⟩, 0⟩
  have r2 := i_Resolve [⟨⟨1, 9⟩, [⟨⟨1, 1⟩, 0⟩], ⟨#[]⟩, 0⟩] [⟨⟨⟨1, 2⟩, 0⟩, ⟨⟨1, 1⟩, 0⟩⟩, ⟨⟨⟨1, 3⟩, 0⟩, ⟨⟨1, 2⟩, 0⟩⟩] [] (by unfold Fits; decide) (by intro v hv; simp at hv; subst hv; unfold Fits; decide) (by decide) ⟨⟨1, 4⟩, 0⟩
  rw [show res [⟨⟨1, 9⟩, [⟨⟨1, 1⟩, 0⟩], ⟨#[]⟩, 0⟩] [⟨⟨⟨1, 2⟩, 0⟩, ⟨⟨1, 1⟩, 0⟩⟩, ⟨⟨⟨1, 3⟩, 0⟩, ⟨⟨1, 2⟩, 0⟩⟩] ⟨⟨1, 3⟩, 0⟩ = ⟨⟨1, 1⟩, 0⟩ by rfl] at r1
  rw [show res [⟨⟨1, 9⟩, [⟨⟨1, 1⟩, 0⟩], ⟨#[]⟩, 0⟩] [⟨⟨⟨1, 2⟩, 0⟩, ⟨⟨1, 1⟩, 0⟩⟩, ⟨⟨⟨1, 3⟩, 0⟩, ⟨⟨1, 2⟩, 0⟩⟩] ⟨⟨1, 4⟩, 0⟩ = Dart0 by rfl] at r2
  simp only [rowsBy, Vx.c, Gn.c, Dart.c, dartT, Dart0, ID0] at r1 r2
  rw [call_code F (show F 7 = some (.code f7) from rfl)]
  simp only [f7, r1, r2, c_dart, go_sem, reduceIte, reduceCtorEq, Nat.reduceEqDiff, Nat.reduceAdd, Nat.reduceMul, Nat.reduceLeDiff, List.length_cons, List.length_nil, Nat.testBit, Nat.reduceShiftRight, Nat.reduceAnd, Nat.reduceBNe]
end Go.Proofs.Ytjhbejlpmchhfaa.Sx
