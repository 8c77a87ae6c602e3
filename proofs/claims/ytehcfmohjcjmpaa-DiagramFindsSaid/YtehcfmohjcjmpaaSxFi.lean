/- DiagramFinds: what is found, named, compared. -/
import Derived.Test.YtehcfmohjcjmpaaSxA
namespace Go.Proofs.Ytehcfmohjcjmpaa.Sx
open Go
def vx0 : Vx := ⟨⟨0, 0⟩, [], ⟨#[]⟩, 0⟩
theorem same_one (v w : Vx) (hv : Fits v.ring) : call F 21 [.agg [.sl .shared 5 [Vx.c v], .sl .shared 4 []], .agg [.sl .shared 5 [Vx.c w], .sl .shared 4 []]] = some (.bool (decide (v = w))) := by
  have := i_r04_Same [v] [w] [] [] (Fits.of (by simp)) (fun u hu => by rw [List.mem_singleton.1 hu]; exact hv) (Fits.of (by decide))
  rw [show (decide ([v] = [w]) && decide (([] : List Ed) = [])) = decide (v = w) by simp] at this
  exact this
set_option maxHeartbeats 8000000 in
theorem t_finds (va : List Vx) (ea : List Ed) (vb : List Vx) (eb : List Ed) (x : Dart) : call F 9 [.agg [.sl .shared 5 (rowsBy Vx.c va), .sl .shared 4 (rowsBy Ed.c ea)], .agg [.sl .shared 5 (rowsBy Vx.c vb), .sl .shared 4 (rowsBy Ed.c eb)], .agg [.int .i64 x.e.s, .int .i64 x.e.n, .int .i64 x.d]] = some (.bool true) := by
  have cf1 := c_few va ea
  have cf2 := c_few vb eb
  have hr := fewVx_fits 30 30 (by decide) va
  have hl := fewVx_len 30 30 va
  have hl2 : (ea.take 50).length ≤ 50 := by rw [List.length_take]; omega
  generalize fewVx 30 30 va = v at *
  generalize ea.take 50 = e at *
  generalize fewVx 30 30 vb = w at *
  generalize eb.take 50 = f at *
  have hlv : Fits v := Fits.of (by omega)
  have hle : Fits e := Fits.of (by omega)
  have v1 := i_diagram_Vertex v x.e hlv hr (.sl .shared 4 (rowsBy Ed.c e))
  have v2 := i_r04_Vertex v x.e hlv (.sl .shared 4 (rowsBy Ed.c e))
  have e1 := i_diagram_Edge e x.e hle v
  have e2 := i_r04_Edge e x.e hle v
  have a1 := i_At v x hlv hr (.sl .shared 4 (rowsBy Ed.c e))
  have a2 := i_r04_At v x hlv hr (.sl .shared 4 (rowsBy Ed.c e))
  have n1 := i_diagram_Names v e (by omega) (by omega)
  have n2 := i_r04_Names v e (by omega) hle
  have n3 := c_IDs (v.map Vx.id ++ e.map Ed.id) (v.map Vx.id ++ e.map Ed.id) (by rw [List.length_append, List.length_map, List.length_map]; omega)
  rw [dec_t rfl] at n3
  have k1 := i_diagram_Clone v e (by omega) (by omega) hr
  have k2 := i_r04_Same v v e e hlv hr hle
  rw [dec_t rfl, dec_t rfl, Bool.and_self] at k2
  have s1 := i_diagram_Same v w e f hlv hr hle
  have s2 := i_r04_Same v w e f hlv hr hle
  generalize (decide (v = w) && decide (e = f)) = b at *
  generalize v.map Vx.id ++ e.map Ed.id = ns at *
  have hv0 := same_one vx0 vx0 (Fits.of (by decide))
  rw [dec_t rfl] at hv0
  have hv1 : ∀ u, vxBy v x.e = some u → call F 21 [.agg [.sl .shared 5 [Vx.c u], .sl .shared 4 []], .agg [.sl .shared 5 [Vx.c u], .sl .shared 4 []]] = some (.bool true) := fun u hu => by
    have := same_one u u (hr u (firstBy_mem hu).1)
    rwa [dec_t rfl] at this
  simp only [Vx.c, vx0, rowsBy_nil] at hv0 hv1
  cases hv : vxBy v x.e with
  | none =>
    rw [hv] at v1 v2
    cases he : edBy e x.e with
    | none =>
      rw [he] at e1 e2
      cases ha : atBy v x with
      | none =>
        rw [ha] at a1 a2
        simp only [vxT, edT, atT, idT] at v1 v2 e1 e2 a1 a2
        rw [call_code F (show F 9 = some (.code f9) from rfl)]
        simp only [f9, cf1, cf2, c_shown, v1, v2, e1, e2, a1, a2, n1, n2, n3, k1, k2, s1, s2, hv0, rowsBy_takeAll, decide_true, beq_self_eq_true, Bool.and_self, go_sem, reduceIte, reduceCtorEq, Nat.reduceEqDiff, Nat.reduceAdd, Nat.reduceMul, Nat.reduceLeDiff, Nat.reduceBEq, List.length_cons, List.length_nil, Nat.testBit, Nat.reduceShiftRight, Nat.reduceAnd, Nat.reduceBNe]
      | some u =>
        rw [ha] at a1 a2
        simp only [vxT, edT, atT, idT] at v1 v2 e1 e2 a1 a2
        rw [call_code F (show F 9 = some (.code f9) from rfl)]
        simp only [f9, cf1, cf2, c_shown, v1, v2, e1, e2, a1, a2, n1, n2, n3, k1, k2, s1, s2, hv0, rowsBy_takeAll, decide_true, beq_self_eq_true, Bool.and_self, go_sem, reduceIte, reduceCtorEq, Nat.reduceEqDiff, Nat.reduceAdd, Nat.reduceMul, Nat.reduceLeDiff, Nat.reduceBEq, List.length_cons, List.length_nil, Nat.testBit, Nat.reduceShiftRight, Nat.reduceAnd, Nat.reduceBNe]
    | some g =>
      rw [he] at e1 e2
      cases ha : atBy v x with
      | none =>
        rw [ha] at a1 a2
        simp only [vxT, edT, atT, idT] at v1 v2 e1 e2 a1 a2
        rw [call_code F (show F 9 = some (.code f9) from rfl)]
        simp only [f9, cf1, cf2, c_shown, v1, v2, e1, e2, a1, a2, n1, n2, n3, k1, k2, s1, s2, hv0, rowsBy_takeAll, decide_true, beq_self_eq_true, Bool.and_self, go_sem, reduceIte, reduceCtorEq, Nat.reduceEqDiff, Nat.reduceAdd, Nat.reduceMul, Nat.reduceLeDiff, Nat.reduceBEq, List.length_cons, List.length_nil, Nat.testBit, Nat.reduceShiftRight, Nat.reduceAnd, Nat.reduceBNe]
      | some u =>
        rw [ha] at a1 a2
        simp only [vxT, edT, atT, idT] at v1 v2 e1 e2 a1 a2
        rw [call_code F (show F 9 = some (.code f9) from rfl)]
        simp only [f9, cf1, cf2, c_shown, v1, v2, e1, e2, a1, a2, n1, n2, n3, k1, k2, s1, s2, hv0, rowsBy_takeAll, decide_true, beq_self_eq_true, Bool.and_self, go_sem, reduceIte, reduceCtorEq, Nat.reduceEqDiff, Nat.reduceAdd, Nat.reduceMul, Nat.reduceLeDiff, Nat.reduceBEq, List.length_cons, List.length_nil, Nat.testBit, Nat.reduceShiftRight, Nat.reduceAnd, Nat.reduceBNe]
  | some vv =>
    rw [hv] at v1 v2
    have hv1' := hv1 vv hv
    cases he : edBy e x.e with
    | none =>
      rw [he] at e1 e2
      cases ha : atBy v x with
      | none =>
        rw [ha] at a1 a2
        simp only [vxT, edT, atT, idT] at v1 v2 e1 e2 a1 a2
        rw [call_code F (show F 9 = some (.code f9) from rfl)]
        simp only [f9, cf1, cf2, c_shown, v1, v2, e1, e2, a1, a2, n1, n2, n3, k1, k2, s1, s2, hv1', rowsBy_takeAll, decide_true, beq_self_eq_true, Bool.and_self, go_sem, reduceIte, reduceCtorEq, Nat.reduceEqDiff, Nat.reduceAdd, Nat.reduceMul, Nat.reduceLeDiff, Nat.reduceBEq, List.length_cons, List.length_nil, Nat.testBit, Nat.reduceShiftRight, Nat.reduceAnd, Nat.reduceBNe]
      | some u =>
        rw [ha] at a1 a2
        simp only [vxT, edT, atT, idT] at v1 v2 e1 e2 a1 a2
        rw [call_code F (show F 9 = some (.code f9) from rfl)]
        simp only [f9, cf1, cf2, c_shown, v1, v2, e1, e2, a1, a2, n1, n2, n3, k1, k2, s1, s2, hv1', rowsBy_takeAll, decide_true, beq_self_eq_true, Bool.and_self, go_sem, reduceIte, reduceCtorEq, Nat.reduceEqDiff, Nat.reduceAdd, Nat.reduceMul, Nat.reduceLeDiff, Nat.reduceBEq, List.length_cons, List.length_nil, Nat.testBit, Nat.reduceShiftRight, Nat.reduceAnd, Nat.reduceBNe]
    | some g =>
      rw [he] at e1 e2
      cases ha : atBy v x with
      | none =>
        rw [ha] at a1 a2
        simp only [vxT, edT, atT, idT] at v1 v2 e1 e2 a1 a2
        rw [call_code F (show F 9 = some (.code f9) from rfl)]
        simp only [f9, cf1, cf2, c_shown, v1, v2, e1, e2, a1, a2, n1, n2, n3, k1, k2, s1, s2, hv1', rowsBy_takeAll, decide_true, beq_self_eq_true, Bool.and_self, go_sem, reduceIte, reduceCtorEq, Nat.reduceEqDiff, Nat.reduceAdd, Nat.reduceMul, Nat.reduceLeDiff, Nat.reduceBEq, List.length_cons, List.length_nil, Nat.testBit, Nat.reduceShiftRight, Nat.reduceAnd, Nat.reduceBNe]
      | some u =>
        rw [ha] at a1 a2
        simp only [vxT, edT, atT, idT] at v1 v2 e1 e2 a1 a2
        rw [call_code F (show F 9 = some (.code f9) from rfl)]
        simp only [f9, cf1, cf2, c_shown, v1, v2, e1, e2, a1, a2, n1, n2, n3, k1, k2, s1, s2, hv1', rowsBy_takeAll, decide_true, beq_self_eq_true, Bool.and_self, go_sem, reduceIte, reduceCtorEq, Nat.reduceEqDiff, Nat.reduceAdd, Nat.reduceMul, Nat.reduceLeDiff, Nat.reduceBEq, List.length_cons, List.length_nil, Nat.testBit, Nat.reduceShiftRight, Nat.reduceAnd, Nat.reduceBNe]
end Go.Proofs.Ytehcfmohjcjmpaa.Sx
