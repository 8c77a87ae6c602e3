/- AnchorNear: corners near a dart that is gone. -/
import Derived.Test.YtjhbejlpmchhfaaSxA
namespace Go.Proofs.Ytjhbejlpmchhfaa.Sx
open Go
theorem fewV_len (vs : List Vx) : (fewV vs).length ≤ 26 := by unfold fewV; rw [List.length_map, List.length_take]; omega
theorem fewV_fits (vs : List Vx) : FitsR (fewV vs) := by
  intro v hv
  unfold fewV at hv
  obtain ⟨w, _, rfl⟩ := List.mem_map.1 hv
  show (w.ring.take 82).length ≤ 1000000
  rw [List.length_take]; omega
theorem fewG_len (l : List Gn) : (fewG l).length ≤ 400 := by unfold fewG; rw [List.length_take]; omega
theorem res_at {vs : List Vx} {gs : List Gn} {d : Dart} {w : Vx} (h : atBy vs d = some w) : res vs gs d = d := by unfold res; simp only [resN, h]
theorem res_lost {vs : List Vx} {gs : List Gn} {d : Dart} (h : atBy vs d = none) (h2 : gnBy gs d = none) : res vs gs d = Dart0 := by unfold res; simp only [resN, h, h2]
theorem res_to {vs : List Vx} {gs : List Gn} {d : Dart} {g : Gn} {w : Vx} (h : atBy vs d = none) (h2 : gnBy gs d = some g) (h3 : atBy vs g.to = some w) : res vs gs d = g.to := by
  unfold res
  obtain ⟨k, hk⟩ : ∃ k, gs.length = k + 1 := by
    have := List.length_pos_of_mem (firstBy_mem h2).1
    exact ⟨gs.length - 1, by omega⟩
  rw [hk]
  simp only [resN, h, h2, h3]
theorem at_of {vs : List Vx} {d : Dart} {v : Vx} (hv : v ∈ vs) (hd : d ∈ v.ring) : ∃ w, atBy vs d = some w := by
  cases h : atBy vs d with
  | some w => exact ⟨w, rfl⟩
  | none =>
    have := firstBy_no h v hv
    simp at this
    exact absurd hd this
theorem corD_zero (v : Vx) : corD v Dart0 = Dart0 := by unfold corD; split <;> rfl
set_option maxHeartbeats 8000000 in
theorem t_near (vs0 : List Vx) (gs0 : List Gn) (eds0 : List Ed) (x : ID) (d : Dart) : call F 3 [.agg [.sl .shared 5 (rowsBy Vx.c vs0), .sl .shared 4 (rowsBy Ed.c eds0), .sl .shared 6 (rowsBy Gn.c gs0)], .agg [.int .i64 x.s, .int .i64 x.n], .agg [.int .i64 d.e.s, .int .i64 d.e.n, .int .i64 d.d]] = some (.bool true) := by
  have cf := c_few vs0 gs0 eds0
  have hvl : Fits (fewV vs0) := Nat.le_trans (fewV_len vs0) (by decide)
  have hvr := fewV_fits vs0
  have hgl := fewG_len gs0
  have cr := c_rising (fewG gs0) (Nat.le_trans hgl (by decide))
  have hrl := rise_len' (fewG gs0)
  generalize fewV vs0 = vs at *
  generalize fewE eds0 = eds at *
  generalize rise (fewG gs0) = g0 at *
  generalize fewG gs0 = g00 at *
  have main : ∀ g, (g0 = g ∧ g0.length ≤ 390 ∨ g = g0.take 390 ∧ 390 < g0.length) → call F 3 [.agg [.sl .shared 5 (rowsBy Vx.c vs0), .sl .shared 4 (rowsBy Ed.c eds0), .sl .shared 6 (rowsBy Gn.c gs0)], .agg [.int .i64 x.s, .int .i64 x.n], .agg [.int .i64 d.e.s, .int .i64 d.e.n, .int .i64 d.d]] = some (.bool true) := by
    intro g hgg
    have hg9 : g.length ≤ 999999 := by
      rcases hgg with ⟨rfl, hk⟩ | ⟨rfl, hk⟩
      · omega
      · rw [List.length_take]; omega
    have hgf : Fits g := Nat.le_trans hg9 (by decide)
    have c1 := i_Corner vs g eds hvl hvr hg9 x d
    have v1 := i_r04_Vertex vs x hvl (.sl .shared 4 (rowsBy Ed.c eds))
    unfold corR at c1
    cases hv : vxBy vs x with
    | none =>
      rw [hv] at c1 v1
      dsimp only at c1
      simp only [corT, vxT, Dart0, ID0] at c1 v1
      rcases hgg with ⟨rfl, hk⟩ | ⟨rfl, hk⟩
      · have k0 : decide ((g0.length : Int) > 390) = false := decide_eq_false (by omega)
        rw [call_code F (show F 3 = some (.code f3) from rfl)]
        simp only [f3, c_shown, cf, cr, k0, c1, v1, go_sem, reduceIte, reduceCtorEq, Nat.reduceEqDiff, Nat.reduceAdd, Nat.reduceMul, Nat.reduceLeDiff, List.length_cons, List.length_nil, Int.reduceLE, Int.reduceToNat]
      · have k0 : decide ((g0.length : Int) > 390) = true := decide_eq_true (by omega)
        have k00 : (390 : Int) ≤ (g0.length : Int) := by omega
        rw [call_code F (show F 3 = some (.code f3) from rfl)]
        simp only [f3, c_shown, cf, cr, k0, k00, c1, v1, go_sem, reduceIte, reduceCtorEq, Nat.reduceEqDiff, Nat.reduceAdd, Nat.reduceMul, Nat.reduceLeDiff, List.length_cons, List.length_nil, Int.reduceLE, Int.reduceToNat]
    | some v =>
      have hvm := (firstBy_mem hv).1
      rw [hv] at c1 v1
      dsimp only at c1
      have rs := i_Resolve vs g eds hvl hvr hg9 d
      have ix := i_r03_Index v.ring d (hvr v hvm)
      by_cases hm : d ∈ v.ring
      · obtain ⟨w, hw⟩ := at_of hvm hm
        rw [res_at hw] at c1 rs
        have hcd : corD v d = d := by unfold corD; rw [if_pos hm]
        rw [hcd] at c1
        rw [idx_pos hm] at ix
        have hq : decide (((v.ring.idxOf d : Nat) : Int) ≥ 0) = true := by simp
        simp only [corT, vxT, dartT] at c1 v1 rs
        rcases hgg with ⟨rfl, hk⟩ | ⟨rfl, hk⟩
        · have k0 : decide ((g0.length : Int) > 390) = false := decide_eq_false (by omega)
          rw [call_code F (show F 3 = some (.code f3) from rfl)]
          simp only [f3, c_shown, cf, cr, k0, c1, v1, ix, rs, go_sem, reduceIte, reduceCtorEq, Nat.reduceEqDiff, Nat.reduceAdd, Nat.reduceMul, Nat.reduceLeDiff, List.length_cons, List.length_nil, Int.reduceLE, Int.reduceToNat, Int.reduceEq, Nat.testBit, Nat.reduceShiftRight, Nat.reduceAnd, Nat.reduceBNe]
        · have k0 : decide ((g0.length : Int) > 390) = true := decide_eq_true (by omega)
          have k00 : (390 : Int) ≤ (g0.length : Int) := by omega
          rw [call_code F (show F 3 = some (.code f3) from rfl)]
          simp only [f3, c_shown, cf, cr, k0, k00, c1, v1, ix, rs, go_sem, reduceIte, reduceCtorEq, Nat.reduceEqDiff, Nat.reduceAdd, Nat.reduceMul, Nat.reduceLeDiff, List.length_cons, List.length_nil, Int.reduceLE, Int.reduceToNat, Int.reduceEq, Nat.testBit, Nat.reduceShiftRight, Nat.reduceAnd, Nat.reduceBNe]
      · rw [idx_neg hm] at ix
        have a1 := i_r04_At vs d hvl hvr (.sl .shared 4 (rowsBy Ed.c eds))
        have f1 := i_anchor_Find g d hgf
        cases ha : atBy vs d with
        | some w =>
          rw [res_at ha] at c1
          have hcd : corD v d = Dart0 := by unfold corD; rw [if_neg hm]
          rw [hcd] at c1
          rw [ha] at a1
          cases hf : gnBy g d with
          | some y =>
            rw [hf] at f1
            simp only [corT, vxT, atT, gnT, dartT, idT, Dart0, ID0] at c1 v1 a1 f1
            rcases hgg with ⟨rfl, hk⟩ | ⟨rfl, hk⟩
            · have k0 : decide ((g0.length : Int) > 390) = false := decide_eq_false (by omega)
              rw [call_code F (show F 3 = some (.code f3) from rfl)]
              simp only [f3, c_shown, cf, cr, k0, c1, v1, ix, a1, f1, go_sem, reduceIte, reduceCtorEq, Nat.reduceEqDiff, Nat.reduceAdd, Nat.reduceMul, Nat.reduceLeDiff, List.length_cons, List.length_nil, Int.reduceLE, Int.reduceGE, Int.reduceNeg, Int.reduceToNat, Int.reduceEq, Nat.testBit, Nat.reduceShiftRight, Nat.reduceAnd, Nat.reduceBNe]
            · have k0 : decide ((g0.length : Int) > 390) = true := decide_eq_true (by omega)
              have k00 : (390 : Int) ≤ (g0.length : Int) := by omega
              rw [call_code F (show F 3 = some (.code f3) from rfl)]
              simp only [f3, c_shown, cf, cr, k0, k00, c1, v1, ix, a1, f1, go_sem, reduceIte, reduceCtorEq, Nat.reduceEqDiff, Nat.reduceAdd, Nat.reduceMul, Nat.reduceLeDiff, List.length_cons, List.length_nil, Int.reduceLE, Int.reduceGE, Int.reduceNeg, Int.reduceToNat, Int.reduceEq, Nat.testBit, Nat.reduceShiftRight, Nat.reduceAnd, Nat.reduceBNe]
          | none =>
            rw [hf] at f1
            simp only [corT, vxT, atT, gnT, dartT, idT, Dart0, ID0] at c1 v1 a1 f1
            rcases hgg with ⟨rfl, hk⟩ | ⟨rfl, hk⟩
            · have k0 : decide ((g0.length : Int) > 390) = false := decide_eq_false (by omega)
              rw [call_code F (show F 3 = some (.code f3) from rfl)]
              simp only [f3, c_shown, cf, cr, k0, c1, v1, ix, a1, f1, go_sem, reduceIte, reduceCtorEq, Nat.reduceEqDiff, Nat.reduceAdd, Nat.reduceMul, Nat.reduceLeDiff, List.length_cons, List.length_nil, Int.reduceLE, Int.reduceGE, Int.reduceNeg, Int.reduceToNat, Int.reduceEq, Nat.testBit, Nat.reduceShiftRight, Nat.reduceAnd, Nat.reduceBNe]
            · have k0 : decide ((g0.length : Int) > 390) = true := decide_eq_true (by omega)
              have k00 : (390 : Int) ≤ (g0.length : Int) := by omega
              rw [call_code F (show F 3 = some (.code f3) from rfl)]
              simp only [f3, c_shown, cf, cr, k0, k00, c1, v1, ix, a1, f1, go_sem, reduceIte, reduceCtorEq, Nat.reduceEqDiff, Nat.reduceAdd, Nat.reduceMul, Nat.reduceLeDiff, List.length_cons, List.length_nil, Int.reduceLE, Int.reduceGE, Int.reduceNeg, Int.reduceToNat, Int.reduceEq, Nat.testBit, Nat.reduceShiftRight, Nat.reduceAnd, Nat.reduceBNe]
        | none =>
          rw [ha] at a1
          cases hf : gnBy g d with
          | none =>
            rw [res_lost ha hf, corD_zero] at c1
            rw [hf] at f1
            simp only [corT, vxT, atT, gnT, dartT, idT, Dart0, ID0] at c1 v1 a1 f1
            rcases hgg with ⟨rfl, hk⟩ | ⟨rfl, hk⟩
            · have k0 : decide ((g0.length : Int) > 390) = false := decide_eq_false (by omega)
              rw [call_code F (show F 3 = some (.code f3) from rfl)]
              simp only [f3, c_shown, cf, cr, k0, c1, v1, ix, a1, f1, go_sem, reduceIte, reduceCtorEq, Nat.reduceEqDiff, Nat.reduceAdd, Nat.reduceMul, Nat.reduceLeDiff, List.length_cons, List.length_nil, Int.reduceLE, Int.reduceGE, Int.reduceNeg, Int.reduceToNat, Int.reduceEq, Nat.testBit, Nat.reduceShiftRight, Nat.reduceAnd, Nat.reduceBNe]
            · have k0 : decide ((g0.length : Int) > 390) = true := decide_eq_true (by omega)
              have k00 : (390 : Int) ≤ (g0.length : Int) := by omega
              rw [call_code F (show F 3 = some (.code f3) from rfl)]
              simp only [f3, c_shown, cf, cr, k0, k00, c1, v1, ix, a1, f1, go_sem, reduceIte, reduceCtorEq, Nat.reduceEqDiff, Nat.reduceAdd, Nat.reduceMul, Nat.reduceLeDiff, List.length_cons, List.length_nil, Int.reduceLE, Int.reduceGE, Int.reduceNeg, Int.reduceToNat, Int.reduceEq, Nat.testBit, Nat.reduceShiftRight, Nat.reduceAnd, Nat.reduceBNe]
          | some y =>
            rw [hf] at f1
            have a2 := i_r04_At vs y.to hvl hvr (.sl .shared 4 (rowsBy Ed.c eds))
            cases hn : atBy vs y.to with
            | some w =>
              have c2 := i_Corner vs g eds hvl hvr hg9 x y.to
              unfold corR at c2
              rw [hv] at c2
              dsimp only at c2
              rw [res_to ha hf hn] at c1 rs
              simp only [res_at hn] at c2
              rw [hn] at a2
              generalize corD v y.to = z at *
              simp only [corT, vxT, atT, gnT, dartT, idT] at c1 c2 v1 a1 a2 f1 rs
              rcases hgg with ⟨rfl, hk⟩ | ⟨rfl, hk⟩
              · have k0 : decide ((g0.length : Int) > 390) = false := decide_eq_false (by omega)
                rw [call_code F (show F 3 = some (.code f3) from rfl)]
                simp only [f3, c_shown, cf, cr, k0, c1, c2, v1, ix, a1, a2, f1, rs, go_sem, reduceIte, reduceCtorEq, Nat.reduceEqDiff, Nat.reduceAdd, Nat.reduceMul, Nat.reduceLeDiff, List.length_cons, List.length_nil, Int.reduceLE, Int.reduceGE, Int.reduceNeg, Int.reduceToNat, Int.reduceEq, Nat.testBit, Nat.reduceShiftRight, Nat.reduceAnd, Nat.reduceBNe]
              · have k0 : decide ((g0.length : Int) > 390) = true := decide_eq_true (by omega)
                have k00 : (390 : Int) ≤ (g0.length : Int) := by omega
                rw [call_code F (show F 3 = some (.code f3) from rfl)]
                simp only [f3, c_shown, cf, cr, k0, k00, c1, c2, v1, ix, a1, a2, f1, rs, go_sem, reduceIte, reduceCtorEq, Nat.reduceEqDiff, Nat.reduceAdd, Nat.reduceMul, Nat.reduceLeDiff, List.length_cons, List.length_nil, Int.reduceLE, Int.reduceGE, Int.reduceNeg, Int.reduceToNat, Int.reduceEq, Nat.testBit, Nat.reduceShiftRight, Nat.reduceAnd, Nat.reduceBNe]
            | none =>
              rw [hn] at a2
              generalize corD v (res vs g d) = z at *
              simp only [corT, vxT, atT, gnT, dartT, idT] at c1 v1 a1 a2 f1
              rcases hgg with ⟨rfl, hk⟩ | ⟨rfl, hk⟩
              · have k0 : decide ((g0.length : Int) > 390) = false := decide_eq_false (by omega)
                rw [call_code F (show F 3 = some (.code f3) from rfl)]
                simp only [f3, c_shown, cf, cr, k0, c1, v1, ix, a1, a2, f1, go_sem, reduceIte, reduceCtorEq, Nat.reduceEqDiff, Nat.reduceAdd, Nat.reduceMul, Nat.reduceLeDiff, List.length_cons, List.length_nil, Int.reduceLE, Int.reduceGE, Int.reduceNeg, Int.reduceToNat, Int.reduceEq, Nat.testBit, Nat.reduceShiftRight, Nat.reduceAnd, Nat.reduceBNe]
              · have k0 : decide ((g0.length : Int) > 390) = true := decide_eq_true (by omega)
                have k00 : (390 : Int) ≤ (g0.length : Int) := by omega
                rw [call_code F (show F 3 = some (.code f3) from rfl)]
                simp only [f3, c_shown, cf, cr, k0, k00, c1, v1, ix, a1, a2, f1, go_sem, reduceIte, reduceCtorEq, Nat.reduceEqDiff, Nat.reduceAdd, Nat.reduceMul, Nat.reduceLeDiff, List.length_cons, List.length_nil, Int.reduceLE, Int.reduceGE, Int.reduceNeg, Int.reduceToNat, Int.reduceEq, Nat.testBit, Nat.reduceShiftRight, Nat.reduceAnd, Nat.reduceBNe]
  by_cases hlen : g0.length ≤ 390
  · exact main g0 (.inl ⟨rfl, hlen⟩)
  · exact main (g0.take 390) (.inr ⟨rfl, by omega⟩)
end Go.Proofs.Ytjhbejlpmchhfaa.Sx
