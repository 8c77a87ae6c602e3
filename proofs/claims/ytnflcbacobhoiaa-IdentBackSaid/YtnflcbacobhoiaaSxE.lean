/- The law of the order of names. -/
import Derived.Test.YtnflcbacobhoiaaSxD
namespace Go.Proofs.Ytnflcbacobhoiaa.Sx
open Go
def ordD (a b e c d f : Int) : Int := orI (ordR a b c d) (cmpI e f)
theorem t19' (a b e c d f : Int) : call F 19 [.agg [.int .i64 a, .int .i64 b, .int .i64 e], .agg [.int .i64 c, .int .i64 d, .int .i64 f]] = some (.int .i64 (ordD a b e c d f)) := by
  rw [t19, ord_eq]; rfl
theorem t18' (a b c d : Int) : call F 18 [.agg [.int .i64 a, .int .i64 b], .agg [.int .i64 c, .int .i64 d]] = some (.int .i64 (ordR a b c d)) := by
  rw [t18, ord_eq]
theorem ordR_cases (a b c d : Int) : (ordR a b c d = 0 ∧ a = c ∧ b = d) ∨ (ordR a b c d = -1 ∧ (a < c ∨ a = c ∧ b < d)) ∨ (ordR a b c d = 1 ∧ (c < a ∨ a = c ∧ d < b)) := by
  unfold ordR
  split
  · omega
  · split <;> omega
theorem cmpI_cases (a b : Int) : (cmpI a b = 0 ∧ a = b) ∨ (cmpI a b = -1 ∧ a < b) ∨ (cmpI a b = 1 ∧ b < a) := by
  unfold cmpI
  split
  · omega
  · split <;> omega
theorem ordD_eq (a b e c d f : Int) : ordD a b e c d f = if ordR a b c d = 0 then cmpI e f else ordR a b c d := rfl
theorem ordD_cases (a b e c d f : Int) : (ordD a b e c d f = 0 ∧ a = c ∧ b = d ∧ e = f) ∨ (ordD a b e c d f = -1 ∧ (a < c ∨ a = c ∧ (b < d ∨ b = d ∧ e < f))) ∨ (ordD a b e c d f = 1 ∧ (c < a ∨ a = c ∧ (d < b ∨ b = d ∧ f < e))) := by
  have h1 := ordR_cases a b c d
  have h2 := cmpI_cases e f
  rw [ordD_eq]
  split <;> omega
theorem la (a b c d : Int) : (decide (ordR a b c d = 0) == (decide (a = c) && decide (b = d))) = true := by
  rw [beq_iff_eq, Bool.eq_iff_iff]
  simp only [decide_eq_true_eq, Bool.and_eq_true]
  have := ordR_cases a b c d
  omega
theorem lb (a b c d : Int) : decide (ordR a b c d = IntKind.i64.wrap (0 - ordR c d a b)) = true := by
  have h1 := ordR_cases a b c d
  have h2 := ordR_cases c d a b
  rw [wrap64 (by omega) (by omega), decide_eq_true_eq]
  omega
theorem lc {a b c d e f : Int} (h : decide (ordR a b c d > 0) = false) (h' : decide (ordR c d e f > 0) = false) : decide (ordR a b e f ≤ 0) = true := by
  rw [decide_eq_false_iff_not] at h h'
  rw [decide_eq_true_eq]
  have h1 := ordR_cases a b c d
  have h2 := ordR_cases c d e f
  have h3 := ordR_cases a b e f
  omega
theorem ld (a b e c d f : Int) : (decide (ordD a b e c d f = 0) == (decide (a = c) && (decide (b = d) && decide (e = f)))) = true := by
  rw [beq_iff_eq, Bool.eq_iff_iff]
  simp only [decide_eq_true_eq, Bool.and_eq_true]
  have := ordD_cases a b e c d f
  omega
theorem le' (a b e c d f : Int) : decide (ordD a b e c d f = IntKind.i64.wrap (0 - ordD c d f a b e)) = true := by
  have h1 := ordD_cases a b e c d f
  have h2 := ordD_cases c d f a b e
  rw [wrap64 (by omega) (by omega), decide_eq_true_eq]
  omega
theorem lf {a b c d e f x y z : Int} (h : decide (ordD a b x c d y > 0) = false) (h' : decide (ordD c d y e f z > 0) = false) : decide (ordD a b x e f z ≤ 0) = true := by
  rw [decide_eq_false_iff_not] at h h'
  rw [decide_eq_true_eq]
  have h1 := ordD_cases a b x c d y
  have h2 := ordD_cases c d y e f z
  have h3 := ordD_cases a b x e f z
  omega
set_option maxHeartbeats 4000000 in
theorem t5 (a1 a2 b1 b2 c1 c2 d1 d2 d3 e1 e2 e3 f1 f2 f3 : Int) : call F 5 [.agg [.int .i64 a1, .int .i64 a2, .int .i64 b1, .int .i64 b2, .int .i64 c1, .int .i64 c2], .agg [.int .i64 d1, .int .i64 d2, .int .i64 d3, .int .i64 e1, .int .i64 e2, .int .i64 e3, .int .i64 f1, .int .i64 f2, .int .i64 f3]] = some (.bool true) := by
  cases hp : decide (ordR a1 a2 b1 b2 > 0) <;> cases hq : decide (ordR b1 b2 c1 c2 > 0) <;> cases hu : decide (ordD d1 d2 d3 e1 e2 e3 > 0) <;> cases hv : decide (ordD e1 e2 e3 f1 f2 f3 > 0)
  case false.false.false.false =>
    rw [call_code F (show F 5 = some (.code f5) from rfl)]
    simp only [f5, t9, t18', t19', hp, hq, hu, hv, la, lb, lc hp hq, ld, le', lf hu hv, go_sem, reduceIte, reduceCtorEq, Nat.reduceEqDiff, Nat.reduceAdd, Nat.reduceMul, Nat.reduceLeDiff, List.length_cons, List.length_nil, Int.reduceLT, Int.reduceLE, Int.reduceToNat, Int.cast_ofNat_Int, Nat.testBit, Nat.reduceShiftRight, Nat.reduceAnd, Nat.reduceBNe]
  case false.false.false.true | false.false.true.false | false.false.true.true =>
    rw [call_code F (show F 5 = some (.code f5) from rfl)]
    simp only [f5, t9, t18', t19', hp, hq, hu, hv, la, lb, lc hp hq, ld, le', go_sem, reduceIte, reduceCtorEq, Nat.reduceEqDiff, Nat.reduceAdd, Nat.reduceMul, Nat.reduceLeDiff, List.length_cons, List.length_nil, Int.reduceLT, Int.reduceLE, Int.reduceToNat, Int.cast_ofNat_Int, Nat.testBit, Nat.reduceShiftRight, Nat.reduceAnd, Nat.reduceBNe]
  case false.true.false.false | true.false.false.false | true.true.false.false =>
    rw [call_code F (show F 5 = some (.code f5) from rfl)]
    simp only [f5, t9, t18', t19', hp, hq, hu, hv, la, lb, ld, le', lf hu hv, go_sem, reduceIte, reduceCtorEq, Nat.reduceEqDiff, Nat.reduceAdd, Nat.reduceMul, Nat.reduceLeDiff, List.length_cons, List.length_nil, Int.reduceLT, Int.reduceLE, Int.reduceToNat, Int.cast_ofNat_Int, Nat.testBit, Nat.reduceShiftRight, Nat.reduceAnd, Nat.reduceBNe]
  all_goals
    rw [call_code F (show F 5 = some (.code f5) from rfl)]
    simp only [f5, t9, t18', t19', hp, hq, hu, hv, la, lb, ld, le', go_sem, reduceIte, reduceCtorEq, Nat.reduceEqDiff, Nat.reduceAdd, Nat.reduceMul, Nat.reduceLeDiff, List.length_cons, List.length_nil, Int.reduceLT, Int.reduceLE, Int.reduceToNat, Int.cast_ofNat_Int, Nat.testBit, Nat.reduceShiftRight, Nat.reduceAnd, Nat.reduceBNe]
end Go.Proofs.Ytnflcbacobhoiaa.Sx
