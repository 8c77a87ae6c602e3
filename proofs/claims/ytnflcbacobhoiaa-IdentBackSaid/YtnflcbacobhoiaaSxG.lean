/- The law of the two darts of an edge. -/
import Derived.Test.YtnflcbacobhoiaaSxE
namespace Go.Proofs.Ytnflcbacobhoiaa.Sx
open Go
theorem darts_side (a b : Int) : decide (ordD a b 0 a b 1 = -1) = true := by
  rw [decide_eq_true_eq]
  have := ordD_cases a b 0 a b 1
  omega
theorem darts_none {a b d1 d2 d3 : Int} (h : decide (ordD a b 0 d1 d2 d3 < 0) = true) (h' : decide (ordD d1 d2 d3 a b 1 < 0) = true) : False := by
  rw [decide_eq_true_eq] at h h'
  have h1 := ordD_cases a b 0 d1 d2 d3
  have h2 := ordD_cases d1 d2 d3 a b 1
  omega
theorem t7 (a b d1 d2 d3 : Int) (h3 : IntKind.i64.has d3) : call F 7 [.agg [.int .i64 a, .int .i64 b], .agg [.int .i64 d1, .int .i64 d2, .int .i64 d3]] = some (.bool true) := by
  have e0 : decide (andNot1 0 = 0) = true := by kernel_rfl
  have e1 : decide (andNot1 1 = 0) = true := by kernel_rfl
  have x0 : xor1 0 = 1 := by kernel_rfl
  have x1 : xor1 1 = 0 := by kernel_rfl
  cases hm : mayB a b with
  | false =>
    rw [call_code F (show F 7 = some (.code f7) from rfl)]
    simp only [f7, t9, t11, t22, hm, go_sem, reduceIte, reduceCtorEq, Nat.reduceEqDiff, Nat.reduceAdd, Nat.reduceMul, Nat.reduceLeDiff, List.length_cons, List.length_nil, Int.reduceNeg]
  | true =>
    cases hp : decide (ordD a b 0 d1 d2 d3 < 0) with
    | false =>
      rw [call_code F (show F 7 = some (.code f7) from rfl)]
      simp only [f7, t9, t11, t22, t24', t19', hm, e0, e1, x0, x1, hp, darts_side, go_sem, reduceIte, reduceCtorEq, Nat.reduceEqDiff, Nat.reduceAdd, Nat.reduceMul, Nat.reduceLeDiff, List.length_cons, List.length_nil, Int.reduceNeg, Nat.testBit, Nat.reduceShiftRight, Nat.reduceAnd, Nat.reduceBNe]
    | true =>
      cases hq : decide (ordD d1 d2 d3 a b 1 < 0) with
      | true => exact (darts_none hp hq).elim
      | false =>
        rw [call_code F (show F 7 = some (.code f7) from rfl)]
        simp only [f7, t9, t11, t22, t24', t19', hm, e0, e1, x0, x1, hp, hq, darts_side, go_sem, reduceIte, reduceCtorEq, Nat.reduceEqDiff, Nat.reduceAdd, Nat.reduceMul, Nat.reduceLeDiff, List.length_cons, List.length_nil, Int.reduceNeg, Nat.testBit, Nat.reduceShiftRight, Nat.reduceAnd, Nat.reduceBNe]
end Go.Proofs.Ytnflcbacobhoiaa.Sx
