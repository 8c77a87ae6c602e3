/- The small functions of this seat. -/
import Derived.Test.YtnflcbacobhoiaaSxFns
import Derived.Test.YtnflcbacobhoiaaSxKit
namespace Go.Proofs.Ytnflcbacobhoiaa.Sx
open Go
def mayB (a b : Int) : Bool := decide (1 ≤ a ∧ a ≤ 8 ∧ 1 ≤ b ∧ b ≤ 1048576)
theorem t11 (a b : Int) : call F 11 [.agg [.int .i64 a, .int .i64 b]] = some (.bool (mayB a b)) := by
  rw [call_code F (show F 11 = some (.code f11) from rfl)]
  simp only [f11, go_sem, reduceIte, reduceCtorEq, Nat.reduceEqDiff, Nat.reduceAdd, Nat.reduceLeDiff, List.length_cons, List.length_nil]
  iterate 3 all_goals (try (split <;> (rename_i h; (try simp only [Bool.not_eq_true] at h); simp only [*, go_sem, reduceIte, Nat.reduceEqDiff, Nat.reduceAdd, Nat.reduceLeDiff, List.length_cons, List.length_nil])))
  all_goals simp_all [mayB]
  all_goals omega
theorem t14 (a b : Int) : call F 14 [.agg [.int .i64 a, .int .i64 b]] = some (.bool (mayB a b)) := by
  rw [call_code F (show F 14 = some (.code f14) from rfl)]
  simp only [f14, go_sem, reduceIte, reduceCtorEq, Nat.reduceEqDiff, Nat.reduceAdd, Nat.reduceLeDiff, List.length_cons, List.length_nil]
  iterate 3 all_goals (try (split <;> (rename_i h; (try simp only [Bool.not_eq_true] at h); simp only [*, go_sem, reduceIte, Nat.reduceEqDiff, Nat.reduceAdd, Nat.reduceLeDiff, List.length_cons, List.length_nil])))
  all_goals simp_all [mayB]
  all_goals omega
theorem t28 (a : Int) : call F 28 [.int .i64 a] = some (.bool false) := by
  rw [call_code F (show F 28 = some (.code f28) from rfl)]
  simp only [f28, go_sem, reduceIte, reduceCtorEq, Nat.reduceEqDiff, ne_eq, not_true_eq_false]
def cmpI (a b : Int) : Int := if a < b then -1 else if a > b then 1 else 0
theorem t27 (a b : Int) : call F 27 [.int .i64 a, .int .i64 b] = some (.int .i64 (cmpI a b)) := by
  rw [call_code F (show F 27 = some (.code f27) from rfl)]
  simp only [f27, t28, go_sem, reduceIte, reduceCtorEq, Nat.reduceEqDiff, Nat.reduceAdd, Nat.reduceMul, Int.reduceNeg]
  iterate 4 all_goals (try (split <;> (rename_i h; (try simp only [Bool.not_eq_true] at h); simp only [*, go_sem, reduceIte, reduceCtorEq, Nat.reduceEqDiff, Int.reduceNeg])))
  all_goals simp_all [cmpI]
  all_goals omega
def orI (a b : Int) : Int := if a = 0 then b else a
theorem t26 (a b : Int) : call F 26 [.sl .shared 1 [[.int .i64 a], [.int .i64 b]]] = some (.int .i64 (orI a b)) := by
  rw [call_code F (show F 26 = some (.code f26) from rfl)]
  simp only [f26, go_sem, reduceIte, reduceCtorEq, Nat.reduceEqDiff, Nat.reduceAdd, List.length_cons, List.length_nil, Int.cast_ofNat_Int]
  rw [f26_l1_eq]
  simp only [f26_b1, go_sem, reduceIte, Nat.reduceEqDiff, List.length_cons, List.length_nil, Int.reduceLT, Int.reduceToNat, ne_eq]
  iterate 1 all_goals (try (split <;> (rename_i h; (try simp only [Bool.not_eq_true] at h); simp only [*, wrap64, go_sem, reduceIte, Nat.reduceEqDiff, Int.reduceLE, Int.reduceAdd, Int.reduceNeg])))
  · simp_all [orI]
  · rw [f26_l1_eq]
    simp only [f26_b1, go_sem, reduceIte, Nat.reduceEqDiff, List.length_cons, List.length_nil, Int.reduceLT, Int.reduceLE, Int.reduceToNat, ne_eq]
    iterate 1 all_goals (try (split <;> (rename_i h; (try simp only [Bool.not_eq_true] at h); simp only [*, wrap64, go_sem, reduceIte, Nat.reduceEqDiff, Int.reduceLE, Int.reduceAdd, Int.reduceNeg])))
    · simp_all [orI]
    · rw [f26_l1_eq]
      simp only [f26_b1, go_sem, reduceIte, Nat.reduceEqDiff, Int.reduceLT]
      simp_all [orI]
theorem t24 (a b c : Int) : call F 24 [.agg [.int .i64 a, .int .i64 b, .int .i64 c]] = some (.agg [.int .i64 a, .int .i64 b, .int .i64 (IntKind.i64.wrap (BitVec.ofInt 64 c ^^^ BitVec.ofInt 64 1).toNat)]) := by
  rw [call_code F (show F 24 = some (.code f24) from rfl)]
  simp only [f24, go_sem, reduceIte, reduceCtorEq, Nat.reduceEqDiff, Nat.reduceAdd, List.length_cons, List.length_nil]
  rfl
theorem t25 (a b c : Int) : call F 25 [.agg [.int .i64 a, .int .i64 b, .int .i64 c]] = some (.agg [.int .i64 a, .int .i64 b, .int .i64 (IntKind.i64.wrap (1 - c))]) := by
  rw [call_code F (show F 25 = some (.code f25) from rfl)]
  simp only [f25, go_sem, reduceIte, reduceCtorEq, Nat.reduceEqDiff, Nat.reduceAdd, Nat.reduceLeDiff, List.length_cons, List.length_nil]
theorem t20 (a b c : Int) : call F 20 [.agg [.int .i64 a, .int .i64 b, .int .i64 c]] = some (.bool (mayB a b && (decide (c = 0) || decide (c = 1)))) := by
  rw [call_code F (show F 20 = some (.code f20) from rfl)]
  simp only [f20, t14, go_sem, reduceIte, reduceCtorEq, Nat.reduceEqDiff, Nat.reduceAdd, Nat.reduceMul, Nat.reduceLeDiff, List.length_cons, List.length_nil]
  iterate 3 all_goals (try (split <;> (rename_i h; (try simp only [Bool.not_eq_true] at h); simp only [*, go_sem, reduceIte, Nat.reduceEqDiff, Nat.reduceAdd, List.length_cons, List.length_nil])))
  all_goals simp_all
def andNot1 (c : Int) : Int := IntKind.i64.wrap (BitVec.ofInt 64 c &&& ~~~BitVec.ofInt 64 1).toNat
theorem t22 (a b c : Int) : call F 22 [.agg [.int .i64 a, .int .i64 b, .int .i64 c]] = some (.bool (mayB a b && decide (andNot1 c = 0))) := by
  rw [call_code F (show F 22 = some (.code f22) from rfl)]
  simp only [f22, t11, go_sem, reduceIte, reduceCtorEq, Nat.reduceEqDiff, Nat.reduceAdd, Nat.reduceMul, Nat.reduceLeDiff, List.length_cons, List.length_nil]
  iterate 3 all_goals (try (split <;> (rename_i h; (try simp only [Bool.not_eq_true] at h); simp only [*, go_sem, reduceIte, Nat.reduceEqDiff, Nat.reduceAdd, List.length_cons, List.length_nil])))
  exact rfl
def ordI (a b c d : Int) : Int := if a = c ∧ b = d then 0 else orI (cmpI a c) (cmpI b d)
theorem t18 (a b c d : Int) : call F 18 [.agg [.int .i64 a, .int .i64 b], .agg [.int .i64 c, .int .i64 d]] = some (.int .i64 (ordI a b c d)) := by
  rw [call_code F (show F 18 = some (.code f18) from rfl)]
  simp only [f18, go_sem, reduceIte, reduceCtorEq, Nat.reduceEqDiff, Nat.reduceAdd, List.length_cons, List.length_nil]
  iterate 3 all_goals (try (split <;> (rename_i h; (try simp only [Bool.not_eq_true] at h); simp only [*, t27, t26, go_sem, reduceIte, Nat.reduceEqDiff, Nat.reduceAdd, Nat.reduceMul, Nat.reduceLeDiff, Nat.reduceBEq, List.length_cons, List.length_nil, Nat.testBit, Nat.reduceShiftRight, Nat.reduceAnd, Nat.reduceBNe])))
  all_goals simp_all [ordI]
theorem t19 (a b e c d f : Int) : call F 19 [.agg [.int .i64 a, .int .i64 b, .int .i64 e], .agg [.int .i64 c, .int .i64 d, .int .i64 f]] = some (.int .i64 (orI (ordI a b c d) (cmpI e f))) := by
  rw [call_code F (show F 19 = some (.code f19) from rfl)]
  simp only [f19, t27, t26, t18, go_sem, reduceIte, reduceCtorEq, Nat.reduceEqDiff, Nat.reduceAdd, Nat.reduceMul, Nat.reduceLeDiff, Nat.reduceBEq, List.length_cons, List.length_nil, Nat.testBit, Nat.reduceShiftRight, Nat.reduceAnd, Nat.reduceBNe]
def ordR (a b c d : Int) : Int := if a = c ∧ b = d then 0 else if a < c ∨ a = c ∧ b < d then -1 else 1
theorem t21 (a b c d : Int) : call F 21 [.agg [.int .i64 a, .int .i64 b], .agg [.int .i64 c, .int .i64 d]] = some (.int .i64 (ordR a b c d)) := by
  rw [call_code F (show F 21 = some (.code f21) from rfl)]
  simp only [f21, go_sem, reduceIte, reduceCtorEq, Nat.reduceEqDiff, Nat.reduceAdd, List.length_cons, List.length_nil, Int.reduceNeg]
  iterate 6 all_goals (try (split <;> (rename_i h; (try simp only [Bool.not_eq_true] at h); simp only [*, go_sem, reduceIte, Nat.reduceEqDiff, Nat.reduceAdd, Nat.reduceLeDiff, List.length_cons, List.length_nil, Int.reduceNeg])))
  all_goals simp_all [ordR]
  all_goals omega
theorem t23 (a b e c d f : Int) : call F 23 [.agg [.int .i64 a, .int .i64 b, .int .i64 e], .agg [.int .i64 c, .int .i64 d, .int .i64 f]] = some (.int .i64 (orI (ordR a b c d) (cmpI e f))) := by
  rw [call_code F (show F 23 = some (.code f23) from rfl)]
  simp only [f23, t21, go_sem, reduceIte, reduceCtorEq, Nat.reduceEqDiff, Nat.reduceAdd, Nat.reduceMul, Nat.reduceLeDiff, List.length_cons, List.length_nil, Int.reduceNeg, ne_eq]
  iterate 6 all_goals (try (split <;> (rename_i h; (try simp only [Bool.not_eq_true] at h); simp only [*, go_sem, reduceIte, Nat.reduceEqDiff, Nat.reduceAdd, List.length_cons, List.length_nil, Int.reduceNeg])))
  all_goals simp_all [orI, cmpI]
  all_goals omega
end Go.Proofs.Ytnflcbacobhoiaa.Sx
