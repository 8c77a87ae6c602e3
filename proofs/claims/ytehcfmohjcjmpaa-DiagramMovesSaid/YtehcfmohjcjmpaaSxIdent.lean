/- What the functions of names and darts come to. -/
import Derived.Test.YtehcfmohjcjmpaaSxData
import Derived.Test.YtehcfmohjcjmpaaSxFns
namespace Go.Proofs.Ytehcfmohjcjmpaa.Sx
open Go
theorem c_ident_May (a b : Int) : call F 58 [.agg [.int .i64 a, .int .i64 b]] = some (.bool (mayI ⟨a, b⟩)) := by
  rw [call_code F (show F 58 = some (.code f58) from rfl)]
  simp only [f58, go_sem, reduceIte, reduceCtorEq, Nat.reduceEqDiff, Nat.reduceAdd, Nat.reduceLeDiff, List.length_cons, List.length_nil]
  iterate 3 all_goals (try (split <;> (rename_i h; (try simp only [Bool.not_eq_true] at h); simp only [*, go_sem, reduceIte, Nat.reduceEqDiff, Nat.reduceAdd, Nat.reduceLeDiff, List.length_cons, List.length_nil])))
  all_goals simp_all [mayI]
  all_goals omega
theorem c_r01_May (a b : Int) : call F 20 [.agg [.int .i64 a, .int .i64 b]] = some (.bool (mayI ⟨a, b⟩)) := by
  rw [call_code F (show F 20 = some (.code f20) from rfl)]
  simp only [f20, go_sem, reduceIte, reduceCtorEq, Nat.reduceEqDiff, Nat.reduceAdd, Nat.reduceLeDiff, List.length_cons, List.length_nil]
  iterate 3 all_goals (try (split <;> (rename_i h; (try simp only [Bool.not_eq_true] at h); simp only [*, go_sem, reduceIte, Nat.reduceEqDiff, Nat.reduceAdd, Nat.reduceLeDiff, List.length_cons, List.length_nil])))
  all_goals simp_all [mayI]
  all_goals omega
theorem c_isNaN (a : Int) : call F 76 [.int .i64 a] = some (.bool false) := by
  rw [call_code F (show F 76 = some (.code f76) from rfl)]
  simp only [f76, go_sem, reduceIte, reduceCtorEq, Nat.reduceEqDiff, ne_eq, not_true_eq_false]
theorem c_Compare (a b : Int) : call F 70 [.int .i64 a, .int .i64 b] = some (.int .i64 (cmpZ a b)) := by
  rw [call_code F (show F 70 = some (.code f70) from rfl)]
  simp only [f70, c_isNaN, go_sem, reduceIte, reduceCtorEq, Nat.reduceEqDiff, Nat.reduceAdd, Nat.reduceMul, Int.reduceNeg]
  iterate 4 all_goals (try (split <;> (rename_i h; (try simp only [Bool.not_eq_true] at h); simp only [*, go_sem, reduceIte, reduceCtorEq, Nat.reduceEqDiff, Int.reduceNeg])))
  all_goals simp_all [cmpZ]
  all_goals omega
theorem c_Or (a b : Int) : call F 69 [.sl .shared 1 [[.int .i64 a], [.int .i64 b]]] = some (.int .i64 (orZ a b)) := by
  rw [call_code F (show F 69 = some (.code f69) from rfl)]
  simp only [f69, go_sem, reduceIte, reduceCtorEq, Nat.reduceEqDiff, Nat.reduceAdd, List.length_cons, List.length_nil, Int.cast_ofNat_Int]
  rw [f69_l1_eq]
  simp only [f69_b1, go_sem, reduceIte, Nat.reduceEqDiff, List.length_cons, List.length_nil, Int.reduceLT, Int.reduceToNat, ne_eq]
  iterate 1 all_goals (try (split <;> (rename_i h; (try simp only [Bool.not_eq_true] at h); simp only [*, wrap64, go_sem, reduceIte, Nat.reduceEqDiff, Int.reduceLE, Int.reduceAdd, Int.reduceNeg])))
  · simp_all [orZ]
  · rw [f69_l1_eq]
    simp only [f69_b1, go_sem, reduceIte, Nat.reduceEqDiff, List.length_cons, List.length_nil, Int.reduceLT, Int.reduceLE, Int.reduceToNat, ne_eq]
    iterate 1 all_goals (try (split <;> (rename_i h; (try simp only [Bool.not_eq_true] at h); simp only [*, wrap64, go_sem, reduceIte, Nat.reduceEqDiff, Int.reduceLE, Int.reduceAdd, Int.reduceNeg])))
    · simp_all [orZ]
    · rw [f69_l1_eq]
      simp only [f69_b1, go_sem, reduceIte, Nat.reduceEqDiff, Int.reduceLT]
      simp_all [orZ]
theorem c_ident_Order (a b c d : Int) : call F 59 [.agg [.int .i64 a, .int .i64 b], .agg [.int .i64 c, .int .i64 d]] = some (.int .i64 (ordI ⟨a, b⟩ ⟨c, d⟩)) := by
  rw [← ordI_or]
  rw [call_code F (show F 59 = some (.code f59) from rfl)]
  simp only [f59, go_sem, reduceIte, reduceCtorEq, Nat.reduceEqDiff, Nat.reduceAdd, List.length_cons, List.length_nil]
  iterate 3 all_goals (try (split <;> (rename_i h; (try simp only [Bool.not_eq_true] at h); simp only [*, c_Compare, c_Or, go_sem, reduceIte, Nat.reduceEqDiff, Nat.reduceAdd, Nat.reduceMul, Nat.reduceLeDiff, Nat.reduceBEq, List.length_cons, List.length_nil, Nat.testBit, Nat.reduceShiftRight, Nat.reduceAnd, Nat.reduceBNe])))
  all_goals simp_all
theorem c_ident_OrderDart (a b e c d f : Int) : call F 72 [.agg [.int .i64 a, .int .i64 b, .int .i64 e], .agg [.int .i64 c, .int .i64 d, .int .i64 f]] = some (.int .i64 (ordD ⟨⟨a, b⟩, e⟩ ⟨⟨c, d⟩, f⟩)) := by
  rw [← ordD_or]
  rw [call_code F (show F 72 = some (.code f72) from rfl)]
  simp only [f72, c_Compare, c_Or, c_ident_Order, go_sem, reduceIte, reduceCtorEq, Nat.reduceEqDiff, Nat.reduceAdd, Nat.reduceMul, Nat.reduceLeDiff, Nat.reduceBEq, List.length_cons, List.length_nil, Nat.testBit, Nat.reduceShiftRight, Nat.reduceAnd, Nat.reduceBNe]
theorem c_r01_Order (a b c d : Int) : call F 65 [.agg [.int .i64 a, .int .i64 b], .agg [.int .i64 c, .int .i64 d]] = some (.int .i64 (ordI ⟨a, b⟩ ⟨c, d⟩)) := by
  rw [call_code F (show F 65 = some (.code f65) from rfl)]
  simp only [f65, go_sem, reduceIte, reduceCtorEq, Nat.reduceEqDiff, Nat.reduceAdd, List.length_cons, List.length_nil, Int.reduceNeg]
  iterate 6 all_goals (try (split <;> (rename_i h; (try simp only [Bool.not_eq_true] at h); simp only [*, go_sem, reduceIte, Nat.reduceEqDiff, Nat.reduceAdd, Nat.reduceLeDiff, List.length_cons, List.length_nil, Int.reduceNeg])))
  all_goals simp_all [ordI]
  all_goals omega
theorem c_r01_OrderDart (a b e c d f : Int) : call F 68 [.agg [.int .i64 a, .int .i64 b, .int .i64 e], .agg [.int .i64 c, .int .i64 d, .int .i64 f]] = some (.int .i64 (ordD ⟨⟨a, b⟩, e⟩ ⟨⟨c, d⟩, f⟩)) := by
  rw [← ordD_or]
  rw [call_code F (show F 68 = some (.code f68) from rfl)]
  simp only [f68, c_r01_Order, go_sem, reduceIte, reduceCtorEq, Nat.reduceEqDiff, Nat.reduceAdd, Nat.reduceMul, Nat.reduceLeDiff, List.length_cons, List.length_nil, Int.reduceNeg, ne_eq]
  iterate 6 all_goals (try (split <;> (rename_i h; (try simp only [Bool.not_eq_true] at h); simp only [*, go_sem, reduceIte, Nat.reduceEqDiff, Nat.reduceAdd, List.length_cons, List.length_nil, Int.reduceNeg])))
  all_goals simp_all [orZ, cmpZ]
  all_goals omega
end Go.Proofs.Ytehcfmohjcjmpaa.Sx
