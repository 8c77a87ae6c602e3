/- 'Put', the program's and the reference's; what is shown first. -/
import Derived.Test.YtnflcbacobhoiaaSxB
namespace Go.Proofs.Ytnflcbacobhoiaa.Sx
open Go
def putRows (a b : Int) : List (List TV) := [[.int .u8 (IntKind.u8.wrap a)], [.int .u8 (IntKind.u8.wrap (b.fdiv (2 ^ (min 16 64))))], [.int .u8 (IntKind.u8.wrap (b.fdiv (2 ^ (min 8 64))))], [.int .u8 (IntKind.u8.wrap b)]]
theorem t15 (R : List (List TV)) (hR : R.length ≤ 1000) (fl : Fl) (a b : Int) : call F 15 [.sl fl 1 R, .agg [.int .i64 a, .int .i64 b]] = some (.sl (.own 5) 1 (R ++ putRows a b)) := by
  cases R with
  | nil =>
    rw [call_code F (show F 15 = some (.code f15) from rfl)]
    simp only [f15, Int.le_refl, Nat.sub_zero, go_sem, reduceIte, reduceCtorEq, Nat.reduceEqDiff, Nat.reduceAdd, Nat.reduceMul, Nat.reduceLeDiff, Nat.reduceBEq, List.length_cons, List.length_nil, Int.reduceLT, Int.reduceToNat, Int.cast_ofNat_Int, Nat.testBit, Nat.reduceShiftRight, Nat.reduceAnd, Nat.reduceBNe]
    rfl
  | cons r R =>
    have h1 : (R.length + 1 + 4) * 1 ≤ 140737488355328 := by simp at hR; omega
    rw [call_code F (show F 15 = some (.code f15) from rfl)]
    simp only [f15, Int.le_refl, List.take_length, Nat.sub_zero, h1, go_sem, reduceIte, reduceCtorEq, Nat.reduceEqDiff, Nat.reduceAdd, Nat.reduceLeDiff, Nat.reduceBEq, List.length_cons, List.length_nil, Int.reduceLT, Int.reduceToNat, Nat.testBit, Nat.reduceShiftRight, Nat.reduceAnd, Nat.reduceBNe]
    simp [putRows, take_all]
def putRowsR (a b : Int) : List (List TV) := [[.int .u8 (IntKind.u8.wrap a)], [.int .u8 (IntKind.u8.wrap (IntKind.i64.wrap (b.tdiv 65536)))], [.int .u8 (IntKind.u8.wrap ((IntKind.i64.wrap (b.tdiv 256)).tmod 256))], [.int .u8 (IntKind.u8.wrap (b.tmod 256))]]
theorem t16 (R : List (List TV)) (hR : R.length ≤ 1000) (fl : Fl) (a b : Int) : call F 16 [.sl fl 1 R, .agg [.int .i64 a, .int .i64 b]] = some (.sl (.own 5) 1 (R ++ putRowsR a b)) := by
  have h1 : R.length * 1 ≤ 140737488355328 := by omega
  have h4 : R.length + 4 ≤ 140737488355328 := by omega
  have h2 : (R.length + 4) * 1 ≤ 140737488355328 := by omega
  have h3 : (0 + R.length + 4) * 1 ≤ 140737488355328 := by omega
  rw [call_code F (show F 16 = some (.code f16) from rfl)]
  simp only [f16, List.take_length, h1, h2, go_sem, reduceIte, reduceCtorEq, Nat.reduceEqDiff, Nat.reduceAdd, Nat.reduceLeDiff, List.length_cons, List.length_nil, Int.reduceEq]
  simp [putRowsR, take_all]
theorem t9 : call F 9 [] = some (.bool true) := by
  have hn := t10 1 [(1, 3), (2, 9), (1, 1)] (by decide) .shared
  have e : idOf 1 (nextN 1 [(1, 3), (2, 9), (1, 1)]) = .agg [.int .i64 1, .int .i64 4] := by kernel_rfl
  rw [e] at hn
  simp only [idRows, idRow] at hn
  have hp := t15 [] (by decide) .shared 2 258
  have e2 : putRows 2 258 = [[.int .u8 2], [.int .u8 0], [.int .u8 1], [.int .u8 2]] := by kernel_rfl
  rw [e2] at hp
  rw [call_code F (show F 9 = some (.code f9) from rfl)]
  have hs : (([UInt8.ofNat 2, UInt8.ofNat 0, UInt8.ofNat 1, UInt8.ofNat 2] : List UInt8) == [2, 0, 1, 2]) = true := by kernel_rfl
  simp only [f9, hn, hp, hs, go_sem, reduceIte, reduceCtorEq, Nat.reduceEqDiff, Nat.reduceAdd, Nat.reduceMul, Nat.reduceLeDiff, List.length_cons, List.length_nil, Int.reduceToNat]
end Go.Proofs.Ytnflcbacobhoiaa.Sx
