/- 'Take', the program's and the reference's. -/
import Derived.Test.YtnflcbacobhoiaaSxC
import Derived.Test.YtnflcbacobhoiaaSxKit
namespace Go.Proofs.Ytnflcbacobhoiaa.Sx
open Go
theorem shor_eq {x c : Int} (h0 : 0 ≤ x) (h1 : x ≤ 65535) (h2 : 0 ≤ c) (h3 : c ≤ 255) : IntKind.i64.wrap (orB .i64 (IntKind.i64.wrap (x * 2 ^ min 8 64)) c) = 256 * x + c := by
  show IntKind.i64.wrap (BitVec.ofInt 64 (IntKind.i64.wrap (x * 2 ^ min 8 64)) ||| BitVec.ofInt 64 c).toNat = 256 * x + c
  rw [show (min 8 64 : Nat) = 8 from rfl, show (2 : Int) ^ 8 = 256 from rfl]
  rw [wrap64 (n := x * 256) (by omega) (by omega)]
  have e : ((BitVec.ofInt 64 (x * 256) ||| BitVec.ofInt 64 c).toNat : Int) = 256 * x + c := by
    rw [BitVec.toNat_or, BitVec.toNat_ofInt, BitVec.toNat_ofInt]
    have u1 : (x * 256 % ((2 ^ 64 : Nat) : Int)).toNat = x.toNat <<< 8 := by rw [Nat.shiftLeft_eq]; omega
    have u2 : (c % ((2 ^ 64 : Nat) : Int)).toNat = c.toNat := by omega
    rw [u1, u2, ← Nat.shiftLeft_add_eq_or_of_lt (by omega), Nat.shiftLeft_eq]
    omega
  rw [e, wrap64 (by omega) (by omega)]
def bN (b : UInt8) : Int := b.toNat
theorem bN_lt (b : UInt8) : 0 ≤ bN b ∧ bN b ≤ 255 := by have := b.toNat_lt; unfold bN; omega
def n3 (n1 n2 n3 : UInt8) : Int := 65536 * bN n1 + 256 * bN n2 + bN n3
theorem n3_lt (a b c : UInt8) : 0 ≤ n3 a b c ∧ n3 a b c ≤ 16777215 := by
  have := bN_lt a; have := bN_lt b; have := bN_lt c; unfold n3; omega
def noTake (b : List UInt8) : TV := .tup [.agg [.int .i64 0, .int .i64 0], .sl .shared 1 (rowsBy cByte b), .bool false]
def takeOf : List UInt8 → TV
  | a :: b :: c :: d :: r => if mayB (bN a) (n3 b c d) = true then .tup [.agg [.int .i64 (bN a), .int .i64 (n3 b c d)], .sl .shared 1 (rowsBy cByte r), .bool true] else noTake (a :: b :: c :: d :: r)
  | b => noTake b
theorem short_lt {n : Nat} (h : n < 4) : decide ((n : Int) < 4) = true := by simp; omega
theorem takeOf_short {b : List UInt8} (h : b.length < 4) : takeOf b = noTake b := by
  match b, h with
  | [], _ => rfl
  | [_], _ => rfl
  | [_, _], _ => rfl
  | [_, _, _], _ => rfl
  | _ :: _ :: _ :: _ :: _, h => simp at h; omega
theorem bN_def (b : UInt8) : (b.toNat : Int) = bN b := rfl
theorem wbN (b : UInt8) : IntKind.i64.wrap (bN b) = bN b := wrap64 (by have := bN_lt b; omega) (by have := bN_lt b; omega)
theorem t12 (b : List UInt8) : call F 12 [.sl .shared 1 (rowsBy cByte b)] = some (takeOf b) := by
  by_cases hs : b.length < 4
  · rw [takeOf_short hs]
    rw [call_code F (show F 12 = some (.code f12) from rfl)]
    simp only [f12, rowsBy_length, short_lt hs, noTake, go_sem, reduceIte, reduceCtorEq, Nat.reduceEqDiff, Nat.reduceAdd, List.length_cons, List.length_nil]
  · match b, hs with
    | [], h => simp at h
    | [_], h => simp at h
    | [_, _], h => simp at h
    | [_, _, _], h => simp at h
    | n0 :: n1 :: n2 :: n3' :: R, hs =>
    have h1 : decide (((R.length + 1 + 1 + 1 + 1 : Nat) : Int) < 4) = false := by rw [decide_eq_false_iff_not]; omega
    have h2 : (4 : Int) ≤ ((R.length + 1 + 1 + 1 + 1 : Nat) : Int) := by omega
    have h3 : R.length + 1 + 1 + 1 + 1 - 4 = R.length := by omega
    have h4 : (rowsBy cByte R).take R.length = rowsBy cByte R := by rw [rowsBy_take, List.take_length]
    have q1 := bN_lt n1
    have q2 := bN_lt n2
    have q3 := bN_lt n3'
    have e1 : IntKind.i64.wrap (orB .i64 (IntKind.i64.wrap (0 * 2 ^ min 8 64)) (bN n1)) = bN n1 := by rw [shor_eq (x := 0) (c := bN n1) (by omega) (by omega) (by omega) (by omega)]; omega
    have e2 := shor_eq (x := bN n1) (c := bN n2) (by omega) (by omega) (by omega) (by omega)
    have e3 : IntKind.i64.wrap (orB .i64 (IntKind.i64.wrap ((256 * bN n1 + bN n2) * 2 ^ min 8 64)) (bN n3')) = n3 n1 n2 n3' := by rw [shor_eq (by omega) (by omega) (by omega) (by omega)]; unfold n3; omega
    rw [call_code F (show F 12 = some (.code f12) from rfl)]
    simp only [f12, rowsBy, cByte, rowsBy_length, Int.le_refl, h1, h2, bN_def, go_sem, reduceIte, reduceCtorEq, Nat.reduceEqDiff, Nat.reduceAdd, Nat.reduceLeDiff, Nat.reduceSub, List.length_cons, List.length_nil, Int.reduceLE, Int.reduceToNat, Int.cast_ofNat_Int]
    rw [f12_l1_eq]
    simp only [f12_b1, wrap64, wbN, e1, go_sem, reduceIte, reduceCtorEq, Nat.reduceEqDiff, Nat.reduceAdd, List.length_cons, List.length_nil, Int.reduceLT, Int.reduceLE, Int.reduceAdd, Int.reduceNeg, Int.reduceToNat]
    rw [f12_l1_eq]
    simp only [f12_b1, wrap64, wbN, e2, go_sem, reduceIte, reduceCtorEq, Nat.reduceEqDiff, Nat.reduceAdd, List.length_cons, List.length_nil, Int.reduceLT, Int.reduceLE, Int.reduceAdd, Int.reduceNeg, Int.reduceToNat]
    rw [f12_l1_eq]
    simp only [f12_b1, wrap64, wbN, e3, go_sem, reduceIte, reduceCtorEq, Nat.reduceEqDiff, Nat.reduceAdd, List.length_cons, List.length_nil, Int.reduceLT, Int.reduceLE, Int.reduceAdd, Int.reduceNeg, Int.reduceToNat]
    rw [f12_l1_eq]
    simp only [f12_b1, t11, go_sem, reduceIte, reduceCtorEq, Nat.reduceEqDiff, Nat.reduceAdd, Nat.reduceMul, List.length_cons, List.length_nil, Int.reduceLT]
    clear e1 e2 e3
    iterate 1 all_goals (try (split <;> (rename_i h; (try simp only [Bool.not_eq_true] at h); simp only [*, rowsBy_length, go_sem, reduceIte, reduceCtorEq, Nat.reduceEqDiff, Nat.reduceAdd, Nat.reduceBEq, List.length_cons, List.length_nil, Int.reduceLE, Int.reduceToNat, Nat.testBit, Nat.reduceShiftRight, Nat.reduceAnd, Nat.reduceBNe])))
    all_goals simp_all [takeOf, noTake, rowsBy, cByte, bN_def]
theorem t13 (b : List UInt8) : call F 13 [.sl .shared 1 (rowsBy cByte b)] = some (takeOf b) := by
  by_cases hs : b.length < 4
  · rw [takeOf_short hs]
    rw [call_code F (show F 13 = some (.code f13) from rfl)]
    simp only [f13, rowsBy_length, short_lt hs, noTake, go_sem, reduceIte, reduceCtorEq, Nat.reduceEqDiff, Nat.reduceAdd, List.length_cons, List.length_nil]
  · match b, hs with
    | [], h => simp at h
    | [_], h => simp at h
    | [_, _], h => simp at h
    | [_, _, _], h => simp at h
    | n0 :: n1 :: n2 :: n3' :: R, hs =>
    have h1 : decide (((R.length + 1 + 1 + 1 + 1 : Nat) : Int) < 4) = false := by rw [decide_eq_false_iff_not]; omega
    have h2 : (4 : Int) ≤ ((R.length + 1 + 1 + 1 + 1 : Nat) : Int) := by omega
    have h3 : R.length + 1 + 1 + 1 + 1 - 4 = R.length := by omega
    have h4 : (rowsBy cByte R).take R.length = rowsBy cByte R := by rw [rowsBy_take, List.take_length]
    have q1 := bN_lt n1
    have q2 := bN_lt n2
    have q3 := bN_lt n3'
    have w1 : IntKind.i64.wrap (65536 * bN n1) = 65536 * bN n1 := wrap64 (by omega) (by omega)
    have w2 : IntKind.i64.wrap (256 * bN n2) = 256 * bN n2 := wrap64 (by omega) (by omega)
    have w3 : IntKind.i64.wrap (65536 * bN n1 + 256 * bN n2) = 65536 * bN n1 + 256 * bN n2 := wrap64 (by omega) (by omega)
    have w4 : IntKind.i64.wrap (65536 * bN n1 + 256 * bN n2 + bN n3') = n3 n1 n2 n3' := wrap64 (by omega) (by omega)
    rw [call_code F (show F 13 = some (.code f13) from rfl)]
    simp only [f13, rowsBy, cByte, rowsBy_length, Int.le_refl, h1, bN_def, wbN, w1, w2, w3, w4, t14, go_sem, reduceIte, reduceCtorEq, Nat.reduceEqDiff, Nat.reduceAdd, Nat.reduceMul, Nat.reduceLeDiff, List.length_cons, List.length_nil, Int.reduceLE, Int.reduceToNat, Nat.testBit, Nat.reduceShiftRight, Nat.reduceAnd, Nat.reduceBNe]
    clear w1 w2 w3 w4
    iterate 1 all_goals (try (split <;> (rename_i h; (try simp only [Bool.not_eq_true] at h); simp only [*, rowsBy_length, go_sem, reduceIte, reduceCtorEq, Nat.reduceEqDiff, Nat.reduceAdd, Nat.reduceBEq, List.length_cons, List.length_nil, Int.reduceLE, Int.reduceToNat, Nat.testBit, Nat.reduceShiftRight, Nat.reduceAnd, Nat.reduceBNe])))
    all_goals simp_all [takeOf, noTake, rowsBy, cByte, bN_def]
end Go.Proofs.Ytnflcbacobhoiaa.Sx
