/- The first law of names. -/
import Derived.Test.YtnflcbacobhoiaaSxC
namespace Go.Proofs.Ytnflcbacobhoiaa.Sx
open Go
theorem ord_eq (a b c d : Int) : ordI a b c d = ordR a b c d := by
  unfold ordI ordR orI cmpI
  split
  · rfl
  · split <;> split <;> (try split) <;> (try split) <;> (try split) <;> omega
theorem and1 {y : Nat} (h : y < 2 ^ 64) : y &&& 18446744073709551614 = y / 2 * 2 := by
  have e : (18446744073709551614 : Nat) = (2 ^ 63 - 1) <<< 1 := by decide
  have e2 : y / 2 * 2 = (y >>> 1) <<< 1 := by rw [Nat.shiftLeft_eq, Nat.shiftRight_eq_div_pow]
  rw [e, e2]
  apply Nat.eq_of_testBit_eq
  intro i
  rw [Nat.testBit_and, Nat.testBit_shiftLeft, Nat.testBit_shiftLeft, Nat.testBit_shiftRight, Nat.testBit_two_pow_sub_one]
  by_cases hi : 1 ≤ i
  · rw [show 1 + (i - 1) = i by omega]
    by_cases h64 : i < 64
    · simp [hi, show i - 1 < 63 by omega]
    · have : y.testBit i = false := Nat.testBit_lt_two_pow (Nat.lt_of_lt_of_le h (Nat.pow_le_pow_right (by omega) (by omega)))
      simp [this]
  · simp [hi]
theorem andNot1_eq {c : Int} (h : IntKind.i64.has c) : decide (andNot1 c = 0) = (decide (c = 0) || decide (c = 1)) := by
  have h1 : -9223372036854775808 ≤ c ∧ c ≤ 9223372036854775807 := h
  have hx : (BitVec.ofInt 64 c &&& ~~~BitVec.ofInt 64 1).toNat = (c % 18446744073709551616).toNat / 2 * 2 := by
    rw [BitVec.toNat_and, BitVec.toNat_ofInt]
    have : (~~~BitVec.ofInt 64 1).toNat = 18446744073709551614 := by decide
    rw [this]
    exact and1 (by omega)
  unfold andNot1
  rw [hx]
  simp only [IntKind.wrap, IntKind.bits, IntKind.signed]
  by_cases h0 : c = 0
  · subst h0; rfl
  · by_cases h1' : c = 1
    · subst h1'; rfl
    · simp [h0, h1']
      omega
def xor1 (c : Int) : Int := IntKind.i64.wrap (BitVec.ofInt 64 c ^^^ BitVec.ofInt 64 1).toNat
theorem xor1_eq {c : Int} (h : c = 0 ∨ c = 1) : xor1 c = IntKind.i64.wrap (1 - c) := by
  rcases h with rfl | rfl <;> rfl
theorem t24' (a b c : Int) : call F 24 [.agg [.int .i64 a, .int .i64 b, .int .i64 c]] = some (.agg [.int .i64 a, .int .i64 b, .int .i64 (xor1 c)]) := t24 a b c
theorem t6 (a1 a2 b1 b2 c1 c2 c3 d1 d2 d3 : Int) (h3 : IntKind.i64.has c3) : call F 6 [.agg [.int .i64 a1, .int .i64 a2], .agg [.int .i64 b1, .int .i64 b2], .agg [.int .i64 c1, .int .i64 c2, .int .i64 c3, .int .i64 d1, .int .i64 d2, .int .i64 d3]] = some (.bool true) := by
  rw [call_code F (show F 6 = some (.code f6) from rfl)]
  cases hm : (mayB c1 c2 && (decide (c3 = 0) || decide (c3 = 1))) with
  | false =>
    simp only [f6, t9, t20, t11, t14, t18, t21, t22, t19, t23, ord_eq, andNot1_eq h3, hm, go_sem, reduceIte, reduceCtorEq, Nat.reduceEqDiff, Nat.reduceAdd, Nat.reduceMul, Nat.reduceLeDiff, List.length_cons, List.length_nil, Int.reduceLT, Int.reduceLE, Int.reduceToNat, Int.cast_ofNat_Int, Nat.testBit, Nat.reduceShiftRight, Nat.reduceAnd, Nat.reduceBNe]
  | true =>
    have hc : c3 = 0 ∨ c3 = 1 := by simp at hm; exact hm.2
    simp only [f6, t9, t20, t11, t14, t18, t21, t22, t19, t23, t24', t25, ord_eq, andNot1_eq h3, hm, xor1_eq hc, go_sem, reduceIte, reduceCtorEq, Nat.reduceEqDiff, Nat.reduceAdd, Nat.reduceMul, Nat.reduceLeDiff, List.length_cons, List.length_nil, Int.reduceLT, Int.reduceLE, Int.reduceToNat, Int.cast_ofNat_Int, Nat.testBit, Nat.reduceShiftRight, Nat.reduceAnd, Nat.reduceBNe]
end Go.Proofs.Ytnflcbacobhoiaa.Sx
