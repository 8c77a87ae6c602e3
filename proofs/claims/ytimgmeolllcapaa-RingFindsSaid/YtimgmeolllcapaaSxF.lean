/- RingFinds: a ring is turned, and its darts are found. -/
import Derived.Test.YtimgmeolllcapaaSxA
namespace Go.Proofs.Ytimgmeolllcapaa.Sx
open Go
theorem t_finds (l0 : List Dart) (x : Dart) : call F 3 [.sl .shared 3 (rowsBy Dart.c l0), .agg [.int .i64 x.e.s, .int .i64 x.e.n, .int .i64 x.d]] = some (.bool true) := by
  have co := c_once l0
  have hf := once_fits l0
  generalize once l0 = l at *
  have t1 := c_ring_Turn l hf
  have t2 := c_r03_Turn l hf
  have n1 := i_ring_Next l x hf
  have n2 := i_r03_Next l x hf
  have p1 := i_ring_Prev l x hf
  have p2 := i_r03_Prev l x hf
  have i1 := c_ring_Index l x.e.s x.e.n x.d hf
  have i2 := i_r03_Index l x hf
  have d1 := c_r03_Darts (turn l) (turn l) (fits_turn hf)
  simp only [dartT] at n1 n2 p1 p2
  rw [show decide (turn l = turn l) = true by simp] at d1
  rw [call_code F (show F 3 = some (.code f3) from rfl)]
  simp only [f3, c_shown, co, t1, t2, n1, n2, p1, p2, i1, i2, d1, go_sem, reduceIte, reduceCtorEq, Nat.reduceEqDiff, Nat.reduceAdd, Nat.reduceMul, Nat.reduceLeDiff, List.length_cons, List.length_nil, Nat.testBit, Nat.reduceShiftRight, Nat.reduceAnd, Nat.reduceBNe]
end Go.Proofs.Ytimgmeolllcapaa.Sx
