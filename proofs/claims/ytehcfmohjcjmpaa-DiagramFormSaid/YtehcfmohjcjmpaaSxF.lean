/- DiagramForm: what is wrong with a diagram, which labels and attributes may be. -/
import Derived.Test.YtehcfmohjcjmpaaSxA
namespace Go.Proofs.Ytehcfmohjcjmpaa.Sx
open Go
theorem t_form (vs : List Vx) (es : List Ed) (s : ByteArray) (n : Int) (hL : FitsL vs es) (hs : s.size ≤ 9223372036854775807) : call F 3 [.agg [.sl .shared 5 (rowsBy Vx.c vs), .sl .shared 4 (rowsBy Ed.c es)], .str s, .int .i64 n] = some (.bool true) := by
  have cf := c_few vs es
  have hr := fewVx_fits 30 30 (by decide) vs
  have hL' := few_fitsL vs es 30 30 50 hL
  generalize fewVx 30 30 vs = v at *
  generalize es.take 50 = e at *
  have f1 := i_diagram_Form v e hr
  have f2 := i_r04_Form v e hr hL'
  have m1 := c_MayLabel s
  have m2 := c_r04_MayLabel s hs
  have a1 := c_MayAttr n
  have a2 := c_r04_MayAttr n
  generalize formC v e = c at *
  generalize (mayB s && decide ((s.size : Int) ≤ 16)) = b at *
  generalize (decide (n ≥ -1099511627776) && decide (n ≤ 1099511627776)) = q at *
  rw [call_code F (show F 3 = some (.code f3) from rfl)]
  simp only [f3, cf, c_shown, f1, f2, m1, m2, a1, a2, rowsBy_takeAll, decide_true, beq_self_eq_true, go_sem, reduceIte, reduceCtorEq, Nat.reduceEqDiff, Nat.reduceAdd, Nat.reduceMul, Nat.reduceLeDiff, List.length_cons, List.length_nil, Nat.testBit, Nat.reduceShiftRight, Nat.reduceAnd, Nat.reduceBNe]
end Go.Proofs.Ytehcfmohjcjmpaa.Sx
