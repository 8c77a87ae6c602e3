/- RingChanges: darts are inserted, removed and swapped; which rings are the same. -/
import Derived.Test.YtimgmeolllcapaaSxA
namespace Go.Proofs.Ytimgmeolllcapaa.Sx
open Go
theorem erase_filter (x : Dart) : ∀ {l : List Dart}, l.Nodup → l.erase x = l.filter (fun y => decide (¬ y = x))
  | [], _ => rfl
  | y :: l, h => by
    rw [List.nodup_cons] at h
    by_cases e : y = x
    · subst e
      rw [List.erase_cons_head, List.filter_cons_of_neg (by simp)]
      symm
      rw [List.filter_eq_self]
      intro z hz; simp; intro e; subst e; exact h.1 hz
    · rw [List.erase_cons_tail (by simpa using e), List.filter_cons_of_pos (by simpa using e), erase_filter x h.2]
theorem dec_self {α : Type} [DecidableEq α] (x : α) : decide (x = x) = true := by simp
theorem t_changes (l0 m0 : List Dart) (x y : Dart) : call F 6 [.sl .shared 3 (rowsBy Dart.c l0), .sl .shared 3 (rowsBy Dart.c m0), .agg [.int .i64 x.e.s, .int .i64 x.e.n, .int .i64 x.d, .int .i64 y.e.s, .int .i64 y.e.n, .int .i64 y.d]] = some (.bool true) := by
  have co := c_once l0
  have hf := once_fits l0
  have hn := once_nodup l0
  have hl := once_len l0
  have co2 := c_once m0
  have hf2 := once_fits m0
  generalize once l0 = l at *
  generalize once m0 = m at *
  have hl9 : l.length ≤ 999999 := by omega
  have n1 := i_ring_Insert l x y hl9
  have n2 := i_r03_Insert l x y hl9
  have r1 := i_ring_Remove l x hf
  have r2 := i_r03_Remove l x hf
  rw [← erase_filter x hn, show turn (l.erase x) = remR l x from rfl] at r2
  have p1 := i_ring_Swap l x y hf
  have p2 := i_r03_Swap l x y hf
  have s1 := c_ring_Same l m hf hf2
  have s2 := c_r03_Same l m hf hf2
  have d1 := c_r03_Darts (insR l x y) (insR l x y) (by unfold insR Fits; split <;> simp [turn_length] <;> have := insK_le l x <;> omega)
  have d2 := c_r03_Darts (remR l x) (remR l x) (by unfold remR; rw [Fits, turn_length, List.length_erase]; split <;> omega)
  have d3 := c_r03_Darts (swapR l x y) (swapR l x y) (by unfold swapR Fits; split <;> simp [turn_length] <;> omega)
  rw [dec_self] at d1 d2 d3
  rw [call_code F (show F 6 = some (.code f6) from rfl)]
  simp only [f6, c_shown, co, co2, n1, n2, r1, r2, p1, p2, s1, s2, d1, d2, d3, go_sem, reduceIte, reduceCtorEq, Nat.reduceEqDiff, Nat.reduceAdd, Nat.reduceMul, Nat.reduceLeDiff, Nat.reduceBEq, List.length_cons, List.length_nil, Int.reduceLT, Int.reduceLE, Int.reduceToNat, Int.cast_ofNat_Int, Nat.testBit, Nat.reduceShiftRight, Nat.reduceAnd, Nat.reduceBNe]
end Go.Proofs.Ytimgmeolllcapaa.Sx
