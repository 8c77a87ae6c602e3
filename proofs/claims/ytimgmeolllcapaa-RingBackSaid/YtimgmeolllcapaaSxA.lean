/- Chapter 03: the darts once each, and what is shown first. -/
import Derived.Test.YtimgmeolllcapaaSxRingr
namespace Go.Proofs.Ytimgmeolllcapaa.Sx
open Go
def dd (l : List Dart) : List Dart := l.foldl (fun a y => if y ∈ a then a else a ++ [y]) []
theorem dd_snoc (l : List Dart) (y : Dart) : dd (l ++ [y]) = if y ∈ dd l then dd l else dd l ++ [y] := by unfold dd; rw [List.foldl_append]; rfl
theorem dd_succ {l : List Dart} {i : Nat} (hi : i < l.length) : dd (l.take (i + 1)) = if l[i] ∈ dd (l.take i) then dd (l.take i) else dd (l.take i) ++ [l[i]] := by
  rw [List.take_succ_eq_append_getElem hi, dd_snoc]
theorem dd_len (l : List Dart) : ∀ i, (dd (l.take i)).length ≤ i
  | 0 => by simp [dd]
  | i + 1 => by
    have := dd_len l i
    by_cases h : i < l.length
    · rw [dd_succ h]; split
      · omega
      · simp; omega
    · rw [List.take_of_length_le (by omega), ← List.take_of_length_le (show l.length ≤ i by omega)]; omega
theorem dd_nodup (l : List Dart) : ∀ i, (dd (l.take i)).Nodup
  | 0 => by simp [dd]
  | i + 1 => by
    have := dd_nodup l i
    by_cases h : i < l.length
    · rw [dd_succ h]; split
      · exact this
      · rename_i hn
        rw [List.nodup_append]
        exact ⟨this, by simp, by intro a ha b hb; have : b = l[i] := by simpa using hb
                                 subst this; intro e; subst e; exact hn ha⟩
    · rw [List.take_of_length_le (by omega), ← List.take_of_length_le (show l.length ≤ i by omega)]; exact this
def once (l : List Dart) : List Dart := dd (l.take (min l.length 40))
theorem once_len (l : List Dart) : (once l).length ≤ 40 := Nat.le_trans (dd_len l _) (Nat.min_le_right _ _)
theorem once_fits (l : List Dart) : Fits (once l) := Nat.le_trans (once_len l) (by decide)
theorem once_nodup (l : List Dart) : (once l).Nodup := dd_nodup l _
theorem c_dart (n : Int) : call F 27 [.int .i64 n] = some (.agg [.int .i64 1, .int .i64 n, .int .i64 0]) := by
  rw [call_code F (show F 27 = some (.code f27) from rfl)]
  simp only [f27, go_sem, reduceIte, reduceCtorEq, Nat.reduceEqDiff, Nat.reduceAdd, Nat.reduceLeDiff, List.length_cons, List.length_nil]
theorem c_shown : call F 8 [] = some (.bool true) := by
  have t1 := c_ring_Turn [⟨⟨1, 3⟩, 0⟩, ⟨⟨1, 1⟩, 0⟩, ⟨⟨1, 2⟩, 0⟩] (by unfold Fits; decide)
  have t2 := i_ring_Insert [⟨⟨1, 1⟩, 0⟩, ⟨⟨1, 2⟩, 0⟩] ⟨⟨1, 1⟩, 0⟩ ⟨⟨1, 3⟩, 0⟩ (by decide)
  have t3 := i_ring_Insert [⟨⟨1, 1⟩, 0⟩, ⟨⟨1, 2⟩, 0⟩] ⟨⟨1, 9⟩, 0⟩ ⟨⟨1, 3⟩, 0⟩ (by decide)
  rw [show turn [⟨⟨1, 3⟩, 0⟩, ⟨⟨1, 1⟩, 0⟩, ⟨⟨1, 2⟩, 0⟩] = [⟨⟨1, 1⟩, 0⟩, ⟨⟨1, 2⟩, 0⟩, ⟨⟨1, 3⟩, 0⟩] by decide] at t1
  rw [show insR [⟨⟨1, 1⟩, 0⟩, ⟨⟨1, 2⟩, 0⟩] ⟨⟨1, 1⟩, 0⟩ ⟨⟨1, 3⟩, 0⟩ = [⟨⟨1, 1⟩, 0⟩, ⟨⟨1, 3⟩, 0⟩, ⟨⟨1, 2⟩, 0⟩] by decide] at t2
  rw [show insR [⟨⟨1, 1⟩, 0⟩, ⟨⟨1, 2⟩, 0⟩] ⟨⟨1, 9⟩, 0⟩ ⟨⟨1, 3⟩, 0⟩ = [⟨⟨1, 1⟩, 0⟩, ⟨⟨1, 3⟩, 0⟩, ⟨⟨1, 2⟩, 0⟩] by decide] at t3
  simp only [rowsBy, Dart.c] at t1 t2 t3
  rw [call_code F (show F 8 = some (.code f8) from rfl)]
  simp only [f8, t1, t2, t3, c_dart, go_sem, reduceIte, reduceCtorEq, Nat.reduceEqDiff, Nat.reduceAdd, Nat.reduceMul, Nat.reduceLeDiff, List.length_cons, List.length_nil, Int.reduceLT, Int.reduceLE, Int.reduceToNat, Int.cast_ofNat_Int, Nat.testBit, Nat.reduceShiftRight, Nat.reduceAnd, Nat.reduceBNe]
theorem c_once (l : List Dart) : call F 9 [.sl .shared 3 (rowsBy Dart.c l)] = some (.sl (.own 26) 3 (rowsBy Dart.c (once l))) := by
  have l1 : E (call F) 0 f9_l1 (⟨(upd (upd (upd Sx.e0 4 (.v (.int .i64 (0)))) 3 (.s 3 0 0)) 0 (.v (.sl .shared 3 (rowsBy Dart.c l)))), (upd Sx.h0 3 (some (.arr false 26 3 [])))⟩ : St) =
      some (.exit 0, (⟨(upd Sx.e0 3 (.s 3 0 (dd (l.take (min l.length 40))).length)), (upd Sx.h0 3 (some (.arr false 26 3 (rowsBy Dart.c (dd (l.take (min l.length 40)))))))⟩ : St)) := by
    refine loop_to (b := f9_b1) (fun i => (⟨(upd (upd (upd Sx.e0 4 (.v (.int .i64 ((i : Int))))) 3 (.s 3 0 (dd (l.take i)).length)) 0 (.v (.sl .shared 3 (rowsBy Dart.c l)))), (upd Sx.h0 3 (some (.arr false 26 3 (rowsBy Dart.c (dd (l.take i))))))⟩ : St)) (min l.length 40) ?_ ?_ (by simp)
    · intro i hi
      have h1 : i < l.length := by omega
      have h2 : i < 40 := by omega
      have h3 : decide ((i : Int) < 40) = true := decide_eq_true (by omega)
      have hle := dd_len l i
      have hs := dd_succ h1
      have hf : Fits (dd (l.take i)) := Nat.le_trans hle (by omega)
      have ix := i_r03_Index (dd (l.take i)) l[i] hf
      by_cases hm : l[i] ∈ dd (l.take i)
      · rw [idx_pos hm] at ix
        rw [if_pos hm] at hs
        rw [hs]
        have hd : decide ((((dd (l.take i)).idxOf l[i] : Nat) : Int) < 0) = false := by simp
        have hi2 : i < 1000000 := by omega
        generalize dd (l.take i) = m at *
        simp only [f9_b1, dec_lt h1, h3, ix, hd, rowsBy_get Dart.c h1, Dart.c, wrap_succ h2 (show 40 ≤ 9223372036854775807 by decide), List.take_length, go_sem, reduceIte, reduceCtorEq, Nat.reduceEqDiff, Nat.reduceAdd, Nat.reduceMul, List.length_cons, List.length_nil]
      · rw [idx_neg hm] at ix
        rw [if_neg hm] at hs
        rw [hs]
        have h5 : ((dd (l.take i)).length + 1) * 24 ≤ 140737488355328 := by omega
        have e2 : (dd (l.take i) ++ [l[i]]).length = (dd (l.take i)).length + 1 := by simp
        rw [e2]
        generalize dd (l.take i) = m at *
        simp only [f9_b1, dec_lt h1, h3, ix, rowsBy_get Dart.c h1, Dart.c, h5, wrap_succ h2 (show 40 ≤ 9223372036854775807 by decide), List.take_length, go_sem, reduceIte, reduceCtorEq, Nat.reduceEqDiff, Nat.reduceAdd, Nat.reduceMul, List.length_cons, List.length_nil, Int.reduceLT, Int.reduceNeg]
    · by_cases h : l.length ≤ 40
      · rw [Nat.min_eq_left h]
        simp only [f9_b1, dec_ge (Nat.le_refl l.length), go_sem, reduceIte, reduceCtorEq, Nat.reduceEqDiff]
      · rw [Nat.min_eq_right (by omega)]
        simp only [f9_b1, show decide ((40 : Int) < (l.length : Int)) = true from decide_eq_true (by omega), go_sem, reduceIte, reduceCtorEq, Nat.reduceEqDiff, Int.reduceLT, Int.cast_ofNat_Int]
  unfold once
  rw [call_code F (show F 9 = some (.code f9) from rfl)]
  simp only [f9, l1, go_sem, reduceIte, reduceCtorEq, Nat.reduceEqDiff, List.length_nil]
end Go.Proofs.Ytimgmeolllcapaa.Sx
