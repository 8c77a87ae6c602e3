/- RingBack: there and back. -/
import Derived.Test.YtimgmeolllcapaaSxA
import Derived.Test.YtimgmeolllcapaaSxRot
namespace Go.Proofs.Ytimgmeolllcapaa.Sx
open Go
theorem tmod_at {at_ : Int} {n : Nat} (h : at_ > 0) (hn : 0 < n) : ∃ k : Nat, at_.tmod (n : Int) = (k : Int) ∧ k < n := by
  obtain ⟨a, rfl⟩ : ∃ a : Nat, at_ = (a : Int) := ⟨at_.toNat, by omega⟩
  exact ⟨a % n, tmod_nat, Nat.mod_lt _ hn⟩
theorem insR_len (l : List Dart) (a x : Dart) : (insR l a x).length ≤ l.length + 1 := by
  have := insK_le l a
  unfold insR; split
  · rw [turn_length]; omega
  · rw [turn_length]; simp; omega
theorem swapR_len (l : List Dart) (a x : Dart) : (swapR l a x).length = l.length := by
  unfold swapR; split
  · rw [turn_length]; simp
  · rw [turn_length]
theorem remR_len (l : List Dart) (a : Dart) : (remR l a).length ≤ l.length := by
  unfold remR; rw [turn_length, List.length_erase]; split <;> omega
theorem i_ring_Index (l : List Dart) (x : Dart) (hl : Fits l) : call F 17 [.sl .shared 3 (rowsBy Dart.c l), .agg [.int .i64 x.e.s, .int .i64 x.e.n, .int .i64 x.d]] = some (.int .i64 (idx l x)) := c_ring_Index l x.e.s x.e.n x.d hl
set_option maxHeartbeats 4000000 in
theorem t_back (l0 : List Dart) (d e : Dart) (at_ : Int) : call F 7 [.sl .shared 3 (rowsBy Dart.c l0), .agg [.int .i64 d.e.s, .int .i64 d.e.n, .int .i64 d.d, .int .i64 e.e.s, .int .i64 e.e.n, .int .i64 e.d], .int .i64 at_] = some (.bool true) := by
  have co := c_once l0
  have hf := once_fits l0
  have hn := once_nodup l0
  have hl := once_len l0
  generalize once l0 = l at *
  by_cases hnil : l = []
  · subst hnil
    have t1 := c_ring_Turn [] hf
    rw [show turn [] = [] from rfl] at t1
    have e0 : rowsBy Dart.c [] = [] := rfl
    rw [e0] at t1 co
    rw [call_code F (show F 7 = some (.code f7) from rfl)]
    simp only [f7, c_shown, co, t1, go_sem, reduceIte, reduceCtorEq, Nat.reduceEqDiff, Nat.reduceAdd, Nat.reduceMul, List.length_cons, List.length_nil, Int.cast_ofNat_Int]
  · have hpos : 0 < l.length := List.length_pos_iff.2 hnil
    have k0 : decide ((l.length : Int) = 0) = false := decide_eq_false (by omega)
    have kz : ¬ ((l.length : Int) = 0) := by omega
    have kc : l.length * 24 ≤ 140737488355328 := by omega
    have kp : (0 : Int) < (l.length : Int) := by omega
    have main : ∀ k : Nat, k < l.length → (∃ b, decide (at_ > 0) = b ∧ (if b = true then at_.tmod (l.length : Int) = (k : Int) else k = 0)) → call F 7 [.sl .shared 3 (rowsBy Dart.c l0), .agg [.int .i64 d.e.s, .int .i64 d.e.n, .int .i64 d.d, .int .i64 e.e.s, .int .i64 e.e.n, .int .i64 e.d], .int .i64 at_] = some (.bool true) := by
      intro k hk ⟨b, hb, hbk⟩
      have hl9 : l.length ≤ 999999 := by omega
      have ho : l[k] ∈ l := List.getElem_mem _
      have k1 : (k : Int) ≤ (l.length : Int) := by omega
      have k2 : (k : Int) < (l.length : Int) := by omega
      have k3 : (((l.drop k).length + (l.take k).length : Nat) : Int) = (l.length : Int) := by simp; omega
      have sm := c_ring_Same l (l.drop k ++ l.take k) hf (by unfold Fits; simp; omega)
      rw [dec_t (rot_same hn ⟨_, _, (List.take_append_drop k l).symm, rfl⟩).symm] at sm
      have sm0 := c_ring_Same l l hf hf
      rw [dec_t rfl] at sm0
      have n1 := i_ring_Insert l d e hl9
      have fn : Fits (insR l d e) := Nat.le_trans (insR_len l d e) (by omega)
      have p1 := i_ring_Prev (insR l d e) e fn
      have s1 := i_ring_Swap l l[k] e hf
      have fs : Fits (swapR l l[k] e) := by unfold Fits; rw [swapR_len]; omega
      have x1 := i_ring_Next l l[k] hf
      rw [dec_t ho] at x1
      have y1 := i_ring_Prev l (nextD l l[k]) hf
      rw [prev_next hn ho] at y1
      have r2 := i_ring_Remove l d hf
      have fr : Fits (remR l d) := Nat.le_trans (remR_len l d) hf
      have s2 := c_ring_Same (remR l d) l fr hf
      rw [rem_same hn] at s2
      have i1 := c_ring_Index l e.e.s e.e.n e.d hf
      have i2 := c_ring_Index l d.e.s d.e.n d.d hf
      rw [show (⟨⟨e.e.s, e.e.n⟩, e.d⟩ : Dart) = e from rfl] at i1
      rw [show (⟨⟨d.e.s, d.e.n⟩, d.d⟩ : Dart) = d from rfl] at i2
      simp only [dartT] at p1 x1 y1
      have g := rowsBy_get Dart.c hk
      have w1 := wrap_succ (show l.length < l.length + 1 by omega) (show l.length + 1 ≤ 9223372036854775807 by omega)
      have h5 : ((l.drop k).length + (l.take k).length) * 24 ≤ 140737488355328 := by simp; omega
      have h6 : (l.drop k).length * 24 ≤ 140737488355328 := by simp; omega
      by_cases he : e ∈ l
      · rw [idx_pos he] at i1
        have q1 : decide (((l.idxOf e : Nat) : Int) ≥ 0) = true := by simp
        by_cases hd : d ∈ l
        · rw [idx_pos hd] at i2
          have q2 : decide (((l.idxOf d : Nat) : Int) < 0) = false := by simp
          rw [dec_f (fun h => h hd)] at s2
          cases b
          · have hk0 : k = 0 := by simpa using hbk
            subst hk0
            rw [call_code F (show F 7 = some (.code f7) from rfl)]
            simp only [f7, c_shown, co, kz, kc, kp, hb, sm0, n1, p1, s1, x1, y1, r2, s2, i1, i2, g, Dart.c, q2, go_sem, reduceIte, reduceCtorEq, Nat.reduceEqDiff, Nat.reduceAdd, Nat.reduceMul, Nat.reduceLeDiff, Nat.reduceBEq, List.length_cons, List.length_nil, Int.reduceLT, Int.reduceLE, Int.reduceToNat, Int.cast_ofNat_Int, Nat.testBit, Nat.reduceShiftRight, Nat.reduceAnd, Nat.reduceBNe]
          · have hk0 : at_.tmod (l.length : Int) = (k : Int) := by simpa using hbk
            rw [call_code F (show F 7 = some (.code f7) from rfl)]
            simp only [f7, c_shown, co, kz, hb, hk0, k1, k2, sm, n1, p1, s1, x1, y1, r2, s2, i1, i2, g, Dart.c, q2, h5, h6, go_sem, reduceIte, reduceCtorEq, Nat.reduceEqDiff, Nat.reduceAdd, Nat.reduceMul, Nat.reduceLeDiff, Nat.reduceBEq, List.length_cons, List.length_nil, Int.reduceLT, Int.reduceLE, Int.reduceToNat, Int.cast_ofNat_Int, Nat.testBit, Nat.reduceShiftRight, Nat.reduceAnd, Nat.reduceBNe]
        · rw [idx_neg hd] at i2
          have q2 : decide ((-1 : Int) < 0) = true := rfl
          rw [dec_t hd] at s2
          cases b
          · have hk0 : k = 0 := by simpa using hbk
            subst hk0
            rw [call_code F (show F 7 = some (.code f7) from rfl)]
            simp only [f7, c_shown, co, kz, kc, kp, hb, sm0, n1, p1, s1, x1, y1, r2, s2, i1, i2, g, Dart.c, go_sem, reduceIte, reduceCtorEq, Nat.reduceEqDiff, Nat.reduceAdd, Nat.reduceMul, Nat.reduceLeDiff, Nat.reduceBEq, List.length_cons, List.length_nil, Int.reduceLT, Int.reduceLE, Int.reduceNeg, Int.reduceToNat, Int.cast_ofNat_Int, Nat.testBit, Nat.reduceShiftRight, Nat.reduceAnd, Nat.reduceBNe]
          · have hk0 : at_.tmod (l.length : Int) = (k : Int) := by simpa using hbk
            rw [call_code F (show F 7 = some (.code f7) from rfl)]
            simp only [f7, c_shown, co, kz, hb, hk0, k1, k2, sm, n1, p1, s1, x1, y1, r2, s2, i1, i2, g, Dart.c, h5, h6, go_sem, reduceIte, reduceCtorEq, Nat.reduceEqDiff, Nat.reduceAdd, Nat.reduceMul, Nat.reduceLeDiff, Nat.reduceBEq, List.length_cons, List.length_nil, Int.reduceLT, Int.reduceLE, Int.reduceNeg, Int.reduceToNat, Int.cast_ofNat_Int, Nat.testBit, Nat.reduceShiftRight, Nat.reduceAnd, Nat.reduceBNe]
      · rw [idx_neg he] at i1
        have q1 : decide ((-1 : Int) ≥ 0) = false := rfl
        have r1 := i_ring_Remove (insR l d e) e fn
        have fr2 : Fits (remR (insR l d e) e) := Nat.le_trans (remR_len _ _) fn
        have r3 := c_ring_Same (remR (insR l d e) e) l fr2 hf
        rw [dec_t (back_ins hn he)] at r3
        have ln : decide (((insR l d e).length : Int) = ((l.length + 1 : Nat) : Int)) = true := decide_eq_true (by rw [insR_eq he, turn_length, insL_len])
        have fs2 : Fits (swapR (swapR l l[k] e) e l[k]) := by unfold Fits; rw [swapR_len]; exact fs
        have s3 := i_ring_Swap (swapR l l[k] e) e l[k] fs
        have s4 := c_ring_Same (swapR (swapR l l[k] e) e l[k]) l fs2 hf
        rw [dec_t (back_swap hn ho he).1] at s4
        have i3 := i_ring_Index (swapR l l[k] e) l[k] fs
        rw [idx_neg (back_swap hn ho he).2] at i3
        by_cases hd : d ∈ l
        · rw [idx_pos hd] at i2
          have q2 : decide (((l.idxOf d : Nat) : Int) < 0) = false := by simp
          rw [dec_f (fun h => h hd)] at s2
          rw [prev_ins hn he hd] at p1
          cases b
          · have hk0 : k = 0 := by simpa using hbk
            subst hk0
            rw [call_code F (show F 7 = some (.code f7) from rfl)]
            simp only [f7, c_shown, co, kz, kc, kp, hb, sm0, n1, p1, s1, x1, y1, r2, s2, i1, i2, g, Dart.c, q2, r1, r3, ln, w1, s3, s4, i3, go_sem, reduceIte, reduceCtorEq, Nat.reduceEqDiff, Nat.reduceAdd, Nat.reduceMul, Nat.reduceLeDiff, Nat.reduceBEq, List.length_cons, List.length_nil, Int.reduceLT, Int.reduceLE, Int.reduceGE, Int.reduceNeg, Int.reduceToNat, Int.cast_ofNat_Int, Nat.testBit, Nat.reduceShiftRight, Nat.reduceAnd, Nat.reduceBNe]
          · have hk0 : at_.tmod (l.length : Int) = (k : Int) := by simpa using hbk
            rw [call_code F (show F 7 = some (.code f7) from rfl)]
            simp only [f7, c_shown, co, kz, hb, hk0, k1, k2, sm, n1, p1, s1, x1, y1, r2, s2, i1, i2, g, Dart.c, q2, h5, h6, r1, r3, ln, w1, s3, s4, i3, go_sem, reduceIte, reduceCtorEq, Nat.reduceEqDiff, Nat.reduceAdd, Nat.reduceMul, Nat.reduceLeDiff, Nat.reduceBEq, List.length_cons, List.length_nil, Int.reduceLT, Int.reduceLE, Int.reduceGE, Int.reduceNeg, Int.reduceToNat, Int.cast_ofNat_Int, Nat.testBit, Nat.reduceShiftRight, Nat.reduceAnd, Nat.reduceBNe]
        · rw [idx_neg hd] at i2
          have q2 : decide ((-1 : Int) < 0) = true := rfl
          rw [dec_t hd] at s2
          cases b
          · have hk0 : k = 0 := by simpa using hbk
            subst hk0
            rw [call_code F (show F 7 = some (.code f7) from rfl)]
            simp only [f7, c_shown, co, kz, kc, kp, hb, sm0, n1, p1, s1, x1, y1, r2, s2, i1, i2, g, Dart.c, r1, r3, ln, w1, s3, s4, i3, go_sem, reduceIte, reduceCtorEq, Nat.reduceEqDiff, Nat.reduceAdd, Nat.reduceMul, Nat.reduceLeDiff, Nat.reduceBEq, List.length_cons, List.length_nil, Int.reduceLT, Int.reduceLE, Int.reduceGE, Int.reduceNeg, Int.reduceToNat, Int.cast_ofNat_Int, Nat.testBit, Nat.reduceShiftRight, Nat.reduceAnd, Nat.reduceBNe]
          · have hk0 : at_.tmod (l.length : Int) = (k : Int) := by simpa using hbk
            rw [call_code F (show F 7 = some (.code f7) from rfl)]
            simp only [f7, c_shown, co, kz, hb, hk0, k1, k2, sm, n1, p1, s1, x1, y1, r2, s2, i1, i2, g, Dart.c, h5, h6, r1, r3, ln, w1, s3, s4, i3, go_sem, reduceIte, reduceCtorEq, Nat.reduceEqDiff, Nat.reduceAdd, Nat.reduceMul, Nat.reduceLeDiff, Nat.reduceBEq, List.length_cons, List.length_nil, Int.reduceLT, Int.reduceLE, Int.reduceGE, Int.reduceNeg, Int.reduceToNat, Int.cast_ofNat_Int, Nat.testBit, Nat.reduceShiftRight, Nat.reduceAnd, Nat.reduceBNe]
    by_cases hat : at_ > 0
    · obtain ⟨k, h1, h2⟩ := tmod_at hat hpos
      exact main k h2 ⟨true, dec_t hat, by simpa using h1⟩
    · exact main 0 hpos ⟨false, dec_f hat, by simp⟩
end Go.Proofs.Ytimgmeolllcapaa.Sx
