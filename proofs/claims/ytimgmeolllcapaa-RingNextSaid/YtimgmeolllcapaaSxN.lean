/- RingNext: going round a ring. -/
import Derived.Test.YtimgmeolllcapaaSxA
import Derived.Test.YtimgmeolllcapaaSxRot
namespace Go.Proofs.Ytimgmeolllcapaa.Sx
open Go
theorem t_next (l0 : List Dart) (x : Dart) : call F 4 [.sl .shared 3 (rowsBy Dart.c l0), .agg [.int .i64 x.e.s, .int .i64 x.e.n, .int .i64 x.d]] = some (.bool true) := by
  have co := c_once l0
  have hf := once_fits l0
  have hn := once_nodup l0
  have hl := once_len l0
  generalize once l0 = l at *
  have n1 := i_ring_Next l x hf
  have p1 := i_ring_Prev l x hf
  have i1 := c_ring_Index l x.e.s x.e.n x.d hf
  simp only [dartT] at n1 p1
  by_cases hx : x ∈ l
  · rw [show (⟨⟨x.e.s, x.e.n⟩, x.d⟩ : Dart) = x from rfl, idx_pos hx] at i1
    rw [dec_t hx] at n1 p1
    have k1 : decide (((l.idxOf x : Nat) : Int) < 0) = false := by simp
    have hpos : 0 < l.length := List.length_pos_of_mem hx
    have gx := ga_idx hx
    have l1 : E (call F) 0 f4_l1 (⟨(upd (upd (upd (upd (upd (upd (upd (upd (upd (upd Sx.e0 12 (.v (.int .i64 (0)))) 11 (.p 11 0)) 10 (.v (.bool true))) 9 (.p 9 0)) 8 (.v (.bool true))) 7 (.p 7 0)) 6 (.v (.int .i64 (((l.idxOf x : Nat) : Int))))) 5 (.v (.bool true))) 3 (.p 3 0)) 0 (.s 0 0 l.length)), (upd (upd (upd (upd (upd Sx.h0 11 (some (.var false [(.v (.int .i64 ((x).e.s))), (.v (.int .i64 ((x).e.n))), (.v (.int .i64 ((x).d)))]))) 9 (some (.var false [(.v (.int .i64 ((nextD l x).e.s))), (.v (.int .i64 ((nextD l x).e.n))), (.v (.int .i64 ((nextD l x).d)))]))) 7 (some (.var false [(.v (.int .i64 ((prevD l x).e.s))), (.v (.int .i64 ((prevD l x).e.n))), (.v (.int .i64 ((prevD l x).d)))]))) 3 (some (.var false [(.v (.int .i64 (x.e.s))), (.v (.int .i64 (x.e.n))), (.v (.int .i64 (x.d)))]))) 0 (some (.arr false 26 3 (rowsBy Dart.c l))))⟩ : St) = some (.exit 0, (⟨(upd (upd (upd (upd (upd (upd (upd (upd (upd Sx.e0 11 (.p 11 0)) 10 (.v (.bool true))) 9 (.p 9 0)) 8 (.v (.bool true))) 7 (.p 7 0)) 6 (.v (.int .i64 (((l.idxOf x : Nat) : Int))))) 5 (.v (.bool true))) 3 (.p 3 0)) 0 (.s 0 0 l.length)), (upd (upd (upd (upd (upd Sx.h0 11 (some (.var false [(.v (.int .i64 ((ga l (l.idxOf x + l.length)).e.s))), (.v (.int .i64 ((ga l (l.idxOf x + l.length)).e.n))), (.v (.int .i64 ((ga l (l.idxOf x + l.length)).d)))]))) 9 (some (.var false [(.v (.int .i64 ((nextD l x).e.s))), (.v (.int .i64 ((nextD l x).e.n))), (.v (.int .i64 ((nextD l x).d)))]))) 7 (some (.var false [(.v (.int .i64 ((prevD l x).e.s))), (.v (.int .i64 ((prevD l x).e.n))), (.v (.int .i64 ((prevD l x).d)))]))) 3 (some (.var false [(.v (.int .i64 (x.e.s))), (.v (.int .i64 (x.e.n))), (.v (.int .i64 (x.d)))]))) 0 (some (.arr false 26 3 (rowsBy Dart.c l))))⟩ : St)) := by
      have key := loop_to (C := call F) (lo := 0) (b := f4_b1) (fun i => (⟨(upd (upd (upd (upd (upd (upd (upd (upd (upd (upd Sx.e0 12 (.v (.int .i64 ((i : Int))))) 11 (.p 11 0)) 10 (.v (.bool true))) 9 (.p 9 0)) 8 (.v (.bool true))) 7 (.p 7 0)) 6 (.v (.int .i64 (((l.idxOf x : Nat) : Int))))) 5 (.v (.bool true))) 3 (.p 3 0)) 0 (.s 0 0 l.length)), (upd (upd (upd (upd (upd Sx.h0 11 (some (.var false [(.v (.int .i64 ((ga l (l.idxOf x + i)).e.s))), (.v (.int .i64 ((ga l (l.idxOf x + i)).e.n))), (.v (.int .i64 ((ga l (l.idxOf x + i)).d)))]))) 9 (some (.var false [(.v (.int .i64 ((nextD l x).e.s))), (.v (.int .i64 ((nextD l x).e.n))), (.v (.int .i64 ((nextD l x).d)))]))) 7 (some (.var false [(.v (.int .i64 ((prevD l x).e.s))), (.v (.int .i64 ((prevD l x).e.n))), (.v (.int .i64 ((prevD l x).d)))]))) 3 (some (.var false [(.v (.int .i64 (x.e.s))), (.v (.int .i64 (x.e.n))), (.v (.int .i64 (x.d)))]))) 0 (some (.arr false 26 3 (rowsBy Dart.c l))))⟩ : St)) l.length (r := (.exit 0, (⟨(upd (upd (upd (upd (upd (upd (upd (upd (upd Sx.e0 11 (.p 11 0)) 10 (.v (.bool true))) 9 (.p 9 0)) 8 (.v (.bool true))) 7 (.p 7 0)) 6 (.v (.int .i64 (((l.idxOf x : Nat) : Int))))) 5 (.v (.bool true))) 3 (.p 3 0)) 0 (.s 0 0 l.length)), (upd (upd (upd (upd (upd Sx.h0 11 (some (.var false [(.v (.int .i64 ((ga l (l.idxOf x + l.length)).e.s))), (.v (.int .i64 ((ga l (l.idxOf x + l.length)).e.n))), (.v (.int .i64 ((ga l (l.idxOf x + l.length)).d)))]))) 9 (some (.var false [(.v (.int .i64 ((nextD l x).e.s))), (.v (.int .i64 ((nextD l x).e.n))), (.v (.int .i64 ((nextD l x).d)))]))) 7 (some (.var false [(.v (.int .i64 ((prevD l x).e.s))), (.v (.int .i64 ((prevD l x).e.n))), (.v (.int .i64 ((prevD l x).d)))]))) 3 (some (.var false [(.v (.int .i64 (x.e.s))), (.v (.int .i64 (x.e.n))), (.v (.int .i64 (x.d)))]))) 0 (some (.arr false 26 3 (rowsBy Dart.c l))))⟩ : St))) ?_ ?_ (by simp)
      · simp only [Nat.add_zero, gx] at key
        exact key
      · intro i hi
        have nn := i_ring_Next l (ga l (l.idxOf x + i)) hf
        rw [dec_t (ga_mem hpos _), nextD_ga hn hpos] at nn
        simp only [dartT] at nn
        have e1 : ga l (l.idxOf x + i + 1) = ga l (l.idxOf x + (i + 1)) := rfl
        rw [e1] at nn
        have hw : (l.length : Int).toNat = l.length := by simp
        by_cases hlast : i + 1 = l.length
        · have k2 : decide (¬ ((i : Int) = (l.length : Int) - 1)) = false := decide_eq_false (by omega)
          have hxx : ga l (l.idxOf x + (i + 1)) = x := by rw [hlast, ← ga_mod, Nat.add_mod_right, ga_mod, gx]
          rw [hxx] at nn ⊢
          generalize ga l (l.idxOf x + i) = z at *
          simp only [f4_b1, dec_lt hi, nn, k2, wrap64 (show -9223372036854775808 ≤ (l.length : Int) - 1 by omega) (show (l.length : Int) - 1 ≤ 9223372036854775807 by omega), wrap_succ hi (show l.length ≤ 9223372036854775807 by omega), go_sem, reduceIte, reduceCtorEq, Nat.reduceEqDiff, Nat.reduceAdd, Nat.reduceMul, Nat.reduceLeDiff, List.length_cons, List.length_nil, ne_eq]
        · have hne : ga l (l.idxOf x + (i + 1)) ≠ x := by
            intro e
            have e2 := ga_inj hn hpos (e.trans gx.symm)
            have hlt := (idxOf_at hx).1
            rw [Nat.mod_eq_of_lt hlt] at e2
            by_cases hc : l.idxOf x + (i + 1) < l.length
            · rw [Nat.mod_eq_of_lt hc] at e2; omega
            · rw [Nat.mod_eq_sub_mod (by omega), Nat.mod_eq_of_lt (by omega)] at e2; omega
          generalize ga l (l.idxOf x + (i + 1)) = y at *
          generalize ga l (l.idxOf x + i) = z at *
          simp only [f4_b1, dec_lt hi, nn, dec_f hne, wrap_succ hi (show l.length ≤ 9223372036854775807 by omega), go_sem, reduceIte, reduceCtorEq, Nat.reduceEqDiff, Nat.reduceAdd, Nat.reduceMul, Nat.reduceLeDiff, List.length_cons, List.length_nil]
      · simp only [f4_b1, dec_ge (Nat.le_refl l.length), go_sem, reduceIte, reduceCtorEq, Nat.reduceEqDiff]
    rw [show ga l (l.idxOf x + l.length) = x by rw [← ga_mod, Nat.add_mod_right, ga_mod, gx]] at l1
    have hlt := (idxOf_at hx).1
    have hlx := (idxOf_at hx).2
    have rr := i_ring_Remove l x hf
    have hml : (remR l x).length = l.length - 1 := by unfold remR; rw [turn_length, List.length_erase_of_mem hx]
    have hxm : x ∉ remR l x := by
      intro h
      have := ((rot_turn (l.erase x)).mem x).2 h
      rw [erase_filt x hn] at this
      simp at this
    have hfm : Fits (remR l x) := by unfold Fits; omega
    have nm := i_ring_Next (remR l x) (prevD l x) hfm
    have im := c_ring_Index (remR l x) x.e.s x.e.n x.d hfm
    rw [show (⟨⟨x.e.s, x.e.n⟩, x.d⟩ : Dart) = x from rfl, idx_neg hxm] at im
    have k3 : decide (((remR l x).length : Int) = (l.length : Int) - 1) = true := decide_eq_true (by omega)
    simp only [dartT] at nm
    have k5 : l[l.idxOf x] = x := hlx
    have k6 : ((l.idxOf x : Nat) : Int) < (l.length : Int) := by omega
    by_cases h3 : l.length < 3
    · have k4 : decide ((l.length : Int) < 3) = true := decide_eq_true (by omega)
      rw [call_code F (show F 4 = some (.code f4) from rfl)]
      simp only [f4, c_shown, co, n1, p1, i1, k1, l1, rr, k4, k3, im, rowsBy_get Dart.c hlt, Dart.c, k5, k6, wrap64 (show -9223372036854775808 ≤ (l.length : Int) - 1 by omega) (show (l.length : Int) - 1 ≤ 9223372036854775807 by omega), go_sem, reduceIte, reduceCtorEq, Nat.reduceEqDiff, Nat.reduceAdd, Nat.reduceMul, Nat.reduceLeDiff, List.length_cons, List.length_nil, Int.reduceLT, Int.reduceNeg, Nat.testBit, Nat.reduceShiftRight, Nat.reduceAnd, Nat.reduceBNe]
    · have k4 : decide ((l.length : Int) < 3) = false := decide_eq_false (by omega)
      have hj : nextD (remR l x) (prevD l x) = nextD l x := by
        unfold remR
        rw [← joined hn hx h3]
        exact byD_rot (hn.erase x) (rot_turn _) _ 1
      rw [hj] at nm
      rw [call_code F (show F 4 = some (.code f4) from rfl)]
      simp only [f4, c_shown, co, n1, p1, i1, k1, l1, rr, k4, k3, im, nm, rowsBy_get Dart.c hlt, Dart.c, k5, k6, wrap64 (show -9223372036854775808 ≤ (l.length : Int) - 1 by omega) (show (l.length : Int) - 1 ≤ 9223372036854775807 by omega), go_sem, reduceIte, reduceCtorEq, Nat.reduceEqDiff, Nat.reduceAdd, Nat.reduceMul, Nat.reduceLeDiff, List.length_cons, List.length_nil, Int.reduceLT, Int.reduceNeg, Nat.testBit, Nat.reduceShiftRight, Nat.reduceAnd, Nat.reduceBNe]
  · rw [show (⟨⟨x.e.s, x.e.n⟩, x.d⟩ : Dart) = x from rfl, idx_neg hx] at i1
    rw [dec_f hx, show nextD l x = Dart0 by unfold nextD byD; rw [if_neg hx]] at n1
    rw [dec_f hx, show prevD l x = Dart0 by unfold prevD byD; rw [if_neg hx]] at p1
    rw [call_code F (show F 4 = some (.code f4) from rfl)]
    simp only [f4, c_shown, co, n1, p1, i1, Dart0, go_sem, reduceIte, reduceCtorEq, Nat.reduceEqDiff, Nat.reduceAdd, Nat.reduceMul, Nat.reduceLeDiff, List.length_cons, List.length_nil, Int.reduceLT, Int.reduceNeg]
end Go.Proofs.Ytimgmeolllcapaa.Sx
