/- ReceiverPairs: what the law comes to. The forms of this seat's arguments. -/
import Derived.Test.YtkliiknolnodjaaRows
import Derived.Test.YtkliiknolnodjaaSxG5
import Derived.Test.YtkliiknolnodjaaSxG6
set_option maxRecDepth 100000
set_option linter.unusedSimpArgs false
set_option linter.unusedVariables false
namespace Go.Proofs.Ytkliiknolnodjaa.Sx
open Go
/-- at most 60 bytes -/
def shB (b : List UInt8) : List UInt8 := b.take 60
theorem shB_len (b : List UInt8) : (shB b).length ≤ 60 := by unfold shB; simp; omega
theorem c_short (b : List UInt8) : call F 13 [.sl .shared 1 (rowsBy cByte b)] = some (.sl .shared 1 (rowsBy cByte (shB b))) := by
  by_cases h : 60 < b.length
  · have h1 : ((b.length : Int) > 60) = True := by simp; omega
    have h2 : (60 : Int) ≤ (b.length : Int) := by omega
    rw [call_code F (show F 13 = some (.code f13) from rfl)]
    simp only [f13, h1, h2, Nat.reduceLT, decide_true, shB, show Int.toNat 60 = 60 from rfl, List.drop_zero, go_sem, reduceIte, reduceCtorEq, Nat.reduceEqDiff, Nat.reduceAdd, Nat.reduceMul, Nat.reduceLeDiff, Nat.reduceSub, Nat.reduceBEq, List.length_cons, List.length_nil, Int.reduceLT, Int.reduceLE, Int.reduceGT, Int.reduceGE, Int.reduceAdd, Int.reduceSub, Int.reduceMul, Int.reduceNeg, Int.reduceToNat, Int.reduceEq, Int.reduceNe, Int.cast_ofNat_Int, ne_eq, not_true_eq_false, not_false_eq_true, Nat.testBit, Nat.reduceShiftRight, Nat.reduceAnd, Nat.reduceBNe]
  · have h1 : ((b.length : Int) > 60) = False := by simp; omega
    have h3 : shB b = b := List.take_of_length_le (by omega)
    rw [call_code F (show F 13 = some (.code f13) from rfl)]
    simp only [f13, h1, Nat.reduceLT, decide_false, h3, go_sem, reduceIte, reduceCtorEq, Nat.reduceEqDiff, Nat.reduceAdd, Nat.reduceMul, Nat.reduceLeDiff, Nat.reduceSub, Nat.reduceBEq, List.length_cons, List.length_nil, Int.reduceLT, Int.reduceLE, Int.reduceGT, Int.reduceGE, Int.reduceAdd, Int.reduceSub, Int.reduceMul, Int.reduceNeg, Int.reduceToNat, Int.reduceEq, Int.reduceNe, Int.cast_ofNat_Int, ne_eq, not_true_eq_false, not_false_eq_true, Nat.testBit, Nat.reduceShiftRight, Nat.reduceAnd, Nat.reduceBNe]
theorem drain_first {n : Nat} {got : Int} {L : List Held} {b : List UInt8} (hL : lookR (got + 1) L = none) : (drainR (n + 1) got (L ++ [(got + 1, b)])).1 ≠ [] := by
  have h : ∀ L : List Held, lookR (got + 1) L = none → lookR (got + 1) (L ++ [(got + 1, b)]) = some b := by
    intro L
    induction L with
    | nil => intro _; simp [lookR]
    | cons x L ih =>
      obtain ⟨k, c⟩ := x
      intro hn
      simp only [lookR] at hn
      split at hn
      · cases hn
      · rename_i hk
        simp only [List.cons_append, lookR, if_neg hk]
        exact ih hn
  simp only [drainR, h L hL]
  simp
/-- what is held, and what was told, are what was sent -/
structure Sent (bs : List (List UInt8)) (n : Nat) (g : Int) (L : List Held) (acc : List (List UInt8)) : Prop where
  keeps : Keeps 20 g L
  le : g ≤ n
  held : ∀ e ∈ L, e.1 ≤ n ∧ ∃ h : (e.1 - 1).toNat < bs.length, e.2 = shB bs[(e.1 - 1).toNat]
  len : (acc.length : Int) = g
  told : ∀ (k : Nat) (h : k < acc.length), ∃ h2 : k < bs.length, acc[k] = shB bs[k]
theorem Sent.take {bs : List (List UInt8)} {n : Nat} {g : Int} {L : List Held} {acc : List (List UInt8)} (h : Sent bs n g L acc) (hn : n ≤ bs.length) {k : Nat} (hk : k < n) (hm : mayR 20 g L ((k : Int) + 1)) : ∃ (t : List (List UInt8)) (L' : List Held),
    drainR (L.length + 1) g (L ++ [((k : Int) + 1, shB (bs[k]'(by omega)))]) = (t, g + (t.length : Int), L') ∧ Sent bs n (g + (t.length : Int)) L' (acc ++ t) ∧ (g = k → t ≠ []) := by
  obtain ⟨t, L', h1, h2, h3, h4⟩ := h.keeps.take (shB (bs[k]'(by omega))) hm
  have hall : ∀ e ∈ L ++ [((k : Int) + 1, shB (bs[k]'(by omega)))], e.1 ≤ n ∧ ∃ h : (e.1 - 1).toNat < bs.length, e.2 = shB bs[(e.1 - 1).toNat] := fun e he => by
    rcases List.mem_append.1 he with he | he
    · exact h.held e he
    · simp only [List.mem_singleton] at he
      subst he
      refine ⟨by show (k : Int) + 1 ≤ n; omega, by show ((k : Int) + 1 - 1).toNat < _; omega, ?_⟩
      show shB _ = shB bs[((k : Int) + 1 - 1).toNat]
      congr 2
      omega
  have hp := h.keeps.pos
  have htold : ∀ (i : Nat) (hi : i < t.length), g + 1 + (i : Int) ≤ n ∧ ∃ h2 : acc.length + i < bs.length, t[i] = shB bs[acc.length + i] := fun i hi => by
    obtain ⟨q1, q2, q3⟩ := hall _ (h3 i hi)
    simp only at q1 q2 q3
    have e : (g + 1 + (i : Int) - 1).toNat = acc.length + i := by have := h.len; omega
    refine ⟨q1, by omega, ?_⟩
    rw [q3]
    congr 2
  refine ⟨t, L', h1, ⟨h2, ?_, fun e he => hall e ((h4 e).1 he).1, ?_, ?_⟩, ?_⟩
  · by_cases ht : t.length = 0
    · have := h.le; omega
    · have := (htold (t.length - 1) (by omega)).1; omega
  · rw [List.length_append]; have := h.len; omega
  · intro j hj
    by_cases hja : j < acc.length
    · obtain ⟨q1, q2⟩ := h.told j hja
      exact ⟨q1, by rw [List.getElem_append_left hja]; exact q2⟩
    · rw [List.length_append] at hj
      obtain ⟨_, q1, q2⟩ := htold (j - acc.length) (by omega)
      have e : acc.length + (j - acc.length) = j := by omega
      refine ⟨by omega, ?_⟩
      rw [List.getElem_append_right (by omega), q2]
      congr 2
  · intro hg
    subst hg
    have := drain_first (n := L.length) (b := shB (bs[k]'(by omega))) hm.1
    rw [h1] at this
    exact this
theorem Sent.no {bs : List (List UInt8)} {n : Nat} {g : Int} {L : List Held} {acc : List (List UInt8)} (h : Sent bs n g L acc) (hn : n ≤ 20) {k : Nat} (hk : k < n) (hg : g = k) : mayR 20 g L ((k : Int) + 1) := by
  refine ⟨look_none.2 fun hm => ?_, by omega, by omega⟩
  obtain ⟨e, he, h1⟩ := List.mem_map.1 hm
  have := h.keeps.rng e he
  omega
def pS (bs : List (List UInt8)) (fl fo : Fl) (o : List Int) (n i : Nat) (g : Int) (L : List Held) (acc : List (List UInt8)) : St :=
  (⟨(upd (upd (upd (upd (upd (upd Sx.e0 9 (.v (.int .i64 (i : Int)))) 8 (.s 8 0 acc.length)) 7 (.v (.int .i64 (n : Int)))) 6 (.p 6 0)) 1 (.v (.sl fo 1 (rowsBy cInt o)))) 0 (.v (.sl fl 1 (rowsBy cBs bs)))), (upd (upd (upd Sx.h0 10386 (some (rM L))) 8 (some (.arr false 30 1 (rowsBy cBs acc)))) 6 (some (rV 20 g 10386)))⟩ : St)
def pS2 (bs : List (List UInt8)) (fl : Fl) (n i : Nat) (g : Int) (L : List Held) (acc : List (List UInt8)) : St :=
  (⟨(upd (upd (upd (upd (upd Sx.e0 13 (.v (.int .i64 (i : Int)))) 8 (.s 8 0 acc.length)) 7 (.v (.int .i64 (n : Int)))) 6 (.p 6 0)) 0 (.v (.sl fl 1 (rowsBy cBs bs)))), (upd (upd (upd Sx.h0 10386 (some (rM L))) 8 (some (.arr false 30 1 (rowsBy cBs acc)))) 6 (some (rV 20 g 10386)))⟩ : St)
/-- one round of the second loop -/
theorem pairs_b2 (bs : List (List UInt8)) (fl : Fl) (n k : Nat) (g : Int) (L : List Held) (acc : List (List UInt8)) (hS : Sent bs n g L acc) (hn : n ≤ bs.length) (hn2 : n ≤ 20) (hk : k < n) (hg : (k : Int) ≤ g) :
    ∃ g' L' acc', Sent bs n g' L' acc' ∧ (k : Int) + 1 ≤ g' ∧ E (cs F) 0 f4_b2 (pS2 bs fl n k g L acc) = some (.norm, pS2 bs fl n (k + 1) g' L' acc') := by
  have hkb : k < bs.length := by omega
  have hp := hS.keeps.pos
  have hle := hS.le
  have hlen := hS.keeps.len
  have hal := hS.len
  have r1 : (rowsBy cBs bs)[k]? = some [.sl .shared 1 (rowsBy cByte bs[k])] := rowsBy_get cBs hkb
  have d1 : decide ((k : Int) < (n : Int)) = true := dec_lt hk
  have k0 : (0 : Int) ≤ (k : Int) := by omega
  have hw1 : IntKind.i64.wrap ((k : Int) + 1) = (k : Int) + 1 := wrap64 (by omega) (by omega)
  have cs1 := c_short bs[k]
  have hR : RecvAt (upd (upd (upd (upd (upd (upd h0 10386 (some (rM L))) 8 (some (.arr false 30 1 (rowsBy cBs acc)))) 6 (some (rV 20 g 10386))) 79 (some (.arr false 5 1 []))) 79 (some .dead)) 85 (some (.arr false 5 1 (rowsBy cByte (shB bs[k]))))) 3000000 6 10386 20 g L :=
    ⟨((((((LowH.h0 _).upd (by decide) rM_mask).upd (by decide) arr_mask).upd (by decide) (rV_mask (by decide))).upd (by decide) arr_mask).upd (by decide) fun _ _ _ => rfl).upd (by decide) arr_mask, by decide, by decide, by decide, rfl, rfl⟩
  have hb60 := shB_len bs[k]
  have b1 : (shB bs[k]).length * 1 ≤ 140737488355328 := by omega
  have e2 : ((k : Int) + 1) = ((k + 1 : Nat) : Int) := by omega
  have b3 : acc.length * 24 ≤ 140737488355328 := by omega
  by_cases hm : mayR 20 g L ((k : Int) + 1)
  · obtain ⟨t, L', hd0, hS', hne⟩ := hS.take hn hk hm
    have t1 := take_to (lo := 3000000) (by decide) hR hp (by omega) ⟨by decide, by decide⟩ (by omega) (seq := (k : Int) + 1) (shB bs[k]) (by omega) hm (.s 85 0 (shB bs[k]).length) (.inr ⟨85, false, rfl, by decide, rfl⟩) hd0
    have hle' := hS'.le
    have b4 : (acc.length + t.length) * 24 ≤ 140737488355328 := by have := hS'.len; rw [List.length_append] at this; omega
    refine ⟨g + (t.length : Int), L', acc ++ t, hS', ?_, ?_⟩
    · by_cases he : g = k
      · have := hne he
        have : 0 < t.length := List.length_pos_iff.2 this
        omega
      · omega
    · simp only [reH, rV, rM] at t1
      by_cases hte : t = []
      · subst hte
        have e1 : g + (([] : List (List UInt8)).length : Int) = g := by simp
        simp only [e1] at t1 ⊢
        simp only [toldL, toldH, if_true] at t1
        simp only [f4_b2, pS2, rV, rM, r1, d1, k0, hw1, cs1, t1, b1, b3, Nat.reduceLT, renP, Nat.zero_add, Nat.add_zero, List.append_nil, List.nil_append, e2.symm, go_sem, reduceIte, reduceCtorEq, Nat.reduceEqDiff, Nat.reduceAdd, Nat.reduceMul, Nat.reduceLeDiff, Nat.reduceSub, Nat.reduceBEq, List.length_cons, List.length_nil, Int.reduceLT, Int.reduceLE, Int.reduceGT, Int.reduceGE, Int.reduceAdd, Int.reduceSub, Int.reduceMul, Int.reduceNeg, Int.reduceToNat, Int.reduceEq, Int.reduceNe, Int.cast_ofNat_Int, ne_eq, not_true_eq_false, not_false_eq_true, Nat.testBit, Nat.reduceShiftRight, Nat.reduceAnd, Nat.reduceBNe]
      · simp only [toldL, toldH, if_neg hte] at t1
        simp only [f4_b2, pS2, rV, rM, r1, d1, k0, hw1, cs1, t1, b1, b4, Nat.reduceLT, renP, Nat.zero_add, Nat.add_zero, List.nil_append, e2.symm, List.length_append, go_sem, reduceIte, reduceCtorEq, Nat.reduceEqDiff, Nat.reduceAdd, Nat.reduceMul, Nat.reduceLeDiff, Nat.reduceSub, Nat.reduceBEq, List.length_cons, List.length_nil, Int.reduceLT, Int.reduceLE, Int.reduceGT, Int.reduceGE, Int.reduceAdd, Int.reduceSub, Int.reduceMul, Int.reduceNeg, Int.reduceToNat, Int.reduceEq, Int.reduceNe, Int.cast_ofNat_Int, ne_eq, not_true_eq_false, not_false_eq_true, Nat.testBit, Nat.reduceShiftRight, Nat.reduceAnd, Nat.reduceBNe]
  · have t1 := take_no (lo := 3000000) (by decide) hR hp (by omega) ⟨by decide, by decide⟩ (seq := (k : Int) + 1) (.s 85 0 (shB bs[k]).length) rfl hm
    simp only [toldL, if_true, rV, rM] at t1
    refine ⟨g, L, acc, hS, ?_, ?_⟩
    · by_cases he : g = k
      · exact absurd (hS.no hn2 hk he) hm
      · omega
    · simp only [f4_b2, pS2, rV, rM, r1, d1, k0, hw1, cs1, t1, b1, b3, Nat.reduceLT, renP, Nat.zero_add, Nat.add_zero, List.append_nil, List.nil_append, e2.symm, go_sem, reduceIte, reduceCtorEq, Nat.reduceEqDiff, Nat.reduceAdd, Nat.reduceMul, Nat.reduceLeDiff, Nat.reduceSub, Nat.reduceBEq, List.length_cons, List.length_nil, Int.reduceLT, Int.reduceLE, Int.reduceGT, Int.reduceGE, Int.reduceAdd, Int.reduceSub, Int.reduceMul, Int.reduceNeg, Int.reduceToNat, Int.reduceEq, Int.reduceNe, Int.cast_ofNat_Int, ne_eq, not_true_eq_false, not_false_eq_true, Nat.testBit, Nat.reduceShiftRight, Nat.reduceAnd, Nat.reduceBNe]
/-- one round of the first loop -/
theorem pairs_b1 (bs : List (List UInt8)) (fl fo : Fl) (o : List Int) (n i : Nat) (g : Int) (L : List Held) (acc : List (List UInt8)) (hS : Sent bs n g L acc) (hn : n ≤ bs.length) (hn2 : n ≤ 20) (hn0 : 0 < n) (hi : i < o.length) (hi2 : i < 150) :
    ∃ g' L' acc', Sent bs n g' L' acc' ∧ E (cs F) 0 f4_b1 (pS bs fl fo o n i g L acc) = some (.norm, pS bs fl fo o n (i + 1) g' L' acc') := by
  have hnz : ¬ (n : Int) = 0 := by omega
  obtain ⟨q, hq⟩ : ∃ q, q = (o[i]).tmod (n : Int) := ⟨_, rfl⟩
  have hq1 : -(n : Int) < q ∧ q < n := by
    have h1 := Int.tmod_lt_of_pos o[i] (show (0 : Int) < (n : Int) by omega)
    have h2 := Int.lt_tmod_of_pos o[i] (show (0 : Int) < (n : Int) by omega)
    omega
  obtain ⟨k, hkq⟩ : ∃ k : Nat, (k : Int) = if q < 0 then 0 - q else q := ⟨(if q < 0 then 0 - q else q).toNat, by split <;> omega⟩
  have hk : k < n := by split at hkq <;> omega
  have hkb : k < bs.length := by omega
  have ro : (rowsBy cInt o)[i]? = some [.int .i64 o[i]] := rowsBy_get cInt hi
  have do1 := dec_lt hi
  have do2 : decide ((i : Int) < 150) = true := by simp; omega
  have do3 : decide ((n : Int) > 0) = true := by simp; omega
  have qo1 : (i : Int) < (o.length : Int) := by omega
  have i0 : (0 : Int) ≤ (i : Int) := by omega
  have hwi : IntKind.i64.wrap ((i : Int) + 1) = ((i + 1 : Nat) : Int) := by rw [wrap64 (by omega) (by omega)]; omega
  have qq : (o[i]).tmod (n : Int) = q := hq.symm
  have hp := hS.keeps.pos
  have hle := hS.le
  have hlen := hS.keeps.len
  have hal := hS.len
  have r1 : (rowsBy cBs bs)[k]? = some [.sl .shared 1 (rowsBy cByte bs[k])] := rowsBy_get cBs hkb
  have k0 : (0 : Int) ≤ (k : Int) := by omega
  have hw1 : IntKind.i64.wrap ((k : Int) + 1) = (k : Int) + 1 := wrap64 (by omega) (by omega)
  have cs1 := c_short bs[k]
  have hR : RecvAt (upd (upd (upd (upd (upd (upd h0 10386 (some (rM L))) 8 (some (.arr false 30 1 (rowsBy cBs acc)))) 6 (some (rV 20 g 10386))) 57 (some (.arr false 5 1 []))) 57 (some .dead)) 63 (some (.arr false 5 1 (rowsBy cByte (shB bs[k]))))) 2000000 6 10386 20 g L :=
    ⟨((((((LowH.h0 _).upd (by decide) rM_mask).upd (by decide) arr_mask).upd (by decide) (rV_mask (by decide))).upd (by decide) arr_mask).upd (by decide) fun _ _ _ => rfl).upd (by decide) arr_mask, by decide, by decide, by decide, rfl, rfl⟩
  have hb60 := shB_len bs[k]
  have b1 : (shB bs[k]).length * 1 ≤ 140737488355328 := by omega
  have e2 : ((k : Int) + 1) = ((k + 1 : Nat) : Int) := by omega
  have b3 : acc.length * 24 ≤ 140737488355328 := by omega
  by_cases hm : mayR 20 g L ((k : Int) + 1)
  · obtain ⟨t, L', hd0, hS', hne⟩ := hS.take hn hk hm
    have t1 := take_to (lo := 2000000) (by decide) hR hp (by omega) ⟨by decide, by decide⟩ (by omega) (seq := (k : Int) + 1) (shB bs[k]) (by omega) hm (.s 63 0 (shB bs[k]).length) (.inr ⟨63, false, rfl, by decide, rfl⟩) hd0
    have hle' := hS'.le
    have b4 : (acc.length + t.length) * 24 ≤ 140737488355328 := by have := hS'.len; rw [List.length_append] at this; omega
    refine ⟨g + (t.length : Int), L', acc ++ t, hS', ?_⟩
    · simp only [reH, rV, rM] at t1
      by_cases hte : t = []
      · subst hte
        have e1 : g + (([] : List (List UInt8)).length : Int) = g := by simp
        simp only [e1] at t1 ⊢
        simp only [toldL, toldH, if_true] at t1
        by_cases hq0 : q < 0
        · have hqk : IntKind.i64.wrap (0 - q) = (k : Int) := by rw [if_pos hq0] at hkq; rw [wrap64 (by omega) (by omega), hkq]
          simp only [f4_b1, pS, rV, rM, r1, ro, do1, do2, do3, qo1, i0, hwi, qq, hnz, k0, hw1, cs1, t1, b1, b3, Nat.reduceLT, renP, Nat.zero_add, Nat.add_zero, List.append_nil, List.nil_append, decide_true, decide_false, hq0, hqk, go_sem, reduceIte, reduceCtorEq, Nat.reduceEqDiff, Nat.reduceAdd, Nat.reduceMul, Nat.reduceLeDiff, Nat.reduceSub, Nat.reduceBEq, List.length_cons, List.length_nil, Int.reduceLT, Int.reduceLE, Int.reduceGT, Int.reduceGE, Int.reduceAdd, Int.reduceSub, Int.reduceMul, Int.reduceNeg, Int.reduceToNat, Int.reduceEq, Int.reduceNe, Int.cast_ofNat_Int, ne_eq, not_true_eq_false, not_false_eq_true, Nat.testBit, Nat.reduceShiftRight, Nat.reduceAnd, Nat.reduceBNe]
        · have hqk : q = (k : Int) := by rw [if_neg hq0] at hkq; omega
          have hq0' : ¬ (k : Int) < 0 := by omega
          simp only [f4_b1, pS, rV, rM, r1, ro, do1, do2, do3, qo1, i0, hwi, qq, hnz, k0, hw1, cs1, t1, b1, b3, Nat.reduceLT, renP, Nat.zero_add, Nat.add_zero, List.append_nil, List.nil_append, decide_true, decide_false, hqk, hq0', go_sem, reduceIte, reduceCtorEq, Nat.reduceEqDiff, Nat.reduceAdd, Nat.reduceMul, Nat.reduceLeDiff, Nat.reduceSub, Nat.reduceBEq, List.length_cons, List.length_nil, Int.reduceLT, Int.reduceLE, Int.reduceGT, Int.reduceGE, Int.reduceAdd, Int.reduceSub, Int.reduceMul, Int.reduceNeg, Int.reduceToNat, Int.reduceEq, Int.reduceNe, Int.cast_ofNat_Int, ne_eq, not_true_eq_false, not_false_eq_true, Nat.testBit, Nat.reduceShiftRight, Nat.reduceAnd, Nat.reduceBNe]
      · simp only [toldL, toldH, if_neg hte] at t1
        by_cases hq0 : q < 0
        · have hqk : IntKind.i64.wrap (0 - q) = (k : Int) := by rw [if_pos hq0] at hkq; rw [wrap64 (by omega) (by omega), hkq]
          simp only [f4_b1, pS, rV, rM, r1, ro, do1, do2, do3, qo1, i0, hwi, qq, hnz, k0, hw1, cs1, t1, b1, b4, Nat.reduceLT, renP, Nat.zero_add, Nat.add_zero, List.nil_append, List.length_append, decide_true, decide_false, hq0, hqk, go_sem, reduceIte, reduceCtorEq, Nat.reduceEqDiff, Nat.reduceAdd, Nat.reduceMul, Nat.reduceLeDiff, Nat.reduceSub, Nat.reduceBEq, List.length_cons, List.length_nil, Int.reduceLT, Int.reduceLE, Int.reduceGT, Int.reduceGE, Int.reduceAdd, Int.reduceSub, Int.reduceMul, Int.reduceNeg, Int.reduceToNat, Int.reduceEq, Int.reduceNe, Int.cast_ofNat_Int, ne_eq, not_true_eq_false, not_false_eq_true, Nat.testBit, Nat.reduceShiftRight, Nat.reduceAnd, Nat.reduceBNe]
        · have hqk : q = (k : Int) := by rw [if_neg hq0] at hkq; omega
          have hq0' : ¬ (k : Int) < 0 := by omega
          simp only [f4_b1, pS, rV, rM, r1, ro, do1, do2, do3, qo1, i0, hwi, qq, hnz, k0, hw1, cs1, t1, b1, b4, Nat.reduceLT, renP, Nat.zero_add, Nat.add_zero, List.nil_append, List.length_append, decide_true, decide_false, hqk, hq0', go_sem, reduceIte, reduceCtorEq, Nat.reduceEqDiff, Nat.reduceAdd, Nat.reduceMul, Nat.reduceLeDiff, Nat.reduceSub, Nat.reduceBEq, List.length_cons, List.length_nil, Int.reduceLT, Int.reduceLE, Int.reduceGT, Int.reduceGE, Int.reduceAdd, Int.reduceSub, Int.reduceMul, Int.reduceNeg, Int.reduceToNat, Int.reduceEq, Int.reduceNe, Int.cast_ofNat_Int, ne_eq, not_true_eq_false, not_false_eq_true, Nat.testBit, Nat.reduceShiftRight, Nat.reduceAnd, Nat.reduceBNe]
  · have t1 := take_no (lo := 2000000) (by decide) hR hp (by omega) ⟨by decide, by decide⟩ (seq := (k : Int) + 1) (.s 63 0 (shB bs[k]).length) rfl hm
    simp only [toldL, if_true, rV, rM] at t1
    refine ⟨g, L, acc, hS, ?_⟩
    · by_cases hq0 : q < 0
      · have hqk : IntKind.i64.wrap (0 - q) = (k : Int) := by rw [if_pos hq0] at hkq; rw [wrap64 (by omega) (by omega), hkq]
        simp only [f4_b1, pS, rV, rM, r1, ro, do1, do2, do3, qo1, i0, hwi, qq, hnz, k0, hw1, cs1, t1, b1, b3, Nat.reduceLT, renP, Nat.zero_add, Nat.add_zero, List.append_nil, List.nil_append, decide_true, decide_false, hq0, hqk, go_sem, reduceIte, reduceCtorEq, Nat.reduceEqDiff, Nat.reduceAdd, Nat.reduceMul, Nat.reduceLeDiff, Nat.reduceSub, Nat.reduceBEq, List.length_cons, List.length_nil, Int.reduceLT, Int.reduceLE, Int.reduceGT, Int.reduceGE, Int.reduceAdd, Int.reduceSub, Int.reduceMul, Int.reduceNeg, Int.reduceToNat, Int.reduceEq, Int.reduceNe, Int.cast_ofNat_Int, ne_eq, not_true_eq_false, not_false_eq_true, Nat.testBit, Nat.reduceShiftRight, Nat.reduceAnd, Nat.reduceBNe]
      · have hqk : q = (k : Int) := by rw [if_neg hq0] at hkq; omega
        have hq0' : ¬ (k : Int) < 0 := by omega
        simp only [f4_b1, pS, rV, rM, r1, ro, do1, do2, do3, qo1, i0, hwi, qq, hnz, k0, hw1, cs1, t1, b1, b3, Nat.reduceLT, renP, Nat.zero_add, Nat.add_zero, List.append_nil, List.nil_append, decide_true, decide_false, hqk, hq0', go_sem, reduceIte, reduceCtorEq, Nat.reduceEqDiff, Nat.reduceAdd, Nat.reduceMul, Nat.reduceLeDiff, Nat.reduceSub, Nat.reduceBEq, List.length_cons, List.length_nil, Int.reduceLT, Int.reduceLE, Int.reduceGT, Int.reduceGE, Int.reduceAdd, Int.reduceSub, Int.reduceMul, Int.reduceNeg, Int.reduceToNat, Int.reduceEq, Int.reduceNe, Int.cast_ofNat_Int, ne_eq, not_true_eq_false, not_false_eq_true, Nat.testBit, Nat.reduceShiftRight, Nat.reduceAnd, Nat.reduceBNe]
def pS0 (bs : List (List UInt8)) (fl : Fl) (n : Nat) (g : Int) (L : List Held) (acc : List (List UInt8)) : St :=
  (⟨(upd (upd (upd (upd Sx.e0 8 (.s 8 0 acc.length)) 7 (.v (.int .i64 (n : Int)))) 6 (.p 6 0)) 0 (.v (.sl fl 1 (rowsBy cBs bs)))), (upd (upd (upd Sx.h0 10386 (some (rM L))) 8 (some (.arr false 30 1 (rowsBy cBs acc)))) 6 (some (rV 20 g 10386)))⟩ : St)
theorem pairs_l1 (bs : List (List UInt8)) (fl fo : Fl) (o : List Int) (n : Nat) (hn : n ≤ bs.length) (hn2 : n ≤ 20) : ∀ (m i : Nat) (g : Int) (L : List Held) (acc : List (List UInt8)), min o.length 150 - i = m → Sent bs n g L acc →
    ∃ g' L' acc', Sent bs n g' L' acc' ∧ E (cs F) 0 f4_l1 (pS bs fl fo o n i g L acc) = some (.exit 0, pS0 bs fl n g' L' acc') := by
  intro m
  induction m with
  | zero =>
    intro i g L acc hm hS
    refine ⟨g, L, acc, hS, ?_⟩
    rw [f4_l1_eq]
    by_cases hi : i < o.length
    · have d1 := dec_lt hi
      have d2 : decide ((i : Int) < 150) = false := by simp; omega
      simp only [f4_b1, pS, pS0, d1, d2, rV, rM, Nat.reduceLT, decide_true, decide_false, go_sem, reduceIte, reduceCtorEq, Nat.reduceEqDiff, Nat.reduceAdd, Nat.reduceMul, Nat.reduceLeDiff, Nat.reduceSub, Nat.reduceBEq, List.length_cons, List.length_nil, Int.reduceLT, Int.reduceLE, Int.reduceGT, Int.reduceGE, Int.reduceAdd, Int.reduceSub, Int.reduceMul, Int.reduceNeg, Int.reduceToNat, Int.reduceEq, Int.reduceNe, Int.cast_ofNat_Int, ne_eq, not_true_eq_false, not_false_eq_true, Nat.testBit, Nat.reduceShiftRight, Nat.reduceAnd, Nat.reduceBNe]
    · have d1 := dec_ge (i := i) (n := o.length) (by omega)
      simp only [f4_b1, pS, pS0, d1, rV, rM, Nat.reduceLT, decide_true, decide_false, go_sem, reduceIte, reduceCtorEq, Nat.reduceEqDiff, Nat.reduceAdd, Nat.reduceMul, Nat.reduceLeDiff, Nat.reduceSub, Nat.reduceBEq, List.length_cons, List.length_nil, Int.reduceLT, Int.reduceLE, Int.reduceGT, Int.reduceGE, Int.reduceAdd, Int.reduceSub, Int.reduceMul, Int.reduceNeg, Int.reduceToNat, Int.reduceEq, Int.reduceNe, Int.cast_ofNat_Int, ne_eq, not_true_eq_false, not_false_eq_true, Nat.testBit, Nat.reduceShiftRight, Nat.reduceAnd, Nat.reduceBNe]
  | succ m ih =>
    intro i g L acc hm hS
    by_cases h0 : n = 0
    · refine ⟨g, L, acc, hS, ?_⟩
      rw [f4_l1_eq]
      have hi : i < o.length := by omega
      have d1 := dec_lt hi
      have d2 : decide ((i : Int) < 150) = true := by simp; omega
      have d3 : decide ((n : Int) > 0) = false := by simp; omega
      simp only [f4_b1, pS, pS0, d1, d2, d3, rV, rM, Nat.reduceLT, decide_true, decide_false, go_sem, reduceIte, reduceCtorEq, Nat.reduceEqDiff, Nat.reduceAdd, Nat.reduceMul, Nat.reduceLeDiff, Nat.reduceSub, Nat.reduceBEq, List.length_cons, List.length_nil, Int.reduceLT, Int.reduceLE, Int.reduceGT, Int.reduceGE, Int.reduceAdd, Int.reduceSub, Int.reduceMul, Int.reduceNeg, Int.reduceToNat, Int.reduceEq, Int.reduceNe, Int.cast_ofNat_Int, ne_eq, not_true_eq_false, not_false_eq_true, Nat.testBit, Nat.reduceShiftRight, Nat.reduceAnd, Nat.reduceBNe]
    · obtain ⟨g', L', acc', h1, h2⟩ := pairs_b1 bs fl fo o n i g L acc hS hn hn2 (by omega) (by omega) (by omega)
      obtain ⟨g2, L2, acc2, h3, h4⟩ := ih (i + 1) g' L' acc' (by omega) h1
      refine ⟨g2, L2, acc2, h3, ?_⟩
      rw [f4_l1_eq, h2]
      exact h4
theorem pairs_l2 (bs : List (List UInt8)) (fl : Fl) (n : Nat) (hn : n ≤ bs.length) (hn2 : n ≤ 20) : ∀ (m k : Nat) (g : Int) (L : List Held) (acc : List (List UInt8)), n - k = m → k ≤ n → (k : Int) ≤ g → Sent bs n g L acc →
    ∃ acc', Sent bs n (n : Int) [] acc' ∧ E (cs F) 0 f4_l2 (pS2 bs fl n k g L acc) = some (.exit 2, pS0 bs fl n (n : Int) [] acc') := by
  intro m
  induction m with
  | zero =>
    intro k g L acc hm hk hg hS
    have hkn : k = n := by omega
    subst hkn
    have hgn : g = (k : Int) := by have := hS.le; omega
    subst hgn
    have hLn : L = [] := by
      cases L with
      | nil => rfl
      | cons e L =>
        have h1 := hS.keeps.rng e (by simp)
        have h2 := (hS.held e (by simp)).1
        omega
    subst hLn
    refine ⟨acc, hS, ?_⟩
    have d1 : decide ((k : Int) < (k : Int)) = false := by simp
    rw [f4_l2_eq]
    simp only [f4_b2, pS2, pS0, d1, rV, rM, Nat.reduceLT, decide_true, decide_false, go_sem, reduceIte, reduceCtorEq, Nat.reduceEqDiff, Nat.reduceAdd, Nat.reduceMul, Nat.reduceLeDiff, Nat.reduceSub, Nat.reduceBEq, List.length_cons, List.length_nil, Int.reduceLT, Int.reduceLE, Int.reduceGT, Int.reduceGE, Int.reduceAdd, Int.reduceSub, Int.reduceMul, Int.reduceNeg, Int.reduceToNat, Int.reduceEq, Int.reduceNe, Int.cast_ofNat_Int, ne_eq, not_true_eq_false, not_false_eq_true, Nat.testBit, Nat.reduceShiftRight, Nat.reduceAnd, Nat.reduceBNe]
  | succ m ih =>
    intro k g L acc hm hk hg hS
    obtain ⟨g', L', acc', h1, h2, h3⟩ := pairs_b2 bs fl n k g L acc hS hn hn2 (by omega) hg
    obtain ⟨acc2, h4, h5⟩ := ih (k + 1) g' L' acc' (by omega) (by omega) (by omega) h1
    refine ⟨acc2, h4, ?_⟩
    rw [f4_l2_eq, h3]
    exact h5
theorem pairs_l3 (bs : List (List UInt8)) (fl : Fl) (n : Nat) (acc : List (List UInt8)) (hn : n ≤ bs.length) (hn2 : n ≤ 20) (hl : acc.length = n) (ht : ∀ (k : Nat) (h : k < acc.length), ∃ h2 : k < bs.length, acc[k] = shB bs[k]) :
    E (cs F) 0 f4_l3 (⟨(upd (upd (upd (upd Sx.e0 16 (.v (.int .i64 0))) 8 (.s 8 0 n)) 7 (.v (.int .i64 (n : Int)))) 0 (.v (.sl fl 1 (rowsBy cBs bs)))), (upd Sx.h0 8 (some (.arr false 30 1 (rowsBy cBs acc))))⟩ : St) = some (.exit 4, ⟨Sx.e0, Sx.h0⟩) := by
  have e0 : (0 : Int) = ((0 : Nat) : Int) := rfl
  refine Eq.trans (congrArg (E (cs F) 0 f4_l3) ?_) (loop_to (b := f4_b3) (fun q => (⟨(upd (upd (upd (upd Sx.e0 16 (.v (.int .i64 (q : Int)))) 8 (.s 8 0 n)) 7 (.v (.int .i64 (n : Int)))) 0 (.v (.sl fl 1 (rowsBy cBs bs)))), (upd Sx.h0 8 (some (.arr false 30 1 (rowsBy cBs acc))))⟩ : St)) n ?_ ?_ (by simp))
  · rw [← e0]
  · intro q hq
    obtain ⟨h2, h3⟩ := ht q (by omega)
    have d1 : decide ((q : Int) < (n : Int)) = true := dec_lt hq
    have q1 : (q : Int) < (n : Int) := by omega
    have q0 : (0 : Int) ≤ (q : Int) := by omega
    have hw := wrap_succ (i := q) (n := n) hq (by omega)
    have r1 : (rowsBy cBs acc)[q]? = some [.sl .shared 1 (rowsBy cByte (shB bs[q]))] := by rw [rowsBy_get cBs (by omega), h3]; rfl
    have r2 : (rowsBy cBs bs)[q]? = some [.sl .shared 1 (rowsBy cByte bs[q])] := rowsBy_get cBs h2
    have cs1 := c_short bs[q]
    simp only [f4_b3, d1, q1, q0, hw, r1, r2, cs1, Nat.reduceLT, decide_false, decide_true, beq_rfl, Bool.not_true, go_sem, reduceIte, reduceCtorEq, Nat.reduceEqDiff, Nat.reduceAdd, Nat.reduceMul, Nat.reduceLeDiff, Nat.reduceSub, Nat.reduceBEq, List.length_cons, List.length_nil, Int.reduceLT, Int.reduceLE, Int.reduceGT, Int.reduceGE, Int.reduceAdd, Int.reduceSub, Int.reduceMul, Int.reduceNeg, Int.reduceToNat, Int.reduceEq, Int.reduceNe, Int.cast_ofNat_Int, ne_eq, not_true_eq_false, not_false_eq_true, Nat.testBit, Nat.reduceShiftRight, Nat.reduceAnd, Nat.reduceBNe]
  · have d1 : decide ((n : Int) < (n : Int)) = false := by simp
    simp only [f4_b3, d1, Nat.reduceLT, go_sem, reduceIte, reduceCtorEq, Nat.reduceEqDiff, Nat.reduceAdd, Nat.reduceMul, Nat.reduceLeDiff, Nat.reduceSub, Nat.reduceBEq, List.length_cons, List.length_nil, Int.reduceLT, Int.reduceLE, Int.reduceGT, Int.reduceGE, Int.reduceAdd, Int.reduceSub, Int.reduceMul, Int.reduceNeg, Int.reduceToNat, Int.reduceEq, Int.reduceNe, Int.cast_ofNat_Int, ne_eq, not_true_eq_false, not_false_eq_true, Nat.testBit, Nat.reduceShiftRight, Nat.reduceAnd, Nat.reduceBNe]
theorem t_pairs (fl fo : Fl) (bs : List (List UInt8)) (o : List Int) : call F 4 [.sl fl 1 (rowsBy cBs bs), .sl fo 1 (rowsBy cInt o)] = some (.bool true) := by
  obtain ⟨n, hn⟩ : ∃ n, n = min bs.length 20 := ⟨_, rfl⟩
  have hn1 : n ≤ bs.length := by omega
  have hn2 : n ≤ 20 := by omega
  have hmin : (if (20 : Int) < (bs.length : Int) then (20 : Int) else (bs.length : Int)) = (n : Int) := by split <;> omega
  have w20 : winR 20 = 20 := rfl
  have hS0 : Sent bs n 0 [] [] := ⟨Keeps.new ⟨by decide, by decide⟩, by omega, by simp, rfl, fun k h => by simp at h⟩
  obtain ⟨g, L, acc, h1, h2⟩ := pairs_l1 bs fl fo o n hn1 hn2 _ 0 0 [] [] rfl hS0
  obtain ⟨acc', h3, h4⟩ := pairs_l2 bs fl n hn1 hn2 _ 0 g L acc rfl (by omega) (by have := h1.keeps.pos; omega) h1
  have hal : acc'.length = n := by have := h3.len; omega
  have h5 := pairs_l3 bs fl n acc' hn1 hn2 hal h3.told
  have e0 : entsR [] = [] := rfl
  have hR : RecvAt (upd (upd (upd h0 10386 (some (.map false false false (entsR [])))) 8 (some (.arr false 30 1 (rowsBy cBs acc')))) 6 (some (.var false [.v (.int .i64 20), .v (.int .i64 (n : Int)), .m 10386]))) 4000000 6 10386 20 (n : Int) [] :=
    ⟨(((LowH.h0 _).upd (by decide) rM_mask).upd (by decide) arr_mask).upd (by decide) (rV_mask (by decide)), by decide, by decide, by decide, rfl, rfl⟩
  have hd := held_i hR (by decide) List.nodup_nil (fun x hx => by simp at hx)
  simp only [pS, pS2, pS0, rV, rM, e0, nat0, hal, List.length_nil, rowsBy] at h2 h4 h5 hd
  rw [call_code F (show F 4 = some (.code f4) from rfl)]
  simp only [f4, t_shown, new_i _ _ (LowH.h0 _), w20, hmin, h2, h4, h5, hd, got_c, Nat.reduceLT, renP, decide_true, decide_false, go_sem, reduceIte, reduceCtorEq, Nat.reduceEqDiff, Nat.reduceAdd, Nat.reduceMul, Nat.reduceLeDiff, Nat.reduceSub, Nat.reduceBEq, List.length_cons, List.length_nil, Int.reduceLT, Int.reduceLE, Int.reduceGT, Int.reduceGE, Int.reduceAdd, Int.reduceSub, Int.reduceMul, Int.reduceNeg, Int.reduceToNat, Int.reduceEq, Int.reduceNe, Int.cast_ofNat_Int, ne_eq, not_true_eq_false, not_false_eq_true, Nat.testBit, Nat.reduceShiftRight, Nat.reduceAnd, Nat.reduceBNe]
end Go.Proofs.Ytkliiknolnodjaa.Sx
namespace Go.Proofs.Ytkliiknolnodjaa.Sx
open Go Go.RowKit Go.ChangeShapes Go.WideShapes Go.ChangeAt
set_option maxRecDepth 100000
theorem agg_of {t : TypeId} {n : Nat} {a : TV} (hagg : isAggB Try.prog t = true) (h : ArgShape Try.prog n t a) : ∃ ts, a = .agg ts ∧ Shape Try.prog n t ts := by
  unfold ArgShape at h; rw [if_pos hagg] at h; exact h
theorem plain_of {t : TypeId} {n : Nat} {a : TV} (hagg : isAggB Try.prog t = false) (h : ArgShape Try.prog n t a) : Shape Try.prog n t [a] := by
  unfold ArgShape at h; rw [if_neg (by rw [hagg]; simp)] at h; exact h
theorem own : ownKnob Try.prog.godebug = none := by kernel_rfl
theorem laidOut : laidOutB Try.prog = true := by kernel_rfl
/-- rows that are each of a form are a list's -/
theorem rows_list {α : Type} {c : α → List TV} {S : List TV → Prop} {Q : α → Prop} (h : ∀ ts, S ts → ∃ x, ts = c x ∧ Q x) : ∀ {rows : List (List TV)}, (∀ r ∈ rows, S r) → ∃ l : List α, rows = rowsBy c l ∧ ∀ x ∈ l, Q x
  | [], _ => ⟨[], rfl, by simp⟩
  | r :: rows, hr => by
    obtain ⟨x, rfl, hx⟩ := h r (hr r (by simp))
    obtain ⟨l, rfl, hl⟩ := rows_list h (rows := rows) fun q hq => hr q (by simp [hq])
    refine ⟨x :: l, rfl, fun y hy => ?_⟩
    rcases List.mem_cons.1 hy with rfl | hy
    · exact hx
    · exact hl y hy
theorem shInt {n : Nat} {ts : List TV} (h : Shape Try.prog (n + 1) 3 ts) : ∃ a, ts = [.int .i64 a] ∧ IntKind.i64.has a := by
  unfold Shape at h; rw [Try.underlying3] at h; exact h
theorem shU8 {n : Nat} {ts : List TV} (h : Shape Try.prog (n + 1) 5 ts) : ∃ b : UInt8, ts = cByte b ∧ True := by
  unfold Shape at h; rw [Try.underlying5] at h
  obtain ⟨m, rfl, hm⟩ := h
  have hm : 0 ≤ m ∧ m ≤ 255 := hm
  refine ⟨UInt8.ofNat m.toNat, ?_, trivial⟩
  unfold cByte
  congr 2
  rw [UInt8.toNat_ofNat']
  omega
theorem shBytes {n : Nat} {ts : List TV} (h : Shape Try.prog (n + 2) 30 ts) : ∃ b : List UInt8, ts = [.sl .shared 1 (rowsBy cByte b)] := by
  unfold Shape at h; rw [Try.underlying30] at h
  obtain ⟨rows, rfl, _, hr⟩ := h
  obtain ⟨l, rfl, _⟩ := rows_list (c := cByte) (Q := fun _ => True) (fun ts h => shU8 h) hr
  exact ⟨l, rfl⟩
theorem shInts {n : Nat} {ts : List TV} (h : Shape Try.prog (n + 2) 22 ts) : ∃ b : List Int, ts = [.sl .shared 1 (rowsBy cInt b)] := by
  unfold Shape at h; rw [Try.underlying22] at h
  obtain ⟨rows, rfl, _, hr⟩ := h
  obtain ⟨l, rfl, _⟩ := rows_list (c := cInt) (Q := fun _ => True) (fun ts h => by obtain ⟨a, rfl, _⟩ := shInt h; exact ⟨a, rfl, trivial⟩) hr
  exact ⟨l, rfl⟩
theorem shBss {n : Nat} {ts : List TV} (h : Shape Try.prog (n + 3) 26 ts) : ∃ b : List (List UInt8), ts = [.sl .shared 1 (rowsBy cBs b)] := by
  unfold Shape at h; rw [Try.underlying26] at h
  obtain ⟨rows, rfl, _, hr⟩ := h
  obtain ⟨l, rfl, _⟩ := rows_list (c := cBs) (Q := fun _ => True) (fun ts h => by obtain ⟨a, rfl⟩ := shBytes h; exact ⟨a, rfl, trivial⟩) hr
  exact ⟨l, rfl⟩
theorem shOp {n : Nat} {ts : List TV} (h : Shape Try.prog (n + 3) 45 ts) : ∃ x, ts = cEv x := by
  unfold Shape at h; rw [Try.underlying45] at h
  obtain ⟨x, r, rfl, h1, y, r', rfl, h2, rfl⟩ := h
  obtain ⟨a, rfl, _⟩ := shInt h1
  obtain ⟨b, rfl⟩ := shBytes h2
  exact ⟨(a, b), rfl⟩
theorem shOps {n : Nat} {ts : List TV} (h : Shape Try.prog (n + 4) 37 ts) : ∃ b : List (Int × List UInt8), ts = [.sl .shared 2 (rowsBy cEv b)] := by
  unfold Shape at h; rw [Try.underlying37] at h
  obtain ⟨rows, rfl, _, hr⟩ := h
  obtain ⟨l, rfl, _⟩ := rows_list (c := cEv) (Q := fun _ => True) (fun ts h => by obtain ⟨x, rfl⟩ := shOp h; exact ⟨x, rfl, trivial⟩) hr
  exact ⟨l, rfl⟩
end Go.Proofs.Ytkliiknolnodjaa.Sx
