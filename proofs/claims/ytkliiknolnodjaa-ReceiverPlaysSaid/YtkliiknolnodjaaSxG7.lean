/- ReceiverPairs: what the law comes to. ReceiverBounds: what the law comes to. ReceiverCopies: what the law comes to. The reference's take, in its caller's memory. The reference's take: what is told, and all of it. The reference's take that may be. ReceiverPlays: the parts of a round. ReceiverPlays: a round. ReceiverPlays: what the law comes to. The forms of this seat's arguments. Operations whose numbers are in range. ReceiverPlays: all of it. -/
import Derived.Test.YtkliiknolnodjaaRows
import Derived.Test.YtkliiknolnodjaaSxG5
import Derived.Test.YtkliiknolnodjaaSxG6
set_option maxRecDepth 100000
set_option linter.unusedSimpArgs false
set_option linter.unusedVariables false
namespace Go.Proofs.Ytkliiknolnodjaa.Sx
open Go
/-- at most 60 bytes -/
def shB (b : List UInt8) : List UInt8 := b.take 60
theorem shB_len (b : List UInt8) : (shB b).length ≤ 60 := by unfold shB; simp; omega
theorem c_short (b : List UInt8) : call F 13 [.sl .shared 1 (rowsBy cByte b)] = some (.sl .shared 1 (rowsBy cByte (shB b))) := by
  by_cases h : 60 < b.length
  · have h1 : ((b.length : Int) > 60) = True := by simp; omega
    have h2 : (60 : Int) ≤ (b.length : Int) := by omega
    rw [call_code F (show F 13 = some (.code f13) from rfl)]
    simp only [f13, h1, h2, Nat.reduceLT, decide_true, shB, show Int.toNat 60 = 60 from rfl, List.drop_zero, go_sem, reduceIte, reduceCtorEq, Nat.reduceEqDiff, Nat.reduceAdd, Nat.reduceMul, Nat.reduceLeDiff, Nat.reduceSub, Nat.reduceBEq, List.length_cons, List.length_nil, Int.reduceLT, Int.reduceLE, Int.reduceGT, Int.reduceGE, Int.reduceAdd, Int.reduceSub, Int.reduceMul, Int.reduceNeg, Int.reduceToNat, Int.reduceEq, Int.reduceNe, Int.cast_ofNat_Int, ne_eq, not_true_eq_false, not_false_eq_true, Nat.testBit, Nat.reduceShiftRight, Nat.reduceAnd, Nat.reduceBNe]
  · have h1 : ((b.length : Int) > 60) = False := by simp; omega
    have h3 : shB b = b := List.take_of_length_le (by omega)
    rw [call_code F (show F 13 = some (.code f13) from rfl)]
    simp only [f13, h1, Nat.reduceLT, decide_false, h3, go_sem, reduceIte, reduceCtorEq, Nat.reduceEqDiff, Nat.reduceAdd, Nat.reduceMul, Nat.reduceLeDiff, Nat.reduceSub, Nat.reduceBEq, List.length_cons, List.length_nil, Int.reduceLT, Int.reduceLE, Int.reduceGT, Int.reduceGE, Int.reduceAdd, Int.reduceSub, Int.reduceMul, Int.reduceNeg, Int.reduceToNat, Int.reduceEq, Int.reduceNe, Int.cast_ofNat_Int, ne_eq, not_true_eq_false, not_false_eq_true, Nat.testBit, Nat.reduceShiftRight, Nat.reduceAnd, Nat.reduceBNe]
theorem drain_first {n : Nat} {got : Int} {L : List Held} {b : List UInt8} (hL : lookR (got + 1) L = none) : (drainR (n + 1) got (L ++ [(got + 1, b)])).1 ≠ [] := by
  have h : ∀ L : List Held, lookR (got + 1) L = none → lookR (got + 1) (L ++ [(got + 1, b)]) = some b := by
    intro L
    induction L with
    | nil => intro _; simp [lookR]
    | cons x L ih =>
      obtain ⟨k, c⟩ := x
      intro hn
      simp only [lookR] at hn
      split at hn
      · cases hn
      · rename_i hk
        simp only [List.cons_append, lookR, if_neg hk]
        exact ih hn
  simp only [drainR, h L hL]
  simp
/-- what is held, and what was told, are what was sent -/
structure Sent (bs : List (List UInt8)) (n : Nat) (g : Int) (L : List Held) (acc : List (List UInt8)) : Prop where
  keeps : Keeps 20 g L
  le : g ≤ n
  held : ∀ e ∈ L, e.1 ≤ n ∧ ∃ h : (e.1 - 1).toNat < bs.length, e.2 = shB bs[(e.1 - 1).toNat]
  len : (acc.length : Int) = g
  told : ∀ (k : Nat) (h : k < acc.length), ∃ h2 : k < bs.length, acc[k] = shB bs[k]
theorem Sent.take {bs : List (List UInt8)} {n : Nat} {g : Int} {L : List Held} {acc : List (List UInt8)} (h : Sent bs n g L acc) (hn : n ≤ bs.length) {k : Nat} (hk : k < n) (hm : mayR 20 g L ((k : Int) + 1)) : ∃ (t : List (List UInt8)) (L' : List Held),
    drainR (L.length + 1) g (L ++ [((k : Int) + 1, shB (bs[k]'(by omega)))]) = (t, g + (t.length : Int), L') ∧ Sent bs n (g + (t.length : Int)) L' (acc ++ t) ∧ (g = k → t ≠ []) := by
  obtain ⟨t, L', h1, h2, h3, h4⟩ := h.keeps.take (shB (bs[k]'(by omega))) hm
  have hall : ∀ e ∈ L ++ [((k : Int) + 1, shB (bs[k]'(by omega)))], e.1 ≤ n ∧ ∃ h : (e.1 - 1).toNat < bs.length, e.2 = shB bs[(e.1 - 1).toNat] := fun e he => by
    rcases List.mem_append.1 he with he | he
    · exact h.held e he
    · simp only [List.mem_singleton] at he
      subst he
      refine ⟨by show (k : Int) + 1 ≤ n; omega, by show ((k : Int) + 1 - 1).toNat < _; omega, ?_⟩
      show shB _ = shB bs[((k : Int) + 1 - 1).toNat]
      congr 2
      omega
  have hp := h.keeps.pos
  have htold : ∀ (i : Nat) (hi : i < t.length), g + 1 + (i : Int) ≤ n ∧ ∃ h2 : acc.length + i < bs.length, t[i] = shB bs[acc.length + i] := fun i hi => by
    obtain ⟨q1, q2, q3⟩ := hall _ (h3 i hi)
    simp only at q1 q2 q3
    have e : (g + 1 + (i : Int) - 1).toNat = acc.length + i := by have := h.len; omega
    refine ⟨q1, by omega, ?_⟩
    rw [q3]
    congr 2
  refine ⟨t, L', h1, ⟨h2, ?_, fun e he => hall e ((h4 e).1 he).1, ?_, ?_⟩, ?_⟩
  · by_cases ht : t.length = 0
    · have := h.le; omega
    · have := (htold (t.length - 1) (by omega)).1; omega
  · rw [List.length_append]; have := h.len; omega
  · intro j hj
    by_cases hja : j < acc.length
    · obtain ⟨q1, q2⟩ := h.told j hja
      exact ⟨q1, by rw [List.getElem_append_left hja]; exact q2⟩
    · rw [List.length_append] at hj
      obtain ⟨_, q1, q2⟩ := htold (j - acc.length) (by omega)
      have e : acc.length + (j - acc.length) = j := by omega
      refine ⟨by omega, ?_⟩
      rw [List.getElem_append_right (by omega), q2]
      congr 2
  · intro hg
    subst hg
    have := drain_first (n := L.length) (b := shB (bs[k]'(by omega))) hm.1
    rw [h1] at this
    exact this
theorem Sent.no {bs : List (List UInt8)} {n : Nat} {g : Int} {L : List Held} {acc : List (List UInt8)} (h : Sent bs n g L acc) (hn : n ≤ 20) {k : Nat} (hk : k < n) (hg : g = k) : mayR 20 g L ((k : Int) + 1) := by
  refine ⟨look_none.2 fun hm => ?_, by omega, by omega⟩
  obtain ⟨e, he, h1⟩ := List.mem_map.1 hm
  have := h.keeps.rng e he
  omega
def pS (bs : List (List UInt8)) (fl fo : Fl) (o : List Int) (n i : Nat) (g : Int) (L : List Held) (acc : List (List UInt8)) : St :=
  (⟨(upd (upd (upd (upd (upd (upd Sx.e0 9 (.v (.int .i64 (i : Int)))) 8 (.s 8 0 acc.length)) 7 (.v (.int .i64 (n : Int)))) 6 (.p 6 0)) 1 (.v (.sl fo 1 (rowsBy cInt o)))) 0 (.v (.sl fl 1 (rowsBy cBs bs)))), (upd (upd (upd Sx.h0 10386 (some (rM L))) 8 (some (.arr false 30 1 (rowsBy cBs acc)))) 6 (some (rV 20 g 10386)))⟩ : St)
def pS2 (bs : List (List UInt8)) (fl : Fl) (n i : Nat) (g : Int) (L : List Held) (acc : List (List UInt8)) : St :=
  (⟨(upd (upd (upd (upd (upd Sx.e0 13 (.v (.int .i64 (i : Int)))) 8 (.s 8 0 acc.length)) 7 (.v (.int .i64 (n : Int)))) 6 (.p 6 0)) 0 (.v (.sl fl 1 (rowsBy cBs bs)))), (upd (upd (upd Sx.h0 10386 (some (rM L))) 8 (some (.arr false 30 1 (rowsBy cBs acc)))) 6 (some (rV 20 g 10386)))⟩ : St)
/-- one round of the second loop -/
theorem pairs_b2 (bs : List (List UInt8)) (fl : Fl) (n k : Nat) (g : Int) (L : List Held) (acc : List (List UInt8)) (hS : Sent bs n g L acc) (hn : n ≤ bs.length) (hn2 : n ≤ 20) (hk : k < n) (hg : (k : Int) ≤ g) :
    ∃ g' L' acc', Sent bs n g' L' acc' ∧ (k : Int) + 1 ≤ g' ∧ E (cs F) 0 f4_b2 (pS2 bs fl n k g L acc) = some (.norm, pS2 bs fl n (k + 1) g' L' acc') := by
  have hkb : k < bs.length := by omega
  have hp := hS.keeps.pos
  have hle := hS.le
  have hlen := hS.keeps.len
  have hal := hS.len
  have r1 : (rowsBy cBs bs)[k]? = some [.sl .shared 1 (rowsBy cByte bs[k])] := rowsBy_get cBs hkb
  have d1 : decide ((k : Int) < (n : Int)) = true := dec_lt hk
  have k0 : (0 : Int) ≤ (k : Int) := by omega
  have hw1 : IntKind.i64.wrap ((k : Int) + 1) = (k : Int) + 1 := wrap64 (by omega) (by omega)
  have cs1 := c_short bs[k]
  have hR : RecvAt (upd (upd (upd (upd (upd (upd h0 10386 (some (rM L))) 8 (some (.arr false 30 1 (rowsBy cBs acc)))) 6 (some (rV 20 g 10386))) 79 (some (.arr false 5 1 []))) 79 (some .dead)) 85 (some (.arr false 5 1 (rowsBy cByte (shB bs[k]))))) 3000000 6 10386 20 g L :=
    ⟨((((((LowH.h0 _).upd (by decide) rM_mask).upd (by decide) arr_mask).upd (by decide) (rV_mask (by decide))).upd (by decide) arr_mask).upd (by decide) fun _ _ _ => rfl).upd (by decide) arr_mask, by decide, by decide, by decide, rfl, rfl⟩
  have hb60 := shB_len bs[k]
  have b1 : (shB bs[k]).length * 1 ≤ 140737488355328 := by omega
  have e2 : ((k : Int) + 1) = ((k + 1 : Nat) : Int) := by omega
  have b3 : acc.length * 24 ≤ 140737488355328 := by omega
  by_cases hm : mayR 20 g L ((k : Int) + 1)
  · obtain ⟨t, L', hd0, hS', hne⟩ := hS.take hn hk hm
    have t1 := take_to (lo := 3000000) (by decide) hR hp (by omega) ⟨by decide, by decide⟩ (by omega) (seq := (k : Int) + 1) (shB bs[k]) (by omega) hm (.s 85 0 (shB bs[k]).length) (.inr ⟨85, false, rfl, by decide, rfl⟩) hd0
    have hle' := hS'.le
    have b4 : (acc.length + t.length) * 24 ≤ 140737488355328 := by have := hS'.len; rw [List.length_append] at this; omega
    refine ⟨g + (t.length : Int), L', acc ++ t, hS', ?_, ?_⟩
    · by_cases he : g = k
      · have := hne he
        have : 0 < t.length := List.length_pos_iff.2 this
        omega
      · omega
    · simp only [reH, rV, rM] at t1
      by_cases hte : t = []
      · subst hte
        have e1 : g + (([] : List (List UInt8)).length : Int) = g := by simp
        simp only [e1] at t1 ⊢
        simp only [toldL, toldH, if_true] at t1
        simp only [f4_b2, pS2, rV, rM, r1, d1, k0, hw1, cs1, t1, b1, b3, Nat.reduceLT, renP, Nat.zero_add, Nat.add_zero, List.append_nil, List.nil_append, e2.symm, go_sem, reduceIte, reduceCtorEq, Nat.reduceEqDiff, Nat.reduceAdd, Nat.reduceMul, Nat.reduceLeDiff, Nat.reduceSub, Nat.reduceBEq, List.length_cons, List.length_nil, Int.reduceLT, Int.reduceLE, Int.reduceGT, Int.reduceGE, Int.reduceAdd, Int.reduceSub, Int.reduceMul, Int.reduceNeg, Int.reduceToNat, Int.reduceEq, Int.reduceNe, Int.cast_ofNat_Int, ne_eq, not_true_eq_false, not_false_eq_true, Nat.testBit, Nat.reduceShiftRight, Nat.reduceAnd, Nat.reduceBNe]
      · simp only [toldL, toldH, if_neg hte] at t1
        simp only [f4_b2, pS2, rV, rM, r1, d1, k0, hw1, cs1, t1, b1, b4, Nat.reduceLT, renP, Nat.zero_add, Nat.add_zero, List.nil_append, e2.symm, List.length_append, go_sem, reduceIte, reduceCtorEq, Nat.reduceEqDiff, Nat.reduceAdd, Nat.reduceMul, Nat.reduceLeDiff, Nat.reduceSub, Nat.reduceBEq, List.length_cons, List.length_nil, Int.reduceLT, Int.reduceLE, Int.reduceGT, Int.reduceGE, Int.reduceAdd, Int.reduceSub, Int.reduceMul, Int.reduceNeg, Int.reduceToNat, Int.reduceEq, Int.reduceNe, Int.cast_ofNat_Int, ne_eq, not_true_eq_false, not_false_eq_true, Nat.testBit, Nat.reduceShiftRight, Nat.reduceAnd, Nat.reduceBNe]
  · have t1 := take_no (lo := 3000000) (by decide) hR hp (by omega) ⟨by decide, by decide⟩ (seq := (k : Int) + 1) (.s 85 0 (shB bs[k]).length) rfl hm
    simp only [toldL, if_true, rV, rM] at t1
    refine ⟨g, L, acc, hS, ?_, ?_⟩
    · by_cases he : g = k
      · exact absurd (hS.no hn2 hk he) hm
      · omega
    · simp only [f4_b2, pS2, rV, rM, r1, d1, k0, hw1, cs1, t1, b1, b3, Nat.reduceLT, renP, Nat.zero_add, Nat.add_zero, List.append_nil, List.nil_append, e2.symm, go_sem, reduceIte, reduceCtorEq, Nat.reduceEqDiff, Nat.reduceAdd, Nat.reduceMul, Nat.reduceLeDiff, Nat.reduceSub, Nat.reduceBEq, List.length_cons, List.length_nil, Int.reduceLT, Int.reduceLE, Int.reduceGT, Int.reduceGE, Int.reduceAdd, Int.reduceSub, Int.reduceMul, Int.reduceNeg, Int.reduceToNat, Int.reduceEq, Int.reduceNe, Int.cast_ofNat_Int, ne_eq, not_true_eq_false, not_false_eq_true, Nat.testBit, Nat.reduceShiftRight, Nat.reduceAnd, Nat.reduceBNe]
/-- one round of the first loop -/
theorem pairs_b1 (bs : List (List UInt8)) (fl fo : Fl) (o : List Int) (n i : Nat) (g : Int) (L : List Held) (acc : List (List UInt8)) (hS : Sent bs n g L acc) (hn : n ≤ bs.length) (hn2 : n ≤ 20) (hn0 : 0 < n) (hi : i < o.length) (hi2 : i < 150) :
    ∃ g' L' acc', Sent bs n g' L' acc' ∧ E (cs F) 0 f4_b1 (pS bs fl fo o n i g L acc) = some (.norm, pS bs fl fo o n (i + 1) g' L' acc') := by
  have hnz : ¬ (n : Int) = 0 := by omega
  obtain ⟨q, hq⟩ : ∃ q, q = (o[i]).tmod (n : Int) := ⟨_, rfl⟩
  have hq1 : -(n : Int) < q ∧ q < n := by
    have h1 := Int.tmod_lt_of_pos o[i] (show (0 : Int) < (n : Int) by omega)
    have h2 := Int.lt_tmod_of_pos o[i] (show (0 : Int) < (n : Int) by omega)
    omega
  obtain ⟨k, hkq⟩ : ∃ k : Nat, (k : Int) = if q < 0 then 0 - q else q := ⟨(if q < 0 then 0 - q else q).toNat, by split <;> omega⟩
  have hk : k < n := by split at hkq <;> omega
  have hkb : k < bs.length := by omega
  have ro : (rowsBy cInt o)[i]? = some [.int .i64 o[i]] := rowsBy_get cInt hi
  have do1 := dec_lt hi
  have do2 : decide ((i : Int) < 150) = true := by simp; omega
  have do3 : decide ((n : Int) > 0) = true := by simp; omega
  have qo1 : (i : Int) < (o.length : Int) := by omega
  have i0 : (0 : Int) ≤ (i : Int) := by omega
  have hwi : IntKind.i64.wrap ((i : Int) + 1) = ((i + 1 : Nat) : Int) := by rw [wrap64 (by omega) (by omega)]; omega
  have qq : (o[i]).tmod (n : Int) = q := hq.symm
  have hp := hS.keeps.pos
  have hle := hS.le
  have hlen := hS.keeps.len
  have hal := hS.len
  have r1 : (rowsBy cBs bs)[k]? = some [.sl .shared 1 (rowsBy cByte bs[k])] := rowsBy_get cBs hkb
  have k0 : (0 : Int) ≤ (k : Int) := by omega
  have hw1 : IntKind.i64.wrap ((k : Int) + 1) = (k : Int) + 1 := wrap64 (by omega) (by omega)
  have cs1 := c_short bs[k]
  have hR : RecvAt (upd (upd (upd (upd (upd (upd h0 10386 (some (rM L))) 8 (some (.arr false 30 1 (rowsBy cBs acc)))) 6 (some (rV 20 g 10386))) 57 (some (.arr false 5 1 []))) 57 (some .dead)) 63 (some (.arr false 5 1 (rowsBy cByte (shB bs[k]))))) 2000000 6 10386 20 g L :=
    ⟨((((((LowH.h0 _).upd (by decide) rM_mask).upd (by decide) arr_mask).upd (by decide) (rV_mask (by decide))).upd (by decide) arr_mask).upd (by decide) fun _ _ _ => rfl).upd (by decide) arr_mask, by decide, by decide, by decide, rfl, rfl⟩
  have hb60 := shB_len bs[k]
  have b1 : (shB bs[k]).length * 1 ≤ 140737488355328 := by omega
  have e2 : ((k : Int) + 1) = ((k + 1 : Nat) : Int) := by omega
  have b3 : acc.length * 24 ≤ 140737488355328 := by omega
  by_cases hm : mayR 20 g L ((k : Int) + 1)
  · obtain ⟨t, L', hd0, hS', hne⟩ := hS.take hn hk hm
    have t1 := take_to (lo := 2000000) (by decide) hR hp (by omega) ⟨by decide, by decide⟩ (by omega) (seq := (k : Int) + 1) (shB bs[k]) (by omega) hm (.s 63 0 (shB bs[k]).length) (.inr ⟨63, false, rfl, by decide, rfl⟩) hd0
    have hle' := hS'.le
    have b4 : (acc.length + t.length) * 24 ≤ 140737488355328 := by have := hS'.len; rw [List.length_append] at this; omega
    refine ⟨g + (t.length : Int), L', acc ++ t, hS', ?_⟩
    · simp only [reH, rV, rM] at t1
      by_cases hte : t = []
      · subst hte
        have e1 : g + (([] : List (List UInt8)).length : Int) = g := by simp
        simp only [e1] at t1 ⊢
        simp only [toldL, toldH, if_true] at t1
        by_cases hq0 : q < 0
        · have hqk : IntKind.i64.wrap (0 - q) = (k : Int) := by rw [if_pos hq0] at hkq; rw [wrap64 (by omega) (by omega), hkq]
          simp only [f4_b1, pS, rV, rM, r1, ro, do1, do2, do3, qo1, i0, hwi, qq, hnz, k0, hw1, cs1, t1, b1, b3, Nat.reduceLT, renP, Nat.zero_add, Nat.add_zero, List.append_nil, List.nil_append, decide_true, decide_false, hq0, hqk, go_sem, reduceIte, reduceCtorEq, Nat.reduceEqDiff, Nat.reduceAdd, Nat.reduceMul, Nat.reduceLeDiff, Nat.reduceSub, Nat.reduceBEq, List.length_cons, List.length_nil, Int.reduceLT, Int.reduceLE, Int.reduceGT, Int.reduceGE, Int.reduceAdd, Int.reduceSub, Int.reduceMul, Int.reduceNeg, Int.reduceToNat, Int.reduceEq, Int.reduceNe, Int.cast_ofNat_Int, ne_eq, not_true_eq_false, not_false_eq_true, Nat.testBit, Nat.reduceShiftRight, Nat.reduceAnd, Nat.reduceBNe]
        · have hqk : q = (k : Int) := by rw [if_neg hq0] at hkq; omega
          have hq0' : ¬ (k : Int) < 0 := by omega
          simp only [f4_b1, pS, rV, rM, r1, ro, do1, do2, do3, qo1, i0, hwi, qq, hnz, k0, hw1, cs1, t1, b1, b3, Nat.reduceLT, renP, Nat.zero_add, Nat.add_zero, List.append_nil, List.nil_append, decide_true, decide_false, hqk, hq0', go_sem, reduceIte, reduceCtorEq, Nat.reduceEqDiff, Nat.reduceAdd, Nat.reduceMul, Nat.reduceLeDiff, Nat.reduceSub, Nat.reduceBEq, List.length_cons, List.length_nil, Int.reduceLT, Int.reduceLE, Int.reduceGT, Int.reduceGE, Int.reduceAdd, Int.reduceSub, Int.reduceMul, Int.reduceNeg, Int.reduceToNat, Int.reduceEq, Int.reduceNe, Int.cast_ofNat_Int, ne_eq, not_true_eq_false, not_false_eq_true, Nat.testBit, Nat.reduceShiftRight, Nat.reduceAnd, Nat.reduceBNe]
      · simp only [toldL, toldH, if_neg hte] at t1
        by_cases hq0 : q < 0
        · have hqk : IntKind.i64.wrap (0 - q) = (k : Int) := by rw [if_pos hq0] at hkq; rw [wrap64 (by omega) (by omega), hkq]
          simp only [f4_b1, pS, rV, rM, r1, ro, do1, do2, do3, qo1, i0, hwi, qq, hnz, k0, hw1, cs1, t1, b1, b4, Nat.reduceLT, renP, Nat.zero_add, Nat.add_zero, List.nil_append, List.length_append, decide_true, decide_false, hq0, hqk, go_sem, reduceIte, reduceCtorEq, Nat.reduceEqDiff, Nat.reduceAdd, Nat.reduceMul, Nat.reduceLeDiff, Nat.reduceSub, Nat.reduceBEq, List.length_cons, List.length_nil, Int.reduceLT, Int.reduceLE, Int.reduceGT, Int.reduceGE, Int.reduceAdd, Int.reduceSub, Int.reduceMul, Int.reduceNeg, Int.reduceToNat, Int.reduceEq, Int.reduceNe, Int.cast_ofNat_Int, ne_eq, not_true_eq_false, not_false_eq_true, Nat.testBit, Nat.reduceShiftRight, Nat.reduceAnd, Nat.reduceBNe]
        · have hqk : q = (k : Int) := by rw [if_neg hq0] at hkq; omega
          have hq0' : ¬ (k : Int) < 0 := by omega
          simp only [f4_b1, pS, rV, rM, r1, ro, do1, do2, do3, qo1, i0, hwi, qq, hnz, k0, hw1, cs1, t1, b1, b4, Nat.reduceLT, renP, Nat.zero_add, Nat.add_zero, List.nil_append, List.length_append, decide_true, decide_false, hqk, hq0', go_sem, reduceIte, reduceCtorEq, Nat.reduceEqDiff, Nat.reduceAdd, Nat.reduceMul, Nat.reduceLeDiff, Nat.reduceSub, Nat.reduceBEq, List.length_cons, List.length_nil, Int.reduceLT, Int.reduceLE, Int.reduceGT, Int.reduceGE, Int.reduceAdd, Int.reduceSub, Int.reduceMul, Int.reduceNeg, Int.reduceToNat, Int.reduceEq, Int.reduceNe, Int.cast_ofNat_Int, ne_eq, not_true_eq_false, not_false_eq_true, Nat.testBit, Nat.reduceShiftRight, Nat.reduceAnd, Nat.reduceBNe]
  · have t1 := take_no (lo := 2000000) (by decide) hR hp (by omega) ⟨by decide, by decide⟩ (seq := (k : Int) + 1) (.s 63 0 (shB bs[k]).length) rfl hm
    simp only [toldL, if_true, rV, rM] at t1
    refine ⟨g, L, acc, hS, ?_⟩
    · by_cases hq0 : q < 0
      · have hqk : IntKind.i64.wrap (0 - q) = (k : Int) := by rw [if_pos hq0] at hkq; rw [wrap64 (by omega) (by omega), hkq]
        simp only [f4_b1, pS, rV, rM, r1, ro, do1, do2, do3, qo1, i0, hwi, qq, hnz, k0, hw1, cs1, t1, b1, b3, Nat.reduceLT, renP, Nat.zero_add, Nat.add_zero, List.append_nil, List.nil_append, decide_true, decide_false, hq0, hqk, go_sem, reduceIte, reduceCtorEq, Nat.reduceEqDiff, Nat.reduceAdd, Nat.reduceMul, Nat.reduceLeDiff, Nat.reduceSub, Nat.reduceBEq, List.length_cons, List.length_nil, Int.reduceLT, Int.reduceLE, Int.reduceGT, Int.reduceGE, Int.reduceAdd, Int.reduceSub, Int.reduceMul, Int.reduceNeg, Int.reduceToNat, Int.reduceEq, Int.reduceNe, Int.cast_ofNat_Int, ne_eq, not_true_eq_false, not_false_eq_true, Nat.testBit, Nat.reduceShiftRight, Nat.reduceAnd, Nat.reduceBNe]
      · have hqk : q = (k : Int) := by rw [if_neg hq0] at hkq; omega
        have hq0' : ¬ (k : Int) < 0 := by omega
        simp only [f4_b1, pS, rV, rM, r1, ro, do1, do2, do3, qo1, i0, hwi, qq, hnz, k0, hw1, cs1, t1, b1, b3, Nat.reduceLT, renP, Nat.zero_add, Nat.add_zero, List.append_nil, List.nil_append, decide_true, decide_false, hqk, hq0', go_sem, reduceIte, reduceCtorEq, Nat.reduceEqDiff, Nat.reduceAdd, Nat.reduceMul, Nat.reduceLeDiff, Nat.reduceSub, Nat.reduceBEq, List.length_cons, List.length_nil, Int.reduceLT, Int.reduceLE, Int.reduceGT, Int.reduceGE, Int.reduceAdd, Int.reduceSub, Int.reduceMul, Int.reduceNeg, Int.reduceToNat, Int.reduceEq, Int.reduceNe, Int.cast_ofNat_Int, ne_eq, not_true_eq_false, not_false_eq_true, Nat.testBit, Nat.reduceShiftRight, Nat.reduceAnd, Nat.reduceBNe]
def pS0 (bs : List (List UInt8)) (fl : Fl) (n : Nat) (g : Int) (L : List Held) (acc : List (List UInt8)) : St :=
  (⟨(upd (upd (upd (upd Sx.e0 8 (.s 8 0 acc.length)) 7 (.v (.int .i64 (n : Int)))) 6 (.p 6 0)) 0 (.v (.sl fl 1 (rowsBy cBs bs)))), (upd (upd (upd Sx.h0 10386 (some (rM L))) 8 (some (.arr false 30 1 (rowsBy cBs acc)))) 6 (some (rV 20 g 10386)))⟩ : St)
theorem pairs_l1 (bs : List (List UInt8)) (fl fo : Fl) (o : List Int) (n : Nat) (hn : n ≤ bs.length) (hn2 : n ≤ 20) : ∀ (m i : Nat) (g : Int) (L : List Held) (acc : List (List UInt8)), min o.length 150 - i = m → Sent bs n g L acc →
    ∃ g' L' acc', Sent bs n g' L' acc' ∧ E (cs F) 0 f4_l1 (pS bs fl fo o n i g L acc) = some (.exit 0, pS0 bs fl n g' L' acc') := by
  intro m
  induction m with
  | zero =>
    intro i g L acc hm hS
    refine ⟨g, L, acc, hS, ?_⟩
    rw [f4_l1_eq]
    by_cases hi : i < o.length
    · have d1 := dec_lt hi
      have d2 : decide ((i : Int) < 150) = false := by simp; omega
      simp only [f4_b1, pS, pS0, d1, d2, rV, rM, Nat.reduceLT, decide_true, decide_false, go_sem, reduceIte, reduceCtorEq, Nat.reduceEqDiff, Nat.reduceAdd, Nat.reduceMul, Nat.reduceLeDiff, Nat.reduceSub, Nat.reduceBEq, List.length_cons, List.length_nil, Int.reduceLT, Int.reduceLE, Int.reduceGT, Int.reduceGE, Int.reduceAdd, Int.reduceSub, Int.reduceMul, Int.reduceNeg, Int.reduceToNat, Int.reduceEq, Int.reduceNe, Int.cast_ofNat_Int, ne_eq, not_true_eq_false, not_false_eq_true, Nat.testBit, Nat.reduceShiftRight, Nat.reduceAnd, Nat.reduceBNe]
    · have d1 := dec_ge (i := i) (n := o.length) (by omega)
      simp only [f4_b1, pS, pS0, d1, rV, rM, Nat.reduceLT, decide_true, decide_false, go_sem, reduceIte, reduceCtorEq, Nat.reduceEqDiff, Nat.reduceAdd, Nat.reduceMul, Nat.reduceLeDiff, Nat.reduceSub, Nat.reduceBEq, List.length_cons, List.length_nil, Int.reduceLT, Int.reduceLE, Int.reduceGT, Int.reduceGE, Int.reduceAdd, Int.reduceSub, Int.reduceMul, Int.reduceNeg, Int.reduceToNat, Int.reduceEq, Int.reduceNe, Int.cast_ofNat_Int, ne_eq, not_true_eq_false, not_false_eq_true, Nat.testBit, Nat.reduceShiftRight, Nat.reduceAnd, Nat.reduceBNe]
  | succ m ih =>
    intro i g L acc hm hS
    by_cases h0 : n = 0
    · refine ⟨g, L, acc, hS, ?_⟩
      rw [f4_l1_eq]
      have hi : i < o.length := by omega
      have d1 := dec_lt hi
      have d2 : decide ((i : Int) < 150) = true := by simp; omega
      have d3 : decide ((n : Int) > 0) = false := by simp; omega
      simp only [f4_b1, pS, pS0, d1, d2, d3, rV, rM, Nat.reduceLT, decide_true, decide_false, go_sem, reduceIte, reduceCtorEq, Nat.reduceEqDiff, Nat.reduceAdd, Nat.reduceMul, Nat.reduceLeDiff, Nat.reduceSub, Nat.reduceBEq, List.length_cons, List.length_nil, Int.reduceLT, Int.reduceLE, Int.reduceGT, Int.reduceGE, Int.reduceAdd, Int.reduceSub, Int.reduceMul, Int.reduceNeg, Int.reduceToNat, Int.reduceEq, Int.reduceNe, Int.cast_ofNat_Int, ne_eq, not_true_eq_false, not_false_eq_true, Nat.testBit, Nat.reduceShiftRight, Nat.reduceAnd, Nat.reduceBNe]
    · obtain ⟨g', L', acc', h1, h2⟩ := pairs_b1 bs fl fo o n i g L acc hS hn hn2 (by omega) (by omega) (by omega)
      obtain ⟨g2, L2, acc2, h3, h4⟩ := ih (i + 1) g' L' acc' (by omega) h1
      refine ⟨g2, L2, acc2, h3, ?_⟩
      rw [f4_l1_eq, h2]
      exact h4
theorem pairs_l2 (bs : List (List UInt8)) (fl : Fl) (n : Nat) (hn : n ≤ bs.length) (hn2 : n ≤ 20) : ∀ (m k : Nat) (g : Int) (L : List Held) (acc : List (List UInt8)), n - k = m → k ≤ n → (k : Int) ≤ g → Sent bs n g L acc →
    ∃ acc', Sent bs n (n : Int) [] acc' ∧ E (cs F) 0 f4_l2 (pS2 bs fl n k g L acc) = some (.exit 2, pS0 bs fl n (n : Int) [] acc') := by
  intro m
  induction m with
  | zero =>
    intro k g L acc hm hk hg hS
    have hkn : k = n := by omega
    subst hkn
    have hgn : g = (k : Int) := by have := hS.le; omega
    subst hgn
    have hLn : L = [] := by
      cases L with
      | nil => rfl
      | cons e L =>
        have h1 := hS.keeps.rng e (by simp)
        have h2 := (hS.held e (by simp)).1
        omega
    subst hLn
    refine ⟨acc, hS, ?_⟩
    have d1 : decide ((k : Int) < (k : Int)) = false := by simp
    rw [f4_l2_eq]
    simp only [f4_b2, pS2, pS0, d1, rV, rM, Nat.reduceLT, decide_true, decide_false, go_sem, reduceIte, reduceCtorEq, Nat.reduceEqDiff, Nat.reduceAdd, Nat.reduceMul, Nat.reduceLeDiff, Nat.reduceSub, Nat.reduceBEq, List.length_cons, List.length_nil, Int.reduceLT, Int.reduceLE, Int.reduceGT, Int.reduceGE, Int.reduceAdd, Int.reduceSub, Int.reduceMul, Int.reduceNeg, Int.reduceToNat, Int.reduceEq, Int.reduceNe, Int.cast_ofNat_Int, ne_eq, not_true_eq_false, not_false_eq_true, Nat.testBit, Nat.reduceShiftRight, Nat.reduceAnd, Nat.reduceBNe]
  | succ m ih =>
    intro k g L acc hm hk hg hS
    obtain ⟨g', L', acc', h1, h2, h3⟩ := pairs_b2 bs fl n k g L acc hS hn hn2 (by omega) hg
    obtain ⟨acc2, h4, h5⟩ := ih (k + 1) g' L' acc' (by omega) (by omega) (by omega) h1
    refine ⟨acc2, h4, ?_⟩
    rw [f4_l2_eq, h3]
    exact h5
theorem pairs_l3 (bs : List (List UInt8)) (fl : Fl) (n : Nat) (acc : List (List UInt8)) (hn : n ≤ bs.length) (hn2 : n ≤ 20) (hl : acc.length = n) (ht : ∀ (k : Nat) (h : k < acc.length), ∃ h2 : k < bs.length, acc[k] = shB bs[k]) :
    E (cs F) 0 f4_l3 (⟨(upd (upd (upd (upd Sx.e0 16 (.v (.int .i64 0))) 8 (.s 8 0 n)) 7 (.v (.int .i64 (n : Int)))) 0 (.v (.sl fl 1 (rowsBy cBs bs)))), (upd Sx.h0 8 (some (.arr false 30 1 (rowsBy cBs acc))))⟩ : St) = some (.exit 4, ⟨Sx.e0, Sx.h0⟩) := by
  have e0 : (0 : Int) = ((0 : Nat) : Int) := rfl
  refine Eq.trans (congrArg (E (cs F) 0 f4_l3) ?_) (loop_to (b := f4_b3) (fun q => (⟨(upd (upd (upd (upd Sx.e0 16 (.v (.int .i64 (q : Int)))) 8 (.s 8 0 n)) 7 (.v (.int .i64 (n : Int)))) 0 (.v (.sl fl 1 (rowsBy cBs bs)))), (upd Sx.h0 8 (some (.arr false 30 1 (rowsBy cBs acc))))⟩ : St)) n ?_ ?_ (by simp))
  · rw [← e0]
  · intro q hq
    obtain ⟨h2, h3⟩ := ht q (by omega)
    have d1 : decide ((q : Int) < (n : Int)) = true := dec_lt hq
    have q1 : (q : Int) < (n : Int) := by omega
    have q0 : (0 : Int) ≤ (q : Int) := by omega
    have hw := wrap_succ (i := q) (n := n) hq (by omega)
    have r1 : (rowsBy cBs acc)[q]? = some [.sl .shared 1 (rowsBy cByte (shB bs[q]))] := by rw [rowsBy_get cBs (by omega), h3]; rfl
    have r2 : (rowsBy cBs bs)[q]? = some [.sl .shared 1 (rowsBy cByte bs[q])] := rowsBy_get cBs h2
    have cs1 := c_short bs[q]
    simp only [f4_b3, d1, q1, q0, hw, r1, r2, cs1, Nat.reduceLT, decide_false, decide_true, beq_rfl, Bool.not_true, go_sem, reduceIte, reduceCtorEq, Nat.reduceEqDiff, Nat.reduceAdd, Nat.reduceMul, Nat.reduceLeDiff, Nat.reduceSub, Nat.reduceBEq, List.length_cons, List.length_nil, Int.reduceLT, Int.reduceLE, Int.reduceGT, Int.reduceGE, Int.reduceAdd, Int.reduceSub, Int.reduceMul, Int.reduceNeg, Int.reduceToNat, Int.reduceEq, Int.reduceNe, Int.cast_ofNat_Int, ne_eq, not_true_eq_false, not_false_eq_true, Nat.testBit, Nat.reduceShiftRight, Nat.reduceAnd, Nat.reduceBNe]
  · have d1 : decide ((n : Int) < (n : Int)) = false := by simp
    simp only [f4_b3, d1, Nat.reduceLT, go_sem, reduceIte, reduceCtorEq, Nat.reduceEqDiff, Nat.reduceAdd, Nat.reduceMul, Nat.reduceLeDiff, Nat.reduceSub, Nat.reduceBEq, List.length_cons, List.length_nil, Int.reduceLT, Int.reduceLE, Int.reduceGT, Int.reduceGE, Int.reduceAdd, Int.reduceSub, Int.reduceMul, Int.reduceNeg, Int.reduceToNat, Int.reduceEq, Int.reduceNe, Int.cast_ofNat_Int, ne_eq, not_true_eq_false, not_false_eq_true, Nat.testBit, Nat.reduceShiftRight, Nat.reduceAnd, Nat.reduceBNe]
theorem t_pairs (fl fo : Fl) (bs : List (List UInt8)) (o : List Int) : call F 4 [.sl fl 1 (rowsBy cBs bs), .sl fo 1 (rowsBy cInt o)] = some (.bool true) := by
  obtain ⟨n, hn⟩ : ∃ n, n = min bs.length 20 := ⟨_, rfl⟩
  have hn1 : n ≤ bs.length := by omega
  have hn2 : n ≤ 20 := by omega
  have hmin : (if (20 : Int) < (bs.length : Int) then (20 : Int) else (bs.length : Int)) = (n : Int) := by split <;> omega
  have w20 : winR 20 = 20 := rfl
  have hS0 : Sent bs n 0 [] [] := ⟨Keeps.new ⟨by decide, by decide⟩, by omega, by simp, rfl, fun k h => by simp at h⟩
  obtain ⟨g, L, acc, h1, h2⟩ := pairs_l1 bs fl fo o n hn1 hn2 _ 0 0 [] [] rfl hS0
  obtain ⟨acc', h3, h4⟩ := pairs_l2 bs fl n hn1 hn2 _ 0 g L acc rfl (by omega) (by have := h1.keeps.pos; omega) h1
  have hal : acc'.length = n := by have := h3.len; omega
  have h5 := pairs_l3 bs fl n acc' hn1 hn2 hal h3.told
  have e0 : entsR [] = [] := rfl
  have hR : RecvAt (upd (upd (upd h0 10386 (some (.map false false false (entsR [])))) 8 (some (.arr false 30 1 (rowsBy cBs acc')))) 6 (some (.var false [.v (.int .i64 20), .v (.int .i64 (n : Int)), .m 10386]))) 4000000 6 10386 20 (n : Int) [] :=
    ⟨(((LowH.h0 _).upd (by decide) rM_mask).upd (by decide) arr_mask).upd (by decide) (rV_mask (by decide)), by decide, by decide, by decide, rfl, rfl⟩
  have hd := held_i hR (by decide) List.nodup_nil (fun x hx => by simp at hx)
  simp only [pS, pS2, pS0, rV, rM, e0, nat0, hal, List.length_nil, rowsBy] at h2 h4 h5 hd
  rw [call_code F (show F 4 = some (.code f4) from rfl)]
  simp only [f4, t_shown, new_i _ _ (LowH.h0 _), w20, hmin, h2, h4, h5, hd, got_c, Nat.reduceLT, renP, decide_true, decide_false, go_sem, reduceIte, reduceCtorEq, Nat.reduceEqDiff, Nat.reduceAdd, Nat.reduceMul, Nat.reduceLeDiff, Nat.reduceSub, Nat.reduceBEq, List.length_cons, List.length_nil, Int.reduceLT, Int.reduceLE, Int.reduceGT, Int.reduceGE, Int.reduceAdd, Int.reduceSub, Int.reduceMul, Int.reduceNeg, Int.reduceToNat, Int.reduceEq, Int.reduceNe, Int.cast_ofNat_Int, ne_eq, not_true_eq_false, not_false_eq_true, Nat.testBit, Nat.reduceShiftRight, Nat.reduceAnd, Nat.reduceBNe]
end Go.Proofs.Ytkliiknolnodjaa.Sx
namespace Go.Proofs.Ytkliiknolnodjaa.Sx
open Go
theorem c_ints (fa fb : Fl) (a b : List Int) (ha : a.length ≤ 1000000) (hb : b.length ≤ 1000000) : call F 14 [.sl fa 1 (rowsBy cInt a), .sl fb 1 (rowsBy cInt b)] = some (.bool (decide (a = b))) := by
  by_cases hl : a.length = b.length
  · have hq : ∀ x y : Int, (fun x y : Int => decide (x = y)) x y = decide (x = y) := fun _ _ => rfl
    have hL := loop_any (C := cs F) (lo := 0) (b := f14_b1) (fun i => (⟨(upd (upd (upd Sx.e0 5 (.v (.int .i64 (i : Int)))) 1 (.v (.sl fb 1 (rowsBy cInt b)))) 0 (.v (.sl fa 1 (rowsBy cInt a)))), Sx.h0⟩ : St)) (pairB (fun x y => decide (x = y)) a b) a.length
      (r := (.ret, (⟨(upd Sx.e0 4 (.v (.bool false))), Sx.h0⟩ : St))) (re := (.exit 0, (⟨Sx.e0, Sx.h0⟩ : St))) (fun i hi hp => by
        rw [pairB_at hi (by omega)] at hp
        have d1 := dec_lt hi
        have q1 : (i : Int) < (a.length : Int) := by omega
        have q2 : (i : Int) < (b.length : Int) := by omega
        have r1 : (rowsBy cInt a)[i]? = some [.int .i64 a[i]] := rowsBy_get cInt hi
        have r2 : (rowsBy cInt b)[i]? = some [.int .i64 (b[i]'(by omega))] := rowsBy_get cInt (by omega)
        have hw := wrap_succ hi (by omega)
        have he : a[i] = b[i]'(by omega) := by simpa using hp
        have i0 : (0 : Int) ≤ (i : Int) := by omega
        simp only [f14_b1, d1, q1, q2, r1, r2, hw, he, i0, Nat.reduceLT, decide_true, decide_false, go_sem, reduceIte, reduceCtorEq, Nat.reduceEqDiff, Nat.reduceAdd, Nat.reduceMul, Nat.reduceLeDiff, Nat.reduceSub, Nat.reduceBEq, List.length_cons, List.length_nil, Int.reduceLT, Int.reduceLE, Int.reduceGT, Int.reduceGE, Int.reduceAdd, Int.reduceSub, Int.reduceMul, Int.reduceNeg, Int.reduceToNat, Int.reduceEq, Int.reduceNe, Int.cast_ofNat_Int, ne_eq, not_true_eq_false, not_false_eq_true, Nat.testBit, Nat.reduceShiftRight, Nat.reduceAnd, Nat.reduceBNe]) (fun i hi hp => by
        rw [pairB_at hi (by omega)] at hp
        have d1 := dec_lt hi
        have q1 : (i : Int) < (a.length : Int) := by omega
        have q2 : (i : Int) < (b.length : Int) := by omega
        have r1 : (rowsBy cInt a)[i]? = some [.int .i64 a[i]] := rowsBy_get cInt hi
        have r2 : (rowsBy cInt b)[i]? = some [.int .i64 (b[i]'(by omega))] := rowsBy_get cInt (by omega)
        have he : ¬ a[i] = b[i]'(by omega) := by simpa using hp
        have i0 : (0 : Int) ≤ (i : Int) := by omega
        simp only [f14_b1, d1, q1, q2, r1, r2, he, i0, Nat.reduceLT, decide_true, decide_false, go_sem, reduceIte, reduceCtorEq, Nat.reduceEqDiff, Nat.reduceAdd, Nat.reduceMul, Nat.reduceLeDiff, Nat.reduceSub, Nat.reduceBEq, List.length_cons, List.length_nil, Int.reduceLT, Int.reduceLE, Int.reduceGT, Int.reduceGE, Int.reduceAdd, Int.reduceSub, Int.reduceMul, Int.reduceNeg, Int.reduceToNat, Int.reduceEq, Int.reduceNe, Int.cast_ofNat_Int, ne_eq, not_true_eq_false, not_false_eq_true, Nat.testBit, Nat.reduceShiftRight, Nat.reduceAnd, Nat.reduceBNe]) (by simp) (by
        have d1 : decide ((a.length : Int) < (a.length : Int)) = false := by simp
        simp only [f14_b1, d1, Nat.reduceLT, go_sem, reduceIte, reduceCtorEq, Nat.reduceEqDiff, Nat.reduceAdd, Nat.reduceMul, Nat.reduceLeDiff, Nat.reduceSub, Nat.reduceBEq, List.length_cons, List.length_nil, Int.reduceLT, Int.reduceLE, Int.reduceGT, Int.reduceGE, Int.reduceAdd, Int.reduceSub, Int.reduceMul, Int.reduceNeg, Int.reduceToNat, Int.reduceEq, Int.reduceNe, Int.cast_ofNat_Int, ne_eq, not_true_eq_false, not_false_eq_true, Nat.testBit, Nat.reduceShiftRight, Nat.reduceAnd, Nat.reduceBNe]) (by simp)
    rw [pairB_eq hq hl] at hL
    simp only [nat0] at hL
    have hLL : E (cs F) 0 f14_l1 _ = _ := hL
    by_cases he : a = b
    · subst he
      simp only [decide_true, Bool.not_true, Bool.false_eq_true, if_false] at hLL
      rw [call_code F (show F 14 = some (.code f14) from rfl)]
      simp only [f14, hLL, Nat.reduceLT, decide_true, go_sem, reduceIte, reduceCtorEq, Nat.reduceEqDiff, Nat.reduceAdd, Nat.reduceMul, Nat.reduceLeDiff, Nat.reduceSub, Nat.reduceBEq, List.length_cons, List.length_nil, Int.reduceLT, Int.reduceLE, Int.reduceGT, Int.reduceGE, Int.reduceAdd, Int.reduceSub, Int.reduceMul, Int.reduceNeg, Int.reduceToNat, Int.reduceEq, Int.reduceNe, Int.cast_ofNat_Int, ne_eq, not_true_eq_false, not_false_eq_true, Nat.testBit, Nat.reduceShiftRight, Nat.reduceAnd, Nat.reduceBNe]
    · simp only [decide_eq_false he, Bool.not_false, if_true] at hLL
      have hl2 : ¬ ((a.length : Int) = (b.length : Int)) ↔ False := by simp; omega
      rw [call_code F (show F 14 = some (.code f14) from rfl)]
      simp only [f14, hLL, hl2, decide_eq_false he, Nat.reduceLT, decide_false, go_sem, reduceIte, reduceCtorEq, Nat.reduceEqDiff, Nat.reduceAdd, Nat.reduceMul, Nat.reduceLeDiff, Nat.reduceSub, Nat.reduceBEq, List.length_cons, List.length_nil, Int.reduceLT, Int.reduceLE, Int.reduceGT, Int.reduceGE, Int.reduceAdd, Int.reduceSub, Int.reduceMul, Int.reduceNeg, Int.reduceToNat, Int.reduceEq, Int.reduceNe, Int.cast_ofNat_Int, ne_eq, not_true_eq_false, not_false_eq_true, Nat.testBit, Nat.reduceShiftRight, Nat.reduceAnd, Nat.reduceBNe]
  · have he : ¬ a = b := fun e => hl (by rw [e])
    have hl2 : ((a.length : Int) = (b.length : Int)) = False := by simp; omega
    rw [call_code F (show F 14 = some (.code f14) from rfl)]
    simp only [f14, hl2, decide_eq_false he, Nat.reduceLT, decide_false, decide_true, go_sem, reduceIte, reduceCtorEq, Nat.reduceEqDiff, Nat.reduceAdd, Nat.reduceMul, Nat.reduceLeDiff, Nat.reduceSub, Nat.reduceBEq, List.length_cons, List.length_nil, Int.reduceLT, Int.reduceLE, Int.reduceGT, Int.reduceGE, Int.reduceAdd, Int.reduceSub, Int.reduceMul, Int.reduceNeg, Int.reduceToNat, Int.reduceEq, Int.reduceNe, Int.cast_ofNat_Int, ne_eq, not_true_eq_false, not_false_eq_true, Nat.testBit, Nat.reduceShiftRight, Nat.reduceAnd, Nat.reduceBNe]
def bS (W : Int) (fl : Fl) (l : List Int) (i : Nat) (got : Int) (L : List Held) : St :=
  (⟨(upd (upd (upd (upd Sx.e0 8 (.v (.int .i64 (i : Int)))) 7 (.p 7 0)) 6 (.v (.int .i64 W))) 1 (.v (.sl fl 1 (rowsBy cInt l)))), (upd (upd Sx.h0 10450 (some (rM L))) 7 (some (rV W got 10450)))⟩ : St)
theorem bnd_l2 (W got n : Int) (L : List Held) (fl : Fl) (l : List Int) (i : Nat) (S : List Int) (hn : S.length ≤ 1000000) :
    E (cs F) 0 f5_l2 (⟨(upd (upd (upd (upd (upd (upd (upd (upd (upd Sx.e0 13 (.v (.int .i64 0))) 12 (.v (.bool false))) 11 (.s 11 0 S.length)) 10 (.v (.int .i64 got))) 9 (.v (.int .i64 n))) 8 (.v (.int .i64 (i : Int)))) 7 (.p 7 0)) 6 (.v (.int .i64 W))) 1 (.v (.sl fl 1 (rowsBy cInt l)))), (upd (upd (upd Sx.h0 10450 (some (rM L))) 11 (some (.arr false 3 1 (rowsBy cInt S)))) 7 (some (rV W got 10450)))⟩ : St) =
    some (.exit 2, (⟨(upd (upd (upd (upd (upd (upd (upd (upd Sx.e0 12 (.v (.bool (S.any fun x => decide (x = n))))) 11 (.s 11 0 S.length)) 10 (.v (.int .i64 got))) 9 (.v (.int .i64 n))) 8 (.v (.int .i64 (i : Int)))) 7 (.p 7 0)) 6 (.v (.int .i64 W))) 1 (.v (.sl fl 1 (rowsBy cInt l)))), (upd (upd (upd Sx.h0 10450 (some (rM L))) 11 (some (.arr false 3 1 (rowsBy cInt S)))) 7 (some (rV W got 10450)))⟩ : St)) := by
  have e0 : (0 : Int) = ((0 : Nat) : Int) := rfl
  refine Eq.trans (congrArg (E (cs F) 0 f5_l2) ?_) (loop_to (b := f5_b2) (fun q => (⟨(upd (upd (upd (upd (upd (upd (upd (upd (upd Sx.e0 13 (.v (.int .i64 (q : Int)))) 12 (.v (.bool ((S.take q).any fun x => decide (x = n))))) 11 (.s 11 0 S.length)) 10 (.v (.int .i64 got))) 9 (.v (.int .i64 n))) 8 (.v (.int .i64 (i : Int)))) 7 (.p 7 0)) 6 (.v (.int .i64 W))) 1 (.v (.sl fl 1 (rowsBy cInt l)))), (upd (upd (upd Sx.h0 10450 (some (rM L))) 11 (some (.arr false 3 1 (rowsBy cInt S)))) 7 (some (rV W got 10450)))⟩ : St)) S.length ?_ ?_ (by simp))
  · rw [← e0, List.take_zero, List.any_nil]
  · intro q hq
    have d1 := dec_lt hq
    have q1 : (q : Int) < (S.length : Int) := by omega
    have hw := wrap_succ hq (by omega)
    have r1 : (rowsBy cInt S)[q]? = some [.int .i64 S[q]] := rowsBy_get cInt hq
    have hst : (S.take (q + 1)).any (fun x => decide (x = n)) = ((S.take q).any (fun x => decide (x = n)) || decide (S[q] = n)) := by
      rw [List.take_succ_eq_append_getElem hq, List.any_append]; simp
    rw [hst]
    cases hb : (S.take q).any fun x => decide (x = n) with
    | true => simp only [f5_b2, rV, rM, d1, q1, hw, r1, Nat.reduceLT, decide_true, decide_false, Bool.true_or, go_sem, reduceIte, reduceCtorEq, Nat.reduceEqDiff, Nat.reduceAdd, Nat.reduceMul, Nat.reduceLeDiff, Nat.reduceSub, Nat.reduceBEq, List.length_cons, List.length_nil, Int.reduceLT, Int.reduceLE, Int.reduceGT, Int.reduceGE, Int.reduceAdd, Int.reduceSub, Int.reduceMul, Int.reduceNeg, Int.reduceToNat, Int.reduceEq, Int.reduceNe, Int.cast_ofNat_Int, ne_eq, not_true_eq_false, not_false_eq_true, Nat.testBit, Nat.reduceShiftRight, Nat.reduceAnd, Nat.reduceBNe]
    | false => simp only [f5_b2, rV, rM, d1, q1, hw, r1, Nat.reduceLT, decide_true, decide_false, Bool.false_or, go_sem, reduceIte, reduceCtorEq, Nat.reduceEqDiff, Nat.reduceAdd, Nat.reduceMul, Nat.reduceLeDiff, Nat.reduceSub, Nat.reduceBEq, List.length_cons, List.length_nil, Int.reduceLT, Int.reduceLE, Int.reduceGT, Int.reduceGE, Int.reduceAdd, Int.reduceSub, Int.reduceMul, Int.reduceNeg, Int.reduceToNat, Int.reduceEq, Int.reduceNe, Int.cast_ofNat_Int, ne_eq, not_true_eq_false, not_false_eq_true, Nat.testBit, Nat.reduceShiftRight, Nat.reduceAnd, Nat.reduceBNe]
  · have d1 : decide ((S.length : Int) < (S.length : Int)) = false := by simp
    simp only [f5_b2, rV, rM, d1, Nat.reduceLT, List.take_length, go_sem, reduceIte, reduceCtorEq, Nat.reduceEqDiff, Nat.reduceAdd, Nat.reduceMul, Nat.reduceLeDiff, Nat.reduceSub, Nat.reduceBEq, List.length_cons, List.length_nil, Int.reduceLT, Int.reduceLE, Int.reduceGT, Int.reduceGE, Int.reduceAdd, Int.reduceSub, Int.reduceMul, Int.reduceNeg, Int.reduceToNat, Int.reduceEq, Int.reduceNe, Int.cast_ofNat_Int, ne_eq, not_true_eq_false, not_false_eq_true, Nat.testBit, Nat.reduceShiftRight, Nat.reduceAnd, Nat.reduceBNe]
theorem bnd_l3 (W g' : Int) (L' : List Held) (fl : Fl) (l : List Int) (i : Nat) (S : List Int) (hS : ∀ (k : Nat) (h : k < S.length), g' + 1 < S[k] ∧ S[k] ≤ g' + W) (h0 : 0 ≤ g') (h1 : g' ≤ 1000000) (hW : 1 ≤ W ∧ W ≤ 64) (hn : S.length ≤ 1000000) :
    E (cs F) 0 f5_l3 (⟨(upd (upd (upd (upd (upd (upd Sx.e0 19 (.v (.int .i64 0))) 18 (.s 18 0 S.length)) 8 (.v (.int .i64 (i : Int)))) 7 (.p 7 0)) 6 (.v (.int .i64 W))) 1 (.v (.sl fl 1 (rowsBy cInt l)))), (upd (upd (upd Sx.h0 10450 (some (rM L'))) 18 (some (.arr false 3 1 (rowsBy cInt S)))) 7 (some (rV W g' 10450)))⟩ : St) =
    some (.exit 4, (⟨(upd (upd (upd (upd Sx.e0 8 (.v (.int .i64 (i : Int)))) 7 (.p 7 0)) 6 (.v (.int .i64 W))) 1 (.v (.sl fl 1 (rowsBy cInt l)))), (upd (upd Sx.h0 10450 (some (rM L'))) 7 (some (rV W g' 10450)))⟩ : St)) := by
  have e0 : (0 : Int) = ((0 : Nat) : Int) := rfl
  refine Eq.trans (congrArg (E (cs F) 0 f5_l3) ?_) (loop_to (b := f5_b3) (fun q => (⟨(upd (upd (upd (upd (upd (upd Sx.e0 19 (.v (.int .i64 (q : Int)))) 18 (.s 18 0 S.length)) 8 (.v (.int .i64 (i : Int)))) 7 (.p 7 0)) 6 (.v (.int .i64 W))) 1 (.v (.sl fl 1 (rowsBy cInt l)))), (upd (upd (upd Sx.h0 10450 (some (rM L'))) 18 (some (.arr false 3 1 (rowsBy cInt S)))) 7 (some (rV W g' 10450)))⟩ : St)) S.length ?_ ?_ (by simp))
  · rw [← e0]
  · intro q hq
    obtain ⟨h2, h3⟩ := hS q hq
    have d1 := dec_lt hq
    have q1 : (q : Int) < (S.length : Int) := by omega
    have hw := wrap_succ hq (by omega)
    have hw2 : IntKind.i64.wrap (g' + 1) = g' + 1 := wrap64 (by omega) (by omega)
    have hw3 : IntKind.i64.wrap (g' + W) = g' + W := wrap64 (by omega) (by omega)
    have r1 : (rowsBy cInt S)[q]? = some [.int .i64 S[q]] := rowsBy_get cInt hq
    have c1 : ¬ S[q] ≤ g' + 1 := by omega
    have c2 : ¬ S[q] > g' + W := by omega
    simp only [f5_b3, rV, rM, d1, q1, hw, hw2, hw3, r1, c1, c2, got_c, Nat.reduceLT, decide_false, decide_true, go_sem, reduceIte, reduceCtorEq, Nat.reduceEqDiff, Nat.reduceAdd, Nat.reduceMul, Nat.reduceLeDiff, Nat.reduceSub, Nat.reduceBEq, List.length_cons, List.length_nil, Int.reduceLT, Int.reduceLE, Int.reduceGT, Int.reduceGE, Int.reduceAdd, Int.reduceSub, Int.reduceMul, Int.reduceNeg, Int.reduceToNat, Int.reduceEq, Int.reduceNe, Int.cast_ofNat_Int, ne_eq, not_true_eq_false, not_false_eq_true, Nat.testBit, Nat.reduceShiftRight, Nat.reduceAnd, Nat.reduceBNe]
  · have d1 : decide ((S.length : Int) < (S.length : Int)) = false := by simp
    simp only [f5_b3, rV, rM, d1, Nat.reduceLT, go_sem, reduceIte, reduceCtorEq, Nat.reduceEqDiff, Nat.reduceAdd, Nat.reduceMul, Nat.reduceLeDiff, Nat.reduceSub, Nat.reduceBEq, List.length_cons, List.length_nil, Int.reduceLT, Int.reduceLE, Int.reduceGT, Int.reduceGE, Int.reduceAdd, Int.reduceSub, Int.reduceMul, Int.reduceNeg, Int.reduceToNat, Int.reduceEq, Int.reduceNe, Int.cast_ofNat_Int, ne_eq, not_true_eq_false, not_false_eq_true, Nat.testBit, Nat.reduceShiftRight, Nat.reduceAnd, Nat.reduceBNe]
theorem any_held {L : List Held} {n : Int} : (sortI (L.map (·.1))).any (fun x => decide (x = n)) = decide (¬ lookR n L = none) := by
  have h1 : (n ∈ sortI (L.map (·.1))) ↔ n ∈ L.map (·.1) := (sortI_perm _).mem_iff
  by_cases h : lookR n L = none
  · rw [decide_eq_false (by simpa using h), List.any_eq_false]
    intro x hx
    simp only [decide_eq_true_eq]
    intro e
    subst e
    exact look_none.1 h (h1.1 hx)
  · rw [decide_eq_true h, List.any_eq_true]
    have : n ∈ L.map (·.1) := by
      by_cases hm : n ∈ L.map (·.1)
      · exact hm
      · exact absurd (look_none.2 hm) h
    exact ⟨n, h1.2 this, by simp⟩
theorem Keeps.bd {W got : Int} {L : List Held} (h : Keeps W got L) (hg : got ≤ 1000000) : ∀ x ∈ L.map (·.1), -9223372036854775808 ≤ x ∧ x ≤ 9223372036854775807 := fun x hx => by
  obtain ⟨e, he, rfl⟩ := List.mem_map.1 hx
  have := h.rng e he
  have := h.win
  have := h.pos
  omega
theorem Keeps.sorted {W got : Int} {L : List Held} (h : Keeps W got L) (k : Nat) (hk : k < (sortI (L.map (·.1))).length) : got + 1 < (sortI (L.map (·.1)))[k] ∧ (sortI (L.map (·.1)))[k] ≤ got + W := by
  obtain ⟨h1, h2⟩ := sortI_get h.nd hk
  obtain ⟨e, he, h3⟩ := List.mem_map.1 h1
  rw [← h3]
  exact h.rng e he
theorem bnd_b (W : Int) (fl : Fl) (l : List Int) (i : Nat) (got : Int) (L : List Held) (hK : Keeps W got L) (hT : got ≤ 100000) (hU : ∀ e ∈ L, e.1 ≤ 40) (hi : i < l.length) (hi2 : i < 80) :
    ∃ got' L', Keeps W got' L' ∧ got' ≤ 100000 ∧ (∀ e ∈ L', e.1 ≤ 40) ∧ E (cs F) 0 f5_b1 (bS W fl l i got L) = some (.norm, bS W fl l (i + 1) got' L') := by
  obtain ⟨n, hn⟩ : ∃ n, n = (l[i]).tmod 40 := ⟨_, rfl⟩
  have hn' := hn.symm
  have hnb : n ≤ 39 := by have := Int.tmod_lt_of_pos l[i] (show (0 : Int) < 40 by omega); omega
  have hp := hK.pos
  have hw := hK.win
  have hlen := hK.len
  have r1 : (rowsBy cInt l)[i]? = some [.int .i64 l[i]] := rowsBy_get cInt hi
  have d1 := dec_lt hi
  have d2 : decide ((i : Int) < 80) = true := by simp; omega
  have q1 : (i : Int) < (l.length : Int) := by omega
  have i0 : (0 : Int) ≤ (i : Int) := by omega
  have hwi : IntKind.i64.wrap ((i : Int) + 1) = ((i + 1 : Nat) : Int) := by rw [wrap64 (by omega) (by omega)]; omega
  have hww : IntKind.i64.wrap (got + W) = got + W := wrap64 (by omega) (by omega)
  have hR1 : RecvAt (upd (upd h0 10450 (some (.map false false false (entsR L)))) 7 (some (.var false [.v (.int .i64 W), .v (.int .i64 got), .m 10450]))) 2000000 7 10450 W got L := RecvAt.mk0 (by omega) (by decide) (by decide) W got L
  have hd1 := held_i hR1 (by omega) hK.nd (hK.bd (by omega))
  have hany := any_held (L := L) (n := n)
  have l2 := bnd_l2 W got n L fl l i (sortI (L.map (·.1))) (by rw [sortI_len, List.length_map]; omega)
  rw [sortI_len, List.length_map, hany] at l2
  have hlo3 : LowH (upd (upd (upd (upd h0 10450 (some (rM L))) 11 (some (.arr false 3 1 (rowsBy cInt (sortI (L.map (·.1))))))) 7 (some (rV W got 10450))) 83 (some (.arr false 5 1 [[.int .u8 1]]))) 3000000 :=
    ((((LowH.h0 _).upd (by decide) rM_mask).upd (by decide) arr_mask).upd (by decide) (rV_mask (by decide))).upd (by decide) arr_mask
  have hR3 : RecvAt (upd (upd (upd (upd h0 10450 (some (rM L))) 11 (some (.arr false 3 1 (rowsBy cInt (sortI (L.map (·.1))))))) 7 (some (rV W got 10450))) 83 (some (.arr false 5 1 [[.int .u8 1]]))) 3000000 7 10450 W got L :=
    ⟨hlo3, by decide, by decide, by decide, rfl, rfl⟩
  have hR4 : ∀ got' L', RecvAt (upd (upd (upd h0 10450 (some (rM L'))) 11 (some (.arr false 3 1 (rowsBy cInt (sortI (L.map (·.1))))))) 7 (some (rV W got' 10450))) 4000000 7 10450 W got' L' := fun got' L' =>
    ⟨(((LowH.h0 _).upd (by decide) rM_mask).upd (by decide) arr_mask).upd (by decide) (rV_mask (by decide)), by decide, by decide, by decide, rfl, rfl⟩
  have hR5 : ∀ got' L', RecvAt (upd (upd h0 10450 (some (.map false false false (entsR L')))) 7 (some (.var false [.v (.int .i64 W), .v (.int .i64 got'), .m 10450]))) 5000000 7 10450 W got' L' := fun got' L' => RecvAt.mk0 (by omega) (by decide) (by decide) W got' L'
  have cI := fun (L' : List Held) (h : L'.length ≤ 1000000) => c_ints .shared .shared (sortI (L.map (·.1))) (sortI (L'.map (·.1))) (by rw [sortI_len, List.length_map]; omega) (by rw [sortI_len, List.length_map]; omega)
  have tk : ∀ L' : List Held, (rowsBy cInt (sortI (L'.map (·.1)))).take L'.length = rowsBy cInt (sortI (L'.map (·.1))) := fun L' => by
    have e : L'.length = (sortI (L'.map (·.1))).length := by rw [sortI_len, List.length_map]
    rw [e, rowsBy_takeAll]
  by_cases hm : mayR W got L n
  · obtain ⟨t, L', hd0, hK', hti, hL'⟩ := hK.take [1] hm
    have hU2 : ∀ e ∈ L ++ [(n, [1])], e.1 ≤ 40 := fun e he => by
      rcases List.mem_append.1 he with he | he
      · exact hU e he
      · simp only [List.mem_singleton] at he; subst he; show n ≤ 40; omega
    have hU' : ∀ e ∈ L', e.1 ≤ 40 := fun e he => hU2 e ((hL' e).1 he).1
    have hT' : got + (t.length : Int) ≤ 100000 := by
      by_cases h : t.length = 0
      · omega
      · have := hU2 _ (hti (t.length - 1) (by omega))
        simp only at this
        omega
    have t1 := take_to (lo := 3000000) (by decide) hR3 hp (by omega) hw (by omega) (seq := n) [1] (by simp) hm (.s 83 0 1) (.inr ⟨83, false, rfl, by decide, rfl⟩) hd0
    have hp' := hK'.pos
    have hlen' := hK'.len
    have hd4 := held_i (hR4 (got + (t.length : Int)) L') (by omega) hK'.nd (hK'.bd (by omega))
    have hd5 := held_i (hR5 (got + (t.length : Int)) L') (by omega) hK'.nd (hK'.bd (by omega))
    have l3 := bnd_l3 W (got + (t.length : Int)) L' fl l i (sortI (L'.map (·.1))) hK'.sorted hp' (by omega) hw (by rw [sortI_len, List.length_map]; omega)
    rw [sortI_len, List.length_map] at l3
    have cI' := cI L' (by omega)
    have tk' := tk L
    have tk2 := tk L'
    obtain ⟨m1, m2, m3⟩ := hm
    have m2' : n > got := by omega
    rw [decide_eq_false (by simpa using m1)] at l2
    refine ⟨got + (t.length : Int), L', hK', hT', hU', ?_⟩
    simp only [reH, rV, rM] at t1 l2 l3 hd4
    by_cases hte : t = []
    · subst hte
      have e1 : got + (([] : List (List UInt8)).length : Int) = got := by simp
      simp only [e1] at t1 hd4 hd5 l3 ⊢
      simp only [toldL, toldH, if_true] at t1
      simp only [f5_b1, bS, rV, rM, r1, d1, d2, q1, i0, hwi, hww, hn', got_c, hd1, l2, t1, hd4, hd5, l3, cI', tk', tk2, m2', m3, decide_false, decide_true, Nat.reduceLT, renP, go_sem, reduceIte, reduceCtorEq, Nat.reduceEqDiff, Nat.reduceAdd, Nat.reduceMul, Nat.reduceLeDiff, Nat.reduceSub, Nat.reduceBEq, List.length_cons, List.length_nil, Int.reduceLT, Int.reduceLE, Int.reduceGT, Int.reduceGE, Int.reduceAdd, Int.reduceSub, Int.reduceMul, Int.reduceNeg, Int.reduceToNat, Int.reduceEq, Int.reduceNe, Int.cast_ofNat_Int, ne_eq, not_true_eq_false, not_false_eq_true, Nat.testBit, Nat.reduceShiftRight, Nat.reduceAnd, Nat.reduceBNe]
    · simp only [toldL, toldH, if_neg hte] at t1
      simp only [f5_b1, bS, rV, rM, r1, d1, d2, q1, i0, hwi, hww, hn', got_c, hd1, l2, t1, hd4, hd5, l3, cI', tk', tk2, m2', m3, decide_false, decide_true, Nat.reduceLT, renP, go_sem, reduceIte, reduceCtorEq, Nat.reduceEqDiff, Nat.reduceAdd, Nat.reduceMul, Nat.reduceLeDiff, Nat.reduceSub, Nat.reduceBEq, List.length_cons, List.length_nil, Int.reduceLT, Int.reduceLE, Int.reduceGT, Int.reduceGE, Int.reduceAdd, Int.reduceSub, Int.reduceMul, Int.reduceNeg, Int.reduceToNat, Int.reduceEq, Int.reduceNe, Int.cast_ofNat_Int, ne_eq, not_true_eq_false, not_false_eq_true, Nat.testBit, Nat.reduceShiftRight, Nat.reduceAnd, Nat.reduceBNe]
  · have t1 := take_no (lo := 3000000) (by decide) hR3 hp (by omega) hw (seq := n) (.s 83 0 1) rfl hm
    have hd4 := held_i (hR4 got L) (by omega) hK.nd (hK.bd (by omega))
    have hd5 := held_i (hR5 got L) (by omega) hK.nd (hK.bd (by omega))
    have l3 := bnd_l3 W got L fl l i (sortI (L.map (·.1))) hK.sorted hp (by omega) hw (by rw [sortI_len, List.length_map]; omega)
    rw [sortI_len, List.length_map] at l3
    have cI' := cI L (by omega)
    refine ⟨got, L, hK, hT, hU, ?_⟩
    simp only [toldL, if_true, rV, rM] at t1 l2 l3 hd4
    by_cases h1 : n ≤ got
    · have g1 : ¬ n > got := by omega
      simp only [f5_b1, bS, rV, rM, r1, d1, d2, q1, i0, hwi, hww, hn', got_c, hd1, l2, t1, hd4, hd5, l3, cI', tk, g1, decide_false, decide_true, Nat.reduceLT, renP, go_sem, reduceIte, reduceCtorEq, Nat.reduceEqDiff, Nat.reduceAdd, Nat.reduceMul, Nat.reduceLeDiff, Nat.reduceSub, Nat.reduceBEq, List.length_cons, List.length_nil, Int.reduceLT, Int.reduceLE, Int.reduceGT, Int.reduceGE, Int.reduceAdd, Int.reduceSub, Int.reduceMul, Int.reduceNeg, Int.reduceToNat, Int.reduceEq, Int.reduceNe, Int.cast_ofNat_Int, ne_eq, not_true_eq_false, not_false_eq_true, Nat.testBit, Nat.reduceShiftRight, Nat.reduceAnd, Nat.reduceBNe]
    · have g1 : n > got := by omega
      by_cases h2 : n ≤ got + W
      · have h3 : ¬ lookR n L = none := fun h => hm ⟨h, by omega, h2⟩
        rw [decide_eq_true h3] at l2
        simp only [f5_b1, bS, rV, rM, r1, d1, d2, q1, i0, hwi, hww, hn', got_c, hd1, l2, t1, hd4, hd5, l3, cI', tk, g1, h2, decide_false, decide_true, Nat.reduceLT, renP, go_sem, reduceIte, reduceCtorEq, Nat.reduceEqDiff, Nat.reduceAdd, Nat.reduceMul, Nat.reduceLeDiff, Nat.reduceSub, Nat.reduceBEq, List.length_cons, List.length_nil, Int.reduceLT, Int.reduceLE, Int.reduceGT, Int.reduceGE, Int.reduceAdd, Int.reduceSub, Int.reduceMul, Int.reduceNeg, Int.reduceToNat, Int.reduceEq, Int.reduceNe, Int.cast_ofNat_Int, ne_eq, not_true_eq_false, not_false_eq_true, Nat.testBit, Nat.reduceShiftRight, Nat.reduceAnd, Nat.reduceBNe]
      · simp only [f5_b1, bS, rV, rM, r1, d1, d2, q1, i0, hwi, hww, hn', got_c, hd1, l2, t1, hd4, hd5, l3, cI', tk, g1, h2, decide_false, decide_true, Nat.reduceLT, renP, go_sem, reduceIte, reduceCtorEq, Nat.reduceEqDiff, Nat.reduceAdd, Nat.reduceMul, Nat.reduceLeDiff, Nat.reduceSub, Nat.reduceBEq, List.length_cons, List.length_nil, Int.reduceLT, Int.reduceLE, Int.reduceGT, Int.reduceGE, Int.reduceAdd, Int.reduceSub, Int.reduceMul, Int.reduceNeg, Int.reduceToNat, Int.reduceEq, Int.reduceNe, Int.cast_ofNat_Int, ne_eq, not_true_eq_false, not_false_eq_true, Nat.testBit, Nat.reduceShiftRight, Nat.reduceAnd, Nat.reduceBNe]
theorem bnd_l (W : Int) (fl : Fl) (l : List Int) : ∀ (m i : Nat) (got : Int) (L : List Held), min l.length 80 - i = m → Keeps W got L → got ≤ 100000 → (∀ e ∈ L, e.1 ≤ 40) → E (cs F) 0 f5_l1 (bS W fl l i got L) = some (.exit 0, ⟨Sx.e0, Sx.h0⟩) := by
  intro m
  induction m with
  | zero =>
    intro i got L hm hK hT hU
    rw [f5_l1_eq]
    by_cases hi : i < l.length
    · have d1 := dec_lt hi
      have d2 : decide ((i : Int) < 80) = false := by simp; omega
      simp only [f5_b1, bS, d1, d2, rV, rM, Nat.reduceLT, decide_true, decide_false, go_sem, reduceIte, reduceCtorEq, Nat.reduceEqDiff, Nat.reduceAdd, Nat.reduceMul, Nat.reduceLeDiff, Nat.reduceSub, Nat.reduceBEq, List.length_cons, List.length_nil, Int.reduceLT, Int.reduceLE, Int.reduceGT, Int.reduceGE, Int.reduceAdd, Int.reduceSub, Int.reduceMul, Int.reduceNeg, Int.reduceToNat, Int.reduceEq, Int.reduceNe, Int.cast_ofNat_Int, ne_eq, not_true_eq_false, not_false_eq_true, Nat.testBit, Nat.reduceShiftRight, Nat.reduceAnd, Nat.reduceBNe]
    · have d1 := dec_ge (i := i) (n := l.length) (by omega)
      simp only [f5_b1, bS, d1, rV, rM, Nat.reduceLT, decide_true, decide_false, go_sem, reduceIte, reduceCtorEq, Nat.reduceEqDiff, Nat.reduceAdd, Nat.reduceMul, Nat.reduceLeDiff, Nat.reduceSub, Nat.reduceBEq, List.length_cons, List.length_nil, Int.reduceLT, Int.reduceLE, Int.reduceGT, Int.reduceGE, Int.reduceAdd, Int.reduceSub, Int.reduceMul, Int.reduceNeg, Int.reduceToNat, Int.reduceEq, Int.reduceNe, Int.cast_ofNat_Int, ne_eq, not_true_eq_false, not_false_eq_true, Nat.testBit, Nat.reduceShiftRight, Nat.reduceAnd, Nat.reduceBNe]
  | succ m ih =>
    intro i got L hm hK hT hU
    obtain ⟨got', L', h1, h2, h3, h4⟩ := bnd_b W fl l i got L hK hT hU (by omega) (by omega)
    rw [f5_l1_eq, h4]
    exact ih (i + 1) got' L' (by omega) h1 h2 h3
theorem and15 (w : Int) : 0 ≤ andB .i64 w 15 ∧ andB .i64 w 15 ≤ 15 := by
  unfold andB
  have h1 : (BitVec.ofInt (IntKind.i64.bits) w &&& BitVec.ofInt (IntKind.i64.bits) 15).toNat ≤ 15 := by
    rw [BitVec.toNat_and]
    exact Nat.le_trans Nat.and_le_right (by decide)
  omega
theorem t_bounds (w : Int) (fl : Fl) (l : List Int) : call F 5 [.int .i64 w, .sl fl 1 (rowsBy cInt l)] = some (.bool true) := by
  obtain ⟨a1, a2⟩ := and15 w
  obtain ⟨W, hW⟩ : ∃ W, W = 1 + andB .i64 w 15 := ⟨_, rfl⟩
  have hw1 : IntKind.i64.wrap (andB .i64 w 15) = andB .i64 w 15 := wrap64 (by omega) (by omega)
  have hw2 : IntKind.i64.wrap (1 + andB .i64 w 15) = W := by rw [wrap64 (by omega) (by omega), hW]
  have hw3 : winR W = W := by unfold winR; omega
  have hl := bnd_l W fl l _ 0 0 [] rfl (Keeps.new ⟨by omega, by omega⟩) (by decide) (fun e he => by simp at he)
  have e0 : entsR [] = [] := rfl
  simp only [bS, rV, rM, e0, nat0] at hl
  rw [call_code F (show F 5 = some (.code f5) from rfl)]
  simp only [f5, t_shown, new_i _ _ (LowH.h0 _), hw1, hw2, hw3, hl, Nat.reduceLT, renP, go_sem, reduceIte, reduceCtorEq, Nat.reduceEqDiff, Nat.reduceAdd, Nat.reduceMul, Nat.reduceLeDiff, Nat.reduceSub, Nat.reduceBEq, List.length_cons, List.length_nil, Int.reduceLT, Int.reduceLE, Int.reduceGT, Int.reduceGE, Int.reduceAdd, Int.reduceSub, Int.reduceMul, Int.reduceNeg, Int.reduceToNat, Int.reduceEq, Int.reduceNe, Int.cast_ofNat_Int, ne_eq, not_true_eq_false, not_false_eq_true, Nat.testBit, Nat.reduceShiftRight, Nat.reduceAnd, Nat.reduceBNe]
end Go.Proofs.Ytkliiknolnodjaa.Sx
namespace Go.Proofs.Ytkliiknolnodjaa.Sx
open Go
open Classical in
/-- a take in plain words: what is told, whether it was refused, what is got then and what is held -/
noncomputable def takeR (W got : Int) (L : List Held) (seq : Int) (b : List UInt8) : List (List UInt8) × Int × Int × List Held :=
  if mayR W got L seq then ((drainR (L.length + 1) got (L ++ [(seq, b)])).1, 0, (drainR (L.length + 1) got (L ++ [(seq, b)])).2.1, (drainR (L.length + 1) got (L ++ [(seq, b)])).2.2) else ([], 22, got, L)
theorem take_r {lo : Nat} (hlt : lo < 1000000000000) {id mid : Nat} {W got : Int} {L : List Held} {g : Hp} (hR : RecvAt g lo id mid W got L) (h0 : 0 ≤ got) (h1 : got ≤ 1000000) (hW : 1 ≤ W ∧ W ≤ 64) (hL : L.length ≤ 1000000) {seq : Int} (b : List UInt8) (hb : b.length ≤ 100000)
    (x : LV) (hx : x = .v (.sl .shared 1 (rowsBy cByte b)) ∨ ∃ bid fz, x = .s bid 0 b.length ∧ bid < lo ∧ g bid = some (.arr fz 5 1 (rowsBy cByte b))) {t : List (List UInt8)} {e got' : Int} {L' : List Held} (hr : takeR W got L seq b = (t, e, got', L')) :
    calli F 10 lo g [.p id 0, .v (.int .i64 seq), x] = some (toldL lo t e, toldH lo t (reH g id mid W got' L')) := by
  unfold takeR at hr
  split at hr
  · rename_i hm
    cases hr
    exact take_ok hlt hR h0 h1 hW hL b hb hm x hx
  · rename_i hm
    cases hr
    have hmask : maskL lo [] x = x := by
      rcases hx with rfl | ⟨bid, fz, rfl, hbl, _⟩
      · rfl
      · simp only [maskL, maskC, lk, if_pos hbl, renS]
    rw [take_no hlt hR h0 h1 hW x hmask hm, reH_id hR]
    simp only [toldH, if_true]
theorem Keeps.takeR {W got : Int} {L : List Held} (h : Keeps W got L) {seq : Int} {b : List UInt8} {t : List (List UInt8)} {e got' : Int} {L' : List Held} (hr : Sx.takeR W got L seq b = (t, e, got', L')) {B : Int} (hB : ∀ e ∈ L, e.1 ≤ B) (hs : seq ≤ B) (hg : got ≤ B) :
    Keeps W got' L' ∧ (∀ e ∈ L', e.1 ≤ B) ∧ got' ≤ B ∧ (∀ x ∈ t, x = b ∨ x ∈ L.map (·.2)) ∧ (t.length : Int) ≤ B := by
  unfold Sx.takeR at hr
  split at hr
  · rename_i hm
    obtain ⟨t2, L2, h1, h2, h3, h4⟩ := h.take b hm
    rw [h1] at hr
    cases hr
    have hall : ∀ e ∈ L ++ [(seq, b)], e.1 ≤ B := fun e he => by
      rcases List.mem_append.1 he with he | he
      · exact hB e he
      · simp only [List.mem_singleton] at he; subst he; exact hs
    have hp := h.pos
    refine ⟨h2, fun e he => hall e ((h4 e).1 he).1, ?_, fun x hx => ?_, ?_⟩
    · show got + (t2.length : Int) ≤ B
      by_cases h : t2.length = 0
      · omega
      · have := hall _ (h3 (t2.length - 1) (by omega))
        simp only at this
        omega
    · obtain ⟨i, hi, rfl⟩ := List.getElem_of_mem hx
      rcases List.mem_append.1 (h3 i hi) with he | he
      · exact .inr (List.mem_map_of_mem (f := (·.2)) he)
      · simp only [List.mem_singleton, Prod.mk.injEq] at he
        exact .inl he.2
    · show (t2.length : Int) ≤ B
      by_cases h : t2.length = 0
      · omega
      · have := hall _ (h3 (t2.length - 1) (by omega))
        simp only at this
        omega
  · cases hr
    exact ⟨h, hB, hg, by simp, by simp; have := h.pos; omega⟩
theorem c_same (fa fb : Fl) (a b : List (List UInt8)) (ha : a.length ≤ 1000000) (hb : b.length ≤ 1000000) : call F 18 [.sl fa 1 (rowsBy cBs a), .sl fb 1 (rowsBy cBs b)] = some (.bool (decide (a = b))) := by
  by_cases hl : a.length = b.length
  · have hq : ∀ x y : List UInt8, (fun x y : List UInt8 => (x == y)) x y = decide (x = y) := fun x y => by
      by_cases h : x = y
      · subst h; simp
      · simp [h]
    have hL := loop_any (C := cs F) (lo := 0) (b := f18_b1) (fun i => (⟨(upd (upd (upd Sx.e0 5 (.v (.int .i64 (i : Int)))) 1 (.v (.sl fb 1 (rowsBy cBs b)))) 0 (.v (.sl fa 1 (rowsBy cBs a)))), Sx.h0⟩ : St)) (pairB (fun x y => (x == y)) a b) a.length
      (r := (.ret, (⟨(upd Sx.e0 4 (.v (.bool false))), Sx.h0⟩ : St))) (re := (.exit 0, (⟨Sx.e0, Sx.h0⟩ : St))) (fun i hi hp => by
        rw [pairB_at hi (by omega)] at hp
        have d1 := dec_lt hi
        have q1 : (i : Int) < (a.length : Int) := by omega
        have q2 : (i : Int) < (b.length : Int) := by omega
        have r1 : (rowsBy cBs a)[i]? = some [.sl .shared 1 (rowsBy cByte a[i])] := rowsBy_get cBs hi
        have r2 : (rowsBy cBs b)[i]? = some [.sl .shared 1 (rowsBy cByte (b[i]'(by omega)))] := rowsBy_get cBs (by omega)
        have hw := wrap_succ hi (by omega)
        have he : (a[i] == b[i]'(by omega)) = true := by simpa using hp
        have i0 : (0 : Int) ≤ (i : Int) := by omega
        simp only [f18_b1, d1, q1, q2, r1, r2, hw, he, i0, Nat.reduceLT, decide_true, decide_false, Bool.not_true, go_sem, reduceIte, reduceCtorEq, Nat.reduceEqDiff, Nat.reduceAdd, Nat.reduceMul, Nat.reduceLeDiff, Nat.reduceSub, Nat.reduceBEq, List.length_cons, List.length_nil, Int.reduceLT, Int.reduceLE, Int.reduceGT, Int.reduceGE, Int.reduceAdd, Int.reduceSub, Int.reduceMul, Int.reduceNeg, Int.reduceToNat, Int.reduceEq, Int.reduceNe, Int.cast_ofNat_Int, ne_eq, not_true_eq_false, not_false_eq_true, Nat.testBit, Nat.reduceShiftRight, Nat.reduceAnd, Nat.reduceBNe]) (fun i hi hp => by
        rw [pairB_at hi (by omega)] at hp
        have d1 := dec_lt hi
        have q1 : (i : Int) < (a.length : Int) := by omega
        have q2 : (i : Int) < (b.length : Int) := by omega
        have r1 : (rowsBy cBs a)[i]? = some [.sl .shared 1 (rowsBy cByte a[i])] := rowsBy_get cBs hi
        have r2 : (rowsBy cBs b)[i]? = some [.sl .shared 1 (rowsBy cByte (b[i]'(by omega)))] := rowsBy_get cBs (by omega)
        have he : (a[i] == b[i]'(by omega)) = false := by simpa using hp
        have i0 : (0 : Int) ≤ (i : Int) := by omega
        simp only [f18_b1, d1, q1, q2, r1, r2, he, i0, Nat.reduceLT, decide_true, decide_false, Bool.not_false, go_sem, reduceIte, reduceCtorEq, Nat.reduceEqDiff, Nat.reduceAdd, Nat.reduceMul, Nat.reduceLeDiff, Nat.reduceSub, Nat.reduceBEq, List.length_cons, List.length_nil, Int.reduceLT, Int.reduceLE, Int.reduceGT, Int.reduceGE, Int.reduceAdd, Int.reduceSub, Int.reduceMul, Int.reduceNeg, Int.reduceToNat, Int.reduceEq, Int.reduceNe, Int.cast_ofNat_Int, ne_eq, not_true_eq_false, not_false_eq_true, Nat.testBit, Nat.reduceShiftRight, Nat.reduceAnd, Nat.reduceBNe]) (by simp) (by
        have d1 : decide ((a.length : Int) < (a.length : Int)) = false := by simp
        simp only [f18_b1, d1, Nat.reduceLT, go_sem, reduceIte, reduceCtorEq, Nat.reduceEqDiff, Nat.reduceAdd, Nat.reduceMul, Nat.reduceLeDiff, Nat.reduceSub, Nat.reduceBEq, List.length_cons, List.length_nil, Int.reduceLT, Int.reduceLE, Int.reduceGT, Int.reduceGE, Int.reduceAdd, Int.reduceSub, Int.reduceMul, Int.reduceNeg, Int.reduceToNat, Int.reduceEq, Int.reduceNe, Int.cast_ofNat_Int, ne_eq, not_true_eq_false, not_false_eq_true, Nat.testBit, Nat.reduceShiftRight, Nat.reduceAnd, Nat.reduceBNe]) (by simp)
    rw [pairB_eq hq hl] at hL
    simp only [nat0] at hL
    have hLL : E (cs F) 0 f18_l1 _ = _ := hL
    by_cases he : a = b
    · subst he
      simp only [decide_true, Bool.not_true, Bool.false_eq_true, if_false] at hLL
      rw [call_code F (show F 18 = some (.code f18) from rfl)]
      simp only [f18, hLL, Nat.reduceLT, decide_true, go_sem, reduceIte, reduceCtorEq, Nat.reduceEqDiff, Nat.reduceAdd, Nat.reduceMul, Nat.reduceLeDiff, Nat.reduceSub, Nat.reduceBEq, List.length_cons, List.length_nil, Int.reduceLT, Int.reduceLE, Int.reduceGT, Int.reduceGE, Int.reduceAdd, Int.reduceSub, Int.reduceMul, Int.reduceNeg, Int.reduceToNat, Int.reduceEq, Int.reduceNe, Int.cast_ofNat_Int, ne_eq, not_true_eq_false, not_false_eq_true, Nat.testBit, Nat.reduceShiftRight, Nat.reduceAnd, Nat.reduceBNe]
    · simp only [decide_eq_false he, Bool.not_false, if_true] at hLL
      have hl2 : ¬ ((a.length : Int) = (b.length : Int)) ↔ False := by simp; omega
      rw [call_code F (show F 18 = some (.code f18) from rfl)]
      simp only [f18, hLL, hl2, decide_eq_false he, Nat.reduceLT, decide_false, go_sem, reduceIte, reduceCtorEq, Nat.reduceEqDiff, Nat.reduceAdd, Nat.reduceMul, Nat.reduceLeDiff, Nat.reduceSub, Nat.reduceBEq, List.length_cons, List.length_nil, Int.reduceLT, Int.reduceLE, Int.reduceGT, Int.reduceGE, Int.reduceAdd, Int.reduceSub, Int.reduceMul, Int.reduceNeg, Int.reduceToNat, Int.reduceEq, Int.reduceNe, Int.cast_ofNat_Int, ne_eq, not_true_eq_false, not_false_eq_true, Nat.testBit, Nat.reduceShiftRight, Nat.reduceAnd, Nat.reduceBNe]
  · have he : ¬ a = b := fun e => hl (by rw [e])
    have hl2 : ((a.length : Int) = (b.length : Int)) = False := by simp; omega
    rw [call_code F (show F 18 = some (.code f18) from rfl)]
    simp only [f18, hl2, decide_eq_false he, Nat.reduceLT, decide_false, decide_true, go_sem, reduceIte, reduceCtorEq, Nat.reduceEqDiff, Nat.reduceAdd, Nat.reduceMul, Nat.reduceLeDiff, Nat.reduceSub, Nat.reduceBEq, List.length_cons, List.length_nil, Int.reduceLT, Int.reduceLE, Int.reduceGT, Int.reduceGE, Int.reduceAdd, Int.reduceSub, Int.reduceMul, Int.reduceNeg, Int.reduceToNat, Int.reduceEq, Int.reduceNe, Int.cast_ofNat_Int, ne_eq, not_true_eq_false, not_false_eq_true, Nat.testBit, Nat.reduceShiftRight, Nat.reduceAnd, Nat.reduceBNe]
def cpS (l m : List Int) (fl fm : Fl) (i : Nat) (got : Int) (L : List Held) : St :=
  (⟨(upd (upd (upd (upd (upd Sx.e0 8 (.v (.int .i64 (i : Int)))) 7 (.p 7 0)) 6 (.p 6 0)) 1 (.v (.sl fm 1 (rowsBy cInt m)))) 0 (.v (.sl fl 1 (rowsBy cInt l)))), (upd (upd (upd (upd Sx.h0 10450 (some (rM L))) 10386 (some (rM L))) 7 (some (rV 20 got 10450))) 6 (some (rV 20 got 10386)))⟩ : St)
theorem copy_b1 (l m : List Int) (fl fm : Fl) (i : Nat) (got : Int) (L : List Held) (hK : Keeps 20 got L) (hB : ∀ e ∈ L, e.1 ≤ 19) (hg : got ≤ 19) (hi : i < l.length) (hi2 : i < 40) :
    ∃ got' L', Keeps 20 got' L' ∧ (∀ e ∈ L', e.1 ≤ 19) ∧ got' ≤ 19 ∧ E (cs F) 0 f7_b1 (cpS l m fl fm i got L) = some (.norm, cpS l m fl fm (i + 1) got' L') := by
  obtain ⟨n, hn⟩ : ∃ n, n = (l[i]).tmod 20 := ⟨_, rfl⟩
  have hn' := hn.symm
  have hnb : n ≤ 19 := by have := Int.tmod_lt_of_pos l[i] (show (0 : Int) < 20 by omega); omega
  obtain ⟨t, e, got', L', hr⟩ : ∃ t e got' L', takeR 20 got L n [u8 n] = (t, e, got', L') := ⟨_, _, _, _, rfl⟩
  obtain ⟨hK', hB', hg', _, _⟩ := hK.takeR hr hB hnb hg
  have hp := hK.pos
  have hp' := hK'.pos
  have hlen := hK.len
  have r1 : (rowsBy cInt l)[i]? = some [.int .i64 l[i]] := rowsBy_get cInt hi
  have d1 := dec_lt hi
  have d2 : decide ((i : Int) < 40) = true := by simp; omega
  have q1 : (i : Int) < (l.length : Int) := by omega
  have i0 : (0 : Int) ≤ (i : Int) := by omega
  have hwi : IntKind.i64.wrap ((i : Int) + 1) = ((i + 1 : Nat) : Int) := by rw [wrap64 (by omega) (by omega)]; omega
  have hRa : RecvAt (upd (upd (upd (upd (upd h0 10450 (some (rM L))) 10386 (some (rM L))) 10 (some (.arr false 5 1 [[.int .u8 (IntKind.u8.wrap n)]]))) 7 (some (rV 20 got 10450))) 6 (some (rV 20 got 10386))) 3000000 6 10386 20 got L :=
    ⟨(((((LowH.h0 _).upd (by decide) rM_mask).upd (by decide) rM_mask).upd (by decide) arr_mask).upd (by decide) (rV_mask (by decide))).upd (by decide) (rV_mask (by decide)), by decide, by decide, by decide, rfl, rfl⟩
  have hRb : RecvAt (upd (upd (upd (upd (upd h0 10450 (some (rM L))) 10386 (some (rM L'))) 7 (some (rV 20 got 10450))) 6 (some (rV 20 got' 10386))) 60 (some (.arr false 5 1 [[.int .u8 (IntKind.u8.wrap n)]]))) 4000000 7 10450 20 got L :=
    ⟨(((((LowH.h0 _).upd (by decide) rM_mask).upd (by decide) rM_mask).upd (by decide) (rV_mask (by decide))).upd (by decide) (rV_mask (by decide))).upd (by decide) arr_mask, by decide, by decide, by decide, rfl, rfl⟩
  have t1 := take_r (by decide) hRa hp (by omega) ⟨by decide, by decide⟩ (by omega) (seq := n) [u8 n] (by simp) (.s 10 0 1) (.inr ⟨10, false, rfl, by decide, by rw [u8_row]; rfl⟩) hr
  have t2 := take_r (by decide) hRb hp (by omega) ⟨by decide, by decide⟩ (by omega) (seq := n) [u8 n] (by simp) (.s 60 0 1) (.inr ⟨60, false, rfl, by decide, by rw [u8_row]; rfl⟩) hr
  refine ⟨got', L', hK', hB', hg', ?_⟩
  simp only [reH, rV, rM] at t1 t2
  by_cases ht : t = []
  · simp only [toldL, toldH, if_pos ht] at t1 t2
    simp only [f7_b1, cpS, rV, rM, r1, d1, d2, q1, i0, hwi, hn', t1, t2, Nat.reduceLT, renP, decide_true, decide_false, go_sem, reduceIte, reduceCtorEq, Nat.reduceEqDiff, Nat.reduceAdd, Nat.reduceMul, Nat.reduceLeDiff, Nat.reduceSub, Nat.reduceBEq, List.length_cons, List.length_nil, Int.reduceLT, Int.reduceLE, Int.reduceGT, Int.reduceGE, Int.reduceAdd, Int.reduceSub, Int.reduceMul, Int.reduceNeg, Int.reduceToNat, Int.reduceEq, Int.reduceNe, Int.cast_ofNat_Int, ne_eq, not_true_eq_false, not_false_eq_true, Nat.testBit, Nat.reduceShiftRight, Nat.reduceAnd, Nat.reduceBNe]
  · simp only [toldL, toldH, if_neg ht] at t1 t2
    simp only [f7_b1, cpS, rV, rM, r1, d1, d2, q1, i0, hwi, hn', t1, t2, Nat.reduceLT, renP, decide_true, decide_false, go_sem, reduceIte, reduceCtorEq, Nat.reduceEqDiff, Nat.reduceAdd, Nat.reduceMul, Nat.reduceLeDiff, Nat.reduceSub, Nat.reduceBEq, List.length_cons, List.length_nil, Int.reduceLT, Int.reduceLE, Int.reduceGT, Int.reduceGE, Int.reduceAdd, Int.reduceSub, Int.reduceMul, Int.reduceNeg, Int.reduceToNat, Int.reduceEq, Int.reduceNe, Int.cast_ofNat_Int, ne_eq, not_true_eq_false, not_false_eq_true, Nat.testBit, Nat.reduceShiftRight, Nat.reduceAnd, Nat.reduceBNe]
def cpS1 (m : List Int) (fm : Fl) (got : Int) (L : List Held) : St :=
  (⟨(upd (upd (upd Sx.e0 7 (.p 7 0)) 6 (.p 6 0)) 1 (.v (.sl fm 1 (rowsBy cInt m)))), (upd (upd (upd (upd Sx.h0 10450 (some (rM L))) 10386 (some (rM L))) 7 (some (rV 20 got 10450))) 6 (some (rV 20 got 10386)))⟩ : St)
theorem copy_l1 (l m : List Int) (fl fm : Fl) : ∀ (k i : Nat) (got : Int) (L : List Held), min l.length 40 - i = k → Keeps 20 got L → (∀ e ∈ L, e.1 ≤ 19) → got ≤ 19 →
    ∃ got' L', Keeps 20 got' L' ∧ (∀ e ∈ L', e.1 ≤ 19) ∧ got' ≤ 19 ∧ E (cs F) 0 f7_l1 (cpS l m fl fm i got L) = some (.exit 0, cpS1 m fm got' L') := by
  intro k
  induction k with
  | zero =>
    intro i got L hk hK hB hg
    refine ⟨got, L, hK, hB, hg, ?_⟩
    rw [f7_l1_eq]
    by_cases hi : i < l.length
    · have d1 := dec_lt hi
      have d2 : decide ((i : Int) < 40) = false := by simp; omega
      simp only [f7_b1, cpS, cpS1, d1, d2, rV, rM, Nat.reduceLT, decide_true, decide_false, go_sem, reduceIte, reduceCtorEq, Nat.reduceEqDiff, Nat.reduceAdd, Nat.reduceMul, Nat.reduceLeDiff, Nat.reduceSub, Nat.reduceBEq, List.length_cons, List.length_nil, Int.reduceLT, Int.reduceLE, Int.reduceGT, Int.reduceGE, Int.reduceAdd, Int.reduceSub, Int.reduceMul, Int.reduceNeg, Int.reduceToNat, Int.reduceEq, Int.reduceNe, Int.cast_ofNat_Int, ne_eq, not_true_eq_false, not_false_eq_true, Nat.testBit, Nat.reduceShiftRight, Nat.reduceAnd, Nat.reduceBNe]
    · have d1 := dec_ge (i := i) (n := l.length) (by omega)
      simp only [f7_b1, cpS, cpS1, d1, rV, rM, Nat.reduceLT, decide_true, decide_false, go_sem, reduceIte, reduceCtorEq, Nat.reduceEqDiff, Nat.reduceAdd, Nat.reduceMul, Nat.reduceLeDiff, Nat.reduceSub, Nat.reduceBEq, List.length_cons, List.length_nil, Int.reduceLT, Int.reduceLE, Int.reduceGT, Int.reduceGE, Int.reduceAdd, Int.reduceSub, Int.reduceMul, Int.reduceNeg, Int.reduceToNat, Int.reduceEq, Int.reduceNe, Int.cast_ofNat_Int, ne_eq, not_true_eq_false, not_false_eq_true, Nat.testBit, Nat.reduceShiftRight, Nat.reduceAnd, Nat.reduceBNe]
  | succ k ih =>
    intro i got L hk hK hB hg
    obtain ⟨got', L', h1, h2, h3, h4⟩ := copy_b1 l m fl fm i got L hK hB hg (by omega) (by omega)
    obtain ⟨g2, L2, h5, h6, h7, h8⟩ := ih (i + 1) got' L' (by omega) h1 h2 h3
    exact ⟨g2, L2, h5, h6, h7, by rw [f7_l1_eq, h4]; exact h8⟩
def cpS2 (m : List Int) (fm : Fl) (i : Nat) (got : Int) (L : List Held) (gc : Int) (Lc : List Held) : St :=
  (⟨(upd (upd (upd (upd (upd Sx.e0 12 (.v (.int .i64 (i : Int)))) 11 (.p 11 0)) 7 (.p 7 0)) 6 (.p 6 0)) 1 (.v (.sl fm 1 (rowsBy cInt m)))), (upd (upd (upd (upd (upd (upd Sx.h0 10706 (some (rM Lc))) 10450 (some (rM L))) 10386 (some (rM L))) 11 (some (rV 20 gc 10706))) 7 (some (rV 20 got 10450))) 6 (some (rV 20 got 10386)))⟩ : St)
theorem copy_b2 (m : List Int) (fm : Fl) (i : Nat) (got : Int) (L : List Held) (gc : Int) (Lc : List Held) (hK : Keeps 20 gc Lc) (hB : ∀ e ∈ Lc, e.1 ≤ 19) (hg : gc ≤ 19) (hi : i < m.length) (hi2 : i < 40) :
    ∃ got' L', Keeps 20 got' L' ∧ (∀ e ∈ L', e.1 ≤ 19) ∧ got' ≤ 19 ∧ E (cs F) 0 f7_b2 (cpS2 m fm i got L gc Lc) = some (.norm, cpS2 m fm (i + 1) got L got' L') := by
  obtain ⟨n, hn⟩ : ∃ n, n = (m[i]).tmod 20 := ⟨_, rfl⟩
  have hn' := hn.symm
  have hnb : n ≤ 19 := by have := Int.tmod_lt_of_pos m[i] (show (0 : Int) < 20 by omega); omega
  obtain ⟨t, e, got', L', hr⟩ : ∃ t e got' L', takeR 20 gc Lc n [7] = (t, e, got', L') := ⟨_, _, _, _, rfl⟩
  obtain ⟨hK', hB', hg', _, _⟩ := hK.takeR hr hB hnb hg
  have hp := hK.pos
  have hlen := hK.len
  have r1 : (rowsBy cInt m)[i]? = some [.int .i64 m[i]] := rowsBy_get cInt hi
  have d1 := dec_lt hi
  have d2 : decide ((i : Int) < 40) = true := by simp; omega
  have q1 : (i : Int) < (m.length : Int) := by omega
  have i0 : (0 : Int) ≤ (i : Int) := by omega
  have hwi : IntKind.i64.wrap ((i : Int) + 1) = ((i + 1 : Nat) : Int) := by rw [wrap64 (by omega) (by omega)]; omega
  have hRa : RecvAt (upd (upd (upd (upd (upd (upd (upd h0 10706 (some (rM Lc))) 10450 (some (rM L))) 10386 (some (rM L))) 11 (some (rV 20 gc 10706))) 7 (some (rV 20 got 10450))) 6 (some (rV 20 got 10386))) 82 (some (.arr false 5 1 [[.int .u8 7]]))) 6000000 11 10706 20 gc Lc :=
    ⟨(((((((LowH.h0 _).upd (by decide) rM_mask).upd (by decide) rM_mask).upd (by decide) rM_mask).upd (by decide) (rV_mask (by decide))).upd (by decide) (rV_mask (by decide))).upd (by decide) (rV_mask (by decide))).upd (by decide) arr_mask, by decide, by decide, by decide, rfl, rfl⟩
  have t1 := take_r (by decide) hRa hp (by omega) ⟨by decide, by decide⟩ (by omega) (seq := n) [7] (by simp) (.s 82 0 1) (.inr ⟨82, false, rfl, by decide, rfl⟩) hr
  refine ⟨got', L', hK', hB', hg', ?_⟩
  simp only [reH, rV, rM] at t1
  by_cases ht : t = []
  · simp only [toldL, toldH, if_pos ht] at t1
    simp only [f7_b2, cpS2, rV, rM, r1, d1, d2, q1, i0, hwi, hn', t1, Nat.reduceLT, renP, decide_true, decide_false, go_sem, reduceIte, reduceCtorEq, Nat.reduceEqDiff, Nat.reduceAdd, Nat.reduceMul, Nat.reduceLeDiff, Nat.reduceSub, Nat.reduceBEq, List.length_cons, List.length_nil, Int.reduceLT, Int.reduceLE, Int.reduceGT, Int.reduceGE, Int.reduceAdd, Int.reduceSub, Int.reduceMul, Int.reduceNeg, Int.reduceToNat, Int.reduceEq, Int.reduceNe, Int.cast_ofNat_Int, ne_eq, not_true_eq_false, not_false_eq_true, Nat.testBit, Nat.reduceShiftRight, Nat.reduceAnd, Nat.reduceBNe]
  · simp only [toldL, toldH, if_neg ht] at t1
    simp only [f7_b2, cpS2, rV, rM, r1, d1, d2, q1, i0, hwi, hn', t1, Nat.reduceLT, renP, decide_true, decide_false, go_sem, reduceIte, reduceCtorEq, Nat.reduceEqDiff, Nat.reduceAdd, Nat.reduceMul, Nat.reduceLeDiff, Nat.reduceSub, Nat.reduceBEq, List.length_cons, List.length_nil, Int.reduceLT, Int.reduceLE, Int.reduceGT, Int.reduceGE, Int.reduceAdd, Int.reduceSub, Int.reduceMul, Int.reduceNeg, Int.reduceToNat, Int.reduceEq, Int.reduceNe, Int.cast_ofNat_Int, ne_eq, not_true_eq_false, not_false_eq_true, Nat.testBit, Nat.reduceShiftRight, Nat.reduceAnd, Nat.reduceBNe]
def cpS3 (got : Int) (L : List Held) : St := (⟨(upd (upd Sx.e0 7 (.p 7 0)) 6 (.p 6 0)), (upd (upd (upd (upd Sx.h0 10450 (some (rM L))) 10386 (some (rM L))) 7 (some (rV 20 got 10450))) 6 (some (rV 20 got 10386)))⟩ : St)
theorem copy_l2 (m : List Int) (fm : Fl) (got : Int) (L : List Held) : ∀ (k i : Nat) (gc : Int) (Lc : List Held), min m.length 40 - i = k → Keeps 20 gc Lc → (∀ e ∈ Lc, e.1 ≤ 19) → gc ≤ 19 →
    E (cs F) 0 f7_l2 (cpS2 m fm i got L gc Lc) = some (.exit 2, cpS3 got L) := by
  intro k
  induction k with
  | zero =>
    intro i gc Lc hk hK hB hg
    rw [f7_l2_eq]
    by_cases hi : i < m.length
    · have d1 := dec_lt hi
      have d2 : decide ((i : Int) < 40) = false := by simp; omega
      simp only [f7_b2, cpS2, cpS3, d1, d2, rV, rM, Nat.reduceLT, decide_true, decide_false, go_sem, reduceIte, reduceCtorEq, Nat.reduceEqDiff, Nat.reduceAdd, Nat.reduceMul, Nat.reduceLeDiff, Nat.reduceSub, Nat.reduceBEq, List.length_cons, List.length_nil, Int.reduceLT, Int.reduceLE, Int.reduceGT, Int.reduceGE, Int.reduceAdd, Int.reduceSub, Int.reduceMul, Int.reduceNeg, Int.reduceToNat, Int.reduceEq, Int.reduceNe, Int.cast_ofNat_Int, ne_eq, not_true_eq_false, not_false_eq_true, Nat.testBit, Nat.reduceShiftRight, Nat.reduceAnd, Nat.reduceBNe]
    · have d1 := dec_ge (i := i) (n := m.length) (by omega)
      simp only [f7_b2, cpS2, cpS3, d1, rV, rM, Nat.reduceLT, decide_true, decide_false, go_sem, reduceIte, reduceCtorEq, Nat.reduceEqDiff, Nat.reduceAdd, Nat.reduceMul, Nat.reduceLeDiff, Nat.reduceSub, Nat.reduceBEq, List.length_cons, List.length_nil, Int.reduceLT, Int.reduceLE, Int.reduceGT, Int.reduceGE, Int.reduceAdd, Int.reduceSub, Int.reduceMul, Int.reduceNeg, Int.reduceToNat, Int.reduceEq, Int.reduceNe, Int.cast_ofNat_Int, ne_eq, not_true_eq_false, not_false_eq_true, Nat.testBit, Nat.reduceShiftRight, Nat.reduceAnd, Nat.reduceBNe]
  | succ k ih =>
    intro i gc Lc hk hK hB hg
    obtain ⟨got', L', h1, h2, h3, h4⟩ := copy_b2 m fm i got L gc Lc hK hB hg (by omega) (by omega)
    rw [f7_l2_eq, h4]
    exact ih (i + 1) got' L' (by omega) h1 h2 h3
def cpS4 (n : Int) (got : Int) (L : List Held) : St := (⟨(upd (upd (upd Sx.e0 13 (.v (.int .i64 n))) 7 (.p 7 0)) 6 (.p 6 0)), (upd (upd (upd (upd Sx.h0 10450 (some (rM L))) 10386 (some (rM L))) 7 (some (rV 20 got 10450))) 6 (some (rV 20 got 10386)))⟩ : St)
theorem copy_b3 (n : Int) (got : Int) (L : List Held) (hK : Keeps 20 got L) (hB : ∀ e ∈ L, e.1 ≤ 19) (hg : got ≤ 19) (hn : n < 20) (hn0 : 0 ≤ n) :
    ∃ got' L', Keeps 20 got' L' ∧ (∀ e ∈ L', e.1 ≤ 19) ∧ got' ≤ 19 ∧ E (cs F) 0 f7_b3 (cpS4 n got L) = some (.norm, cpS4 (n + 1) got' L') := by
  obtain ⟨t, e, got', L', hr⟩ : ∃ t e got' L', takeR 20 got L n [u8 n] = (t, e, got', L') := ⟨_, _, _, _, rfl⟩
  obtain ⟨hK', hB', hg', _, htl⟩ := hK.takeR hr hB (by omega) hg
  have hp := hK.pos
  have hlen := hK.len
  have d1 : decide (n < 20) = true := by simp; omega
  have hwi : IntKind.i64.wrap (n + 1) = n + 1 := wrap64 (by omega) (by omega)
  have hRa : RecvAt (upd (upd (upd (upd (upd h0 10450 (some (rM L))) 10386 (some (rM L))) 7 (some (rV 20 got 10450))) 6 (some (rV 20 got 10386))) 109 (some (.arr false 5 1 [[.int .u8 (IntKind.u8.wrap n)]]))) 9000000 6 10386 20 got L :=
    ⟨(((((LowH.h0 _).upd (by decide) rM_mask).upd (by decide) rM_mask).upd (by decide) (rV_mask (by decide))).upd (by decide) (rV_mask (by decide))).upd (by decide) arr_mask, by decide, by decide, by decide, rfl, rfl⟩
  have t1 := take_r (by decide) hRa hp (by omega) ⟨by decide, by decide⟩ (by omega) (seq := n) [u8 n] (by simp) (.s 109 0 1) (.inr ⟨109, false, rfl, by decide, by rw [u8_row]; rfl⟩) hr
  refine ⟨got', L', hK', hB', hg', ?_⟩
  by_cases ht : t = []
  · have hRb : RecvAt (upd (upd (upd (upd (upd h0 10450 (some (rM L))) 10386 (some (rM L'))) 7 (some (rV 20 got 10450))) 6 (some (rV 20 got' 10386))) 118 (some (.arr false 5 1 [[.int .u8 (IntKind.u8.wrap n)]]))) 10000000 7 10450 20 got L :=
      ⟨(((((LowH.h0 _).upd (by decide) rM_mask).upd (by decide) rM_mask).upd (by decide) (rV_mask (by decide))).upd (by decide) (rV_mask (by decide))).upd (by decide) arr_mask, by decide, by decide, by decide, rfl, rfl⟩
    have t2 := take_r (by decide) hRb hp (by omega) ⟨by decide, by decide⟩ (by omega) (seq := n) [u8 n] (by simp) (.s 118 0 1) (.inr ⟨118, false, rfl, by decide, by rw [u8_row]; rfl⟩) hr
    have cs0 := c_same (.tight 30) (.tight 30) [] [] (by simp) (by simp)
    simp only [rowsBy, decide_true] at cs0
    simp only [toldL, toldH, if_pos ht, reH, rV, rM] at t1 t2
    simp only [f7_b3, cpS4, rV, rM, d1, hwi, t1, t2, cs0, Nat.reduceLT, renP, decide_true, decide_false, go_sem, reduceIte, reduceCtorEq, Nat.reduceEqDiff, Nat.reduceAdd, Nat.reduceMul, Nat.reduceLeDiff, Nat.reduceSub, Nat.reduceBEq, List.length_cons, List.length_nil, Int.reduceLT, Int.reduceLE, Int.reduceGT, Int.reduceGE, Int.reduceAdd, Int.reduceSub, Int.reduceMul, Int.reduceNeg, Int.reduceToNat, Int.reduceEq, Int.reduceNe, Int.cast_ofNat_Int, ne_eq, not_true_eq_false, not_false_eq_true, Nat.testBit, Nat.reduceShiftRight, Nat.reduceAnd, Nat.reduceBNe]
  · have hRb : RecvAt (upd (upd (upd (upd (upd (upd h0 10450 (some (rM L))) 10386 (some (rM L'))) 14 (some (.arr false 30 1 (rowsBy cBs t)))) 7 (some (rV 20 got 10450))) 6 (some (rV 20 got' 10386))) 118 (some (.arr false 5 1 [[.int .u8 (IntKind.u8.wrap n)]]))) 10000000 7 10450 20 got L :=
      ⟨((((((LowH.h0 _).upd (by decide) rM_mask).upd (by decide) rM_mask).upd (by decide) arr_mask).upd (by decide) (rV_mask (by decide))).upd (by decide) (rV_mask (by decide))).upd (by decide) arr_mask, by decide, by decide, by decide, rfl, rfl⟩
    have t2 := take_r (by decide) hRb hp (by omega) ⟨by decide, by decide⟩ (by omega) (seq := n) [u8 n] (by simp) (.s 118 0 1) (.inr ⟨118, false, rfl, by decide, by rw [u8_row]; rfl⟩) hr
    have cs1 := c_same .shared .shared t t (by omega) (by omega)
    simp only [decide_true] at cs1
    simp only [toldL, toldH, if_neg ht, reH, rV, rM] at t1 t2
    simp only [f7_b3, cpS4, rV, rM, d1, hwi, t1, t2, cs1, Nat.reduceLT, renP, decide_true, decide_false, go_sem, reduceIte, reduceCtorEq, Nat.reduceEqDiff, Nat.reduceAdd, Nat.reduceMul, Nat.reduceLeDiff, Nat.reduceSub, Nat.reduceBEq, List.length_cons, List.length_nil, Int.reduceLT, Int.reduceLE, Int.reduceGT, Int.reduceGE, Int.reduceAdd, Int.reduceSub, Int.reduceMul, Int.reduceNeg, Int.reduceToNat, Int.reduceEq, Int.reduceNe, Int.cast_ofNat_Int, ne_eq, not_true_eq_false, not_false_eq_true, Nat.testBit, Nat.reduceShiftRight, Nat.reduceAnd, Nat.reduceBNe]
theorem copy_l3 : ∀ (k : Nat) (n : Int) (got : Int) (L : List Held), (20 - n).toNat = k → Keeps 20 got L → (∀ e ∈ L, e.1 ≤ 19) → got ≤ 19 → 0 ≤ n →
    ∃ got' L', E (cs F) 0 f7_l3 (cpS4 n got L) = some (.exit 4, cpS3 got' L') := by
  intro k
  induction k with
  | zero =>
    intro n got L hk hK hB hg hn
    refine ⟨got, L, ?_⟩
    rw [f7_l3_eq]
    have d1 : decide (n < 20) = false := by simp; omega
    simp only [f7_b3, cpS4, cpS3, d1, rV, rM, Nat.reduceLT, decide_true, decide_false, go_sem, reduceIte, reduceCtorEq, Nat.reduceEqDiff, Nat.reduceAdd, Nat.reduceMul, Nat.reduceLeDiff, Nat.reduceSub, Nat.reduceBEq, List.length_cons, List.length_nil, Int.reduceLT, Int.reduceLE, Int.reduceGT, Int.reduceGE, Int.reduceAdd, Int.reduceSub, Int.reduceMul, Int.reduceNeg, Int.reduceToNat, Int.reduceEq, Int.reduceNe, Int.cast_ofNat_Int, ne_eq, not_true_eq_false, not_false_eq_true, Nat.testBit, Nat.reduceShiftRight, Nat.reduceAnd, Nat.reduceBNe]
  | succ k ih =>
    intro n got L hk hK hB hg hn
    obtain ⟨got', L', h1, h2, h3, h4⟩ := copy_b3 n got L hK hB hg (by omega) hn
    obtain ⟨g2, L2, h5⟩ := ih (n + 1) got' L' (by omega) h1 h2 h3 (by omega)
    exact ⟨g2, L2, by rw [f7_l3_eq, h4]; exact h5⟩
theorem t_copies (fl fm : Fl) (l m : List Int) : call F 7 [.sl fl 1 (rowsBy cInt l), .sl fm 1 (rowsBy cInt m)] = some (.bool true) := by
  obtain ⟨got, L, hK, hB, hg, h1⟩ := copy_l1 l m fl fm _ 0 0 [] rfl (Keeps.new ⟨by decide, by decide⟩) (fun e he => by simp at he) (by decide)
  have h2 := copy_l2 m fm got L _ 0 got L rfl hK hB hg
  have hp := hK.pos
  have hlen := hK.len
  obtain ⟨g2, L2, h3⟩ := copy_l3 _ (got + 1) got L rfl hK hB hg (by omega)
  have w20 : winR 20 = 20 := rfl
  have e0 : entsR [] = [] := rfl
  have hw1 : IntKind.i64.wrap (got + 1) = got + 1 := wrap64 (by omega) (by omega)
  have hN2 : LowH (upd (upd h0 10386 (some (.map false false false (entsR [])))) 6 (some (.var false [.v (.int .i64 20), .v (.int .i64 0), .m 10386]))) 2000000 :=
    ((LowH.h0 _).upd (by decide) rM_mask).upd (by decide) (rV_mask (by decide))
  have n2 := new_i 2000000 _ hN2 20
  have hRc : RecvAt (upd (upd (upd (upd h0 10450 (some (rM L))) 10386 (some (rM L))) 7 (some (rV 20 got 10450))) 6 (some (rV 20 got 10386))) 5000000 6 10386 20 got L :=
    ⟨((((LowH.h0 _).upd (by decide) rM_mask).upd (by decide) rM_mask).upd (by decide) (rV_mask (by decide))).upd (by decide) (rV_mask (by decide)), by decide, by decide, by decide, rfl, rfl⟩
  have c5 := rcl_i hRc
  have hR7 : RecvAt (upd (upd (upd (upd h0 10450 (some (rM L))) 10386 (some (rM L))) 7 (some (rV 20 got 10450))) 6 (some (rV 20 got 10386))) 7000000 6 10386 20 got L :=
    ⟨((((LowH.h0 _).upd (by decide) rM_mask).upd (by decide) rM_mask).upd (by decide) (rV_mask (by decide))).upd (by decide) (rV_mask (by decide)), by decide, by decide, by decide, rfl, rfl⟩
  have d7 := held_i hR7 (by omega) hK.nd (hK.bd (by omega))
  have hR8 : RecvAt (upd (upd (upd (upd (upd h0 10450 (some (rM L))) 10386 (some (rM L))) 7 (some (rV 20 got 10450))) 6 (some (rV 20 got 10386))) (7000000 + 1) (some (.arr false 3 1 (rowsBy cInt (sortI (L.map (·.1))))))) 8000000 7 10450 20 got L :=
    ⟨(((((LowH.h0 _).upd (by decide) rM_mask).upd (by decide) rM_mask).upd (by decide) (rV_mask (by decide))).upd (by decide) (rV_mask (by decide))).upd (by decide) arr_mask, by decide, by decide, by decide, rfl, rfl⟩
  have d8 := held_i hR8 (by omega) hK.nd (hK.bd (by omega))
  have cI := c_ints .shared .shared (sortI (L.map (·.1))) (sortI (L.map (·.1))) (by rw [sortI_len, List.length_map]; omega) (by rw [sortI_len, List.length_map]; omega)
  have tk : (rowsBy cInt (sortI (L.map (·.1)))).take L.length = rowsBy cInt (sortI (L.map (·.1))) := by
    have e : L.length = (sortI (L.map (·.1))).length := by rw [sortI_len, List.length_map]
    rw [e, rowsBy_takeAll]
  simp only [cpS, cpS1, cpS2, cpS3, cpS4, rV, rM, e0, nat0, w20, Nat.reduceAdd, decide_true] at h1 h2 h3 n2 c5 d7 d8 cI
  rw [call_code F (show F 7 = some (.code f7) from rfl)]
  simp only [f7, t_shown, new_i _ _ (LowH.h0 _), w20, n2, h1, h2, h3, c5, d7, d8, cI, tk, hw1, got_c, Nat.reduceLT, renP, decide_true, decide_false, go_sem, reduceIte, reduceCtorEq, Nat.reduceEqDiff, Nat.reduceAdd, Nat.reduceMul, Nat.reduceLeDiff, Nat.reduceSub, Nat.reduceBEq, List.length_cons, List.length_nil, Int.reduceLT, Int.reduceLE, Int.reduceGT, Int.reduceGE, Int.reduceAdd, Int.reduceSub, Int.reduceMul, Int.reduceNeg, Int.reduceToNat, Int.reduceEq, Int.reduceNe, Int.cast_ofNat_Int, ne_eq, not_true_eq_false, not_false_eq_true, Nat.testBit, Nat.reduceShiftRight, Nat.reduceAnd, Nat.reduceBNe]
end Go.Proofs.Ytkliiknolnodjaa.Sx
namespace Go.Proofs.Ytkliiknolnodjaa.Sx
open Go
/-- the reference's receiver -/
def yV (W got : Int) (z : TV) : Ob := .var false [.v (.int .i64 W), .v (.int .i64 got), .v z]
theorem yV_mask {W got : Int} {z : TV} {lo : Nat} : ∀ (m : Nat) (j : List (Nat × Nat)), lo ≤ m → maskO m j (some (yV W got z)) = some (yV W got z) := fun _ _ _ => rfl
structure RefAt (g : Hp) (lo id : Nat) (W got : Int) (z : TV) : Prop where
  low : LowH g lo
  lt : id < lo
  var : g id = some (yV W got z)
theorem ref_re {g : Hp} {lo id : Nat} {W got : Int} {z : TV} (hR : RefAt g lo id W got z) (got' : Int) (z' : TV) : RefAt (upd g id (some (yV W got' z'))) lo id W got' z' :=
  ⟨hR.low.upd hR.lt yV_mask, hR.lt, by unfold upd; simp⟩
theorem ref_new (lo : Nat) (g : Hp) (hg : LowH g lo) (w : Int) : calli F 15 lo g [.v (.int .i64 w)] = some (.p (lo + 2) 0, upd g (lo + 2) (some (yV (winR w) 0 (.sl (.tight 58) 2 [])))) := by
  have hn := hg.none
  have hk := fun j => keepLo_low hg j
  rw [calli_code F (fn := f15) rfl]
  have hw : (if (64 : Int) < if 1 > w then 1 else w then 64 else if 1 > w then 1 else w) = winR w := by unfold winR; split <;> split at * <;> omega
  simp only [f15, hn, hk, hw, yV, go_sem, reduceIte, reduceCtorEq, Nat.reduceEqDiff, Nat.reduceAdd, Nat.reduceMul, Nat.reduceLeDiff, Nat.reduceSub, Nat.reduceBEq, List.length_cons, List.length_nil, Int.reduceLT, Int.reduceLE, Int.reduceGT, Int.reduceGE, Int.reduceAdd, Int.reduceSub, Int.reduceMul, Int.reduceNeg, Int.reduceToNat, Int.reduceEq, Int.reduceNe, Int.cast_ofNat_Int, ne_eq, not_true_eq_false, not_false_eq_true, Nat.testBit, Nat.reduceShiftRight, Nat.reduceAnd, Nat.reduceBNe]
theorem seqs_snoc (M : List Held) {i : Nat} (hi : i < M.length) : rowsBy cInt ((M.map (·.1)).take i) ++ [[TV.int .i64 M[i].1]] = rowsBy cInt ((M.map (·.1)).take (i + 1)) := by
  have e : (M.map (·.1)).take (i + 1) = (M.map (·.1)).take i ++ [M[i].1] := by rw [List.take_succ_eq_append_getElem (by simpa using hi)]; simp
  rw [e]; exact rowsBy_snoc cInt _ _
theorem c_seqs (fl : Fl) (M : List Held) (hM : M.length ≤ 1000000) : call F 19 [.sl fl 2 (rowsBy cEv M)] = some (.sl (.own 3) 1 (rowsBy cInt (M.map (·.1)))) := by
  have hL := loop_to (C := cs F) (lo := 0) (b := f19_b1) (fun i => (⟨(upd (upd (upd Sx.e0 4 (.v (.int .i64 (i : Int)))) 3 (.s 3 0 i)) 0 (.v (.sl fl 2 (rowsBy cEv M)))), (upd Sx.h0 3 (some (.arr false 3 1 (rowsBy cInt ((M.map (·.1)).take i)))))⟩ : St)) M.length
    (r := (.exit 0, (⟨(upd Sx.e0 3 (.s 3 0 M.length)), (upd Sx.h0 3 (some (.arr false 3 1 (rowsBy cInt (M.map (·.1))))))⟩ : St))) (fun i hi => by
      have d1 := dec_lt hi
      have q1 : (i : Int) < (M.length : Int) := by omega
      have r1 : (rowsBy cEv M)[i]? = some [.int .i64 M[i].1, .sl .shared 1 (rowsBy cByte M[i].2)] := rowsBy_get cEv hi
      have hw := wrap_succ hi (by omega)
      have i0 : (0 : Int) ≤ (i : Int) := by omega
      have tl : ((M.map (·.1)).take i).length = i := by rw [List.length_take, List.length_map]; omega
      have tk : (rowsBy cInt ((M.map (·.1)).take i)).take i = rowsBy cInt ((M.map (·.1)).take i) := by rw [rowsBy_take, List.take_take, Nat.min_self]
      have h8 : (i + 1) * 8 ≤ 140737488355328 := by omega
      have sn := seqs_snoc M hi
      simp only [f19_b1, d1, q1, r1, hw, i0, tl, tk, h8, sn, List.take_take, Nat.min_self, Nat.reduceLT, go_sem, reduceIte, reduceCtorEq, Nat.reduceEqDiff, Nat.reduceAdd, Nat.reduceMul, Nat.reduceLeDiff, Nat.reduceSub, Nat.reduceBEq, List.length_cons, List.length_nil, Int.reduceLT, Int.reduceLE, Int.reduceGT, Int.reduceGE, Int.reduceAdd, Int.reduceSub, Int.reduceMul, Int.reduceNeg, Int.reduceToNat, Int.reduceEq, Int.reduceNe, Int.cast_ofNat_Int, ne_eq, not_true_eq_false, not_false_eq_true, Nat.testBit, Nat.reduceShiftRight, Nat.reduceAnd, Nat.reduceBNe]) (by
      have d1 : decide ((M.length : Int) < (M.length : Int)) = false := by simp
      have tk : (M.map (·.1)).take M.length = M.map (·.1) := by rw [List.take_of_length_le (by simp)]
      simp only [f19_b1, d1, tk, Nat.reduceLT, go_sem, reduceIte, reduceCtorEq, Nat.reduceEqDiff, Nat.reduceAdd, Nat.reduceMul, Nat.reduceLeDiff, Nat.reduceSub, Nat.reduceBEq, List.length_cons, List.length_nil, Int.reduceLT, Int.reduceLE, Int.reduceGT, Int.reduceGE, Int.reduceAdd, Int.reduceSub, Int.reduceMul, Int.reduceNeg, Int.reduceToNat, Int.reduceEq, Int.reduceNe, Int.cast_ofNat_Int, ne_eq, not_true_eq_false, not_false_eq_true, Nat.testBit, Nat.reduceShiftRight, Nat.reduceAnd, Nat.reduceBNe]) (by simp)
  simp only [nat0, List.take_zero, rowsBy] at hL
  have hLL : E (cs F) 0 f19_l1 _ = _ := hL
  have tk : (rowsBy cInt (M.map (·.1))).take M.length = rowsBy cInt (M.map (·.1)) := by rw [rowsBy_take, List.take_of_length_le (by simp)]
  rw [call_code F (show F 19 = some (.code f19) from rfl)]
  simp only [f19, hLL, Nat.reduceLT, tk, go_sem, reduceIte, reduceCtorEq, Nat.reduceEqDiff, Nat.reduceAdd, Nat.reduceMul, Nat.reduceLeDiff, Nat.reduceSub, Nat.reduceBEq, List.length_cons, List.length_nil, Int.reduceLT, Int.reduceLE, Int.reduceGT, Int.reduceGE, Int.reduceAdd, Int.reduceSub, Int.reduceMul, Int.reduceNeg, Int.reduceToNat, Int.reduceEq, Int.reduceNe, Int.cast_ofNat_Int, ne_eq, not_true_eq_false, not_false_eq_true, Nat.testBit, Nat.reduceShiftRight, Nat.reduceAnd, Nat.reduceBNe]
/-- the rounds that put a number in its place -/
def nS (lo id : Nat) (seq : Int) (b : List UInt8) (acc : List Held) (put : Bool) (i : Nat) (g : Hp) : St :=
  ⟨upd (upd (upd (upd (upd (upd e0 10 (.v (.int .i64 (i : Int)))) 9 (.v (.bool put))) 8 (.s (lo + 8) 0 acc.length)) 2 (.v (.sl .shared 1 (rowsBy cByte b)))) 1 (.v (.int .i64 seq))) 0 (.p id 0), upd g (lo + 8) (some (.arr false 58 2 (rowsBy cEv acc)))⟩
def nE (lo id : Nat) (seq : Int) (b : List UInt8) (acc : List Held) (put : Bool) (g : Hp) : St :=
  ⟨upd (upd (upd (upd (upd e0 9 (.v (.bool put))) 8 (.s (lo + 8) 0 acc.length)) 2 (.v (.sl .shared 1 (rowsBy cByte b)))) 1 (.v (.int .i64 seq))) 0 (.p id 0), upd g (lo + 8) (some (.arr false 58 2 (rowsBy cEv acc)))⟩
theorem ev_snoc (acc : List Held) (e : Held) : rowsBy cEv acc ++ [[TV.int .i64 e.1, TV.sl .shared 1 (rowsBy cByte e.2)]] = rowsBy cEv (acc ++ [e]) := by rw [← rowsBy_snoc]; rfl
theorem n_go {lo : Nat} (hlt : lo < 1000000000000) {id : Nat} {W got : Int} {fz : Fl} {M : List Held} {g : Hp} (hR : RefAt g lo id W got (.sl fz 2 (rowsBy cEv M))) (seq : Int) (b : List UInt8) (acc : List Held) (put : Bool) {i : Nat} (hi : i < M.length) (hM : M.length ≤ 1000000) (hacc : acc.length ≤ 1000000)
    (hs : ¬ M[i].1 = seq) (hp : put = true ∨ ¬ seq < M[i].1) : E (cs F) lo f17_b1 (nS lo id seq b acc put i g) = some (.norm, nS lo id seq b (acc ++ [M[i]]) put (i + 1) g) := by
  have hk := fun j => keepLo_low hR.low j
  have a1 := ne_add hR.lt
  have a2 := add_ne hR.lt
  have d1 := dec_lt hi
  have q1 : (i : Int) < (M.length : Int) := by omega
  have r1 : (rowsBy cEv M)[i]? = some [.int .i64 M[i].1, .sl .shared 1 (rowsBy cByte M[i].2)] := rowsBy_get cEv hi
  have hw := wrap_succ hi (by omega)
  have i0 : (0 : Int) ≤ (i : Int) := by omega
  have h32 : (acc.length + 1) * 32 ≤ 140737488355328 := by omega
  have hvar := hR.var
  unfold yV at hvar
  have hal : (acc ++ [M[i]]).length = acc.length + 1 := by simp
  rcases Bool.eq_false_or_eq_true put with rfl | rfl
  · simp only [f17_b1, nS, hvar, hR.lt, hk, a1, a2, d1, q1, r1, hw, i0, h32, hs, hal, ev_snoc, storeQ_lt hlt, tightR_small hlt, appN_small hlt, hR.low.none, Nat.reduceLT, decide_false, decide_true, go_sem, reduceIte, reduceCtorEq, Nat.reduceEqDiff, Nat.reduceAdd, Nat.reduceMul, Nat.reduceLeDiff, Nat.reduceSub, Nat.reduceBEq, List.length_cons, List.length_nil, Int.reduceLT, Int.reduceLE, Int.reduceGT, Int.reduceGE, Int.reduceAdd, Int.reduceSub, Int.reduceMul, Int.reduceNeg, Int.reduceToNat, Int.reduceEq, Int.reduceNe, Int.cast_ofNat_Int, ne_eq, not_true_eq_false, not_false_eq_true, Nat.testBit, Nat.reduceShiftRight, Nat.reduceAnd, Nat.reduceBNe]
  · have hp2 : ¬ seq < M[i].1 := by simpa using hp
    simp only [f17_b1, nS, hvar, hR.lt, hk, a1, a2, d1, q1, r1, hw, i0, h32, hs, hp2, hal, ev_snoc, storeQ_lt hlt, tightR_small hlt, appN_small hlt, hR.low.none, Nat.reduceLT, decide_false, decide_true, go_sem, reduceIte, reduceCtorEq, Nat.reduceEqDiff, Nat.reduceAdd, Nat.reduceMul, Nat.reduceLeDiff, Nat.reduceSub, Nat.reduceBEq, List.length_cons, List.length_nil, Int.reduceLT, Int.reduceLE, Int.reduceGT, Int.reduceGE, Int.reduceAdd, Int.reduceSub, Int.reduceMul, Int.reduceNeg, Int.reduceToNat, Int.reduceEq, Int.reduceNe, Int.cast_ofNat_Int, ne_eq, not_true_eq_false, not_false_eq_true, Nat.testBit, Nat.reduceShiftRight, Nat.reduceAnd, Nat.reduceBNe]
theorem n_put {lo : Nat} (hlt : lo < 1000000000000) {id : Nat} {W got : Int} {fz : Fl} {M : List Held} {g : Hp} (hR : RefAt g lo id W got (.sl fz 2 (rowsBy cEv M))) (seq : Int) (b : List UInt8) (hb : b.length ≤ 100000) (acc : List Held) {i : Nat} (hi : i < M.length) (hM : M.length ≤ 1000000) (hacc : acc.length ≤ 1000000)
    (hs : seq < M[i].1) : E (cs F) lo f17_b1 (nS lo id seq b acc false i g) = some (.norm, nS lo id seq b (acc ++ [(seq, b)] ++ [M[i]]) true (i + 1) g) := by
  have hk := fun j => keepLo_low hR.low j
  have a1 := ne_add hR.lt
  have a2 := add_ne hR.lt
  have d1 := dec_lt hi
  have q1 : (i : Int) < (M.length : Int) := by omega
  have r1 : (rowsBy cEv M)[i]? = some [.int .i64 M[i].1, .sl .shared 1 (rowsBy cByte M[i].2)] := rowsBy_get cEv hi
  have hw := wrap_succ hi (by omega)
  have i0 : (0 : Int) ≤ (i : Int) := by omega
  have h32 : (acc.length + 1) * 32 ≤ 140737488355328 := by omega
  have h33 : (acc.length + 1 + 1) * 32 ≤ 140737488355328 := Nat.le_trans (Nat.mul_le_mul_right 32 (show acc.length + 1 + 1 ≤ 1000002 by omega)) (by decide)
  have hvar := hR.var
  unfold yV at hvar
  have hne : ¬ M[i].1 = seq := by omega
  have hal : (acc ++ [(seq, b)] ++ [M[i]]).length = acc.length + 1 + 1 := by simp
  have e1 := ev_snoc acc (seq, b)
  have e2 := ev_snoc (acc ++ [(seq, b)]) M[i]
  have hal1 : (acc ++ [(seq, b)]).length = acc.length + 1 := by simp
  have hsc := scalarRows_bytes b
  have hb1 : b.length * 1 ≤ 140737488355328 := by omega
  have hb2 : b.length ≤ 140737488355328 := by omega
  have tk : (rowsBy cEv (acc ++ [(seq, b)])).take (acc.length + 1) = rowsBy cEv (acc ++ [(seq, b)]) := by rw [← hal1, rowsBy_takeAll]
  simp only [f17_b1, nS, hvar, hR.lt, hk, a1, a2, d1, q1, r1, hw, i0, h32, h33, hne, hs, hal, hsc, hb1, hb2, e1, e2, hal1, tk, storeQ_lt hlt, tightR_small hlt, appN_small hlt, hR.low.none, Nat.reduceLT, decide_false, decide_true, go_sem, reduceIte, reduceCtorEq, Nat.reduceEqDiff, Nat.reduceAdd, Nat.reduceMul, Nat.reduceLeDiff, Nat.reduceSub, Nat.reduceBEq, List.length_cons, List.length_nil, Int.reduceLT, Int.reduceLE, Int.reduceGT, Int.reduceGE, Int.reduceAdd, Int.reduceSub, Int.reduceMul, Int.reduceNeg, Int.reduceToNat, Int.reduceEq, Int.reduceNe, Int.cast_ofNat_Int, ne_eq, not_true_eq_false, not_false_eq_true, Nat.testBit, Nat.reduceShiftRight, Nat.reduceAnd, Nat.reduceBNe]
theorem n_dup {lo : Nat} (hlt : lo < 1000000000000) {id : Nat} {W got : Int} {fz : Fl} {M : List Held} {g : Hp} (hR : RefAt g lo id W got (.sl fz 2 (rowsBy cEv M))) (seq : Int) (b : List UInt8) (acc : List Held) (put : Bool) {i : Nat} (hi : i < M.length) (hM : M.length ≤ 1000000)
    (hs : M[i].1 = seq) : E (cs F) lo f17_b1 (nS lo id seq b acc put i g) = some (.ret, ⟨upd (upd e0 7 (.v (.int .i64 22))) 6 (.v (.sl (.tight 30) 1 [])), g⟩) := by
  have hk := fun j => keepLo_low hR.low j
  have a1 := ne_add hR.lt
  have a2 := add_ne hR.lt
  have d1 := dec_lt hi
  have q1 : (i : Int) < (M.length : Int) := by omega
  have r1 : (rowsBy cEv M)[i]? = some [.int .i64 M[i].1, .sl .shared 1 (rowsBy cByte M[i].2)] := rowsBy_get cEv hi
  have i0 : (0 : Int) ≤ (i : Int) := by omega
  have hvar := hR.var
  unfold yV at hvar
  have hun : ∀ k, upd g (lo + k) none = g := fun k => upd_id (hR.low.none k)
  simp only [f17_b1, nS, hvar, hR.lt, hk, a1, a2, d1, q1, r1, i0, hs, hun, hR.low.none, Nat.reduceLT, decide_false, decide_true, go_sem, reduceIte, reduceCtorEq, Nat.reduceEqDiff, Nat.reduceAdd, Nat.reduceMul, Nat.reduceLeDiff, Nat.reduceSub, Nat.reduceBEq, List.length_cons, List.length_nil, Int.reduceLT, Int.reduceLE, Int.reduceGT, Int.reduceGE, Int.reduceAdd, Int.reduceSub, Int.reduceMul, Int.reduceNeg, Int.reduceToNat, Int.reduceEq, Int.reduceNe, Int.cast_ofNat_Int, ne_eq, not_true_eq_false, not_false_eq_true, Nat.testBit, Nat.reduceShiftRight, Nat.reduceAnd, Nat.reduceBNe]
theorem n_end {lo : Nat} {id : Nat} {W got : Int} {fz : Fl} {M : List Held} {g : Hp} (hR : RefAt g lo id W got (.sl fz 2 (rowsBy cEv M))) (seq : Int) (b : List UInt8) (acc : List Held) (put : Bool) :
    E (cs F) lo f17_b1 (nS lo id seq b acc put M.length g) = some (.exit 0, nE lo id seq b acc put g) := by
  have hk := fun j => keepLo_low hR.low j
  have a1 := ne_add hR.lt
  have a2 := add_ne hR.lt
  have d1 := dec_ge (Nat.le_refl M.length)
  have hvar := hR.var
  unfold yV at hvar
  simp only [f17_b1, nS, nE, hvar, hR.lt, hk, a1, a2, d1, hR.low.none, Nat.reduceLT, decide_false, decide_true, go_sem, reduceIte, reduceCtorEq, Nat.reduceEqDiff, Nat.reduceAdd, Nat.reduceMul, Nat.reduceLeDiff, Nat.reduceSub, Nat.reduceBEq, List.length_cons, List.length_nil, Int.reduceLT, Int.reduceLE, Int.reduceGT, Int.reduceGE, Int.reduceAdd, Int.reduceSub, Int.reduceMul, Int.reduceNeg, Int.reduceToNat, Int.reduceEq, Int.reduceNe, Int.cast_ofNat_Int, ne_eq, not_true_eq_false, not_false_eq_true, Nat.testBit, Nat.reduceShiftRight, Nat.reduceAnd, Nat.reduceBNe]
/-- the loop, all of it -/
theorem n_loop1 {lo : Nat} (hlt : lo < 1000000000000) {id : Nat} {W got : Int} {fz : Fl} {M : List Held} {g : Hp} (hR : RefAt g lo id W got (.sl fz 2 (rowsBy cEv M))) (seq : Int) (b : List UInt8) (hM : M.length ≤ 1000000) (hn : seq ∉ M.map (·.1)) : ∀ (k i : Nat) (acc : List Held), M.length - i = k → i ≤ M.length → acc.length ≤ i + 1 → i < 900000 ∧ M.length < 900000 →
    E (cs F) lo f17_l1 (nS lo id seq b acc true i g) = some (.exit 0, nE lo id seq b (acc ++ M.drop i) true g) := by
  intro k
  induction k with
  | zero =>
    intro i acc hk hi ha hl
    have : i = M.length := by omega
    subst this
    rw [f17_l1_eq, n_end hR, List.drop_length, List.append_nil]; rfl
  | succ k ih =>
    intro i acc hk hi ha hl
    have hi2 : i < M.length := by omega
    have key := ih (i + 1) (acc ++ [M[i]]) (by omega) (by omega) (by simp; omega) (by omega)
    rw [List.append_assoc, List.singleton_append, ← List.drop_eq_getElem_cons hi2] at key
    rw [f17_l1_eq, n_go hlt hR seq b acc true hi2 hM (by omega) (fun e => hn (e ▸ List.mem_map_of_mem (f := (·.1)) (List.getElem_mem hi2))) (.inl rfl)]
    exact key
theorem n_loop {lo : Nat} (hlt : lo < 1000000000000) {id : Nat} {W got : Int} {fz : Fl} {M : List Held} {g : Hp} (hR : RefAt g lo id W got (.sl fz 2 (rowsBy cEv M))) (seq : Int) (b : List UInt8) (hb : b.length ≤ 100000) (hM : M.length < 900000) (hn : seq ∉ M.map (·.1)) : ∀ (k i : Nat) (acc : List Held), M.length - i = k → i ≤ M.length → acc.length ≤ i →
    ∃ acc' put, E (cs F) lo f17_l1 (nS lo id seq b acc false i g) = some (.exit 0, nE lo id seq b acc' put g) ∧ acc'.length ≤ M.length + 1 ∧ (if put then acc' else acc' ++ [(seq, b)]) = acc ++ insR (seq, b) (M.drop i) := by
  intro k
  induction k with
  | zero =>
    intro i acc hk hi ha
    have : i = M.length := by omega
    subst this
    refine ⟨acc, false, by rw [f17_l1_eq, n_end hR]; rfl, by omega, ?_⟩
    rw [List.drop_length]; rfl
  | succ k ih =>
    intro i acc hk hi ha
    have hi2 : i < M.length := by omega
    have hne : ¬ M[i].1 = seq := fun e => hn (e ▸ List.mem_map_of_mem (f := (·.1)) (List.getElem_mem hi2))
    rw [List.drop_eq_getElem_cons hi2]
    simp only [insR]
    by_cases hs : seq < M[i].1
    · rw [if_pos hs]
      have key := n_loop1 hlt hR seq b (by omega) hn k (i + 1) (acc ++ [(seq, b)] ++ [M[i]]) (by omega) (by omega) (by simp; omega) (by omega)
      refine ⟨_, true, by rw [f17_l1_eq, n_put hlt hR seq b hb acc hi2 (by omega) (by omega) hs]; exact key, by simp; omega, ?_⟩
      simp
    · rw [if_neg hs]
      obtain ⟨acc', put, h1, h2, h3⟩ := ih (i + 1) (acc ++ [M[i]]) (by omega) (by omega) (by simp; omega)
      refine ⟨acc', put, by rw [f17_l1_eq, n_go hlt hR seq b acc false hi2 (by omega) (by omega) hne (.inr hs)]; exact h1, h2, ?_⟩
      rw [h3]; simp
/-- a number that is held -/
theorem n_held {lo : Nat} (hlt : lo < 1000000000000) {id : Nat} {W got : Int} {fz : Fl} {M : List Held} {g : Hp} (hR : RefAt g lo id W got (.sl fz 2 (rowsBy cEv M))) (hu : Up M) (seq : Int) (b : List UInt8) (hM : M.length < 900000) (hn : seq ∈ M.map (·.1)) : ∀ (k i : Nat) (acc : List Held), M.length - i = k → i ≤ M.length → acc.length ≤ i → (∀ j (hj : j < M.length), j < i → M[j].1 < seq) →
    E (cs F) lo f17_l1 (nS lo id seq b acc false i g) = some (.ret, ⟨upd (upd e0 7 (.v (.int .i64 22))) 6 (.v (.sl (.tight 30) 1 [])), g⟩) := by
  intro k
  obtain ⟨x, hx, hx1⟩ := List.mem_map.1 hn
  obtain ⟨p, hp, hp1⟩ := List.getElem_of_mem hx
  have hup : ∀ (u v : Nat) (hv : v < M.length) (huv : u < v), M[u].1 < M[v].1 := fun u v hv huv => by
    have := List.pairwise_iff_getElem.1 hu u v (by simpa using (by omega : u < M.length)) (by simpa using hv) huv
    simpa using this
  have hps : M[p].1 = seq := by rw [hp1, hx1]
  induction k with
  | zero =>
    intro i acc hk hi ha hlt2
    have := hlt2 p hp (by omega)
    omega
  | succ k ih =>
    intro i acc hk hi ha hlt2
    have hi2 : i < M.length := by omega
    by_cases hs : M[i].1 = seq
    · rw [f17_l1_eq, n_dup hlt hR seq b acc false hi2 (by omega) hs]; rfl
    · have hip : i < p := by
        refine Nat.not_le.1 fun h => ?_
        rcases Nat.lt_or_eq_of_le h with h | h
        · have := hlt2 p hp h; omega
        · subst h; exact hs hps
      have h1 := hup i p hp hip
      rw [f17_l1_eq, n_go hlt hR seq b acc false hi2 (by omega) (by omega) hs (.inr (by omega))]
      refine ih (i + 1) (acc ++ [M[i]]) (by omega) (by omega) (by simp; omega) fun j hj hji => ?_
      rcases Nat.lt_or_eq_of_le (Nat.lt_succ_iff.1 hji) with h | h
      · exact hlt2 j hj h
      · subst h; omega
end Go.Proofs.Ytkliiknolnodjaa.Sx
namespace Go.Proofs.Ytkliiknolnodjaa.Sx
open Go
def dS (lo id : Nat) (acc : List (List UInt8)) (all : List Held) (k : Nat) (g : Hp) : St :=
  ⟨upd (upd (upd e0 11 (.s (lo + 11) 0 acc.length)) 8 (.s (lo + 8) k (all.length - k))) 0 (.p id 0), upd (upd g (lo + 11) (some (.arr false 30 1 (rowsBy cBs acc)))) (lo + 8) (some (.arr false 58 2 (rowsBy cEv all)))⟩
theorem d_go {lo : Nat} (hlt : lo < 1000000000000) {id : Nat} {W got : Int} {z : TV} {g : Hp} (hR : RefAt g lo id W got z) (acc : List (List UInt8)) (all : List Held) {k : Nat} (hk2 : k < all.length) (hl : all.length ≤ 1000000) (hacc : acc.length ≤ 1000000) (h0 : 0 ≤ got) (h1 : got ≤ 100000000) (hs : all[k].1 = got + 1) :
    E (cs F) lo f17_b2 (dS lo id acc all k g) = some (.norm, dS lo id (acc ++ [all[k].2]) all (k + 1) (upd g id (some (yV W (got + 1) z)))) := by
  have hk := fun j => keepLo_low hR.low j
  have a1 := ne_add hR.lt
  have a2 := add_ne hR.lt
  have q1 : ((all.length - k : Nat) : Int) > 0 := by omega
  have q2 : (0 : Int) < ((all.length - k : Nat) : Int) := by omega
  have q3 : (1 : Int) ≤ ((all.length - k : Nat) : Int) := by omega
  have q4 : all.length - k - 1 = all.length - (k + 1) := by omega
  have r1 : (rowsBy cEv all)[k]? = some [.int .i64 all[k].1, .sl .shared 1 (rowsBy cByte all[k].2)] := rowsBy_get cEv hk2
  rw [hs] at r1
  have hw : IntKind.i64.wrap (got + 1) = got + 1 := wrap64 (by omega) (by omega)
  have h24 : (acc.length + 1) * 24 ≤ 140737488355328 := by omega
  have hvar := hR.var
  unfold yV at hvar
  have hal : (acc ++ [all[k].2]).length = acc.length + 1 := by simp
  simp only [f17_b2, dS, yV, hvar, hR.lt, hk, a1, a2, q1, q2, q3, q4, r1, hw, h24, hal, bs_snoc, storeQ_lt hlt, tightR_small hlt, appN_small hlt, hR.low.none, Nat.reduceLT, decide_false, decide_true, go_sem, reduceIte, reduceCtorEq, Nat.reduceEqDiff, Nat.reduceAdd, Nat.reduceMul, Nat.reduceLeDiff, Nat.reduceSub, Nat.reduceBEq, List.length_cons, List.length_nil, Int.reduceLT, Int.reduceLE, Int.reduceGT, Int.reduceGE, Int.reduceAdd, Int.reduceSub, Int.reduceMul, Int.reduceNeg, Int.reduceToNat, Int.reduceEq, Int.reduceNe, Int.cast_ofNat_Int, ne_eq, not_true_eq_false, not_false_eq_true, Nat.testBit, Nat.reduceShiftRight, Nat.reduceAnd, Nat.reduceBNe]
theorem d_none {lo : Nat} (hlt : lo < 1000000000000) {id : Nat} {W got : Int} {z : TV} {g : Hp} (hR : RefAt g lo id W got z) (acc : List (List UInt8)) (all : List Held) :
    E (cs F) lo f17_b2 (dS lo id acc all all.length g) = some (.exit 2, dS lo id acc all all.length g) := by
  have hk := fun j => keepLo_low hR.low j
  have a1 := ne_add hR.lt
  have a2 := add_ne hR.lt
  have hvar := hR.var
  unfold yV at hvar
  simp only [f17_b2, dS, yV, hvar, hR.lt, hk, a1, a2, Nat.sub_self, storeQ_lt hlt, tightR_small hlt, appN_small hlt, hR.low.none, Nat.reduceLT, decide_false, decide_true, go_sem, reduceIte, reduceCtorEq, Nat.reduceEqDiff, Nat.reduceAdd, Nat.reduceMul, Nat.reduceLeDiff, Nat.reduceSub, Nat.reduceBEq, List.length_cons, List.length_nil, Int.reduceLT, Int.reduceLE, Int.reduceGT, Int.reduceGE, Int.reduceAdd, Int.reduceSub, Int.reduceMul, Int.reduceNeg, Int.reduceToNat, Int.reduceEq, Int.reduceNe, Int.cast_ofNat_Int, ne_eq, not_true_eq_false, not_false_eq_true, Nat.testBit, Nat.reduceShiftRight, Nat.reduceAnd, Nat.reduceBNe]
theorem d_stop {lo : Nat} (hlt : lo < 1000000000000) {id : Nat} {W got : Int} {z : TV} {g : Hp} (hR : RefAt g lo id W got z) (acc : List (List UInt8)) (all : List Held) {k : Nat} (hk2 : k < all.length) (hl : all.length ≤ 1000000) (h0 : 0 ≤ got) (h1 : got ≤ 100000000) (hs : ¬ all[k].1 = got + 1) :
    E (cs F) lo f17_b2 (dS lo id acc all k g) = some (.exit 2, dS lo id acc all k g) := by
  have hk := fun j => keepLo_low hR.low j
  have a1 := ne_add hR.lt
  have a2 := add_ne hR.lt
  have q1 : ((all.length - k : Nat) : Int) > 0 := by omega
  have q2 : (0 : Int) < ((all.length - k : Nat) : Int) := by omega
  have r1 : (rowsBy cEv all)[k]? = some [.int .i64 all[k].1, .sl .shared 1 (rowsBy cByte all[k].2)] := rowsBy_get cEv hk2
  have hw : IntKind.i64.wrap (got + 1) = got + 1 := wrap64 (by omega) (by omega)
  have hvar := hR.var
  unfold yV at hvar
  simp only [f17_b2, dS, yV, hvar, hR.lt, hk, a1, a2, q1, q2, r1, hw, hs, storeQ_lt hlt, tightR_small hlt, appN_small hlt, hR.low.none, Nat.reduceLT, decide_false, decide_true, go_sem, reduceIte, reduceCtorEq, Nat.reduceEqDiff, Nat.reduceAdd, Nat.reduceMul, Nat.reduceLeDiff, Nat.reduceSub, Nat.reduceBEq, List.length_cons, List.length_nil, Int.reduceLT, Int.reduceLE, Int.reduceGT, Int.reduceGE, Int.reduceAdd, Int.reduceSub, Int.reduceMul, Int.reduceNeg, Int.reduceToNat, Int.reduceEq, Int.reduceNe, Int.cast_ofNat_Int, ne_eq, not_true_eq_false, not_false_eq_true, Nat.testBit, Nat.reduceShiftRight, Nat.reduceAnd, Nat.reduceBNe]
theorem d_loop {lo : Nat} (hlt : lo < 1000000000000) {id : Nat} {W : Int} {z : TV} (all : List Held) (hl : all.length ≤ 1000000) : ∀ (q k : Nat) (g : Hp) (got : Int) (acc : List (List UInt8)), all.length - k = q → k ≤ all.length → RefAt g lo id W got z → 0 ≤ got → got + q ≤ 100000000 → acc.length ≤ k →
    ∃ k', E (cs F) lo f17_l2 (dS lo id acc all k g) = some (.exit 2, dS lo id (acc ++ (drainM got (all.drop k)).1) all k' (upd g id (some (yV W (drainM got (all.drop k)).2.1 z)))) ∧ k' ≤ all.length ∧ all.drop k' = (drainM got (all.drop k)).2.2 := by
  intro q
  induction q with
  | zero =>
    intro k g got acc hq hk hR h0 h1 ha
    have : k = all.length := by omega
    subst this
    refine ⟨all.length, ?_, by omega, by rw [List.drop_length]; rfl⟩
    rw [f17_l2_eq, d_none hlt hR, List.drop_length]
    simp only [drainM, List.append_nil, upd_id hR.var]; rfl
  | succ q ih =>
    intro k g got acc hq hk hR h0 h1 ha
    have hk2 : k < all.length := by omega
    rw [List.drop_eq_getElem_cons hk2]
    by_cases hs : all[k].1 = got + 1
    · obtain ⟨k', i1, i2, i3⟩ := ih (k + 1) _ (got + 1) (acc ++ [all[k].2]) (by omega) (by omega) (ref_re hR (got + 1) z) (by omega) (by omega) (by simp; omega)
      refine ⟨k', ?_, i2, ?_⟩
      · rw [f17_l2_eq, d_go hlt hR acc all hk2 hl (by omega) h0 (by omega) hs]
        rw [upd_two] at i1
        have e : all[k] = (got + 1, all[k].2) := by rw [← hs]
        rw [e, drainM_some]
        simp only [List.append_assoc, List.singleton_append] at i1
        exact i1
      · have e : all[k] = (got + 1, all[k].2) := by rw [← hs]
        rw [e, drainM_some]
        exact i3
    · have e : all[k] = (all[k].1, all[k].2) := rfl
      refine ⟨k, ?_, hk, ?_⟩
      · rw [f17_l2_eq, d_stop hlt hR acc all hk2 hl h0 (by omega) hs]
        rw [e, drainM_none hs]
        simp only [List.append_nil, upd_id hR.var]; rfl
      · rw [e, drainM_none hs, ← e, ← List.drop_eq_getElem_cons hk2]
/-- a take of the reference that is refused -/
theorem ref_no {lo : Nat} (hlt : lo < 1000000000000) {id : Nat} {W got : Int} {fz : Fl} {M : List Held} {g : Hp} (hR : RefAt g lo id W got (.sl fz 2 (rowsBy cEv M))) (hu : Up M) (hM : M.length < 900000) (hW : 1 ≤ W ∧ W ≤ 64) (h0 : 0 ≤ got) (h1 : got ≤ 1000000) {seq : Int} (b : List UInt8) (hq : -1000000 ≤ seq ∧ seq ≤ 9223372036854775807) (hno : ¬ (seq ∉ M.map (·.1) ∧ got < seq ∧ seq ≤ got + W)) :
    calli F 17 lo g [.p id 0, .v (.int .i64 seq), .v (.sl .shared 1 (rowsBy cByte b))] = some (toldL lo [] 22, g) := by
  have hk := fun j => keepLo_low hR.low j
  have a1 := ne_add hR.lt
  have a2 := add_ne hR.lt
  have hvar := hR.var
  unfold yV at hvar
  have hw : IntKind.i64.wrap (seq - W) = seq - W := wrap64 (by omega) (by omega)
  rw [calli_code F (fn := f17) rfl]
  by_cases hs : seq ≤ got
  · simp only [f17, hvar, hR.lt, hk, a1, a2, hs, hw, toldL, hR.low.none, Nat.reduceLT, decide_false, decide_true, go_sem, reduceIte, reduceCtorEq, Nat.reduceEqDiff, Nat.reduceAdd, Nat.reduceMul, Nat.reduceLeDiff, Nat.reduceSub, Nat.reduceBEq, List.length_cons, List.length_nil, Int.reduceLT, Int.reduceLE, Int.reduceGT, Int.reduceGE, Int.reduceAdd, Int.reduceSub, Int.reduceMul, Int.reduceNeg, Int.reduceToNat, Int.reduceEq, Int.reduceNe, Int.cast_ofNat_Int, ne_eq, not_true_eq_false, not_false_eq_true, Nat.testBit, Nat.reduceShiftRight, Nat.reduceAnd, Nat.reduceBNe]
  · by_cases hs2 : seq - W > got
    · simp only [f17, hvar, hR.lt, hk, a1, a2, hs, hs2, hw, toldL, hR.low.none, Nat.reduceLT, decide_false, decide_true, go_sem, reduceIte, reduceCtorEq, Nat.reduceEqDiff, Nat.reduceAdd, Nat.reduceMul, Nat.reduceLeDiff, Nat.reduceSub, Nat.reduceBEq, List.length_cons, List.length_nil, Int.reduceLT, Int.reduceLE, Int.reduceGT, Int.reduceGE, Int.reduceAdd, Int.reduceSub, Int.reduceMul, Int.reduceNeg, Int.reduceToNat, Int.reduceEq, Int.reduceNe, Int.cast_ofNat_Int, ne_eq, not_true_eq_false, not_false_eq_true, Nat.testBit, Nat.reduceShiftRight, Nat.reduceAnd, Nat.reduceBNe]
    · have hin : seq ∈ M.map (·.1) := Classical.byContradiction fun h => hno ⟨h, by omega, by omega⟩
      have hL := n_held hlt hR hu seq b hM hin _ 0 [] rfl (by omega) (by simp) (by omega)
      simp only [nS, nat0, rowsBy, List.length_nil] at hL
      have hun : ∀ k, upd g (lo + k) none = g := fun k => upd_id (hR.low.none k)
      simp only [f17, hvar, hR.lt, hk, a1, a2, hs, hs2, hw, toldL, hL, hun, hR.low.none, tightR_small hlt, Nat.reduceLT, decide_false, decide_true, go_sem, reduceIte, reduceCtorEq, Nat.reduceEqDiff, Nat.reduceAdd, Nat.reduceMul, Nat.reduceLeDiff, Nat.reduceSub, Nat.reduceBEq, List.length_cons, List.length_nil, Int.reduceLT, Int.reduceLE, Int.reduceGT, Int.reduceGE, Int.reduceAdd, Int.reduceSub, Int.reduceMul, Int.reduceNeg, Int.reduceToNat, Int.reduceEq, Int.reduceNe, Int.cast_ofNat_Int, ne_eq, not_true_eq_false, not_false_eq_true, Nat.testBit, Nat.reduceShiftRight, Nat.reduceAnd, Nat.reduceBNe]
end Go.Proofs.Ytkliiknolnodjaa.Sx
namespace Go.Proofs.Ytkliiknolnodjaa.Sx
open Go
theorem ref_ok {lo : Nat} (hlt : lo < 1000000000000) {id : Nat} {W got : Int} {fz : Fl} {M : List Held} {g : Hp} (hR : RefAt g lo id W got (.sl fz 2 (rowsBy cEv M))) (hM : M.length < 800000) (hW : 1 ≤ W ∧ W ≤ 64) (h0 : 0 ≤ got) (h1 : got ≤ 1000000) {seq : Int} (b : List UInt8) (hb : b.length ≤ 100000) (hn : seq ∉ M.map (·.1)) (hg1 : got < seq) (hg2 : seq ≤ got + W)
    {t : List (List UInt8)} {got' : Int} {M' : List Held} (hd : drainM got (insR (seq, b) M) = (t, got', M')) :
    calli F 17 lo g [.p id 0, .v (.int .i64 seq), .v (.sl .shared 1 (rowsBy cByte b))] = some (.tup [.s (lo + 6) 0 t.length, .v (.int .i64 0)], upd (upd g id (some (yV W got' (.sl .shared 2 (rowsBy cEv M'))))) (lo + 6) (some (.arr false 30 1 (rowsBy cBs t)))) := by
  have hk := fun j => keepLo_low hR.low j
  have a1 := ne_add hR.lt
  have a2 := add_ne hR.lt
  have b1 := beq_add hR.lt
  have b2 := add_beq hR.lt
  have hvar := hR.var
  unfold yV at hvar
  have hw : IntKind.i64.wrap (seq - W) = seq - W := wrap64 (by omega) (by omega)
  have hs : ¬ seq ≤ got := by omega
  have hs2 : ¬ seq - W > got := by omega
  obtain ⟨acc, put, hL, hacc, hrow⟩ := n_loop hlt hR seq b hb (by omega) hn _ 0 [] rfl (by omega) (by simp)
  simp only [nS, nE, nat0, rowsBy, List.length_nil] at hL
  rw [List.nil_append, List.drop_zero] at hrow
  have hil := insR_len (seq, b) M
  obtain ⟨k', hD, hk', hdrop⟩ := d_loop hlt (insR (seq, b) M) (by omega) _ 0 g got [] rfl (by omega) hR h0 (by omega) (by simp)
  rw [List.drop_zero, hd] at hD hdrop
  simp only at hdrop
  simp only [dS, nat0, rowsBy, List.length_nil, List.nil_append, Nat.sub_zero] at hD
  have hun : ∀ k, upd g (lo + k) none = g := fun k => upd_id (hR.low.none k)
  have hsc := scalarRows_bytes b
  have h32 : (acc.length + 1) * 32 ≤ 140737488355328 := by omega
  have hb1 : b.length * 1 ≤ 140737488355328 := by omega
  have e1 := ev_snoc acc (seq, b)
  have tk : M'.take ((insR (seq, b) M).length - k') = M' := by
    rw [List.take_of_length_le]
    rw [← hdrop, List.length_drop]; omega
  rw [calli_code F (fn := f17) rfl]
  rcases Bool.eq_false_or_eq_true put with rfl | rfl
  · simp only [if_true] at hrow
    subst hrow
    simp only [f17, hvar, hR.lt, hk, a1, a2, b1, b2, hs, hs2, hw, hL, hD, hun, yV, hR.low.none, hdrop, tk, upd_two, storeQ_lt hlt, tightR_small hlt, appN_small hlt, Nat.reduceLT, decide_false, decide_true, go_sem, reduceIte, reduceCtorEq, Nat.reduceEqDiff, Nat.reduceAdd, Nat.reduceMul, Nat.reduceLeDiff, Nat.reduceSub, Nat.reduceBEq, List.length_cons, List.length_nil, Int.reduceLT, Int.reduceLE, Int.reduceGT, Int.reduceGE, Int.reduceAdd, Int.reduceSub, Int.reduceMul, Int.reduceNeg, Int.reduceToNat, Int.reduceEq, Int.reduceNe, Int.cast_ofNat_Int, ne_eq, not_true_eq_false, not_false_eq_true, Nat.testBit, Nat.reduceShiftRight, Nat.reduceAnd, Nat.reduceBNe]
  · simp only [Bool.false_eq_true, if_false] at hrow
    rw [← hrow] at hD hdrop tk
    have hal : (acc ++ [(seq, b)]).length = acc.length + 1 := by simp
    rw [hal] at hD tk
    simp only [f17, hvar, hR.lt, hk, a1, a2, b1, b2, hs, hs2, hw, hL, hD, hun, yV, hsc, h32, hb1, e1, hR.low.none, hdrop, tk, upd_two, storeQ_lt hlt, tightR_small hlt, appN_small hlt, Nat.reduceLT, decide_false, decide_true, go_sem, reduceIte, reduceCtorEq, Nat.reduceEqDiff, Nat.reduceAdd, Nat.reduceMul, Nat.reduceLeDiff, Nat.reduceSub, Nat.reduceBEq, List.length_cons, List.length_nil, Int.reduceLT, Int.reduceLE, Int.reduceGT, Int.reduceGE, Int.reduceAdd, Int.reduceSub, Int.reduceMul, Int.reduceNeg, Int.reduceToNat, Int.reduceEq, Int.reduceNe, Int.cast_ofNat_Int, ne_eq, not_true_eq_false, not_false_eq_true, Nat.testBit, Nat.reduceShiftRight, Nat.reduceAnd, Nat.reduceBNe]
end Go.Proofs.Ytkliiknolnodjaa.Sx
namespace Go.Proofs.Ytkliiknolnodjaa.Sx
open Go
def pC : ICode := (.seq (.region [nn (.mv 37 (.t 8)), nn (.bin 38 false .rem (.t 37) (ci 9)), nn (.bin 39 false .eql (.t 38) (ci 8))] ⟨[1, 6, 7, 8, 39], [(6, 6), (7, 7), (10386, 10386)]⟩) (.cond (.t 39) (.seq (.region [nn (.mv 40 (.t 6)), nn (.mv 9 (.t 40))] ⟨[1, 6, 7, 8, 9], [(6, 6), (7, 7), (10386, 10386)]⟩) (.seq (.region [nn (.mv 41 (.t 6)), nn (.icall 42 3 (.fn 16) [(.t 41)]), nn (.mv 6 (.t 42))] ⟨[1, 6, 7, 8, 9], [(3000002, 6), (7, 7), (6, 9), (3000001, 10386), (10386, 10578)]⟩) (.seq (.seq (.region [nn (.mv 43 (.t 6)), nn (.isnil 44 false true (.t 43))] ⟨[1, 6, 7, 8, 9, 44], [(6, 6), (7, 7), (9, 9), (10386, 10386), (10578, 10578)]⟩) (.cond (.t 44) (.seq (.region [nn (.mv 4 (.c (.v (.bool false))))] ⟨[4], []⟩) (.ret)) (.skip))) (.region [nn (.mv 45 (.t 9)), nn (.mv 46 (.t 7)), nn (.nchk 47 (.t 46)), nn (.faddr 48 (.t 47) 1), nn (.load 49 (.t 48) 1 false), nn (.bin 50 false .add (.t 49) (ci 1)), nn (.bslice 51 5 1 [(.c (.v (.int .u8 111))), (.c (.v (.int .u8 116))), (.c (.v (.int .u8 104))), (.c (.v (.int .u8 101))), (.c (.v (.int .u8 114)))]), nn (.cvb 52 (.t 51)), nn (.icall 53 4 (.fn 10) [(.t 45), (.t 50), (.t 52)])] ⟨[1, 6, 7, 8], [(6, 6), (7, 7), (10386, 10386)]⟩)))) (.skip)))
def pT1 : ICode := (.seq (.region [nn (.mv 54 (.t 1)), nn (.mv 55 (.t 8)), nn (.iaddr 56 (.t 54) (.t 55) 2), nn (.faddr 57 (.t 56) 0), nn (.load 58 (.t 57) 1 false), nn (.bin 59 false .lss (.t 58) (ci (-1000000)))] ⟨[1, 6, 7, 8, 59], [(6, 6), (7, 7), (10386, 10386)]⟩) (.cond (.t 59) (.seq (.gc ⟨[1, 6, 7, 8], [(6, 6), (7, 7), (10386, 10386)]⟩) (.exit 1)) (.skip)))
def pD1 : ICode := (.draw [nn (.mv 61 (.t 6)), nn (.mv 62 (.t 1)), nn (.mv 63 (.t 8)), nn (.iaddr 64 (.t 62) (.t 63) 2), nn (.faddr 65 (.t 64) 0), nn (.load 66 (.t 65) 1 false), nn (.bslice 67 5 1 []), nn (.mv 68 (.t 1)), nn (.mv 69 (.t 8)), nn (.iaddr 70 (.t 68) (.t 69) 2), nn (.faddr 71 (.t 70) 1), nn (.load 72 (.t 71) 1 false), nn (.call 73 (.fn 13) [(.t 72)]), nn (.append 74 (.t 67) (.t 73) 5 1 1), nn (.icall 75 5 (.fn 10) [(.t 61), (.t 66), (.t 74)]), nn (.mv 60 (.t 75)), nn (.ext 76 (.t 60) 0), nn (.ext 77 (.t 60) 1), nn (.mv 10 (.t 76)), nn (.mv 11 (.t 77))] [0, 0, 0, 6, 14, 30, 0, 0, 0, 384, 896, 1920, 3968, 8128, 16383, 32767, 65535, 65535, 131071, 524287] ⟨[1, 6, 7, 8, 10, 11], [(6, 6), (7, 7), (5000006, 10), (10386, 10386)]⟩)
def pD2 : ICode := (.draw [nn (.mv 79 (.t 7)), nn (.mv 80 (.t 1)), nn (.mv 81 (.t 8)), nn (.iaddr 82 (.t 80) (.t 81) 2), nn (.faddr 83 (.t 82) 0), nn (.load 84 (.t 83) 1 false), nn (.mv 85 (.t 1)), nn (.mv 86 (.t 8)), nn (.iaddr 87 (.t 85) (.t 86) 2), nn (.faddr 88 (.t 87) 1), nn (.load 89 (.t 88) 1 false), nn (.call 90 (.fn 13) [(.t 89)]), nn (.icall 91 6 (.fn 17) [(.t 79), (.t 84), (.t 90)]), nn (.mv 78 (.t 91)), nn (.ext 92 (.t 78) 0), nn (.ext 93 (.t 78) 1), nn (.mv 12 (.t 92)), nn (.mv 13 (.t 93))] [0, 0, 0, 6, 14, 30, 0, 0, 192, 448, 960, 1984, 4095, 8191, 16383, 16383, 32767, 131071] ⟨[1, 6, 7, 8, 10, 11, 12, 13], [(6, 6), (7, 7), (10, 10), (6000006, 12), (10386, 10386)]⟩)
def pSm : ICode := (.region [nn (.mv 94 (.t 10)), nn (.mv 95 (.t 12)), nn (.call 96 (.fn 18) [(.t 94), (.t 95)]), nn (.mv 14 (.t 96))] ⟨[1, 6, 7, 8, 11, 13, 14], [(6, 6), (7, 7), (10386, 10386)]⟩)
def pH : ICode := (.draws [nn (.mv 97 (.t 6)), nn (.icall 98 7 (.fn 11) [(.t 97)]), nn (.mv 99 (.t 7)), nn (.nchk 100 (.t 99)), nn (.faddr 101 (.t 100) 2), nn (.load 102 (.t 101) 1 false), nn (.call 103 (.fn 19) [(.t 102)]), nn (.call 104 (.fn 14) [(.t 98), (.t 103)]), nn (.mv 15 (.t 104))] [[0, 1, 2, 3, 4, 5, 6, 7, 8], [0, 2, 1, 3, 4, 5, 6, 7, 8], [0, 2, 3, 1, 4, 5, 6, 7, 8], [0, 2, 3, 4, 1, 5, 6, 7, 8], [0, 2, 3, 4, 5, 1, 6, 7, 8], [2, 0, 1, 3, 4, 5, 6, 7, 8], [2, 0, 3, 1, 4, 5, 6, 7, 8], [2, 0, 3, 4, 1, 5, 6, 7, 8], [2, 0, 3, 4, 5, 1, 6, 7, 8], [2, 3, 0, 1, 4, 5, 6, 7, 8], [2, 3, 0, 4, 1, 5, 6, 7, 8], [2, 3, 0, 4, 5, 1, 6, 7, 8], [2, 3, 4, 0, 1, 5, 6, 7, 8], [2, 3, 4, 0, 5, 1, 6, 7, 8], [2, 3, 4, 5, 0, 1, 6, 7, 8]] ⟨[1, 6, 7, 8, 11, 13, 14, 15], [(6, 6), (7, 7), (10386, 10386)]⟩)
def pZ : ICode := (.seq (.draw [nn (.mv 105 (.t 14)), nn (.un 106 .not (.t 105)), nn (.mv 107 (.t 106)), ⟨.mv 108 (.t 11), some (107, false)⟩, ⟨.mv 109 (.t 13), some (107, false)⟩, ⟨.bin 110 false .neq (.t 108) (.t 109), some (107, false)⟩, nn (.pick 111 (.t 107) (.c (.v (.bool true))) (.t 110)), nn (.mv 112 (.t 111)), ⟨.mv 113 (.t 6), some (112, false)⟩, ⟨.call 114 (.fn 12) [(.t 113)], some (112, false)⟩, ⟨.mv 115 (.t 7), some (112, false)⟩, ⟨.nchk 116 (.t 115), some (112, false)⟩, ⟨.faddr 117 (.t 116) 1, some (112, false)⟩, ⟨.load 118 (.t 117) 1 false, some (112, false)⟩, ⟨.bin 119 false .neq (.t 114) (.t 118), some (112, false)⟩, nn (.pick 120 (.t 112) (.c (.v (.bool true))) (.t 119)), nn (.mv 121 (.t 120)), ⟨.mv 122 (.t 15), some (121, false)⟩, ⟨.un 123 .not (.t 122), some (121, false)⟩, nn (.pick 124 (.t 121) (.c (.v (.bool true))) (.t 123))] [0, 1, 3, 7, 7, 31, 63, 127, 255, 511, 255, 1279, 3327, 7423, 16383, 32767, 65535, 131071, 262143, 524287] ⟨[1, 6, 7, 8, 124], [(6, 6), (7, 7), (10386, 10386)]⟩) (.cond (.t 124) (.seq (.region [nn (.mv 4 (.c (.v (.bool false))))] ⟨[4], []⟩) (.ret)) (.skip)))
def pB : ICode := .seq (.seq (.region [nn (.mv 27 (.t 8)), nn (.mv 28 (.t 1)), nn (.len 29 false (.t 28)), nn (.bin 30 false .lss (.t 27) (.t 29)), nn (.mv 31 (.t 30)), ⟨.mv 32 (.t 8), some (31, true)⟩, ⟨.bin 33 false .lss (.t 32) (ci 100), some (31, true)⟩, nn (.pick 34 (.t 31) (.t 33) (.c (.v (.bool false))))] ⟨[1, 6, 7, 8, 34], [(6, 6), (7, 7), (10386, 10386)]⟩) (.cond (.t 34) (.skip) (.seq (.gc ⟨[], []⟩) (.exit 0)))) (.seq (.block 1 (.seq pC (.seq pT1 (.seq pD1 (.seq pD2 (.seq pSm (.seq pH pZ))))))) (.region [nn (.mv 35 (.t 8)), nn (.bin 36 false .add (.t 35) (ci 1)), nn (.mv 8 (.t 36))] ⟨[1, 6, 7, 8], [(6, 6), (7, 7), (10386, 10386)]⟩))
theorem pB_eq : f6_b1 = pB := rfl
/-- at a round's head -/
def gS (l : List (Int × List UInt8)) (fl : Fl) (W : Int) (i : Nat) (got : Int) (L M : List Held) (fz : Fl) : St :=
  (⟨(upd (upd (upd (upd Sx.e0 8 (.v (.int .i64 (i : Int)))) 7 (.p 7 0)) 6 (.p 6 0)) 1 (.v (.sl fl 2 (rowsBy cEv l)))), (upd (upd (upd Sx.h0 10386 (some (rM L))) 7 (some (yV W got (.sl fz 2 (rowsBy cEv M))))) 6 (some (rV W got 10386)))⟩ : St)
/-- and with one more flag -/
def gF (l : List (Int × List UInt8)) (fl : Fl) (W : Int) (i : Nat) (got : Int) (L M : List Held) (fz : Fl) : St :=
  (⟨(upd (upd (upd (upd (upd Sx.e0 39 (.v (.bool false))) 8 (.v (.int .i64 (i : Int)))) 7 (.p 7 0)) 6 (.p 6 0)) 1 (.v (.sl fl 2 (rowsBy cEv l)))), (upd (upd (upd Sx.h0 10386 (some (rM L))) 7 (some (yV W got (.sl fz 2 (rowsBy cEv M))))) 6 (some (rV W got 10386)))⟩ : St)
def gH (l : List (Int × List UInt8)) (fl : Fl) (W : Int) (i : Nat) (got : Int) (L M : List Held) (fz : Fl) : St :=
  (⟨(upd (upd (upd (upd (upd Sx.e0 34 (.v (.bool true))) 8 (.v (.int .i64 (i : Int)))) 7 (.p 7 0)) 6 (.p 6 0)) 1 (.v (.sl fl 2 (rowsBy cEv l)))), (upd (upd (upd Sx.h0 10386 (some (rM L))) 7 (some (yV W got (.sl fz 2 (rowsBy cEv M))))) 6 (some (rV W got 10386)))⟩ : St)
def gT (l : List (Int × List UInt8)) (fl : Fl) (W : Int) (i : Nat) (got : Int) (L M : List Held) (fz : Fl) : St :=
  (⟨(upd (upd (upd (upd (upd Sx.e0 59 (.v (.bool false))) 8 (.v (.int .i64 (i : Int)))) 7 (.p 7 0)) 6 (.p 6 0)) 1 (.v (.sl fl 2 (rowsBy cEv l)))), (upd (upd (upd Sx.h0 10386 (some (rM L))) 7 (some (yV W got (.sl fz 2 (rowsBy cEv M))))) 6 (some (rV W got 10386)))⟩ : St)
theorem other_rows : ([[.int .u8 111], [.int .u8 116], [.int .u8 104], [.int .u8 101], [.int .u8 114]] : List (List TV)) = rowsBy cByte [111, 116, 104, 101, 114] := rfl
/-- each ninth round the one before goes its own way -/
theorem play_c (l : List (Int × List UInt8)) (fl : Fl) (W : Int) (i : Nat) (got : Int) (L M : List Held) (fz : Fl) (hK : Keeps W got L) (hg : got ≤ 64 * (i : Int)) (hi2 : i < 100) :
    E (cs F) 0 pC (gH l fl W i got L M fz) = some (.norm, gS l fl W i got L M fz) ∨ E (cs F) 0 pC (gH l fl W i got L M fz) = some (.norm, gF l fl W i got L M fz) := by
  have hp := hK.pos
  have hw := hK.win
  have hlen := hK.len
  by_cases h9 : (i : Int).tmod 9 = 8
  · left
    have hR : RecvAt (upd (upd (upd h0 10386 (some (rM L))) 7 (some (yV W got (.sl fz 2 (rowsBy cEv M))))) 6 (some (rV W got 10386))) 3000000 6 10386 W got L :=
      ⟨(((LowH.h0 _).upd (by decide) rM_mask).upd (by decide) yV_mask).upd (by decide) (rV_mask (by decide)), by decide, by decide, by decide, rfl, rfl⟩
    have c1 := rcl_i hR
    have hR2 : RecvAt (upd (upd (upd (upd (upd (upd (upd h0 10578 (some (rM L))) 10386 (some (rM L))) 9 (some (rV W got 10578))) 7 (some (yV W got (.sl fz 2 (rowsBy cEv M))))) 6 (some (rV W got 10386))) 51 (some (.arr false 5 1 [[.int .u8 111], [.int .u8 116], [.int .u8 104], [.int .u8 101], [.int .u8 114]]))) 51 (some .dead)) 4000000 9 10578 W got L :=
      ⟨(((((((LowH.h0 _).upd (by decide) rM_mask).upd (by decide) rM_mask).upd (by decide) (rV_mask (by decide))).upd (by decide) yV_mask).upd (by decide) (rV_mask (by decide))).upd (by decide) arr_mask).upd (by decide) fun _ _ _ => rfl, by decide, by decide, by decide, rfl, rfl⟩
    obtain ⟨t, e, got', L', hr⟩ : ∃ t e got' L', takeR W got L (got + 1) [111, 116, 104, 101, 114] = (t, e, got', L') := ⟨_, _, _, _, rfl⟩
    have t1 := take_r (by decide) hR2 hp (by omega) hw (by omega) (seq := got + 1) [111, 116, 104, 101, 114] (by simp) (.v (.sl .shared 1 (rowsBy cByte [111, 116, 104, 101, 114]))) (.inl rfl) hr
    have hwg : IntKind.i64.wrap (got + 1) = got + 1 := wrap64 (by omega) (by omega)
    simp only [reH, rV, rM, yV, ← other_rows] at t1 c1
    by_cases ht : t = []
    · simp only [toldL, toldH, if_pos ht] at t1
      simp only [pC, gH, gS, rV, rM, yV, h9, c1, t1, hwg, Nat.reduceLT, renP, decide_true, decide_false, go_sem, reduceIte, reduceCtorEq, Nat.reduceEqDiff, Nat.reduceAdd, Nat.reduceMul, Nat.reduceLeDiff, Nat.reduceSub, Nat.reduceBEq, List.length_cons, List.length_nil, Int.reduceLT, Int.reduceLE, Int.reduceGT, Int.reduceGE, Int.reduceAdd, Int.reduceSub, Int.reduceMul, Int.reduceNeg, Int.reduceToNat, Int.reduceEq, Int.reduceNe, Int.cast_ofNat_Int, ne_eq, not_true_eq_false, not_false_eq_true, Nat.testBit, Nat.reduceShiftRight, Nat.reduceAnd, Nat.reduceBNe]
    · simp only [toldL, toldH, if_neg ht] at t1
      simp only [pC, gH, gS, rV, rM, yV, h9, c1, t1, hwg, Nat.reduceLT, renP, decide_true, decide_false, go_sem, reduceIte, reduceCtorEq, Nat.reduceEqDiff, Nat.reduceAdd, Nat.reduceMul, Nat.reduceLeDiff, Nat.reduceSub, Nat.reduceBEq, List.length_cons, List.length_nil, Int.reduceLT, Int.reduceLE, Int.reduceGT, Int.reduceGE, Int.reduceAdd, Int.reduceSub, Int.reduceMul, Int.reduceNeg, Int.reduceToNat, Int.reduceEq, Int.reduceNe, Int.cast_ofNat_Int, ne_eq, not_true_eq_false, not_false_eq_true, Nat.testBit, Nat.reduceShiftRight, Nat.reduceAnd, Nat.reduceBNe]
  · right
    simp only [pC, gH, gS, gF, rV, rM, yV, h9, Nat.reduceLT, renP, decide_true, decide_false, go_sem, reduceIte, reduceCtorEq, Nat.reduceEqDiff, Nat.reduceAdd, Nat.reduceMul, Nat.reduceLeDiff, Nat.reduceSub, Nat.reduceBEq, List.length_cons, List.length_nil, Int.reduceLT, Int.reduceLE, Int.reduceGT, Int.reduceGE, Int.reduceAdd, Int.reduceSub, Int.reduceMul, Int.reduceNeg, Int.reduceToNat, Int.reduceEq, Int.reduceNe, Int.cast_ofNat_Int, ne_eq, not_true_eq_false, not_false_eq_true, Nat.testBit, Nat.reduceShiftRight, Nat.reduceAnd, Nat.reduceBNe]
theorem play_t1 (l : List (Int × List UInt8)) (fl : Fl) (W : Int) (i : Nat) (got : Int) (L M : List Held) (fz : Fl) (hi : i < l.length) (st : St) (hst : st = gS l fl W i got L M fz ∨ st = gF l fl W i got L M fz) :
    E (cs F) 0 pT1 st = some (if l[i].1 < -1000000 then (.exit 1, gS l fl W i got L M fz) else (.norm, gT l fl W i got L M fz)) := by
  have r1 : (rowsBy cEv l)[i]? = some [.int .i64 l[i].1, .sl .shared 1 (rowsBy cByte l[i].2)] := rowsBy_get cEv hi
  have q1 : (i : Int) < (l.length : Int) := by omega
  have i0 : (0 : Int) ≤ (i : Int) := by omega
  rcases hst with rfl | rfl
  · by_cases h : l[i].1 < -1000000
    · simp only [pT1, gS, gT, rV, rM, yV, r1, q1, i0, h, Nat.reduceLT, decide_true, decide_false, go_sem, reduceIte, reduceCtorEq, Nat.reduceEqDiff, Nat.reduceAdd, Nat.reduceMul, Nat.reduceLeDiff, Nat.reduceSub, Nat.reduceBEq, List.length_cons, List.length_nil, Int.reduceLT, Int.reduceLE, Int.reduceGT, Int.reduceGE, Int.reduceAdd, Int.reduceSub, Int.reduceMul, Int.reduceNeg, Int.reduceToNat, Int.reduceEq, Int.reduceNe, Int.cast_ofNat_Int, ne_eq, not_true_eq_false, not_false_eq_true, Nat.testBit, Nat.reduceShiftRight, Nat.reduceAnd, Nat.reduceBNe]
    · simp only [pT1, gS, gT, rV, rM, yV, r1, q1, i0, h, Nat.reduceLT, decide_true, decide_false, go_sem, reduceIte, reduceCtorEq, Nat.reduceEqDiff, Nat.reduceAdd, Nat.reduceMul, Nat.reduceLeDiff, Nat.reduceSub, Nat.reduceBEq, List.length_cons, List.length_nil, Int.reduceLT, Int.reduceLE, Int.reduceGT, Int.reduceGE, Int.reduceAdd, Int.reduceSub, Int.reduceMul, Int.reduceNeg, Int.reduceToNat, Int.reduceEq, Int.reduceNe, Int.cast_ofNat_Int, ne_eq, not_true_eq_false, not_false_eq_true, Nat.testBit, Nat.reduceShiftRight, Nat.reduceAnd, Nat.reduceBNe]
  · by_cases h : l[i].1 < -1000000
    · simp only [pT1, gS, gF, gT, rV, rM, yV, r1, q1, i0, h, Nat.reduceLT, decide_true, decide_false, go_sem, reduceIte, reduceCtorEq, Nat.reduceEqDiff, Nat.reduceAdd, Nat.reduceMul, Nat.reduceLeDiff, Nat.reduceSub, Nat.reduceBEq, List.length_cons, List.length_nil, Int.reduceLT, Int.reduceLE, Int.reduceGT, Int.reduceGE, Int.reduceAdd, Int.reduceSub, Int.reduceMul, Int.reduceNeg, Int.reduceToNat, Int.reduceEq, Int.reduceNe, Int.cast_ofNat_Int, ne_eq, not_true_eq_false, not_false_eq_true, Nat.testBit, Nat.reduceShiftRight, Nat.reduceAnd, Nat.reduceBNe]
    · simp only [pT1, gS, gF, gT, rV, rM, yV, r1, q1, i0, h, Nat.reduceLT, decide_true, decide_false, go_sem, reduceIte, reduceCtorEq, Nat.reduceEqDiff, Nat.reduceAdd, Nat.reduceMul, Nat.reduceLeDiff, Nat.reduceSub, Nat.reduceBEq, List.length_cons, List.length_nil, Int.reduceLT, Int.reduceLE, Int.reduceGT, Int.reduceGE, Int.reduceAdd, Int.reduceSub, Int.reduceMul, Int.reduceNeg, Int.reduceToNat, Int.reduceEq, Int.reduceNe, Int.cast_ofNat_Int, ne_eq, not_true_eq_false, not_false_eq_true, Nat.testBit, Nat.reduceShiftRight, Nat.reduceAnd, Nat.reduceBNe]
/-- behind the program's take: its answer is kept -/
def hS0 (l : List (Int × List UInt8)) (fl : Fl) (W : Int) (i : Nat) (g1 : Int) (L1 : List Held) (e : Int) (g2 : Int) (M : List Held) (fz : Fl) : St :=
  (⟨(upd (upd (upd (upd (upd (upd Sx.e0 11 (.v (.int .i64 e))) 10 (.v (.sl (.tight 30) 1 []))) 8 (.v (.int .i64 (i : Int)))) 7 (.p 7 0)) 6 (.p 6 0)) 1 (.v (.sl fl 2 (rowsBy cEv l)))), (upd (upd (upd Sx.h0 10386 (some (rM L1))) 7 (some (yV W g2 (.sl fz 2 (rowsBy cEv M))))) 6 (some (rV W g1 10386)))⟩ : St)
def hS1 (l : List (Int × List UInt8)) (fl : Fl) (W : Int) (i : Nat) (g1 : Int) (L1 : List Held) (t : List (List UInt8)) (e : Int) (g2 : Int) (M : List Held) (fz : Fl) : St :=
  (⟨(upd (upd (upd (upd (upd (upd Sx.e0 11 (.v (.int .i64 e))) 10 (.s 10 0 t.length)) 8 (.v (.int .i64 (i : Int)))) 7 (.p 7 0)) 6 (.p 6 0)) 1 (.v (.sl fl 2 (rowsBy cEv l)))), (upd (upd (upd (upd Sx.h0 10386 (some (rM L1))) 10 (some (.arr false 30 1 (rowsBy cBs t)))) 7 (some (yV W g2 (.sl fz 2 (rowsBy cEv M))))) 6 (some (rV W g1 10386)))⟩ : St)
def hSx (l : List (Int × List UInt8)) (fl : Fl) (W : Int) (i : Nat) (g1 : Int) (L1 : List Held) (t : List (List UInt8)) (e : Int) (g2 : Int) (M : List Held) (fz : Fl) : St := if t = [] then hS0 l fl W i g1 L1 e g2 M fz else hS1 l fl W i g1 L1 t e g2 M fz
theorem play_d1 (l : List (Int × List UInt8)) (fl : Fl) (W : Int) (i : Nat) (got : Int) (L M : List Held) (fz : Fl) (hi : i < l.length) (hK : Keeps W got L) (hg : got ≤ 1000000) {t : List (List UInt8)} {e got' : Int} {L' : List Held} (hr : takeR W got L l[i].1 (shB l[i].2) = (t, e, got', L')) :
    E (cs F) 0 pD1 (gT l fl W i got L M fz) = some (.norm, hSx l fl W i got' L' t e got M fz) := by
  have hp := hK.pos
  have hw := hK.win
  have hlen := hK.len
  have r1 : (rowsBy cEv l)[i]? = some [.int .i64 l[i].1, .sl .shared 1 (rowsBy cByte l[i].2)] := rowsBy_get cEv hi
  have q1 : (i : Int) < (l.length : Int) := by omega
  have i0 : (0 : Int) ≤ (i : Int) := by omega
  have cs1 := c_short l[i].2
  have hb60 := shB_len l[i].2
  have b1 : (shB l[i].2).length * 1 ≤ 140737488355328 := by omega
  have hR : RecvAt (upd (upd (upd (upd (upd (upd h0 10386 (some (rM L))) 7 (some (yV W got (.sl fz 2 (rowsBy cEv M))))) 6 (some (rV W got 10386))) 67 (some (.arr false 5 1 []))) 67 (some .dead)) 74 (some (.arr false 5 1 (rowsBy cByte (shB l[i].2))))) 5000000 6 10386 W got L :=
    ⟨((((((LowH.h0 _).upd (by decide) rM_mask).upd (by decide) yV_mask).upd (by decide) (rV_mask (by decide))).upd (by decide) arr_mask).upd (by decide) fun _ _ _ => rfl).upd (by decide) arr_mask, by decide, by decide, by decide, rfl, rfl⟩
  have t1 := take_r (by decide) hR hp hg hw (by omega) (seq := l[i].1) (shB l[i].2) (by omega) (.s 74 0 (shB l[i].2).length) (.inr ⟨74, false, rfl, by decide, rfl⟩) hr
  simp only [reH, rV, rM, yV] at t1
  by_cases ht : t = []
  · simp only [toldL, toldH, if_pos ht] at t1
    simp only [pD1, gT, hSx, hS0, if_pos ht, rV, rM, yV, r1, q1, i0, cs1, b1, t1, Nat.zero_add, List.nil_append, Nat.reduceLT, renP, decide_true, decide_false, go_sem, reduceIte, reduceCtorEq, Nat.reduceEqDiff, Nat.reduceAdd, Nat.reduceMul, Nat.reduceLeDiff, Nat.reduceSub, Nat.reduceBEq, List.length_cons, List.length_nil, Int.reduceLT, Int.reduceLE, Int.reduceGT, Int.reduceGE, Int.reduceAdd, Int.reduceSub, Int.reduceMul, Int.reduceNeg, Int.reduceToNat, Int.reduceEq, Int.reduceNe, Int.cast_ofNat_Int, ne_eq, not_true_eq_false, not_false_eq_true, Nat.testBit, Nat.reduceShiftRight, Nat.reduceAnd, Nat.reduceBNe]
  · simp only [toldL, toldH, if_neg ht] at t1
    simp only [pD1, gT, hSx, hS1, if_neg ht, rV, rM, yV, r1, q1, i0, cs1, b1, t1, Nat.zero_add, List.nil_append, Nat.reduceLT, renP, decide_true, decide_false, go_sem, reduceIte, reduceCtorEq, Nat.reduceEqDiff, Nat.reduceAdd, Nat.reduceMul, Nat.reduceLeDiff, Nat.reduceSub, Nat.reduceBEq, List.length_cons, List.length_nil, Int.reduceLT, Int.reduceLE, Int.reduceGT, Int.reduceGE, Int.reduceAdd, Int.reduceSub, Int.reduceMul, Int.reduceNeg, Int.reduceToNat, Int.reduceEq, Int.reduceNe, Int.cast_ofNat_Int, ne_eq, not_true_eq_false, not_false_eq_true, Nat.testBit, Nat.reduceShiftRight, Nat.reduceAnd, Nat.reduceBNe]
end Go.Proofs.Ytkliiknolnodjaa.Sx
namespace Go.Proofs.Ytkliiknolnodjaa.Sx
open Go
/-- both take alike -/
theorem both {W got : Int} {L M : List Held} (hK : Keeps W got L) (hp : L.Perm M) (hu : Up M) {seq : Int} {b : List UInt8} {t : List (List UInt8)} {e got' : Int} {L' : List Held} (hr : takeR W got L seq b = (t, e, got', L')) :
    Keeps W got' L' ∧ got' ≤ got + 64 ∧ t.length ≤ 64 ∧
    ((e = 22 ∧ t = [] ∧ got' = got ∧ L' = L ∧ ¬ (seq ∉ M.map (·.1) ∧ got < seq ∧ seq ≤ got + W)) ∨
     (e = 0 ∧ seq ∉ M.map (·.1) ∧ got < seq ∧ seq ≤ got + W ∧ ∃ M', drainM got (insR (seq, b) M) = (t, got', M') ∧ L'.Perm M' ∧ Up M')) := by
  have hlen := hK.len
  have hkey : lookR seq L = none ↔ seq ∉ M.map (·.1) := by rw [look_none, (hp.map _).mem_iff]
  unfold takeR at hr
  split at hr
  · rename_i hm
    obtain ⟨m1, m2, m3⟩ := hm
    cases hr
    have hn := hkey.1 m1
    obtain ⟨t', L2, k1, k2, k3, k4⟩ := hK.take b ⟨m1, m2, m3⟩
    have hperm : (L ++ [(seq, b)]).Perm (insR (seq, b) M) := by
      refine List.perm_append_comm.trans ?_
      exact (List.Perm.cons (seq, b) hp).trans (insR_perm (seq, b) M).symm
    have hup := insR_up (x := (seq, b)) hu hn
    obtain ⟨i1, i2, i3, i4⟩ := drain_both (L.length + 1) got (L ++ [(seq, b)]) (insR (seq, b) M) (by simp) hperm hup (fun x hx => by
      rcases List.mem_append.1 (hperm.mem_iff.2 hx) with h | h
      · have := hK.rng x h; omega
      · simp only [List.mem_singleton] at h; subst h; exact m2)
    have hl := drainR_len (L.length + 1) got (L ++ [(seq, b)])
    rw [k1] at i1 i2 i3 hl ⊢
    simp only at i1 i2 i3 hl ⊢
    refine ⟨k2, by omega, by omega, .inr ⟨trivial, hn, m2, m3, (drainM got (insR (seq, b) M)).2.2, ?_, i3, i4⟩⟩
    exact Prod.ext i1 (Prod.ext i2 rfl)
  · rename_i hm
    cases hr
    refine ⟨hK, by omega, by simp, .inl ⟨rfl, rfl, rfl, rfl, fun h => hm ⟨hkey.2 h.1, h.2⟩⟩⟩
/-- behind both takes and their comparison -/
def kS (l : List (Int × List UInt8)) (fl : Fl) (W : Int) (i : Nat) (got : Int) (L M : List Held) (fz : Fl) (e : Int) : St :=
  (⟨(upd (upd (upd (upd (upd (upd (upd Sx.e0 14 (.v (.bool true))) 13 (.v (.int .i64 e))) 11 (.v (.int .i64 e))) 8 (.v (.int .i64 (i : Int)))) 7 (.p 7 0)) 6 (.p 6 0)) 1 (.v (.sl fl 2 (rowsBy cEv l)))), (upd (upd (upd Sx.h0 10386 (some (rM L))) 7 (some (yV W got (.sl fz 2 (rowsBy cEv M))))) 6 (some (rV W got 10386)))⟩ : St)
theorem play_no (l : List (Int × List UInt8)) (fl : Fl) (W : Int) (i : Nat) (got : Int) (L M : List Held) (fz : Fl) (hi : i < l.length) (hK : Keeps W got L) (hp : L.Perm M) (hu : Up M) (hg : got ≤ 1000000) (hq : -1000000 ≤ l[i].1 ∧ l[i].1 ≤ 9223372036854775807) (hno : ¬ (l[i].1 ∉ M.map (·.1) ∧ got < l[i].1 ∧ l[i].1 ≤ got + W)) :
    ∃ st, E (cs F) 0 pD2 (hSx l fl W i got L [] 22 got M fz) = some (.norm, st) ∧ E (cs F) 0 pSm st = some (.norm, kS l fl W i got L M fz 22) := by
  have hpos := hK.pos
  have hw := hK.win
  have hlen := hK.len
  have hml := hp.length_eq
  have r1 : (rowsBy cEv l)[i]? = some [.int .i64 l[i].1, .sl .shared 1 (rowsBy cByte l[i].2)] := rowsBy_get cEv hi
  have q1 : (i : Int) < (l.length : Int) := by omega
  have i0 : (0 : Int) ≤ (i : Int) := by omega
  have cs1 := c_short l[i].2
  have hR : RefAt (upd (upd (upd h0 10386 (some (rM L))) 7 (some (yV W got (.sl fz 2 (rowsBy cEv M))))) 6 (some (rV W got 10386))) 6000000 7 W got (.sl fz 2 (rowsBy cEv M)) :=
    ⟨(((LowH.h0 _).upd (by decide) rM_mask).upd (by decide) yV_mask).upd (by decide) (rV_mask (by decide)), by decide, rfl⟩
  have t1 := ref_no (by decide) hR hu (by omega) hw hpos hg (shB l[i].2) hq hno
  simp only [rV, rM, yV, toldL, if_true] at t1
  have cS := c_same (.tight 30) (.tight 30) [] [] (by simp) (by simp)
  simp only [rowsBy, decide_true] at cS
  refine ⟨(⟨(upd (upd (upd (upd (upd (upd (upd (upd Sx.e0 13 (.v (.int .i64 22))) 12 (.v (.sl (.tight 30) 1 []))) 11 (.v (.int .i64 22))) 10 (.v (.sl (.tight 30) 1 []))) 8 (.v (.int .i64 (i : Int)))) 7 (.p 7 0)) 6 (.p 6 0)) 1 (.v (.sl fl 2 (rowsBy cEv l)))), (upd (upd (upd Sx.h0 10386 (some (rM L))) 7 (some (yV W got (.sl fz 2 (rowsBy cEv M))))) 6 (some (rV W got 10386)))⟩ : St), ?_, ?_⟩
  · simp only [pD2, hSx, hS0, rV, rM, yV, r1, q1, i0, cs1, t1, Nat.reduceLT, renP, decide_true, decide_false, go_sem, reduceIte, reduceCtorEq, Nat.reduceEqDiff, Nat.reduceAdd, Nat.reduceMul, Nat.reduceLeDiff, Nat.reduceSub, Nat.reduceBEq, List.length_cons, List.length_nil, Int.reduceLT, Int.reduceLE, Int.reduceGT, Int.reduceGE, Int.reduceAdd, Int.reduceSub, Int.reduceMul, Int.reduceNeg, Int.reduceToNat, Int.reduceEq, Int.reduceNe, Int.cast_ofNat_Int, ne_eq, not_true_eq_false, not_false_eq_true, Nat.testBit, Nat.reduceShiftRight, Nat.reduceAnd, Nat.reduceBNe]
  · simp only [pSm, kS, rV, rM, yV, cS, Nat.reduceLT, renP, decide_true, decide_false, go_sem, reduceIte, reduceCtorEq, Nat.reduceEqDiff, Nat.reduceAdd, Nat.reduceMul, Nat.reduceLeDiff, Nat.reduceSub, Nat.reduceBEq, List.length_cons, List.length_nil, Int.reduceLT, Int.reduceLE, Int.reduceGT, Int.reduceGE, Int.reduceAdd, Int.reduceSub, Int.reduceMul, Int.reduceNeg, Int.reduceToNat, Int.reduceEq, Int.reduceNe, Int.cast_ofNat_Int, ne_eq, not_true_eq_false, not_false_eq_true, Nat.testBit, Nat.reduceShiftRight, Nat.reduceAnd, Nat.reduceBNe]
theorem play_ok (l : List (Int × List UInt8)) (fl : Fl) (W : Int) (i : Nat) (got : Int) (L M : List Held) (fz : Fl) (hi : i < l.length) (hpos : 0 ≤ got) (hw : 1 ≤ W ∧ W ≤ 64) (hM : M.length ≤ 64) (hg : got ≤ 1000000) (hn : l[i].1 ∉ M.map (·.1)) (h1 : got < l[i].1) (h2 : l[i].1 ≤ got + W)
    {t : List (List UInt8)} {got' : Int} {L' M' : List Held} (ht : t.length ≤ 64) (hd : drainM got (insR (l[i].1, shB l[i].2) M) = (t, got', M')) :
    ∃ st, E (cs F) 0 pD2 (hSx l fl W i got' L' t 0 got M fz) = some (.norm, st) ∧ E (cs F) 0 pSm st = some (.norm, kS l fl W i got' L' M' .shared 0) := by
  have r1 : (rowsBy cEv l)[i]? = some [.int .i64 l[i].1, .sl .shared 1 (rowsBy cByte l[i].2)] := rowsBy_get cEv hi
  have q1 : (i : Int) < (l.length : Int) := by omega
  have i0 : (0 : Int) ≤ (i : Int) := by omega
  have cs1 := c_short l[i].2
  have hb60 := shB_len l[i].2
  by_cases hte : t = []
  · have hR : RefAt (upd (upd (upd h0 10386 (some (rM L'))) 7 (some (yV W got (.sl fz 2 (rowsBy cEv M))))) 6 (some (rV W got' 10386))) 6000000 7 W got (.sl fz 2 (rowsBy cEv M)) :=
      ⟨(((LowH.h0 _).upd (by decide) rM_mask).upd (by decide) yV_mask).upd (by decide) (rV_mask (by decide)), by decide, rfl⟩
    have t1 := ref_ok (by decide) hR (by omega) hw hpos hg (shB l[i].2) (by omega) hn h1 h2 hd
    subst hte
    simp only [rV, rM, yV, rowsBy, List.length_nil] at t1
    have cS := c_same (.tight 30) .shared [] [] (by simp) (by simp)
    simp only [rowsBy, decide_true] at cS
    refine ⟨(⟨(upd (upd (upd (upd (upd (upd (upd (upd Sx.e0 13 (.v (.int .i64 0))) 12 (.s 12 0 0)) 11 (.v (.int .i64 0))) 10 (.v (.sl (.tight 30) 1 []))) 8 (.v (.int .i64 (i : Int)))) 7 (.p 7 0)) 6 (.p 6 0)) 1 (.v (.sl fl 2 (rowsBy cEv l)))), (upd (upd (upd (upd Sx.h0 10386 (some (rM L'))) 12 (some (.arr false 30 1 []))) 7 (some (yV W got' (.sl .shared 2 (rowsBy cEv M'))))) 6 (some (rV W got' 10386)))⟩ : St), ?_, ?_⟩
    · simp only [pD2, hSx, hS0, rV, rM, yV, r1, q1, i0, cs1, t1, Nat.reduceLT, renP, decide_true, decide_false, go_sem, reduceIte, reduceCtorEq, Nat.reduceEqDiff, Nat.reduceAdd, Nat.reduceMul, Nat.reduceLeDiff, Nat.reduceSub, Nat.reduceBEq, List.length_cons, List.length_nil, Int.reduceLT, Int.reduceLE, Int.reduceGT, Int.reduceGE, Int.reduceAdd, Int.reduceSub, Int.reduceMul, Int.reduceNeg, Int.reduceToNat, Int.reduceEq, Int.reduceNe, Int.cast_ofNat_Int, ne_eq, not_true_eq_false, not_false_eq_true, Nat.testBit, Nat.reduceShiftRight, Nat.reduceAnd, Nat.reduceBNe]
    · simp only [pSm, kS, rV, rM, yV, cS, Nat.reduceLT, renP, decide_true, decide_false, go_sem, reduceIte, reduceCtorEq, Nat.reduceEqDiff, Nat.reduceAdd, Nat.reduceMul, Nat.reduceLeDiff, Nat.reduceSub, Nat.reduceBEq, List.length_cons, List.length_nil, Int.reduceLT, Int.reduceLE, Int.reduceGT, Int.reduceGE, Int.reduceAdd, Int.reduceSub, Int.reduceMul, Int.reduceNeg, Int.reduceToNat, Int.reduceEq, Int.reduceNe, Int.cast_ofNat_Int, ne_eq, not_true_eq_false, not_false_eq_true, Nat.testBit, Nat.reduceShiftRight, Nat.reduceAnd, Nat.reduceBNe]
  · have hR : RefAt (upd (upd (upd (upd h0 10386 (some (rM L'))) 10 (some (.arr false 30 1 (rowsBy cBs t)))) 7 (some (yV W got (.sl fz 2 (rowsBy cEv M))))) 6 (some (rV W got' 10386))) 6000000 7 W got (.sl fz 2 (rowsBy cEv M)) :=
      ⟨((((LowH.h0 _).upd (by decide) rM_mask).upd (by decide) arr_mask).upd (by decide) yV_mask).upd (by decide) (rV_mask (by decide)), by decide, rfl⟩
    have t1 := ref_ok (by decide) hR (by omega) hw hpos hg (shB l[i].2) (by omega) hn h1 h2 hd
    simp only [rV, rM, yV] at t1
    have cS := c_same .shared .shared t t (by omega) (by omega)
    simp only [decide_true] at cS
    refine ⟨(⟨(upd (upd (upd (upd (upd (upd (upd (upd Sx.e0 13 (.v (.int .i64 0))) 12 (.s 12 0 t.length)) 11 (.v (.int .i64 0))) 10 (.s 10 0 t.length)) 8 (.v (.int .i64 (i : Int)))) 7 (.p 7 0)) 6 (.p 6 0)) 1 (.v (.sl fl 2 (rowsBy cEv l)))), (upd (upd (upd (upd (upd Sx.h0 10386 (some (rM L'))) 12 (some (.arr false 30 1 (rowsBy cBs t)))) 10 (some (.arr false 30 1 (rowsBy cBs t)))) 7 (some (yV W got' (.sl .shared 2 (rowsBy cEv M'))))) 6 (some (rV W got' 10386)))⟩ : St), ?_, ?_⟩
    · simp only [pD2, hSx, hS1, if_neg hte, rV, rM, yV, r1, q1, i0, cs1, t1, Nat.reduceLT, renP, decide_true, decide_false, go_sem, reduceIte, reduceCtorEq, Nat.reduceEqDiff, Nat.reduceAdd, Nat.reduceMul, Nat.reduceLeDiff, Nat.reduceSub, Nat.reduceBEq, List.length_cons, List.length_nil, Int.reduceLT, Int.reduceLE, Int.reduceGT, Int.reduceGE, Int.reduceAdd, Int.reduceSub, Int.reduceMul, Int.reduceNeg, Int.reduceToNat, Int.reduceEq, Int.reduceNe, Int.cast_ofNat_Int, ne_eq, not_true_eq_false, not_false_eq_true, Nat.testBit, Nat.reduceShiftRight, Nat.reduceAnd, Nat.reduceBNe]
    · simp only [pSm, kS, rV, rM, yV, cS, Nat.reduceLT, renP, decide_true, decide_false, go_sem, reduceIte, reduceCtorEq, Nat.reduceEqDiff, Nat.reduceAdd, Nat.reduceMul, Nat.reduceLeDiff, Nat.reduceSub, Nat.reduceBEq, List.length_cons, List.length_nil, Int.reduceLT, Int.reduceLE, Int.reduceGT, Int.reduceGE, Int.reduceAdd, Int.reduceSub, Int.reduceMul, Int.reduceNeg, Int.reduceToNat, Int.reduceEq, Int.reduceNe, Int.cast_ofNat_Int, ne_eq, not_true_eq_false, not_false_eq_true, Nat.testBit, Nat.reduceShiftRight, Nat.reduceAnd, Nat.reduceBNe]
end Go.Proofs.Ytkliiknolnodjaa.Sx
namespace Go.Proofs.Ytkliiknolnodjaa.Sx
open Go
def mS (l : List (Int × List UInt8)) (fl : Fl) (W : Int) (i : Nat) (got : Int) (L M : List Held) (fz : Fl) (e : Int) : St :=
  (⟨(upd (upd (upd (upd (upd (upd (upd (upd Sx.e0 15 (.v (.bool true))) 14 (.v (.bool true))) 13 (.v (.int .i64 e))) 11 (.v (.int .i64 e))) 8 (.v (.int .i64 (i : Int)))) 7 (.p 7 0)) 6 (.p 6 0)) 1 (.v (.sl fl 2 (rowsBy cEv l)))), (upd (upd (upd Sx.h0 10386 (some (rM L))) 7 (some (yV W got (.sl fz 2 (rowsBy cEv M))))) 6 (some (rV W got 10386)))⟩ : St)
theorem play_h (l : List (Int × List UInt8)) (fl : Fl) (W : Int) (i : Nat) (got : Int) (L M : List Held) (fz : Fl) (e : Int) (hK : Keeps W got L) (hp : L.Perm M) (hu : Up M) (hg : got ≤ 1000000) (hz : fz = .shared ∨ (fz = .tight 58 ∧ M = [])) :
    E (cs F) 0 pH (kS l fl W i got L M fz e) = some (.norm, mS l fl W i got L M fz e) := by
  have hlen := hK.len
  have hml := hp.length_eq
  have hR : RecvAt (upd (upd (upd h0 10386 (some (rM L))) 7 (some (yV W got (.sl fz 2 (rowsBy cEv M))))) 6 (some (rV W got 10386))) 7000000 6 10386 W got L :=
    ⟨(((LowH.h0 _).upd (by decide) rM_mask).upd (by decide) yV_mask).upd (by decide) (rV_mask (by decide)), by decide, by decide, by decide, rfl, rfl⟩
  have d7 := held_i hR (by omega) hK.nd (hK.bd (by omega))
  rw [up_sort hp hu] at d7
  have cq := fun f => c_seqs f M (by omega)
  have cI := fun fa fb => c_ints fa fb (M.map (·.1)) (M.map (·.1)) (by rw [List.length_map]; omega) (by rw [List.length_map]; omega)
  have tk : (rowsBy cInt (M.map (·.1))).take L.length = rowsBy cInt (M.map (·.1)) := by rw [rowsBy_take, List.take_of_length_le (by rw [List.length_map]; omega)]
  have tk2 : (M.map (·.1)).take L.length = M.map (·.1) := List.take_of_length_le (by rw [List.length_map]; omega)
  simp only [decide_true] at cI
  simp only [rV, rM, yV] at d7
  rcases hz with rfl | ⟨rfl, rfl⟩
  · simp only [pH, kS, mS, rV, rM, yV, d7, cq, cI, tk2, Nat.reduceLT, renP, decide_true, decide_false, go_sem, reduceIte, reduceCtorEq, Nat.reduceEqDiff, Nat.reduceAdd, Nat.reduceMul, Nat.reduceLeDiff, Nat.reduceSub, Nat.reduceBEq, List.length_cons, List.length_nil, Int.reduceLT, Int.reduceLE, Int.reduceGT, Int.reduceGE, Int.reduceAdd, Int.reduceSub, Int.reduceMul, Int.reduceNeg, Int.reduceToNat, Int.reduceEq, Int.reduceNe, Int.cast_ofNat_Int, ne_eq, not_true_eq_false, not_false_eq_true, Nat.testBit, Nat.reduceShiftRight, Nat.reduceAnd, Nat.reduceBNe]
  · obtain rfl : L = [] := List.eq_nil_of_length_eq_zero hml
    have cq0 := cq (.tight 58)
    have cI0 := cI
    simp only [rowsBy, List.map_nil, List.length_nil] at cq0 cI0 d7
    simp only [pH, kS, mS, rV, rM, yV, d7, cq0, cI0, rowsBy, List.map_nil, Nat.reduceLT, renP, decide_true, decide_false, go_sem, reduceIte, reduceCtorEq, Nat.reduceEqDiff, Nat.reduceAdd, Nat.reduceMul, Nat.reduceLeDiff, Nat.reduceSub, Nat.reduceBEq, List.length_cons, List.length_nil, Int.reduceLT, Int.reduceLE, Int.reduceGT, Int.reduceGE, Int.reduceAdd, Int.reduceSub, Int.reduceMul, Int.reduceNeg, Int.reduceToNat, Int.reduceEq, Int.reduceNe, Int.cast_ofNat_Int, ne_eq, not_true_eq_false, not_false_eq_true, Nat.testBit, Nat.reduceShiftRight, Nat.reduceAnd, Nat.reduceBNe]
def gZ (l : List (Int × List UInt8)) (fl : Fl) (W : Int) (i : Nat) (got : Int) (L M : List Held) (fz : Fl) : St :=
  (⟨(upd (upd (upd (upd (upd Sx.e0 124 (.v (.bool false))) 8 (.v (.int .i64 (i : Int)))) 7 (.p 7 0)) 6 (.p 6 0)) 1 (.v (.sl fl 2 (rowsBy cEv l)))), (upd (upd (upd Sx.h0 10386 (some (rM L))) 7 (some (yV W got (.sl fz 2 (rowsBy cEv M))))) 6 (some (rV W got 10386)))⟩ : St)
theorem play_z (l : List (Int × List UInt8)) (fl : Fl) (W : Int) (i : Nat) (got : Int) (L M : List Held) (fz : Fl) (e : Int) :
    E (cs F) 0 pZ (mS l fl W i got L M fz e) = some (.norm, gZ l fl W i got L M fz) := by
  simp only [pZ, mS, gZ, rV, rM, yV, got_c, Nat.reduceLT, renP, decide_true, decide_false, go_sem, reduceIte, reduceCtorEq, Nat.reduceEqDiff, Nat.reduceAdd, Nat.reduceMul, Nat.reduceLeDiff, Nat.reduceSub, Nat.reduceBEq, List.length_cons, List.length_nil, Int.reduceLT, Int.reduceLE, Int.reduceGT, Int.reduceGE, Int.reduceAdd, Int.reduceSub, Int.reduceMul, Int.reduceNeg, Int.reduceToNat, Int.reduceEq, Int.reduceNe, Int.cast_ofNat_Int, ne_eq, not_true_eq_false, not_false_eq_true, Nat.testBit, Nat.reduceShiftRight, Nat.reduceAnd, Nat.reduceBNe]
theorem play_b (l : List (Int × List UInt8)) (fl : Fl) (W : Int) (i : Nat) (got : Int) (L M : List Held) (fz : Fl) (hK : Keeps W got L) (hp : L.Perm M) (hu : Up M) (hg : got ≤ 64 * (i : Int)) (hzz : fz = .shared ∨ (fz = .tight 58 ∧ M = [])) (hi : i < l.length) (hi2 : i < 100) (hq : l[i].1 ≤ 9223372036854775807) :
    ∃ got' L' M' fz', Keeps W got' L' ∧ L'.Perm M' ∧ Up M' ∧ got' ≤ 64 * ((i + 1 : Nat) : Int) ∧ (fz' = .shared ∨ (fz' = .tight 58 ∧ M' = [])) ∧ E (cs F) 0 pB (gS l fl W i got L M fz) = some (.norm, gS l fl W (i + 1) got' L' M' fz') := by
  have hpos := hK.pos
  have hw := hK.win
  have hlen := hK.len
  have hml := hp.length_eq
  have d1 := dec_lt hi
  have d2 : decide ((i : Int) < 100) = true := by simp; omega
  have hwi : IntKind.i64.wrap ((i : Int) + 1) = ((i + 1 : Nat) : Int) := by rw [wrap64 (by omega) (by omega)]; omega
  have hc := play_c l fl W i got L M fz hK hg hi2
  have ht1 := play_t1 l fl W i got L M fz hi
  obtain ⟨st, hcs, hst⟩ : ∃ st, E (cs F) 0 pC (gH l fl W i got L M fz) = some (.norm, st) ∧ (st = gS l fl W i got L M fz ∨ st = gF l fl W i got L M fz) := by
    rcases hc with h | h
    · exact ⟨_, h, .inl rfl⟩
    · exact ⟨_, h, .inr rfl⟩
  have ht := ht1 st hst
  by_cases hs : l[i].1 < -1000000
  · rw [if_pos hs] at ht
    refine ⟨got, L, M, fz, hK, hp, hu, by omega, hzz, ?_⟩
    simp only [gS, gH, gF, gT, rV, rM, yV] at hcs ht
    simp only [pB, gS, rV, rM, yV, d1, d2, hwi, hcs, ht, Nat.reduceLT, decide_true, decide_false, go_sem, reduceIte, reduceCtorEq, Nat.reduceEqDiff, Nat.reduceAdd, Nat.reduceMul, Nat.reduceLeDiff, Nat.reduceSub, Nat.reduceBEq, List.length_cons, List.length_nil, Int.reduceLT, Int.reduceLE, Int.reduceGT, Int.reduceGE, Int.reduceAdd, Int.reduceSub, Int.reduceMul, Int.reduceNeg, Int.reduceToNat, Int.reduceEq, Int.reduceNe, Int.cast_ofNat_Int, ne_eq, not_true_eq_false, not_false_eq_true, Nat.testBit, Nat.reduceShiftRight, Nat.reduceAnd, Nat.reduceBNe]
  · rw [if_neg hs] at ht
    obtain ⟨t, e, got', L', hr⟩ : ∃ t e got' L', takeR W got L l[i].1 (shB l[i].2) = (t, e, got', L') := ⟨_, _, _, _, rfl⟩
    obtain ⟨hK', hg', htl, hcase⟩ := both hK hp hu hr
    have hd1 := play_d1 l fl W i got L M fz hi hK (by omega) hr
    have hmid : ∃ M' fz' st, L'.Perm M' ∧ Up M' ∧ (fz' = .shared ∨ (fz' = .tight 58 ∧ M' = [])) ∧ E (cs F) 0 pD2 (hSx l fl W i got' L' t e got M fz) = some (.norm, st) ∧ E (cs F) 0 pSm st = some (.norm, kS l fl W i got' L' M' fz' e) := by
      rcases hcase with ⟨rfl, rfl, rfl, rfl, hno⟩ | ⟨rfl, hn, h1, h2, M', hd, hp', hu'⟩
      · obtain ⟨st, s1, s2⟩ := play_no l fl W i got' L' M fz hi hK hp hu (by omega) ⟨by omega, hq⟩ hno
        exact ⟨M, fz, st, hp, hu, hzz, s1, s2⟩
      · obtain ⟨st, s1, s2⟩ := play_ok l fl W i got L M fz hi hpos hw (by omega) (by omega) hn h1 h2 (L' := L') htl hd
        exact ⟨M', .shared, st, hp', hu', .inl rfl, s1, s2⟩
    obtain ⟨M', fz', st2, hp', hu', hz', s1, s2⟩ := hmid
    have hh := play_h l fl W i got' L' M' fz' e hK' hp' hu' (by omega) hz'
    have hz := play_z l fl W i got' L' M' fz' e
    refine ⟨got', L', M', fz', hK', hp', hu', by omega, hz', ?_⟩
    simp only [gS, gH, gF, gT, gZ, rV, rM, yV] at hcs ht hd1 s1 s2 hh hz
    simp only [pB, gS, rV, rM, yV, d1, d2, hwi, hcs, ht, hd1, s1, s2, hh, hz, Nat.reduceLT, decide_true, decide_false, go_sem, reduceIte, reduceCtorEq, Nat.reduceEqDiff, Nat.reduceAdd, Nat.reduceMul, Nat.reduceLeDiff, Nat.reduceSub, Nat.reduceBEq, List.length_cons, List.length_nil, Int.reduceLT, Int.reduceLE, Int.reduceGT, Int.reduceGE, Int.reduceAdd, Int.reduceSub, Int.reduceMul, Int.reduceNeg, Int.reduceToNat, Int.reduceEq, Int.reduceNe, Int.cast_ofNat_Int, ne_eq, not_true_eq_false, not_false_eq_true, Nat.testBit, Nat.reduceShiftRight, Nat.reduceAnd, Nat.reduceBNe]
end Go.Proofs.Ytkliiknolnodjaa.Sx
namespace Go.Proofs.Ytkliiknolnodjaa.Sx
open Go Go.RowKit Go.ChangeShapes Go.WideShapes Go.ChangeAt
set_option maxRecDepth 100000
theorem agg_of {t : TypeId} {n : Nat} {a : TV} (hagg : isAggB Try.prog t = true) (h : ArgShape Try.prog n t a) : ∃ ts, a = .agg ts ∧ Shape Try.prog n t ts := by
  unfold ArgShape at h; rw [if_pos hagg] at h; exact h
theorem plain_of {t : TypeId} {n : Nat} {a : TV} (hagg : isAggB Try.prog t = false) (h : ArgShape Try.prog n t a) : Shape Try.prog n t [a] := by
  unfold ArgShape at h; rw [if_neg (by rw [hagg]; simp)] at h; exact h
theorem own : ownKnob Try.prog.godebug = none := by kernel_rfl
theorem laidOut : laidOutB Try.prog = true := by kernel_rfl
/-- rows that are each of a form are a list's -/
theorem rows_list {α : Type} {c : α → List TV} {S : List TV → Prop} {Q : α → Prop} (h : ∀ ts, S ts → ∃ x, ts = c x ∧ Q x) : ∀ {rows : List (List TV)}, (∀ r ∈ rows, S r) → ∃ l : List α, rows = rowsBy c l ∧ ∀ x ∈ l, Q x
  | [], _ => ⟨[], rfl, by simp⟩
  | r :: rows, hr => by
    obtain ⟨x, rfl, hx⟩ := h r (hr r (by simp))
    obtain ⟨l, rfl, hl⟩ := rows_list h (rows := rows) fun q hq => hr q (by simp [hq])
    refine ⟨x :: l, rfl, fun y hy => ?_⟩
    rcases List.mem_cons.1 hy with rfl | hy
    · exact hx
    · exact hl y hy
theorem shInt {n : Nat} {ts : List TV} (h : Shape Try.prog (n + 1) 3 ts) : ∃ a, ts = [.int .i64 a] ∧ IntKind.i64.has a := by
  unfold Shape at h; rw [Try.underlying3] at h; exact h
theorem shU8 {n : Nat} {ts : List TV} (h : Shape Try.prog (n + 1) 5 ts) : ∃ b : UInt8, ts = cByte b ∧ True := by
  unfold Shape at h; rw [Try.underlying5] at h
  obtain ⟨m, rfl, hm⟩ := h
  have hm : 0 ≤ m ∧ m ≤ 255 := hm
  refine ⟨UInt8.ofNat m.toNat, ?_, trivial⟩
  unfold cByte
  congr 2
  rw [UInt8.toNat_ofNat']
  omega
theorem shBytes {n : Nat} {ts : List TV} (h : Shape Try.prog (n + 2) 30 ts) : ∃ b : List UInt8, ts = [.sl .shared 1 (rowsBy cByte b)] := by
  unfold Shape at h; rw [Try.underlying30] at h
  obtain ⟨rows, rfl, _, hr⟩ := h
  obtain ⟨l, rfl, _⟩ := rows_list (c := cByte) (Q := fun _ => True) (fun ts h => shU8 h) hr
  exact ⟨l, rfl⟩
theorem shInts {n : Nat} {ts : List TV} (h : Shape Try.prog (n + 2) 22 ts) : ∃ b : List Int, ts = [.sl .shared 1 (rowsBy cInt b)] := by
  unfold Shape at h; rw [Try.underlying22] at h
  obtain ⟨rows, rfl, _, hr⟩ := h
  obtain ⟨l, rfl, _⟩ := rows_list (c := cInt) (Q := fun _ => True) (fun ts h => by obtain ⟨a, rfl, _⟩ := shInt h; exact ⟨a, rfl, trivial⟩) hr
  exact ⟨l, rfl⟩
theorem shBss {n : Nat} {ts : List TV} (h : Shape Try.prog (n + 3) 26 ts) : ∃ b : List (List UInt8), ts = [.sl .shared 1 (rowsBy cBs b)] := by
  unfold Shape at h; rw [Try.underlying26] at h
  obtain ⟨rows, rfl, _, hr⟩ := h
  obtain ⟨l, rfl, _⟩ := rows_list (c := cBs) (Q := fun _ => True) (fun ts h => by obtain ⟨a, rfl⟩ := shBytes h; exact ⟨a, rfl, trivial⟩) hr
  exact ⟨l, rfl⟩
theorem shOp {n : Nat} {ts : List TV} (h : Shape Try.prog (n + 3) 45 ts) : ∃ x, ts = cEv x := by
  unfold Shape at h; rw [Try.underlying45] at h
  obtain ⟨x, r, rfl, h1, y, r', rfl, h2, rfl⟩ := h
  obtain ⟨a, rfl, _⟩ := shInt h1
  obtain ⟨b, rfl⟩ := shBytes h2
  exact ⟨(a, b), rfl⟩
theorem shOps {n : Nat} {ts : List TV} (h : Shape Try.prog (n + 4) 37 ts) : ∃ b : List (Int × List UInt8), ts = [.sl .shared 2 (rowsBy cEv b)] := by
  unfold Shape at h; rw [Try.underlying37] at h
  obtain ⟨rows, rfl, _, hr⟩ := h
  obtain ⟨l, rfl, _⟩ := rows_list (c := cEv) (Q := fun _ => True) (fun ts h => by obtain ⟨x, rfl⟩ := shOp h; exact ⟨x, rfl, trivial⟩) hr
  exact ⟨l, rfl⟩
end Go.Proofs.Ytkliiknolnodjaa.Sx
namespace Go.Proofs.Ytkliiknolnodjaa.Sx
open Go Go.RowKit Go.ChangeShapes Go.WideShapes Go.ChangeAt
set_option maxRecDepth 100000
theorem shOpF {n : Nat} {ts : List TV} (h : Shape Try.prog (n + 3) 45 ts) : ∃ x, ts = cEv x ∧ x.1 ≤ 9223372036854775807 := by
  unfold Shape at h; rw [Try.underlying45] at h
  obtain ⟨x, r, rfl, h1, y, r', rfl, h2, rfl⟩ := h
  obtain ⟨a, rfl, ha⟩ := shInt h1
  obtain ⟨b, rfl⟩ := shBytes h2
  have ha2 : -9223372036854775808 ≤ a ∧ a ≤ 9223372036854775807 := ha
  exact ⟨(a, b), rfl, ha2.2⟩
theorem shOpsF {n : Nat} {ts : List TV} (h : Shape Try.prog (n + 4) 37 ts) : ∃ b : List (Int × List UInt8), ts = [.sl .shared 2 (rowsBy cEv b)] ∧ ∀ x ∈ b, x.1 ≤ 9223372036854775807 := by
  unfold Shape at h; rw [Try.underlying37] at h
  obtain ⟨rows, rfl, _, hr⟩ := h
  obtain ⟨l, rfl, hl⟩ := rows_list (c := cEv) (Q := fun x => x.1 ≤ 9223372036854775807) (fun ts h => shOpF h) hr
  exact ⟨l, rfl, hl⟩
end Go.Proofs.Ytkliiknolnodjaa.Sx
namespace Go.Proofs.Ytkliiknolnodjaa.Sx
open Go
theorem play_l (l : List (Int × List UInt8)) (fl : Fl) (W : Int) (hq : ∀ x ∈ l, x.1 ≤ 9223372036854775807) : ∀ (k i : Nat) (got : Int) (L M : List Held) (fz : Fl), min l.length 100 - i = k → Keeps W got L → L.Perm M → Up M → got ≤ 64 * (i : Int) → (fz = .shared ∨ (fz = .tight 58 ∧ M = [])) →
    E (cs F) 0 f6_l1 (gS l fl W i got L M fz) = some (.exit 0, ⟨Sx.e0, Sx.h0⟩) := by
  intro k
  induction k with
  | zero =>
    intro i got L M fz hk hK hp hu hg hz
    rw [f6_l1_eq]
    by_cases hi : i < l.length
    · have d1 := dec_lt hi
      have d2 : decide ((i : Int) < 100) = false := by simp; omega
      simp only [f6_b1, gS, d1, d2, rV, rM, yV, Nat.reduceLT, decide_true, decide_false, go_sem, reduceIte, reduceCtorEq, Nat.reduceEqDiff, Nat.reduceAdd, Nat.reduceMul, Nat.reduceLeDiff, Nat.reduceSub, Nat.reduceBEq, List.length_cons, List.length_nil, Int.reduceLT, Int.reduceLE, Int.reduceGT, Int.reduceGE, Int.reduceAdd, Int.reduceSub, Int.reduceMul, Int.reduceNeg, Int.reduceToNat, Int.reduceEq, Int.reduceNe, Int.cast_ofNat_Int, ne_eq, not_true_eq_false, not_false_eq_true, Nat.testBit, Nat.reduceShiftRight, Nat.reduceAnd, Nat.reduceBNe]
    · have d1 := dec_ge (i := i) (n := l.length) (by omega)
      simp only [f6_b1, gS, d1, rV, rM, yV, Nat.reduceLT, decide_true, decide_false, go_sem, reduceIte, reduceCtorEq, Nat.reduceEqDiff, Nat.reduceAdd, Nat.reduceMul, Nat.reduceLeDiff, Nat.reduceSub, Nat.reduceBEq, List.length_cons, List.length_nil, Int.reduceLT, Int.reduceLE, Int.reduceGT, Int.reduceGE, Int.reduceAdd, Int.reduceSub, Int.reduceMul, Int.reduceNeg, Int.reduceToNat, Int.reduceEq, Int.reduceNe, Int.cast_ofNat_Int, ne_eq, not_true_eq_false, not_false_eq_true, Nat.testBit, Nat.reduceShiftRight, Nat.reduceAnd, Nat.reduceBNe]
  | succ k ih =>
    intro i got L M fz hk hK hp hu hg hz
    have hi : i < l.length := by omega
    obtain ⟨got', L', M', fz', h1, h2, h3, h4, h5, h6⟩ := play_b l fl W i got L M fz hK hp hu hg hz hi (by omega) (hq _ (List.getElem_mem hi))
    rw [f6_l1_eq, pB_eq, h6]
    exact ih (i + 1) got' L' M' fz' (by omega) h1 h2 h3 h4 h5
theorem t_plays (w : Int) (fl : Fl) (l : List (Int × List UInt8)) (hq : ∀ x ∈ l, x.1 ≤ 9223372036854775807) : call F 6 [.int .i64 w, .sl fl 2 (rowsBy cEv l)] = some (.bool true) := by
  have h1 := play_l l fl (winR w) hq _ 0 0 [] [] (.tight 58) rfl (Keeps.new (winR_ok w)) (.refl _) (by unfold Up; simp) (by simp) (.inr ⟨rfl, rfl⟩)
  have e0 : entsR [] = [] := rfl
  have hN2 : LowH (upd (upd Sx.h0 10386 (some (.map false false false []))) 6 (some (.var false [.v (.int .i64 (winR w)), .v (.int .i64 0), .m 10386]))) 2000000 :=
    ((LowH.h0 _).upd (by decide) fun _ _ _ => rfl).upd (by decide) (rV_mask (by decide))
  have n1 := new_i 1000000 _ (LowH.h0 _) w
  have n2 := ref_new 2000000 _ hN2 w
  simp only [gS, rV, rM, yV, e0, nat0, rowsBy] at h1 n2
  rw [call_code F (show F 6 = some (.code f6) from rfl)]
  simp only [f6, t_shown, n1, n2, h1, Nat.reduceLT, renP, decide_true, decide_false, go_sem, reduceIte, reduceCtorEq, Nat.reduceEqDiff, Nat.reduceAdd, Nat.reduceMul, Nat.reduceLeDiff, Nat.reduceSub, Nat.reduceBEq, List.length_cons, List.length_nil, Int.reduceLT, Int.reduceLE, Int.reduceGT, Int.reduceGE, Int.reduceAdd, Int.reduceSub, Int.reduceMul, Int.reduceNeg, Int.reduceToNat, Int.reduceEq, Int.reduceNe, Int.cast_ofNat_Int, ne_eq, not_true_eq_false, not_false_eq_true, Nat.testBit, Nat.reduceShiftRight, Nat.reduceAnd, Nat.reduceBNe]
end Go.Proofs.Ytkliiknolnodjaa.Sx
