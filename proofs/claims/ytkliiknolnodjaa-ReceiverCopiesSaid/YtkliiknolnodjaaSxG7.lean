/- ReceiverCopies: what the law comes to. The forms of this seat's arguments. -/
import Derived.Test.YtkliiknolnodjaaRows
import Derived.Test.YtkliiknolnodjaaSxG5
import Derived.Test.YtkliiknolnodjaaSxG6
set_option maxRecDepth 100000
set_option linter.unusedSimpArgs false
set_option linter.unusedVariables false
namespace Go.Proofs.Ytkliiknolnodjaa.Sx
open Go
open Classical in
/-- a take in plain words: what is told, whether it was refused, what is got then and what is held -/
noncomputable def takeR (W got : Int) (L : List Held) (seq : Int) (b : List UInt8) : List (List UInt8) × Int × Int × List Held :=
  if mayR W got L seq then ((drainR (L.length + 1) got (L ++ [(seq, b)])).1, 0, (drainR (L.length + 1) got (L ++ [(seq, b)])).2.1, (drainR (L.length + 1) got (L ++ [(seq, b)])).2.2) else ([], 22, got, L)
theorem take_r {lo : Nat} (hlt : lo < 1000000000000) {id mid : Nat} {W got : Int} {L : List Held} {g : Hp} (hR : RecvAt g lo id mid W got L) (h0 : 0 ≤ got) (h1 : got ≤ 1000000) (hW : 1 ≤ W ∧ W ≤ 64) (hL : L.length ≤ 1000000) {seq : Int} (b : List UInt8) (hb : b.length ≤ 100000)
    (x : LV) (hx : x = .v (.sl .shared 1 (rowsBy cByte b)) ∨ ∃ bid fz, x = .s bid 0 b.length ∧ bid < lo ∧ g bid = some (.arr fz 5 1 (rowsBy cByte b))) {t : List (List UInt8)} {e got' : Int} {L' : List Held} (hr : takeR W got L seq b = (t, e, got', L')) :
    calli F 10 lo g [.p id 0, .v (.int .i64 seq), x] = some (toldL lo t e, toldH lo t (reH g id mid W got' L')) := by
  unfold takeR at hr
  split at hr
  · rename_i hm
    cases hr
    exact take_ok hlt hR h0 h1 hW hL b hb hm x hx
  · rename_i hm
    cases hr
    have hmask : maskL lo [] x = x := by
      rcases hx with rfl | ⟨bid, fz, rfl, hbl, _⟩
      · rfl
      · simp only [maskL, maskC, lk, if_pos hbl, renS]
    rw [take_no hlt hR h0 h1 hW x hmask hm, reH_id hR]
    simp only [toldH, if_true]
theorem Keeps.takeR {W got : Int} {L : List Held} (h : Keeps W got L) {seq : Int} {b : List UInt8} {t : List (List UInt8)} {e got' : Int} {L' : List Held} (hr : Sx.takeR W got L seq b = (t, e, got', L')) {B : Int} (hB : ∀ e ∈ L, e.1 ≤ B) (hs : seq ≤ B) (hg : got ≤ B) :
    Keeps W got' L' ∧ (∀ e ∈ L', e.1 ≤ B) ∧ got' ≤ B ∧ (∀ x ∈ t, x = b ∨ x ∈ L.map (·.2)) ∧ (t.length : Int) ≤ B := by
  unfold Sx.takeR at hr
  split at hr
  · rename_i hm
    obtain ⟨t2, L2, h1, h2, h3, h4⟩ := h.take b hm
    rw [h1] at hr
    cases hr
    have hall : ∀ e ∈ L ++ [(seq, b)], e.1 ≤ B := fun e he => by
      rcases List.mem_append.1 he with he | he
      · exact hB e he
      · simp only [List.mem_singleton] at he; subst he; exact hs
    have hp := h.pos
    refine ⟨h2, fun e he => hall e ((h4 e).1 he).1, ?_, fun x hx => ?_, ?_⟩
    · show got + (t2.length : Int) ≤ B
      by_cases h : t2.length = 0
      · omega
      · have := hall _ (h3 (t2.length - 1) (by omega))
        simp only at this
        omega
    · obtain ⟨i, hi, rfl⟩ := List.getElem_of_mem hx
      rcases List.mem_append.1 (h3 i hi) with he | he
      · exact .inr (List.mem_map_of_mem (f := (·.2)) he)
      · simp only [List.mem_singleton, Prod.mk.injEq] at he
        exact .inl he.2
    · show (t2.length : Int) ≤ B
      by_cases h : t2.length = 0
      · omega
      · have := hall _ (h3 (t2.length - 1) (by omega))
        simp only at this
        omega
  · cases hr
    exact ⟨h, hB, hg, by simp, by simp; have := h.pos; omega⟩
theorem c_same (fa fb : Fl) (a b : List (List UInt8)) (ha : a.length ≤ 1000000) (hb : b.length ≤ 1000000) : call F 18 [.sl fa 1 (rowsBy cBs a), .sl fb 1 (rowsBy cBs b)] = some (.bool (decide (a = b))) := by
  by_cases hl : a.length = b.length
  · have hq : ∀ x y : List UInt8, (fun x y : List UInt8 => (x == y)) x y = decide (x = y) := fun x y => by
      by_cases h : x = y
      · subst h; simp
      · simp [h]
    have hL := loop_any (C := cs F) (lo := 0) (b := f18_b1) (fun i => (⟨(upd (upd (upd Sx.e0 5 (.v (.int .i64 (i : Int)))) 1 (.v (.sl fb 1 (rowsBy cBs b)))) 0 (.v (.sl fa 1 (rowsBy cBs a)))), Sx.h0⟩ : St)) (pairB (fun x y => (x == y)) a b) a.length
      (r := (.ret, (⟨(upd Sx.e0 4 (.v (.bool false))), Sx.h0⟩ : St))) (re := (.exit 0, (⟨Sx.e0, Sx.h0⟩ : St))) (fun i hi hp => by
        rw [pairB_at hi (by omega)] at hp
        have d1 := dec_lt hi
        have q1 : (i : Int) < (a.length : Int) := by omega
        have q2 : (i : Int) < (b.length : Int) := by omega
        have r1 : (rowsBy cBs a)[i]? = some [.sl .shared 1 (rowsBy cByte a[i])] := rowsBy_get cBs hi
        have r2 : (rowsBy cBs b)[i]? = some [.sl .shared 1 (rowsBy cByte (b[i]'(by omega)))] := rowsBy_get cBs (by omega)
        have hw := wrap_succ hi (by omega)
        have he : (a[i] == b[i]'(by omega)) = true := by simpa using hp
        have i0 : (0 : Int) ≤ (i : Int) := by omega
        simp only [f18_b1, d1, q1, q2, r1, r2, hw, he, i0, Nat.reduceLT, decide_true, decide_false, Bool.not_true, go_sem, reduceIte, reduceCtorEq, Nat.reduceEqDiff, Nat.reduceAdd, Nat.reduceMul, Nat.reduceLeDiff, Nat.reduceSub, Nat.reduceBEq, List.length_cons, List.length_nil, Int.reduceLT, Int.reduceLE, Int.reduceGT, Int.reduceGE, Int.reduceAdd, Int.reduceSub, Int.reduceMul, Int.reduceNeg, Int.reduceToNat, Int.reduceEq, Int.reduceNe, Int.cast_ofNat_Int, ne_eq, not_true_eq_false, not_false_eq_true, Nat.testBit, Nat.reduceShiftRight, Nat.reduceAnd, Nat.reduceBNe]) (fun i hi hp => by
        rw [pairB_at hi (by omega)] at hp
        have d1 := dec_lt hi
        have q1 : (i : Int) < (a.length : Int) := by omega
        have q2 : (i : Int) < (b.length : Int) := by omega
        have r1 : (rowsBy cBs a)[i]? = some [.sl .shared 1 (rowsBy cByte a[i])] := rowsBy_get cBs hi
        have r2 : (rowsBy cBs b)[i]? = some [.sl .shared 1 (rowsBy cByte (b[i]'(by omega)))] := rowsBy_get cBs (by omega)
        have he : (a[i] == b[i]'(by omega)) = false := by simpa using hp
        have i0 : (0 : Int) ≤ (i : Int) := by omega
        simp only [f18_b1, d1, q1, q2, r1, r2, he, i0, Nat.reduceLT, decide_true, decide_false, Bool.not_false, go_sem, reduceIte, reduceCtorEq, Nat.reduceEqDiff, Nat.reduceAdd, Nat.reduceMul, Nat.reduceLeDiff, Nat.reduceSub, Nat.reduceBEq, List.length_cons, List.length_nil, Int.reduceLT, Int.reduceLE, Int.reduceGT, Int.reduceGE, Int.reduceAdd, Int.reduceSub, Int.reduceMul, Int.reduceNeg, Int.reduceToNat, Int.reduceEq, Int.reduceNe, Int.cast_ofNat_Int, ne_eq, not_true_eq_false, not_false_eq_true, Nat.testBit, Nat.reduceShiftRight, Nat.reduceAnd, Nat.reduceBNe]) (by simp) (by
        have d1 : decide ((a.length : Int) < (a.length : Int)) = false := by simp
        simp only [f18_b1, d1, Nat.reduceLT, go_sem, reduceIte, reduceCtorEq, Nat.reduceEqDiff, Nat.reduceAdd, Nat.reduceMul, Nat.reduceLeDiff, Nat.reduceSub, Nat.reduceBEq, List.length_cons, List.length_nil, Int.reduceLT, Int.reduceLE, Int.reduceGT, Int.reduceGE, Int.reduceAdd, Int.reduceSub, Int.reduceMul, Int.reduceNeg, Int.reduceToNat, Int.reduceEq, Int.reduceNe, Int.cast_ofNat_Int, ne_eq, not_true_eq_false, not_false_eq_true, Nat.testBit, Nat.reduceShiftRight, Nat.reduceAnd, Nat.reduceBNe]) (by simp)
    rw [pairB_eq hq hl] at hL
    simp only [nat0] at hL
    have hLL : E (cs F) 0 f18_l1 _ = _ := hL
    by_cases he : a = b
    · subst he
      simp only [decide_true, Bool.not_true, Bool.false_eq_true, if_false] at hLL
      rw [call_code F (show F 18 = some (.code f18) from rfl)]
      simp only [f18, hLL, Nat.reduceLT, decide_true, go_sem, reduceIte, reduceCtorEq, Nat.reduceEqDiff, Nat.reduceAdd, Nat.reduceMul, Nat.reduceLeDiff, Nat.reduceSub, Nat.reduceBEq, List.length_cons, List.length_nil, Int.reduceLT, Int.reduceLE, Int.reduceGT, Int.reduceGE, Int.reduceAdd, Int.reduceSub, Int.reduceMul, Int.reduceNeg, Int.reduceToNat, Int.reduceEq, Int.reduceNe, Int.cast_ofNat_Int, ne_eq, not_true_eq_false, not_false_eq_true, Nat.testBit, Nat.reduceShiftRight, Nat.reduceAnd, Nat.reduceBNe]
    · simp only [decide_eq_false he, Bool.not_false, if_true] at hLL
      have hl2 : ¬ ((a.length : Int) = (b.length : Int)) ↔ False := by simp; omega
      rw [call_code F (show F 18 = some (.code f18) from rfl)]
      simp only [f18, hLL, hl2, decide_eq_false he, Nat.reduceLT, decide_false, go_sem, reduceIte, reduceCtorEq, Nat.reduceEqDiff, Nat.reduceAdd, Nat.reduceMul, Nat.reduceLeDiff, Nat.reduceSub, Nat.reduceBEq, List.length_cons, List.length_nil, Int.reduceLT, Int.reduceLE, Int.reduceGT, Int.reduceGE, Int.reduceAdd, Int.reduceSub, Int.reduceMul, Int.reduceNeg, Int.reduceToNat, Int.reduceEq, Int.reduceNe, Int.cast_ofNat_Int, ne_eq, not_true_eq_false, not_false_eq_true, Nat.testBit, Nat.reduceShiftRight, Nat.reduceAnd, Nat.reduceBNe]
  · have he : ¬ a = b := fun e => hl (by rw [e])
    have hl2 : ((a.length : Int) = (b.length : Int)) = False := by simp; omega
    rw [call_code F (show F 18 = some (.code f18) from rfl)]
    simp only [f18, hl2, decide_eq_false he, Nat.reduceLT, decide_false, decide_true, go_sem, reduceIte, reduceCtorEq, Nat.reduceEqDiff, Nat.reduceAdd, Nat.reduceMul, Nat.reduceLeDiff, Nat.reduceSub, Nat.reduceBEq, List.length_cons, List.length_nil, Int.reduceLT, Int.reduceLE, Int.reduceGT, Int.reduceGE, Int.reduceAdd, Int.reduceSub, Int.reduceMul, Int.reduceNeg, Int.reduceToNat, Int.reduceEq, Int.reduceNe, Int.cast_ofNat_Int, ne_eq, not_true_eq_false, not_false_eq_true, Nat.testBit, Nat.reduceShiftRight, Nat.reduceAnd, Nat.reduceBNe]
def cpS (l m : List Int) (fl fm : Fl) (i : Nat) (got : Int) (L : List Held) : St :=
  (⟨(upd (upd (upd (upd (upd Sx.e0 8 (.v (.int .i64 (i : Int)))) 7 (.p 7 0)) 6 (.p 6 0)) 1 (.v (.sl fm 1 (rowsBy cInt m)))) 0 (.v (.sl fl 1 (rowsBy cInt l)))), (upd (upd (upd (upd Sx.h0 10450 (some (rM L))) 10386 (some (rM L))) 7 (some (rV 20 got 10450))) 6 (some (rV 20 got 10386)))⟩ : St)
theorem copy_b1 (l m : List Int) (fl fm : Fl) (i : Nat) (got : Int) (L : List Held) (hK : Keeps 20 got L) (hB : ∀ e ∈ L, e.1 ≤ 19) (hg : got ≤ 19) (hi : i < l.length) (hi2 : i < 40) :
    ∃ got' L', Keeps 20 got' L' ∧ (∀ e ∈ L', e.1 ≤ 19) ∧ got' ≤ 19 ∧ E (cs F) 0 f7_b1 (cpS l m fl fm i got L) = some (.norm, cpS l m fl fm (i + 1) got' L') := by
  obtain ⟨n, hn⟩ : ∃ n, n = (l[i]).tmod 20 := ⟨_, rfl⟩
  have hn' := hn.symm
  have hnb : n ≤ 19 := by have := Int.tmod_lt_of_pos l[i] (show (0 : Int) < 20 by omega); omega
  obtain ⟨t, e, got', L', hr⟩ : ∃ t e got' L', takeR 20 got L n [u8 n] = (t, e, got', L') := ⟨_, _, _, _, rfl⟩
  obtain ⟨hK', hB', hg', _, _⟩ := hK.takeR hr hB hnb hg
  have hp := hK.pos
  have hp' := hK'.pos
  have hlen := hK.len
  have r1 : (rowsBy cInt l)[i]? = some [.int .i64 l[i]] := rowsBy_get cInt hi
  have d1 := dec_lt hi
  have d2 : decide ((i : Int) < 40) = true := by simp; omega
  have q1 : (i : Int) < (l.length : Int) := by omega
  have i0 : (0 : Int) ≤ (i : Int) := by omega
  have hwi : IntKind.i64.wrap ((i : Int) + 1) = ((i + 1 : Nat) : Int) := by rw [wrap64 (by omega) (by omega)]; omega
  have hRa : RecvAt (upd (upd (upd (upd (upd h0 10450 (some (rM L))) 10386 (some (rM L))) 10 (some (.arr false 5 1 [[.int .u8 (IntKind.u8.wrap n)]]))) 7 (some (rV 20 got 10450))) 6 (some (rV 20 got 10386))) 3000000 6 10386 20 got L :=
    ⟨(((((LowH.h0 _).upd (by decide) rM_mask).upd (by decide) rM_mask).upd (by decide) arr_mask).upd (by decide) (rV_mask (by decide))).upd (by decide) (rV_mask (by decide)), by decide, by decide, by decide, rfl, rfl⟩
  have hRb : RecvAt (upd (upd (upd (upd (upd h0 10450 (some (rM L))) 10386 (some (rM L'))) 7 (some (rV 20 got 10450))) 6 (some (rV 20 got' 10386))) 60 (some (.arr false 5 1 [[.int .u8 (IntKind.u8.wrap n)]]))) 4000000 7 10450 20 got L :=
    ⟨(((((LowH.h0 _).upd (by decide) rM_mask).upd (by decide) rM_mask).upd (by decide) (rV_mask (by decide))).upd (by decide) (rV_mask (by decide))).upd (by decide) arr_mask, by decide, by decide, by decide, rfl, rfl⟩
  have t1 := take_r (by decide) hRa hp (by omega) ⟨by decide, by decide⟩ (by omega) (seq := n) [u8 n] (by simp) (.s 10 0 1) (.inr ⟨10, false, rfl, by decide, by rw [u8_row]; rfl⟩) hr
  have t2 := take_r (by decide) hRb hp (by omega) ⟨by decide, by decide⟩ (by omega) (seq := n) [u8 n] (by simp) (.s 60 0 1) (.inr ⟨60, false, rfl, by decide, by rw [u8_row]; rfl⟩) hr
  refine ⟨got', L', hK', hB', hg', ?_⟩
  simp only [reH, rV, rM] at t1 t2
  by_cases ht : t = []
  · simp only [toldL, toldH, if_pos ht] at t1 t2
    simp only [f7_b1, cpS, rV, rM, r1, d1, d2, q1, i0, hwi, hn', t1, t2, Nat.reduceLT, renP, decide_true, decide_false, go_sem, reduceIte, reduceCtorEq, Nat.reduceEqDiff, Nat.reduceAdd, Nat.reduceMul, Nat.reduceLeDiff, Nat.reduceSub, Nat.reduceBEq, List.length_cons, List.length_nil, Int.reduceLT, Int.reduceLE, Int.reduceGT, Int.reduceGE, Int.reduceAdd, Int.reduceSub, Int.reduceMul, Int.reduceNeg, Int.reduceToNat, Int.reduceEq, Int.reduceNe, Int.cast_ofNat_Int, ne_eq, not_true_eq_false, not_false_eq_true, Nat.testBit, Nat.reduceShiftRight, Nat.reduceAnd, Nat.reduceBNe]
  · simp only [toldL, toldH, if_neg ht] at t1 t2
    simp only [f7_b1, cpS, rV, rM, r1, d1, d2, q1, i0, hwi, hn', t1, t2, Nat.reduceLT, renP, decide_true, decide_false, go_sem, reduceIte, reduceCtorEq, Nat.reduceEqDiff, Nat.reduceAdd, Nat.reduceMul, Nat.reduceLeDiff, Nat.reduceSub, Nat.reduceBEq, List.length_cons, List.length_nil, Int.reduceLT, Int.reduceLE, Int.reduceGT, Int.reduceGE, Int.reduceAdd, Int.reduceSub, Int.reduceMul, Int.reduceNeg, Int.reduceToNat, Int.reduceEq, Int.reduceNe, Int.cast_ofNat_Int, ne_eq, not_true_eq_false, not_false_eq_true, Nat.testBit, Nat.reduceShiftRight, Nat.reduceAnd, Nat.reduceBNe]
def cpS1 (m : List Int) (fm : Fl) (got : Int) (L : List Held) : St :=
  (⟨(upd (upd (upd Sx.e0 7 (.p 7 0)) 6 (.p 6 0)) 1 (.v (.sl fm 1 (rowsBy cInt m)))), (upd (upd (upd (upd Sx.h0 10450 (some (rM L))) 10386 (some (rM L))) 7 (some (rV 20 got 10450))) 6 (some (rV 20 got 10386)))⟩ : St)
theorem copy_l1 (l m : List Int) (fl fm : Fl) : ∀ (k i : Nat) (got : Int) (L : List Held), min l.length 40 - i = k → Keeps 20 got L → (∀ e ∈ L, e.1 ≤ 19) → got ≤ 19 →
    ∃ got' L', Keeps 20 got' L' ∧ (∀ e ∈ L', e.1 ≤ 19) ∧ got' ≤ 19 ∧ E (cs F) 0 f7_l1 (cpS l m fl fm i got L) = some (.exit 0, cpS1 m fm got' L') := by
  intro k
  induction k with
  | zero =>
    intro i got L hk hK hB hg
    refine ⟨got, L, hK, hB, hg, ?_⟩
    rw [f7_l1_eq]
    by_cases hi : i < l.length
    · have d1 := dec_lt hi
      have d2 : decide ((i : Int) < 40) = false := by simp; omega
      simp only [f7_b1, cpS, cpS1, d1, d2, rV, rM, Nat.reduceLT, decide_true, decide_false, go_sem, reduceIte, reduceCtorEq, Nat.reduceEqDiff, Nat.reduceAdd, Nat.reduceMul, Nat.reduceLeDiff, Nat.reduceSub, Nat.reduceBEq, List.length_cons, List.length_nil, Int.reduceLT, Int.reduceLE, Int.reduceGT, Int.reduceGE, Int.reduceAdd, Int.reduceSub, Int.reduceMul, Int.reduceNeg, Int.reduceToNat, Int.reduceEq, Int.reduceNe, Int.cast_ofNat_Int, ne_eq, not_true_eq_false, not_false_eq_true, Nat.testBit, Nat.reduceShiftRight, Nat.reduceAnd, Nat.reduceBNe]
    · have d1 := dec_ge (i := i) (n := l.length) (by omega)
      simp only [f7_b1, cpS, cpS1, d1, rV, rM, Nat.reduceLT, decide_true, decide_false, go_sem, reduceIte, reduceCtorEq, Nat.reduceEqDiff, Nat.reduceAdd, Nat.reduceMul, Nat.reduceLeDiff, Nat.reduceSub, Nat.reduceBEq, List.length_cons, List.length_nil, Int.reduceLT, Int.reduceLE, Int.reduceGT, Int.reduceGE, Int.reduceAdd, Int.reduceSub, Int.reduceMul, Int.reduceNeg, Int.reduceToNat, Int.reduceEq, Int.reduceNe, Int.cast_ofNat_Int, ne_eq, not_true_eq_false, not_false_eq_true, Nat.testBit, Nat.reduceShiftRight, Nat.reduceAnd, Nat.reduceBNe]
  | succ k ih =>
    intro i got L hk hK hB hg
    obtain ⟨got', L', h1, h2, h3, h4⟩ := copy_b1 l m fl fm i got L hK hB hg (by omega) (by omega)
    obtain ⟨g2, L2, h5, h6, h7, h8⟩ := ih (i + 1) got' L' (by omega) h1 h2 h3
    exact ⟨g2, L2, h5, h6, h7, by rw [f7_l1_eq, h4]; exact h8⟩
def cpS2 (m : List Int) (fm : Fl) (i : Nat) (got : Int) (L : List Held) (gc : Int) (Lc : List Held) : St :=
  (⟨(upd (upd (upd (upd (upd Sx.e0 12 (.v (.int .i64 (i : Int)))) 11 (.p 11 0)) 7 (.p 7 0)) 6 (.p 6 0)) 1 (.v (.sl fm 1 (rowsBy cInt m)))), (upd (upd (upd (upd (upd (upd Sx.h0 10706 (some (rM Lc))) 10450 (some (rM L))) 10386 (some (rM L))) 11 (some (rV 20 gc 10706))) 7 (some (rV 20 got 10450))) 6 (some (rV 20 got 10386)))⟩ : St)
theorem copy_b2 (m : List Int) (fm : Fl) (i : Nat) (got : Int) (L : List Held) (gc : Int) (Lc : List Held) (hK : Keeps 20 gc Lc) (hB : ∀ e ∈ Lc, e.1 ≤ 19) (hg : gc ≤ 19) (hi : i < m.length) (hi2 : i < 40) :
    ∃ got' L', Keeps 20 got' L' ∧ (∀ e ∈ L', e.1 ≤ 19) ∧ got' ≤ 19 ∧ E (cs F) 0 f7_b2 (cpS2 m fm i got L gc Lc) = some (.norm, cpS2 m fm (i + 1) got L got' L') := by
  obtain ⟨n, hn⟩ : ∃ n, n = (m[i]).tmod 20 := ⟨_, rfl⟩
  have hn' := hn.symm
  have hnb : n ≤ 19 := by have := Int.tmod_lt_of_pos m[i] (show (0 : Int) < 20 by omega); omega
  obtain ⟨t, e, got', L', hr⟩ : ∃ t e got' L', takeR 20 gc Lc n [7] = (t, e, got', L') := ⟨_, _, _, _, rfl⟩
  obtain ⟨hK', hB', hg', _, _⟩ := hK.takeR hr hB hnb hg
  have hp := hK.pos
  have hlen := hK.len
  have r1 : (rowsBy cInt m)[i]? = some [.int .i64 m[i]] := rowsBy_get cInt hi
  have d1 := dec_lt hi
  have d2 : decide ((i : Int) < 40) = true := by simp; omega
  have q1 : (i : Int) < (m.length : Int) := by omega
  have i0 : (0 : Int) ≤ (i : Int) := by omega
  have hwi : IntKind.i64.wrap ((i : Int) + 1) = ((i + 1 : Nat) : Int) := by rw [wrap64 (by omega) (by omega)]; omega
  have hRa : RecvAt (upd (upd (upd (upd (upd (upd (upd h0 10706 (some (rM Lc))) 10450 (some (rM L))) 10386 (some (rM L))) 11 (some (rV 20 gc 10706))) 7 (some (rV 20 got 10450))) 6 (some (rV 20 got 10386))) 82 (some (.arr false 5 1 [[.int .u8 7]]))) 6000000 11 10706 20 gc Lc :=
    ⟨(((((((LowH.h0 _).upd (by decide) rM_mask).upd (by decide) rM_mask).upd (by decide) rM_mask).upd (by decide) (rV_mask (by decide))).upd (by decide) (rV_mask (by decide))).upd (by decide) (rV_mask (by decide))).upd (by decide) arr_mask, by decide, by decide, by decide, rfl, rfl⟩
  have t1 := take_r (by decide) hRa hp (by omega) ⟨by decide, by decide⟩ (by omega) (seq := n) [7] (by simp) (.s 82 0 1) (.inr ⟨82, false, rfl, by decide, rfl⟩) hr
  refine ⟨got', L', hK', hB', hg', ?_⟩
  simp only [reH, rV, rM] at t1
  by_cases ht : t = []
  · simp only [toldL, toldH, if_pos ht] at t1
    simp only [f7_b2, cpS2, rV, rM, r1, d1, d2, q1, i0, hwi, hn', t1, Nat.reduceLT, renP, decide_true, decide_false, go_sem, reduceIte, reduceCtorEq, Nat.reduceEqDiff, Nat.reduceAdd, Nat.reduceMul, Nat.reduceLeDiff, Nat.reduceSub, Nat.reduceBEq, List.length_cons, List.length_nil, Int.reduceLT, Int.reduceLE, Int.reduceGT, Int.reduceGE, Int.reduceAdd, Int.reduceSub, Int.reduceMul, Int.reduceNeg, Int.reduceToNat, Int.reduceEq, Int.reduceNe, Int.cast_ofNat_Int, ne_eq, not_true_eq_false, not_false_eq_true, Nat.testBit, Nat.reduceShiftRight, Nat.reduceAnd, Nat.reduceBNe]
  · simp only [toldL, toldH, if_neg ht] at t1
    simp only [f7_b2, cpS2, rV, rM, r1, d1, d2, q1, i0, hwi, hn', t1, Nat.reduceLT, renP, decide_true, decide_false, go_sem, reduceIte, reduceCtorEq, Nat.reduceEqDiff, Nat.reduceAdd, Nat.reduceMul, Nat.reduceLeDiff, Nat.reduceSub, Nat.reduceBEq, List.length_cons, List.length_nil, Int.reduceLT, Int.reduceLE, Int.reduceGT, Int.reduceGE, Int.reduceAdd, Int.reduceSub, Int.reduceMul, Int.reduceNeg, Int.reduceToNat, Int.reduceEq, Int.reduceNe, Int.cast_ofNat_Int, ne_eq, not_true_eq_false, not_false_eq_true, Nat.testBit, Nat.reduceShiftRight, Nat.reduceAnd, Nat.reduceBNe]
def cpS3 (got : Int) (L : List Held) : St := (⟨(upd (upd Sx.e0 7 (.p 7 0)) 6 (.p 6 0)), (upd (upd (upd (upd Sx.h0 10450 (some (rM L))) 10386 (some (rM L))) 7 (some (rV 20 got 10450))) 6 (some (rV 20 got 10386)))⟩ : St)
theorem copy_l2 (m : List Int) (fm : Fl) (got : Int) (L : List Held) : ∀ (k i : Nat) (gc : Int) (Lc : List Held), min m.length 40 - i = k → Keeps 20 gc Lc → (∀ e ∈ Lc, e.1 ≤ 19) → gc ≤ 19 →
    E (cs F) 0 f7_l2 (cpS2 m fm i got L gc Lc) = some (.exit 2, cpS3 got L) := by
  intro k
  induction k with
  | zero =>
    intro i gc Lc hk hK hB hg
    rw [f7_l2_eq]
    by_cases hi : i < m.length
    · have d1 := dec_lt hi
      have d2 : decide ((i : Int) < 40) = false := by simp; omega
      simp only [f7_b2, cpS2, cpS3, d1, d2, rV, rM, Nat.reduceLT, decide_true, decide_false, go_sem, reduceIte, reduceCtorEq, Nat.reduceEqDiff, Nat.reduceAdd, Nat.reduceMul, Nat.reduceLeDiff, Nat.reduceSub, Nat.reduceBEq, List.length_cons, List.length_nil, Int.reduceLT, Int.reduceLE, Int.reduceGT, Int.reduceGE, Int.reduceAdd, Int.reduceSub, Int.reduceMul, Int.reduceNeg, Int.reduceToNat, Int.reduceEq, Int.reduceNe, Int.cast_ofNat_Int, ne_eq, not_true_eq_false, not_false_eq_true, Nat.testBit, Nat.reduceShiftRight, Nat.reduceAnd, Nat.reduceBNe]
    · have d1 := dec_ge (i := i) (n := m.length) (by omega)
      simp only [f7_b2, cpS2, cpS3, d1, rV, rM, Nat.reduceLT, decide_true, decide_false, go_sem, reduceIte, reduceCtorEq, Nat.reduceEqDiff, Nat.reduceAdd, Nat.reduceMul, Nat.reduceLeDiff, Nat.reduceSub, Nat.reduceBEq, List.length_cons, List.length_nil, Int.reduceLT, Int.reduceLE, Int.reduceGT, Int.reduceGE, Int.reduceAdd, Int.reduceSub, Int.reduceMul, Int.reduceNeg, Int.reduceToNat, Int.reduceEq, Int.reduceNe, Int.cast_ofNat_Int, ne_eq, not_true_eq_false, not_false_eq_true, Nat.testBit, Nat.reduceShiftRight, Nat.reduceAnd, Nat.reduceBNe]
  | succ k ih =>
    intro i gc Lc hk hK hB hg
    obtain ⟨got', L', h1, h2, h3, h4⟩ := copy_b2 m fm i got L gc Lc hK hB hg (by omega) (by omega)
    rw [f7_l2_eq, h4]
    exact ih (i + 1) got' L' (by omega) h1 h2 h3
def cpS4 (n : Int) (got : Int) (L : List Held) : St := (⟨(upd (upd (upd Sx.e0 13 (.v (.int .i64 n))) 7 (.p 7 0)) 6 (.p 6 0)), (upd (upd (upd (upd Sx.h0 10450 (some (rM L))) 10386 (some (rM L))) 7 (some (rV 20 got 10450))) 6 (some (rV 20 got 10386)))⟩ : St)
theorem copy_b3 (n : Int) (got : Int) (L : List Held) (hK : Keeps 20 got L) (hB : ∀ e ∈ L, e.1 ≤ 19) (hg : got ≤ 19) (hn : n < 20) (hn0 : 0 ≤ n) :
    ∃ got' L', Keeps 20 got' L' ∧ (∀ e ∈ L', e.1 ≤ 19) ∧ got' ≤ 19 ∧ E (cs F) 0 f7_b3 (cpS4 n got L) = some (.norm, cpS4 (n + 1) got' L') := by
  obtain ⟨t, e, got', L', hr⟩ : ∃ t e got' L', takeR 20 got L n [u8 n] = (t, e, got', L') := ⟨_, _, _, _, rfl⟩
  obtain ⟨hK', hB', hg', _, htl⟩ := hK.takeR hr hB (by omega) hg
  have hp := hK.pos
  have hlen := hK.len
  have d1 : decide (n < 20) = true := by simp; omega
  have hwi : IntKind.i64.wrap (n + 1) = n + 1 := wrap64 (by omega) (by omega)
  have hRa : RecvAt (upd (upd (upd (upd (upd h0 10450 (some (rM L))) 10386 (some (rM L))) 7 (some (rV 20 got 10450))) 6 (some (rV 20 got 10386))) 109 (some (.arr false 5 1 [[.int .u8 (IntKind.u8.wrap n)]]))) 9000000 6 10386 20 got L :=
    ⟨(((((LowH.h0 _).upd (by decide) rM_mask).upd (by decide) rM_mask).upd (by decide) (rV_mask (by decide))).upd (by decide) (rV_mask (by decide))).upd (by decide) arr_mask, by decide, by decide, by decide, rfl, rfl⟩
  have t1 := take_r (by decide) hRa hp (by omega) ⟨by decide, by decide⟩ (by omega) (seq := n) [u8 n] (by simp) (.s 109 0 1) (.inr ⟨109, false, rfl, by decide, by rw [u8_row]; rfl⟩) hr
  refine ⟨got', L', hK', hB', hg', ?_⟩
  by_cases ht : t = []
  · have hRb : RecvAt (upd (upd (upd (upd (upd h0 10450 (some (rM L))) 10386 (some (rM L'))) 7 (some (rV 20 got 10450))) 6 (some (rV 20 got' 10386))) 118 (some (.arr false 5 1 [[.int .u8 (IntKind.u8.wrap n)]]))) 10000000 7 10450 20 got L :=
      ⟨(((((LowH.h0 _).upd (by decide) rM_mask).upd (by decide) rM_mask).upd (by decide) (rV_mask (by decide))).upd (by decide) (rV_mask (by decide))).upd (by decide) arr_mask, by decide, by decide, by decide, rfl, rfl⟩
    have t2 := take_r (by decide) hRb hp (by omega) ⟨by decide, by decide⟩ (by omega) (seq := n) [u8 n] (by simp) (.s 118 0 1) (.inr ⟨118, false, rfl, by decide, by rw [u8_row]; rfl⟩) hr
    have cs0 := c_same (.tight 30) (.tight 30) [] [] (by simp) (by simp)
    simp only [rowsBy, decide_true] at cs0
    simp only [toldL, toldH, if_pos ht, reH, rV, rM] at t1 t2
    simp only [f7_b3, cpS4, rV, rM, d1, hwi, t1, t2, cs0, Nat.reduceLT, renP, decide_true, decide_false, go_sem, reduceIte, reduceCtorEq, Nat.reduceEqDiff, Nat.reduceAdd, Nat.reduceMul, Nat.reduceLeDiff, Nat.reduceSub, Nat.reduceBEq, List.length_cons, List.length_nil, Int.reduceLT, Int.reduceLE, Int.reduceGT, Int.reduceGE, Int.reduceAdd, Int.reduceSub, Int.reduceMul, Int.reduceNeg, Int.reduceToNat, Int.reduceEq, Int.reduceNe, Int.cast_ofNat_Int, ne_eq, not_true_eq_false, not_false_eq_true, Nat.testBit, Nat.reduceShiftRight, Nat.reduceAnd, Nat.reduceBNe]
  · have hRb : RecvAt (upd (upd (upd (upd (upd (upd h0 10450 (some (rM L))) 10386 (some (rM L'))) 14 (some (.arr false 30 1 (rowsBy cBs t)))) 7 (some (rV 20 got 10450))) 6 (some (rV 20 got' 10386))) 118 (some (.arr false 5 1 [[.int .u8 (IntKind.u8.wrap n)]]))) 10000000 7 10450 20 got L :=
      ⟨((((((LowH.h0 _).upd (by decide) rM_mask).upd (by decide) rM_mask).upd (by decide) arr_mask).upd (by decide) (rV_mask (by decide))).upd (by decide) (rV_mask (by decide))).upd (by decide) arr_mask, by decide, by decide, by decide, rfl, rfl⟩
    have t2 := take_r (by decide) hRb hp (by omega) ⟨by decide, by decide⟩ (by omega) (seq := n) [u8 n] (by simp) (.s 118 0 1) (.inr ⟨118, false, rfl, by decide, by rw [u8_row]; rfl⟩) hr
    have cs1 := c_same .shared .shared t t (by omega) (by omega)
    simp only [decide_true] at cs1
    simp only [toldL, toldH, if_neg ht, reH, rV, rM] at t1 t2
    simp only [f7_b3, cpS4, rV, rM, d1, hwi, t1, t2, cs1, Nat.reduceLT, renP, decide_true, decide_false, go_sem, reduceIte, reduceCtorEq, Nat.reduceEqDiff, Nat.reduceAdd, Nat.reduceMul, Nat.reduceLeDiff, Nat.reduceSub, Nat.reduceBEq, List.length_cons, List.length_nil, Int.reduceLT, Int.reduceLE, Int.reduceGT, Int.reduceGE, Int.reduceAdd, Int.reduceSub, Int.reduceMul, Int.reduceNeg, Int.reduceToNat, Int.reduceEq, Int.reduceNe, Int.cast_ofNat_Int, ne_eq, not_true_eq_false, not_false_eq_true, Nat.testBit, Nat.reduceShiftRight, Nat.reduceAnd, Nat.reduceBNe]
theorem copy_l3 : ∀ (k : Nat) (n : Int) (got : Int) (L : List Held), (20 - n).toNat = k → Keeps 20 got L → (∀ e ∈ L, e.1 ≤ 19) → got ≤ 19 → 0 ≤ n →
    ∃ got' L', E (cs F) 0 f7_l3 (cpS4 n got L) = some (.exit 4, cpS3 got' L') := by
  intro k
  induction k with
  | zero =>
    intro n got L hk hK hB hg hn
    refine ⟨got, L, ?_⟩
    rw [f7_l3_eq]
    have d1 : decide (n < 20) = false := by simp; omega
    simp only [f7_b3, cpS4, cpS3, d1, rV, rM, Nat.reduceLT, decide_true, decide_false, go_sem, reduceIte, reduceCtorEq, Nat.reduceEqDiff, Nat.reduceAdd, Nat.reduceMul, Nat.reduceLeDiff, Nat.reduceSub, Nat.reduceBEq, List.length_cons, List.length_nil, Int.reduceLT, Int.reduceLE, Int.reduceGT, Int.reduceGE, Int.reduceAdd, Int.reduceSub, Int.reduceMul, Int.reduceNeg, Int.reduceToNat, Int.reduceEq, Int.reduceNe, Int.cast_ofNat_Int, ne_eq, not_true_eq_false, not_false_eq_true, Nat.testBit, Nat.reduceShiftRight, Nat.reduceAnd, Nat.reduceBNe]
  | succ k ih =>
    intro n got L hk hK hB hg hn
    obtain ⟨got', L', h1, h2, h3, h4⟩ := copy_b3 n got L hK hB hg (by omega) hn
    obtain ⟨g2, L2, h5⟩ := ih (n + 1) got' L' (by omega) h1 h2 h3 (by omega)
    exact ⟨g2, L2, by rw [f7_l3_eq, h4]; exact h5⟩
theorem t_copies (fl fm : Fl) (l m : List Int) : call F 7 [.sl fl 1 (rowsBy cInt l), .sl fm 1 (rowsBy cInt m)] = some (.bool true) := by
  obtain ⟨got, L, hK, hB, hg, h1⟩ := copy_l1 l m fl fm _ 0 0 [] rfl (Keeps.new ⟨by decide, by decide⟩) (fun e he => by simp at he) (by decide)
  have h2 := copy_l2 m fm got L _ 0 got L rfl hK hB hg
  have hp := hK.pos
  have hlen := hK.len
  obtain ⟨g2, L2, h3⟩ := copy_l3 _ (got + 1) got L rfl hK hB hg (by omega)
  have w20 : winR 20 = 20 := rfl
  have e0 : entsR [] = [] := rfl
  have hw1 : IntKind.i64.wrap (got + 1) = got + 1 := wrap64 (by omega) (by omega)
  have hN2 : LowH (upd (upd h0 10386 (some (.map false false false (entsR [])))) 6 (some (.var false [.v (.int .i64 20), .v (.int .i64 0), .m 10386]))) 2000000 :=
    ((LowH.h0 _).upd (by decide) rM_mask).upd (by decide) (rV_mask (by decide))
  have n2 := new_i 2000000 _ hN2 20
  have hRc : RecvAt (upd (upd (upd (upd h0 10450 (some (rM L))) 10386 (some (rM L))) 7 (some (rV 20 got 10450))) 6 (some (rV 20 got 10386))) 5000000 6 10386 20 got L :=
    ⟨((((LowH.h0 _).upd (by decide) rM_mask).upd (by decide) rM_mask).upd (by decide) (rV_mask (by decide))).upd (by decide) (rV_mask (by decide)), by decide, by decide, by decide, rfl, rfl⟩
  have c5 := rcl_i hRc
  have hR7 : RecvAt (upd (upd (upd (upd h0 10450 (some (rM L))) 10386 (some (rM L))) 7 (some (rV 20 got 10450))) 6 (some (rV 20 got 10386))) 7000000 6 10386 20 got L :=
    ⟨((((LowH.h0 _).upd (by decide) rM_mask).upd (by decide) rM_mask).upd (by decide) (rV_mask (by decide))).upd (by decide) (rV_mask (by decide)), by decide, by decide, by decide, rfl, rfl⟩
  have d7 := held_i hR7 (by omega) hK.nd (hK.bd (by omega))
  have hR8 : RecvAt (upd (upd (upd (upd (upd h0 10450 (some (rM L))) 10386 (some (rM L))) 7 (some (rV 20 got 10450))) 6 (some (rV 20 got 10386))) (7000000 + 1) (some (.arr false 3 1 (rowsBy cInt (sortI (L.map (·.1))))))) 8000000 7 10450 20 got L :=
    ⟨(((((LowH.h0 _).upd (by decide) rM_mask).upd (by decide) rM_mask).upd (by decide) (rV_mask (by decide))).upd (by decide) (rV_mask (by decide))).upd (by decide) arr_mask, by decide, by decide, by decide, rfl, rfl⟩
  have d8 := held_i hR8 (by omega) hK.nd (hK.bd (by omega))
  have cI := c_ints .shared .shared (sortI (L.map (·.1))) (sortI (L.map (·.1))) (by rw [sortI_len, List.length_map]; omega) (by rw [sortI_len, List.length_map]; omega)
  have tk : (rowsBy cInt (sortI (L.map (·.1)))).take L.length = rowsBy cInt (sortI (L.map (·.1))) := by
    have e : L.length = (sortI (L.map (·.1))).length := by rw [sortI_len, List.length_map]
    rw [e, rowsBy_takeAll]
  simp only [cpS, cpS1, cpS2, cpS3, cpS4, rV, rM, e0, nat0, w20, Nat.reduceAdd, decide_true] at h1 h2 h3 n2 c5 d7 d8 cI
  rw [call_code F (show F 7 = some (.code f7) from rfl)]
  simp only [f7, t_shown, new_i _ _ (LowH.h0 _), w20, n2, h1, h2, h3, c5, d7, d8, cI, tk, hw1, got_c, Nat.reduceLT, renP, decide_true, decide_false, go_sem, reduceIte, reduceCtorEq, Nat.reduceEqDiff, Nat.reduceAdd, Nat.reduceMul, Nat.reduceLeDiff, Nat.reduceSub, Nat.reduceBEq, List.length_cons, List.length_nil, Int.reduceLT, Int.reduceLE, Int.reduceGT, Int.reduceGE, Int.reduceAdd, Int.reduceSub, Int.reduceMul, Int.reduceNeg, Int.reduceToNat, Int.reduceEq, Int.reduceNe, Int.cast_ofNat_Int, ne_eq, not_true_eq_false, not_false_eq_true, Nat.testBit, Nat.reduceShiftRight, Nat.reduceAnd, Nat.reduceBNe]
end Go.Proofs.Ytkliiknolnodjaa.Sx
namespace Go.Proofs.Ytkliiknolnodjaa.Sx
open Go Go.RowKit Go.ChangeShapes Go.WideShapes Go.ChangeAt
set_option maxRecDepth 100000
theorem agg_of {t : TypeId} {n : Nat} {a : TV} (hagg : isAggB Try.prog t = true) (h : ArgShape Try.prog n t a) : ∃ ts, a = .agg ts ∧ Shape Try.prog n t ts := by
  unfold ArgShape at h; rw [if_pos hagg] at h; exact h
theorem plain_of {t : TypeId} {n : Nat} {a : TV} (hagg : isAggB Try.prog t = false) (h : ArgShape Try.prog n t a) : Shape Try.prog n t [a] := by
  unfold ArgShape at h; rw [if_neg (by rw [hagg]; simp)] at h; exact h
theorem own : ownKnob Try.prog.godebug = none := by kernel_rfl
theorem laidOut : laidOutB Try.prog = true := by kernel_rfl
/-- rows that are each of a form are a list's -/
theorem rows_list {α : Type} {c : α → List TV} {S : List TV → Prop} {Q : α → Prop} (h : ∀ ts, S ts → ∃ x, ts = c x ∧ Q x) : ∀ {rows : List (List TV)}, (∀ r ∈ rows, S r) → ∃ l : List α, rows = rowsBy c l ∧ ∀ x ∈ l, Q x
  | [], _ => ⟨[], rfl, by simp⟩
  | r :: rows, hr => by
    obtain ⟨x, rfl, hx⟩ := h r (hr r (by simp))
    obtain ⟨l, rfl, hl⟩ := rows_list h (rows := rows) fun q hq => hr q (by simp [hq])
    refine ⟨x :: l, rfl, fun y hy => ?_⟩
    rcases List.mem_cons.1 hy with rfl | hy
    · exact hx
    · exact hl y hy
theorem shInt {n : Nat} {ts : List TV} (h : Shape Try.prog (n + 1) 3 ts) : ∃ a, ts = [.int .i64 a] ∧ IntKind.i64.has a := by
  unfold Shape at h; rw [Try.underlying3] at h; exact h
theorem shU8 {n : Nat} {ts : List TV} (h : Shape Try.prog (n + 1) 5 ts) : ∃ b : UInt8, ts = cByte b ∧ True := by
  unfold Shape at h; rw [Try.underlying5] at h
  obtain ⟨m, rfl, hm⟩ := h
  have hm : 0 ≤ m ∧ m ≤ 255 := hm
  refine ⟨UInt8.ofNat m.toNat, ?_, trivial⟩
  unfold cByte
  congr 2
  rw [UInt8.toNat_ofNat']
  omega
theorem shBytes {n : Nat} {ts : List TV} (h : Shape Try.prog (n + 2) 30 ts) : ∃ b : List UInt8, ts = [.sl .shared 1 (rowsBy cByte b)] := by
  unfold Shape at h; rw [Try.underlying30] at h
  obtain ⟨rows, rfl, _, hr⟩ := h
  obtain ⟨l, rfl, _⟩ := rows_list (c := cByte) (Q := fun _ => True) (fun ts h => shU8 h) hr
  exact ⟨l, rfl⟩
theorem shInts {n : Nat} {ts : List TV} (h : Shape Try.prog (n + 2) 22 ts) : ∃ b : List Int, ts = [.sl .shared 1 (rowsBy cInt b)] := by
  unfold Shape at h; rw [Try.underlying22] at h
  obtain ⟨rows, rfl, _, hr⟩ := h
  obtain ⟨l, rfl, _⟩ := rows_list (c := cInt) (Q := fun _ => True) (fun ts h => by obtain ⟨a, rfl, _⟩ := shInt h; exact ⟨a, rfl, trivial⟩) hr
  exact ⟨l, rfl⟩
theorem shBss {n : Nat} {ts : List TV} (h : Shape Try.prog (n + 3) 26 ts) : ∃ b : List (List UInt8), ts = [.sl .shared 1 (rowsBy cBs b)] := by
  unfold Shape at h; rw [Try.underlying26] at h
  obtain ⟨rows, rfl, _, hr⟩ := h
  obtain ⟨l, rfl, _⟩ := rows_list (c := cBs) (Q := fun _ => True) (fun ts h => by obtain ⟨a, rfl⟩ := shBytes h; exact ⟨a, rfl, trivial⟩) hr
  exact ⟨l, rfl⟩
theorem shOp {n : Nat} {ts : List TV} (h : Shape Try.prog (n + 3) 45 ts) : ∃ x, ts = cEv x := by
  unfold Shape at h; rw [Try.underlying45] at h
  obtain ⟨x, r, rfl, h1, y, r', rfl, h2, rfl⟩ := h
  obtain ⟨a, rfl, _⟩ := shInt h1
  obtain ⟨b, rfl⟩ := shBytes h2
  exact ⟨(a, b), rfl⟩
theorem shOps {n : Nat} {ts : List TV} (h : Shape Try.prog (n + 4) 37 ts) : ∃ b : List (Int × List UInt8), ts = [.sl .shared 2 (rowsBy cEv b)] := by
  unfold Shape at h; rw [Try.underlying37] at h
  obtain ⟨rows, rfl, _, hr⟩ := h
  obtain ⟨l, rfl, _⟩ := rows_list (c := cEv) (Q := fun _ => True) (fun ts h => by obtain ⟨x, rfl⟩ := shOp h; exact ⟨x, rfl, trivial⟩) hr
  exact ⟨l, rfl⟩
end Go.Proofs.Ytkliiknolnodjaa.Sx
