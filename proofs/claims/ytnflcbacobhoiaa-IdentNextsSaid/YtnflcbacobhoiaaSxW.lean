/- The law of names taken one behind the other. -/
import Derived.Test.YtnflcbacobhoiaaSxU
namespace Go.Proofs.Ytnflcbacobhoiaa.Sx
open Go
/-- how many names a site has -/
def cnt (s : Int) : List (Int × Int) → Nat
  | [] => 0
  | p :: l => (if p.1 = s then 1 else 0) + cnt s l
theorem cnt_append (s : Int) : ∀ l m : List (Int × Int), cnt s (l ++ m) = cnt s l + cnt s m
  | [], m => by simp [cnt]
  | p :: l, m => by simp only [List.cons_append, cnt, cnt_append s l m]; omega
theorem cnt_le (s : Int) : ∀ l : List (Int × Int), cnt s l ≤ l.length
  | [] => Nat.le_refl _
  | p :: l => by have := cnt_le s l; simp only [cnt, List.length_cons]; split <;> omega
def good8 (s : Int) : Bool := decide (1 ≤ s ∧ s ≤ 8)
def ownStep (own : List (Int × Int)) (s : Int) : List (Int × Int) := if good8 s = true then own ++ [(s, (cnt s own : Int) + 1)] else own
def ownN (l : List Int) : List (Int × Int) := l.foldl ownStep []
def cnts (own : List (Int × Int)) : List Int := [cnt 0 own, cnt 1 own, cnt 2 own, cnt 3 own, cnt 4 own, cnt 5 own, cnt 6 own, cnt 7 own, cnt 8 own]
theorem ownN_len (l : List Int) : (ownN l).length ≤ l.length := by
  unfold ownN
  suffices ∀ (l : List Int) (o : List (Int × Int)), (l.foldl ownStep o).length ≤ o.length + l.length by simpa using this l []
  intro l
  induction l with
  | nil => intro o; simp
  | cons s l ih =>
    intro o
    rw [List.foldl_cons]
    have := ih (ownStep o s)
    have h2 : (ownStep o s).length ≤ o.length + 1 := by unfold ownStep; split <;> simp
    simp only [List.length_cons]
    omega
theorem ownN_next (l : List Int) (hl : l.length ≤ 1000) : ∀ s, good8 s = true → nextN s (ownN l) = (cnt s (ownN l) : Int) + 1 := by
  suffices ∀ (l : List Int) (o : List (Int × Int)), o.length + l.length ≤ 1000 → (∀ s, good8 s = true → nextN s o = (cnt s o : Int) + 1) → ∀ s, good8 s = true → nextN s (l.foldl ownStep o) = (cnt s (l.foldl ownStep o) : Int) + 1 from
    this l [] (by simpa using hl) (fun s _ => rfl)
  intro l
  induction l with
  | nil => intro o _ h; exact h
  | cons t l ih =>
    intro o hl h
    simp only [List.length_cons] at hl
    rw [List.foldl_cons]
    refine ih _ ?_ ?_
    · have h2 : (ownStep o t).length ≤ o.length + 1 := by unfold ownStep; split <;> simp
      omega
    · intro s hs
      unfold ownStep
      split
      · rename_i ht
        have hc := cnt_le t o
        have e : nextN s (o ++ [(t, (cnt t o : Int) + 1)]) = nextStep s (nextN s o) (t, (cnt t o : Int) + 1) := by unfold nextN; rw [List.foldl_append]; rfl
        rw [e, cnt_append, h s hs]
        simp only [good8, decide_eq_true_eq] at hs ht
        by_cases hts : t = s
        · subst hts
          unfold nextStep
          rw [if_pos ⟨rfl, by simp only [mayB, decide_eq_true_eq]; omega, by simp⟩, wrap64 (by simp only; omega) (by simp only; omega)]
          simp [cnt]
        · unfold nextStep
          rw [if_neg (fun hh => hts hh.1)]
          simp [cnt, hts]
      · exact h s hs
theorem cnts_get (own : List (Int × Int)) {s : Int} (h : good8 s = true) : (rowsBy cInt (cnts own))[s.toNat]? = some [.int .i64 (cnt s own)] := by
  simp only [good8, decide_eq_true_eq] at h
  have : s = 1 ∨ s = 2 ∨ s = 3 ∨ s = 4 ∨ s = 5 ∨ s = 6 ∨ s = 7 ∨ s = 8 := by omega
  rcases this with rfl | rfl | rfl | rfl | rfl | rfl | rfl | rfl <;> rfl
theorem cnts_set (own : List (Int × Int)) {s : Int} (h : good8 s = true) (n : Int) : (rowsBy cInt (cnts own)).set s.toNat [.int .i64 ((cnt s own : Int) + 1)] = rowsBy cInt (cnts (own ++ [(s, n)])) := by
  simp only [good8, decide_eq_true_eq] at h
  have : s = 1 ∨ s = 2 ∨ s = 3 ∨ s = 4 ∨ s = 5 ∨ s = 6 ∨ s = 7 ∨ s = 8 := by omega
  rcases this with rfl | rfl | rfl | rfl | rfl | rfl | rfl | rfl <;> simp [cnts, rowsBy, cInt, cnt_append, cnt]
theorem l3 (l : List Int) : E (call F) 0 f3_l1 (⟨(upd (upd (upd (upd (upd e0 6 (.v (.int .i64 0))) 5 (.s 5 0 9)) 4 (.s 4 0 0)) 3 (.v (.bool true))) 0 (.v (.sl .shared 1 (rowsBy cInt l)))), (upd (upd h0 5 (some (.arr false 3 1 (List.replicate 9 [.int .i64 0])))) 4 (some (.arr false 26 2 [])))⟩ : St) =
    some (.exit 0, (⟨(upd e0 3 (.v (.bool true))), h0⟩ : St)) := by
  refine loop_to (b := f3_b1) (fun i => (⟨(upd (upd (upd (upd (upd e0 6 (.v (.int .i64 (i : Int)))) 5 (.s 5 0 9)) 4 (.s 4 0 (ownN (l.take i)).length)) 3 (.v (.bool true))) 0 (.v (.sl .shared 1 (rowsBy cInt l)))), (upd (upd h0 5 (some (.arr false 3 1 (rowsBy cInt (cnts (ownN (l.take i))))))) 4 (some (.arr false 26 2 (rowsBy idRow (ownN (l.take i))))))⟩ : St)) (min l.length 40) ?_ ?_ (by simp)
  · intro i hi
    have h1 : i < l.length := by omega
    have h2 : decide ((i : Int) < 40) = true := by simp; omega
    have hw : IntKind.i64.wrap ((i : Int) + 1) = ((i + 1 : Nat) : Int) := by rw [wrap64 (by omega) (by omega)]; omega
    have hg : (rowsBy cInt l)[i]? = some [.int .i64 l[i]] := rowsBy_get cInt h1
    have hlen := ownN_len (l.take i)
    have hli : (l.take i).length ≤ i := List.length_take_le _ _
    have hs : ownN (l.take (i + 1)) = ownStep (ownN (l.take i)) l[i] := foldl_take_succ ownStep [] h1
    have hnx := ownN_next (l.take i) (by omega)
    have nx := t10b l[i] (ownN (l.take i)) (by omega) .shared
    generalize ownN (l.take i) = own at *
    generalize hv : l[i] = s at *
    rw [hs]
    cases hgs : good8 s with
    | false =>
      have hm : mayB s (nextN s own) = false := by
        simp only [good8, mayB, decide_eq_false_iff_not] at hgs ⊢
        omega
      have e : ownStep own s = own := by unfold ownStep; rw [if_neg (by simp [hgs])]
      rw [e]
      have hc : decide (s < 1) = true ∨ (decide (s < 1) = false ∧ decide (s > 8) = true) := by
        simp only [good8, decide_eq_false_iff_not] at hgs
        simp only [decide_eq_true_eq, decide_eq_false_iff_not]
        omega
      rcases hc with hc | ⟨hc, hc'⟩
      · simp only [f3_b1, dec_lt h1, h2, hw, hg, nx, hm, hc, go_sem, reduceIte, reduceCtorEq, Nat.reduceEqDiff, Nat.reduceAdd, Nat.reduceMul, Nat.reduceLeDiff, List.length_cons, List.length_nil]
      · simp only [f3_b1, dec_lt h1, h2, hw, hg, nx, hm, hc, hc', go_sem, reduceIte, reduceCtorEq, Nat.reduceEqDiff, Nat.reduceAdd, Nat.reduceMul, Nat.reduceLeDiff, List.length_cons, List.length_nil]
    | true =>
      have e : ownStep own s = own ++ [(s, (cnt s own : Int) + 1)] := by unfold ownStep; rw [if_pos hgs]
      have hcl := cnt_le s own
      have hN := hnx s hgs
      have hg8 := hgs
      simp only [good8, decide_eq_true_eq] at hg8
      have hm : mayB s ((cnt s own : Int) + 1) = true := by
        simp only [mayB, decide_eq_true_eq]
        omega
      have k1 : decide (s < 1) = false := by simp; omega
      have k2 : decide (s > 8) = false := by simp; omega
      have k3 : 0 ≤ s := by omega
      have k4 : s < 9 := by omega
      have k5 := cnts_get own hgs
      have k6 := cnts_set own hgs ((cnt s own : Int) + 1)
      have k7 := cnts_get (own ++ [(s, (cnt s own : Int) + 1)]) hgs
      have k8 : ((cnt s (own ++ [(s, (cnt s own : Int) + 1)]) : Nat) : Int) = (cnt s own : Int) + 1 := by rw [cnt_append]; simp [cnt]
      rw [k8] at k7
      have k9 : IntKind.i64.wrap ((cnt s own : Int) + 1) = (cnt s own : Int) + 1 := wrap64 (by omega) (by omega)
      have k10 : (own.length + 1) * 16 ≤ 140737488355328 := by omega
      have k11 : rowsBy idRow own ++ [[TV.int .i64 s, .int .i64 ((cnt s own : Int) + 1)]] = rowsBy idRow (own ++ [(s, (cnt s own : Int) + 1)]) := rowsBy_snoc idRow own (s, (cnt s own : Int) + 1)
      have k12 : (own ++ [(s, (cnt s own : Int) + 1)]).length = own.length + 1 := by simp
      rw [e, k12]
      simp only [f3_b1, dec_lt h1, h2, hw, hg, nx, hN, hm, k1, k2, k3, k4, k5, k6, k7, k9, k10, k11, t11, go_sem, reduceIte, reduceCtorEq, Nat.reduceEqDiff, Nat.reduceAdd, Nat.reduceMul, Nat.reduceLeDiff, List.length_cons, List.length_nil, Int.cast_ofNat_Int, not_false_eq_true, Nat.testBit, Nat.reduceShiftRight, Nat.reduceAnd, Nat.reduceBNe]
  · by_cases h1 : l.length ≤ 40
    · have e : min l.length 40 = l.length := by omega
      rw [e]
      simp only [f3_b1, dec_ge (Nat.le_refl l.length), go_sem, reduceIte, reduceCtorEq, Nat.reduceEqDiff]
    · have e : min l.length 40 = 40 := by omega
      have h2 : decide ((40 : Int) < (l.length : Int)) = true := by simp; omega
      rw [e]
      simp only [f3_b1, h2, go_sem, reduceIte, reduceCtorEq, Nat.reduceEqDiff, Int.reduceLT, Int.cast_ofNat_Int]
theorem t3 (l : List Int) : call F 3 [.sl .shared 1 (rowsBy cInt l)] = some (.bool true) := by
  have lp := l3 l
  rw [call_code F (show F 3 = some (.code f3) from rfl)]
  simp only [f3, t9, lp, go_sem, reduceIte, reduceCtorEq, Nat.reduceEqDiff, Nat.reduceAdd, Nat.reduceMul, List.length_cons, List.length_nil, Int.reduceLE, Int.reduceMul, Int.reduceToNat, Int.cast_ofNat_Int]
end Go.Proofs.Ytnflcbacobhoiaa.Sx
