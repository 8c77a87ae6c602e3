/- Maps from darts, as sets. -/
import Derived.Test.YtehcfmohjcjmpaaSxForm
namespace Go.Proofs.Ytehcfmohjcjmpaa.Sx
open Go
def mapD (s : List Dart) : List (List TV × List TV) := s.map fun d => (Dart.c d, [TV.bool true])
def keyL (x : Dart) : List LV := [LV.v (TV.int IntKind.i64 x.e.s), LV.v (TV.int IntKind.i64 x.e.n), LV.v (TV.int IntKind.i64 x.d)]
theorem eqc (x d : Dart) : eqCells [Lk.i, Lk.i, Lk.i] (keyL x) (liftV (Dart.c d)) = some (decide (x = d)) := by
  unfold keyL
  simp only [Dart.c, go_sem, reduceIte]
theorem find_mapD (x : Dart) : ∀ s : List Dart, findM [Lk.i, Lk.i, Lk.i] (keyL x) (mapD s) = some (if x ∈ s then some [TV.bool true] else none)
  | [] => rfl
  | d :: s => by
    show findM [Lk.i, Lk.i, Lk.i] (keyL x) ((Dart.c d, [TV.bool true]) :: mapD s) = _
    rw [findM, eqc]
    by_cases h : x = d
    · rw [decide_eq_true h, if_pos (by simp [h])]
    · rw [decide_eq_false h]
      simp only []
      rw [find_mapD x s]
      by_cases h2 : x ∈ s
      · rw [if_pos h2, if_pos (by simp [h2])]
      · rw [if_neg h2, if_neg (by simp [h, h2])]
theorem upd_mapD (x : Dart) : ∀ s : List Dart, updM [Lk.i, Lk.i, Lk.i] (keyL x) (Dart.c x) [TV.bool true] (mapD s) = some (mapD (if x ∈ s then s else s ++ [x]))
  | [] => rfl
  | d :: s => by
    show updM [Lk.i, Lk.i, Lk.i] (keyL x) (Dart.c x) [TV.bool true] ((Dart.c d, [TV.bool true]) :: mapD s) = _
    rw [updM, eqc]
    by_cases h : x = d
    · rw [decide_eq_true h, if_pos (by simp [h])]
      subst h; rfl
    · rw [decide_eq_false h]
      simp only []
      rw [upd_mapD x s]
      by_cases h2 : x ∈ s
      · rw [if_pos h2, if_pos (by simp [h2])]; rfl
      · rw [if_neg h2, if_neg (by simp [h, h2])]; rfl
theorem del_mapD (x : Dart) : ∀ s : List Dart, delM [Lk.i, Lk.i, Lk.i] (keyL x) (mapD s) = some (mapD (s.erase x))
  | [] => rfl
  | d :: s => by
    show delM [Lk.i, Lk.i, Lk.i] (keyL x) ((Dart.c d, [TV.bool true]) :: mapD s) = _
    rw [delM, eqc]
    by_cases h : x = d
    · rw [decide_eq_true h]
      subst h
      rw [List.erase_cons_head]
    · rw [decide_eq_false h]
      simp only []
      rw [del_mapD x s, List.erase_cons_tail (by simpa using fun e => h e.symm)]; rfl
def addD (s : List Dart) (x : Dart) : List Dart := if x ∈ s then s else s ++ [x]
def leftE (es : List Ed) : List Dart := es.foldl (fun s e => addD (addD s ⟨e.id, 0⟩) ⟨e.id, 1⟩) []
theorem leftE_succ {es : List Ed} {i : Nat} (h : i < es.length) : leftE (es.take (i + 1)) = addD (addD (leftE (es.take i)) ⟨es[i].id, 0⟩) ⟨es[i].id, 1⟩ := by
  unfold leftE; rw [List.take_succ_eq_append_getElem h, List.foldl_append]; rfl
theorem drings_l1 (l : List Vx) (es : List Ed) (he : Fits es) : E (call F) 0 f39_l1 (⟨(upd (upd (upd (upd (upd Sx.e0 14 (.v (.int .i64 (0)))) 13 (.v (.int .i64 ((es.length : Int))))) 12 (.v (.sl .shared 4 (rowsBy Ed.c es)))) 3 (.m 3)) 1 (.p 1 0)), (upd (upd Sx.h0 3 (some (.map false true false []))) 1 (some (.var false [.v (.sl .shared 5 (rowsBy Vx.c l)), .v (.sl .shared 4 (rowsBy Ed.c es))])))⟩ : St) =
    some (.exit 0, (⟨(upd (upd Sx.e0 3 (.m 3)) 1 (.p 1 0)), (upd (upd Sx.h0 3 (some (.map false true false (mapD (leftE es))))) 1 (some (.var false [.v (.sl .shared 5 (rowsBy Vx.c l)), .v (.sl .shared 4 (rowsBy Ed.c es))])))⟩ : St)) := by
  have hle := he.le
  have key := loop_to (C := call F) (lo := 0) (b := f39_b1) (fun i => (⟨(upd (upd (upd (upd (upd Sx.e0 14 (.v (.int .i64 ((i : Int))))) 13 (.v (.int .i64 ((es.length : Int))))) 12 (.v (.sl .shared 4 (rowsBy Ed.c es)))) 3 (.m 3)) 1 (.p 1 0)), (upd (upd Sx.h0 3 (some (.map false true false (mapD (leftE (es.take i)))))) 1 (some (.var false [.v (.sl .shared 5 (rowsBy Vx.c l)), .v (.sl .shared 4 (rowsBy Ed.c es))])))⟩ : St)) es.length (r := (.exit 0, (⟨(upd (upd Sx.e0 3 (.m 3)) 1 (.p 1 0)), (upd (upd Sx.h0 3 (some (.map false true false (mapD (leftE es))))) 1 (some (.var false [.v (.sl .shared 5 (rowsBy Vx.c l)), .v (.sl .shared 4 (rowsBy Ed.c es))])))⟩ : St))) ?_ ?_ (by simp)
  · exact key
  · intro i hi
    have h1z : (i : Int) < (es.length : Int) := by omega
    rw [leftE_succ hi]
    generalize leftE (es.take i) = s at *
    have u1 := upd_mapD ⟨es[i].id, 0⟩ s
    rw [show (if (⟨es[i].id, 0⟩ : Dart) ∈ s then s else s ++ [⟨es[i].id, 0⟩]) = addD s ⟨es[i].id, 0⟩ from rfl] at u1
    have u2 := upd_mapD ⟨es[i].id, 1⟩ (addD s ⟨es[i].id, 0⟩)
    rw [show (if (⟨es[i].id, 1⟩ : Dart) ∈ addD s ⟨es[i].id, 0⟩ then addD s ⟨es[i].id, 0⟩ else addD s ⟨es[i].id, 0⟩ ++ [⟨es[i].id, 1⟩]) = addD (addD s ⟨es[i].id, 0⟩) ⟨es[i].id, 1⟩ from rfl] at u2
    generalize addD s ⟨es[i].id, 0⟩ = s2 at *
    generalize addD s2 ⟨es[i].id, 1⟩ = s3 at *
    simp only [keyL, Dart.c] at u1 u2
    simp only [f39_b1, h1z, rowsBy_get Ed.c hi, Ed.c, u1, u2, wrap_succ hi (show es.length ≤ 9223372036854775807 by omega), go_sem, reduceIte, Nat.reduceEqDiff, Nat.reduceAdd, Nat.reduceLeDiff, List.length_cons, List.length_nil, not_false_eq_true]
  · rw [List.take_length]
    simp only [f39_b1, dec_ge (Nat.le_refl es.length), go_sem, reduceIte, Nat.reduceEqDiff]
/-- darts taken out one by one -/
def eat : List Dart → List Dart → Option (List Dart)
  | s, [] => some s
  | s, x :: r => if x ∈ s then eat (s.erase x) r else none
theorem drings_l3 (l : List Vx) (i : Nat) (r : List Dart) (hr : Fits r) : ∀ (n k : Nat) (s : List Dart), k + n = r.length → E (call F) 0 f39_l3 (⟨(upd (upd (upd (upd (upd (upd (upd Sx.e0 44 (.v (.int .i64 ((k : Int))))) 43 (.v (.int .i64 ((r.length : Int))))) 42 (.v (.sl .shared 3 (rowsBy Dart.c r)))) 30 (.v (.int .i64 ((i : Int))))) 29 (.v (.int .i64 ((l.length : Int))))) 28 (.v (.sl .shared 5 (rowsBy Vx.c l)))) 3 (.m 3)), (upd Sx.h0 3 (some (.map false true false (mapD s))))⟩ : St) =
    some (match eat s (r.drop k) with
      | some s' => (.exit 4, (⟨(upd (upd (upd (upd Sx.e0 30 (.v (.int .i64 ((i : Int))))) 29 (.v (.int .i64 ((l.length : Int))))) 28 (.v (.sl .shared 5 (rowsBy Vx.c l)))) 3 (.m 3)), (upd Sx.h0 3 (some (.map false true false (mapD s'))))⟩ : St))
      | none => (.ret, (⟨(upd Sx.e0 2 (.v (.bool false))), Sx.h0⟩ : St))) := by
  have hle := hr.le
  intro n
  induction n with
  | zero =>
    intro k s hk
    have e : r.drop k = [] := List.drop_eq_nil_of_le (by omega)
    rw [e]
    simp only [eat]
    rw [f39_l3_eq]
    simp only [f39_b3, dec_ge (show r.length ≤ k by omega), go_sem, reduceIte, Nat.reduceEqDiff]
  | succ n ih =>
    intro k s hk
    have h1 : k < r.length := by omega
    have h1z : (k : Int) < (r.length : Int) := by omega
    rw [List.drop_eq_getElem_cons h1]
    simp only [eat]
    have f1 := find_mapD r[k] s
    have d1 := del_mapD r[k] s
    simp only [keyL] at f1 d1
    rw [f39_l3_eq]
    by_cases hm : r[k] ∈ s
    · rw [if_pos hm] at f1
      rw [if_pos hm]
      have ih := ih (k + 1) (s.erase r[k]) (by omega)
      rw [← ih]
      generalize s.erase r[k] = s2 at *
      simp only [f39_b3, h1z, rowsBy_get Dart.c h1, Dart.c, f1, d1, wrap_succ h1 (show r.length ≤ 9223372036854775807 by omega), go_sem, reduceIte, Nat.reduceEqDiff, Nat.reduceAdd, List.length_cons, List.length_nil]
    · rw [if_neg hm] at f1
      rw [if_neg hm]
      simp only [f39_b3, h1z, rowsBy_get Dart.c h1, Dart.c, f1, go_sem, reduceIte, Nat.reduceEqDiff, Nat.reduceAdd, List.length_cons, List.length_nil]
def eatV : List Dart → List Vx → Option (List Dart)
  | s, [] => some s
  | s, v :: l => if v.ring = turn v.ring then (match eat s v.ring with | some s' => eatV s' l | none => none) else none
theorem drings_l2 (l : List Vx) (hl : Fits l) (hr : FitsR l) : ∀ (n k : Nat) (s : List Dart), k + n = l.length → E (call F) 0 f39_l2 (⟨(upd (upd (upd (upd Sx.e0 30 (.v (.int .i64 ((k : Int))))) 29 (.v (.int .i64 ((l.length : Int))))) 28 (.v (.sl .shared 5 (rowsBy Vx.c l)))) 3 (.m 3)), (upd Sx.h0 3 (some (.map false true false (mapD s))))⟩ : St) =
    some (match eatV s (l.drop k) with
      | some s' => (.exit 2, (⟨(upd Sx.e0 3 (.m 3)), (upd Sx.h0 3 (some (.map false true false (mapD s'))))⟩ : St))
      | none => (.ret, (⟨(upd Sx.e0 2 (.v (.bool false))), Sx.h0⟩ : St))) := by
  have hle := hl.le
  intro n
  induction n with
  | zero =>
    intro k s hk
    have e : l.drop k = [] := List.drop_eq_nil_of_le (by omega)
    rw [e]
    simp only [eatV]
    rw [f39_l2_eq]
    simp only [f39_b2, dec_ge (show l.length ≤ k by omega), go_sem, reduceIte, Nat.reduceEqDiff]
  | succ n ih =>
    intro k s hk
    have h1 : k < l.length := by omega
    have h1z : (k : Int) < (l.length : Int) := by omega
    rw [List.drop_eq_getElem_cons h1]
    simp only [eatV]
    have hf := hr _ (List.getElem_mem h1)
    have ct := c_ring_Turn l[k].ring hf
    have ce := c_Equal_Dart l[k].ring (turn l[k].ring) hf
    have l3 := drings_l3 l k l[k].ring hf l[k].ring.length 0 s (by omega)
    rw [List.drop_zero] at l3
    simp only [nat0] at l3
    rw [f39_l2_eq]
    by_cases g : l[k].ring = turn l[k].ring
    · rw [dec_t g] at ce
      rw [if_pos g]
      generalize turn l[k].ring = u at *
      cases he : eat s l[k].ring with
      | none =>
        rw [he] at l3
        simp only [] at l3 ⊢
        simp only [f39_b2, h1z, rowsBy_get Vx.c h1, Vx.c, ct, ce, l3, go_sem, reduceIte, Nat.reduceEqDiff, Nat.reduceAdd, Nat.reduceMul, Nat.reduceLeDiff, Nat.reduceBEq, List.length_cons, List.length_nil, Nat.testBit, Nat.reduceShiftRight, Nat.reduceAnd, Nat.reduceBNe]
      | some s2 =>
        rw [he] at l3
        simp only [] at l3 ⊢
        have ih := ih (k + 1) s2 (by omega)
        rw [← ih]
        simp only [f39_b2, h1z, rowsBy_get Vx.c h1, Vx.c, ct, ce, l3, wrap_succ h1 (show l.length ≤ 9223372036854775807 by omega), go_sem, reduceIte, Nat.reduceEqDiff, Nat.reduceAdd, Nat.reduceMul, Nat.reduceLeDiff, Nat.reduceBEq, List.length_cons, List.length_nil, Nat.testBit, Nat.reduceShiftRight, Nat.reduceAnd, Nat.reduceBNe]
    · rw [dec_f g] at ce
      rw [if_neg g]
      generalize turn l[k].ring = u at *
      simp only [f39_b2, h1z, rowsBy_get Vx.c h1, Vx.c, ct, ce, go_sem, reduceIte, Nat.reduceEqDiff, Nat.reduceAdd, Nat.reduceMul, Nat.reduceLeDiff, Nat.reduceBEq, List.length_cons, List.length_nil, Nat.testBit, Nat.reduceShiftRight, Nat.reduceAnd, Nat.reduceBNe]
theorem mapD_len (s : List Dart) : (mapD s).length = s.length := by unfold mapD; simp
def ringsP (l : List Vx) (es : List Ed) : Bool := match eatV (leftE es) l with
  | some s => decide ((s.length : Int) = 0)
  | none => false
theorem i_diagram_rings (l : List Vx) (es : List Ed) (hl : Fits l) (hr : FitsR l) (he : Fits es) : call F 39 [.agg [.sl .shared 5 (rowsBy Vx.c l), .sl .shared 4 (rowsBy Ed.c es)]] = some (.bool (ringsP l es)) := by
  have l1 := drings_l1 l es he
  have l2 := drings_l2 l hl hr l.length 0 (leftE es) (by omega)
  rw [List.drop_zero] at l2
  simp only [nat0] at l2
  unfold ringsP
  generalize leftE es = s at *
  cases hc : eatV s l with
  | none =>
    rw [hc] at l2
    simp only [] at l2
    rw [call_code F (show F 39 = some (.code f39) from rfl)]
    simp only [f39, l1, l2, go_sem, reduceIte, reduceCtorEq, Nat.reduceEqDiff, Nat.reduceAdd, Nat.reduceLeDiff, List.length_cons, List.length_nil]
  | some s2 =>
    rw [hc] at l2
    simp only [] at l2
    have hm := mapD_len s2
    rw [call_code F (show F 39 = some (.code f39) from rfl)]
    simp only [f39, l1, l2, hm, go_sem, reduceIte, reduceCtorEq, Nat.reduceEqDiff, Nat.reduceAdd, Nat.reduceLeDiff, List.length_cons, List.length_nil]
end Go.Proofs.Ytehcfmohjcjmpaa.Sx
