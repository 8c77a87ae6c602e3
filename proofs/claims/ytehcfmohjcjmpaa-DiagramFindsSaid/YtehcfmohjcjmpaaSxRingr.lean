/- What the reference's functions of rings come to. -/
import Derived.Test.YtehcfmohjcjmpaaSxRing
namespace Go.Proofs.Ytehcfmohjcjmpaa.Sx
open Go
def rotG (l : List Dart) (k i : Nat) : List Dart := (List.range i).map fun j => l.getD ((k + j) % l.length) Dart0
theorem rotG_snoc (l : List Dart) (k i : Nat) : rotG l k (i + 1) = rotG l k i ++ [l.getD ((k + i) % l.length) Dart0] := by
  unfold rotG; rw [List.range_succ, List.map_append]; rfl
theorem rotG_length (l : List Dart) (k i : Nat) : (rotG l k i).length = i := by unfold rotG; simp
theorem rotG_all {l : List Dart} {k : Nat} (hk : k < l.length) : rotG l k l.length = l.drop k ++ l.take k := by
  unfold rotG
  apply List.ext_getElem
  · simp; omega
  · intro i h1 h2
    simp only [List.length_map, List.length_range] at h1
    rw [List.getElem_map, List.getElem_range, List.getElem_append]
    split
    · rename_i h
      simp only [List.length_drop] at h
      rw [List.getElem_drop, Nat.mod_eq_of_lt (by omega)]
      simp
      rw [List.getElem?_eq_getElem (by omega)]
      rfl
    · rename_i h
      simp only [List.length_drop, Nat.not_lt] at h
      rw [List.getElem_take]
      have e : (k + i) % l.length = i - (l.length - k) := by rw [Nat.mod_eq_sub_mod (by omega), Nat.mod_eq_of_lt (by omega)]; omega
      simp only [List.length_drop, e]
      simp
      rw [List.getElem?_eq_getElem (by omega)]
      rfl
theorem turn_kOf {l : List Dart} (h : l ≠ []) : kOf l l.length = l.idxOf (minD l) := by
  have hp : 0 < l.length := List.length_pos_iff.2 h
  obtain ⟨n, hn⟩ : ∃ n, l.length = n + 1 := ⟨l.length - 1, by omega⟩
  have := (kOf_min l n (by omega)).2
  rw [← hn, List.take_length] at this
  exact this.symm
theorem turn_rot (l : List Dart) : rotG l (kOf l l.length) l.length = turn l := by
  by_cases h : l = []
  · subst h; rfl
  · rw [turn_kOf h, rotG_all (List.idxOf_lt_length_iff.2 (minD_mem h))]; rfl
theorem c_r03_Turn (l : List Dart) (hl : Fits l) : call F 51 [.sl .shared 3 (rowsBy Dart.c l)] = some (.sl (.own 45) 3 (rowsBy Dart.c (turn l))) := by
  have hle := hl.le
  have l1 : E (call F) 0 f51_l1 (⟨(upd (upd (upd Sx.e0 4 (.v (.int .i64 (0)))) 3 (.v (.int .i64 (0)))) 0 (.v (.sl .shared 3 (rowsBy Dart.c l)))), Sx.h0⟩ : St) =
      some (.exit 0, (⟨(upd (upd Sx.e0 3 (.v (.int .i64 ((kOf l l.length : Int))))) 0 (.v (.sl .shared 3 (rowsBy Dart.c l)))), Sx.h0⟩ : St)) := by
    refine loop_to (b := f51_b1) (fun i => (⟨(upd (upd (upd Sx.e0 4 (.v (.int .i64 ((i : Int))))) 3 (.v (.int .i64 ((kOf l i : Int))))) 0 (.v (.sl .shared 3 (rowsBy Dart.c l)))), Sx.h0⟩ : St)) l.length ?_ ?_ (by simp)
    · intro i hi
      have hk : kOf l i < l.length := by have := kOf_lt l i; omega
      have h2 : ((kOf l i : Nat) : Int) < (l.length : Int) := by omega
      have g1 : l.getD i Dart0 = l[i] := by simp [hi]
      have g2 : l.getD (kOf l i) Dart0 = l[kOf l i] := by simp [hk]
      have hs : kOf l (i + 1) = if ordD l[i] l[kOf l i] < 0 then i else kOf l i := by rw [← g1, ← g2]; rfl
      rw [hs]
      cases hc : decide (ordD l[i] l[kOf l i] < 0) with
      | true =>
        rw [if_pos (of_decide_eq_true hc)]
        simp only [f51_b1, dec_lt hi, rowsBy_get Dart.c hi, rowsBy_get Dart.c hk, Dart.c, c_r01_OrderDart, hc, wrap_succ hi (show l.length ≤ 9223372036854775807 by omega), go_sem, reduceIte, reduceCtorEq, Nat.reduceEqDiff, Nat.reduceAdd, Nat.reduceMul, List.length_cons, List.length_nil]
      | false =>
        rw [if_neg (of_decide_eq_false hc)]
        simp only [f51_b1, dec_lt hi, rowsBy_get Dart.c hi, rowsBy_get Dart.c hk, Dart.c, c_r01_OrderDart, hc, wrap_succ hi (show l.length ≤ 9223372036854775807 by omega), go_sem, reduceIte, reduceCtorEq, Nat.reduceEqDiff, Nat.reduceAdd, Nat.reduceMul, List.length_cons, List.length_nil]
    · simp only [f51_b1, dec_ge (Nat.le_refl l.length), go_sem, reduceIte, reduceCtorEq, Nat.reduceEqDiff]
  have l2 : E (call F) 0 f51_l2 (⟨(upd (upd (upd (upd Sx.e0 6 (.v (.int .i64 (0)))) 5 (.s 5 0 0)) 3 (.v (.int .i64 ((kOf l l.length : Int))))) 0 (.v (.sl .shared 3 (rowsBy Dart.c l)))), (upd Sx.h0 5 (some (.arr false 45 3 [])))⟩ : St) =
      some (.exit 2, (⟨(upd Sx.e0 5 (.s 5 0 l.length)), (upd Sx.h0 5 (some (.arr false 45 3 (rowsBy Dart.c (turn l)))))⟩ : St)) := by
    refine loop_to (b := f51_b2) (fun i => (⟨(upd (upd (upd (upd Sx.e0 6 (.v (.int .i64 ((i : Int))))) 5 (.s 5 0 i)) 3 (.v (.int .i64 ((kOf l l.length : Int))))) 0 (.v (.sl .shared 3 (rowsBy Dart.c l)))), (upd Sx.h0 5 (some (.arr false 45 3 (rowsBy Dart.c (rotG l (kOf l l.length) i)))))⟩ : St)) l.length ?_ ?_ (by simp)
    · intro i hi
      have hk : kOf l l.length < l.length := by have := kOf_lt l l.length; omega
      have h1 : IntKind.i64.wrap (((kOf l l.length : Nat) : Int) + (i : Int)) = ((kOf l l.length + i : Nat) : Int) := by rw [wrap64 (by omega) (by omega)]; omega
      have h2 : ¬ ((l.length : Int) = 0) := by omega
      have h3 : (kOf l l.length + i) % l.length < l.length := Nat.mod_lt _ (by omega)
      have h4 : (((kOf l l.length + i) % l.length : Nat) : Int) < (l.length : Int) := by omega
      have g1 : l.getD ((kOf l l.length + i) % l.length) Dart0 = l[(kOf l l.length + i) % l.length] := by simp [h3]
      have h5 : (i + 1) * 24 ≤ 140737488355328 := by omega
      have h6 : (rotG l (kOf l l.length) i).take i = rotG l (kOf l l.length) i := List.take_of_length_le (by rw [rotG_length]; omega)
      rw [rotG_snoc, g1]
      simp only [f51_b2, dec_lt hi, rowsBy_get Dart.c h3, Dart.c, h1, h2, tmod_nat, h5, h6, wrap_succ hi (show l.length ≤ 9223372036854775807 by omega), go_sem, reduceIte, reduceCtorEq, Nat.reduceEqDiff, Nat.reduceAdd, List.length_cons, List.length_nil]
    · rw [turn_rot]
      simp only [f51_b2, dec_ge (Nat.le_refl l.length), go_sem, reduceIte, reduceCtorEq, Nat.reduceEqDiff]
  have ht : (turn l).take l.length = turn l := List.take_of_length_le (by rw [turn_length]; exact Nat.le_refl _)
  rw [call_code F (show F 51 = some (.code f51) from rfl)]
  simp only [f51, l1, l2, ht, go_sem, reduceIte, reduceCtorEq, Nat.reduceEqDiff, List.length_nil]
theorem i_r03_Remove (l : List Dart) (x : Dart) (hl : Fits l) : call F 23 [.sl .shared 3 (rowsBy Dart.c l), .agg [.int .i64 x.e.s, .int .i64 x.e.n, .int .i64 x.d]] = some (.sl (.own 45) 3 (rowsBy Dart.c (turn (l.filter (fun y => decide (¬ y = x)))))) := by
  have hle := hl.le
  have hff : ∀ i, ((l.take i).filter (fun y => decide (¬ y = x))).length ≤ l.length := fun i => Nat.le_trans (List.length_filter_le _ _) (by simp; omega)
  have l1 : E (call F) 0 f23_l1 (⟨(upd (upd (upd (upd Sx.e0 6 (.v (.int .i64 (0)))) 5 (.s 5 0 0)) 3 (.p 3 0)) 0 (.v (.sl .shared 3 (rowsBy Dart.c l)))), (upd (upd Sx.h0 5 (some (.arr false 45 3 []))) 3 (some (.var false [(.v (.int .i64 (x.e.s))), (.v (.int .i64 (x.e.n))), (.v (.int .i64 (x.d)))])))⟩ : St) =
      some (.exit 0, (⟨(upd Sx.e0 5 (.s 5 0 (l.filter (fun y => decide (¬ y = x))).length)), (upd Sx.h0 5 (some (.arr false 45 3 (rowsBy Dart.c (l.filter (fun y => decide (¬ y = x)))))))⟩ : St)) := by
    refine loop_to (b := f23_b1) (fun i => (⟨(upd (upd (upd (upd Sx.e0 6 (.v (.int .i64 ((i : Int))))) 5 (.s 5 0 ((l.take i).filter (fun y => decide (¬ y = x))).length)) 3 (.p 3 0)) 0 (.v (.sl .shared 3 (rowsBy Dart.c l)))), (upd (upd Sx.h0 5 (some (.arr false 45 3 (rowsBy Dart.c ((l.take i).filter (fun y => decide (¬ y = x))))))) 3 (some (.var false [(.v (.int .i64 (x.e.s))), (.v (.int .i64 (x.e.n))), (.v (.int .i64 (x.d)))])))⟩ : St)) l.length ?_ ?_ (by simp)
    · intro i hi
      have hb := hff i
      have h5 : (((l.take i).filter (fun y => decide (¬ y = x))).length + 1) * 24 ≤ 140737488355328 := by omega
      have ht : l.take (i + 1) = l.take i ++ [l[i]] := List.take_succ_eq_append_getElem hi
      by_cases hx : l[i] = x
      · have hd := dec_t hx
        have e : (l.take (i + 1)).filter (fun y => decide (¬ y = x)) = (l.take i).filter (fun y => decide (¬ y = x)) := by rw [ht, List.filter_append]; simp [hx]
        rw [e]
        simp only [f23_b1, dec_lt hi, rowsBy_get Dart.c hi, Dart.c, hd, wrap_succ hi (show l.length ≤ 9223372036854775807 by omega), go_sem, reduceIte, reduceCtorEq, Nat.reduceEqDiff, Nat.reduceAdd, List.length_cons, List.length_nil]
      · have hd := dec_f hx
        have e : (l.take (i + 1)).filter (fun y => decide (¬ y = x)) = (l.take i).filter (fun y => decide (¬ y = x)) ++ [l[i]] := by rw [ht, List.filter_append]; simp [hx]
        have e2 : ((l.take i).filter (fun y => decide (¬ y = x)) ++ [l[i]]).length = ((l.take i).filter (fun y => decide (¬ y = x))).length + 1 := by simp
        rw [e, e2]
        generalize (l.take i).filter (fun y => decide (¬ y = x)) = m at *
        simp only [f23_b1, dec_lt hi, rowsBy_get Dart.c hi, Dart.c, hd, h5, wrap_succ hi (show l.length ≤ 9223372036854775807 by omega), go_sem, reduceIte, reduceCtorEq, Nat.reduceEqDiff, Nat.reduceAdd, List.length_cons, List.length_nil]
    · simp only [f23_b1, dec_ge (Nat.le_refl l.length), go_sem, reduceIte, reduceCtorEq, Nat.reduceEqDiff]
  have hfit : Fits (l.filter (fun y => decide (¬ y = x))) := Nat.le_trans (List.length_filter_le _ _) hle
  generalize l.filter (fun y => decide (¬ y = x)) = m at *
  have ct := c_r03_Turn m hfit
  rw [call_code F (show F 23 = some (.code f23) from rfl)]
  simp only [f23, l1, ct, go_sem, reduceIte, reduceCtorEq, Nat.reduceEqDiff, Nat.reduceAdd, Nat.reduceMul, List.length_cons, List.length_nil]
/-- as the reference lays a dart in: behind the k-th, one by one -/
def insG (l : List Dart) (k : Nat) (x : Dart) (i : Nat) : List Dart := if k < i then l.take (k + 1) ++ [x] ++ (l.take i).drop (k + 1) else l.take i
theorem insG_at {l : List Dart} {k : Nat} {x : Dart} (i : Nat) (hi : i < l.length) : insG l k x (i + 1) = if i = k then insG l k x i ++ [l[i]] ++ [x] else insG l k x i ++ [l[i]] := by
  have ht : l.take (i + 1) = l.take i ++ [l[i]] := List.take_succ_eq_append_getElem hi
  unfold insG
  by_cases h : i = k
  · subst h
    rw [if_pos (by omega), if_pos rfl, if_neg (by omega), ht]
    simp
  · rw [if_neg h]
    by_cases h2 : k < i
    · rw [if_pos (by omega), if_pos h2, ht, List.drop_append_of_le_length (by simp; omega)]
      simp
    · rw [if_neg (by omega), if_neg h2, ht]
theorem insG_zero (l : List Dart) (k : Nat) (x : Dart) : insG l k x 0 = [] := by unfold insG; simp
theorem insG_len {l : List Dart} {k : Nat} {x : Dart} (i : Nat) : (insG l k x i).length ≤ l.length + 1 := by
  unfold insG; split
  · simp; omega
  · simp; omega
theorem ins_room (a b : Nat) (h : a ≤ b + 1) (hb : b ≤ 5864062014633) : (a + 1) * 24 ≤ 140737488355328 ∧ (a + 1 + 1) * 24 ≤ 140737488355328 := by omega
attribute [local irreducible] insG in
set_option maxHeartbeats 4000000 in
theorem r03_Insert_l1 (l : List Dart) (k : Nat) (x : Dart) (hl : l.length ≤ 5864062014633) : E (call F) 0 f24_l1 (⟨(upd (upd (upd (upd (upd Sx.e0 9 (.v (.int .i64 (0)))) 8 (.s 8 0 (insG l k x 0).length)) 7 (.v (.int .i64 ((k : Int))))) 5 (.p 5 0)) 0 (.v (.sl .shared 3 (rowsBy Dart.c l)))), (upd (upd Sx.h0 8 (some (.arr false 45 3 (rowsBy Dart.c (insG l k x 0))))) 5 (some (.var false [(.v (.int .i64 (x.e.s))), (.v (.int .i64 (x.e.n))), (.v (.int .i64 (x.d)))])))⟩ : St) =
        some (.exit 0, (⟨(upd (upd (upd Sx.e0 8 (.s 8 0 (insG l k x l.length).length)) 5 (.p 5 0)) 0 (.v (.sl .shared 3 (rowsBy Dart.c l)))), (upd (upd Sx.h0 8 (some (.arr false 45 3 (rowsBy Dart.c (insG l k x l.length))))) 5 (some (.var false [(.v (.int .i64 (x.e.s))), (.v (.int .i64 (x.e.n))), (.v (.int .i64 (x.d)))])))⟩ : St)) := by
  refine loop_to (b := f24_b1) (fun i => (⟨(upd (upd (upd (upd (upd Sx.e0 9 (.v (.int .i64 ((i : Int))))) 8 (.s 8 0 (insG l k x i).length)) 7 (.v (.int .i64 ((k : Int))))) 5 (.p 5 0)) 0 (.v (.sl .shared 3 (rowsBy Dart.c l)))), (upd (upd Sx.h0 8 (some (.arr false 45 3 (rowsBy Dart.c (insG l k x i))))) 5 (some (.var false [(.v (.int .i64 (x.e.s))), (.v (.int .i64 (x.e.n))), (.v (.int .i64 (x.d)))])))⟩ : St)) l.length ?_ ?_ (by simp)
  · intro i hi
    have hb := insG_len (l := l) (k := k) (x := x) i
    obtain ⟨h5, h6⟩ := ins_room _ _ hb hl
    have hw : l.length ≤ 9223372036854775807 := Nat.le_trans hl (by decide)
    have hs := insG_at (k := k) (x := x) i hi
    by_cases h : i = k
    · have hd : decide ((i : Int) = (k : Int)) = true := by simp; omega
      rw [if_pos h] at hs
      rw [hs]
      generalize insG l k x i = m at *
      have e2 : (m ++ [l[i]] ++ [x]).length = m.length + 1 + 1 := by simp
      have e3 : (m ++ [l[i]]).take (m.length + 1) = m ++ [l[i]] := List.take_of_length_le (by simp)
      rw [e2]
      simp only [f24_b1, dec_lt hi, rowsBy_get Dart.c hi, Dart.c, hd, h5, h6, e3, wrap_succ hi hw, go_sem, reduceIte, reduceCtorEq, Nat.reduceEqDiff, Nat.reduceAdd, List.length_cons, List.length_nil]
    · have hd : decide ((i : Int) = (k : Int)) = false := by simp; omega
      rw [if_neg h] at hs
      rw [hs]
      generalize insG l k x i = m at *
      have e2 : (m ++ [l[i]]).length = m.length + 1 := by simp
      rw [e2]
      simp only [f24_b1, dec_lt hi, rowsBy_get Dart.c hi, Dart.c, hd, h5, wrap_succ hi hw, go_sem, reduceIte, reduceCtorEq, Nat.reduceEqDiff, Nat.reduceAdd, List.length_cons, List.length_nil]
  · simp only [f24_b1, dec_ge (Nat.le_refl l.length), go_sem, reduceIte, reduceCtorEq, Nat.reduceEqDiff]

set_option maxHeartbeats 4000000 in
theorem i_r03_Insert (l : List Dart) (a x : Dart) (hl : l.length ≤ 5864062014633) : call F 24 [.sl .shared 3 (rowsBy Dart.c l), .agg [.int .i64 a.e.s, .int .i64 a.e.n, .int .i64 a.d], .agg [.int .i64 x.e.s, .int .i64 x.e.n, .int .i64 x.d]] = some (.sl (.own 45) 3 (rowsBy Dart.c (insR l a x))) := by
  have hf : Fits l := Nat.le_trans hl (by omega)
  have ix := i_r03_Index l x hf
  have ia := i_r03_Index l a hf
  by_cases hx : x ∈ l
  · have ct := c_r03_Turn l hf
    have hd : decide (((l.idxOf x : Nat) : Int) ≥ 0) = true := by simp
    rw [idx_pos hx] at ix
    unfold insR; rw [if_pos hx]
    rw [call_code F (show F 24 = some (.code f24) from rfl)]
    simp only [f24, ix, ct, go_sem, reduceIte, reduceCtorEq, Nat.reduceEqDiff, Nat.reduceAdd, Nat.reduceMul, List.length_cons, List.length_nil]
  · rw [idx_neg hx] at ix
    unfold insR; rw [if_neg hx]
    obtain ⟨k, hk, hkl⟩ : ∃ k : Nat, (if idx l a > 0 then idx l a else 0) = (k : Int) ∧ l.take (insK l a) ++ [x] ++ l.drop (insK l a) = insG l k x l.length ++ (if l.length = 0 then [x] else []) := by
      by_cases ha : a ∈ l
      · have hlt := (idxOf_at ha).1
        refine ⟨l.idxOf a, ?_, ?_⟩
        · rw [idx_pos ha]; split <;> omega
        · unfold insK insG
          rw [if_pos ha, if_pos hlt, if_neg (by omega), List.take_length]
          simp
      · refine ⟨0, ?_, ?_⟩
        · rw [idx_neg ha]; simp
        · unfold insK insG
          rw [if_neg ha]
          cases l with
          | nil => simp
          | cons y l => simp
    have l1 := r03_Insert_l1 l k x hl
    rw [insG_zero] at l1
    simp only [List.length_nil, show rowsBy Dart.c [] = [] from rfl] at l1
    have ct := c_r03_Turn (l.take (insK l a) ++ [x] ++ l.drop (insK l a)) (by unfold Fits; simp; omega)
    rw [hkl] at ct ⊢
    have hb := insG_len (l := l) (k := k) (x := x) l.length
    by_cases h0 : l.length = 0
    · have hd : decide ((l.length : Int) = 0) = true := decide_eq_true (by omega)
      rw [if_pos h0] at ct ⊢
      generalize insG l k x l.length = m at *
      have e3 : (m ++ [x]).take (m.length + 1) = m ++ [x] := List.take_of_length_le (by simp)
      have h5 : (m.length + 1) * 24 ≤ 140737488355328 := (ins_room _ _ hb hl).1
      rw [call_code F (show F 24 = some (.code f24) from rfl)]
      simp only [f24, ix, ia, hk, l1, hd, h5, e3, ct, go_sem, reduceIte, reduceCtorEq, Nat.reduceEqDiff, Nat.reduceAdd, Nat.reduceMul, List.length_cons, List.length_nil, Int.reduceGE, Int.reduceNeg]
    · have hd : decide ((l.length : Int) = 0) = false := decide_eq_false (by omega)
      rw [if_neg h0, List.append_nil] at ct ⊢
      generalize insG l k x l.length = m at *
      rw [call_code F (show F 24 = some (.code f24) from rfl)]
      simp only [f24, ix, ia, hk, l1, hd, ct, go_sem, reduceIte, reduceCtorEq, Nat.reduceEqDiff, Nat.reduceAdd, Nat.reduceMul, List.length_cons, List.length_nil, Int.reduceGE, Int.reduceNeg]
end Go.Proofs.Ytehcfmohjcjmpaa.Sx
