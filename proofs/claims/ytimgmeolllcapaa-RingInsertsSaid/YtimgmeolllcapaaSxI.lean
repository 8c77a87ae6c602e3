/- RingInserts: one behind the other. -/
import Derived.Test.YtimgmeolllcapaaSxA
import Derived.Test.YtimgmeolllcapaaSxRot
namespace Go.Proofs.Ytimgmeolllcapaa.Sx
open Go
def oth (l m : List Dart) : List Dart := m.filter (fun y => decide (¬ y ∈ l))
theorem oth_succ (l m : List Dart) {i : Nat} (hi : i < m.length) : oth l (m.take (i + 1)) = if m[i] ∈ l then oth l (m.take i) else oth l (m.take i) ++ [m[i]] := by
  rw [List.take_succ_eq_append_getElem hi]
  unfold oth
  rw [List.filter_append]
  split
  · rename_i h; rw [List.filter_cons_of_neg (by simpa using h)]; simp
  · rename_i h; rw [List.filter_cons_of_pos (by simpa using h)]; simp
theorem oth_len (l m : List Dart) (i : Nat) : (oth l (m.take i)).length ≤ m.length := by
  have h1 := List.length_filter_le (fun y => decide (¬ y ∈ l)) (m.take i)
  have h2 : (m.take i).length ≤ m.length := by rw [List.length_take]; omega
  exact Nat.le_trans h1 h2
theorem oth_not {l m : List Dart} {x : Dart} (h : x ∈ oth l m) : x ∉ l := by
  have := (List.mem_filter.1 h).2; simpa using this
theorem oth_nodup {m : List Dart} (l : List Dart) (h : m.Nodup) : (oth l m).Nodup := List.Nodup.sublist List.filter_sublist h
/-- the first ones are others, the rest its own -/
def mix (l o : List Dart) (i : Nat) : List Dart := o.take i ++ l.drop i
theorem mix_len {l o : List Dart} {i : Nat} (h1 : i ≤ l.length) (h2 : i ≤ o.length) : (mix l o i).length = l.length := by
  unfold mix; simp; omega
theorem mix_at {l o : List Dart} {i : Nat} (h1 : i < l.length) (h2 : i < o.length) : mix l o i = o.take i ++ l[i] :: l.drop (i + 1) := by
  unfold mix; rw [List.drop_eq_getElem_cons h1]
theorem mix_succ {l o : List Dart} {i : Nat} (h1 : i < l.length) (h2 : i < o.length) : mix l o (i + 1) = o.take i ++ o[i] :: l.drop (i + 1) := by
  unfold mix; rw [List.take_succ_eq_append_getElem h2, List.append_assoc]; rfl
theorem mix_set {l o : List Dart} {i : Nat} (h1 : i < l.length) (h2 : i < o.length) : (mix l o i).set i o[i] = mix l o (i + 1) := by
  rw [mix_at h1 h2, mix_succ h1 h2]
  rw [List.set_append_right _ _ (by simp; omega)]
  congr 1
  rw [show i - (o.take i).length = 0 by simp; omega]
  rfl
theorem mix_nodup {l o : List Dart} (hl : l.Nodup) (ho : o.Nodup) (hd : ∀ x ∈ o, x ∉ l) (i : Nat) : (mix l o i).Nodup := by
  unfold mix
  rw [List.nodup_append]
  exact ⟨ho.sublist (List.take_sublist _ _), hl.sublist (List.drop_sublist _ _), fun x hx y hy e => by subst e; exact hd x (List.mem_of_mem_take hx) (List.mem_of_mem_drop hy)⟩
theorem mix_mem {l o : List Dart} {i : Nat} (h1 : i < l.length) (h2 : i < o.length) : l[i] ∈ mix l o i := by rw [mix_at h1 h2]; exact List.mem_append_right _ List.mem_cons_self
theorem mix_not {l o : List Dart} (ho : o.Nodup) (hd : ∀ x ∈ o, x ∉ l) {i : Nat} (h1 : i < l.length) (h2 : i < o.length) : o[i] ∉ mix l o i := by
  unfold mix
  intro h
  rcases List.mem_append.1 h with h | h
  · have e : o = o.take i ++ o.drop i := (List.take_append_drop i o).symm
    have ho' := ho
    rw [e, List.nodup_append] at ho'
    exact ho'.2.2 _ h o[i] (by rw [List.drop_eq_getElem_cons h2]; exact List.mem_cons_self) rfl
  · exact hd _ (List.getElem_mem h2) (List.mem_of_mem_drop h)
theorem map_repl_id {l : List Dart} {x y : Dart} (h : x ∉ l) : l.map (repl x y) = l := by
  conv => rhs; rw [← List.map_id l]
  apply List.map_congr_left
  intro w hw
  show repl x y w = w
  unfold repl; rw [if_neg]; intro e; subst e; exact h hw
theorem mix_map {l o : List Dart} (hl : l.Nodup) (hd : ∀ x ∈ o, x ∉ l) {i : Nat} (h1 : i < l.length) (h2 : i < o.length) : (mix l o i).map (repl l[i] o[i]) = mix l o (i + 1) := by
  rw [mix_at h1 h2, mix_succ h1 h2, List.map_append, List.map_cons, map_repl_id (fun h => hd _ (List.mem_of_mem_take h) (List.getElem_mem h1)), show repl l[i] o[i] l[i] = o[i] by simp [repl], map_repl_id]
  intro h
  have e : l = l.take (i + 1) ++ l.drop (i + 1) := (List.take_append_drop _ l).symm
  have hl' := hl
  rw [e, List.nodup_append] at hl'
  exact hl'.2.2 l[i] (by rw [List.take_succ_eq_append_getElem h1]; exact List.mem_append_right _ (List.mem_singleton_self _)) _ h rfl
theorem step_ins {l : List Dart} (hn : l.Nodup) {j : Nat} (h : j + 1 < l.length) : insR (turn (l.take (j + 1))) l[j] l[j + 1] = turn (l.take (j + 1 + 1)) := by
  have e1 : l.take (j + 1) = l.take j ++ [l[j]] := List.take_succ_eq_append_getElem (by omega)
  have e2 : l.take (j + 1 + 1) = l.take (j + 1) ++ [l[j + 1]] := List.take_succ_eq_append_getElem h
  have hn2 : (l.take (j + 1 + 1)).Nodup := hn.sublist (List.take_sublist _ _)
  rw [e2, List.nodup_append] at hn2
  rw [e2, e1]
  rw [e1] at hn2
  exact ins_last hn2.1 (fun hm => hn2.2.2 _ hm _ (by simp) rfl)
theorem inserts_l1 (l m0 : List Dart) (hn : l.Nodup) (hl : l.length ≤ 40) : E (call F) 0 f5_l1 (⟨(upd (upd (upd (upd (upd Sx.e0 7 (.v (.int .i64 (0)))) 6 (.s 6 0 0)) 5 (.v (.bool true))) 1 (.v (.sl .shared 3 (rowsBy Dart.c m0)))) 0 (.s 0 0 l.length)), (upd (upd Sx.h0 6 (some (.arr false 26 3 []))) 0 (some (.arr false 26 3 (rowsBy Dart.c l))))⟩ : St) =
    some (.exit 0, (⟨(upd (upd (upd (upd Sx.e0 6 (.s 6 0 (turn l).length)) 5 (.v (.bool true))) 1 (.v (.sl .shared 3 (rowsBy Dart.c m0)))) 0 (.s 0 0 l.length)), (upd (upd Sx.h0 6 (some (.arr false 26 3 (rowsBy Dart.c (turn l))))) 0 (some (.arr false 26 3 (rowsBy Dart.c l))))⟩ : St)) := by
  have key := loop_to (C := call F) (lo := 0) (b := f5_b1) (fun i => (⟨(upd (upd (upd (upd (upd Sx.e0 7 (.v (.int .i64 ((i : Int))))) 6 (.s 6 0 (turn (l.take i)).length)) 5 (.v (.bool true))) 1 (.v (.sl .shared 3 (rowsBy Dart.c m0)))) 0 (.s 0 0 l.length)), (upd (upd Sx.h0 6 (some (.arr false 26 3 (rowsBy Dart.c (turn (l.take i)))))) 0 (some (.arr false 26 3 (rowsBy Dart.c l))))⟩ : St)) l.length (r := (.exit 0, (⟨(upd (upd (upd (upd Sx.e0 6 (.s 6 0 (turn l).length)) 5 (.v (.bool true))) 1 (.v (.sl .shared 3 (rowsBy Dart.c m0)))) 0 (.s 0 0 l.length)), (upd (upd Sx.h0 6 (some (.arr false 26 3 (rowsBy Dart.c (turn l))))) 0 (some (.arr false 26 3 (rowsBy Dart.c l))))⟩ : St))) ?_ ?_ (by simp)
  · have e0 : turn (l.take 0) = [] := by rw [List.take_zero]; rfl
    simp only [e0] at key
    exact key
  · intro i hi
    have hw : l.length ≤ 9223372036854775807 := by omega
    cases i with
    | zero =>
      have n1 := i_ring_Insert [] ⟨⟨0, 0⟩, 9⟩ l[0] (by simp)
      rw [show insR [] ⟨⟨0, 0⟩, 9⟩ l[0] = turn (l.take 1) by
        have := ins_first ⟨⟨0, 0⟩, 9⟩ l[0]
        rw [List.take_succ_eq_append_getElem hi, List.take_zero]; exact this] at n1
      have e0 : turn (l.take 0) = [] := by rw [List.take_zero]; rfl
      rw [e0]
      have e1 : rowsBy Dart.c [] = [] := rfl
      rw [e1] at n1 ⊢
      have k2 : (0 : Int) < (l.length : Int) := by omega
      generalize turn (l.take 1) = t at *
      simp only [f5_b1, n1, k2, show IntKind.i64.wrap 1 = 1 from rfl, rowsBy_get Dart.c hi, Dart.c, go_sem, reduceIte, reduceCtorEq, Nat.reduceEqDiff, Nat.reduceAdd, Nat.reduceMul, Nat.reduceBEq, List.length_cons, List.length_nil, Int.reduceGT, Int.reduceAdd, Int.reduceSub, Int.reduceNeg, Int.reduceToNat, Int.cast_ofNat_Int, Nat.testBit, Nat.reduceShiftRight, Nat.reduceAnd, Nat.reduceBNe]
    | succ j =>
      have hj : j < l.length := by omega
      have n1 := i_ring_Insert (turn (l.take (j + 1))) l[j] l[j + 1] (by rw [turn_length, List.length_take]; omega)
      rw [step_ins hn hi] at n1
      have k1 : decide (((j + 1 : Nat) : Int) > 0) = true := decide_eq_true (by omega)
      have w1 : IntKind.i64.wrap (((j + 1 : Nat) : Int) - 1) = (j : Int) := by rw [wrap64 (by omega) (by omega)]; omega
      have k3 : (j : Int) < (l.length : Int) := by omega
      have k4 : ((j + 1 : Nat) : Int) < (l.length : Int) := by omega
      generalize turn (l.take (j + 1 + 1)) = t at *
      generalize turn (l.take (j + 1)) = t1 at *
      simp only [f5_b1, n1, k1, k3, k4, w1, rowsBy_get Dart.c hi, rowsBy_get Dart.c hj, Dart.c, wrap_succ hi hw, go_sem, reduceIte, reduceCtorEq, Nat.reduceEqDiff, Nat.reduceAdd, Nat.reduceMul, Nat.reduceBEq, List.length_cons, List.length_nil, Nat.testBit, Nat.reduceShiftRight, Nat.reduceAnd, Nat.reduceBNe]
  · rw [List.take_length]
    simp only [f5_b1, dec_ge (Nat.le_refl l.length), go_sem, reduceIte, reduceCtorEq, Nat.reduceEqDiff]
theorem inserts_l2 (l m : List Dart) (hl : l.length ≤ 40) (hm : m.length ≤ 40) : E (call F) 0 f5_l2 (⟨(upd (upd (upd (upd (upd (upd Sx.e0 11 (.v (.int .i64 (0)))) 10 (.s 10 0 m.length)) 9 (.s 9 0 0)) 6 (.s 6 0 (turn l).length)) 5 (.v (.bool true))) 0 (.s 0 0 l.length)), (upd (upd (upd (upd Sx.h0 10 (some (.arr false 26 3 (rowsBy Dart.c m)))) 9 (some (.arr false 26 3 []))) 6 (some (.arr false 26 3 (rowsBy Dart.c (turn l))))) 0 (some (.arr false 26 3 (rowsBy Dart.c l))))⟩ : St) =
    some (.exit 2, (⟨(upd (upd (upd (upd Sx.e0 9 (.s 9 0 (oth l m).length)) 6 (.s 6 0 (turn l).length)) 5 (.v (.bool true))) 0 (.s 0 0 l.length)), (upd (upd (upd Sx.h0 9 (some (.arr false 26 3 (rowsBy Dart.c (oth l m))))) 6 (some (.arr false 26 3 (rowsBy Dart.c (turn l))))) 0 (some (.arr false 26 3 (rowsBy Dart.c l))))⟩ : St)) := by
  have hf : Fits l := Nat.le_trans hl (by decide)
  refine loop_to (b := f5_b2) (fun i => (⟨(upd (upd (upd (upd (upd (upd Sx.e0 11 (.v (.int .i64 ((i : Int))))) 10 (.s 10 0 m.length)) 9 (.s 9 0 (oth l (m.take i)).length)) 6 (.s 6 0 (turn l).length)) 5 (.v (.bool true))) 0 (.s 0 0 l.length)), (upd (upd (upd (upd Sx.h0 10 (some (.arr false 26 3 (rowsBy Dart.c m)))) 9 (some (.arr false 26 3 (rowsBy Dart.c (oth l (m.take i)))))) 6 (some (.arr false 26 3 (rowsBy Dart.c (turn l))))) 0 (some (.arr false 26 3 (rowsBy Dart.c l))))⟩ : St)) m.length ?_ ?_ (by simp)
  · intro i hi
    have hw : m.length ≤ 9223372036854775807 := by omega
    have hs := oth_succ l m hi
    have ho := oth_len l m i
    have k2 : (i : Int) < (m.length : Int) := by omega
    have ix := i_r03_Index l m[i] hf
    by_cases hx : m[i] ∈ l
    · rw [if_pos hx] at hs
      rw [idx_pos hx] at ix
      have hd : decide (((l.idxOf m[i] : Nat) : Int) < 0) = false := by simp
      rw [hs]
      generalize oth l (m.take i) = o at *
      generalize turn l = t at *
      simp only [f5_b2, k2, ix, hd, rowsBy_get Dart.c hi, Dart.c, wrap_succ hi hw, go_sem, reduceIte, reduceCtorEq, Nat.reduceEqDiff, Nat.reduceAdd, Nat.reduceMul, List.length_cons, List.length_nil]
    · rw [if_neg hx] at hs
      rw [idx_neg hx] at ix
      rw [hs]
      have h5 : ((oth l (m.take i)).length + 1) * 24 ≤ 140737488355328 := by omega
      generalize oth l (m.take i) = o at *
      have e2 : (o ++ [m[i]]).length = o.length + 1 := by simp
      rw [e2]
      generalize turn l = t at *
      simp only [f5_b2, k2, ix, rowsBy_get Dart.c hi, Dart.c, h5, wrap_succ hi hw, go_sem, reduceIte, reduceCtorEq, Nat.reduceEqDiff, Nat.reduceAdd, Nat.reduceMul, List.length_cons, List.length_nil, Int.reduceLT, Int.reduceNeg]
  · rw [List.take_length]
    simp only [f5_b2, dec_ge (Nat.le_refl m.length), go_sem, reduceIte, reduceCtorEq, Nat.reduceEqDiff]
theorem inserts_l3 (l o : List Dart) (hn : l.Nodup) (hno : o.Nodup) (hd : ∀ x ∈ o, x ∉ l) (hl : l.length ≤ 40) : E (call F) 0 f5_l3 (⟨(upd (upd (upd (upd (upd (upd Sx.e0 13 (.v (.int .i64 (0)))) 12 (.s 12 0 (l).length)) 9 (.s 9 0 o.length)) 6 (.s 6 0 (turn (l)).length)) 5 (.v (.bool true))) 0 (.s 0 0 l.length)), (upd (upd (upd (upd Sx.h0 12 (some (.arr false 26 3 (rowsBy Dart.c (l))))) 9 (some (.arr false 26 3 (rowsBy Dart.c o)))) 6 (some (.arr false 26 3 (rowsBy Dart.c (turn (l)))))) 0 (some (.arr false 26 3 (rowsBy Dart.c l))))⟩ : St) =
    some (.exit 4, (⟨(upd (upd (upd (upd Sx.e0 12 (.s 12 0 (mix l o (min l.length o.length)).length)) 6 (.s 6 0 (turn (mix l o (min l.length o.length))).length)) 5 (.v (.bool true))) 0 (.s 0 0 l.length)), (upd (upd (upd Sx.h0 12 (some (.arr false 26 3 (rowsBy Dart.c (mix l o (min l.length o.length)))))) 6 (some (.arr false 26 3 (rowsBy Dart.c (turn (mix l o (min l.length o.length))))))) 0 (some (.arr false 26 3 (rowsBy Dart.c l))))⟩ : St)) := by
  have key := loop_to (C := call F) (lo := 0) (b := f5_b3) (fun i => (⟨(upd (upd (upd (upd (upd (upd Sx.e0 13 (.v (.int .i64 ((i : Int))))) 12 (.s 12 0 (mix l o i).length)) 9 (.s 9 0 o.length)) 6 (.s 6 0 (turn (mix l o i)).length)) 5 (.v (.bool true))) 0 (.s 0 0 l.length)), (upd (upd (upd (upd Sx.h0 12 (some (.arr false 26 3 (rowsBy Dart.c (mix l o i))))) 9 (some (.arr false 26 3 (rowsBy Dart.c o)))) 6 (some (.arr false 26 3 (rowsBy Dart.c (turn (mix l o i)))))) 0 (some (.arr false 26 3 (rowsBy Dart.c l))))⟩ : St)) (min l.length o.length) (r := (.exit 4, (⟨(upd (upd (upd (upd Sx.e0 12 (.s 12 0 (mix l o (min l.length o.length)).length)) 6 (.s 6 0 (turn (mix l o (min l.length o.length))).length)) 5 (.v (.bool true))) 0 (.s 0 0 l.length)), (upd (upd (upd Sx.h0 12 (some (.arr false 26 3 (rowsBy Dart.c (mix l o (min l.length o.length)))))) 6 (some (.arr false 26 3 (rowsBy Dart.c (turn (mix l o (min l.length o.length))))))) 0 (some (.arr false 26 3 (rowsBy Dart.c l))))⟩ : St))) ?_ ?_ (by simp)
  · have e0 : mix l o 0 = l := by unfold mix; simp
    simp only [e0] at key
    exact key
  · intro i hi
    have h1 : i < l.length := by omega
    have h2 : i < o.length := by omega
    have hw : l.length ≤ 9223372036854775807 := by omega
    have sw := i_ring_Swap (turn (mix l o i)) l[i] o[i] (by unfold Fits; rw [turn_length, mix_len (by omega) (by omega)]; omega)
    rw [swap_turn (mix_nodup hn hno hd i) (mix_mem h1 h2) (mix_not hno hd h1 h2), mix_map hn hd h1 h2] at sw
    have k1 : (i : Int) < (l.length : Int) := by omega
    have k2 : (i : Int) < (o.length : Int) := by omega
    have k3 : (i : Int) < ((mix l o i).length : Int) := by rw [mix_len (by omega) (by omega)]; omega
    have k3n : i < (mix l o i).length := by rw [mix_len (by omega) (by omega)]; omega
    have hset : (rowsBy Dart.c (mix l o i)).set i [.int .i64 o[i].e.s, .int .i64 o[i].e.n, .int .i64 o[i].d] = rowsBy Dart.c (mix l o (i + 1)) := by rw [← mix_set h1 h2]; exact rowsBy_set Dart.c _ _ _
    have ml : (mix l o (i + 1)).length = (mix l o i).length := by rw [mix_len (by omega) (by omega), mix_len (by omega) (by omega)]
    have e3 : (mix l o (i + 1)).take (mix l o i).length = mix l o (i + 1) := List.take_of_length_le (by omega)
    rw [ml]
    generalize turn (mix l o i) = t1 at *
    generalize turn (mix l o (i + 1)) = t2 at *
    generalize mix l o (i + 1) = w2 at *
    generalize mix l o i = w1 at *
    simp only [f5_b3, k1, k2, k3, sw, hset, rowsBy_get Dart.c h1, rowsBy_get Dart.c h2, rowsBy_get Dart.c k3n, Dart.c, wrap_succ h1 hw, go_sem, reduceIte, reduceCtorEq, Nat.reduceEqDiff, Nat.reduceAdd, Nat.reduceMul, Nat.reduceBEq, List.length_cons, List.length_nil, not_false_eq_true, Nat.testBit, Nat.reduceShiftRight, Nat.reduceAnd, Nat.reduceBNe]
  · generalize turn (mix l o (min l.length o.length)) = t1 at *
    generalize mix l o (min l.length o.length) = w1 at *
    by_cases h : l.length ≤ o.length
    · rw [Nat.min_eq_left h]
      simp only [f5_b3, dec_ge (Nat.le_refl l.length), go_sem, reduceIte, reduceCtorEq, Nat.reduceEqDiff]
    · rw [Nat.min_eq_right (by omega)]
      simp only [f5_b3, dec_lt (show o.length < l.length by omega), dec_ge (Nat.le_refl o.length), go_sem, reduceIte, reduceCtorEq, Nat.reduceEqDiff]
set_option maxHeartbeats 4000000 in
theorem t_inserts (l0 m0 : List Dart) : call F 5 [.sl .shared 3 (rowsBy Dart.c l0), .sl .shared 3 (rowsBy Dart.c m0)] = some (.bool true) := by
  have co := c_once l0
  have hf := once_fits l0
  have hn := once_nodup l0
  have hl := once_len l0
  generalize once l0 = l at *
  have co2 := c_once m0
  have hf2 := once_fits m0
  have hn2 := once_nodup m0
  have hl2 := once_len m0
  generalize once m0 = m at *
  have l1 := inserts_l1 l m0 hn hl
  have s1 := c_ring_Same (turn l) l (fits_turn hf) hf
  rw [dec_t (turn_turn hn)] at s1
  have l2 := inserts_l2 l m hl hl2
  have hno := oth_nodup l hn2
  have hd : ∀ x ∈ oth l m, x ∉ l := fun x h => oth_not h
  have l3 := inserts_l3 l (oth l m) hn hno hd hl
  have hml := mix_len (l := l) (o := oth l m) (i := min l.length (oth l m).length) (Nat.min_le_left _ _) (Nat.min_le_right _ _)
  have hmn := mix_nodup hn hno hd (min l.length (oth l m).length)
  have hkc : l.length * 24 ≤ 140737488355328 := by omega
  generalize mix l (oth l m) (min l.length (oth l m).length) = w at *
  generalize oth l m = o at *
  have fw : Fits w := by unfold Fits; omega
  have s2 := c_ring_Same (turn w) w (fits_turn fw) fw
  rw [dec_t (turn_turn hmn)] at s2
  have k4 : decide (((turn w).length : Int) = (l.length : Int)) = true := decide_eq_true (by rw [turn_length]; omega)
  generalize turn w = t2 at *
  generalize turn l = t1 at *
  rw [call_code F (show F 5 = some (.code f5) from rfl)]
  simp only [f5, c_shown, co, co2, l1, s1, l2, hkc, l3, s2, k4, go_sem, reduceIte, reduceCtorEq, Nat.reduceEqDiff, Nat.reduceAdd, Nat.reduceMul, List.length_nil]
end Go.Proofs.Ytimgmeolllcapaa.Sx
