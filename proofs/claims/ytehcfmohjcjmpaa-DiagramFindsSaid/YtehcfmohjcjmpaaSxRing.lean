/- What the functions of rings come to. -/
import Derived.Test.YtehcfmohjcjmpaaSxIdent
namespace Go.Proofs.Ytehcfmohjcjmpaa.Sx
open Go
theorem sub_bound {i n : Nat} (h : i < n) (hn : n ≤ 5864062014634) : n ≤ 9223372036854775807 := by omega
theorem i_Index_Dart (l : List Dart) (x : Dart) (hl : Fits l) : call F 67 [.sl .shared 3 (rowsBy Dart.c l), .agg [.int .i64 x.e.s, .int .i64 x.e.n, .int .i64 x.d]] = some (.int .i64 (idx l x)) := by
  have hl := hl.le
  have S : ∀ r, E (call F) 0 f67_b1 (⟨(upd (upd (upd (upd Sx.e0 8 (.v (.int .i64 ((l.idxOf x : Int))))) 7 (.v (.int .i64 ((l.length : Int))))) 3 (.p 3 0)) 0 (.v (.sl .shared 3 (rowsBy Dart.c l)))), (upd Sx.h0 3 (some (.var false [(.v (.int .i64 (x.e.s))), (.v (.int .i64 (x.e.n))), (.v (.int .i64 (x.d)))])))⟩ : St) = some r → r.1 ≠ .norm →
      E (call F) 0 f67_l1 (⟨(upd (upd (upd (upd Sx.e0 8 (.v (.int .i64 (0)))) 7 (.v (.int .i64 ((l.length : Int))))) 3 (.p 3 0)) 0 (.v (.sl .shared 3 (rowsBy Dart.c l)))), (upd Sx.h0 3 (some (.var false [(.v (.int .i64 (x.e.s))), (.v (.int .i64 (x.e.n))), (.v (.int .i64 (x.d)))])))⟩ : St) = some r := by
    intro r hf hr
    refine loop_to (b := f67_b1) (fun i => (⟨(upd (upd (upd (upd Sx.e0 8 (.v (.int .i64 ((i : Int))))) 7 (.v (.int .i64 ((l.length : Int))))) 3 (.p 3 0)) 0 (.v (.sl .shared 3 (rowsBy Dart.c l)))), (upd Sx.h0 3 (some (.var false [(.v (.int .i64 (x.e.s))), (.v (.int .i64 (x.e.n))), (.v (.int .i64 (x.d)))])))⟩ : St)) (l.idxOf x) ?_ hf hr
    intro i hi
    have h1 : i < l.length := Nat.lt_of_lt_of_le hi (idxOf_le l x)
    have hne := dec_f (Ne.symm (idxOf_ne hi h1))
    simp only [f67_b1, dec_lt h1, rowsBy_get Dart.c h1, Dart.c, hne, wrap_succ h1 (show l.length ≤ 9223372036854775807 by omega), go_sem, reduceIte, reduceCtorEq, Nat.reduceEqDiff, Nat.reduceAdd, List.length_cons, List.length_nil]
  by_cases hm : x ∈ l
  · obtain ⟨hlt, he⟩ := idxOf_at hm
    have hd := dec_t he.symm
    have := S _ (by simp only [f67_b1, dec_lt hlt, rowsBy_get Dart.c hlt, Dart.c, hd, go_sem, reduceIte, reduceCtorEq, Nat.reduceEqDiff, Nat.reduceAdd, List.length_cons, List.length_nil]; rfl) (by simp)
    rw [idx_pos hm]
    rw [call_code F (show F 67 = some (.code f67) from rfl)]
    simp only [f67, this, go_sem, reduceIte, reduceCtorEq, Nat.reduceEqDiff, Nat.reduceAdd, List.length_cons, List.length_nil, Int.reduceNeg]
  · have e := idxOf_not hm
    have := S _ (by rw [e]
                    simp only [f67_b1, dec_ge (Nat.le_refl l.length), go_sem, reduceIte, reduceCtorEq, Nat.reduceEqDiff]
                    rfl) (by simp)
    rw [idx_neg hm]
    rw [call_code F (show F 67 = some (.code f67) from rfl)]
    simp only [f67, this, go_sem, reduceIte, reduceCtorEq, Nat.reduceEqDiff, Nat.reduceAdd, List.length_cons, List.length_nil, Int.reduceNeg]
theorem c_Index_Dart (l : List Dart) (a b c : Int) (hl : Fits l) : call F 67 [.sl .shared 3 (rowsBy Dart.c l), .agg [.int .i64 a, .int .i64 b, .int .i64 c]] = some (.int .i64 (idx l ⟨⟨a, b⟩, c⟩)) := i_Index_Dart l ⟨⟨a, b⟩, c⟩ hl
theorem i_r03_Index (l : List Dart) (x : Dart) (hl : Fits l) : call F 52 [.sl .shared 3 (rowsBy Dart.c l), .agg [.int .i64 x.e.s, .int .i64 x.e.n, .int .i64 x.d]] = some (.int .i64 (idx l x)) := by
  have hl := hl.le
  have S : ∀ r, E (call F) 0 f52_b1 (⟨(upd (upd (upd Sx.e0 5 (.v (.int .i64 ((l.idxOf x : Int))))) 3 (.p 3 0)) 0 (.v (.sl .shared 3 (rowsBy Dart.c l)))), (upd Sx.h0 3 (some (.var false [(.v (.int .i64 (x.e.s))), (.v (.int .i64 (x.e.n))), (.v (.int .i64 (x.d)))])))⟩ : St) = some r → r.1 ≠ .norm →
      E (call F) 0 f52_l1 (⟨(upd (upd (upd Sx.e0 5 (.v (.int .i64 (0)))) 3 (.p 3 0)) 0 (.v (.sl .shared 3 (rowsBy Dart.c l)))), (upd Sx.h0 3 (some (.var false [(.v (.int .i64 (x.e.s))), (.v (.int .i64 (x.e.n))), (.v (.int .i64 (x.d)))])))⟩ : St) = some r := by
    intro r hf hr
    refine loop_to (b := f52_b1) (fun i => (⟨(upd (upd (upd Sx.e0 5 (.v (.int .i64 ((i : Int))))) 3 (.p 3 0)) 0 (.v (.sl .shared 3 (rowsBy Dart.c l)))), (upd Sx.h0 3 (some (.var false [(.v (.int .i64 (x.e.s))), (.v (.int .i64 (x.e.n))), (.v (.int .i64 (x.d)))])))⟩ : St)) (l.idxOf x) ?_ hf hr
    intro i hi
    have h1 : i < l.length := Nat.lt_of_lt_of_le hi (idxOf_le l x)
    have hne := dec_f (idxOf_ne hi h1)
    simp only [f52_b1, dec_lt h1, rowsBy_get Dart.c h1, Dart.c, hne, wrap_succ h1 (show l.length ≤ 9223372036854775807 by omega), go_sem, reduceIte, reduceCtorEq, Nat.reduceEqDiff, Nat.reduceAdd, List.length_cons, List.length_nil]
  by_cases hm : x ∈ l
  · obtain ⟨hlt, he⟩ := idxOf_at hm
    have hd := dec_t he
    have := S _ (by simp only [f52_b1, dec_lt hlt, rowsBy_get Dart.c hlt, Dart.c, hd, go_sem, reduceIte, reduceCtorEq, Nat.reduceEqDiff, Nat.reduceAdd, List.length_cons, List.length_nil]; rfl) (by simp)
    rw [idx_pos hm]
    rw [call_code F (show F 52 = some (.code f52) from rfl)]
    simp only [f52, this, go_sem, reduceIte, reduceCtorEq, Nat.reduceEqDiff, Nat.reduceAdd, List.length_cons, List.length_nil, Int.reduceNeg]
  · have e := idxOf_not hm
    have := S _ (by rw [e]
                    simp only [f52_b1, dec_ge (Nat.le_refl l.length), go_sem, reduceIte, reduceCtorEq, Nat.reduceEqDiff]
                    rfl) (by simp)
    rw [idx_neg hm]
    rw [call_code F (show F 52 = some (.code f52) from rfl)]
    simp only [f52, this, go_sem, reduceIte, reduceCtorEq, Nat.reduceEqDiff, Nat.reduceAdd, List.length_cons, List.length_nil, Int.reduceNeg]
theorem c_r03_Index (l : List Dart) (a b c : Int) (hl : Fits l) : call F 52 [.sl .shared 3 (rowsBy Dart.c l), .agg [.int .i64 a, .int .i64 b, .int .i64 c]] = some (.int .i64 (idx l ⟨⟨a, b⟩, c⟩)) := i_r03_Index l ⟨⟨a, b⟩, c⟩ hl
theorem c_Contains_Dart (l : List Dart) (a b c : Int) (hl : Fits l) : call F 50 [.sl .shared 3 (rowsBy Dart.c l), .agg [.int .i64 a, .int .i64 b, .int .i64 c]] = some (.bool (decide (⟨⟨a, b⟩, c⟩ ∈ l))) := by
  rw [call_code F (show F 50 = some (.code f50) from rfl)]
  simp only [f50, c_Index_Dart l a b c hl, go_sem, reduceIte, reduceCtorEq, Nat.reduceEqDiff, Nat.reduceAdd, Nat.reduceMul, List.length_cons, List.length_nil]
  rw [idx_ge0]
/-- the least dart -/
def minFrom (x : Dart) (l : List Dart) : Dart := l.foldl (fun m y => if ordD y m < 0 then y else m) x
theorem minFrom_snoc (x : Dart) (l : List Dart) (y : Dart) : minFrom x (l ++ [y]) = if ordD y (minFrom x l) < 0 then y else minFrom x l := by unfold minFrom; rw [List.foldl_append]; rfl
def minD : List Dart → Dart
  | [] => Dart0
  | x :: l => minFrom x l
theorem c_MinFunc (x : Dart) (l : List Dart) (hl : Fits (x :: l)) : call F 71 [.sl .shared 3 (rowsBy Dart.c (x :: l)), .fn 72 []] = some (.agg [.int .i64 (minD (x :: l)).e.s, .int .i64 (minD (x :: l)).e.n, .int .i64 (minD (x :: l)).d]) := by
  have hl := hl.le
  simp only [List.length_cons] at hl
  have h0 : decide (((l.length + 1 : Nat) : Int) < 1) = false := by simp; omega
  have lp : E (call F) 0 f71_l1 (⟨(upd (upd (upd (upd (upd Sx.e0 6 (.v (.int .i64 (1)))) 5 (.p 5 0)) 4 (.p 4 0)) 1 (.v (.fn 72 []))) 0 (.v (.sl .shared 3 (rowsBy Dart.c (x :: l))))), (upd (upd Sx.h0 5 (some (.var false [(.v (.int .i64 (x.e.s))), (.v (.int .i64 (x.e.n))), (.v (.int .i64 (x.d)))]))) 4 (some (.var false [(.v (.int .i64 (0))), (.v (.int .i64 (0))), (.v (.int .i64 (0)))])))⟩ : St) =
      some (.exit 0, (⟨(upd (upd Sx.e0 5 (.p 5 0)) 4 (.p 4 0)), (upd (upd Sx.h0 5 (some (.var false [(.v (.int .i64 ((minD (x :: l)).e.s))), (.v (.int .i64 ((minD (x :: l)).e.n))), (.v (.int .i64 ((minD (x :: l)).d)))]))) 4 (some (.var false [(.v (.int .i64 (0))), (.v (.int .i64 (0))), (.v (.int .i64 (0)))])))⟩ : St)) := by
    refine loop_to (b := f71_b1) (fun i => (⟨(upd (upd (upd (upd (upd Sx.e0 6 (.v (.int .i64 (((i + 1 : Nat) : Int))))) 5 (.p 5 0)) 4 (.p 4 0)) 1 (.v (.fn 72 []))) 0 (.v (.sl .shared 3 (rowsBy Dart.c (x :: l))))), (upd (upd Sx.h0 5 (some (.var false [(.v (.int .i64 ((minFrom x (l.take i)).e.s))), (.v (.int .i64 ((minFrom x (l.take i)).e.n))), (.v (.int .i64 ((minFrom x (l.take i)).d)))]))) 4 (some (.var false [(.v (.int .i64 (0))), (.v (.int .i64 (0))), (.v (.int .i64 (0)))])))⟩ : St)) l.length ?_ ?_ (by simp)
    · intro i hi
      have h1 : i + 1 < (x :: l).length := by simp; omega
      have hd : decide (((i + 1 : Nat) : Int) < ((l.length + 1 : Nat) : Int)) = true := by simp; omega
      have hg := rowsBy_get Dart.c hi
      have hw : IntKind.i64.wrap (((i + 1 : Nat) : Int) + 1) = ((i + 1 + 1 : Nat) : Int) := by rw [wrap64 (by omega) (by omega)]; omega
      have hs : minFrom x (l.take (i + 1)) = if ordD l[i] (minFrom x (l.take i)) < 0 then l[i] else minFrom x (l.take i) := by rw [List.take_succ_eq_append_getElem hi, minFrom_snoc]
      rw [hs]
      cases hc : decide (ordD l[i] (minFrom x (l.take i)) < 0) with
      | true =>
        have hc' := of_decide_eq_true hc
        rw [if_pos hc']
        simp only [f71_b1, rowsBy, hd, hg, Dart.c, hw, c_ident_OrderDart, hc, go_sem, reduceIte, reduceCtorEq, Nat.reduceEqDiff, Nat.reduceAdd, Nat.reduceMul, List.length_cons, List.length_nil]
      | false =>
        have hc' := of_decide_eq_false hc
        rw [if_neg hc']
        simp only [f71_b1, rowsBy, hd, hg, Dart.c, hw, c_ident_OrderDart, hc, go_sem, reduceIte, reduceCtorEq, Nat.reduceEqDiff, Nat.reduceAdd, Nat.reduceMul, List.length_cons, List.length_nil]
    · have hd : decide (((l.length + 1 : Nat) : Int) < ((l.length + 1 : Nat) : Int)) = false := by simp
      simp only [f71_b1, rowsBy, hd, minD, go_sem, reduceIte, reduceCtorEq, Nat.reduceEqDiff, List.length_cons]
  simp only [rowsBy, Dart.c] at lp
  rw [call_code F (show F 71 = some (.code f71) from rfl)]
  simp only [f71, rowsBy, Dart.c, h0, lp, go_sem, reduceIte, reduceCtorEq, Nat.reduceEqDiff, Nat.reduceAdd, List.length_cons, List.length_nil, Int.reduceToNat]
theorem c_Grow_Dart (n : Int) (hn : 0 ≤ n) (h1 : n ≤ 5864062014634) : call F 77 [.sl (.tight 45) 3 [], .int .i64 n] = some (.sl (.own 45) 3 []) := by
  have k0 : IntKind.i64.wrap 0 = 0 := rfl
  have k1 : decide (n < 0) = false := by simp; omega
  have k2 : IntKind.i64.wrap (n - 0) = n := by rw [Int.sub_zero]; exact wrap64 (by omega) (by omega)
  have k3 : n * 24 ≤ 140737488355328 := by omega
  cases hp : decide (n > 0)
  · rw [call_code F (show F 77 = some (.code f77) from rfl)]
    simp only [f77, k0, k1, k2, hp, go_sem, reduceIte, reduceCtorEq, Nat.reduceEqDiff, Nat.reduceAdd, List.length_cons, List.length_nil, Int.reduceSub, Int.reduceToNat, Int.cast_ofNat_Int]
  · rw [call_code F (show F 77 = some (.code f77) from rfl)]
    simp only [f77, k0, k1, k2, k3, hn, hp, go_sem, reduceIte, reduceCtorEq, Nat.reduceEqDiff, Nat.reduceAdd, List.length_cons, List.length_nil, Int.reduceSub, Int.reduceToNat, Int.cast_ofNat_Int]
theorem flat_snoc {α : Type} {l : List (List α)} {i : Nat} (hi : i < l.length) : (l.take (i + 1)).flatten = (l.take i).flatten ++ l[i] := by
  rw [List.take_succ_eq_append_getElem hi, List.flatten_append, List.flatten_cons, List.flatten_nil, List.append_nil]
theorem c_Concat_Dart (l : List (List Dart)) (hl : Fits l.flatten) (hp : Fits l) : call F 73 [.sl .shared 1 (rowsBy (fun p => [TV.sl .shared 3 (rowsBy Dart.c p)]) l)] = some (.sl (.own 45) 3 (rowsBy Dart.c l.flatten)) := by
  have hl := hl.le
  have hp := hp.le
  have l1 : E (call F) 0 f73_l1 (⟨(upd (upd (upd (upd (upd Sx.e0 11 (.v (.int .i64 (0)))) 10 (.v (.int .i64 ((l.length : Int))))) 9 (.v (.sl .shared 1 (rowsBy (fun p => [.sl .shared 3 (rowsBy Dart.c p)]) l)))) 3 (.v (.int .i64 (0)))) 0 (.v (.sl .shared 1 (rowsBy (fun p => [.sl .shared 3 (rowsBy Dart.c p)]) l)))), Sx.h0⟩ : St) =
      some (.exit 0, (⟨(upd (upd Sx.e0 3 (.v (.int .i64 ((l.flatten.length : Int))))) 0 (.v (.sl .shared 1 (rowsBy (fun p => [.sl .shared 3 (rowsBy Dart.c p)]) l)))), Sx.h0⟩ : St)) := by
    refine loop_to (b := f73_b1) (fun i => (⟨(upd (upd (upd (upd (upd Sx.e0 11 (.v (.int .i64 ((i : Int))))) 10 (.v (.int .i64 ((l.length : Int))))) 9 (.v (.sl .shared 1 (rowsBy (fun p => [.sl .shared 3 (rowsBy Dart.c p)]) l)))) 3 (.v (.int .i64 (((l.take i).flatten.length : Int))))) 0 (.v (.sl .shared 1 (rowsBy (fun p => [.sl .shared 3 (rowsBy Dart.c p)]) l)))), Sx.h0⟩ : St)) l.length ?_ ?_ (by simp)
    · intro i hi
      have hs : (l.take (i + 1)).flatten.length = (l.take i).flatten.length + l[i].length := by rw [flat_snoc hi, List.length_append]
      have hb : (l.take (i + 1)).flatten.length ≤ l.flatten.length := by
        have e := congrArg (fun x => x.flatten.length) (List.take_append_drop (i + 1) l)
        simp only [List.flatten_append, List.length_append] at e
        omega
      have hw : IntKind.i64.wrap (((l.take i).flatten.length : Int) + (l[i].length : Int)) = ((l.take (i + 1)).flatten.length : Int) := by rw [wrap64 (by omega) (by omega)]; omega
      have hn : decide (((l.take (i + 1)).flatten.length : Int) < 0) = false := by simp
      simp only [f73_b1, dec_lt hi, rowsBy_get (fun p => [TV.sl .shared 3 (rowsBy Dart.c p)]) hi, hw, hn, wrap_succ hi (show l.length ≤ 9223372036854775807 by omega), go_sem, reduceIte, reduceCtorEq, Nat.reduceEqDiff, List.length_cons, List.length_nil]
    · simp only [f73_b1, dec_ge (Nat.le_refl l.length), go_sem, reduceIte, reduceCtorEq, Nat.reduceEqDiff]
  have gr := c_Grow_Dart (l.flatten.length : Int) (by omega) (by omega)
  have l2 : E (call F) 0 f73_l2 (⟨(upd (upd (upd (upd Sx.e0 27 (.v (.int .i64 (0)))) 26 (.v (.int .i64 ((l.length : Int))))) 25 (.v (.sl .shared 1 (rowsBy (fun p => [.sl .shared 3 (rowsBy Dart.c p)]) l)))) 6 (.s 6 0 0)), (upd Sx.h0 6 (some (.arr false 45 3 [])))⟩ : St) =
      some (.exit 2, (⟨(upd Sx.e0 6 (.s 6 0 l.flatten.length)), (upd Sx.h0 6 (some (.arr false 45 3 (rowsBy Dart.c l.flatten))))⟩ : St)) := by
    refine loop_to (b := f73_b2) (fun i => (⟨(upd (upd (upd (upd Sx.e0 27 (.v (.int .i64 ((i : Int))))) 26 (.v (.int .i64 ((l.length : Int))))) 25 (.v (.sl .shared 1 (rowsBy (fun p => [.sl .shared 3 (rowsBy Dart.c p)]) l)))) 6 (.s 6 0 (l.take i).flatten.length)), (upd Sx.h0 6 (some (.arr false 45 3 (rowsBy Dart.c (l.take i).flatten))))⟩ : St)) l.length ?_ ?_ (by simp)
    · intro i hi
      have hs := flat_snoc hi
      have hb : (l.take (i + 1)).flatten.length ≤ l.flatten.length := by
        have e := congrArg (fun x => x.flatten.length) (List.take_append_drop (i + 1) l)
        simp only [List.flatten_append, List.length_append] at e
        omega
      have hln : (l.take (i + 1)).flatten.length = (l.take i).flatten.length + l[i].length := by rw [hs, List.length_append]
      have hby : ((l.take i).flatten.length + l[i].length) * 24 ≤ 140737488355328 := by omega
      rw [hln, hs]
      simp only [f73_b2, dec_lt hi, rowsBy_get (fun p => [TV.sl .shared 3 (rowsBy Dart.c p)]) hi, hby, wrap_succ hi (show l.length ≤ 9223372036854775807 by omega), go_sem, reduceIte, Nat.reduceEqDiff, List.length_cons, List.length_nil]
    · simp only [f73_b2, dec_ge (Nat.le_refl l.length), go_sem, reduceIte, Nat.reduceEqDiff]
  rw [call_code F (show F 73 = some (.code f73) from rfl)]
  simp only [f73, l1, gr, l2, go_sem, reduceIte, reduceCtorEq, Nat.reduceEqDiff, Nat.reduceAdd, Nat.reduceMul, List.length_nil]
theorem c_Concat2 (p q : List Dart) (h : Fits (p ++ q)) : call F 73 [.sl .shared 1 [[.sl .shared 3 (rowsBy Dart.c p)], [.sl .shared 3 (rowsBy Dart.c q)]]] = some (.sl (.own 45) 3 (rowsBy Dart.c (p ++ q))) := by
  have := c_Concat_Dart [p, q] (by simpa using h) (by unfold Fits; simp)
  simpa [rowsBy] using this
theorem c_Concat3 (p q r : List Dart) (h : Fits (p ++ q ++ r)) : call F 73 [.sl .shared 1 [[.sl .shared 3 (rowsBy Dart.c p)], [.sl .shared 3 (rowsBy Dart.c q)], [.sl .shared 3 (rowsBy Dart.c r)]]] = some (.sl (.own 45) 3 (rowsBy Dart.c (p ++ q ++ r))) := by
  have := c_Concat_Dart [p, q, r] (by simpa using h) (by unfold Fits; simp)
  simpa [rowsBy] using this
def turn (l : List Dart) : List Dart := l.drop (l.idxOf (minD l)) ++ l.take (l.idxOf (minD l))
theorem minFrom_mem (x : Dart) (l : List Dart) : minFrom x l ∈ x :: l := by
  unfold minFrom
  induction l generalizing x with
  | nil => simp
  | cons y l ih =>
    rw [List.foldl_cons]
    have := ih (if ordD y x < 0 then y else x)
    split at this <;> rename_i h <;> simp only [List.mem_cons] at this ⊢ <;> (simp only [h, if_true, if_false]; rcases this with h | h <;> simp [h])
theorem minD_mem {l : List Dart} (h : l ≠ []) : minD l ∈ l := by
  cases l with
  | nil => exact absurd rfl h
  | cons x l => exact minFrom_mem x l
theorem turn_length (l : List Dart) : (turn l).length = l.length := by
  unfold turn
  simp only [List.length_append, List.length_drop, List.length_take]
  have := idxOf_le l (minD l)
  omega
@[go_sem] theorem fits_turn {l : List Dart} (h : Fits l) : Fits (turn l) := by unfold Fits; rw [turn_length]; exact h
theorem c_ring_Turn (l : List Dart) (hl : Fits l) : call F 60 [.sl .shared 3 (rowsBy Dart.c l)] = some (.sl (.own 45) 3 (rowsBy Dart.c (turn l))) := by
  cases l with
  | nil =>
    rw [call_code F (show F 60 = some (.code f60) from rfl)]
    simp only [f60, turn, rowsBy, go_sem, reduceIte, reduceCtorEq, Nat.reduceEqDiff, List.length_nil, Int.cast_ofNat_Int]
  | cons x l =>
    have h1 : decide (((l.length + 1 : Nat) : Int) = 0) = false := by simp; omega
    have mf := c_MinFunc x l hl
    have hm : minD (x :: l) ∈ x :: l := minD_mem (by simp)
    have ix := i_Index_Dart (x :: l) (minD (x :: l)) hl
    rw [idx_pos hm] at ix
    have hlt := List.idxOf_lt_length_iff.2 hm
    have hle : ((List.idxOf (minD (x :: l)) (x :: l) : Nat) : Int) ≤ (((x :: l).length : Nat) : Int) := by omega
    have cc := c_Concat2 ((x :: l).drop ((x :: l).idxOf (minD (x :: l)))) ((x :: l).take ((x :: l).idxOf (minD (x :: l)))) (by unfold Fits; have := hl.le; simp only [List.length_append, List.length_drop, List.length_take]; omega)
    generalize hL : x :: l = L at *
    have hlen : l.length + 1 = L.length := by rw [← hL]; rfl
    rw [hlen] at h1
    rw [call_code F (show F 60 = some (.code f60) from rfl)]
    simp only [f60, h1, mf, ix, hle, cc, go_sem, reduceIte, reduceCtorEq, Nat.reduceEqDiff, Nat.reduceAdd, Nat.reduceMul, Nat.reduceLeDiff, Nat.reduceBEq, List.length_cons, List.length_nil, Nat.testBit, Nat.reduceShiftRight, Nat.reduceAnd, Nat.reduceBNe]
    rfl
def byD (l : List Dart) (d : Dart) (n : Nat) : Dart := if d ∈ l then l.getD ((l.idxOf d + n) % l.length) Dart0 else Dart0
def nextD (l : List Dart) (d : Dart) : Dart := byD l d 1
def prevD (l : List Dart) (d : Dart) : Dart := byD l d (l.length - 1)
theorem tmod_nat {a b : Nat} : ((a : Int)).tmod (b : Int) = ((a % b : Nat) : Int) := by
  rw [Int.tmod_eq_emod_of_nonneg (by omega)]; omega
def dartT (x : Dart) : TV := .agg [.int .i64 x.e.s, .int .i64 x.e.n, .int .i64 x.d]
theorem first_diff {α : Type} [DecidableEq α] : ∀ (l m : List α), l.length = m.length → l ≠ m → ∃ k, ∃ (h1 : k < l.length) (h2 : k < m.length), (∀ i (h : i < k), l[i] = m[i]) ∧ l[k] ≠ m[k]
  | [], [], _, h => absurd rfl h
  | [], _ :: _, h, _ => by simp at h
  | _ :: _, [], h, _ => by simp at h
  | a :: l, b :: m, hl, hne => by
    by_cases hab : a = b
    · subst hab
      obtain ⟨k, h1, h2, h3, h4⟩ := first_diff l m (by simpa using hl) (fun e => hne (by rw [e]))
      refine ⟨k + 1, by simp; omega, by simp; omega, fun i hi => ?_, by simpa using h4⟩
      cases i with
      | zero => rfl
      | succ i => simpa using h3 i (by omega)
    · exact ⟨0, by simp, by simp, fun i hi => absurd hi (Nat.not_lt_zero _), by simpa using hab⟩
@[go_sem] theorem darts_snoc (l : List Dart) (x : Dart) : rowsBy Dart.c l ++ [[.int .i64 x.e.s, .int .i64 x.e.n, .int .i64 x.d]] = rowsBy Dart.c (l ++ [x]) := rowsBy_snoc Dart.c l x
@[go_sem] theorem darts_one (x : Dart) : [[.int .i64 x.e.s, .int .i64 x.e.n, .int .i64 x.d]] = rowsBy Dart.c [x] := rfl
theorem len_eq {n m : Nat} (h : n = m) : decide (¬ ((n : Int) = (m : Int))) = false := by simp; omega
theorem len_ne {n m : Nat} (h : n ≠ m) : decide (¬ ((n : Int) = (m : Int))) = true := by simp; omega
theorem c_Equal_Dart (l m : List Dart) (hl : Fits l) : call F 54 [.sl .shared 3 (rowsBy Dart.c l), .sl .shared 3 (rowsBy Dart.c m)] = some (.bool (decide (l = m))) := by
  have hl := hl.le
  by_cases hlen : l.length = m.length
  · have he := len_eq hlen
    have S : ∀ (k : Nat) (hk : k ≤ l.length) (r : Ex × St), (∀ i (h : i < k) (h1 : i < l.length) (h2 : i < m.length), l[i] = m[i]) →
        E (call F) 0 f54_b1 (⟨(upd (upd (upd (upd Sx.e0 13 (.v (.int .i64 ((k : Int))))) 12 (.v (.int .i64 ((l.length : Int))))) 1 (.v (.sl .shared 3 (rowsBy Dart.c m)))) 0 (.v (.sl .shared 3 (rowsBy Dart.c l)))), Sx.h0⟩ : St) = some r → r.1 ≠ .norm →
        E (call F) 0 f54_l1 (⟨(upd (upd (upd (upd Sx.e0 13 (.v (.int .i64 (0)))) 12 (.v (.int .i64 ((l.length : Int))))) 1 (.v (.sl .shared 3 (rowsBy Dart.c m)))) 0 (.v (.sl .shared 3 (rowsBy Dart.c l)))), Sx.h0⟩ : St) = some r := by
      intro k hk r hsame hf hr
      refine loop_to (b := f54_b1) (fun i => (⟨(upd (upd (upd (upd Sx.e0 13 (.v (.int .i64 ((i : Int))))) 12 (.v (.int .i64 ((l.length : Int))))) 1 (.v (.sl .shared 3 (rowsBy Dart.c m)))) 0 (.v (.sl .shared 3 (rowsBy Dart.c l)))), Sx.h0⟩ : St)) k ?_ hf hr
      intro i hi
      have h1 : i < l.length := by omega
      have h2 : i < m.length := by omega
      have hd := dec_t (hsame i hi h1 h2)
      simp only [f54_b1, dec_lt h1, rowsBy_get Dart.c h1, rowsBy_get Dart.c h2, Dart.c, hd, wrap_succ h1 (show l.length ≤ 9223372036854775807 by omega), go_sem, reduceIte, reduceCtorEq, Nat.reduceEqDiff, Nat.reduceAdd, List.length_cons, List.length_nil]
    by_cases hlm : l = m
    · have := S l.length (Nat.le_refl _) _ (fun i _ h1 h2 => by subst hlm; rfl) (by simp only [f54_b1, dec_ge (Nat.le_refl l.length), go_sem, reduceIte, reduceCtorEq, Nat.reduceEqDiff]; rfl) (by simp)
      rw [dec_t hlm]
      rw [call_code F (show F 54 = some (.code f54) from rfl)]
      simp only [f54, he, this, go_sem, reduceIte, reduceCtorEq, Nat.reduceEqDiff, Nat.reduceAdd, ne_eq]
    · obtain ⟨k, h1, h2, h3, h4⟩ := first_diff l m hlen hlm
      have hd := dec_f h4
      have := S k (by omega) _ (fun i hi _ _ => h3 i hi) (by simp only [f54_b1, dec_lt h1, rowsBy_get Dart.c h1, rowsBy_get Dart.c h2, Dart.c, hd, go_sem, reduceIte, reduceCtorEq, Nat.reduceEqDiff, Nat.reduceAdd, List.length_cons, List.length_nil]; rfl) (by simp)
      rw [dec_f hlm]
      rw [call_code F (show F 54 = some (.code f54) from rfl)]
      simp only [f54, he, this, go_sem, reduceIte, reduceCtorEq, Nat.reduceEqDiff, Nat.reduceAdd, ne_eq]
  · have hlm : l ≠ m := fun e => hlen (by rw [e])
    have he := len_ne hlen
    rw [dec_f hlm]
    rw [call_code F (show F 54 = some (.code f54) from rfl)]
    simp only [f54, he, go_sem, reduceIte, reduceCtorEq, Nat.reduceEqDiff, Nat.reduceAdd, ne_eq]
theorem c_r03_Darts (l m : List Dart) (hl : Fits l) : call F 49 [.sl .shared 3 (rowsBy Dart.c l), .sl .shared 3 (rowsBy Dart.c m)] = some (.bool (decide (l = m))) := by
  have hl := hl.le
  by_cases hlen : l.length = m.length
  · have he := len_eq hlen
    have S : ∀ (k : Nat) (hk : k ≤ l.length) (r : Ex × St), (∀ i (h : i < k) (h1 : i < l.length) (h2 : i < m.length), l[i] = m[i]) →
        E (call F) 0 f49_b1 (⟨(upd (upd (upd Sx.e0 5 (.v (.int .i64 ((k : Int))))) 1 (.v (.sl .shared 3 (rowsBy Dart.c m)))) 0 (.v (.sl .shared 3 (rowsBy Dart.c l)))), Sx.h0⟩ : St) = some r → r.1 ≠ .norm →
        E (call F) 0 f49_l1 (⟨(upd (upd (upd Sx.e0 5 (.v (.int .i64 (0)))) 1 (.v (.sl .shared 3 (rowsBy Dart.c m)))) 0 (.v (.sl .shared 3 (rowsBy Dart.c l)))), Sx.h0⟩ : St) = some r := by
      intro k hk r hsame hf hr
      refine loop_to (b := f49_b1) (fun i => (⟨(upd (upd (upd Sx.e0 5 (.v (.int .i64 ((i : Int))))) 1 (.v (.sl .shared 3 (rowsBy Dart.c m)))) 0 (.v (.sl .shared 3 (rowsBy Dart.c l)))), Sx.h0⟩ : St)) k ?_ hf hr
      intro i hi
      have h1 : i < l.length := by omega
      have h2 : i < m.length := by omega
      have hd := dec_t (hsame i hi h1 h2)
      simp only [f49_b1, dec_lt h1, rowsBy_get Dart.c h1, rowsBy_get Dart.c h2, Dart.c, hd, wrap_succ h1 (show l.length ≤ 9223372036854775807 by omega), go_sem, reduceIte, reduceCtorEq, Nat.reduceEqDiff, Nat.reduceAdd, List.length_cons, List.length_nil]
    by_cases hlm : l = m
    · have := S l.length (Nat.le_refl _) _ (fun i _ h1 h2 => by subst hlm; rfl) (by simp only [f49_b1, dec_ge (Nat.le_refl l.length), go_sem, reduceIte, reduceCtorEq, Nat.reduceEqDiff]; rfl) (by simp)
      rw [dec_t hlm]
      rw [call_code F (show F 49 = some (.code f49) from rfl)]
      simp only [f49, he, this, go_sem, reduceIte, reduceCtorEq, Nat.reduceEqDiff, Nat.reduceAdd, ne_eq]
    · obtain ⟨k, h1, h2, h3, h4⟩ := first_diff l m hlen hlm
      have hd := dec_f h4
      have := S k (by omega) _ (fun i hi _ _ => h3 i hi) (by simp only [f49_b1, dec_lt h1, rowsBy_get Dart.c h1, rowsBy_get Dart.c h2, Dart.c, hd, go_sem, reduceIte, reduceCtorEq, Nat.reduceEqDiff, Nat.reduceAdd, List.length_cons, List.length_nil]; rfl) (by simp)
      rw [dec_f hlm]
      rw [call_code F (show F 49 = some (.code f49) from rfl)]
      simp only [f49, he, this, go_sem, reduceIte, reduceCtorEq, Nat.reduceEqDiff, Nat.reduceAdd, ne_eq]
  · have hlm : l ≠ m := fun e => hlen (by rw [e])
    have he := len_ne hlen
    rw [dec_f hlm]
    rw [call_code F (show F 49 = some (.code f49) from rfl)]
    simp only [f49, he, go_sem, reduceIte, reduceCtorEq, Nat.reduceEqDiff, Nat.reduceAdd, ne_eq]
/-- where a dart goes in -/
def insK (l : List Dart) (a : Dart) : Nat := if a ∈ l then l.idxOf a + 1 else min 1 l.length
theorem insK_le (l : List Dart) (a : Dart) : insK l a ≤ l.length := by
  unfold insK; split
  · rename_i h; have := (idxOf_at h).1; omega
  · omega
def insR (l : List Dart) (a x : Dart) : List Dart := if x ∈ l then turn l else turn (l.take (insK l a) ++ [x] ++ l.drop (insK l a))
def remR (l : List Dart) (x : Dart) : List Dart := turn (l.erase x)
def swapR (l : List Dart) (o x : Dart) : List Dart := if o ∈ l ∧ x ∉ l then turn (l.set (l.idxOf o) x) else turn l
/-- the place of the least dart of the first i -/
def kOf (l : List Dart) : Nat → Nat
  | 0 => 0
  | i + 1 => if ordD (l.getD i Dart0) (l.getD (kOf l i) Dart0) < 0 then i else kOf l i
theorem kOf_lt (l : List Dart) : ∀ i, kOf l i ≤ i - 1
  | 0 => Nat.le_refl _
  | i + 1 => by
    have := kOf_lt l i
    simp only [kOf]
    split <;> omega
theorem ordD_self (x : Dart) : ordD x x = 0 := by unfold ordD; rw [if_pos rfl]
theorem minFrom_le (x : Dart) : ∀ (l : List Dart) (y : Dart), y ∈ x :: l → ordD (minFrom x l) y ≤ 0 := by
  intro l
  induction l generalizing x with
  | nil =>
    intro y hy
    have : y = x := by simpa using hy
    subst this
    unfold minFrom
    simp [ordD_self]
  | cons z l ih =>
    intro y hy
    have e : minFrom x (z :: l) = minFrom (if ordD z x < 0 then z else x) l := rfl
    rw [e]
    have h1 := ih (if ordD z x < 0 then z else x)
    have h2 := h1 (if ordD z x < 0 then z else x) (by simp)
    rcases List.mem_cons.1 hy with rfl | hy
    · by_cases hz : ordD z y < 0
      · rw [if_pos hz] at h2 ⊢
        have a := ordD_cases z y
        have b := ordD_cases (minFrom z l) z
        have c := ordD_cases (minFrom z l) y
        simp only [Dart.ext_iff'] at a b c
        omega
      · rw [if_neg hz] at h2 ⊢
        exact h2
    · rcases List.mem_cons.1 hy with rfl | hy
      · by_cases hz : ordD y x < 0
        · rw [if_pos hz] at h2 ⊢; exact h2
        · rw [if_neg hz] at h2 ⊢
          have a := ordD_cases y x
          have b := ordD_cases (minFrom x l) x
          have c := ordD_cases (minFrom x l) y
          simp only [Dart.ext_iff'] at a b c
          omega
      · exact h1 y (by simp [hy])
theorem minD_le {l : List Dart} {y : Dart} (hy : y ∈ l) : ordD (minD l) y ≤ 0 := by
  cases l with
  | nil => simp at hy
  | cons x l => exact minFrom_le x l y hy
theorem kOf_min (l : List Dart) : ∀ i, i < l.length → l.getD (kOf l (i + 1)) Dart0 = minD (l.take (i + 1)) ∧ (l.take (i + 1)).idxOf (minD (l.take (i + 1))) = kOf l (i + 1)
  | 0, hi => by
    cases l with
    | nil => simp at hi
    | cons x l => simp [kOf, minD, minFrom, ordD_self]
  | i + 1, hi => by
    obtain ⟨h1, h2⟩ := kOf_min l i (by omega)
    have hlt := kOf_lt l (i + 1)
    have ht : l.take (i + 1 + 1) = l.take (i + 1) ++ [l[i + 1]] := by rw [List.take_succ_eq_append_getElem hi]
    have hne : l.take (i + 1) ≠ [] := by
      intro e
      have h3 := congrArg List.length e
      simp only [List.length_take, List.length_nil] at h3
      omega
    have hm : minD (l.take (i + 1 + 1)) = if ordD l[i + 1] (minD (l.take (i + 1))) < 0 then l[i + 1] else minD (l.take (i + 1)) := by
      rw [ht]
      cases hl : l.take (i + 1) with
      | nil => exact absurd hl hne
      | cons x r => exact minFrom_snoc x r _
    have hg : l.getD (i + 1) Dart0 = l[i + 1] := by simp [hi]
    have hk : kOf l (i + 1 + 1) = if ordD l[i + 1] (minD (l.take (i + 1))) < 0 then i + 1 else kOf l (i + 1) := by
      rw [← h1, ← hg]; rfl
    rw [hm, hk]
    split
    · rename_i hlt'
      refine ⟨hg, ?_⟩
      rw [ht]
      have hnot : l[i + 1] ∉ l.take (i + 1) := by
        intro hmem
        have a := minD_le hmem
        have b := ordD_cases l[i + 1] (minD (l.take (i + 1)))
        have c := ordD_cases (minD (l.take (i + 1))) l[i + 1]
        simp only [Dart.ext_iff'] at b c
        omega
      rw [List.idxOf_append, if_neg hnot]
      simp
      omega
    · refine ⟨h1, ?_⟩
      rw [ht, List.idxOf_append, if_pos (minD_mem hne)]
      exact h2
end Go.Proofs.Ytehcfmohjcjmpaa.Sx
