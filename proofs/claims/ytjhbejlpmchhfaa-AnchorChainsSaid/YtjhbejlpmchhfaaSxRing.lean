/- What the functions of rings come to. -/
import Derived.Test.YtjhbejlpmchhfaaSxIdent
namespace Go.Proofs.Ytjhbejlpmchhfaa.Sx
open Go
theorem sub_bound {i n : Nat} (h : i < n) (hn : n ≤ 1000000) : n ≤ 9223372036854775807 := by omega
theorem i_Index_Dart (l : List Dart) (x : Dart) (hl : Fits l) : call F 35 [.sl .shared 3 (rowsBy Dart.c l), .agg [.int .i64 x.e.s, .int .i64 x.e.n, .int .i64 x.d]] = some (.int .i64 (idx l x)) := by
  have hl := hl.le
  have S : ∀ r, E (call F) 0 f35_b1 (⟨(upd (upd (upd (upd Sx.e0 8 (.v (.int .i64 ((l.idxOf x : Int))))) 7 (.v (.int .i64 ((l.length : Int))))) 3 (.p 3 0)) 0 (.v (.sl .shared 3 (rowsBy Dart.c l)))), (upd Sx.h0 3 (some (.var false [(.v (.int .i64 (x.e.s))), (.v (.int .i64 (x.e.n))), (.v (.int .i64 (x.d)))])))⟩ : St) = some r → r.1 ≠ .norm →
      E (call F) 0 f35_l1 (⟨(upd (upd (upd (upd Sx.e0 8 (.v (.int .i64 (0)))) 7 (.v (.int .i64 ((l.length : Int))))) 3 (.p 3 0)) 0 (.v (.sl .shared 3 (rowsBy Dart.c l)))), (upd Sx.h0 3 (some (.var false [(.v (.int .i64 (x.e.s))), (.v (.int .i64 (x.e.n))), (.v (.int .i64 (x.d)))])))⟩ : St) = some r := by
    intro r hf hr
    refine loop_to (b := f35_b1) (fun i => (⟨(upd (upd (upd (upd Sx.e0 8 (.v (.int .i64 ((i : Int))))) 7 (.v (.int .i64 ((l.length : Int))))) 3 (.p 3 0)) 0 (.v (.sl .shared 3 (rowsBy Dart.c l)))), (upd Sx.h0 3 (some (.var false [(.v (.int .i64 (x.e.s))), (.v (.int .i64 (x.e.n))), (.v (.int .i64 (x.d)))])))⟩ : St)) (l.idxOf x) ?_ hf hr
    intro i hi
    have h1 : i < l.length := Nat.lt_of_lt_of_le hi (idxOf_le l x)
    have hne := dec_f (Ne.symm (idxOf_ne hi h1))
    simp only [f35_b1, dec_lt h1, rowsBy_get Dart.c h1, Dart.c, hne, wrap_succ h1 (show l.length ≤ 9223372036854775807 by omega), go_sem, reduceIte, reduceCtorEq, Nat.reduceEqDiff, Nat.reduceAdd, List.length_cons, List.length_nil]
  by_cases hm : x ∈ l
  · obtain ⟨hlt, he⟩ := idxOf_at hm
    have hd := dec_t he.symm
    have := S _ (by simp only [f35_b1, dec_lt hlt, rowsBy_get Dart.c hlt, Dart.c, hd, go_sem, reduceIte, reduceCtorEq, Nat.reduceEqDiff, Nat.reduceAdd, List.length_cons, List.length_nil]; rfl) (by simp)
    rw [idx_pos hm]
    rw [call_code F (show F 35 = some (.code f35) from rfl)]
    simp only [f35, this, go_sem, reduceIte, reduceCtorEq, Nat.reduceEqDiff, Nat.reduceAdd, List.length_cons, List.length_nil, Int.reduceNeg]
  · have e := idxOf_not hm
    have := S _ (by rw [e]
                    simp only [f35_b1, dec_ge (Nat.le_refl l.length), go_sem, reduceIte, reduceCtorEq, Nat.reduceEqDiff]
                    rfl) (by simp)
    rw [idx_neg hm]
    rw [call_code F (show F 35 = some (.code f35) from rfl)]
    simp only [f35, this, go_sem, reduceIte, reduceCtorEq, Nat.reduceEqDiff, Nat.reduceAdd, List.length_cons, List.length_nil, Int.reduceNeg]
theorem c_Index_Dart (l : List Dart) (a b c : Int) (hl : Fits l) : call F 35 [.sl .shared 3 (rowsBy Dart.c l), .agg [.int .i64 a, .int .i64 b, .int .i64 c]] = some (.int .i64 (idx l ⟨⟨a, b⟩, c⟩)) := i_Index_Dart l ⟨⟨a, b⟩, c⟩ hl
theorem i_r03_Index (l : List Dart) (x : Dart) (hl : Fits l) : call F 12 [.sl .shared 3 (rowsBy Dart.c l), .agg [.int .i64 x.e.s, .int .i64 x.e.n, .int .i64 x.d]] = some (.int .i64 (idx l x)) := by
  have hl := hl.le
  have S : ∀ r, E (call F) 0 f12_b1 (⟨(upd (upd (upd Sx.e0 5 (.v (.int .i64 ((l.idxOf x : Int))))) 3 (.p 3 0)) 0 (.v (.sl .shared 3 (rowsBy Dart.c l)))), (upd Sx.h0 3 (some (.var false [(.v (.int .i64 (x.e.s))), (.v (.int .i64 (x.e.n))), (.v (.int .i64 (x.d)))])))⟩ : St) = some r → r.1 ≠ .norm →
      E (call F) 0 f12_l1 (⟨(upd (upd (upd Sx.e0 5 (.v (.int .i64 (0)))) 3 (.p 3 0)) 0 (.v (.sl .shared 3 (rowsBy Dart.c l)))), (upd Sx.h0 3 (some (.var false [(.v (.int .i64 (x.e.s))), (.v (.int .i64 (x.e.n))), (.v (.int .i64 (x.d)))])))⟩ : St) = some r := by
    intro r hf hr
    refine loop_to (b := f12_b1) (fun i => (⟨(upd (upd (upd Sx.e0 5 (.v (.int .i64 ((i : Int))))) 3 (.p 3 0)) 0 (.v (.sl .shared 3 (rowsBy Dart.c l)))), (upd Sx.h0 3 (some (.var false [(.v (.int .i64 (x.e.s))), (.v (.int .i64 (x.e.n))), (.v (.int .i64 (x.d)))])))⟩ : St)) (l.idxOf x) ?_ hf hr
    intro i hi
    have h1 : i < l.length := Nat.lt_of_lt_of_le hi (idxOf_le l x)
    have hne := dec_f (idxOf_ne hi h1)
    simp only [f12_b1, dec_lt h1, rowsBy_get Dart.c h1, Dart.c, hne, wrap_succ h1 (show l.length ≤ 9223372036854775807 by omega), go_sem, reduceIte, reduceCtorEq, Nat.reduceEqDiff, Nat.reduceAdd, List.length_cons, List.length_nil]
  by_cases hm : x ∈ l
  · obtain ⟨hlt, he⟩ := idxOf_at hm
    have hd := dec_t he
    have := S _ (by simp only [f12_b1, dec_lt hlt, rowsBy_get Dart.c hlt, Dart.c, hd, go_sem, reduceIte, reduceCtorEq, Nat.reduceEqDiff, Nat.reduceAdd, List.length_cons, List.length_nil]; rfl) (by simp)
    rw [idx_pos hm]
    rw [call_code F (show F 12 = some (.code f12) from rfl)]
    simp only [f12, this, go_sem, reduceIte, reduceCtorEq, Nat.reduceEqDiff, Nat.reduceAdd, List.length_cons, List.length_nil, Int.reduceNeg]
  · have e := idxOf_not hm
    have := S _ (by rw [e]
                    simp only [f12_b1, dec_ge (Nat.le_refl l.length), go_sem, reduceIte, reduceCtorEq, Nat.reduceEqDiff]
                    rfl) (by simp)
    rw [idx_neg hm]
    rw [call_code F (show F 12 = some (.code f12) from rfl)]
    simp only [f12, this, go_sem, reduceIte, reduceCtorEq, Nat.reduceEqDiff, Nat.reduceAdd, List.length_cons, List.length_nil, Int.reduceNeg]
theorem c_r03_Index (l : List Dart) (a b c : Int) (hl : Fits l) : call F 12 [.sl .shared 3 (rowsBy Dart.c l), .agg [.int .i64 a, .int .i64 b, .int .i64 c]] = some (.int .i64 (idx l ⟨⟨a, b⟩, c⟩)) := i_r03_Index l ⟨⟨a, b⟩, c⟩ hl
theorem c_Contains_Dart (l : List Dart) (a b c : Int) (hl : Fits l) : call F 22 [.sl .shared 3 (rowsBy Dart.c l), .agg [.int .i64 a, .int .i64 b, .int .i64 c]] = some (.bool (decide (⟨⟨a, b⟩, c⟩ ∈ l))) := by
  rw [call_code F (show F 22 = some (.code f22) from rfl)]
  simp only [f22, c_Index_Dart l a b c hl, go_sem, reduceIte, reduceCtorEq, Nat.reduceEqDiff, Nat.reduceAdd, Nat.reduceMul, List.length_cons, List.length_nil]
  rw [idx_ge0]
/-- the least dart -/
def minFrom (x : Dart) (l : List Dart) : Dart := l.foldl (fun m y => if ordD y m < 0 then y else m) x
theorem minFrom_snoc (x : Dart) (l : List Dart) (y : Dart) : minFrom x (l ++ [y]) = if ordD y (minFrom x l) < 0 then y else minFrom x l := by unfold minFrom; rw [List.foldl_append]; rfl
def minD : List Dart → Dart
  | [] => Dart0
  | x :: l => minFrom x l
theorem flat_snoc {α : Type} {l : List (List α)} {i : Nat} (hi : i < l.length) : (l.take (i + 1)).flatten = (l.take i).flatten ++ l[i] := by
  rw [List.take_succ_eq_append_getElem hi, List.flatten_append, List.flatten_cons, List.flatten_nil, List.append_nil]
def turn (l : List Dart) : List Dart := l.drop (l.idxOf (minD l)) ++ l.take (l.idxOf (minD l))
theorem minFrom_mem (x : Dart) (l : List Dart) : minFrom x l ∈ x :: l := by
  unfold minFrom
  induction l generalizing x with
  | nil => simp
  | cons y l ih =>
    rw [List.foldl_cons]
    have := ih (if ordD y x < 0 then y else x)
    split at this <;> rename_i h <;> simp only [List.mem_cons] at this ⊢ <;> (simp only [h, if_true, if_false]; rcases this with h | h <;> simp [h])
theorem minD_mem {l : List Dart} (h : l ≠ []) : minD l ∈ l := by
  cases l with
  | nil => exact absurd rfl h
  | cons x l => exact minFrom_mem x l
theorem turn_length (l : List Dart) : (turn l).length = l.length := by
  unfold turn
  simp only [List.length_append, List.length_drop, List.length_take]
  have := idxOf_le l (minD l)
  omega
@[go_sem] theorem fits_turn {l : List Dart} (h : Fits l) : Fits (turn l) := by unfold Fits; rw [turn_length]; exact h
def byD (l : List Dart) (d : Dart) (n : Nat) : Dart := if d ∈ l then l.getD ((l.idxOf d + n) % l.length) Dart0 else Dart0
def nextD (l : List Dart) (d : Dart) : Dart := byD l d 1
def prevD (l : List Dart) (d : Dart) : Dart := byD l d (l.length - 1)
theorem tmod_nat {a b : Nat} : ((a : Int)).tmod (b : Int) = ((a % b : Nat) : Int) := by
  rw [Int.tmod_eq_emod_of_nonneg (by omega)]; omega
def dartT (x : Dart) : TV := .agg [.int .i64 x.e.s, .int .i64 x.e.n, .int .i64 x.d]
theorem first_diff {α : Type} [DecidableEq α] : ∀ (l m : List α), l.length = m.length → l ≠ m → ∃ k, ∃ (h1 : k < l.length) (h2 : k < m.length), (∀ i (h : i < k), l[i] = m[i]) ∧ l[k] ≠ m[k]
  | [], [], _, h => absurd rfl h
  | [], _ :: _, h, _ => by simp at h
  | _ :: _, [], h, _ => by simp at h
  | a :: l, b :: m, hl, hne => by
    by_cases hab : a = b
    · subst hab
      obtain ⟨k, h1, h2, h3, h4⟩ := first_diff l m (by simpa using hl) (fun e => hne (by rw [e]))
      refine ⟨k + 1, by simp; omega, by simp; omega, fun i hi => ?_, by simpa using h4⟩
      cases i with
      | zero => rfl
      | succ i => simpa using h3 i (by omega)
    · exact ⟨0, by simp, by simp, fun i hi => absurd hi (Nat.not_lt_zero _), by simpa using hab⟩
@[go_sem] theorem darts_snoc (l : List Dart) (x : Dart) : rowsBy Dart.c l ++ [[.int .i64 x.e.s, .int .i64 x.e.n, .int .i64 x.d]] = rowsBy Dart.c (l ++ [x]) := rowsBy_snoc Dart.c l x
@[go_sem] theorem darts_one (x : Dart) : [[.int .i64 x.e.s, .int .i64 x.e.n, .int .i64 x.d]] = rowsBy Dart.c [x] := rfl
theorem len_eq {n m : Nat} (h : n = m) : decide (¬ ((n : Int) = (m : Int))) = false := by simp; omega
theorem len_ne {n m : Nat} (h : n ≠ m) : decide (¬ ((n : Int) = (m : Int))) = true := by simp; omega
/-- where a dart goes in -/
def insK (l : List Dart) (a : Dart) : Nat := if a ∈ l then l.idxOf a + 1 else min 1 l.length
theorem insK_le (l : List Dart) (a : Dart) : insK l a ≤ l.length := by
  unfold insK; split
  · rename_i h; have := (idxOf_at h).1; omega
  · omega
def insR (l : List Dart) (a x : Dart) : List Dart := if x ∈ l then turn l else turn (l.take (insK l a) ++ [x] ++ l.drop (insK l a))
def remR (l : List Dart) (x : Dart) : List Dart := turn (l.erase x)
def swapR (l : List Dart) (o x : Dart) : List Dart := if o ∈ l ∧ x ∉ l then turn (l.set (l.idxOf o) x) else turn l
/-- the place of the least dart of the first i -/
def kOf (l : List Dart) : Nat → Nat
  | 0 => 0
  | i + 1 => if ordD (l.getD i Dart0) (l.getD (kOf l i) Dart0) < 0 then i else kOf l i
theorem kOf_lt (l : List Dart) : ∀ i, kOf l i ≤ i - 1
  | 0 => Nat.le_refl _
  | i + 1 => by
    have := kOf_lt l i
    simp only [kOf]
    split <;> omega
theorem ordD_self (x : Dart) : ordD x x = 0 := by unfold ordD; rw [if_pos rfl]
theorem minFrom_le (x : Dart) : ∀ (l : List Dart) (y : Dart), y ∈ x :: l → ordD (minFrom x l) y ≤ 0 := by
  intro l
  induction l generalizing x with
  | nil =>
    intro y hy
    have : y = x := by simpa using hy
    subst this
    unfold minFrom
    simp [ordD_self]
  | cons z l ih =>
    intro y hy
    have e : minFrom x (z :: l) = minFrom (if ordD z x < 0 then z else x) l := rfl
    rw [e]
    have h1 := ih (if ordD z x < 0 then z else x)
    have h2 := h1 (if ordD z x < 0 then z else x) (by simp)
    rcases List.mem_cons.1 hy with rfl | hy
    · by_cases hz : ordD z y < 0
      · rw [if_pos hz] at h2 ⊢
        have a := ordD_cases z y
        have b := ordD_cases (minFrom z l) z
        have c := ordD_cases (minFrom z l) y
        simp only [Dart.ext_iff'] at a b c
        omega
      · rw [if_neg hz] at h2 ⊢
        exact h2
    · rcases List.mem_cons.1 hy with rfl | hy
      · by_cases hz : ordD y x < 0
        · rw [if_pos hz] at h2 ⊢; exact h2
        · rw [if_neg hz] at h2 ⊢
          have a := ordD_cases y x
          have b := ordD_cases (minFrom x l) x
          have c := ordD_cases (minFrom x l) y
          simp only [Dart.ext_iff'] at a b c
          omega
      · exact h1 y (by simp [hy])
theorem minD_le {l : List Dart} {y : Dart} (hy : y ∈ l) : ordD (minD l) y ≤ 0 := by
  cases l with
  | nil => simp at hy
  | cons x l => exact minFrom_le x l y hy
theorem kOf_min (l : List Dart) : ∀ i, i < l.length → l.getD (kOf l (i + 1)) Dart0 = minD (l.take (i + 1)) ∧ (l.take (i + 1)).idxOf (minD (l.take (i + 1))) = kOf l (i + 1)
  | 0, hi => by
    cases l with
    | nil => simp at hi
    | cons x l => simp [kOf, minD, minFrom, ordD_self]
  | i + 1, hi => by
    obtain ⟨h1, h2⟩ := kOf_min l i (by omega)
    have hlt := kOf_lt l (i + 1)
    have ht : l.take (i + 1 + 1) = l.take (i + 1) ++ [l[i + 1]] := by rw [List.take_succ_eq_append_getElem hi]
    have hne : l.take (i + 1) ≠ [] := by
      intro e
      have h3 := congrArg List.length e
      simp only [List.length_take, List.length_nil] at h3
      omega
    have hm : minD (l.take (i + 1 + 1)) = if ordD l[i + 1] (minD (l.take (i + 1))) < 0 then l[i + 1] else minD (l.take (i + 1)) := by
      rw [ht]
      cases hl : l.take (i + 1) with
      | nil => exact absurd hl hne
      | cons x r => exact minFrom_snoc x r _
    have hg : l.getD (i + 1) Dart0 = l[i + 1] := by simp [hi]
    have hk : kOf l (i + 1 + 1) = if ordD l[i + 1] (minD (l.take (i + 1))) < 0 then i + 1 else kOf l (i + 1) := by
      rw [← h1, ← hg]; rfl
    rw [hm, hk]
    split
    · rename_i hlt'
      refine ⟨hg, ?_⟩
      rw [ht]
      have hnot : l[i + 1] ∉ l.take (i + 1) := by
        intro hmem
        have a := minD_le hmem
        have b := ordD_cases l[i + 1] (minD (l.take (i + 1)))
        have c := ordD_cases (minD (l.take (i + 1))) l[i + 1]
        simp only [Dart.ext_iff'] at b c
        omega
      rw [List.idxOf_append, if_neg hnot]
      simp
      omega
    · refine ⟨h1, ?_⟩
      rw [ht, List.idxOf_append, if_pos (minD_mem hne)]
      exact h2
end Go.Proofs.Ytjhbejlpmchhfaa.Sx
