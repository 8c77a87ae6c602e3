/- The law of bytes. -/
import Derived.Test.YtnflcbacobhoiaaSxT
namespace Go.Proofs.Ytnflcbacobhoiaa.Sx
open Go
def putB (a b : Int) : List UInt8 := [u8 a, u8 (b.fdiv 65536), u8 (b.fdiv 256), u8 b]
theorem putRows_eq (a b : Int) : putRows a b = rowsBy cByte (putB a b) := by
  simp only [putRows, putB, rowsBy, u8_row]
  rfl
theorem t15b (l : List UInt8) (hl : l.length ≤ 1000) (fl : Fl) (a b : Int) : call F 15 [.sl fl 1 (rowsBy cByte l), .agg [.int .i64 a, .int .i64 b]] = some (.sl (.own 5) 1 (rowsBy cByte (l ++ putB a b))) := by
  rw [t15 _ (by rw [rowsBy_length]; exact hl), putRows_eq, rowsBy_append]
theorem putRowsR_eq {a b : Int} (h : mayB a b = true) : putRowsR a b = rowsBy cByte (putB a b) := by
  simp only [mayB, decide_eq_true_eq] at h
  simp only [putRowsR, putB, rowsBy, u8_row]
  rw [Int.tdiv_eq_ediv_of_nonneg (by omega), Int.tdiv_eq_ediv_of_nonneg (by omega), wrap64 (n := b / 65536) (by omega) (by omega), wrap64 (n := b / 256) (by omega) (by omega), Int.tmod_eq_emod_of_nonneg (by omega), Int.tmod_eq_emod_of_nonneg (by omega),
    Int.fdiv_eq_ediv_of_nonneg _ (by omega), Int.fdiv_eq_ediv_of_nonneg _ (by omega), u8_eq (a := b / 256 % 256) (b := b / 256) (by omega), u8_eq (a := b % 256) (b := b) (by omega)]
theorem t16b (l : List UInt8) (hl : l.length ≤ 1000) (fl : Fl) {a b : Int} (h : mayB a b = true) : call F 16 [.sl fl 1 (rowsBy cByte l), .agg [.int .i64 a, .int .i64 b]] = some (.sl (.own 5) 1 (rowsBy cByte (l ++ putB a b))) := by
  rw [t16 _ (by rw [rowsBy_length]; exact hl), putRowsR_eq h, rowsBy_append]
theorem gt_t {n k : Nat} (h : k < n) : decide ((n : Int) > (k : Int)) = true := by simp; omega
theorem gt_f {n k : Nat} (h : ¬ k < n) : decide ((n : Int) > (k : Int)) = false := by simp; omega
/-- what is taken, in parts -/
def takeP (b : List UInt8) : Int × Int × List UInt8 × Bool := match b with
  | a :: b :: c :: d :: r => if mayB (bN a) (n3 b c d) = true then (bN a, n3 b c d, r, true) else (0, 0, a :: b :: c :: d :: r, false)
  | b => (0, 0, b, false)
theorem takeOf_eq (b : List UInt8) : takeOf b = .tup [.agg [.int .i64 (takeP b).1, .int .i64 (takeP b).2.1], .sl .shared 1 (rowsBy cByte (takeP b).2.2.1), .bool (takeP b).2.2.2] := by
  rcases b with _ | ⟨a, _ | ⟨b, _ | ⟨c, _ | ⟨d, r⟩⟩⟩⟩
  · rfl
  · rfl
  · rfl
  · rfl
  · by_cases h : mayB (bN a) (n3 b c d) = true
    · simp [takeOf, takeP, h]
    · simp [takeOf, takeP, h, noTake]
theorem nextN_le (site : Int) (L : List (Int × Int)) : 1 ≤ nextN site L := by
  unfold nextN
  suffices ∀ n, 1 ≤ n → 1 ≤ L.foldl (nextStep site) n from this 1 (by omega)
  induction L with
  | nil => intro n h; exact h
  | cons p L ih =>
    intro n h
    rw [List.foldl_cons]
    refine ih _ ?_
    unfold nextStep
    split
    · rename_i hh
      obtain ⟨_, h2, h3⟩ := hh
      simp only [mayB, decide_eq_true_eq] at h2
      rw [wrap64 (by omega) (by omega)]
      omega
    · exact h
theorem next_same (site : Int) (L : List (Int × Int)) : nextN site L = nextR site L := by
  unfold nextN nextR
  have key : ∀ (L : List (Int × Int)) (n : Int), 0 ≤ n → n ≤ 1048576 → L.foldl (nextStep site) (n + 1) = L.foldl (nextStepR site) n + 1 ∧ 0 ≤ L.foldl (nextStepR site) n ∧ L.foldl (nextStepR site) n ≤ 1048576 := by
    intro L
    induction L with
    | nil => intro n h0 h; exact ⟨rfl, h0, h⟩
    | cons p L ih =>
      intro n h0 h
      simp only [List.foldl_cons]
      by_cases h1 : p.1 = site ∧ mayB p.1 p.2 = true
      · have h2 := h1.2
        simp only [mayB, decide_eq_true_eq] at h2
        by_cases h3 : n < p.2
        · have e1 : nextStep site (n + 1) p = p.2 + 1 := by unfold nextStep; rw [if_pos ⟨h1.1, h1.2, by omega⟩, wrap64 (by omega) (by omega)]
          have e2 : nextStepR site n p = p.2 := by unfold nextStepR; rw [if_pos h1, if_pos h3]
          rw [e1, e2]
          exact ih _ (by omega) (by omega)
        · have e1 : nextStep site (n + 1) p = n + 1 := by unfold nextStep; rw [if_neg (by omega)]
          have e2 : nextStepR site n p = n := by unfold nextStepR; rw [if_pos h1, if_neg h3]
          rw [e1, e2]
          exact ih _ h0 h
      · have e1 : nextStep site (n + 1) p = n + 1 := by unfold nextStep; rw [if_neg (fun h => h1 ⟨h.1, h.2.1⟩)]
        have e2 : nextStepR site n p = n := by unfold nextStepR; rw [if_neg h1]
        rw [e1, e2]
        exact ih _ h0 h
  have k := key L 0 (by omega) (by omega)
  rw [wrap64 (by omega) (by omega)]
  exact k.1
theorem idRows_eq (l : List (Int × Int)) : idRows l = rowsBy idRow l := by
  induction l with
  | nil => rfl
  | cons x l ih => simp only [idRows, rowsBy, ih]
theorem idOf_eq (site n : Int) : idOf site n = .agg [.int .i64 (if mayB site n = true then site else 0), .int .i64 (if mayB site n = true then n else 0)] := by
  unfold idOf; split <;> rfl
theorem t10b (site : Int) (L : List (Int × Int)) (hL : L.length ≤ 1000) (fl : Fl) : call F 10 [.sl fl 2 (rowsBy idRow L), .int .i64 site] = some (.agg [.int .i64 (if mayB site (nextN site L) = true then site else 0), .int .i64 (if mayB site (nextN site L) = true then nextN site L else 0)]) := by
  rw [← idRows_eq, t10 _ _ (by omega), idOf_eq]
theorem t17b (site : Int) (L : List (Int × Int)) (hL : L.length ≤ 1000) (fl : Fl) : call F 17 [.sl fl 2 (rowsBy idRow L), .int .i64 site] = some (.agg [.int .i64 (if mayB site (nextN site L) = true then site else 0), .int .i64 (if mayB site (nextN site L) = true then nextN site L else 0)]) := by
  rw [← idRows_eq, t17 _ _ (by omega), idOf_eq, next_same]

set_option maxHeartbeats 4000000 in
theorem t4c (b0 b : List UInt8) (x1 x2 site : Int) (L0 L : List (Int × Int)) (kb kL : Bool) (hkb : decide ((b0.length : Int) > 100) = kb) (hkL : decide ((L0.length : Int) > 100) = kL)
    (hb : b = if kb = true then b0.take 100 else b0) (hL : L = if kL = true then L0.take 100 else L0) :
    call F 4 [.sl .shared 1 (rowsBy cByte b0), .agg [.int .i64 x1, .int .i64 x2], .agg [.sl .shared 2 (rowsBy idRow L0), .int .i64 site]] = some (.bool true) := by
  have lb : b.length ≤ 100 := by
    subst hb; split
    · simp; omega
    · rename_i h; rw [← hkb] at h; simp at h; omega
  have lL : L.length ≤ 100 := by
    subst hL; split
    · simp; omega
    · rename_i h; rw [← hkL] at h; simp at h; omega
  have a1 := t12 b
  have a2 := t13 b
  have a3 := t15b b (by omega) .shared x1 x2
  have a5 := t10b site L (by omega) .shared
  have a6 := t17b site L (by omega) .shared
  rw [takeOf_eq] at a1 a2
  have a7 : b.length * 1 ≤ 140737488355328 := by omega
  have a4 := fun hm => t16b b (by omega) .shared (a := x1) (b := x2) hm
  have g3 : kb = true → (100 : Int) ≤ (b0.length : Int) := by rintro rfl; simp at hkb; omega
  have g4 : kL = true → (100 : Int) ≤ (L0.length : Int) := by rintro rfl; simp at hkL; omega
  cases hm : mayB x1 x2 <;> cases kb <;> cases kL <;> (first | replace a4 := a4 hm | clear a4) <;> (first | replace g3 := g3 rfl | clear g3) <;> (first | replace g4 := g4 rfl | clear g4) <;>
    simp only [if_true, Bool.false_eq_true, if_false] at hb hL <;> (try subst hb) <;> (try subst hL)
  all_goals
    rw [call_code F (show F 4 = some (.code f4) from rfl)]
    simp only [f4, t9, t14, *, go_sem, reduceIte, reduceCtorEq, Nat.reduceEqDiff, Nat.reduceAdd, Nat.reduceMul, Nat.reduceLeDiff, Nat.reduceBEq, List.length_cons, List.length_nil, Int.reduceLE, Int.reduceToNat, Nat.testBit, Nat.reduceShiftRight, Nat.reduceAnd, Nat.reduceBNe]
theorem t4 (b : List UInt8) (x1 x2 site : Int) (L : List (Int × Int)) : call F 4 [.sl .shared 1 (rowsBy cByte b), .agg [.int .i64 x1, .int .i64 x2], .agg [.sl .shared 2 (rowsBy idRow L), .int .i64 site]] = some (.bool true) :=
  t4c b _ x1 x2 site L _ _ _ rfl rfl rfl rfl
end Go.Proofs.Ytnflcbacobhoiaa.Sx
