/- The law of names laid down and taken back. -/
import Derived.Test.YtnflcbacobhoiaaSxU
import Derived.Test.YtnflcbacobhoiaaSxG
namespace Go.Proofs.Ytnflcbacobhoiaa.Sx
open Go
theorem take_put {a b : Int} (h : mayB a b = true) (r : List UInt8) : takeOf (putB a b ++ r) = .tup [.agg [.int .i64 a, .int .i64 b], .sl .shared 1 (rowsBy cByte r), .bool true] := by
  have h' := h
  simp only [mayB, decide_eq_true_eq] at h'
  have e1 : bN (u8 a) = a := by have := u8_toNat a; unfold bN; omega
  have e2 : n3 (u8 (b.fdiv 65536)) (u8 (b.fdiv 256)) (u8 b) = b := by
    have q1 := u8_toNat (b.fdiv 65536)
    have q2 := u8_toNat (b.fdiv 256)
    have q3 := u8_toNat b
    rw [Int.fdiv_eq_ediv_of_nonneg _ (by omega)] at q1 q2
    unfold n3 bN
    rw [Int.fdiv_eq_ediv_of_nonneg _ (by omega), Int.fdiv_eq_ediv_of_nonneg _ (by omega)]
    omega
  simp only [putB, List.cons_append, List.nil_append, takeOf, e1, e2, h, if_true]
theorem take_put' {a b : Int} (h : mayB a b = true) : takeOf (putB a b) = .tup [.agg [.int .i64 a, .int .i64 b], .sl .shared 1 [], .bool true] := by
  have := take_put h []
  rwa [List.append_nil] at this
theorem l8 (x1 x2 y1 y2 n1 n2 : Int) (b p q : List UInt8) (L : List (Int × Int)) (lL : L.length ≤ 100) (hn : ∀ r ∈ L, ¬ (r.1 = n1 ∧ r.2 = n2 ∧ mayB n1 n2 = true)) :
    E (call F) 0 f8_l1 (⟨(upd (upd (upd (upd (upd (upd (upd (upd (upd (upd (upd (upd e0 15 (.v (.int .i64 (0)))) 14 (.p 14 0)) 13 (.p 13 0)) 12 (.v (.bool true))) 11 (.v (.sl .shared 1 (rowsBy cByte b)))) 10 (.p 10 0)) 9 (.s 9 0 q.length)) 8 (.s 8 0 p.length)) 7 (.v (.bool true))) 3 (.p 3 0)) 2 (.v (.sl .shared 2 (rowsBy idRow L)))) 1 (.v (.sl .shared 1 (rowsBy cByte b)))), (upd (upd (upd (upd (upd (upd (upd h0 14 (some (.var false [(.v (.int .i64 (n1))), (.v (.int .i64 (n2)))]))) 13 (some (.var false [(.v (.int .i64 (x1))), (.v (.int .i64 (x2))), (.v (.int .i64 (1)))]))) 11 (none)) 10 (some (.var false [(.v (.int .i64 (x1))), (.v (.int .i64 (x2)))]))) 9 (some (.arr false 5 1 (rowsBy cByte q)))) 8 (some (.arr false 5 1 (rowsBy cByte p)))) 3 (some (.var false [(.v (.int .i64 (x1))), (.v (.int .i64 (x2))), (.v (.int .i64 (y1))), (.v (.int .i64 (y2)))])))⟩ : St) =
    some (.exit 0, (⟨(upd (upd (upd (upd (upd (upd (upd (upd (upd e0 13 (.p 13 0)) 12 (.v (.bool true))) 11 (.v (.sl .shared 1 (rowsBy cByte b)))) 10 (.p 10 0)) 9 (.s 9 0 q.length)) 8 (.s 8 0 p.length)) 7 (.v (.bool true))) 3 (.p 3 0)) 1 (.v (.sl .shared 1 (rowsBy cByte b)))), (upd (upd (upd (upd (upd (upd h0 13 (some (.var false [(.v (.int .i64 (x1))), (.v (.int .i64 (x2))), (.v (.int .i64 (1)))]))) 11 (none)) 10 (some (.var false [(.v (.int .i64 (x1))), (.v (.int .i64 (x2)))]))) 9 (some (.arr false 5 1 (rowsBy cByte q)))) 8 (some (.arr false 5 1 (rowsBy cByte p)))) 3 (some (.var false [(.v (.int .i64 (x1))), (.v (.int .i64 (x2))), (.v (.int .i64 (y1))), (.v (.int .i64 (y2)))])))⟩ : St)) := by
  refine loop_to (b := f8_b1) (fun i => (⟨(upd (upd (upd (upd (upd (upd (upd (upd (upd (upd (upd (upd e0 15 (.v (.int .i64 ((i : Int))))) 14 (.p 14 0)) 13 (.p 13 0)) 12 (.v (.bool true))) 11 (.v (.sl .shared 1 (rowsBy cByte b)))) 10 (.p 10 0)) 9 (.s 9 0 q.length)) 8 (.s 8 0 p.length)) 7 (.v (.bool true))) 3 (.p 3 0)) 2 (.v (.sl .shared 2 (rowsBy idRow L)))) 1 (.v (.sl .shared 1 (rowsBy cByte b)))), (upd (upd (upd (upd (upd (upd (upd h0 14 (some (.var false [(.v (.int .i64 (n1))), (.v (.int .i64 (n2)))]))) 13 (some (.var false [(.v (.int .i64 (x1))), (.v (.int .i64 (x2))), (.v (.int .i64 (1)))]))) 11 (none)) 10 (some (.var false [(.v (.int .i64 (x1))), (.v (.int .i64 (x2)))]))) 9 (some (.arr false 5 1 (rowsBy cByte q)))) 8 (some (.arr false 5 1 (rowsBy cByte p)))) 3 (some (.var false [(.v (.int .i64 (x1))), (.v (.int .i64 (x2))), (.v (.int .i64 (y1))), (.v (.int .i64 (y2)))])))⟩ : St)) L.length ?_ ?_ (by simp)
  · intro i hi
    have hg := rowsBy_get idRow hi
    have hne := hn L[i] (List.getElem_mem hi)
    simp only [idRow] at hg
    have hc : (decide (L[i].1 = n1) && (decide (L[i].2 = n2) && true)) = true → mayB n1 n2 = false := by
      intro h
      simp only [Bool.and_true, Bool.and_eq_true, decide_eq_true_eq] at h
      cases hm : mayB n1 n2
      · rfl
      · exact absurd ⟨h.1, h.2, hm⟩ hne
    cases hd : (decide (L[i].1 = n1) && (decide (L[i].2 = n2) && true)) with
    | false => 
      simp only [Bool.and_true] at hd
      simp only [f8_b1, dec_lt hi, hg, hd, wrap_succ hi (show L.length ≤ 9223372036854775807 by omega), go_sem, reduceIte, Nat.reduceEqDiff, Nat.reduceAdd, List.length_cons, List.length_nil]
    | true =>
      have hc := hc hd
      simp only [Bool.and_true] at hd
      simp only [f8_b1, dec_lt hi, hg, hd, hc, t11, wrap_succ hi (show L.length ≤ 9223372036854775807 by omega), go_sem, reduceIte, Nat.reduceEqDiff, Nat.reduceAdd, Nat.reduceMul, List.length_cons, List.length_nil, Nat.testBit, Nat.reduceShiftRight, Nat.reduceAnd, Nat.reduceBNe]
  · simp only [f8_b1, dec_ge (Nat.le_refl L.length), go_sem, reduceIte, Nat.reduceEqDiff]
theorem nextN_gt (site : Int) (L : List (Int × Int)) (r : Int × Int) (hr : r ∈ L) (h1 : r.1 = site) (h2 : mayB r.1 r.2 = true) : r.2 < nextN site L := by
  unfold nextN
  have mono : ∀ (L : List (Int × Int)) (n : Int), n ≤ L.foldl (nextStep site) n := by
    intro L
    induction L with
    | nil => intro n; exact Int.le_refl _
    | cons p L ih =>
      intro n
      rw [List.foldl_cons]
      refine Int.le_trans ?_ (ih _)
      unfold nextStep
      split
      · rename_i hh
        obtain ⟨_, h2, h3⟩ := hh
        simp only [mayB, decide_eq_true_eq] at h2
        rw [wrap64 (by omega) (by omega)]
        omega
      · exact Int.le_refl _
  suffices ∀ (L : List (Int × Int)) (n : Int), r ∈ L → r.2 < L.foldl (nextStep site) n from this L 1 hr
  intro L
  induction L with
  | nil => intro n h; simp at h
  | cons p L ih =>
    intro n h
    rw [List.foldl_cons]
    rcases List.mem_cons.1 h with rfl | h
    · refine Int.lt_of_lt_of_le ?_ (mono L _)
      unfold nextStep
      split
      · simp only [mayB, decide_eq_true_eq] at h2
        rw [wrap64 (by omega) (by omega)]
        omega
      · rename_i hh
        have : ¬ n ≤ r.2 := fun h => hh ⟨h1, h2, h⟩
        omega
    · exact ih _ h
theorem next_new (site : Int) (L : List (Int × Int)) : ∀ r ∈ L, ¬ (r.1 = (if mayB site (nextN site L) = true then site else 0) ∧ r.2 = (if mayB site (nextN site L) = true then nextN site L else 0) ∧
    mayB (if mayB site (nextN site L) = true then site else 0) (if mayB site (nextN site L) = true then nextN site L else 0) = true) := by
  intro r hr
  split
  · rintro ⟨h1, h2, h3⟩
    have := nextN_gt site L r hr h1 (by rw [h1, h2]; exact h3)
    omega
  · rintro ⟨_, _, h3⟩
    simp [mayB] at h3
theorem u8_lt (a b : Int) : decide (u8 a < u8 b) = decide (a % 256 < b % 256) := by
  have h1 := u8_toNat a
  have h2 := u8_toNat b
  rw [Bool.eq_iff_iff, decide_eq_true_eq, decide_eq_true_eq, UInt8.lt_iff_toNat_lt]
  omega
theorem u8_beq (a b : Int) : (u8 a == u8 b) = decide (a % 256 = b % 256) := by
  have h1 := u8_toNat a
  have h2 := u8_toNat b
  rw [Bool.eq_iff_iff, beq_iff_eq, decide_eq_true_eq]
  constructor
  · intro h; rw [h] at h1; omega
  · intro h; exact u8_eq h
theorem bytes_rise {x1 x2 y1 y2 : Int} (h : mayB x1 x2 = true) (h' : mayB y1 y2 = true) : Op.bytesLess (putB x1 x2) (putB y1 y2) = decide (ordR x1 x2 y1 y2 < 0) := by
  simp only [mayB, decide_eq_true_eq] at h h'
  have ho := ordR_cases x1 x2 y1 y2
  simp only [putB, Op.bytesLess, u8_lt, u8_beq, Bool.and_false, Bool.or_false]
  rw [Int.fdiv_eq_ediv_of_nonneg _ (by omega), Int.fdiv_eq_ediv_of_nonneg _ (by omega), Int.fdiv_eq_ediv_of_nonneg _ (by omega), Int.fdiv_eq_ediv_of_nonneg _ (by omega)]
  rw [Bool.eq_iff_iff]
  simp only [Bool.or_eq_true, Bool.and_eq_true, decide_eq_true_eq]
  omega
theorem xor10 : xor1 1 = 0 := by kernel_rfl
theorem xor01 : xor1 0 = 1 := by kernel_rfl
set_option maxHeartbeats 4000000 in
theorem t8c (x1 x2 y1 y2 : Int) (b0 b : List UInt8) (L0 L : List (Int × Int)) (kb kL : Bool) (hkb : decide ((b0.length : Int) > 100) = kb) (hkL : decide ((L0.length : Int) > 100) = kL)
    (hb : b = if kb = true then b0.take 100 else b0) (hL : L = if kL = true then L0.take 100 else L0) :
    call F 8 [.agg [.int .i64 x1, .int .i64 x2, .int .i64 y1, .int .i64 y2], .sl .shared 1 (rowsBy cByte b0), .sl .shared 2 (rowsBy idRow L0)] = some (.bool true) := by
  have lb : b.length ≤ 100 := by
    subst hb; split
    · simp; omega
    · rename_i h; rw [← hkb] at h; simp at h; omega
  have lL : L.length ≤ 100 := by
    subst hL; split
    · simp; omega
    · rename_i h; rw [← hkL] at h; simp at h; omega
  have g3 : kb = true → (100 : Int) ≤ (b0.length : Int) := by rintro rfl; simp at hkb; omega
  have g4 : kL = true → (100 : Int) ≤ (L0.length : Int) := by rintro rfl; simp at hkL; omega
  by_cases hm : mayB x1 x2 = true ∧ mayB y1 y2 = true
  case pos =>
    obtain ⟨m1, m2⟩ := hm
    have p1 := t15b [] (by simp) .shared x1 x2
    have p2 := t15b [] (by simp) .shared y1 y2
    have nx := t10b x1 L (by omega) .shared
    have a7 : (putB x1 x2).length * 1 ≤ 140737488355328 := by simp [putB]
    have a8 : ((putB x1 x2).length + b.length) * 1 ≤ 140737488355328 := by simp [putB]; omega
    simp only [rowsBy, List.nil_append] at p1 p2
    have br := bytes_rise m1 m2
    have ds := darts_side x1 x2
    have lp := l8 x1 x2 y1 y2 _ _ b (putB x1 x2) (putB y1 y2) L lL (next_new x1 L)
    have tk := t12 (putB x1 x2 ++ b)
    rw [take_put m1] at tk
    cases kb <;> cases kL <;> (first | replace g3 := g3 rfl | clear g3) <;> (first | replace g4 := g4 rfl | clear g4) <;>
      simp only [if_true, Bool.false_eq_true, if_false] at hb hL <;> (try subst hb) <;> (try subst hL)
    all_goals
      rw [call_code F (show F 8 = some (.code f8) from rfl)]
      simp only [f8, t9, t11, t18', t19', t24', xor10, xor01, *, go_sem, reduceIte, reduceCtorEq, Nat.reduceEqDiff, Nat.reduceAdd, Nat.reduceMul, Nat.reduceLeDiff, List.length_cons, List.length_nil, Int.reduceLT, Int.reduceLE, Int.reduceNeg, Int.reduceToNat, Int.reduceEq, Int.cast_ofNat_Int, Nat.testBit, Nat.reduceShiftRight, Nat.reduceAnd, Nat.reduceBNe]
  case neg =>
    have hor : mayB x1 x2 = false ∨ (mayB x1 x2 = true ∧ mayB y1 y2 = false) := by
      cases h1 : mayB x1 x2 <;> cases h2 : mayB y1 y2 <;> simp_all
    rcases hor with m1 | ⟨m1, m2⟩
    all_goals
      cases kb <;> cases kL <;> (first | replace g3 := g3 rfl | clear g3) <;> (first | replace g4 := g4 rfl | clear g4) <;>
        simp only [if_true, Bool.false_eq_true, if_false] at hb hL <;> (try subst hb) <;> (try subst hL)
      all_goals
        rw [call_code F (show F 8 = some (.code f8) from rfl)]
        simp only [f8, t9, t11, *, go_sem, reduceIte, reduceCtorEq, Nat.reduceEqDiff, Nat.reduceAdd, Nat.reduceMul, Nat.reduceLeDiff, List.length_cons, List.length_nil, Int.reduceLT, Int.reduceLE, Int.reduceNeg, Int.reduceToNat, Int.cast_ofNat_Int]
theorem t8 (x1 x2 y1 y2 : Int) (b : List UInt8) (L : List (Int × Int)) : call F 8 [.agg [.int .i64 x1, .int .i64 x2, .int .i64 y1, .int .i64 y2], .sl .shared 1 (rowsBy cByte b), .sl .shared 2 (rowsBy idRow L)] = some (.bool true) :=
  t8c x1 x2 y1 y2 b _ L _ _ _ rfl rfl rfl rfl
end Go.Proofs.Ytnflcbacobhoiaa.Sx
