/- What is wrong with a diagram. -/
import Derived.Test.YtehcfmohjcjmpaaSxState
import Derived.Test.YtehcfmohjcjmpaaSxRingr
namespace Go.Proofs.Ytehcfmohjcjmpaa.Sx
open Go
theorem first_cases (p : Nat → Bool) : ∀ N, (∀ i, i < N → p i = false) ∨ ∃ k, k < N ∧ p k = true ∧ ∀ i, i < k → p i = false
  | 0 => .inl fun _ h => absurd h (Nat.not_lt_zero _)
  | N + 1 => by
    rcases first_cases p N with h | ⟨k, h1, h2, h3⟩
    · cases hp : p N with
      | false =>
        refine .inl fun i hi => ?_
        by_cases e : i = N
        · rw [e]; exact hp
        · exact h i (by omega)
      | true => exact .inr ⟨N, Nat.lt_succ_self _, hp, h⟩
    · exact .inr ⟨k, by omega, h2, h3⟩
/-- where names do not rise -/
def badR (l : List ID) (i : Nat) : Bool := !mayI (l.getD i ID0) || (decide (0 < i) && decide (ordI (l.getD (i - 1) ID0) (l.getD i ID0) ≥ 0))
def riseI (l : List ID) : Bool := (List.range l.length).all fun i => !badR l i
theorem riseI_true {l : List ID} (h : ∀ i, i < l.length → badR l i = false) : riseI l = true := by
  unfold riseI; rw [List.all_eq_true]; intro i hi; rw [h i (List.mem_range.1 hi)]; rfl
theorem riseI_false {l : List ID} {k : Nat} (hk : k < l.length) (h : badR l k = true) : riseI l = false := by
  unfold riseI; rw [List.all_eq_false]; exact ⟨k, List.mem_range.2 hk, by rw [h]; simp⟩
theorem getD_lt {l : List ID} {i : Nat} (h : i < l.length) : l.getD i ID0 = l[i] := by rw [List.getD_eq_getElem?_getD, List.getElem?_eq_getElem h]; rfl
theorem badR_no {l : List ID} {i : Nat} (hi : i < l.length) (h : badR l i = false) : mayI l[i] = true ∧ ∀ j (e : i = j + 1), ordI (l[j]'(by omega)) l[i] < 0 := by
  unfold badR at h
  rw [getD_lt hi] at h
  rw [Bool.or_eq_false_iff] at h
  refine ⟨by simpa using h.1, ?_⟩
  rintro j rfl
  have h2 := h.2
  rw [show j + 1 - 1 = j by omega, getD_lt (show j < l.length by omega)] at h2
  simp at h2
  exact h2
theorem badR_yes {l : List ID} {i : Nat} (hi : i < l.length) (h : badR l i = true) (hm : mayI l[i] = true) : ∃ j, ∃ e : i = j + 1, ordI (l[j]'(by omega)) l[i] ≥ 0 := by
  unfold badR at h
  rw [getD_lt hi, hm] at h
  cases i with
  | zero => simp at h
  | succ j =>
    rw [show j + 1 - 1 = j by omega, getD_lt (show j < l.length by omega)] at h
    exact ⟨j, rfl, by simpa using h⟩
theorem c_rise (l : List ID) (hl : Fits l) : call F 34 [.sl .shared 2 (rowsBy ID.c l)] = some (.bool (riseI l)) := by
  have hle := hl.le
  have hw : l.length ≤ 9223372036854775807 := by omega
  have S : ∀ n, n ≤ l.length → (∀ i, i < n → badR l i = false) → ∀ r, E (call F) 0 f34_b1 (⟨(upd (upd (upd (upd Sx.e0 7 (.v (.int .i64 ((n : Int))))) 6 (.v (.int .i64 ((l.length : Int))))) 5 (.v (.sl .shared 2 (rowsBy ID.c l)))) 0 (.v (.sl .shared 2 (rowsBy ID.c l)))), Sx.h0⟩ : St) = some r → r.1 ≠ .norm →
      E (call F) 0 f34_l1 (⟨(upd (upd (upd (upd Sx.e0 7 (.v (.int .i64 (0)))) 6 (.v (.int .i64 ((l.length : Int))))) 5 (.v (.sl .shared 2 (rowsBy ID.c l)))) 0 (.v (.sl .shared 2 (rowsBy ID.c l)))), Sx.h0⟩ : St) = some r := by
    intro n hn hno r hf hrr
    refine loop_to (b := f34_b1) (fun i => (⟨(upd (upd (upd (upd Sx.e0 7 (.v (.int .i64 ((i : Int))))) 6 (.v (.int .i64 ((l.length : Int))))) 5 (.v (.sl .shared 2 (rowsBy ID.c l)))) 0 (.v (.sl .shared 2 (rowsBy ID.c l)))), Sx.h0⟩ : St)) n ?_ hf hrr
    intro i hi
    have h1 : i < l.length := by omega
    have h1z : (i : Int) < (l.length : Int) := by omega
    obtain ⟨hm, ho⟩ := badR_no h1 (hno i hi)
    have cm := c_ident_May l[i].s l[i].n
    rw [show mayI ⟨l[i].s, l[i].n⟩ = true from hm] at cm
    cases i with
    | zero =>
      have z1 : decide ((0 : Int) < (l.length : Int)) = true := decide_eq_true h1z
      have z2 : (0 : Int) < (l.length : Int) := h1z
      simp only [f34_b1, z2, rowsBy_get ID.c h1, ID.c, cm, show IntKind.i64.wrap 1 = 1 from rfl, go_sem, reduceIte, reduceCtorEq, Nat.reduceEqDiff, Nat.reduceAdd, Nat.reduceMul, List.length_cons, List.length_nil, Int.reduceGT, Int.reduceAdd, Int.reduceToNat, Int.cast_ofNat_Int]
    | succ j =>
      have hj : j < l.length := by omega
      have hjz : (j : Int) < (l.length : Int) := by omega
      have w1 : IntKind.i64.wrap (((j + 1 : Nat) : Int) - 1) = (j : Int) := by rw [wrap64 (by omega) (by omega)]; omega
      have k1 : decide (((j + 1 : Nat) : Int) > 0) = true := decide_eq_true (by omega)
      have co := c_ident_Order l[j].s l[j].n l[j + 1].s l[j + 1].n
      have ho' : decide (ordI ⟨l[j].s, l[j].n⟩ ⟨l[j + 1].s, l[j + 1].n⟩ ≥ 0) = false := decide_eq_false (by have := ho j rfl; show ¬ (ordI l[j] l[j + 1] ≥ 0); omega)
      simp only [f34_b1, h1z, rowsBy_get ID.c h1, rowsBy_get ID.c hj, ID.c, cm, co, ho', w1, k1, wrap_succ h1 hw, go_sem, reduceIte, reduceCtorEq, Nat.reduceEqDiff, Nat.reduceAdd, Nat.reduceMul, List.length_cons, List.length_nil, Nat.testBit, Nat.reduceShiftRight, Nat.reduceAnd, Nat.reduceBNe]
  rcases first_cases (badR l) l.length with hall | ⟨k, hk, hbad, hno⟩
  · have S := S l.length (Nat.le_refl _) hall
    rw [show riseI l = true from riseI_true hall]
    have := S _ (by simp only [f34_b1, dec_ge (Nat.le_refl l.length), go_sem, reduceIte, reduceCtorEq, Nat.reduceEqDiff]
                    rfl) (by simp)
    rw [call_code F (show F 34 = some (.code f34) from rfl)]
    simp only [f34, this, go_sem, reduceIte, reduceCtorEq, Nat.reduceEqDiff]
  · have S := S k (Nat.le_of_lt hk) hno
    rw [show riseI l = false from riseI_false hk hbad]
    have hkz : (k : Int) < (l.length : Int) := by omega
    have cm := c_ident_May l[k].s l[k].n
    by_cases hm : mayI l[k] = true
    · rw [show mayI ⟨l[k].s, l[k].n⟩ = true from hm] at cm
      obtain ⟨j, rfl, ho⟩ := badR_yes hk hbad hm
      have hj : j < l.length := by omega
      have hjz : (j : Int) < (l.length : Int) := by omega
      have w1 : IntKind.i64.wrap (((j + 1 : Nat) : Int) - 1) = (j : Int) := by rw [wrap64 (by omega) (by omega)]; omega
      have k1 : decide (((j + 1 : Nat) : Int) > 0) = true := decide_eq_true (by omega)
      have co := c_ident_Order l[j].s l[j].n l[j + 1].s l[j + 1].n
      have ho' : decide (ordI ⟨l[j].s, l[j].n⟩ ⟨l[j + 1].s, l[j + 1].n⟩ ≥ 0) = true := decide_eq_true ho
      have := S _ (by simp only [f34_b1, hkz, rowsBy_get ID.c hk, rowsBy_get ID.c hj, ID.c, cm, co, ho', w1, k1, go_sem, reduceIte, reduceCtorEq, Nat.reduceEqDiff, Nat.reduceAdd, Nat.reduceMul, List.length_cons, List.length_nil, Nat.testBit, Nat.reduceShiftRight, Nat.reduceAnd, Nat.reduceBNe]
                      rfl) (by simp)
      rw [call_code F (show F 34 = some (.code f34) from rfl)]
      simp only [f34, this, go_sem, reduceIte, reduceCtorEq, Nat.reduceEqDiff]
    · rw [show mayI ⟨l[k].s, l[k].n⟩ = false by simpa using hm] at cm
      have := S _ (by simp only [f34_b1, hkz, rowsBy_get ID.c hk, ID.c, cm, go_sem, reduceIte, reduceCtorEq, Nat.reduceEqDiff, Nat.reduceAdd, Nat.reduceMul, List.length_cons, List.length_nil]
                      rfl) (by simp)
      rw [call_code F (show F 34 = some (.code f34) from rfl)]
      simp only [f34, this, go_sem, reduceIte, reduceCtorEq, Nat.reduceEqDiff]
theorem c_r04_rise (l : List ID) (hl : Fits l) : call F 43 [.sl .shared 2 (rowsBy ID.c l)] = some (.bool (riseI l)) := by
  have hle := hl.le
  have hw : l.length ≤ 9223372036854775807 := by omega
  have S : ∀ n, n ≤ l.length → (∀ i, i < n → badR l i = false) → ∀ r, E (call F) 0 f43_b1 (⟨(upd (upd Sx.e0 3 (.v (.int .i64 ((n : Int))))) 0 (.v (.sl .shared 2 (rowsBy ID.c l)))), Sx.h0⟩ : St) = some r → r.1 ≠ .norm →
      E (call F) 0 f43_l1 (⟨(upd (upd Sx.e0 3 (.v (.int .i64 (0)))) 0 (.v (.sl .shared 2 (rowsBy ID.c l)))), Sx.h0⟩ : St) = some r := by
    intro n hn hno r hf hrr
    refine loop_to (b := f43_b1) (fun i => (⟨(upd (upd Sx.e0 3 (.v (.int .i64 ((i : Int))))) 0 (.v (.sl .shared 2 (rowsBy ID.c l)))), Sx.h0⟩ : St)) n ?_ hf hrr
    intro i hi
    have h1 : i < l.length := by omega
    have h1z : (i : Int) < (l.length : Int) := by omega
    obtain ⟨hm, ho⟩ := badR_no h1 (hno i hi)
    have cm := c_r01_May l[i].s l[i].n
    rw [show mayI ⟨l[i].s, l[i].n⟩ = true from hm] at cm
    cases i with
    | zero =>
      have z1 : decide ((0 : Int) < (l.length : Int)) = true := decide_eq_true h1z
      have z2 : (0 : Int) < (l.length : Int) := h1z
      simp only [f43_b1, z2, rowsBy_get ID.c h1, ID.c, cm, show IntKind.i64.wrap 1 = 1 from rfl, go_sem, reduceIte, reduceCtorEq, Nat.reduceEqDiff, Nat.reduceAdd, Nat.reduceMul, List.length_cons, List.length_nil, Int.reduceGT, Int.reduceAdd, Int.reduceToNat, Int.cast_ofNat_Int]
    | succ j =>
      have hj : j < l.length := by omega
      have hjz : (j : Int) < (l.length : Int) := by omega
      have w1 : IntKind.i64.wrap (((j + 1 : Nat) : Int) - 1) = (j : Int) := by rw [wrap64 (by omega) (by omega)]; omega
      have k1 : decide (((j + 1 : Nat) : Int) > 0) = true := decide_eq_true (by omega)
      have co := c_r01_Order l[j].s l[j].n l[j + 1].s l[j + 1].n
      have ho' : decide (ordI ⟨l[j].s, l[j].n⟩ ⟨l[j + 1].s, l[j + 1].n⟩ ≥ 0) = false := decide_eq_false (by have := ho j rfl; show ¬ (ordI l[j] l[j + 1] ≥ 0); omega)
      simp only [f43_b1, h1z, rowsBy_get ID.c h1, rowsBy_get ID.c hj, ID.c, cm, co, ho', w1, k1, wrap_succ h1 hw, go_sem, reduceIte, reduceCtorEq, Nat.reduceEqDiff, Nat.reduceAdd, Nat.reduceMul, List.length_cons, List.length_nil]
  rcases first_cases (badR l) l.length with hall | ⟨k, hk, hbad, hno⟩
  · have S := S l.length (Nat.le_refl _) hall
    rw [show riseI l = true from riseI_true hall]
    have := S _ (by simp only [f43_b1, dec_ge (Nat.le_refl l.length), go_sem, reduceIte, reduceCtorEq, Nat.reduceEqDiff]
                    rfl) (by simp)
    rw [call_code F (show F 43 = some (.code f43) from rfl)]
    simp only [f43, this, go_sem, reduceIte, reduceCtorEq]
  · have S := S k (Nat.le_of_lt hk) hno
    rw [show riseI l = false from riseI_false hk hbad]
    have hkz : (k : Int) < (l.length : Int) := by omega
    have cm := c_r01_May l[k].s l[k].n
    by_cases hm : mayI l[k] = true
    · rw [show mayI ⟨l[k].s, l[k].n⟩ = true from hm] at cm
      obtain ⟨j, rfl, ho⟩ := badR_yes hk hbad hm
      have hj : j < l.length := by omega
      have hjz : (j : Int) < (l.length : Int) := by omega
      have w1 : IntKind.i64.wrap (((j + 1 : Nat) : Int) - 1) = (j : Int) := by rw [wrap64 (by omega) (by omega)]; omega
      have k1 : decide (((j + 1 : Nat) : Int) > 0) = true := decide_eq_true (by omega)
      have co := c_r01_Order l[j].s l[j].n l[j + 1].s l[j + 1].n
      have ho' : decide (ordI ⟨l[j].s, l[j].n⟩ ⟨l[j + 1].s, l[j + 1].n⟩ ≥ 0) = true := decide_eq_true ho
      have := S _ (by simp only [f43_b1, hkz, rowsBy_get ID.c hk, rowsBy_get ID.c hj, ID.c, cm, co, ho', w1, k1, go_sem, reduceIte, reduceCtorEq, Nat.reduceEqDiff, Nat.reduceAdd, Nat.reduceMul, List.length_cons, List.length_nil]
                      rfl) (by simp)
      rw [call_code F (show F 43 = some (.code f43) from rfl)]
      simp only [f43, this, go_sem, reduceIte, reduceCtorEq]
    · rw [show mayI ⟨l[k].s, l[k].n⟩ = false by simpa using hm] at cm
      have := S _ (by simp only [f43_b1, hkz, rowsBy_get ID.c hk, ID.c, cm, go_sem, reduceIte, reduceCtorEq, Nat.reduceEqDiff, Nat.reduceAdd, Nat.reduceMul, List.length_cons, List.length_nil]
                      rfl) (by simp)
      rw [call_code F (show F 43 = some (.code f43) from rfl)]
      simp only [f43, this, go_sem, reduceIte, reduceCtorEq]
theorem c_MayAttr (n : Int) : call F 16 [.int .i64 n] = some (.bool (decide (n ≥ -1099511627776) && decide (n ≤ 1099511627776))) := by
  by_cases h : n ≥ -1099511627776
  · rw [dec_t h]
    rw [call_code F (show F 16 = some (.code f16) from rfl)]
    simp only [f16, dec_t h, go_sem, reduceIte, reduceCtorEq, Nat.reduceEqDiff, Int.reduceNeg]
  · rw [dec_f h]
    rw [call_code F (show F 16 = some (.code f16) from rfl)]
    simp only [f16, dec_f h, go_sem, reduceIte, reduceCtorEq, Nat.reduceEqDiff, Int.reduceNeg]
theorem c_r04_MayAttr (n : Int) : call F 17 [.int .i64 n] = some (.bool (decide (n ≥ -1099511627776) && decide (n ≤ 1099511627776))) := by
  by_cases h : n ≥ -1099511627776
  · rw [dec_t h]
    rw [call_code F (show F 17 = some (.code f17) from rfl)]
    simp only [f17, dec_t h, go_sem, reduceIte, reduceCtorEq, Nat.reduceEqDiff, Int.reduceNeg]
  · rw [dec_f h]
    rw [call_code F (show F 17 = some (.code f17) from rfl)]
    simp only [f17, dec_f h, go_sem, reduceIte, reduceCtorEq, Nat.reduceEqDiff, Int.reduceNeg]
theorem i_edgeID (v : Ed) : call F 38 [.agg [.int .i64 v.id.s, .int .i64 v.id.n, .str v.label, .int .i64 v.attr]] = some (.agg [.int .i64 v.id.s, .int .i64 v.id.n]) := by
  rw [call_code F (show F 38 = some (.code f38) from rfl)]
  simp only [f38, go_sem, reduceIte, reduceCtorEq, Nat.reduceEqDiff, Nat.reduceAdd, Nat.reduceLeDiff, List.length_cons, List.length_nil]
theorem c_named_Vertex_more (l : List Vx) (hl : Fits l) (hne : 0 < l.length) : E (call F) 0 f35_l1 (⟨(upd (upd (upd (upd (upd Sx.e0 10 (.v (.int .i64 (1)))) 9 (.v (.int .i64 ((l.length : Int))))) 8 (.v (.sl .shared 5 (rowsBy Vx.c l)))) 5 (.s 5 0 ((l.take 1).map Vx.id).length)) 1 (.v (.fn 36 []))), (upd Sx.h0 5 (some (.arr false 35 2 (rowsBy ID.c ((l.take 1).map Vx.id)))))⟩ : St) = some (.exit 0, (⟨(upd Sx.e0 5 (.s 5 0 (l.map Vx.id).length)), (upd Sx.h0 5 (some (.arr false 35 2 (rowsBy ID.c (l.map Vx.id)))))⟩ : St)) := by
  have hle := hl.le
  have key := loop_to (C := call F) (lo := 0) (b := f35_b1) (fun i => (⟨(upd (upd (upd (upd (upd Sx.e0 10 (.v (.int .i64 (((i + 1 : Nat) : Int))))) 9 (.v (.int .i64 ((l.length : Int))))) 8 (.v (.sl .shared 5 (rowsBy Vx.c l)))) 5 (.s 5 0 ((l.take (i + 1)).map Vx.id).length)) 1 (.v (.fn 36 []))), (upd Sx.h0 5 (some (.arr false 35 2 (rowsBy ID.c ((l.take (i + 1)).map Vx.id)))))⟩ : St)) (l.length - 1) (r := (.exit 0, (⟨(upd Sx.e0 5 (.s 5 0 (l.map Vx.id).length)), (upd Sx.h0 5 (some (.arr false 35 2 (rowsBy ID.c (l.map Vx.id)))))⟩ : St))) ?_ ?_ (by simp)
  · exact key
  · intro i hi
    have h1 : i + 1 < l.length := by omega
    have h1z : ((i + 1 : Nat) : Int) < (l.length : Int) := by omega
    have hs : (l.take (i + 1 + 1)).map Vx.id = (l.take (i + 1)).map Vx.id ++ [l[i + 1].id] := by rw [List.take_succ_eq_append_getElem h1, List.map_append]; rfl
    have hml : ((l.take (i + 1)).map Vx.id).length ≤ i + 1 := by rw [List.length_map, List.length_take]; omega
    have h5 : (((l.take (i + 1)).map Vx.id).length + 1) * 16 ≤ 140737488355328 := by omega
    rw [hs]
    have e2 : ((l.take (i + 1)).map Vx.id ++ [l[i + 1].id]).length = ((l.take (i + 1)).map Vx.id).length + 1 := by rw [List.length_append]; rfl
    rw [e2]
    generalize (l.take (i + 1)).map Vx.id = m at *
    have e3 : rowsBy ID.c m ++ [[.int .i64 l[i + 1].id.s, .int .i64 l[i + 1].id.n]] = rowsBy ID.c (m ++ [l[i + 1].id]) := rowsBy_snoc ID.c m l[i + 1].id
    have hv := i_vertexID l[i + 1]
    simp only [f35_b1, h1z, rowsBy_get Vx.c h1, Vx.c, hv, h5, e3, wrap_succ h1 (show l.length ≤ 9223372036854775807 by omega), List.take_length, go_sem, reduceIte, Nat.reduceEqDiff, Nat.reduceAdd, Nat.reduceMul, Nat.reduceLeDiff, List.length_cons, List.length_nil]
  · rw [show l.length - 1 + 1 = l.length by omega, List.take_length]
    simp only [f35_b1, dec_ge (Nat.le_refl l.length), go_sem, reduceIte, Nat.reduceEqDiff]
theorem c_named_Vertex (l : List Vx) (hl : Fits l) : call F 35 [.sl .shared 5 (rowsBy Vx.c l), .fn 36 []] = some (.sl (.own 35) 2 (rowsBy ID.c (l.map Vx.id))) := by
  by_cases hne : l = []
  · subst hne
    have l1 : E (call F) 0 f35_l1 (⟨(upd (upd (upd (upd (upd Sx.e0 10 (.v (.int .i64 (0)))) 9 (.v (.int .i64 (0)))) 8 (.v (.sl .shared 5 []))) 5 (.v (.sl (.tight 35) 2 []))) 1 (.v (.fn 36 []))), Sx.h0⟩ : St) = some (.exit 0, (⟨(upd Sx.e0 5 (.v (.sl (.tight 35) 2 []))), (upd Sx.h0 5 (none))⟩ : St)) := by
      rw [f35_l1_eq]
      simp only [f35_b1, go_sem, reduceIte, Nat.reduceEqDiff, Int.reduceLT]
    show call F 35 [.sl .shared 5 [], .fn 36 []] = some (.sl (.own 35) 2 [])
    rw [call_code F (show F 35 = some (.code f35) from rfl)]
    simp only [f35, l1, go_sem, reduceIte, reduceCtorEq, Nat.reduceEqDiff, Nat.reduceAdd, List.length_nil, Int.cast_ofNat_Int]
  · have hpos : 0 < l.length := List.length_pos_iff.2 hne
    have key := c_named_Vertex_more l hl hpos
    have l1 : E (call F) 0 f35_l1 (⟨(upd (upd (upd (upd (upd Sx.e0 10 (.v (.int .i64 (0)))) 9 (.v (.int .i64 ((l.length : Int))))) 8 (.v (.sl .shared 5 (rowsBy Vx.c l)))) 5 (.v (.sl (.tight 35) 2 []))) 1 (.v (.fn 36 []))), Sx.h0⟩ : St) = some (.exit 0, (⟨(upd Sx.e0 5 (.s 5 0 (l.map Vx.id).length)), (upd Sx.h0 5 (some (.arr false 35 2 (rowsBy ID.c (l.map Vx.id)))))⟩ : St)) := by
      rw [f35_l1_eq]
      have z1 : decide ((0 : Int) < (l.length : Int)) = true := decide_eq_true (by omega)
      have z2 : (0 : Int) < (l.length : Int) := by omega
      have hv := i_vertexID l[0]
      have e1 : (l.take 1).map Vx.id = [l[0].id] := by rw [List.take_succ_eq_append_getElem hpos]; simp
      rw [e1] at key
      simp only [List.length_cons, List.length_nil, rowsBy_cons, rowsBy_nil, ID.c] at key
      simp only [f35_b1, z2, rowsBy_get Vx.c hpos, Vx.c, hv, show IntKind.i64.wrap 1 = 1 from rfl, go_sem, reduceIte, Nat.reduceEqDiff, Nat.reduceAdd, Nat.reduceMul, Nat.reduceLeDiff, List.length_cons, List.length_nil, Int.reduceAdd, Int.reduceToNat]
      exact key
    rw [call_code F (show F 35 = some (.code f35) from rfl)]
    simp only [f35, l1, go_sem, reduceIte, reduceCtorEq, Nat.reduceEqDiff, Nat.reduceAdd]
theorem c_named_Edge_more (l : List Ed) (hl : Fits l) (hne : 0 < l.length) : E (call F) 0 f37_l1 (⟨(upd (upd (upd (upd (upd Sx.e0 10 (.v (.int .i64 (1)))) 9 (.v (.int .i64 ((l.length : Int))))) 8 (.v (.sl .shared 4 (rowsBy Ed.c l)))) 5 (.s 5 0 ((l.take 1).map Ed.id).length)) 1 (.v (.fn 38 []))), (upd Sx.h0 5 (some (.arr false 35 2 (rowsBy ID.c ((l.take 1).map Ed.id)))))⟩ : St) = some (.exit 0, (⟨(upd Sx.e0 5 (.s 5 0 (l.map Ed.id).length)), (upd Sx.h0 5 (some (.arr false 35 2 (rowsBy ID.c (l.map Ed.id)))))⟩ : St)) := by
  have hle := hl.le
  have key := loop_to (C := call F) (lo := 0) (b := f37_b1) (fun i => (⟨(upd (upd (upd (upd (upd Sx.e0 10 (.v (.int .i64 (((i + 1 : Nat) : Int))))) 9 (.v (.int .i64 ((l.length : Int))))) 8 (.v (.sl .shared 4 (rowsBy Ed.c l)))) 5 (.s 5 0 ((l.take (i + 1)).map Ed.id).length)) 1 (.v (.fn 38 []))), (upd Sx.h0 5 (some (.arr false 35 2 (rowsBy ID.c ((l.take (i + 1)).map Ed.id)))))⟩ : St)) (l.length - 1) (r := (.exit 0, (⟨(upd Sx.e0 5 (.s 5 0 (l.map Ed.id).length)), (upd Sx.h0 5 (some (.arr false 35 2 (rowsBy ID.c (l.map Ed.id)))))⟩ : St))) ?_ ?_ (by simp)
  · exact key
  · intro i hi
    have h1 : i + 1 < l.length := by omega
    have h1z : ((i + 1 : Nat) : Int) < (l.length : Int) := by omega
    have hs : (l.take (i + 1 + 1)).map Ed.id = (l.take (i + 1)).map Ed.id ++ [l[i + 1].id] := by rw [List.take_succ_eq_append_getElem h1, List.map_append]; rfl
    have hml : ((l.take (i + 1)).map Ed.id).length ≤ i + 1 := by rw [List.length_map, List.length_take]; omega
    have h5 : (((l.take (i + 1)).map Ed.id).length + 1) * 16 ≤ 140737488355328 := by omega
    rw [hs]
    have e2 : ((l.take (i + 1)).map Ed.id ++ [l[i + 1].id]).length = ((l.take (i + 1)).map Ed.id).length + 1 := by rw [List.length_append]; rfl
    rw [e2]
    generalize (l.take (i + 1)).map Ed.id = m at *
    have e3 : rowsBy ID.c m ++ [[.int .i64 l[i + 1].id.s, .int .i64 l[i + 1].id.n]] = rowsBy ID.c (m ++ [l[i + 1].id]) := rowsBy_snoc ID.c m l[i + 1].id
    have hv := i_edgeID l[i + 1]
    simp only [f37_b1, h1z, rowsBy_get Ed.c h1, Ed.c, hv, h5, e3, wrap_succ h1 (show l.length ≤ 9223372036854775807 by omega), List.take_length, go_sem, reduceIte, Nat.reduceEqDiff, Nat.reduceAdd, Nat.reduceMul, Nat.reduceLeDiff, List.length_cons, List.length_nil]
  · rw [show l.length - 1 + 1 = l.length by omega, List.take_length]
    simp only [f37_b1, dec_ge (Nat.le_refl l.length), go_sem, reduceIte, Nat.reduceEqDiff]
theorem c_named_Edge (l : List Ed) (hl : Fits l) : call F 37 [.sl .shared 4 (rowsBy Ed.c l), .fn 38 []] = some (.sl (.own 35) 2 (rowsBy ID.c (l.map Ed.id))) := by
  by_cases hne : l = []
  · subst hne
    have l1 : E (call F) 0 f37_l1 (⟨(upd (upd (upd (upd (upd Sx.e0 10 (.v (.int .i64 (0)))) 9 (.v (.int .i64 (0)))) 8 (.v (.sl .shared 4 []))) 5 (.v (.sl (.tight 35) 2 []))) 1 (.v (.fn 38 []))), Sx.h0⟩ : St) = some (.exit 0, (⟨(upd Sx.e0 5 (.v (.sl (.tight 35) 2 []))), (upd Sx.h0 5 (none))⟩ : St)) := by
      rw [f37_l1_eq]
      simp only [f37_b1, go_sem, reduceIte, Nat.reduceEqDiff, Int.reduceLT]
    show call F 37 [.sl .shared 4 [], .fn 38 []] = some (.sl (.own 35) 2 [])
    rw [call_code F (show F 37 = some (.code f37) from rfl)]
    simp only [f37, l1, go_sem, reduceIte, reduceCtorEq, Nat.reduceEqDiff, Nat.reduceAdd, List.length_nil, Int.cast_ofNat_Int]
  · have hpos : 0 < l.length := List.length_pos_iff.2 hne
    have key := c_named_Edge_more l hl hpos
    have l1 : E (call F) 0 f37_l1 (⟨(upd (upd (upd (upd (upd Sx.e0 10 (.v (.int .i64 (0)))) 9 (.v (.int .i64 ((l.length : Int))))) 8 (.v (.sl .shared 4 (rowsBy Ed.c l)))) 5 (.v (.sl (.tight 35) 2 []))) 1 (.v (.fn 38 []))), Sx.h0⟩ : St) = some (.exit 0, (⟨(upd Sx.e0 5 (.s 5 0 (l.map Ed.id).length)), (upd Sx.h0 5 (some (.arr false 35 2 (rowsBy ID.c (l.map Ed.id)))))⟩ : St)) := by
      rw [f37_l1_eq]
      have z1 : decide ((0 : Int) < (l.length : Int)) = true := decide_eq_true (by omega)
      have z2 : (0 : Int) < (l.length : Int) := by omega
      have hv := i_edgeID l[0]
      have e1 : (l.take 1).map Ed.id = [l[0].id] := by rw [List.take_succ_eq_append_getElem hpos]; simp
      rw [e1] at key
      simp only [List.length_cons, List.length_nil, rowsBy_cons, rowsBy_nil, ID.c] at key
      simp only [f37_b1, z2, rowsBy_get Ed.c hpos, Ed.c, hv, show IntKind.i64.wrap 1 = 1 from rfl, go_sem, reduceIte, Nat.reduceEqDiff, Nat.reduceAdd, Nat.reduceMul, Nat.reduceLeDiff, List.length_cons, List.length_nil, Int.reduceAdd, Int.reduceToNat]
      exact key
    rw [call_code F (show F 37 = some (.code f37) from rfl)]
    simp only [f37, l1, go_sem, reduceIte, reduceCtorEq, Nat.reduceEqDiff, Nat.reduceAdd]
def edBy (l : List Ed) (x : ID) : Option Ed := firstBy (fun v => decide (v.id = x)) l
def edT : Option Ed → TV
  | some v => .tup [.agg [.int .i64 v.id.s, .int .i64 v.id.n, .str v.label, .int .i64 v.attr], .bool true]
  | none => .tup [.agg [.int .i64 0, .int .i64 0, .str ⟨#[]⟩, .int .i64 0], .bool false]
theorem i_find_Edge (l : List Ed) (x : ID) (hl : Fits l) : call F 57 [.sl .shared 4 (rowsBy Ed.c l), .fn 38 [], .agg [.int .i64 x.s, .int .i64 x.n]] = some (edT (edBy l x)) := by
  have hle : (l).length ≤ 5864062014634 := hl.le
  have hw : (l).length ≤ 9223372036854775807 := Nat.le_trans hle (by decide)
  have S : ∀ n, n ≤ (l).length → (∀ i, i < n → ∀ hi : i < (l).length, (fun v : Ed => decide (v.id = x)) (l)[i] = false) → ∀ r, E (call F) 0 f57_b1 (⟨(upd (upd (upd (upd (upd (upd Sx.e0 13 (.v (.int .i64 ((n : Int))))) 12 (.v (.int .i64 ((l.length : Int))))) 11 (.v (.sl .shared 4 (rowsBy Ed.c l)))) 6 (.p 6 0)) 5 (.p 5 0)) 1 (.v (.fn 38 []))), (upd (upd Sx.h0 6 (some (.var false [(.v (.int .i64 (0))), (.v (.int .i64 (0))), (.v (.str ⟨#[]⟩)), (.v (.int .i64 (0)))]))) 5 (some (.var false [(.v (.int .i64 (x.s))), (.v (.int .i64 (x.n)))])))⟩ : St) = some r → r.1 ≠ .norm →
      E (call F) 0 f57_l1 (⟨(upd (upd (upd (upd (upd (upd Sx.e0 13 (.v (.int .i64 (0)))) 12 (.v (.int .i64 ((l.length : Int))))) 11 (.v (.sl .shared 4 (rowsBy Ed.c l)))) 6 (.p 6 0)) 5 (.p 5 0)) 1 (.v (.fn 38 []))), (upd (upd Sx.h0 6 (some (.var false [(.v (.int .i64 (0))), (.v (.int .i64 (0))), (.v (.str ⟨#[]⟩)), (.v (.int .i64 (0)))]))) 5 (some (.var false [(.v (.int .i64 (x.s))), (.v (.int .i64 (x.n)))])))⟩ : St) = some r := by
    intro n hn hno r hf hrr
    refine loop_to (b := f57_b1) (fun i => (⟨(upd (upd (upd (upd (upd (upd Sx.e0 13 (.v (.int .i64 ((i : Int))))) 12 (.v (.int .i64 ((l.length : Int))))) 11 (.v (.sl .shared 4 (rowsBy Ed.c l)))) 6 (.p 6 0)) 5 (.p 5 0)) 1 (.v (.fn 38 []))), (upd (upd Sx.h0 6 (some (.var false [(.v (.int .i64 (0))), (.v (.int .i64 (0))), (.v (.str ⟨#[]⟩)), (.v (.int .i64 (0)))]))) 5 (some (.var false [(.v (.int .i64 (x.s))), (.v (.int .i64 (x.n)))])))⟩ : St)) n ?_ hf hrr
    intro i hi
    have h1 : i < (l).length := Nat.lt_of_lt_of_le hi hn
    have h1z : (i : Int) < ((l).length : Int) := Int.ofNat_lt.2 h1
    have hne := hno i hi h1
    have hne' : ¬ l[i].id = x := of_decide_eq_false hne
    have hq1 := dec_f hne'
    have hq2 := dec_f (Ne.symm hne')
    have hv := i_edgeID l[i]
    simp only [f57_b1, h1z, rowsBy_get Ed.c h1, Ed.c, hv, hq1, wrap_succ h1 hw, go_sem, reduceIte, Nat.reduceEqDiff, Nat.reduceAdd, Nat.reduceMul, Nat.reduceLeDiff, List.length_cons, List.length_nil, Nat.testBit, Nat.reduceShiftRight, Nat.reduceAnd, Nat.reduceBNe]
  have S := S ((l).findIdx (fun v : Ed => decide (v.id = x))) List.findIdx_le_length (fun i h1 h2 => findIdx_not h1 h2)
  rcases findIdx_cases (fun v : Ed => decide (v.id = x)) (l) with h0 | ⟨hlt, hp⟩
  · rw [h0] at S
    have := S _ (by simp only [f57_b1, dec_ge (Nat.le_refl (l).length), go_sem, reduceIte, Nat.reduceEqDiff]
                    rfl) (by simp)
    rw [edBy, firstBy_none h0, edT]
    rw [call_code F (show F 57 = some (.code f57) from rfl)]
    simp only [f57, this, go_sem, reduceIte, reduceCtorEq, Nat.reduceEqDiff, Nat.reduceAdd, List.length_cons, List.length_nil]
  · rw [edBy, firstBy_some hlt, edT]
    generalize (l).findIdx (fun v : Ed => decide (v.id = x)) = n at *
    have hltz : (n : Int) < ((l).length : Int) := Int.ofNat_lt.2 hlt
    have hp' : l[n].id = x := of_decide_eq_true hp
    have hv := i_edgeID l[n]
    have hq1 := dec_t hp'
    have hq2 := dec_t hp'.symm
    have := S _ (by simp only [f57_b1, hltz, rowsBy_get Ed.c hlt, Ed.c, hv, hq1, go_sem, reduceIte, Nat.reduceEqDiff, Nat.reduceAdd, Nat.reduceMul, Nat.reduceLeDiff, List.length_cons, List.length_nil, Nat.testBit, Nat.reduceShiftRight, Nat.reduceAnd, Nat.reduceBNe]
                    rfl) (by simp)
    rw [call_code F (show F 57 = some (.code f57) from rfl)]
    simp only [f57, this, go_sem, reduceIte, reduceCtorEq, Nat.reduceEqDiff, Nat.reduceAdd, List.length_cons, List.length_nil]
theorem i_diagram_Edge (l : List Ed) (x : ID) (hl : Fits l) (vs : List Vx) : call F 26 [.agg [.sl .shared 5 (rowsBy Vx.c vs), .sl .shared 4 (rowsBy Ed.c l)], .agg [.int .i64 x.s, .int .i64 x.n]] = some (edT (edBy l x)) := by
  have hv := i_find_Edge l x hl
  cases hc : edBy l x with
  | none =>
    rw [hc] at hv
    simp only [edT] at hv ⊢
    rw [call_code F (show F 26 = some (.code f26) from rfl)]
    simp only [f26, hv, go_sem, reduceIte, reduceCtorEq, Nat.reduceEqDiff, Nat.reduceAdd, Nat.reduceMul, Nat.reduceLeDiff, List.length_cons, List.length_nil]
  | some v =>
    rw [hc] at hv
    simp only [edT] at hv ⊢
    rw [call_code F (show F 26 = some (.code f26) from rfl)]
    simp only [f26, hv, go_sem, reduceIte, reduceCtorEq, Nat.reduceEqDiff, Nat.reduceAdd, Nat.reduceMul, Nat.reduceLeDiff, List.length_cons, List.length_nil]
theorem i_r04_Edge (l : List Ed) (x : ID) (hl : Fits l) (vs : List Vx) : call F 29 [.agg [.sl .shared 5 (rowsBy Vx.c vs), .sl .shared 4 (rowsBy Ed.c l)], .agg [.int .i64 x.s, .int .i64 x.n]] = some (edT (edBy l x)) := by
  have hle : (l).length ≤ 5864062014634 := hl.le
  have hw : (l).length ≤ 9223372036854775807 := Nat.le_trans hle (by decide)
  have S : ∀ n, n ≤ (l).length → (∀ i, i < n → ∀ hi : i < (l).length, (fun v : Ed => decide (v.id = x)) (l)[i] = false) → ∀ r, E (call F) 0 f29_b1 (⟨(upd (upd (upd (upd Sx.e0 6 (.v (.int .i64 ((n : Int))))) 4 (.p 4 0)) 3 (.p 3 0)) 2 (.p 2 0)), (upd (upd (upd Sx.h0 4 (some (.var false [(.v (.int .i64 (0))), (.v (.int .i64 (0))), (.v (.str ⟨#[]⟩)), (.v (.int .i64 (0)))]))) 3 (some (.var false [(.v (.int .i64 (x.s))), (.v (.int .i64 (x.n)))]))) 2 (some (.var false [(.v (.sl .shared 5 (rowsBy Vx.c vs))), (.v (.sl .shared 4 (rowsBy Ed.c l)))])))⟩ : St) = some r → r.1 ≠ .norm →
      E (call F) 0 f29_l1 (⟨(upd (upd (upd (upd Sx.e0 6 (.v (.int .i64 (0)))) 4 (.p 4 0)) 3 (.p 3 0)) 2 (.p 2 0)), (upd (upd (upd Sx.h0 4 (some (.var false [(.v (.int .i64 (0))), (.v (.int .i64 (0))), (.v (.str ⟨#[]⟩)), (.v (.int .i64 (0)))]))) 3 (some (.var false [(.v (.int .i64 (x.s))), (.v (.int .i64 (x.n)))]))) 2 (some (.var false [(.v (.sl .shared 5 (rowsBy Vx.c vs))), (.v (.sl .shared 4 (rowsBy Ed.c l)))])))⟩ : St) = some r := by
    intro n hn hno r hf hrr
    refine loop_to (b := f29_b1) (fun i => (⟨(upd (upd (upd (upd Sx.e0 6 (.v (.int .i64 ((i : Int))))) 4 (.p 4 0)) 3 (.p 3 0)) 2 (.p 2 0)), (upd (upd (upd Sx.h0 4 (some (.var false [(.v (.int .i64 (0))), (.v (.int .i64 (0))), (.v (.str ⟨#[]⟩)), (.v (.int .i64 (0)))]))) 3 (some (.var false [(.v (.int .i64 (x.s))), (.v (.int .i64 (x.n)))]))) 2 (some (.var false [(.v (.sl .shared 5 (rowsBy Vx.c vs))), (.v (.sl .shared 4 (rowsBy Ed.c l)))])))⟩ : St)) n ?_ hf hrr
    intro i hi
    have h1 : i < (l).length := Nat.lt_of_lt_of_le hi hn
    have h1z : (i : Int) < ((l).length : Int) := Int.ofNat_lt.2 h1
    have hne := hno i hi h1
    have hne' : ¬ l[i].id = x := of_decide_eq_false hne
    have hq1 := dec_f hne'
    have hq2 := dec_f (Ne.symm hne')
    simp only [f29_b1, h1z, rowsBy_get Ed.c h1, Ed.c, hq1, wrap_succ h1 hw, go_sem, reduceIte, Nat.reduceEqDiff, Nat.reduceAdd, Nat.reduceLeDiff, List.length_cons, List.length_nil, Nat.testBit, Nat.reduceShiftRight, Nat.reduceAnd, Nat.reduceBNe]
  have S := S ((l).findIdx (fun v : Ed => decide (v.id = x))) List.findIdx_le_length (fun i h1 h2 => findIdx_not h1 h2)
  rcases findIdx_cases (fun v : Ed => decide (v.id = x)) (l) with h0 | ⟨hlt, hp⟩
  · rw [h0] at S
    have := S _ (by simp only [f29_b1, dec_ge (Nat.le_refl (l).length), go_sem, reduceIte, Nat.reduceEqDiff, Nat.reduceAdd, List.length_cons, List.length_nil]
                    rfl) (by simp)
    rw [edBy, firstBy_none h0, edT]
    rw [call_code F (show F 29 = some (.code f29) from rfl)]
    simp only [f29, this, go_sem, reduceIte, reduceCtorEq, Nat.reduceEqDiff, Nat.reduceAdd, List.length_cons, List.length_nil]
  · rw [edBy, firstBy_some hlt, edT]
    generalize (l).findIdx (fun v : Ed => decide (v.id = x)) = n at *
    have hltz : (n : Int) < ((l).length : Int) := Int.ofNat_lt.2 hlt
    have hp' : l[n].id = x := of_decide_eq_true hp
    have hq1 := dec_t hp'
    have hq2 := dec_t hp'.symm
    have := S _ (by simp only [f29_b1, hltz, rowsBy_get Ed.c hlt, Ed.c, hq1, go_sem, reduceIte, Nat.reduceEqDiff, Nat.reduceAdd, Nat.reduceLeDiff, List.length_cons, List.length_nil, Nat.testBit, Nat.reduceShiftRight, Nat.reduceAnd, Nat.reduceBNe]
                    rfl) (by simp)
    rw [call_code F (show F 29 = some (.code f29) from rfl)]
    simp only [f29, this, go_sem, reduceIte, reduceCtorEq, Nat.reduceEqDiff, Nat.reduceAdd, List.length_cons, List.length_nil]
theorem mayB_all (s : ByteArray) : mayB s = s.data.toList.all fun b => decide (32 ≤ b.toNat) && decide (b.toNat ≤ 126) := rfl
theorem c_r04_MayLabel (s : ByteArray) (hs : s.size ≤ 9223372036854775807) : call F 15 [.str s] = some (.bool (mayB s && decide ((s.size : Int) ≤ 16))) := by
  have hlen : s.data.toList.length = s.size := by simp
  have S : ∀ n, n ≤ s.size → (∀ i, i < n → ∀ h : i < s.data.toList.length, 32 ≤ (s.data.toList[i]).toNat ∧ (s.data.toList[i]).toNat ≤ 126) → ∀ r, E (call F) 0 f15_b1 (⟨(upd (upd Sx.e0 3 (.v (.int .i64 ((n : Int))))) 0 (.v (.str s))), Sx.h0⟩ : St) = some r → r.1 ≠ .norm →
      E (call F) 0 f15_l1 (⟨(upd (upd Sx.e0 3 (.v (.int .i64 (0)))) 0 (.v (.str s))), Sx.h0⟩ : St) = some r := by
    intro n hn hno r hf hrr
    refine loop_to (b := f15_b1) (fun i => (⟨(upd (upd Sx.e0 3 (.v (.int .i64 ((i : Int))))) 0 (.v (.str s))), Sx.h0⟩ : St)) n ?_ hf hrr
    intro i hi
    have h1 : i < s.size := by omega
    have h2 : i < s.data.toList.length := by omega
    obtain ⟨g1, g2⟩ := hno i hi h2
    have hb : s.data.toList[i]? = some s.data.toList[i] := List.getElem?_eq_getElem h2
    generalize s.data.toList[i] = b at *
    have k1 : decide ((b.toNat : Int) < 32) = false := decide_eq_false (by omega)
    have k2 : decide ((b.toNat : Int) > 126) = false := decide_eq_false (by omega)
    simp only [f15_b1, dec_lt h1, hb, byteR, k1, k2, wrap_succ h1 hs, go_sem, reduceIte, reduceCtorEq, Nat.reduceEqDiff]
  rcases first_cases (fun i => !(decide (32 ≤ (s.data.toList.getD i 0).toNat) && decide ((s.data.toList.getD i 0).toNat ≤ 126))) s.size with hall | ⟨k, hk, hbad, hno⟩
  · have hgood : ∀ i, i < s.size → ∀ h : i < s.data.toList.length, 32 ≤ (s.data.toList[i]).toNat ∧ (s.data.toList[i]).toNat ≤ 126 := by
      intro i hi h
      have := hall i hi
      rw [List.getD_eq_getElem?_getD, List.getElem?_eq_getElem h] at this
      simpa using this
    have S := S s.size (Nat.le_refl _) hgood
    have hm : mayB s = true := by
      rw [mayB_all, List.all_eq_true]
      intro b hb
      obtain ⟨i, hi, rfl⟩ := List.mem_iff_getElem.1 hb
      obtain ⟨g1, g2⟩ := hgood i (by omega) hi
      rw [decide_eq_true g1, decide_eq_true g2]; rfl
    have := S _ (by simp only [f15_b1, dec_ge (Nat.le_refl s.size), go_sem, reduceIte, reduceCtorEq, Nat.reduceEqDiff]
                    rfl) (by simp)
    rw [hm, Bool.true_and]
    rw [call_code F (show F 15 = some (.code f15) from rfl)]
    simp only [f15, this, go_sem, reduceIte, reduceCtorEq, Nat.reduceEqDiff]
  · have hgood : ∀ i, i < k → ∀ h : i < s.data.toList.length, 32 ≤ (s.data.toList[i]).toNat ∧ (s.data.toList[i]).toNat ≤ 126 := by
      intro i hi h
      have := hno i hi
      rw [List.getD_eq_getElem?_getD, List.getElem?_eq_getElem h] at this
      simpa using this
    have S := S k (Nat.le_of_lt hk) hgood
    have h2 : k < s.data.toList.length := by omega
    rw [List.getD_eq_getElem?_getD, List.getElem?_eq_getElem h2] at hbad
    have hb : s.data.toList[k]? = some s.data.toList[k] := List.getElem?_eq_getElem h2
    have hm : mayB s = false := by
      rw [mayB_all, List.all_eq_false]
      refine ⟨s.data.toList[k], List.getElem_mem h2, fun hc => ?_⟩
      simp only [Option.getD_some] at hbad
      rw [hc] at hbad
      cases hbad
    simp only [Option.getD_some] at hbad
    generalize s.data.toList[k] = b at *
    rw [hm, Bool.false_and]
    by_cases g1 : 32 ≤ b.toNat
    · have k1 : decide ((b.toNat : Int) < 32) = false := decide_eq_false (by omega)
      have k2 : decide ((b.toNat : Int) > 126) = true := decide_eq_true (by
        rw [decide_eq_true g1] at hbad
        simp at hbad; omega)
      have := S _ (by simp only [f15_b1, dec_lt hk, hb, byteR, k1, k2, go_sem, reduceIte, reduceCtorEq, Nat.reduceEqDiff]
                      rfl) (by simp)
      rw [call_code F (show F 15 = some (.code f15) from rfl)]
      simp only [f15, this, go_sem, reduceIte, reduceCtorEq]
    · have k1 : decide ((b.toNat : Int) < 32) = true := decide_eq_true (by omega)
      have := S _ (by simp only [f15_b1, dec_lt hk, hb, byteR, k1, go_sem, reduceIte, reduceCtorEq, Nat.reduceEqDiff]
                      rfl) (by simp)
      rw [call_code F (show F 15 = some (.code f15) from rfl)]
      simp only [f15, this, go_sem, reduceIte, reduceCtorEq]
/-- how often a dart stands in rings -/
def timesN (l : List Vx) (x : Dart) : Nat := (l.map fun v => v.ring.count x).sum
theorem count_succ {r : List Dart} {k : Nat} (x : Dart) (h : k < r.length) : (r.take (k + 1)).count x = (r.take k).count x + (if r[k] = x then 1 else 0) := by
  rw [List.take_succ_eq_append_getElem h, List.count_append, List.count_singleton]
  congr 1
  by_cases e : r[k] = x <;> simp [e]
theorem timesN_succ {l : List Vx} {i : Nat} (x : Dart) (h : i < l.length) : timesN (l.take (i + 1)) x = timesN (l.take i) x + l[i].ring.count x := by
  unfold timesN
  rw [List.take_succ_eq_append_getElem h, List.map_append, List.sum_append]; simp
theorem timesN_le {l : List Vx} (hr : FitsR l) (x : Dart) : ∀ i, timesN (l.take i) x ≤ i * 5864062014634
  | 0 => by simp [timesN]
  | i + 1 => by
    have := timesN_le hr x i
    by_cases h : i < l.length
    · rw [timesN_succ x h]
      have h1 : l[i].ring.count x ≤ l[i].ring.length := List.count_le_length
      have h2 := (hr _ (List.getElem_mem h)).le
      omega
    · rw [List.take_of_length_le (by omega), ← List.take_of_length_le (show l.length ≤ i by omega)]; exact Nat.le_trans this (Nat.mul_le_mul_right _ (Nat.le_succ i))
theorem times_bound {i n c : Nat} (h : c ≤ i * 5864062014634) (hi : i < n) (hn : n ≤ 100000) : c ≤ 600000000000000000 := by omega
theorem times_l2 (l : List Vx) (es : List Ed) (x : Dart) (i m : Nat) (hi : i < l.length) (hr : Fits l[i].ring) (hm : m ≤ 600000000000000000) : E (call F) 0 f66_l2 (⟨(upd (upd (upd (upd (upd Sx.e0 7 (.v (.int .i64 (0)))) 6 (.v (.int .i64 ((i : Int))))) 5 (.v (.int .i64 ((m : Int))))) 3 (.p 3 0)) 2 (.p 2 0)), (upd (upd Sx.h0 3 (some (.var false [.v (.int .i64 x.e.s), .v (.int .i64 x.e.n), .v (.int .i64 x.d)]))) 2 (some (.var false [.v (.sl .shared 5 (rowsBy Vx.c l)), .v (.sl .shared 4 (rowsBy Ed.c es))])))⟩ : St) =
    some (.exit 2, (⟨(upd (upd (upd (upd Sx.e0 6 (.v (.int .i64 ((i : Int))))) 5 (.v (.int .i64 (((m + l[i].ring.count x : Nat) : Int))))) 3 (.p 3 0)) 2 (.p 2 0)), (upd (upd Sx.h0 3 (some (.var false [.v (.int .i64 x.e.s), .v (.int .i64 x.e.n), .v (.int .i64 x.d)]))) 2 (some (.var false [.v (.sl .shared 5 (rowsBy Vx.c l)), .v (.sl .shared 4 (rowsBy Ed.c es))])))⟩ : St)) := by
  have hle := hr.le
  have hiz : (i : Int) < (l.length : Int) := by omega
  have key := loop_to (C := call F) (lo := 0) (b := f66_b2) (fun k => (⟨(upd (upd (upd (upd (upd Sx.e0 7 (.v (.int .i64 ((k : Int))))) 6 (.v (.int .i64 ((i : Int))))) 5 (.v (.int .i64 (((m + (l[i].ring.take k).count x : Nat) : Int))))) 3 (.p 3 0)) 2 (.p 2 0)), (upd (upd Sx.h0 3 (some (.var false [.v (.int .i64 x.e.s), .v (.int .i64 x.e.n), .v (.int .i64 x.d)]))) 2 (some (.var false [.v (.sl .shared 5 (rowsBy Vx.c l)), .v (.sl .shared 4 (rowsBy Ed.c es))])))⟩ : St)) l[i].ring.length (r := (.exit 2, (⟨(upd (upd (upd (upd Sx.e0 6 (.v (.int .i64 ((i : Int))))) 5 (.v (.int .i64 (((m + l[i].ring.count x : Nat) : Int))))) 3 (.p 3 0)) 2 (.p 2 0)), (upd (upd Sx.h0 3 (some (.var false [.v (.int .i64 x.e.s), .v (.int .i64 x.e.n), .v (.int .i64 x.d)]))) 2 (some (.var false [.v (.sl .shared 5 (rowsBy Vx.c l)), .v (.sl .shared 4 (rowsBy Ed.c es))])))⟩ : St))) ?_ ?_ (by simp)
  · have e0 : m + (l[i].ring.take 0).count x = m := by simp
    simp only [e0] at key
    exact key
  · intro k hk
    have hkz : (k : Int) < (l[i].ring.length : Int) := by omega
    have hc : (l[i].ring.take k).count x ≤ l[i].ring.length := by
      have h1 : (l[i].ring.take k).count x ≤ (l[i].ring.take k).length := List.count_le_length
      rw [List.length_take] at h1; omega
    have hs := count_succ x hk
    have hw : l[i].ring.length ≤ 9223372036854775807 := by omega
    by_cases e : l[i].ring[k] = x
    · rw [if_pos e] at hs
      rw [hs, ← Nat.add_assoc]
      have hm2 : m + (l[i].ring.take k).count x < 700000000000000000 := by omega
      generalize m + (l[i].ring.take k).count x = c at *
      simp only [f66_b2, rowsBy_get Vx.c hi, Vx.c, hkz, rowsBy_get Dart.c hk, Dart.c, dec_t e, wrap_succ hk hw, wrap_succ hm2 (show 700000000000000000 ≤ 9223372036854775807 by omega), go_sem, reduceIte, Nat.reduceEqDiff, Nat.reduceAdd, Nat.reduceLeDiff, List.length_cons, List.length_nil, Nat.testBit, Nat.reduceShiftRight, Nat.reduceAnd, Nat.reduceBNe]
    · rw [if_neg e] at hs
      rw [hs, Nat.add_zero]
      generalize m + (l[i].ring.take k).count x = c at *
      simp only [f66_b2, rowsBy_get Vx.c hi, Vx.c, hkz, rowsBy_get Dart.c hk, Dart.c, dec_f e, wrap_succ hk hw, go_sem, reduceIte, Nat.reduceEqDiff, Nat.reduceAdd, Nat.reduceLeDiff, List.length_cons, List.length_nil, Nat.testBit, Nat.reduceShiftRight, Nat.reduceAnd, Nat.reduceBNe]
  · rw [List.take_length]
    simp only [f66_b2, rowsBy_get Vx.c hi, Vx.c, dec_ge (Nat.le_refl l[i].ring.length), go_sem, reduceIte, Nat.reduceEqDiff, Nat.reduceAdd, Nat.reduceLeDiff, List.length_cons, List.length_nil]
theorem i_times (l : List Vx) (es : List Ed) (x : Dart) (hl : l.length ≤ 100000) (hr : FitsR l) : call F 66 [.agg [.sl .shared 5 (rowsBy Vx.c l), .sl .shared 4 (rowsBy Ed.c es)], .agg [.int .i64 x.e.s, .int .i64 x.e.n, .int .i64 x.d]] = some (.int .i64 (timesN l x : Nat)) := by
  have hle := hl
  have l1 : E (call F) 0 f66_l1 (⟨(upd (upd (upd (upd Sx.e0 6 (.v (.int .i64 (0)))) 5 (.v (.int .i64 (0)))) 3 (.p 3 0)) 2 (.p 2 0)), (upd (upd Sx.h0 3 (some (.var false [.v (.int .i64 x.e.s), .v (.int .i64 x.e.n), .v (.int .i64 x.d)]))) 2 (some (.var false [.v (.sl .shared 5 (rowsBy Vx.c l)), .v (.sl .shared 4 (rowsBy Ed.c es))])))⟩ : St) = some (.exit 0, (⟨(upd Sx.e0 5 (.v (.int .i64 ((timesN l x : Int))))), Sx.h0⟩ : St)) := by
    refine loop_to (b := f66_b1) (fun i => (⟨(upd (upd (upd (upd Sx.e0 6 (.v (.int .i64 ((i : Int))))) 5 (.v (.int .i64 (((timesN (l.take i) x : Nat) : Int))))) 3 (.p 3 0)) 2 (.p 2 0)), (upd (upd Sx.h0 3 (some (.var false [.v (.int .i64 x.e.s), .v (.int .i64 x.e.n), .v (.int .i64 x.d)]))) 2 (some (.var false [.v (.sl .shared 5 (rowsBy Vx.c l)), .v (.sl .shared 4 (rowsBy Ed.c es))])))⟩ : St)) l.length ?_ ?_ (by simp)
    · intro i hi
      have hiz : (i : Int) < (l.length : Int) := by omega
      have hb := timesN_le hr x i
      have l2 := times_l2 l es x i (timesN (l.take i) x) hi (hr _ (List.getElem_mem hi)) (times_bound hb hi hle)
      rw [timesN_succ x hi]
      generalize timesN (l.take i) x = m at *
      simp only [f66_b1, hiz, l2, wrap_succ hi (show l.length ≤ 9223372036854775807 by omega), go_sem, reduceIte, Nat.reduceEqDiff, Nat.reduceAdd, Nat.reduceLeDiff, List.length_cons, List.length_nil]
    · rw [List.take_length]
      simp only [f66_b1, dec_ge (Nat.le_refl l.length), go_sem, reduceIte, Nat.reduceEqDiff, Nat.reduceAdd, Nat.reduceLeDiff, List.length_cons, List.length_nil]
  rw [call_code F (show F 66 = some (.code f66) from rfl)]
  simp only [f66, l1, go_sem, reduceIte, reduceCtorEq, Nat.reduceEqDiff, Nat.reduceAdd, List.length_cons, List.length_nil]
theorem i_IndexFunc_Vx (l : List Vx) (f : FuncId) (g : FuncId) (hl : Fits l) (p : Vx → Bool) (hp0 : ∀ v, v ∈ l → call F f (.agg [.int .i64 v.id.s, .int .i64 v.id.n, .sl .shared 3 (rowsBy Dart.c v.ring), .str v.label, .int .i64 v.attr] :: [.pc [.fn g []]]) = some (.bool (p v))) : call F 74 [.sl .shared 5 (rowsBy Vx.c l), .fn f [.pc [.fn g []]]] = some (.int .i64 (if l.findIdx p = l.length then -1 else ((l.findIdx p : Nat) : Int))) := by
  have hle : (l).length ≤ 5864062014634 := hl.le
  have hw : (l).length ≤ 9223372036854775807 := Nat.le_trans hle (by decide)
  have S : ∀ n, n ≤ (l).length → (∀ i, i < n → ∀ hi : i < (l).length, p (l)[i] = false) → ∀ r, E (call F) 0 f74_b1 (⟨(upd (upd (upd (upd Sx.e0 8 (.v (.int .i64 ((n : Int))))) 7 (.v (.int .i64 ((l.length : Int))))) 1 (.v (.fn f [.pc [.fn g []]]))) 0 (.v (.sl .shared 5 (rowsBy Vx.c l)))), Sx.h0⟩ : St) = some r → r.1 ≠ .norm →
      E (call F) 0 f74_l1 (⟨(upd (upd (upd (upd Sx.e0 8 (.v (.int .i64 (0)))) 7 (.v (.int .i64 ((l.length : Int))))) 1 (.v (.fn f [.pc [.fn g []]]))) 0 (.v (.sl .shared 5 (rowsBy Vx.c l)))), Sx.h0⟩ : St) = some r := by
    intro n hn hno r hf hrr
    refine loop_to (b := f74_b1) (fun i => (⟨(upd (upd (upd (upd Sx.e0 8 (.v (.int .i64 ((i : Int))))) 7 (.v (.int .i64 ((l.length : Int))))) 1 (.v (.fn f [.pc [.fn g []]]))) 0 (.v (.sl .shared 5 (rowsBy Vx.c l)))), Sx.h0⟩ : St)) n ?_ hf hrr
    intro i hi
    have h1 : i < (l).length := Nat.lt_of_lt_of_le hi hn
    have h1z : (i : Int) < ((l).length : Int) := Int.ofNat_lt.2 h1
    have hne := hno i hi h1
    have hv := hp0 l[i] (List.getElem_mem h1)
    rw [hne] at hv
    simp only [f74_b1, h1z, rowsBy_get Vx.c h1, Vx.c, hv, wrap_succ h1 hw, go_sem, reduceIte, reduceCtorEq, Nat.reduceEqDiff, Nat.reduceAdd, Nat.reduceMul, List.length_cons, List.length_nil]
  have S := S ((l).findIdx p) List.findIdx_le_length (fun i h1 h2 => findIdx_not h1 h2)
  rcases findIdx_cases p (l) with h0 | ⟨hlt, hp⟩
  · rw [h0] at S
    have := S _ (by simp only [f74_b1, dec_ge (Nat.le_refl (l).length), go_sem, reduceIte, reduceCtorEq, Nat.reduceEqDiff]
                    rfl) (by simp)
    rw [if_pos h0]
    rw [call_code F (show F 74 = some (.code f74) from rfl)]
    simp only [f74, this, go_sem, reduceIte, reduceCtorEq, Nat.reduceEqDiff, Nat.reduceAdd, Int.reduceNeg]
  · rw [if_neg (show ¬ l.findIdx p = l.length by omega)]
    generalize (l).findIdx p = n at *
    have hltz : (n : Int) < ((l).length : Int) := Int.ofNat_lt.2 hlt
    have hv := hp0 l[n] (List.getElem_mem hlt)
    rw [hp] at hv
    have := S _ (by simp only [f74_b1, hltz, rowsBy_get Vx.c hlt, Vx.c, hv, go_sem, reduceIte, reduceCtorEq, Nat.reduceEqDiff, Nat.reduceAdd, Nat.reduceMul, List.length_cons, List.length_nil]
                    rfl) (by simp)
    rw [call_code F (show F 74 = some (.code f74) from rfl)]
    simp only [f74, this, go_sem, reduceIte, reduceCtorEq, Nat.reduceEqDiff, Nat.reduceAdd, Int.reduceNeg]
theorem i_ContainsFunc_Vx (l : List Vx) (f : FuncId) (g : FuncId) (hl : Fits l) (p : Vx → Bool) (hp0 : ∀ v, v ∈ l → call F f (.agg [.int .i64 v.id.s, .int .i64 v.id.n, .sl .shared 3 (rowsBy Dart.c v.ring), .str v.label, .int .i64 v.attr] :: [.pc [.fn g []]]) = some (.bool (p v))) : call F 61 [.sl .shared 5 (rowsBy Vx.c l), .fn f [.pc [.fn g []]]] = some (.bool (l.any p)) := by
  have ix := i_IndexFunc_Vx l f g hl p hp0
  rcases findIdx_cases p l with h0 | ⟨hlt, hp⟩
  · rw [if_pos h0] at ix
    rw [show l.any p = false by
      rw [List.any_eq_false]
      intro v hv
      obtain ⟨i, hi, rfl⟩ := List.mem_iff_getElem.1 hv
      rw [findIdx_not (p := p) (by omega) hi]; simp]
    rw [call_code F (show F 61 = some (.code f61) from rfl)]
    simp only [f61, ix, go_sem, reduceIte, reduceCtorEq, Nat.reduceEqDiff, Nat.reduceAdd, Nat.reduceMul, Int.reduceGE, Int.reduceNeg]
  · rw [if_neg (show ¬ l.findIdx p = l.length by omega)] at ix
    rw [show l.any p = true by rw [List.any_eq_true]; exact ⟨_, List.getElem_mem hlt, hp⟩]
    have hq : decide (((l.findIdx p : Nat) : Int) ≥ 0) = true := by simp
    generalize l.findIdx p = n at *
    rw [call_code F (show F 61 = some (.code f61) from rfl)]
    simp only [f61, ix, go_sem, reduceIte, reduceCtorEq, Nat.reduceEqDiff, Nat.reduceAdd, Nat.reduceMul]
theorem i_IndexFunc_Ed (l : List Ed) (f : FuncId) (g : FuncId) (hl : Fits l) (p : Ed → Bool) (hp0 : ∀ v, v ∈ l → call F f (.agg [.int .i64 v.id.s, .int .i64 v.id.n, .str v.label, .int .i64 v.attr] :: [.pc [.fn g []]]) = some (.bool (p v))) : call F 75 [.sl .shared 4 (rowsBy Ed.c l), .fn f [.pc [.fn g []]]] = some (.int .i64 (if l.findIdx p = l.length then -1 else ((l.findIdx p : Nat) : Int))) := by
  have hle : (l).length ≤ 5864062014634 := hl.le
  have hw : (l).length ≤ 9223372036854775807 := Nat.le_trans hle (by decide)
  have S : ∀ n, n ≤ (l).length → (∀ i, i < n → ∀ hi : i < (l).length, p (l)[i] = false) → ∀ r, E (call F) 0 f75_b1 (⟨(upd (upd (upd (upd Sx.e0 8 (.v (.int .i64 ((n : Int))))) 7 (.v (.int .i64 ((l.length : Int))))) 1 (.v (.fn f [.pc [.fn g []]]))) 0 (.v (.sl .shared 4 (rowsBy Ed.c l)))), Sx.h0⟩ : St) = some r → r.1 ≠ .norm →
      E (call F) 0 f75_l1 (⟨(upd (upd (upd (upd Sx.e0 8 (.v (.int .i64 (0)))) 7 (.v (.int .i64 ((l.length : Int))))) 1 (.v (.fn f [.pc [.fn g []]]))) 0 (.v (.sl .shared 4 (rowsBy Ed.c l)))), Sx.h0⟩ : St) = some r := by
    intro n hn hno r hf hrr
    refine loop_to (b := f75_b1) (fun i => (⟨(upd (upd (upd (upd Sx.e0 8 (.v (.int .i64 ((i : Int))))) 7 (.v (.int .i64 ((l.length : Int))))) 1 (.v (.fn f [.pc [.fn g []]]))) 0 (.v (.sl .shared 4 (rowsBy Ed.c l)))), Sx.h0⟩ : St)) n ?_ hf hrr
    intro i hi
    have h1 : i < (l).length := Nat.lt_of_lt_of_le hi hn
    have h1z : (i : Int) < ((l).length : Int) := Int.ofNat_lt.2 h1
    have hne := hno i hi h1
    have hv := hp0 l[i] (List.getElem_mem h1)
    rw [hne] at hv
    simp only [f75_b1, h1z, rowsBy_get Ed.c h1, Ed.c, hv, wrap_succ h1 hw, go_sem, reduceIte, reduceCtorEq, Nat.reduceEqDiff, Nat.reduceAdd, Nat.reduceMul, List.length_cons, List.length_nil]
  have S := S ((l).findIdx p) List.findIdx_le_length (fun i h1 h2 => findIdx_not h1 h2)
  rcases findIdx_cases p (l) with h0 | ⟨hlt, hp⟩
  · rw [h0] at S
    have := S _ (by simp only [f75_b1, dec_ge (Nat.le_refl (l).length), go_sem, reduceIte, reduceCtorEq, Nat.reduceEqDiff]
                    rfl) (by simp)
    rw [if_pos h0]
    rw [call_code F (show F 75 = some (.code f75) from rfl)]
    simp only [f75, this, go_sem, reduceIte, reduceCtorEq, Nat.reduceEqDiff, Nat.reduceAdd, Int.reduceNeg]
  · rw [if_neg (show ¬ l.findIdx p = l.length by omega)]
    generalize (l).findIdx p = n at *
    have hltz : (n : Int) < ((l).length : Int) := Int.ofNat_lt.2 hlt
    have hv := hp0 l[n] (List.getElem_mem hlt)
    rw [hp] at hv
    have := S _ (by simp only [f75_b1, hltz, rowsBy_get Ed.c hlt, Ed.c, hv, go_sem, reduceIte, reduceCtorEq, Nat.reduceEqDiff, Nat.reduceAdd, Nat.reduceMul, List.length_cons, List.length_nil]
                    rfl) (by simp)
    rw [call_code F (show F 75 = some (.code f75) from rfl)]
    simp only [f75, this, go_sem, reduceIte, reduceCtorEq, Nat.reduceEqDiff, Nat.reduceAdd, Int.reduceNeg]
theorem i_ContainsFunc_Ed (l : List Ed) (f : FuncId) (g : FuncId) (hl : Fits l) (p : Ed → Bool) (hp0 : ∀ v, v ∈ l → call F f (.agg [.int .i64 v.id.s, .int .i64 v.id.n, .str v.label, .int .i64 v.attr] :: [.pc [.fn g []]]) = some (.bool (p v))) : call F 63 [.sl .shared 4 (rowsBy Ed.c l), .fn f [.pc [.fn g []]]] = some (.bool (l.any p)) := by
  have ix := i_IndexFunc_Ed l f g hl p hp0
  rcases findIdx_cases p l with h0 | ⟨hlt, hp⟩
  · rw [if_pos h0] at ix
    rw [show l.any p = false by
      rw [List.any_eq_false]
      intro v hv
      obtain ⟨i, hi, rfl⟩ := List.mem_iff_getElem.1 hv
      rw [findIdx_not (p := p) (by omega) hi]; simp]
    rw [call_code F (show F 63 = some (.code f63) from rfl)]
    simp only [f63, ix, go_sem, reduceIte, reduceCtorEq, Nat.reduceEqDiff, Nat.reduceAdd, Nat.reduceMul, Int.reduceGE, Int.reduceNeg]
  · rw [if_neg (show ¬ l.findIdx p = l.length by omega)] at ix
    rw [show l.any p = true by rw [List.any_eq_true]; exact ⟨_, List.getElem_mem hlt, hp⟩]
    have hq : decide (((l.findIdx p : Nat) : Int) ≥ 0) = true := by simp
    generalize l.findIdx p = n at *
    rw [call_code F (show F 63 = some (.code f63) from rfl)]
    simp only [f63, ix, go_sem, reduceIte, reduceCtorEq, Nat.reduceEqDiff, Nat.reduceAdd, Nat.reduceMul]
theorem i_some1 (v : Vx) (g : FuncId) (b : Bool) (hg : call F g [.str v.label, .int .i64 v.attr] = some (.bool b)) : call F 62 [.agg [.int .i64 v.id.s, .int .i64 v.id.n, .sl .shared 3 (rowsBy Dart.c v.ring), .str v.label, .int .i64 v.attr], .pc [.fn g []]] = some (.bool b) := by
  rw [call_code F (show F 62 = some (.code f62) from rfl)]
  simp only [f62, hg, go_sem, reduceIte, reduceCtorEq, Nat.reduceEqDiff, Nat.reduceAdd, Nat.reduceMul, Nat.reduceLeDiff, List.length_cons, List.length_nil]
theorem i_some2 (v : Ed) (g : FuncId) (b : Bool) (hg : call F g [.str v.label, .int .i64 v.attr] = some (.bool b)) : call F 64 [.agg [.int .i64 v.id.s, .int .i64 v.id.n, .str v.label, .int .i64 v.attr], .pc [.fn g []]] = some (.bool b) := by
  rw [call_code F (show F 64 = some (.code f64) from rfl)]
  simp only [f64, hg, go_sem, reduceIte, reduceCtorEq, Nat.reduceEqDiff, Nat.reduceAdd, Nat.reduceMul, Nat.reduceLeDiff, List.length_cons, List.length_nil]
theorem i_some (vs : List Vx) (es : List Ed) (hv : Fits vs) (he : Fits es) (g : FuncId) (q : ByteArray → Int → Bool) (hg : ∀ s n, call F g [.str s, .int .i64 n] = some (.bool (q s n))) :
    call F 40 [.agg [.sl .shared 5 (rowsBy Vx.c vs), .sl .shared 4 (rowsBy Ed.c es)], .fn g []] = some (.bool (vs.any (fun v => q v.label v.attr) || es.any (fun v => q v.label v.attr))) := by
  have c1 := i_ContainsFunc_Vx vs 62 g hv (fun v => q v.label v.attr) (fun v _ => i_some1 v g _ (hg _ _))
  have c2 := i_ContainsFunc_Ed es 64 g he (fun v => q v.label v.attr) (fun v _ => i_some2 v g _ (hg _ _))
  cases hb : vs.any (fun v => q v.label v.attr) with
  | true =>
    rw [hb] at c1
    rw [Bool.true_or]
    rw [call_code F (show F 40 = some (.code f40) from rfl)]
    simp only [f40, c1, go_sem, reduceIte, reduceCtorEq, Nat.reduceEqDiff, Nat.reduceAdd, Nat.reduceMul, Nat.reduceLeDiff, List.length_cons, List.length_nil]
  | false =>
    rw [hb] at c1
    rw [Bool.false_or]
    rw [call_code F (show F 40 = some (.code f40) from rfl)]
    simp only [f40, c1, c2, go_sem, reduceIte, reduceCtorEq, Nat.reduceEqDiff, Nat.reduceAdd, Nat.reduceMul, Nat.reduceLeDiff, List.length_cons, List.length_nil]
theorem c_MayLabel (s : ByteArray) : call F 14 [.str s] = some (.bool (mayB s && decide ((s.size : Int) ≤ 16))) := by
  rw [call_ext F (show F 14 = some (.ext mayG) from rfl)]; rfl
/-- labels and attributes that may be -/
def mayLab (s : ByteArray) : Bool := mayB s && decide ((s.size : Int) ≤ 16)
def mayAtt (n : Int) : Bool := decide (n ≥ -1099511627776) && decide (n ≤ 1099511627776)
theorem i_Form1 (s : ByteArray) (n : Int) : call F 41 [.str s, .int .i64 n] = some (.bool (!mayLab s)) := by
  have c := c_MayLabel s
  rw [show (mayB s && decide ((s.size : Int) ≤ 16)) = mayLab s from rfl] at c
  generalize mayLab s = b at *
  rw [call_code F (show F 41 = some (.code f41) from rfl)]
  simp only [f41, c, go_sem, reduceIte, reduceCtorEq, Nat.reduceEqDiff, Nat.reduceAdd, Nat.reduceMul]
theorem i_Form2 (s : ByteArray) (n : Int) : call F 42 [.str s, .int .i64 n] = some (.bool (!mayAtt n)) := by
  have c := c_MayAttr n
  rw [show (decide (n ≥ -1099511627776) && decide (n ≤ 1099511627776)) = mayAtt n from rfl] at c
  generalize mayAtt n = b at *
  rw [call_code F (show F 42 = some (.code f42) from rfl)]
  simp only [f42, c, go_sem, reduceIte, reduceCtorEq, Nat.reduceEqDiff, Nat.reduceAdd, Nat.reduceMul]
theorem names_l1 (l : List Vx) (es : List Ed) (hl : Fits l) : E (call F) 0 f32_l1 (⟨(upd (upd (upd Sx.e0 4 (.v (.int .i64 (0)))) 3 (.s 3 0 0)) 1 (.p 1 0)), (upd (upd Sx.h0 3 (some (.arr false 35 2 []))) 1 (some (.var false [.v (.sl .shared 5 (rowsBy Vx.c l)), .v (.sl .shared 4 (rowsBy Ed.c es))])))⟩ : St) =
    some (.exit 0, (⟨(upd (upd Sx.e0 3 (.s 3 0 (l.map Vx.id).length)) 1 (.p 1 0)), (upd (upd Sx.h0 3 (some (.arr false 35 2 (rowsBy ID.c (l.map Vx.id))))) 1 (some (.var false [.v (.sl .shared 5 (rowsBy Vx.c l)), .v (.sl .shared 4 (rowsBy Ed.c es))])))⟩ : St)) := by
  have hle := hl.le
  refine loop_to (b := f32_b1) (fun i => (⟨(upd (upd (upd Sx.e0 4 (.v (.int .i64 ((i : Int))))) 3 (.s 3 0 ((l.take i).map Vx.id).length)) 1 (.p 1 0)), (upd (upd Sx.h0 3 (some (.arr false 35 2 (rowsBy ID.c ((l.take i).map Vx.id))))) 1 (some (.var false [.v (.sl .shared 5 (rowsBy Vx.c l)), .v (.sl .shared 4 (rowsBy Ed.c es))])))⟩ : St)) l.length ?_ ?_ (by simp)
  · intro i hi
    have h1z : (i : Int) < (l.length : Int) := by omega
    have hs : (l.take (i + 1)).map Vx.id = (l.take i).map Vx.id ++ [l[i].id] := by rw [List.take_succ_eq_append_getElem hi, List.map_append]; rfl
    have hml : ((l.take i).map Vx.id).length ≤ i := by rw [List.length_map, List.length_take]; omega
    have h5 : (((l.take i).map Vx.id).length + 1) * 16 ≤ 140737488355328 := by omega
    rw [hs]
    generalize (l.take i).map Vx.id = m at *
    have e2 : (m ++ [l[i].id]).length = m.length + 1 := by rw [List.length_append]; rfl
    rw [e2]
    have e3 : rowsBy ID.c m ++ [[.int .i64 l[i].id.s, .int .i64 l[i].id.n]] = rowsBy ID.c (m ++ [l[i].id]) := rowsBy_snoc ID.c m l[i].id
    simp only [f32_b1, h1z, rowsBy_get Vx.c hi, Vx.c, h5, e3, wrap_succ hi (show l.length ≤ 9223372036854775807 by omega), List.take_length, go_sem, reduceIte, Nat.reduceEqDiff, Nat.reduceAdd, Nat.reduceLeDiff, List.length_cons, List.length_nil]
  · rw [List.take_length]
    simp only [f32_b1, dec_ge (Nat.le_refl l.length), go_sem, reduceIte, Nat.reduceEqDiff, Nat.reduceAdd, Nat.reduceLeDiff, List.length_cons, List.length_nil]
theorem names_l2 (l : List Vx) (es : List Ed) (hl : l.length ≤ 100000) (he : Fits es) : E (call F) 0 f32_l2 (⟨(upd (upd (upd Sx.e0 5 (.v (.int .i64 (0)))) 3 (.s 3 0 (l.map Vx.id).length)) 1 (.p 1 0)), (upd (upd Sx.h0 3 (some (.arr false 35 2 (rowsBy ID.c (l.map Vx.id))))) 1 (some (.var false [.v (.sl .shared 5 (rowsBy Vx.c l)), .v (.sl .shared 4 (rowsBy Ed.c es))])))⟩ : St) =
    some (.exit 2, (⟨(upd Sx.e0 3 (.s 3 0 (l.map Vx.id ++ es.map Ed.id).length)), (upd Sx.h0 3 (some (.arr false 35 2 (rowsBy ID.c (l.map Vx.id ++ es.map Ed.id)))))⟩ : St)) := by
  have hle := hl
  have hee := he.le
  have key := loop_to (C := call F) (lo := 0) (b := f32_b2) (fun i => (⟨(upd (upd (upd Sx.e0 5 (.v (.int .i64 ((i : Int))))) 3 (.s 3 0 (l.map Vx.id ++ (es.take i).map Ed.id).length)) 1 (.p 1 0)), (upd (upd Sx.h0 3 (some (.arr false 35 2 (rowsBy ID.c (l.map Vx.id ++ (es.take i).map Ed.id))))) 1 (some (.var false [.v (.sl .shared 5 (rowsBy Vx.c l)), .v (.sl .shared 4 (rowsBy Ed.c es))])))⟩ : St)) es.length (r := (.exit 2, (⟨(upd Sx.e0 3 (.s 3 0 (l.map Vx.id ++ es.map Ed.id).length)), (upd Sx.h0 3 (some (.arr false 35 2 (rowsBy ID.c (l.map Vx.id ++ es.map Ed.id)))))⟩ : St))) ?_ ?_ (by simp)
  · have e0 : l.map Vx.id ++ (es.take 0).map Ed.id = l.map Vx.id := by simp
    simp only [e0] at key
    exact key
  · intro i hi
    have h1z : (i : Int) < (es.length : Int) := by omega
    have hs : (es.take (i + 1)).map Ed.id = (es.take i).map Ed.id ++ [es[i].id] := by rw [List.take_succ_eq_append_getElem hi, List.map_append]; rfl
    have hml : ((es.take i).map Ed.id).length ≤ i := by rw [List.length_map, List.length_take]; omega
    have h5 : ((l.map Vx.id ++ (es.take i).map Ed.id).length + 1) * 16 ≤ 140737488355328 := by rw [List.length_append, List.length_map]; omega
    rw [hs, ← List.append_assoc]
    generalize l.map Vx.id ++ (es.take i).map Ed.id = m at *
    have e2 : (m ++ [es[i].id]).length = m.length + 1 := by rw [List.length_append]; rfl
    rw [e2]
    have e3 : rowsBy ID.c m ++ [[.int .i64 es[i].id.s, .int .i64 es[i].id.n]] = rowsBy ID.c (m ++ [es[i].id]) := rowsBy_snoc ID.c m es[i].id
    simp only [f32_b2, h1z, rowsBy_get Ed.c hi, Ed.c, h5, e3, wrap_succ hi (show es.length ≤ 9223372036854775807 by omega), List.take_length, go_sem, reduceIte, Nat.reduceEqDiff, Nat.reduceAdd, Nat.reduceLeDiff, List.length_cons, List.length_nil]
  · rw [List.take_length]
    simp only [f32_b2, dec_ge (Nat.le_refl es.length), go_sem, reduceIte, Nat.reduceEqDiff, Nat.reduceAdd, List.length_cons, List.length_nil]
theorem i_r04_Names (l : List Vx) (es : List Ed) (hl : l.length ≤ 100000) (he : Fits es) : call F 32 [.agg [.sl .shared 5 (rowsBy Vx.c l), .sl .shared 4 (rowsBy Ed.c es)]] = some (.sl (.own 35) 2 (rowsBy ID.c (l.map Vx.id ++ es.map Ed.id))) := by
  have l1 := names_l1 l es (Fits.of (by omega))
  have l2 := names_l2 l es hl he
  generalize l.map Vx.id = m at *
  generalize es.map Ed.id = k at *
  rw [call_code F (show F 32 = some (.code f32) from rfl)]
  simp only [f32, l1, l2, go_sem, reduceIte, reduceCtorEq, Nat.reduceEqDiff, Nat.reduceAdd, List.length_cons, List.length_nil]
/-- a dart that belongs to no edge, or is of no side -/
def badDart (es : List Ed) (x : Dart) : Bool := (edBy es x.e).isNone || (decide (x.d < 0) || decide (x.d > 1))
theorem rings_l2 (l : List Vx) (es : List Ed) (he : Fits es) (i : Nat) (r : List Dart) (hr : Fits r) : E (call F) 0 f44_l2 (⟨(upd (upd (upd (upd Sx.e0 6 (.v (.int .i64 (0)))) 4 (.v (.sl .shared 3 (rowsBy Dart.c r)))) 3 (.v (.int .i64 ((i : Int))))) 1 (.p 1 0)), (upd Sx.h0 1 (some (.var false [.v (.sl .shared 5 (rowsBy Vx.c l)), .v (.sl .shared 4 (rowsBy Ed.c es))])))⟩ : St) =
    some (if r.any (badDart es) then (.ret, (⟨(upd Sx.e0 2 (.v (.bool false))), Sx.h0⟩ : St)) else (.exit 2, (⟨(upd (upd Sx.e0 3 (.v (.int .i64 ((i : Int))))) 1 (.p 1 0)), (upd Sx.h0 1 (some (.var false [.v (.sl .shared 5 (rowsBy Vx.c l)), .v (.sl .shared 4 (rowsBy Ed.c es))])))⟩ : St))) := by
  have hle := hr.le
  have hw : r.length ≤ 9223372036854775807 := by omega
  have S : ∀ n, n ≤ r.length → (∀ k, k < n → ∀ h : k < r.length, badDart es r[k] = false) → ∀ q, E (call F) 0 f44_b2 (⟨(upd (upd (upd (upd Sx.e0 6 (.v (.int .i64 ((n : Int))))) 4 (.v (.sl .shared 3 (rowsBy Dart.c r)))) 3 (.v (.int .i64 ((i : Int))))) 1 (.p 1 0)), (upd Sx.h0 1 (some (.var false [.v (.sl .shared 5 (rowsBy Vx.c l)), .v (.sl .shared 4 (rowsBy Ed.c es))])))⟩ : St) = some q → q.1 ≠ .norm →
      E (call F) 0 f44_l2 (⟨(upd (upd (upd (upd Sx.e0 6 (.v (.int .i64 (0)))) 4 (.v (.sl .shared 3 (rowsBy Dart.c r)))) 3 (.v (.int .i64 ((i : Int))))) 1 (.p 1 0)), (upd Sx.h0 1 (some (.var false [.v (.sl .shared 5 (rowsBy Vx.c l)), .v (.sl .shared 4 (rowsBy Ed.c es))])))⟩ : St) = some q := by
    intro n hn hno q hf hq
    refine loop_to (b := f44_b2) (fun k => (⟨(upd (upd (upd (upd Sx.e0 6 (.v (.int .i64 ((k : Int))))) 4 (.v (.sl .shared 3 (rowsBy Dart.c r)))) 3 (.v (.int .i64 ((i : Int))))) 1 (.p 1 0)), (upd Sx.h0 1 (some (.var false [.v (.sl .shared 5 (rowsBy Vx.c l)), .v (.sl .shared 4 (rowsBy Ed.c es))])))⟩ : St)) n ?_ hf hq
    intro k hk
    have h1 : k < r.length := by omega
    have h1z : (k : Int) < (r.length : Int) := by omega
    have hb := hno k hk h1
    unfold badDart at hb
    simp only [Bool.or_eq_false_iff] at hb
    obtain ⟨b1, b2, b3⟩ := hb
    have hv := i_r04_Edge es r[k].e he l
    cases hc : edBy es r[k].e with
    | none => rw [hc] at b1; cases b1
    | some v =>
      rw [hc] at hv
      simp only [edT] at hv
      simp only [f44_b2, h1z, rowsBy_get Dart.c h1, Dart.c, hv, b2, b3, wrap_succ h1 hw, go_sem, reduceIte, Nat.reduceEqDiff, Nat.reduceAdd, Nat.reduceMul, Nat.reduceLeDiff, Nat.reduceBEq, List.length_cons, List.length_nil, Nat.testBit, Nat.reduceShiftRight, Nat.reduceAnd, Nat.reduceBNe]
  rcases findIdx_cases (badDart es) r with h0 | ⟨hlt, hp⟩
  · have S := S r.length (Nat.le_refl _) (fun k hk h => findIdx_not (p := badDart es) (by omega) h)
    rw [show r.any (badDart es) = false by
      rw [List.any_eq_false]
      intro v hv
      obtain ⟨k, hk, rfl⟩ := List.mem_iff_getElem.1 hv
      rw [findIdx_not (p := badDart es) (by omega) hk]; simp]
    rw [if_neg (by simp)]
    exact S _ (by simp only [f44_b2, dec_ge (Nat.le_refl r.length), go_sem, reduceIte, Nat.reduceEqDiff]) (by simp)
  · have S := S (r.findIdx (badDart es)) (Nat.le_of_lt hlt) (fun k hk h => findIdx_not (p := badDart es) hk h)
    rw [show r.any (badDart es) = true by rw [List.any_eq_true]; exact ⟨_, List.getElem_mem hlt, hp⟩]
    rw [if_pos rfl]
    generalize r.findIdx (badDart es) = k at *
    have h1z : (k : Int) < (r.length : Int) := by omega
    have hv := i_r04_Edge es r[k].e he l
    unfold badDart at hp
    cases hc : edBy es r[k].e with
    | none =>
      rw [hc] at hv
      simp only [edT] at hv
      exact S _ (by simp only [f44_b2, h1z, rowsBy_get Dart.c hlt, Dart.c, hv, go_sem, reduceIte, Nat.reduceEqDiff, Nat.reduceAdd, Nat.reduceMul, Nat.reduceLeDiff, Nat.reduceBEq, List.length_cons, List.length_nil, Nat.testBit, Nat.reduceShiftRight, Nat.reduceAnd, Nat.reduceBNe]) (by simp)
    | some v =>
      rw [hc] at hv hp
      simp only [edT] at hv
      by_cases g : r[k].d < 0
      · exact S _ (by simp only [f44_b2, h1z, rowsBy_get Dart.c hlt, Dart.c, hv, dec_t g, go_sem, reduceIte, Nat.reduceEqDiff, Nat.reduceAdd, Nat.reduceMul, Nat.reduceLeDiff, Nat.reduceBEq, List.length_cons, List.length_nil, Nat.testBit, Nat.reduceShiftRight, Nat.reduceAnd, Nat.reduceBNe]) (by simp)
      · have g2 : r[k].d > 1 := by
          rw [dec_f g] at hp
          simpa using hp
        exact S _ (by simp only [f44_b2, h1z, rowsBy_get Dart.c hlt, Dart.c, hv, dec_f g, dec_t g2, go_sem, reduceIte, Nat.reduceEqDiff, Nat.reduceAdd, Nat.reduceMul, Nat.reduceLeDiff, Nat.reduceBEq, List.length_cons, List.length_nil, Nat.testBit, Nat.reduceShiftRight, Nat.reduceAnd, Nat.reduceBNe]) (by simp)
def badVx (es : List Ed) (v : Vx) : Bool := !decide (v.ring = turn v.ring) || v.ring.any (badDart es)
def badEd (l : List Vx) (e : Ed) : Bool := decide (¬ timesN l ⟨e.id, 0⟩ = 1) || decide (¬ timesN l ⟨e.id, 1⟩ = 1)
theorem rings_l1 (l : List Vx) (es : List Ed) (hl : Fits l) (hr : FitsR l) (he : Fits es) : E (call F) 0 f44_l1 (⟨(upd (upd Sx.e0 3 (.v (.int .i64 (0)))) 1 (.p 1 0)), (upd Sx.h0 1 (some (.var false [.v (.sl .shared 5 (rowsBy Vx.c l)), .v (.sl .shared 4 (rowsBy Ed.c es))])))⟩ : St) =
    some (if l.any (badVx es) then (.ret, (⟨(upd Sx.e0 2 (.v (.bool false))), Sx.h0⟩ : St)) else (.exit 0, (⟨(upd Sx.e0 1 (.p 1 0)), (upd Sx.h0 1 (some (.var false [.v (.sl .shared 5 (rowsBy Vx.c l)), .v (.sl .shared 4 (rowsBy Ed.c es))])))⟩ : St))) := by
  have hle := hl.le
  have hw : l.length ≤ 9223372036854775807 := by omega
  have S : ∀ n, n ≤ l.length → (∀ k, k < n → ∀ h : k < l.length, badVx es l[k] = false) → ∀ q, E (call F) 0 f44_b1 (⟨(upd (upd Sx.e0 3 (.v (.int .i64 ((n : Int))))) 1 (.p 1 0)), (upd Sx.h0 1 (some (.var false [.v (.sl .shared 5 (rowsBy Vx.c l)), .v (.sl .shared 4 (rowsBy Ed.c es))])))⟩ : St) = some q → q.1 ≠ .norm →
      E (call F) 0 f44_l1 (⟨(upd (upd Sx.e0 3 (.v (.int .i64 (0)))) 1 (.p 1 0)), (upd Sx.h0 1 (some (.var false [.v (.sl .shared 5 (rowsBy Vx.c l)), .v (.sl .shared 4 (rowsBy Ed.c es))])))⟩ : St) = some q := by
    intro n hn hno q hf hq
    refine loop_to (b := f44_b1) (fun k => (⟨(upd (upd Sx.e0 3 (.v (.int .i64 ((k : Int))))) 1 (.p 1 0)), (upd Sx.h0 1 (some (.var false [.v (.sl .shared 5 (rowsBy Vx.c l)), .v (.sl .shared 4 (rowsBy Ed.c es))])))⟩ : St)) n ?_ hf hq
    intro k hk
    have h1 : k < l.length := by omega
    have h1z : (k : Int) < (l.length : Int) := by omega
    have hb := hno k hk h1
    unfold badVx at hb
    rw [Bool.or_eq_false_iff] at hb
    have b1 : decide (l[k].ring = turn l[k].ring) = true := by simpa using hb.1
    have hfr := hr _ (List.getElem_mem h1)
    have ct := c_r03_Turn l[k].ring hfr
    have cd := c_r03_Darts l[k].ring (turn l[k].ring) hfr
    rw [b1] at cd
    have l2 := rings_l2 l es he k l[k].ring hfr
    rw [hb.2, if_neg (by simp)] at l2
    generalize turn l[k].ring = u at *
    simp only [f44_b1, h1z, rowsBy_get Vx.c h1, Vx.c, ct, cd, l2, wrap_succ h1 hw, go_sem, reduceIte, Nat.reduceEqDiff, Nat.reduceAdd, Nat.reduceMul, Nat.reduceLeDiff, List.length_cons, List.length_nil]
  rcases findIdx_cases (badVx es) l with h0 | ⟨hlt, hp⟩
  · have S := S l.length (Nat.le_refl _) (fun k hk h => findIdx_not (p := badVx es) (by omega) h)
    rw [show l.any (badVx es) = false by
      rw [List.any_eq_false]
      intro v hv
      obtain ⟨k, hk, rfl⟩ := List.mem_iff_getElem.1 hv
      rw [findIdx_not (p := badVx es) (by omega) hk]; simp]
    rw [if_neg (by simp)]
    exact S _ (by simp only [f44_b1, dec_ge (Nat.le_refl l.length), go_sem, reduceIte, Nat.reduceEqDiff, Nat.reduceAdd, Nat.reduceLeDiff, List.length_cons, List.length_nil]) (by simp)
  · have S := S (l.findIdx (badVx es)) (Nat.le_of_lt hlt) (fun k hk h => findIdx_not (p := badVx es) hk h)
    rw [show l.any (badVx es) = true by rw [List.any_eq_true]; exact ⟨_, List.getElem_mem hlt, hp⟩]
    rw [if_pos rfl]
    generalize l.findIdx (badVx es) = k at *
    have h1z : (k : Int) < (l.length : Int) := by omega
    have hfr := hr _ (List.getElem_mem hlt)
    have ct := c_r03_Turn l[k].ring hfr
    have cd := c_r03_Darts l[k].ring (turn l[k].ring) hfr
    have l2 := rings_l2 l es he k l[k].ring hfr
    unfold badVx at hp
    by_cases g : l[k].ring = turn l[k].ring
    · rw [dec_t g] at cd hp
      rw [show l[k].ring.any (badDart es) = true by simpa using hp, if_pos rfl] at l2
      generalize turn l[k].ring = u at *
      exact S _ (by simp only [f44_b1, h1z, rowsBy_get Vx.c hlt, Vx.c, ct, cd, l2, go_sem, reduceIte, Nat.reduceEqDiff, Nat.reduceAdd, Nat.reduceMul, Nat.reduceLeDiff, List.length_cons, List.length_nil]) (by simp)
    · rw [dec_f g] at cd
      generalize turn l[k].ring = u at *
      exact S _ (by simp only [f44_b1, h1z, rowsBy_get Vx.c hlt, Vx.c, ct, cd, go_sem, reduceIte, Nat.reduceEqDiff, Nat.reduceAdd, Nat.reduceMul, Nat.reduceLeDiff, List.length_cons, List.length_nil]) (by simp)
theorem rings_l4 (l : List Vx) (es : List Ed) (hl : l.length ≤ 100000) (hr : FitsR l) (i : Nat) (hi : i < es.length) : E (call F) 0 f44_l4 (⟨(upd (upd (upd Sx.e0 10 (.v (.int .i64 (0)))) 9 (.v (.int .i64 ((i : Int))))) 1 (.p 1 0)), (upd Sx.h0 1 (some (.var false [.v (.sl .shared 5 (rowsBy Vx.c l)), .v (.sl .shared 4 (rowsBy Ed.c es))])))⟩ : St) =
    some (if badEd l es[i] then (.ret, (⟨(upd Sx.e0 2 (.v (.bool false))), Sx.h0⟩ : St)) else (.exit 6, (⟨(upd (upd Sx.e0 9 (.v (.int .i64 ((i : Int))))) 1 (.p 1 0)), (upd Sx.h0 1 (some (.var false [.v (.sl .shared 5 (rowsBy Vx.c l)), .v (.sl .shared 4 (rowsBy Ed.c es))])))⟩ : St))) := by
  have hiz : (i : Int) < (es.length : Int) := by omega
  have t0 := i_times l es ⟨es[i].id, 0⟩ hl hr
  have t1 := i_times l es ⟨es[i].id, 1⟩ hl hr
  unfold badEd
  generalize timesN l ⟨es[i].id, 0⟩ = a at *
  generalize timesN l ⟨es[i].id, 1⟩ = b at *
  rw [f44_l4_eq]
  by_cases ha : a = 1
  · have ka : decide (¬ ((a : Int) = 1)) = false := decide_eq_false (by omega)
    rw [dec_f (show ¬ ¬ a = 1 by omega)]
    by_cases hb : b = 1
    · have kb : decide (¬ ((b : Int) = 1)) = false := decide_eq_false (by omega)
      rw [dec_f (show ¬ ¬ b = 1 by omega), if_neg (by simp)]
      simp only [f44_b4, rowsBy_get Ed.c hi, Ed.c, t0, ka, show IntKind.i64.wrap 1 = 1 from rfl, go_sem, reduceIte, Nat.reduceEqDiff, Nat.reduceAdd, Nat.reduceMul, Nat.reduceLeDiff, List.length_cons, List.length_nil, Int.reduceLT, Int.reduceAdd, ne_eq, Nat.testBit, Nat.reduceShiftRight, Nat.reduceAnd, Nat.reduceBNe]
      rw [f44_l4_eq]
      simp only [f44_b4, rowsBy_get Ed.c hi, Ed.c, t1, kb, show IntKind.i64.wrap 2 = 2 from rfl, go_sem, reduceIte, Nat.reduceEqDiff, Nat.reduceAdd, Nat.reduceMul, Nat.reduceLeDiff, List.length_cons, List.length_nil, Int.reduceLT, Int.reduceAdd, ne_eq, Nat.testBit, Nat.reduceShiftRight, Nat.reduceAnd, Nat.reduceBNe]
      rw [f44_l4_eq]
      simp only [f44_b4, go_sem, reduceIte, Nat.reduceEqDiff, Int.reduceLT]
    · have kb : decide (¬ ((b : Int) = 1)) = true := decide_eq_true (by omega)
      rw [dec_t hb, if_pos (by simp)]
      simp only [f44_b4, rowsBy_get Ed.c hi, Ed.c, t0, ka, show IntKind.i64.wrap 1 = 1 from rfl, go_sem, reduceIte, Nat.reduceEqDiff, Nat.reduceAdd, Nat.reduceMul, Nat.reduceLeDiff, List.length_cons, List.length_nil, Int.reduceLT, Int.reduceAdd, ne_eq, Nat.testBit, Nat.reduceShiftRight, Nat.reduceAnd, Nat.reduceBNe]
      rw [f44_l4_eq]
      simp only [f44_b4, rowsBy_get Ed.c hi, Ed.c, t1, kb, go_sem, reduceIte, Nat.reduceEqDiff, Nat.reduceAdd, Nat.reduceMul, Nat.reduceLeDiff, List.length_cons, List.length_nil, Int.reduceLT, ne_eq, Nat.testBit, Nat.reduceShiftRight, Nat.reduceAnd, Nat.reduceBNe]
  · have ka : decide (¬ ((a : Int) = 1)) = true := decide_eq_true (by omega)
    rw [dec_t ha, if_pos (by simp)]
    simp only [f44_b4, rowsBy_get Ed.c hi, Ed.c, t0, ka, go_sem, reduceIte, Nat.reduceEqDiff, Nat.reduceAdd, Nat.reduceMul, Nat.reduceLeDiff, List.length_cons, List.length_nil, Int.reduceLT, ne_eq, Nat.testBit, Nat.reduceShiftRight, Nat.reduceAnd, Nat.reduceBNe]
theorem rings_l3 (l : List Vx) (es : List Ed) (hl : l.length ≤ 100000) (hr : FitsR l) (he : Fits es) : E (call F) 0 f44_l3 (⟨(upd (upd Sx.e0 9 (.v (.int .i64 (0)))) 1 (.p 1 0)), (upd Sx.h0 1 (some (.var false [.v (.sl .shared 5 (rowsBy Vx.c l)), .v (.sl .shared 4 (rowsBy Ed.c es))])))⟩ : St) =
    some (if es.any (badEd l) then (.ret, (⟨(upd Sx.e0 2 (.v (.bool false))), Sx.h0⟩ : St)) else (.exit 4, (⟨Sx.e0, Sx.h0⟩ : St))) := by
  have hle := he.le
  have hw : es.length ≤ 9223372036854775807 := by omega
  have S : ∀ n, n ≤ es.length → (∀ k, k < n → ∀ h : k < es.length, badEd l es[k] = false) → ∀ q, E (call F) 0 f44_b3 (⟨(upd (upd Sx.e0 9 (.v (.int .i64 ((n : Int))))) 1 (.p 1 0)), (upd Sx.h0 1 (some (.var false [.v (.sl .shared 5 (rowsBy Vx.c l)), .v (.sl .shared 4 (rowsBy Ed.c es))])))⟩ : St) = some q → q.1 ≠ .norm →
      E (call F) 0 f44_l3 (⟨(upd (upd Sx.e0 9 (.v (.int .i64 (0)))) 1 (.p 1 0)), (upd Sx.h0 1 (some (.var false [.v (.sl .shared 5 (rowsBy Vx.c l)), .v (.sl .shared 4 (rowsBy Ed.c es))])))⟩ : St) = some q := by
    intro n hn hno q hf hq
    refine loop_to (b := f44_b3) (fun k => (⟨(upd (upd Sx.e0 9 (.v (.int .i64 ((k : Int))))) 1 (.p 1 0)), (upd Sx.h0 1 (some (.var false [.v (.sl .shared 5 (rowsBy Vx.c l)), .v (.sl .shared 4 (rowsBy Ed.c es))])))⟩ : St)) n ?_ hf hq
    intro k hk
    have h1 : k < es.length := by omega
    have l4 := rings_l4 l es hl hr k h1
    rw [hno k hk h1, if_neg (by simp)] at l4
    simp only [f44_b3, dec_lt h1, l4, wrap_succ h1 hw, go_sem, reduceIte, Nat.reduceEqDiff, Nat.reduceAdd, List.length_cons, List.length_nil]
  rcases findIdx_cases (badEd l) es with h0 | ⟨hlt, hp⟩
  · have S := S es.length (Nat.le_refl _) (fun k hk h => findIdx_not (p := badEd l) (by omega) h)
    rw [show es.any (badEd l) = false by
      rw [List.any_eq_false]
      intro v hv
      obtain ⟨k, hk, rfl⟩ := List.mem_iff_getElem.1 hv
      rw [findIdx_not (p := badEd l) (by omega) hk]; simp]
    rw [if_neg (by simp)]
    exact S _ (by simp only [f44_b3, dec_ge (Nat.le_refl es.length), go_sem, reduceIte, Nat.reduceEqDiff, Nat.reduceAdd, List.length_cons, List.length_nil]) (by simp)
  · have S := S (es.findIdx (badEd l)) (Nat.le_of_lt hlt) (fun k hk h => findIdx_not (p := badEd l) hk h)
    rw [show es.any (badEd l) = true by rw [List.any_eq_true]; exact ⟨_, List.getElem_mem hlt, hp⟩]
    rw [if_pos rfl]
    generalize es.findIdx (badEd l) = k at *
    have l4 := rings_l4 l es hl hr k hlt
    rw [hp, if_pos rfl] at l4
    exact S _ (by simp only [f44_b3, dec_lt hlt, l4, go_sem, reduceIte, Nat.reduceEqDiff, Nat.reduceAdd, List.length_cons, List.length_nil]) (by simp)
def ringsB (l : List Vx) (es : List Ed) : Bool := !(l.any (badVx es) || es.any (badEd l))
theorem i_r04_rings (l : List Vx) (es : List Ed) (hl : l.length ≤ 100000) (hr : FitsR l) (he : Fits es) : call F 44 [.agg [.sl .shared 5 (rowsBy Vx.c l), .sl .shared 4 (rowsBy Ed.c es)]] = some (.bool (ringsB l es)) := by
  have l1 := rings_l1 l es (Fits.of (by omega)) hr he
  have l3 := rings_l3 l es hl hr he
  unfold ringsB
  cases ha : l.any (badVx es) with
  | true =>
    rw [ha, if_pos rfl] at l1
    rw [call_code F (show F 44 = some (.code f44) from rfl)]
    simp only [f44, l1, go_sem, reduceIte, reduceCtorEq, Nat.reduceEqDiff, Nat.reduceAdd, List.length_cons, List.length_nil]
  | false =>
    rw [ha, if_neg (by simp)] at l1
    cases hb : es.any (badEd l) with
    | true =>
      rw [hb, if_pos rfl] at l3
      rw [call_code F (show F 44 = some (.code f44) from rfl)]
      simp only [f44, l1, l3, go_sem, reduceIte, reduceCtorEq, Nat.reduceEqDiff, Nat.reduceAdd, List.length_cons, List.length_nil]
    | false =>
      rw [hb, if_neg (by simp)] at l3
      rw [call_code F (show F 44 = some (.code f44) from rfl)]
      simp only [f44, l1, l3, go_sem, reduceIte, reduceCtorEq, Nat.reduceEqDiff, Nat.reduceAdd, List.length_cons, List.length_nil]
end Go.Proofs.Ytehcfmohjcjmpaa.Sx
