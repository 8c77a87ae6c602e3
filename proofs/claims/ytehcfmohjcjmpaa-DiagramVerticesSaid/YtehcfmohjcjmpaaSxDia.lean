/- Diagrams compared, copied; their names. -/
import Derived.Test.YtehcfmohjcjmpaaSxFormr
namespace Go.Proofs.Ytehcfmohjcjmpaa.Sx
open Go
theorem Vx.ext_iff' (x y : Vx) : x = y ↔ x.id = y.id ∧ x.label = y.label ∧ x.attr = y.attr ∧ x.ring = y.ring := by
  cases x; cases y; simp only [Vx.mk.injEq]
  constructor
  · rintro ⟨a, b, c, d⟩; exact ⟨a, c, d, b⟩
  · rintro ⟨a, b, c, d⟩; exact ⟨a, d, b, c⟩
theorem Ed.ext_iff' (x y : Ed) : x = y ↔ x.id = y.id ∧ x.label = y.label ∧ x.attr = y.attr := by
  cases x; cases y; simp only [Ed.mk.injEq]
theorem Ed.dec (x y : Ed) : (decide (x.id.s = y.id.s) && (decide (x.id.n = y.id.n) && (decide (x.label = y.label) && decide (x.attr = y.attr)))) = decide (x = y) := by
  by_cases h : x = y
  · subst h; simp
  · rw [decide_eq_false h]
    simp only [Bool.and_eq_false_iff, decide_eq_false_iff_not]
    rw [Ed.ext_iff', ID.ext_iff'] at h
    by_cases h1 : x.id.s = y.id.s
    · by_cases h2 : x.id.n = y.id.n
      · by_cases h3 : x.label = y.label
        · exact .inr (.inr (.inr fun h4 => h ⟨⟨h1, h2⟩, h3, h4⟩))
        · exact .inr (.inr (.inl h3))
      · exact .inr (.inl h2)
    · exact .inl h1
theorem i_diagram_Names (l : List Vx) (es : List Ed) (hl : l.length ≤ 100000) (he : es.length ≤ 100000) : call F 27 [.agg [.sl .shared 5 (rowsBy Vx.c l), .sl .shared 4 (rowsBy Ed.c es)]] = some (.sl (.own 35) 2 (rowsBy ID.c (l.map Vx.id ++ es.map Ed.id))) := by
  have n1 := c_named_Vertex l (Fits.of (by omega))
  have n2 := c_named_Edge es (Fits.of (by omega))
  have k1 : ((l.map Vx.id).length + (es.map Ed.id).length) * 16 ≤ 140737488355328 := by rw [List.length_map, List.length_map]; omega
  generalize l.map Vx.id = i1 at *
  generalize es.map Ed.id = i2 at *
  rw [call_code F (show F 27 = some (.code f27) from rfl)]
  simp only [f27, n1, n2, k1, go_sem, reduceIte, reduceCtorEq, Nat.reduceEqDiff, Nat.reduceAdd, Nat.reduceMul, Nat.reduceLeDiff, Nat.reduceBEq, List.length_cons, List.length_nil, Nat.testBit, Nat.reduceShiftRight, Nat.reduceAnd, Nat.reduceBNe]
theorem c_IDs (l m : List ID) (hl : l.length ≤ 9223372036854775807) : call F 31 [.sl .shared 2 (rowsBy ID.c l), .sl .shared 2 (rowsBy ID.c m)] = some (.bool (decide (l = m))) := by
  by_cases hlen : l.length = m.length
  · have he := len_eq hlen
    have l1 : E (call F) 0 f31_l1 (⟨(upd (upd (upd Sx.e0 5 (.v (.int .i64 (0)))) 1 (.v (.sl .shared 2 (rowsBy ID.c m)))) 0 (.v (.sl .shared 2 (rowsBy ID.c l)))), Sx.h0⟩ : St) = some (if (List.range (l.length)).any (pairB (fun x y => decide (x = y)) l m) then (.ret, (⟨(upd Sx.e0 4 (.v (.bool false))), Sx.h0⟩ : St)) else (.exit 0, (⟨Sx.e0, Sx.h0⟩ : St))) := by
      refine loop_any (b := f31_b1) (fun q0 => (⟨(upd (upd (upd Sx.e0 5 (.v (.int .i64 ((q0 : Int))))) 1 (.v (.sl .shared 2 (rowsBy ID.c m)))) 0 (.v (.sl .shared 2 (rowsBy ID.c l)))), Sx.h0⟩ : St)) (pairB (fun x y => decide (x = y)) l m) (l.length) ?_ ?_ (by simp) ?_ (by simp)
      · intro i h1 hp
        have h2 : i < m.length := by omega
        rw [pairB_at h1 h2] at hp
        have hd : decide (l[i] = m[i]) = true := by simpa using hp
        simp only [f31_b1, dec_lt h1, rowsBy_get ID.c h1, rowsBy_get ID.c h2, ID.c, hd, wrap_succ h1 hl, go_sem, reduceIte, reduceCtorEq, Nat.reduceEqDiff, Nat.reduceAdd, List.length_cons, List.length_nil]
      · intro i h1 hp
        have h2 : i < m.length := by omega
        rw [pairB_at h1 h2] at hp
        have hd : decide (l[i] = m[i]) = false := by simpa using hp
        simp only [f31_b1, dec_lt h1, rowsBy_get ID.c h1, rowsBy_get ID.c h2, ID.c, hd, go_sem, reduceIte, reduceCtorEq, Nat.reduceEqDiff, Nat.reduceAdd, List.length_cons, List.length_nil]
      · simp only [f31_b1, dec_ge (Nat.le_refl l.length), go_sem, reduceIte, reduceCtorEq, Nat.reduceEqDiff]
    rw [pairB_eq (fun _ _ => rfl) hlen] at l1
    generalize decide (l = m) = b at *
    rw [call_code F (show F 31 = some (.code f31) from rfl)]
    cases b
    · simp only [f31, he, l1, Bool.not_false, go_sem, reduceIte, reduceCtorEq, Nat.reduceEqDiff, Nat.reduceAdd, ne_eq]
    · simp only [f31, he, l1, Bool.not_true, go_sem, reduceIte, reduceCtorEq, Nat.reduceEqDiff, Nat.reduceAdd, ne_eq]
  · have hlm : l ≠ m := fun e => hlen (by rw [e])
    have he := len_ne hlen
    rw [dec_f hlm]
    rw [call_code F (show F 31 = some (.code f31) from rfl)]
    simp only [f31, he, go_sem, reduceIte, reduceCtorEq, Nat.reduceEqDiff, Nat.reduceAdd, ne_eq]
theorem c_Equal_Edge (l m : List Ed) (hl : Fits l) : call F 56 [.sl .shared 4 (rowsBy Ed.c l), .sl .shared 4 (rowsBy Ed.c m)] = some (.bool (decide (l = m))) := by
  have hl := hl.le
  by_cases hlen : l.length = m.length
  · have he := len_eq hlen
    have l1 : E (call F) 0 f56_l1 (⟨(upd (upd (upd (upd Sx.e0 13 (.v (.int .i64 (0)))) 12 (.v (.int .i64 ((l.length : Int))))) 1 (.v (.sl .shared 4 (rowsBy Ed.c m)))) 0 (.v (.sl .shared 4 (rowsBy Ed.c l)))), Sx.h0⟩ : St) = some (if (List.range (l.length)).any (pairB (fun x y => decide (x = y)) l m) then (.ret, (⟨(upd Sx.e0 4 (.v (.bool false))), Sx.h0⟩ : St)) else (.exit 0, (⟨Sx.e0, Sx.h0⟩ : St))) := by
      refine loop_any (b := f56_b1) (fun q0 => (⟨(upd (upd (upd (upd Sx.e0 13 (.v (.int .i64 ((q0 : Int))))) 12 (.v (.int .i64 ((l.length : Int))))) 1 (.v (.sl .shared 4 (rowsBy Ed.c m)))) 0 (.v (.sl .shared 4 (rowsBy Ed.c l)))), Sx.h0⟩ : St)) (pairB (fun x y => decide (x = y)) l m) (l.length) ?_ ?_ (by simp) ?_ (by simp)
      · intro i h1 hp
        have h2 : i < m.length := by omega
        rw [pairB_at h1 h2] at hp
        have hd : decide (l[i] = m[i]) = true := by simpa using hp
        simp only [f56_b1, dec_lt h1, rowsBy_get Ed.c h1, rowsBy_get Ed.c h2, Ed.c, str_beq, Ed.dec, hd, wrap_succ h1 (show l.length ≤ 9223372036854775807 by omega), go_sem, reduceIte, reduceCtorEq, Nat.reduceEqDiff, Nat.reduceAdd, List.length_cons, List.length_nil]
      · intro i h1 hp
        have h2 : i < m.length := by omega
        rw [pairB_at h1 h2] at hp
        have hd : decide (l[i] = m[i]) = false := by simpa using hp
        simp only [f56_b1, dec_lt h1, rowsBy_get Ed.c h1, rowsBy_get Ed.c h2, Ed.c, str_beq, Ed.dec, hd, go_sem, reduceIte, reduceCtorEq, Nat.reduceEqDiff, Nat.reduceAdd, List.length_cons, List.length_nil]
      · simp only [f56_b1, dec_ge (Nat.le_refl l.length), go_sem, reduceIte, reduceCtorEq, Nat.reduceEqDiff]
    rw [pairB_eq (fun _ _ => rfl) hlen] at l1
    generalize decide (l = m) = b at *
    rw [call_code F (show F 56 = some (.code f56) from rfl)]
    cases b
    · simp only [f56, he, l1, Bool.not_false, go_sem, reduceIte, reduceCtorEq, Nat.reduceEqDiff, Nat.reduceAdd, ne_eq]
    · simp only [f56, he, l1, Bool.not_true, go_sem, reduceIte, reduceCtorEq, Nat.reduceEqDiff, Nat.reduceAdd, ne_eq]
  · have hlm : l ≠ m := fun e => hlen (by rw [e])
    have he := len_ne hlen
    rw [dec_f hlm]
    rw [call_code F (show F 56 = some (.code f56) from rfl)]
    simp only [f56, he, go_sem, reduceIte, reduceCtorEq, Nat.reduceEqDiff, Nat.reduceAdd, ne_eq]
theorem c_Same1 (x y : Vx) (hl : Fits x.ring) : call F 53 [.agg [.int .i64 x.id.s, .int .i64 x.id.n, .sl .shared 3 (rowsBy Dart.c x.ring), .str x.label, .int .i64 x.attr], .agg [.int .i64 y.id.s, .int .i64 y.id.n, .sl .shared 3 (rowsBy Dart.c y.ring), .str y.label, .int .i64 y.attr]] = some (.bool (decide (x = y))) := by
  have ce := c_Equal_Dart x.ring y.ring hl
  have hxy := Vx.ext_iff' x y
  rw [call_code F (show F 53 = some (.code f53) from rfl)]
  by_cases h1 : x.id = y.id
  · by_cases h2 : x.label = y.label
    · by_cases h3 : x.attr = y.attr
      · have he : decide (x.ring = y.ring) = decide (x = y) := by
          rw [decide_eq_decide, hxy]; exact ⟨fun h => ⟨h1, h2, h3, h⟩, fun h => h.2.2.2⟩
        rw [he] at ce
        simp only [f53, str_beq, ce, dec_t h1, dec_t h2, dec_t h3, go_sem, reduceIte, reduceCtorEq, Nat.reduceEqDiff, Nat.reduceAdd, Nat.reduceMul, Nat.reduceLeDiff, List.length_cons, List.length_nil]
      · rw [dec_f (show ¬ x = y from fun h => h3 (hxy.1 h).2.2.1)]
        simp only [f53, str_beq, dec_t h1, dec_t h2, dec_f h3, go_sem, reduceIte, reduceCtorEq, Nat.reduceEqDiff, Nat.reduceAdd, Nat.reduceLeDiff, List.length_cons, List.length_nil]
    · rw [dec_f (show ¬ x = y from fun h => h2 (hxy.1 h).2.1)]
      simp only [f53, str_beq, dec_t h1, dec_f h2, go_sem, reduceIte, reduceCtorEq, Nat.reduceEqDiff, Nat.reduceAdd, Nat.reduceLeDiff, List.length_cons, List.length_nil]
  · rw [dec_f (show ¬ x = y from fun h => h1 (hxy.1 h).1)]
    simp only [f53, dec_f h1, go_sem, reduceIte, reduceCtorEq, Nat.reduceEqDiff, Nat.reduceAdd, Nat.reduceLeDiff, List.length_cons, List.length_nil]
theorem c_EqualFunc_Vertex (l m : List Vx) (hl : Fits l) (hr : FitsR l) : call F 55 [.sl .shared 5 (rowsBy Vx.c l), .sl .shared 5 (rowsBy Vx.c m), .fn 53 []] = some (.bool (decide (l = m))) := by
  have hl := hl.le
  by_cases hlen : l.length = m.length
  · have he := len_eq hlen
    have l1 : E (call F) 0 f55_l1 (⟨(upd (upd (upd (upd (upd Sx.e0 17 (.v (.int .i64 (0)))) 16 (.v (.int .i64 ((l.length : Int))))) 15 (.v (.sl .shared 5 (rowsBy Vx.c l)))) 2 (.v (.fn 53 []))) 1 (.v (.sl .shared 5 (rowsBy Vx.c m)))), Sx.h0⟩ : St) = some (if (List.range (l.length)).any (pairB (fun x y => decide (x = y)) l m) then (.ret, (⟨(upd Sx.e0 6 (.v (.bool false))), Sx.h0⟩ : St)) else (.exit 0, (⟨Sx.e0, Sx.h0⟩ : St))) := by
      refine loop_any (b := f55_b1) (fun q0 => (⟨(upd (upd (upd (upd (upd Sx.e0 17 (.v (.int .i64 ((q0 : Int))))) 16 (.v (.int .i64 ((l.length : Int))))) 15 (.v (.sl .shared 5 (rowsBy Vx.c l)))) 2 (.v (.fn 53 []))) 1 (.v (.sl .shared 5 (rowsBy Vx.c m)))), Sx.h0⟩ : St)) (pairB (fun x y => decide (x = y)) l m) (l.length) ?_ ?_ (by simp) ?_ (by simp)
      · intro i h1 hp
        have h2 : i < m.length := by omega
        rw [pairB_at h1 h2] at hp
        have hd : decide (l[i] = m[i]) = true := by simpa using hp
        have hs := c_Same1 l[i] m[i] (hr _ (List.getElem_mem h1))
        rw [hd] at hs
        have h2z : (i : Int) < (m.length : Int) := by omega
        simp only [f55_b1, dec_lt h1, rowsBy_get Vx.c h1, rowsBy_get Vx.c h2, Vx.c, hs, wrap_succ h1 (show l.length ≤ 9223372036854775807 by omega), go_sem, reduceIte, Nat.reduceEqDiff, Nat.reduceAdd, Nat.reduceMul, List.length_cons, List.length_nil]
      · intro i h1 hp
        have h2 : i < m.length := by omega
        rw [pairB_at h1 h2] at hp
        have hd : decide (l[i] = m[i]) = false := by simpa using hp
        have hs := c_Same1 l[i] m[i] (hr _ (List.getElem_mem h1))
        rw [hd] at hs
        simp only [f55_b1, dec_lt h1, rowsBy_get Vx.c h1, rowsBy_get Vx.c h2, Vx.c, hs, go_sem, reduceIte, Nat.reduceEqDiff, Nat.reduceAdd, Nat.reduceMul, List.length_cons, List.length_nil]
      · simp only [f55_b1, dec_ge (Nat.le_refl l.length), go_sem, reduceIte, Nat.reduceEqDiff]
    rw [pairB_eq (fun _ _ => rfl) hlen] at l1
    generalize decide (l = m) = b at *
    rw [call_code F (show F 55 = some (.code f55) from rfl)]
    cases b
    · simp only [f55, he, l1, Bool.not_false, go_sem, reduceIte, reduceCtorEq, Nat.reduceEqDiff, Nat.reduceAdd, ne_eq]
    · simp only [f55, he, l1, Bool.not_true, go_sem, reduceIte, reduceCtorEq, Nat.reduceEqDiff, Nat.reduceAdd, ne_eq]
  · have hlm : l ≠ m := fun e => hlen (by rw [e])
    have he := len_ne hlen
    rw [dec_f hlm]
    rw [call_code F (show F 55 = some (.code f55) from rfl)]
    simp only [f55, he, go_sem, reduceIte, reduceCtorEq, Nat.reduceEqDiff, Nat.reduceAdd, ne_eq]
theorem i_diagram_Same (l m : List Vx) (e f : List Ed) (hl : Fits l) (hr : FitsR l) (he : Fits e) : call F 25 [.agg [.sl .shared 5 (rowsBy Vx.c l), .sl .shared 4 (rowsBy Ed.c e)], .agg [.sl .shared 5 (rowsBy Vx.c m), .sl .shared 4 (rowsBy Ed.c f)]] = some (.bool (decide (l = m) && decide (e = f))) := by
  have c1 := c_EqualFunc_Vertex l m hl hr
  have c2 := c_Equal_Edge e f he
  generalize decide (l = m) = a at *
  generalize decide (e = f) = b at *
  rw [call_code F (show F 25 = some (.code f25) from rfl)]
  cases a
  · simp only [f25, c1, go_sem, reduceIte, reduceCtorEq, Nat.reduceEqDiff, Nat.reduceAdd, Nat.reduceMul, Nat.reduceLeDiff, List.length_cons, List.length_nil]
  · simp only [f25, c1, c2, Bool.true_and, go_sem, reduceIte, reduceCtorEq, Nat.reduceEqDiff, Nat.reduceAdd, Nat.reduceMul, Nat.reduceLeDiff, List.length_cons, List.length_nil]
theorem i_r04_Same (l m : List Vx) (e f : List Ed) (hl : Fits l) (hr : FitsR l) (he : Fits e) : call F 21 [.agg [.sl .shared 5 (rowsBy Vx.c l), .sl .shared 4 (rowsBy Ed.c e)], .agg [.sl .shared 5 (rowsBy Vx.c m), .sl .shared 4 (rowsBy Ed.c f)]] = some (.bool (decide (l = m) && decide (e = f))) := by
  have hl := hl.le
  have he := he.le
  by_cases hlen : l.length = m.length
  · have k1 := len_eq hlen
    by_cases hlen2 : e.length = f.length
    · have k2 := len_eq hlen2
      have l1 : E (call F) 0 f21_l1 (⟨(upd (upd (upd Sx.e0 5 (.v (.int .i64 (0)))) 3 (.p 3 0)) 2 (.p 2 0)), (upd (upd Sx.h0 3 (some (.var false [(.v (.sl .shared 5 (rowsBy Vx.c m))), (.v (.sl .shared 4 (rowsBy Ed.c f)))]))) 2 (some (.var false [(.v (.sl .shared 5 (rowsBy Vx.c l))), (.v (.sl .shared 4 (rowsBy Ed.c e)))])))⟩ : St) = some (if (List.range (l.length)).any (pairB (fun x y => decide (x = y)) l m) then (.ret, (⟨(upd Sx.e0 4 (.v (.bool false))), Sx.h0⟩ : St)) else (.exit 0, (⟨(upd (upd Sx.e0 3 (.p 3 0)) 2 (.p 2 0)), (upd (upd Sx.h0 3 (some (.var false [(.v (.sl .shared 5 (rowsBy Vx.c m))), (.v (.sl .shared 4 (rowsBy Ed.c f)))]))) 2 (some (.var false [(.v (.sl .shared 5 (rowsBy Vx.c l))), (.v (.sl .shared 4 (rowsBy Ed.c e)))])))⟩ : St))) := by
        refine loop_any (b := f21_b1) (fun q0 => (⟨(upd (upd (upd Sx.e0 5 (.v (.int .i64 ((q0 : Int))))) 3 (.p 3 0)) 2 (.p 2 0)), (upd (upd Sx.h0 3 (some (.var false [(.v (.sl .shared 5 (rowsBy Vx.c m))), (.v (.sl .shared 4 (rowsBy Ed.c f)))]))) 2 (some (.var false [(.v (.sl .shared 5 (rowsBy Vx.c l))), (.v (.sl .shared 4 (rowsBy Ed.c e)))])))⟩ : St)) (pairB (fun x y => decide (x = y)) l m) (l.length) ?_ ?_ (by simp) ?_ (by simp)
        · intro i h1 hp
          have h2 : i < m.length := by omega
          rw [pairB_at h1 h2] at hp
          have hd : l[i] = m[i] := by simpa using hp
          obtain ⟨q1, q2, q3, q4⟩ := (Vx.ext_iff' _ _).1 hd
          have hs := c_r03_Darts l[i].ring m[i].ring (hr _ (List.getElem_mem h1))
          rw [dec_t q4] at hs
          have h1z : (i : Int) < (l.length : Int) := by omega
          have h2z : (i : Int) < (m.length : Int) := by omega
          simp only [f21_b1, h1z, rowsBy_get Vx.c h1, rowsBy_get Vx.c h2, Vx.c, hs, str_beq, dec_t q1, dec_t q2, dec_f (show ¬ ¬ l[i].attr = m[i].attr from fun h => h q3), wrap_succ h1 (show l.length ≤ 9223372036854775807 by omega), go_sem, reduceIte, Nat.reduceEqDiff, Nat.reduceAdd, Nat.reduceMul, Nat.reduceLeDiff, List.length_cons, List.length_nil, ne_eq]
        · intro i h1 hp
          have h2 : i < m.length := by omega
          rw [pairB_at h1 h2] at hp
          have hd : ¬ l[i] = m[i] := by simpa using hp
          have hs := c_r03_Darts l[i].ring m[i].ring (hr _ (List.getElem_mem h1))
          have h1z : (i : Int) < (l.length : Int) := by omega
          have h2z : (i : Int) < (m.length : Int) := by omega
          by_cases q1 : l[i].id = m[i].id
          · by_cases q2 : l[i].label = m[i].label
            · by_cases q3 : l[i].attr = m[i].attr
              · have q4 : ¬ l[i].ring = m[i].ring := fun q4 => hd ((Vx.ext_iff' _ _).2 ⟨q1, q2, q3, q4⟩)
                rw [dec_f q4] at hs
                simp only [f21_b1, h1z, rowsBy_get Vx.c h1, rowsBy_get Vx.c h2, Vx.c, hs, str_beq, dec_t q1, dec_t q2, dec_f (show ¬ ¬ l[i].attr = m[i].attr from fun h => h q3), go_sem, reduceIte, Nat.reduceEqDiff, Nat.reduceAdd, Nat.reduceMul, Nat.reduceLeDiff, List.length_cons, List.length_nil, ne_eq]
              · simp only [f21_b1, h1z, rowsBy_get Vx.c h1, rowsBy_get Vx.c h2, Vx.c, hs, str_beq, dec_t q1, dec_t q2, dec_t q3, go_sem, reduceIte, Nat.reduceEqDiff, Nat.reduceAdd, Nat.reduceMul, Nat.reduceLeDiff, List.length_cons, List.length_nil, ne_eq]
            · simp only [f21_b1, h1z, rowsBy_get Vx.c h1, rowsBy_get Vx.c h2, Vx.c, hs, str_beq, dec_t q1, dec_f q2, go_sem, reduceIte, Nat.reduceEqDiff, Nat.reduceAdd, Nat.reduceMul, Nat.reduceLeDiff, List.length_cons, List.length_nil]
          · simp only [f21_b1, h1z, rowsBy_get Vx.c h1, rowsBy_get Vx.c h2, Vx.c, hs, dec_f q1, go_sem, reduceIte, Nat.reduceEqDiff, Nat.reduceAdd, Nat.reduceMul, Nat.reduceLeDiff, List.length_cons, List.length_nil]
        · simp only [f21_b1, dec_ge (Nat.le_refl l.length), go_sem, reduceIte, Nat.reduceEqDiff, Nat.reduceAdd, Nat.reduceLeDiff, List.length_cons, List.length_nil]
      have l2 : E (call F) 0 f21_l2 (⟨(upd (upd (upd Sx.e0 9 (.v (.int .i64 (0)))) 3 (.p 3 0)) 2 (.p 2 0)), (upd (upd Sx.h0 3 (some (.var false [(.v (.sl .shared 5 (rowsBy Vx.c m))), (.v (.sl .shared 4 (rowsBy Ed.c f)))]))) 2 (some (.var false [(.v (.sl .shared 5 (rowsBy Vx.c l))), (.v (.sl .shared 4 (rowsBy Ed.c e)))])))⟩ : St) = some (if (List.range (e.length)).any (pairB (fun x y => decide (x = y)) e f) then (.ret, (⟨(upd Sx.e0 4 (.v (.bool false))), Sx.h0⟩ : St)) else (.exit 2, (⟨Sx.e0, Sx.h0⟩ : St))) := by
        refine loop_any (b := f21_b2) (fun q0 => (⟨(upd (upd (upd Sx.e0 9 (.v (.int .i64 ((q0 : Int))))) 3 (.p 3 0)) 2 (.p 2 0)), (upd (upd Sx.h0 3 (some (.var false [(.v (.sl .shared 5 (rowsBy Vx.c m))), (.v (.sl .shared 4 (rowsBy Ed.c f)))]))) 2 (some (.var false [(.v (.sl .shared 5 (rowsBy Vx.c l))), (.v (.sl .shared 4 (rowsBy Ed.c e)))])))⟩ : St)) (pairB (fun x y => decide (x = y)) e f) (e.length) ?_ ?_ (by simp) ?_ (by simp)
        · intro i h1 hp
          have h2 : i < f.length := by omega
          rw [pairB_at h1 h2] at hp
          have hd : decide (e[i] = f[i]) = true := by simpa using hp
          have h1z : (i : Int) < (e.length : Int) := by omega
          have h2z : (i : Int) < (f.length : Int) := by omega
          simp only [f21_b2, h1z, rowsBy_get Ed.c h1, rowsBy_get Ed.c h2, Ed.c, str_beq, Ed.dec, hd, wrap_succ h1 (show e.length ≤ 9223372036854775807 by omega), go_sem, reduceIte, Nat.reduceEqDiff, Nat.reduceAdd, List.length_cons, List.length_nil, Nat.testBit, Nat.reduceShiftRight, Nat.reduceAnd, Nat.reduceBNe]
        · intro i h1 hp
          have h2 : i < f.length := by omega
          rw [pairB_at h1 h2] at hp
          have hd : decide (e[i] = f[i]) = false := by simpa using hp
          have h1z : (i : Int) < (e.length : Int) := by omega
          have h2z : (i : Int) < (f.length : Int) := by omega
          simp only [f21_b2, h1z, rowsBy_get Ed.c h1, rowsBy_get Ed.c h2, Ed.c, str_beq, Ed.dec, hd, go_sem, reduceIte, Nat.reduceEqDiff, Nat.reduceAdd, List.length_cons, List.length_nil, Nat.testBit, Nat.reduceShiftRight, Nat.reduceAnd, Nat.reduceBNe]
        · simp only [f21_b2, dec_ge (Nat.le_refl e.length), go_sem, reduceIte, Nat.reduceEqDiff, Nat.reduceAdd, List.length_cons, List.length_nil]
      rw [pairB_eq (fun _ _ => rfl) hlen] at l1
      rw [pairB_eq (fun _ _ => rfl) hlen2] at l2
      generalize decide (l = m) = a at *
      generalize decide (e = f) = b at *
      rw [call_code F (show F 21 = some (.code f21) from rfl)]
      cases a
      · simp only [f21, k1, k2, l1, Bool.not_false, Bool.false_and, go_sem, reduceIte, reduceCtorEq, Nat.reduceEqDiff, Nat.reduceAdd, Nat.reduceLeDiff, List.length_cons, List.length_nil, ne_eq]
      · cases b
        · simp only [f21, k1, k2, l1, l2, Bool.not_true, Bool.not_false, Bool.and_false, go_sem, reduceIte, reduceCtorEq, Nat.reduceEqDiff, Nat.reduceAdd, Nat.reduceLeDiff, List.length_cons, List.length_nil, ne_eq]
        · simp only [f21, k1, k2, l1, l2, Bool.not_true, Bool.and_true, go_sem, reduceIte, reduceCtorEq, Nat.reduceEqDiff, Nat.reduceAdd, Nat.reduceLeDiff, List.length_cons, List.length_nil, ne_eq]
    · have k2 := len_ne hlen2
      rw [dec_f (show ¬ e = f from fun h => hlen2 (by rw [h])), Bool.and_false]
      rw [call_code F (show F 21 = some (.code f21) from rfl)]
      simp only [f21, k1, k2, go_sem, reduceIte, reduceCtorEq, Nat.reduceEqDiff, Nat.reduceAdd, Nat.reduceLeDiff, List.length_cons, List.length_nil, ne_eq]
  · have k1 := len_ne hlen
    rw [dec_f (show ¬ l = m from fun h => hlen (by rw [h])), Bool.false_and]
    rw [call_code F (show F 21 = some (.code f21) from rfl)]
    simp only [f21, k1, go_sem, reduceIte, reduceCtorEq, Nat.reduceEqDiff, Nat.reduceAdd, Nat.reduceLeDiff, List.length_cons, List.length_nil, ne_eq]
theorem c_Clone_Vertex (fl : Fl) (rows : List (List TV)) (h : rows.length * 64 ≤ 140737488355328) : call F 45 [.sl fl 5 rows] = some (.sl (.own 38) 5 rows) := by
  rw [call_ext F (show F 45 = some (.ext (cloneG 38 5 64)) from rfl)]
  simp only [cloneG, h, and_self, if_true]
theorem c_Clone_Edge (fl : Fl) (rows : List (List TV)) (h : rows.length * 40 ≤ 140737488355328) : call F 46 [.sl fl 4 rows] = some (.sl (.own 47) 4 rows) := by
  rw [call_ext F (show F 46 = some (.ext (cloneG 47 4 40)) from rfl)]
  simp only [cloneG, h, and_self, if_true]
theorem rowsBy_set_same {α : Type} (c : α → List TV) {l : List α} {i : Nat} (h : i < l.length) : (rowsBy c l).set i (c l[i]) = rowsBy c l := by
  rw [rowsBy_set, List.set_getElem_self]
theorem i_diagram_Clone (l : List Vx) (es : List Ed) (hl : l.length ≤ 100000) (he : es.length ≤ 100000) (hr : FitsR l) : call F 18 [.agg [.sl .shared 5 (rowsBy Vx.c l), .sl .shared 4 (rowsBy Ed.c es)]] = some (.agg [.sl (.own 38) 5 (rowsBy Vx.c l), .sl (.own 47) 4 (rowsBy Ed.c es)]) := by
  have k1 : l.length * 64 ≤ 140737488355328 := by omega
  have k2 : es.length * 40 ≤ 140737488355328 := by omega
  have c1 := c_Clone_Vertex .shared (rowsBy Vx.c l) (by rw [rowsBy_length]; exact k1)
  have c2 := c_Clone_Edge .shared (rowsBy Ed.c es) (by rw [rowsBy_length]; exact k2)
  have l1 : E (call F) 0 f18_l1 (⟨(upd (upd (upd (upd Sx.e0 15 (.v (.int .i64 (0)))) 14 (.v (.int .i64 ((l.length : Int))))) 3 (.p 3 0)) 2 (.p 2 0)), (upd (upd (upd (upd Sx.h0 10193 (some (.arr false 47 4 (rowsBy Ed.c es)))) 10192 (some (.arr false 38 5 (rowsBy Vx.c l)))) 3 (some (.var false [(.s 10192 0 l.length), (.s 10193 0 es.length)]))) 2 (some (.var false [(.v (.sl (.tight 38) 5 [])), (.v (.sl (.tight 47) 4 []))])))⟩ : St) = some (.exit 0, (⟨(upd (upd Sx.e0 3 (.p 3 0)) 2 (.p 2 0)), (upd (upd (upd (upd Sx.h0 10193 (some (.arr false 47 4 (rowsBy Ed.c es)))) 10192 (some (.arr false 38 5 (rowsBy Vx.c l)))) 3 (some (.var false [(.s 10192 0 l.length), (.s 10193 0 es.length)]))) 2 (some (.var false [(.v (.sl (.tight 38) 5 [])), (.v (.sl (.tight 47) 4 []))])))⟩ : St)) := by
    refine loop_to (b := f18_b1) (fun q0 => (⟨(upd (upd (upd (upd Sx.e0 15 (.v (.int .i64 ((q0 : Int))))) 14 (.v (.int .i64 ((l.length : Int))))) 3 (.p 3 0)) 2 (.p 2 0)), (upd (upd (upd (upd Sx.h0 10193 (some (.arr false 47 4 (rowsBy Ed.c es)))) 10192 (some (.arr false 38 5 (rowsBy Vx.c l)))) 3 (some (.var false [(.s 10192 0 l.length), (.s 10193 0 es.length)]))) 2 (some (.var false [(.v (.sl (.tight 38) 5 [])), (.v (.sl (.tight 47) 4 []))])))⟩ : St)) (l.length) ?_ ?_ (by simp)
    · intro i h1
      have h1z : (i : Int) < (l.length : Int) := by omega
      have hf := (hr _ (List.getElem_mem h1)).le
      have cd := c_Clone_Dart .shared (rowsBy Dart.c l[i].ring) (by rw [rowsBy_length]; omega)
      have e1 := rowsBy_set_same Vx.c h1
      simp only [Vx.c] at e1
      simp only [f18_b1, h1z, rowsBy_get Vx.c h1, Vx.c, cd, e1, wrap_succ h1 (show l.length ≤ 9223372036854775807 by omega), List.set_cons_zero, List.set_cons_succ, go_sem, reduceIte, Nat.reduceEqDiff, Nat.reduceAdd, Nat.reduceMul, Nat.reduceLeDiff, Nat.reduceBEq, List.length_cons, List.length_nil, not_false_eq_true, Nat.testBit, Nat.reduceShiftRight, Nat.reduceAnd, Nat.reduceBNe]
    · simp only [f18_b1, dec_ge (Nat.le_refl l.length), go_sem, reduceIte, Nat.reduceEqDiff]
  rw [call_code F (show F 18 = some (.code f18) from rfl)]
  simp only [f18, c1, c2, l1, go_sem, reduceIte, reduceCtorEq, Nat.reduceEqDiff, Nat.reduceAdd, Nat.reduceMul, Nat.reduceLeDiff, Nat.reduceBEq, List.length_cons, List.length_nil, Nat.testBit, Nat.reduceShiftRight, Nat.reduceAnd, Nat.reduceBNe]
end Go.Proofs.Ytehcfmohjcjmpaa.Sx
