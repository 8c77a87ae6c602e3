/- Where darts and corners are now. -/
import Derived.Test.YtjhbejlpmchhfaaSxState
namespace Go.Proofs.Ytjhbejlpmchhfaa.Sx
open Go
theorem i_anchor_Find (l : List Gn) (d : Dart) (hl : Fits l) : call F 15 [.sl .shared 6 (rowsBy Gn.c l), .agg [.int .i64 d.e.s, .int .i64 d.e.n, .int .i64 d.d]] = some (gnT (gnBy l d)) := by
  have ix := i_IndexFunc_Gone l d hl
  rcases findIdx_cases (fun g : Gn => decide (g.d = d)) l with h0 | ⟨hlt, hp⟩
  · rw [if_pos h0] at ix
    rw [gnBy, firstBy_none h0, gnT]
    unfold dartT Dart0 ID0
    rw [call_code F (show F 15 = some (.code f15) from rfl)]
    simp only [f15, ix, go_sem, reduceIte, reduceCtorEq, Nat.reduceEqDiff, Nat.reduceAdd, Nat.reduceMul, List.length_cons, List.length_nil, Int.reduceLT, Int.reduceNeg]
  · rw [if_neg (show ¬ l.findIdx (fun g : Gn => decide (g.d = d)) = l.length by omega)] at ix
    rw [gnBy, firstBy_some hlt, gnT]
    unfold dartT
    generalize l.findIdx (fun g : Gn => decide (g.d = d)) = n at *
    have hltz : (n : Int) < (l.length : Int) := Int.ofNat_lt.2 hlt
    have hq : decide ((n : Int) < 0) = false := by simp
    rw [call_code F (show F 15 = some (.code f15) from rfl)]
    simp only [f15, ix, hq, rowsBy_get Gn.c hlt, Gn.c, go_sem, reduceIte, reduceCtorEq, Nat.reduceEqDiff, Nat.reduceAdd, Nat.reduceMul, List.length_cons, List.length_nil]
/-- as many steps as that -/
def resN (vs : List Vx) (gs : List Gn) : Nat → Dart → Dart
  | 0, _ => Dart0
  | n + 1, d => match atBy vs d with
    | some _ => d
    | none => match gnBy gs d with
      | some g => resN vs gs n g.to
      | none => Dart0
def res (vs : List Vx) (gs : List Gn) (d : Dart) : Dart := resN vs gs (gs.length + 1) d
theorem resolve_l1 (vs : List Vx) (gs : List Gn) (eds : List Ed) (hl : Fits vs) (hr : FitsR vs) (hg : Fits gs) : ∀ (k i : Nat) (d : Dart), i + k = gs.length + 1 →
    (E (call F) 0 f13_l1 (⟨(upd (upd (upd (upd (upd Sx.e0 13 (.v (.int .i64 ((i : Int))))) 12 (.v (.int .i64 (((gs.length + 1 : Nat) : Int))))) 4 (.p 4 0)) 3 (.p 3 0)) 2 (.p 2 0)), (upd (upd (upd Sx.h0 4 (some (.var false [(.v (.int .i64 (0))), (.v (.int .i64 (0))), (.v (.int .i64 (0)))]))) 3 (some (.var false [(.v (.int .i64 ((d).e.s))), (.v (.int .i64 ((d).e.n))), (.v (.int .i64 ((d).d)))]))) 2 (some (.var false [(.v (.sl .shared 5 (rowsBy Vx.c vs))), (.v (.sl .shared 4 (rowsBy Ed.c eds))), (.v (.sl .shared 6 (rowsBy Gn.c gs)))])))⟩ : St) = some (.ret, (⟨(upd Sx.e0 4 (.p 4 0)), (upd Sx.h0 4 (some (.var false [(.v (.int .i64 ((resN vs gs k d).e.s))), (.v (.int .i64 ((resN vs gs k d).e.n))), (.v (.int .i64 ((resN vs gs k d).d)))])))⟩ : St))) ∨ (resN vs gs k d = Dart0 ∧ E (call F) 0 f13_l1 (⟨(upd (upd (upd (upd (upd Sx.e0 13 (.v (.int .i64 ((i : Int))))) 12 (.v (.int .i64 (((gs.length + 1 : Nat) : Int))))) 4 (.p 4 0)) 3 (.p 3 0)) 2 (.p 2 0)), (upd (upd (upd Sx.h0 4 (some (.var false [(.v (.int .i64 (0))), (.v (.int .i64 (0))), (.v (.int .i64 (0)))]))) 3 (some (.var false [(.v (.int .i64 ((d).e.s))), (.v (.int .i64 ((d).e.n))), (.v (.int .i64 ((d).d)))]))) 2 (some (.var false [(.v (.sl .shared 5 (rowsBy Vx.c vs))), (.v (.sl .shared 4 (rowsBy Ed.c eds))), (.v (.sl .shared 6 (rowsBy Gn.c gs)))])))⟩ : St) = some (.exit 0, (⟨(upd Sx.e0 4 (.p 4 0)), (upd Sx.h0 4 (some (.var false [(.v (.int .i64 (0))), (.v (.int .i64 (0))), (.v (.int .i64 (0)))])))⟩ : St))) := by
  have hgl := hg.le
  intro k
  induction k with
  | zero =>
    intro i d hi
    refine .inr ⟨rfl, ?_⟩
    rw [f13_l1_eq]
    simp only [f13_b1, dec_ge (show gs.length + 1 ≤ i by omega), go_sem, reduceIte, Nat.reduceEqDiff]
  | succ k ih =>
    intro i d hi
    have h1 : i < gs.length + 1 := by omega
    have hv := i_At vs d hl hr (.sl .shared 4 (rowsBy Ed.c eds))
    rw [f13_l1_eq]
    cases ha : atBy vs d with
    | some v =>
      rw [ha] at hv
      simp only [atT, idT] at hv
      have e : resN vs gs (k + 1) d = d := by simp only [resN, ha]
      rw [e]
      refine .inl ?_
      simp only [f13_b1, dec_lt h1, hv, go_sem, reduceIte, Nat.reduceEqDiff, Nat.reduceAdd, Nat.reduceMul, Nat.reduceLeDiff, List.length_cons, List.length_nil]
    | none =>
      rw [ha] at hv
      simp only [atT, idT] at hv
      have hf := i_anchor_Find gs d hg
      cases hgb : gnBy gs d with
      | none =>
        rw [hgb] at hf
        simp only [gnT, dartT, Dart0, ID0] at hf
        have e : resN vs gs (k + 1) d = Dart0 := by simp only [resN, ha, hgb]
        refine .inr ⟨e, ?_⟩
        simp only [f13_b1, dec_lt h1, hv, hf, go_sem, reduceIte, reduceCtorEq, Nat.reduceEqDiff, Nat.reduceAdd, Nat.reduceMul, Nat.reduceLeDiff, List.length_cons, List.length_nil]
      | some g =>
        rw [hgb] at hf
        simp only [gnT, dartT] at hf
        have e : resN vs gs (k + 1) d = resN vs gs k g.to := by simp only [resN, ha, hgb]
        rw [e]
        have ih := ih (i + 1) g.to (by omega)
        simp only [f13_b1, dec_lt h1, hv, hf, wrap_succ h1 (show gs.length + 1 ≤ 9223372036854775807 by omega), go_sem, reduceIte, Nat.reduceEqDiff, Nat.reduceAdd, Nat.reduceMul, Nat.reduceLeDiff, List.length_cons, List.length_nil]
        exact ih
theorem i_Resolve (vs : List Vx) (gs : List Gn) (eds : List Ed) (hl : Fits vs) (hr : FitsR vs) (hg : gs.length ≤ 999999) (d : Dart) : call F 13 [.agg [.sl .shared 5 (rowsBy Vx.c vs), .sl .shared 4 (rowsBy Ed.c eds), .sl .shared 6 (rowsBy Gn.c gs)], .agg [.int .i64 d.e.s, .int .i64 d.e.n, .int .i64 d.d]] = some (dartT (res vs gs d)) := by
  have w : IntKind.i64.wrap ((gs.length : Int) + 1) = ((gs.length + 1 : Nat) : Int) := wrap_succ (Nat.lt_succ_self _) (by omega)
  have l1 := resolve_l1 vs gs eds hl hr (Nat.le_trans hg (by decide)) (gs.length + 1) 0 d (by omega)
  simp only [nat0] at l1
  unfold dartT res
  rcases l1 with l1 | ⟨e, l1⟩
  · rw [call_code F (show F 13 = some (.code f13) from rfl)]
    simp only [f13, w, l1, go_sem, reduceIte, reduceCtorEq, Nat.reduceEqDiff, Nat.reduceAdd, List.length_cons, List.length_nil]
  · rw [e]
    unfold Dart0 ID0
    rw [call_code F (show F 13 = some (.code f13) from rfl)]
    simp only [f13, w, l1, go_sem, reduceIte, reduceCtorEq, Nat.reduceEqDiff, Nat.reduceAdd, List.length_cons, List.length_nil]
theorem i_diagram_Vertex (l : List Vx) (x : ID) (hl : Fits l) (hr : FitsR l) (es : TV) : call F 21 [.agg [.sl .shared 5 (rowsBy Vx.c l), es], .agg [.int .i64 x.s, .int .i64 x.n]] = some (vxT (.own 32) (vxBy l x)) := by
  have hv := i_find_Vertex l x hl
  cases hc : vxBy l x with
  | none =>
    rw [hc] at hv
    simp only [vxT] at hv ⊢
    rw [call_code F (show F 21 = some (.code f21) from rfl)]
    simp only [f21, hv, c_Clone_Dart, go_sem, reduceIte, reduceCtorEq, Nat.reduceEqDiff, Nat.reduceAdd, Nat.reduceMul, Nat.reduceLeDiff, List.length_cons, List.length_nil]
  | some v =>
    rw [hc] at hv
    have hb : v.ring.length * 24 ≤ 140737488355328 := by
      have := (hr v (firstBy_mem hc).1).le
      omega
    simp only [vxT] at hv ⊢
    rw [call_code F (show F 21 = some (.code f21) from rfl)]
    simp only [f21, hv, c_Clone_Dart, hb, go_sem, reduceIte, reduceCtorEq, Nat.reduceEqDiff, Nat.reduceAdd, Nat.reduceMul, Nat.reduceLeDiff, List.length_cons, List.length_nil]
end Go.Proofs.Ytjhbejlpmchhfaa.Sx
