/- Chapter 6: its functions, the program's and the reference's, as what they come to in a diagram that is well formed. Diagrams compared, copied; their names. Chapter 6: the head of the statements; labels and parts as the reference has them; labels as places. Rings the other way round, in plain Lean: the same faces, the other way round. An edge more between two corners, in plain Lean. The reference's copy of a diagram. CompEdge: an edge more between two vertices makes one part of two, or leaves as many. The forms of this seat's arguments. -/
import Derived.Test.YtfhijlhiifkkhaaRows
import Derived.Test.YtfhijlhiifkkhaaSxG4
import Derived.Test.YtfhijlhiifkkhaaSxG6
import Derived.Test.YtfhijlhiifkkhaaSxG7
set_option maxRecDepth 100000
set_option linter.unusedSimpArgs false
set_option linter.unusedVariables false
namespace Go.Proofs.Ytfhijlhiifkkhaa.Sx
open Go
theorem c_Ints (l m : List Nat) (hl : l.length ≤ 9223372036854775807) : call F 10 [.sl .shared 1 (rowsBy cNat l), .sl .shared 1 (rowsBy cNat m)] = some (.bool (decide (l = m))) := by
  by_cases hlen : l.length = m.length
  · have he : (decide (¬ (l.length : Int) = (m.length : Int))) = false := dec_f (by omega)
    have l1 : E (cs F) 0 f10_l1 (⟨(upd (upd (upd Sx.e0 5 (.v (.int .i64 (0)))) 1 (.v (.sl .shared 1 (rowsBy cNat m)))) 0 (.v (.sl .shared 1 (rowsBy cNat l)))), Sx.h0⟩ : St) = some (if (List.range (l.length)).any (pairB (fun x y => decide (x = y)) l m) then (.ret, (⟨(upd Sx.e0 4 (.v (.bool false))), Sx.h0⟩ : St)) else (.exit 0, (⟨Sx.e0, Sx.h0⟩ : St))) := by
      refine loop_any (b := f10_b1) (fun q0 => (⟨(upd (upd (upd Sx.e0 5 (.v (.int .i64 ((q0 : Int))))) 1 (.v (.sl .shared 1 (rowsBy cNat m)))) 0 (.v (.sl .shared 1 (rowsBy cNat l)))), Sx.h0⟩ : St)) (pairB (fun x y => decide (x = y)) l m) (l.length) ?_ ?_ (by simp) ?_ (by simp)
      · intro i h1 hp
        have h2 : i < m.length := by omega
        rw [pairB_at h1 h2] at hp
        have hd : decide (¬ ((l[i] : Nat) : Int) = ((m[i] : Nat) : Int)) = false := by
          have : l[i] = m[i] := by simpa using hp
          exact dec_f (by omega)
        simp only [f10_b1, dec_lt h1, rowsBy_get cNat h1, rowsBy_get cNat h2, cNat, hd, wrap_succ h1 hl, go_sem, reduceIte, reduceCtorEq, Nat.reduceEqDiff, Nat.reduceAdd, List.length_cons, List.length_nil, ne_eq]
      · intro i h1 hp
        have h2 : i < m.length := by omega
        rw [pairB_at h1 h2] at hp
        have hd : decide (¬ ((l[i] : Nat) : Int) = ((m[i] : Nat) : Int)) = true := by
          have : ¬ l[i] = m[i] := by simpa using hp
          exact dec_t (by omega)
        simp only [f10_b1, dec_lt h1, rowsBy_get cNat h1, rowsBy_get cNat h2, cNat, hd, go_sem, reduceIte, reduceCtorEq, Nat.reduceEqDiff, Nat.reduceAdd, List.length_cons, List.length_nil, ne_eq]
      · simp only [f10_b1, dec_ge (Nat.le_refl l.length), go_sem, reduceIte, reduceCtorEq, Nat.reduceEqDiff]
    rw [pairB_eq (fun _ _ => rfl) hlen] at l1
    generalize decide (l = m) = b at *
    rw [call_code F (show F 10 = some (.code f10) from rfl)]
    cases b
    · simp only [f10, he, l1, Bool.not_false, go_sem, reduceIte, reduceCtorEq, Nat.reduceEqDiff, Nat.reduceAdd, ne_eq]
    · simp only [f10, he, l1, Bool.not_true, go_sem, reduceIte, reduceCtorEq, Nat.reduceEqDiff, Nat.reduceAdd, ne_eq]
  · have hlm : l ≠ m := fun e => hlen (by rw [e])
    have he : (decide (¬ (l.length : Int) = (m.length : Int))) = true := dec_t (by omega)
    rw [dec_f hlm]
    rw [call_code F (show F 10 = some (.code f10) from rfl)]
    simp only [f10, he, go_sem, reduceIte, reduceCtorEq, Nat.reduceEqDiff, Nat.reduceAdd, ne_eq]
def plZ (l : List Vx) (x : ID) : Int := if plV l x = l.length then -1 else (plV l x : Int)
theorem plZ_lt {l : List Vx} {x : ID} (h : plV l x < l.length) : plZ l x = (plV l x : Int) := if_neg (by omega)
theorem i_r06_place (l : List Vx) (x : ID) (hl : Fits l) (es : TV) : call F 30 [.agg [.sl .shared 5 (rowsBy Vx.c l), es], .agg [.int .i64 x.s, .int .i64 x.n]] = some (.int .i64 (plZ l x)) := by
  have hle : (l).length ≤ 5864062014634 := hl.le
  have hw : (l).length ≤ 9223372036854775807 := Nat.le_trans hle (by decide)
  have S : ∀ n, n ≤ (l).length → (∀ i, i < n → ∀ hi : i < (l).length, (fun v : Vx => decide (v.id = x)) (l)[i] = false) → ∀ r, E (cs F) 0 f30_b1 (⟨(upd (upd (upd Sx.e0 5 (.v (.int .i64 ((n : Int))))) 3 (.p 3 0)) 2 (.p 2 0)), (upd (upd Sx.h0 3 (some (.var false [(.v (.int .i64 (x.s))), (.v (.int .i64 (x.n)))]))) 2 (some (.var false [(.v (.sl .shared 5 (rowsBy Vx.c l))), (.v es)])))⟩ : St) = some r → r.1 ≠ .norm →
      E (cs F) 0 f30_l1 (⟨(upd (upd (upd Sx.e0 5 (.v (.int .i64 (0)))) 3 (.p 3 0)) 2 (.p 2 0)), (upd (upd Sx.h0 3 (some (.var false [(.v (.int .i64 (x.s))), (.v (.int .i64 (x.n)))]))) 2 (some (.var false [(.v (.sl .shared 5 (rowsBy Vx.c l))), (.v es)])))⟩ : St) = some r := by
    intro n hn hno r hf hrr
    refine loop_to (b := f30_b1) (fun i => (⟨(upd (upd (upd Sx.e0 5 (.v (.int .i64 ((i : Int))))) 3 (.p 3 0)) 2 (.p 2 0)), (upd (upd Sx.h0 3 (some (.var false [(.v (.int .i64 (x.s))), (.v (.int .i64 (x.n)))]))) 2 (some (.var false [(.v (.sl .shared 5 (rowsBy Vx.c l))), (.v es)])))⟩ : St)) n ?_ hf hrr
    intro i hi
    have h1 : i < (l).length := Nat.lt_of_lt_of_le hi hn
    have h1z : (i : Int) < ((l).length : Int) := Int.ofNat_lt.2 h1
    have hne := hno i hi h1
    have hne' : ¬ l[i].id = x := of_decide_eq_false hne
    have hq1 := dec_f hne'
    have hq2 := dec_f (Ne.symm hne')
    simp only [f30_b1, h1z, rowsBy_get Vx.c h1, Vx.c, hq1, wrap_succ h1 hw, go_sem, reduceIte, Nat.reduceEqDiff, Nat.reduceAdd, Nat.reduceLeDiff, List.length_cons, List.length_nil, Nat.testBit, Nat.reduceShiftRight, Nat.reduceAnd, Nat.reduceBNe]
  have S := S ((l).findIdx (fun v : Vx => decide (v.id = x))) List.findIdx_le_length (fun i h1 h2 => findIdx_not h1 h2)
  rcases findIdx_cases (fun v : Vx => decide (v.id = x)) (l) with h0 | ⟨hlt, hp⟩
  · rw [h0] at S
    have := S _ (by simp only [f30_b1, dec_ge (Nat.le_refl (l).length), go_sem, reduceIte, Nat.reduceEqDiff, Nat.reduceAdd, Nat.reduceLeDiff, List.length_cons, List.length_nil]
                    rfl) (by simp)
    rw [plZ, plV, if_pos h0]
    rw [call_code F (show F 30 = some (.code f30) from rfl)]
    simp only [f30, this, go_sem, reduceIte, reduceCtorEq, Nat.reduceEqDiff, Nat.reduceAdd, List.length_cons, List.length_nil, Int.reduceNeg]
  · rw [plZ, if_neg (show ¬ plV l x = l.length from Nat.ne_of_lt hlt), plV]
    generalize (l).findIdx (fun v : Vx => decide (v.id = x)) = n at *
    have hltz : (n : Int) < ((l).length : Int) := Int.ofNat_lt.2 hlt
    have hp' : l[n].id = x := of_decide_eq_true hp
    have hq1 := dec_t hp'
    have hq2 := dec_t hp'.symm
    have := S _ (by simp only [f30_b1, hltz, rowsBy_get Vx.c hlt, Vx.c, hq1, go_sem, reduceIte, Nat.reduceEqDiff, Nat.reduceAdd, Nat.reduceLeDiff, List.length_cons, List.length_nil, Nat.testBit, Nat.reduceShiftRight, Nat.reduceAnd, Nat.reduceBNe]
                    rfl) (by simp)
    rw [call_code F (show F 30 = some (.code f30) from rfl)]
    simp only [f30, this, go_sem, reduceIte, reduceCtorEq, Nat.reduceEqDiff, Nat.reduceAdd, List.length_cons, List.length_nil, Int.reduceNeg]
theorem edgP_take {l : List Vx} {es : List Ed} {j : Nat} (hj : j < es.length) (f : List Nat) : spr (edgP l (es.take (j + 1))) f = spr1 (spr (edgP l (es.take j)) f) (dpl l ⟨es[j].id, 0⟩, dpl l ⟨es[j].id, 1⟩) := by
  unfold edgP
  rw [List.take_succ_eq_append_getElem hj, List.map_append, spr_append]; rfl
theorem r06_round {l : List Vx} {es : List Ed} (h : WF l es) (k : Nat) (f : List Nat) (hf : f.length = l.length) : E (cs F) 0 f12_l3 (⟨(upd (upd (upd (upd Sx.e0 6 (.v (.int .i64 (0)))) 5 (.v (.int .i64 ((k : Int))))) 3 (.s 3 0 l.length)) 1 (.p 1 0)), (upd (upd Sx.h0 3 (some (.arr false 3 1 (rowsBy cNat f)))) 1 (some (.var false [(.v (.sl .shared 5 (rowsBy Vx.c l))), (.v (.sl .shared 4 (rowsBy Ed.c es)))])))⟩ : St) =
    some (.exit 4, (⟨(upd (upd (upd Sx.e0 5 (.v (.int .i64 ((k : Int))))) 3 (.s 3 0 l.length)) 1 (.p 1 0)), (upd (upd Sx.h0 3 (some (.arr false 3 1 (rowsBy cNat (spr (edgP l es) f))))) 1 (some (.var false [(.v (.sl .shared 5 (rowsBy Vx.c l))), (.v (.sl .shared 4 (rowsBy Ed.c es)))])))⟩ : St)) := by
  have hle := h.le
  have hlv := h.lv
  have l1 : E (cs F) 0 f12_l3 (⟨(upd (upd (upd (upd Sx.e0 6 (.v (.int .i64 (0)))) 5 (.v (.int .i64 ((k : Int))))) 3 (.s 3 0 l.length)) 1 (.p 1 0)), (upd (upd Sx.h0 3 (some (.arr false 3 1 (rowsBy cNat (spr (edgP l (es.take 0)) f))))) 1 (some (.var false [(.v (.sl .shared 5 (rowsBy Vx.c l))), (.v (.sl .shared 4 (rowsBy Ed.c es)))])))⟩ : St) = some (.exit 4, (⟨(upd (upd (upd Sx.e0 5 (.v (.int .i64 ((k : Int))))) 3 (.s 3 0 l.length)) 1 (.p 1 0)), (upd (upd Sx.h0 3 (some (.arr false 3 1 (rowsBy cNat (spr (edgP l es) f))))) 1 (some (.var false [(.v (.sl .shared 5 (rowsBy Vx.c l))), (.v (.sl .shared 4 (rowsBy Ed.c es)))])))⟩ : St)) := by
    refine loop_to (b := f12_b3) (fun q0 => (⟨(upd (upd (upd (upd Sx.e0 6 (.v (.int .i64 ((q0 : Int))))) 5 (.v (.int .i64 ((k : Int))))) 3 (.s 3 0 l.length)) 1 (.p 1 0)), (upd (upd Sx.h0 3 (some (.arr false 3 1 (rowsBy cNat (spr (edgP l (es.take q0)) f))))) 1 (some (.var false [(.v (.sl .shared 5 (rowsBy Vx.c l))), (.v (.sl .shared 4 (rowsBy Ed.c es)))])))⟩ : St)) (es.length) ?_ ?_ (by simp)
    · intro j hj
      have hjz : (j : Int) < (es.length : Int) := by omega
      obtain ⟨m0, m1⟩ := h.edge_in (List.getElem_mem hj)
      obtain ⟨a1, a2⟩ := h.plV_dpl m0
      obtain ⟨b1, b2⟩ := h.plV_dpl m1
      have p0 := (dpl_at m0).1
      have p1 := (dpl_at m1).1
      have c0 := i_r04_At l ⟨es[j].id, 0⟩ h.fits h.fitsR (.sl .shared 4 (rowsBy Ed.c es))
      have c1 := i_r04_At l ⟨es[j].id, 1⟩ h.fits h.fitsR (.sl .shared 4 (rowsBy Ed.c es))
      have d0 := i_r06_place l (idAt l (dpl l ⟨es[j].id, 0⟩)) h.fits (.sl .shared 4 (rowsBy Ed.c es))
      have d1 := i_r06_place l (idAt l (dpl l ⟨es[j].id, 1⟩)) h.fits (.sl .shared 4 (rowsBy Ed.c es))
      rw [a1] at c0
      rw [b1] at c1
      rw [plZ_lt (by rw [a2]; exact p0), a2] at d0
      rw [plZ_lt (by rw [b2]; exact p1), b2] at d1
      rw [show atT (some (l.getD (dpl l ⟨es[j].id, 0⟩) Vx0)) = .tup [.agg [.int .i64 (idAt l (dpl l ⟨es[j].id, 0⟩)).s, .int .i64 (idAt l (dpl l ⟨es[j].id, 0⟩)).n], .bool true] from rfl] at c0
      rw [show atT (some (l.getD (dpl l ⟨es[j].id, 1⟩) Vx0)) = .tup [.agg [.int .i64 (idAt l (dpl l ⟨es[j].id, 1⟩)).s, .int .i64 (idAt l (dpl l ⟨es[j].id, 1⟩)).n], .bool true] from rfl] at c1
      rw [edgP_take hj]
      have hgl : (spr (edgP l (es.take j)) f).length = l.length := by rw [spr_len, hf]
      generalize spr (edgP l (es.take j)) f = g at *
      generalize idAt l (dpl l ⟨es[j].id, 0⟩) = x0 at *
      generalize idAt l (dpl l ⟨es[j].id, 1⟩) = x1 at *
      generalize dpl l ⟨es[j].id, 0⟩ = a at *
      generalize dpl l ⟨es[j].id, 1⟩ = b at *
      have r0 := row_nat (f := g) (i := a) (by omega)
      have r1 := row_nat (f := g) (i := b) (by omega)
      have z0 : (a : Int) < (l.length : Int) := by omega
      have z1 : (b : Int) < (l.length : Int) := by omega
      have y0 : decide ((a : Int) ≥ 0) = true := dec_t (by omega)
      have y1 : decide ((b : Int) ≥ 0) = true := dec_t (by omega)
      have mn : (if (fat g b : Int) < (fat g a : Int) then (fat g b : Int) else (fat g a : Int)) = ((min (fat g a) (fat g b) : Nat) : Int) := by split <;> omega
      unfold spr1
      have s1 : (rowsBy cNat g).set a [.int .i64 ((min (fat g a) (fat g b) : Nat) : Int)] = rowsBy cNat (g.set a (min (fat g a) (fat g b))) := rowsBy_set cNat g _ _
      have r2 := row_nat (f := g.set a (min (fat g a) (fat g b))) (i := b) (by rw [List.length_set]; omega)
      have s2 : (rowsBy cNat (g.set a (min (fat g a) (fat g b)))).set b [.int .i64 ((min (fat g a) (fat g b) : Nat) : Int)] = rowsBy cNat ((g.set a (min (fat g a) (fat g b))).set b (min (fat g a) (fat g b))) := rowsBy_set cNat _ _ _
      generalize min (fat g a) (fat g b) = w at *
      simp only [f12_b3, hjz, rowsBy_get Ed.c hj, Ed.c, c0, c1, d0, d1, r0, r1, z0, z1, mn, s1, r2, s2, upd_two, wrap_succ hj (show es.length ≤ 9223372036854775807 by omega), go_sem, reduceIte, Nat.reduceEqDiff, Nat.reduceAdd, Nat.reduceMul, Nat.reduceLeDiff, Nat.reduceBEq, List.length_cons, List.length_nil, not_false_eq_true, Nat.testBit, Nat.reduceShiftRight, Nat.reduceAnd, Nat.reduceBNe]
    · rw [List.take_length]
      simp only [f12_b3, dec_ge (Nat.le_refl es.length), go_sem, reduceIte, Nat.reduceEqDiff, Nat.reduceAdd, List.length_cons, List.length_nil]
  · exact l1
theorem i_r06_Labels {l : List Vx} {es : List Ed} (h : WF l es) : call F 12 [.agg [.sl .shared 5 (rowsBy Vx.c l), .sl .shared 4 (rowsBy Ed.c es)]] = some (labT l) := by
  have hle := h.le
  have hlv := h.lv
  have l1 : E (cs F) 0 f12_l1 (⟨(upd (upd (upd Sx.e0 4 (.v (.int .i64 (0)))) 3 (.s 3 0 0)) 1 (.p 1 0)), (upd (upd Sx.h0 3 (some (.arr false 3 1 (rowsBy cNat (List.range 0))))) 1 (some (.var false [(.v (.sl .shared 5 (rowsBy Vx.c l))), (.v (.sl .shared 4 (rowsBy Ed.c es)))])))⟩ : St) = some (.exit 0, (⟨(upd (upd Sx.e0 3 (.s 3 0 l.length)) 1 (.p 1 0)), (upd (upd Sx.h0 3 (some (.arr false 3 1 (rowsBy cNat (List.range l.length))))) 1 (some (.var false [(.v (.sl .shared 5 (rowsBy Vx.c l))), (.v (.sl .shared 4 (rowsBy Ed.c es)))])))⟩ : St)) := by
    refine loop_to (b := f12_b1) (fun q0 => (⟨(upd (upd (upd Sx.e0 4 (.v (.int .i64 ((q0 : Int))))) 3 (.s 3 0 q0)) 1 (.p 1 0)), (upd (upd Sx.h0 3 (some (.arr false 3 1 (rowsBy cNat (List.range q0))))) 1 (some (.var false [(.v (.sl .shared 5 (rowsBy Vx.c l))), (.v (.sl .shared 4 (rowsBy Ed.c es)))])))⟩ : St)) (l.length) ?_ ?_ (by simp)
    · intro i hi
      have hiz : (i : Int) < (l.length : Int) := by omega
      rw [range_nat]
      have hlr : (rowsBy cNat (List.range i)).length = i := by rw [rowsBy_map, List.length_map, List.length_range]
      generalize rowsBy cNat (List.range i) = q at *
      have e1 : q.take i = q := by rw [← hlr, List.take_length]
      have h8 : (i + 1) * 8 ≤ 140737488355328 := by omega
      simp only [f12_b1, hiz, h8, e1, wrap_succ hi (show l.length ≤ 9223372036854775807 by omega), go_sem, reduceIte, Nat.reduceEqDiff, Nat.reduceAdd, Nat.reduceLeDiff, List.length_cons, List.length_nil]
    · simp only [f12_b1, dec_ge (Nat.le_refl l.length), go_sem, reduceIte, Nat.reduceEqDiff, Nat.reduceAdd, Nat.reduceLeDiff, List.length_cons, List.length_nil]
  have l2 : E (cs F) 0 f12_l2 (⟨(upd (upd (upd Sx.e0 5 (.v (.int .i64 (0)))) 3 (.s 3 0 l.length)) 1 (.p 1 0)), (upd (upd Sx.h0 3 (some (.arr false 3 1 (rowsBy cNat (sprK (edgP l es) (List.range l.length) 0))))) 1 (some (.var false [(.v (.sl .shared 5 (rowsBy Vx.c l))), (.v (.sl .shared 4 (rowsBy Ed.c es)))])))⟩ : St) = some (.exit 2, (⟨(upd Sx.e0 3 (.s 3 0 l.length)), (upd Sx.h0 3 (some (.arr false 3 1 (rowsBy cNat (sprK (edgP l es) (List.range l.length) l.length)))))⟩ : St)) := by
    refine loop_to (b := f12_b2) (fun q0 => (⟨(upd (upd (upd Sx.e0 5 (.v (.int .i64 ((q0 : Int))))) 3 (.s 3 0 l.length)) 1 (.p 1 0)), (upd (upd Sx.h0 3 (some (.arr false 3 1 (rowsBy cNat (sprK (edgP l es) (List.range l.length) q0))))) 1 (some (.var false [(.v (.sl .shared 5 (rowsBy Vx.c l))), (.v (.sl .shared 4 (rowsBy Ed.c es)))])))⟩ : St)) (l.length) ?_ ?_ (by simp)
    · intro i hi
      have hiz : (i : Int) < (l.length : Int) := by omega
      have k1 := r06_round h i (sprK (edgP l es) (List.range l.length) i) (by
        clear l1 hi hiz
        induction i with
        | zero => exact List.length_range
        | succ i ih => show (spr _ _).length = _; rw [spr_len]; exact ih)
      show _ = some (Ex.norm, (⟨(upd (upd (upd Sx.e0 5 (.v (.int .i64 (((i + 1 : Nat) : Int))))) 3 (.s 3 0 l.length)) 1 (.p 1 0)), (upd (upd Sx.h0 3 (some (.arr false 3 1 (rowsBy cNat (spr (edgP l es) (sprK (edgP l es) (List.range l.length) i)))))) 1 (some (.var false [(.v (.sl .shared 5 (rowsBy Vx.c l))), (.v (.sl .shared 4 (rowsBy Ed.c es)))])))⟩ : St))
      generalize sprK (edgP l es) (List.range l.length) i = g at *
      generalize spr (edgP l es) g = g2 at *
      simp only [f12_b2, hiz, k1, wrap_succ hi (show l.length ≤ 9223372036854775807 by omega), go_sem, reduceIte, Nat.reduceEqDiff, Nat.reduceAdd, Nat.reduceLeDiff, List.length_cons, List.length_nil]
    · simp only [f12_b2, dec_ge (Nat.le_refl l.length), go_sem, reduceIte, Nat.reduceEqDiff, Nat.reduceAdd, Nat.reduceLeDiff, List.length_cons, List.length_nil]
  rw [h.rounds] at l2
  unfold labT
  have hlr : (rowsBy cNat ((List.range l.length).map (labV l))).length = l.length := by rw [rowsBy_map, List.length_map, List.length_map, List.length_range]
  have e0 : sprK (edgP l es) (List.range l.length) 0 = List.range l.length := rfl
  simp only [e0] at l2
  simp only [List.range_zero, rowsBy_nil] at l1
  generalize rowsBy cNat ((List.range l.length).map (labV l)) = q at *
  generalize rowsBy cNat (List.range l.length) = q0 at *
  have e1 : q.take l.length = q := by rw [← hlr, List.take_length]
  rw [call_code F (show F 12 = some (.code f12) from rfl)]
  simp only [f12, l1, l2, e1, go_sem, reduceIte, reduceCtorEq, Nat.reduceEqDiff, Nat.reduceAdd, List.length_cons, List.length_nil]
theorem i_Labels {l : List Vx} {es : List Ed} (h : WF l es) : call F 11 [.agg [.sl .shared 5 (rowsBy Vx.c l), .sl .shared 4 (rowsBy Ed.c es)]] = some (labT l) := by
  rw [call_ext F (show F 11 = some (.ext labG) from rfl)]
  exact labG_eq _ h.labok
theorem i_Parts {l : List Vx} {es : List Ed} (h : WF l es) : call F 13 [.agg [.sl .shared 5 (rowsBy Vx.c l), .sl .shared 4 (rowsBy Ed.c es)]] = some (.sl .shared 1 (rowsBy cIDs (partsI l))) := by
  rw [call_ext F (show F 13 = some (.ext partsG) from rfl), ← partsT_eq]
  exact partsG_eq _ _ h.labok
theorem i_comp_Count {l : List Vx} {es : List Ed} (h : WF l es) : call F 16 [.agg [.sl .shared 5 (rowsBy Vx.c l), .sl .shared 4 (rowsBy Ed.c es)]] = some (.int .i64 (partsN (labV l) l.length : Nat)) := by
  have c1 := i_Parts h
  have hl := partsI_len l
  rw [call_code F (show F 16 = some (.code f16) from rfl)]
  simp only [f16, c1, hl, go_sem, reduceIte, reduceCtorEq, Nat.reduceEqDiff, Nat.reduceAdd, Nat.reduceMul, List.length_cons, List.length_nil]
theorem partsN_succ (r : Nat → Nat) (i : Nat) : partsN r (i + 1) = partsN r i + if r i = i then 1 else 0 := by
  unfold partsN
  rw [List.range_succ, List.countP_append, List.countP_singleton]
  by_cases e : r i = i
  · rw [if_pos e, if_pos (by simpa using e)]
  · rw [if_neg e, if_neg (by simpa using e)]
theorem i_r06_Count {l : List Vx} {es : List Ed} (h : WF l es) : call F 17 [.agg [.sl .shared 5 (rowsBy Vx.c l), .sl .shared 4 (rowsBy Ed.c es)]] = some (.int .i64 (partsN (labV l) l.length : Nat)) := by
  have c1 := i_r06_Labels h
  have hlv := h.lv
  unfold labT at c1
  have hget : ∀ i, i < l.length → (rowsBy cNat ((List.range l.length).map (labV l)))[i]? = some [.int .i64 ((labV l i : Nat) : Int)] := fun i hi => by
    rw [rowsBy_get cNat (by rw [List.length_map, List.length_range]; exact hi), List.getElem_map, List.getElem_range]; rfl
  have hlr : (rowsBy cNat ((List.range l.length).map (labV l))).length = l.length := by rw [rowsBy_map, List.length_map, List.length_map, List.length_range]
  generalize rowsBy cNat ((List.range l.length).map (labV l)) = q at *
  have l1 : E (cs F) 0 f17_l1 (⟨(upd (upd (upd Sx.e0 5 (.v (.int .i64 (0)))) 4 (.v (.int .i64 ((partsN (labV l) 0 : Nat))))) 3 (.s 3 0 l.length)), (upd Sx.h0 3 (some (.arr false 3 1 q)))⟩ : St) = some (.exit 0, (⟨(upd Sx.e0 4 (.v (.int .i64 ((partsN (labV l) l.length : Nat))))), Sx.h0⟩ : St)) := by
    refine loop_to (b := f17_b1) (fun q0 => (⟨(upd (upd (upd Sx.e0 5 (.v (.int .i64 ((q0 : Int))))) 4 (.v (.int .i64 ((partsN (labV l) q0 : Nat))))) 3 (.s 3 0 l.length)), (upd Sx.h0 3 (some (.arr false 3 1 q)))⟩ : St)) (l.length) ?_ ?_ (by simp)
    · intro i hi
      have hiz : (i : Int) < (l.length : Int) := by omega
      have hp := partsN_le (labV l) i
      have hw := wrap_succ (i := partsN (labV l) i) (n := partsN (labV l) i + 1) (Nat.lt_succ_self _) (by omega)
      have hg := hget i hi
      rw [partsN_succ]
      generalize partsN (labV l) i = m at *
      by_cases e : labV l i = i
      · have hd : decide (((labV l i : Nat) : Int) = (i : Int)) = true := dec_t (by omega)
        rw [if_pos e]
        generalize labV l i = z at *
        simp only [f17_b1, hiz, hg, hd, hw, wrap_succ hi (show l.length ≤ 9223372036854775807 by omega), go_sem, reduceIte, Nat.reduceEqDiff, List.length_cons, List.length_nil]
      · have hd : decide (((labV l i : Nat) : Int) = (i : Int)) = false := dec_f (by omega)
        rw [if_neg e, Nat.add_zero]
        generalize labV l i = z at *
        simp only [f17_b1, hiz, hg, hd, hw, wrap_succ hi (show l.length ≤ 9223372036854775807 by omega), go_sem, reduceIte, Nat.reduceEqDiff, List.length_cons, List.length_nil]
    · simp only [f17_b1, dec_ge (Nat.le_refl l.length), go_sem, reduceIte, Nat.reduceEqDiff]
  have e0 : partsN (labV l) 0 = 0 := rfl
  simp only [e0, nat0] at l1
  generalize partsN (labV l) l.length = m at *
  rw [call_code F (show F 17 = some (.code f17) from rfl)]
  simp only [f17, c1, hlr, l1, go_sem, reduceIte, reduceCtorEq, Nat.reduceEqDiff, Nat.reduceAdd, Nat.reduceMul, List.length_cons, List.length_nil]
theorem i_Index_ID (l : List ID) (x : ID) (hl : Fits l) : call F 42 [.sl .shared 2 (rowsBy ID.c l), .agg [.int .i64 x.s, .int .i64 x.n]] = some (.int .i64 (idx l x)) := by
  have hl := hl.le
  have S : ∀ r, E (cs F) 0 f42_b1 (⟨(upd (upd (upd (upd Sx.e0 8 (.v (.int .i64 ((l.idxOf x : Int))))) 7 (.v (.int .i64 ((l.length : Int))))) 3 (.p 3 0)) 0 (.v (.sl .shared 2 (rowsBy ID.c l)))), (upd Sx.h0 3 (some (.var false [(.v (.int .i64 (x.s))), (.v (.int .i64 (x.n)))])))⟩ : St) = some r → r.1 ≠ .norm →
      E (cs F) 0 f42_l1 (⟨(upd (upd (upd (upd Sx.e0 8 (.v (.int .i64 (0)))) 7 (.v (.int .i64 ((l.length : Int))))) 3 (.p 3 0)) 0 (.v (.sl .shared 2 (rowsBy ID.c l)))), (upd Sx.h0 3 (some (.var false [(.v (.int .i64 (x.s))), (.v (.int .i64 (x.n)))])))⟩ : St) = some r := by
    intro r hf hr
    refine loop_to (b := f42_b1) (fun i => (⟨(upd (upd (upd (upd Sx.e0 8 (.v (.int .i64 ((i : Int))))) 7 (.v (.int .i64 ((l.length : Int))))) 3 (.p 3 0)) 0 (.v (.sl .shared 2 (rowsBy ID.c l)))), (upd Sx.h0 3 (some (.var false [(.v (.int .i64 (x.s))), (.v (.int .i64 (x.n)))])))⟩ : St)) (l.idxOf x) ?_ hf hr
    intro i hi
    have h1 : i < l.length := Nat.lt_of_lt_of_le hi (idxOf_le l x)
    have h1z : (i : Int) < (l.length : Int) := by omega
    have hne := dec_f (idxOf_ne hi h1)
    have hne2 := dec_f (Ne.symm (idxOf_ne hi h1))
    simp only [f42_b1, h1z, rowsBy_get ID.c h1, ID.c, hne2, wrap_succ h1 (show l.length ≤ 9223372036854775807 by omega), go_sem, reduceIte, reduceCtorEq, Nat.reduceEqDiff, Nat.reduceAdd, List.length_cons, List.length_nil]
  by_cases hm : x ∈ l
  · obtain ⟨hlt, he⟩ := idxOf_at hm
    have hd := dec_t he
    have hd2 := dec_t he.symm
    have hltz : ((l.idxOf x : Nat) : Int) < (l.length : Int) := by omega
    have := S _ (by simp only [f42_b1, hltz, rowsBy_get ID.c hlt, ID.c, hd2, go_sem, reduceIte, reduceCtorEq, Nat.reduceEqDiff, Nat.reduceAdd, List.length_cons, List.length_nil]; rfl) (by simp)
    rw [idx_pos hm]
    rw [call_code F (show F 42 = some (.code f42) from rfl)]
    simp only [f42, this, go_sem, reduceIte, reduceCtorEq, Nat.reduceEqDiff, Nat.reduceAdd, List.length_cons, List.length_nil, Int.reduceNeg]
  · have e := idxOf_not hm
    have := S _ (by rw [e]
                    simp only [f42_b1, dec_ge (Nat.le_refl l.length), go_sem, reduceIte, reduceCtorEq, Nat.reduceEqDiff]
                    rfl) (by simp)
    rw [idx_neg hm]
    rw [call_code F (show F 42 = some (.code f42) from rfl)]
    simp only [f42, this, go_sem, reduceIte, reduceCtorEq, Nat.reduceEqDiff, Nat.reduceAdd, List.length_cons, List.length_nil, Int.reduceNeg]
theorem i_Contains_ID (l : List ID) (x : ID) (hl : Fits l) : call F 33 [.sl .shared 2 (rowsBy ID.c l), .agg [.int .i64 x.s, .int .i64 x.n]] = some (.bool (decide (x ∈ l))) := by
  rw [call_code F (show F 33 = some (.code f33) from rfl)]
  simp only [f33, i_Index_ID l x hl, go_sem, reduceIte, reduceCtorEq, Nat.reduceEqDiff, Nat.reduceAdd, Nat.reduceMul, List.length_cons, List.length_nil]
  rw [idx_ge0]
theorem i_Tog1 (p : List ID) (x y : ID) (hp : Fits p) : call F 32 [.sl .shared 2 (rowsBy ID.c p), .pc [.int .i64 x.s, .int .i64 x.n], .pc [.int .i64 y.s, .int .i64 y.n]] = some (.bool (decide (x ∈ p) && decide (y ∈ p))) := by
  have c1 := i_Contains_ID p x hp
  have c2 := i_Contains_ID p y hp
  generalize decide (x ∈ p) = a at *
  generalize decide (y ∈ p) = b at *
  cases a
  · rw [call_code F (show F 32 = some (.code f32) from rfl)]
    simp only [f32, c1, Bool.false_and, go_sem, reduceIte, reduceCtorEq, Nat.reduceEqDiff, Nat.reduceAdd, Nat.reduceMul, List.length_cons, List.length_nil]
  · rw [call_code F (show F 32 = some (.code f32) from rfl)]
    simp only [f32, c1, c2, Bool.true_and, go_sem, reduceIte, reduceCtorEq, Nat.reduceEqDiff, Nat.reduceAdd, Nat.reduceMul, List.length_cons, List.length_nil]
theorem i_IndexFunc_IDs (l : List (List ID)) (f : FuncId) (a b c d : Int) (hl : Fits l) (p : List ID → Bool) (hp0 : ∀ v, v ∈ l → call F f [.sl .shared 2 (rowsBy ID.c v), .pc [.int .i64 a, .int .i64 b], .pc [.int .i64 c, .int .i64 d]] = some (.bool (p v))) : call F 41 [.sl .shared 1 (rowsBy cIDs l), .fn f [.pc [.int .i64 a, .int .i64 b], .pc [.int .i64 c, .int .i64 d]]] = some (.int .i64 (if l.findIdx p = l.length then -1 else ((l.findIdx p : Nat) : Int))) := by
  have hle : (l).length ≤ 5864062014634 := hl.le
  have hw : (l).length ≤ 9223372036854775807 := Nat.le_trans hle (by decide)
  have S : ∀ n, n ≤ (l).length → (∀ i, i < n → ∀ hi : i < (l).length, p (l)[i] = false) → ∀ r, E (cs F) 0 f41_b1 (⟨(upd (upd (upd (upd Sx.e0 8 (.v (.int .i64 ((n : Int))))) 7 (.v (.int .i64 ((l.length : Int))))) 1 (.v (.fn f [.pc [.int .i64 a, .int .i64 b], .pc [.int .i64 c, .int .i64 d]]))) 0 (.v (.sl .shared 1 (rowsBy cIDs l)))), Sx.h0⟩ : St) = some r → r.1 ≠ .norm →
      E (cs F) 0 f41_l1 (⟨(upd (upd (upd (upd Sx.e0 8 (.v (.int .i64 (0)))) 7 (.v (.int .i64 ((l.length : Int))))) 1 (.v (.fn f [.pc [.int .i64 a, .int .i64 b], .pc [.int .i64 c, .int .i64 d]]))) 0 (.v (.sl .shared 1 (rowsBy cIDs l)))), Sx.h0⟩ : St) = some r := by
    intro n hn hno r hf hrr
    refine loop_to (b := f41_b1) (fun i => (⟨(upd (upd (upd (upd Sx.e0 8 (.v (.int .i64 ((i : Int))))) 7 (.v (.int .i64 ((l.length : Int))))) 1 (.v (.fn f [.pc [.int .i64 a, .int .i64 b], .pc [.int .i64 c, .int .i64 d]]))) 0 (.v (.sl .shared 1 (rowsBy cIDs l)))), Sx.h0⟩ : St)) n ?_ hf hrr
    intro i hi
    have h1 : i < (l).length := Nat.lt_of_lt_of_le hi hn
    have h1z : (i : Int) < ((l).length : Int) := Int.ofNat_lt.2 h1
    have hne := hno i hi h1
    have hv := hp0 l[i] (List.getElem_mem h1)
    rw [hne] at hv
    simp only [f41_b1, h1z, rowsBy_get cIDs h1, cIDs, hv, wrap_succ h1 hw, go_sem, reduceIte, reduceCtorEq, Nat.reduceEqDiff, Nat.reduceAdd, Nat.reduceMul, List.length_cons, List.length_nil]
  have S := S ((l).findIdx p) List.findIdx_le_length (fun i h1 h2 => findIdx_not h1 h2)
  rcases findIdx_cases p (l) with h0 | ⟨hlt, hp⟩
  · rw [h0] at S
    have := S _ (by simp only [f41_b1, dec_ge (Nat.le_refl (l).length), go_sem, reduceIte, reduceCtorEq, Nat.reduceEqDiff]
                    rfl) (by simp)
    rw [if_pos h0]
    rw [call_code F (show F 41 = some (.code f41) from rfl)]
    simp only [f41, this, go_sem, reduceIte, reduceCtorEq, Nat.reduceEqDiff, Nat.reduceAdd, Int.reduceNeg]
  · rw [if_neg (show ¬ l.findIdx p = l.length by omega)]
    generalize (l).findIdx p = n at *
    have hltz : (n : Int) < ((l).length : Int) := Int.ofNat_lt.2 hlt
    have hv := hp0 l[n] (List.getElem_mem hlt)
    rw [hp] at hv
    have := S _ (by simp only [f41_b1, hltz, rowsBy_get cIDs hlt, cIDs, hv, go_sem, reduceIte, reduceCtorEq, Nat.reduceEqDiff, Nat.reduceAdd, Nat.reduceMul, List.length_cons, List.length_nil]
                    rfl) (by simp)
    rw [call_code F (show F 41 = some (.code f41) from rfl)]
    simp only [f41, this, go_sem, reduceIte, reduceCtorEq, Nat.reduceEqDiff, Nat.reduceAdd, Int.reduceNeg]
theorem i_ContainsFunc_IDs (l : List (List ID)) (f : FuncId) (a b c d : Int) (hl : Fits l) (p : List ID → Bool) (hp0 : ∀ v, v ∈ l → call F f [.sl .shared 2 (rowsBy ID.c v), .pc [.int .i64 a, .int .i64 b], .pc [.int .i64 c, .int .i64 d]] = some (.bool (p v))) : call F 31 [.sl .shared 1 (rowsBy cIDs l), .fn f [.pc [.int .i64 a, .int .i64 b], .pc [.int .i64 c, .int .i64 d]]] = some (.bool (l.any p)) := by
  have ix := i_IndexFunc_IDs l f a b c d hl p hp0
  rcases findIdx_cases p l with h0 | ⟨hlt, hp⟩
  · rw [if_pos h0] at ix
    rw [show l.any p = false by
      rw [List.any_eq_false]
      intro v hv
      obtain ⟨i, hi, rfl⟩ := List.mem_iff_getElem.1 hv
      rw [findIdx_not (p := p) (by omega) hi]; simp]
    rw [call_code F (show F 31 = some (.code f31) from rfl)]
    simp only [f31, ix, go_sem, reduceIte, reduceCtorEq, Nat.reduceEqDiff, Nat.reduceAdd, Nat.reduceMul, Int.reduceGE, Int.reduceNeg]
  · rw [if_neg (show ¬ l.findIdx p = l.length by omega)] at ix
    rw [show l.any p = true by rw [List.any_eq_true]; exact ⟨_, List.getElem_mem hlt, hp⟩]
    have hq : decide (((l.findIdx p : Nat) : Int) ≥ 0) = true := by simp
    generalize l.findIdx p = n at *
    rw [call_code F (show F 31 = some (.code f31) from rfl)]
    simp only [f31, ix, go_sem, reduceIte, reduceCtorEq, Nat.reduceEqDiff, Nat.reduceAdd, Nat.reduceMul]
theorem partsI_small {l : List Vx} : (partsI l).length ≤ l.length ∧ ∀ p ∈ partsI l, p.length ≤ l.length := by
  refine ⟨by rw [partsI_len]; exact partsN_le _ _, fun p hp => ?_⟩
  obtain ⟨q, _, _, rfl⟩ := partsI_mem.1 hp
  rw [List.length_map]; exact membTo_length _ _ _
theorem i_Together {l : List Vx} {es : List Ed} (h : WF l es) (x y : ID) : call F 18 [.agg [.sl .shared 5 (rowsBy Vx.c l), .sl .shared 4 (rowsBy Ed.c es)], .agg [.int .i64 x.s, .int .i64 x.n], .agg [.int .i64 y.s, .int .i64 y.n]] = some (.bool (togB l x y)) := by
  have hlv := h.lv
  have c1 := i_Parts h
  have c2 := i_ContainsFunc_IDs (partsI l) 32 x.s x.n y.s y.n (Fits.of (by have := (partsI_small (l := l)).1; omega)) (fun p => decide (x ∈ p) && decide (y ∈ p)) (fun p hp => i_Tog1 p x y (Fits.of (by have := (partsI_small (l := l)).2 p hp; omega)))
  rw [any_parts h.sv.nodup] at c2
  generalize rowsBy cIDs (partsI l) = q at *
  rw [call_code F (show F 18 = some (.code f18) from rfl)]
  simp only [f18, c1, c2, go_sem, reduceIte, reduceCtorEq, Nat.reduceEqDiff, Nat.reduceAdd, Nat.reduceMul, List.length_cons, List.length_nil]
theorem i_r06_Together {l : List Vx} {es : List Ed} (h : WF l es) (x y : ID) : call F 19 [.agg [.sl .shared 5 (rowsBy Vx.c l), .sl .shared 4 (rowsBy Ed.c es)], .agg [.int .i64 x.s, .int .i64 x.n], .agg [.int .i64 y.s, .int .i64 y.n]] = some (.bool (togB l x y)) := by
  have hlv := h.lv
  have c1 := i_r06_Labels h
  have c2 := i_r06_place l x h.fits (.sl .shared 4 (rowsBy Ed.c es))
  have c3 := i_r06_place l y h.fits (.sl .shared 4 (rowsBy Ed.c es))
  unfold labT at c1
  have hget : ∀ i, i < l.length → (rowsBy cNat ((List.range l.length).map (labV l)))[i]? = some [.int .i64 ((labV l i : Nat) : Int)] := fun i hi => by
    rw [rowsBy_get cNat (by rw [List.length_map, List.length_range]; exact hi), List.getElem_map, List.getElem_range]; rfl
  have hlr : (rowsBy cNat ((List.range l.length).map (labV l))).length = l.length := by rw [rowsBy_map, List.length_map, List.length_map, List.length_range]
  generalize rowsBy cNat ((List.range l.length).map (labV l)) = q at *
  have m1 : decide ((-1 : Int) ≥ 0) = false := rfl
  unfold togB
  unfold plZ at c2 c3
  rcases Nat.lt_or_ge (plV l x) l.length with hx | hx
  · rw [if_neg (by omega)] at c2
    have g1 := hget _ hx
    have y0 : decide (((plV l x : Nat) : Int) ≥ 0) = true := dec_t (by omega)
    have z0 : ((plV l x : Nat) : Int) < (l.length : Int) := by omega
    rcases Nat.lt_or_ge (plV l y) l.length with hy | hy
    · rw [if_neg (by omega)] at c3
      have g2 := hget _ hy
      have y1 : decide (((plV l y : Nat) : Int) ≥ 0) = true := dec_t (by omega)
      have z1 : ((plV l y : Nat) : Int) < (l.length : Int) := by omega
      rw [show decide (plV l x < l.length ∧ plV l y < l.length ∧ labV l (plV l x) = labV l (plV l y)) = decide (((labV l (plV l x) : Nat) : Int) = ((labV l (plV l y) : Nat) : Int)) from by rw [decide_eq_decide]; omega]
      generalize labV l (plV l x) = a at *
      generalize labV l (plV l y) = b at *
      generalize plV l x = i at *
      generalize plV l y = j at *
      rw [call_code F (show F 19 = some (.code f19) from rfl)]
      simp only [f19, c1, c2, c3, hlr, g1, g2, z0, z1, go_sem, reduceIte, reduceCtorEq, Nat.reduceEqDiff, Nat.reduceAdd, Nat.reduceMul, List.length_cons, List.length_nil, Nat.testBit, Nat.reduceShiftRight, Nat.reduceAnd, Nat.reduceBNe]
    · have hy0 := plV_le l y
      rw [if_pos (by omega)] at c3
      rw [dec_f (by omega)]
      generalize plV l x = i at *
      rw [call_code F (show F 19 = some (.code f19) from rfl)]
      simp only [f19, c1, c2, c3, hlr, go_sem, reduceIte, reduceCtorEq, Nat.reduceEqDiff, Nat.reduceAdd, Nat.reduceMul, List.length_cons, List.length_nil, Int.reduceGE, Int.reduceNeg]
  · have hx0 := plV_le l x
    rw [if_pos (by omega)] at c2
    rw [dec_f (by omega)]
    generalize (if plV l y = l.length then (-1 : Int) else (plV l y : Int)) = j at *
    rw [call_code F (show F 19 = some (.code f19) from rfl)]
    simp only [f19, c1, c2, c3, hlr, go_sem, reduceIte, reduceCtorEq, Nat.reduceEqDiff, Nat.reduceAdd, Nat.reduceMul, List.length_cons, List.length_nil, Int.reduceGE, Int.reduceNeg]
/-- the reference's parts, as far as it has gone -/
noncomputable def refP (l : List Vx) (i : Nat) : List (List ID) := (rootsTo (labV l) i).map fun q => (membTo (labV l) l.length q).map (idAt l)
theorem refP_succ (l : List Vx) (i : Nat) : refP l (i + 1) = refP l i ++ if labV l i = i then [(membTo (labV l) l.length i).map (idAt l)] else [] := by
  unfold refP
  rw [rootsTo_succ, List.map_append]
  congr 1
  split <;> rfl
theorem r06_part (l : List Vx) (es : List Ed) (hl : l.length ≤ 24) (i : Nat) (q : List (List TV)) (hget : ∀ i, i < l.length → q[i]? = some [.int .i64 ((labV l i : Nat) : Int)]) (hlr : q.length = l.length) (qs : List (List TV)) (m : Nat) : E (cs F) 0 f14_l2 (⟨(upd (upd (upd (upd (upd (upd Sx.e0 7 (.v (.int .i64 (0)))) 6 (.s 6 0 0)) 5 (.v (.int .i64 ((i : Int))))) 4 (.s 4 0 m)) 3 (.s 3 0 l.length)) 1 (.p 1 0)), (upd (upd (upd (upd Sx.h0 6 (some (.arr false 27 2 []))) 4 (some (.arr false 36 1 qs))) 3 (some (.arr false 3 1 q))) 1 (some (.var false [(.v (.sl .shared 5 (rowsBy Vx.c l))), (.v (.sl .shared 4 (rowsBy Ed.c es)))])))⟩ : St) =
    some (.exit 2, (⟨(upd (upd (upd (upd (upd Sx.e0 6 (.s 6 0 ((membTo (labV l) l.length i).map (idAt l)).length)) 5 (.v (.int .i64 ((i : Int))))) 4 (.s 4 0 m)) 3 (.s 3 0 l.length)) 1 (.p 1 0)), (upd (upd (upd (upd Sx.h0 6 (some (.arr false 27 2 (rowsBy ID.c ((membTo (labV l) l.length i).map (idAt l)))))) 4 (some (.arr false 36 1 qs))) 3 (some (.arr false 3 1 q))) 1 (some (.var false [(.v (.sl .shared 5 (rowsBy Vx.c l))), (.v (.sl .shared 4 (rowsBy Ed.c es)))])))⟩ : St)) := by
  have l1 : E (cs F) 0 f14_l2 (⟨(upd (upd (upd (upd (upd (upd Sx.e0 7 (.v (.int .i64 (0)))) 6 (.s 6 0 ((membTo (labV l) 0 i).map (idAt l)).length)) 5 (.v (.int .i64 ((i : Int))))) 4 (.s 4 0 m)) 3 (.s 3 0 l.length)) 1 (.p 1 0)), (upd (upd (upd (upd Sx.h0 6 (some (.arr false 27 2 (rowsBy ID.c ((membTo (labV l) 0 i).map (idAt l)))))) 4 (some (.arr false 36 1 qs))) 3 (some (.arr false 3 1 q))) 1 (some (.var false [(.v (.sl .shared 5 (rowsBy Vx.c l))), (.v (.sl .shared 4 (rowsBy Ed.c es)))])))⟩ : St) = some (.exit 2, (⟨(upd (upd (upd (upd (upd Sx.e0 6 (.s 6 0 ((membTo (labV l) l.length i).map (idAt l)).length)) 5 (.v (.int .i64 ((i : Int))))) 4 (.s 4 0 m)) 3 (.s 3 0 l.length)) 1 (.p 1 0)), (upd (upd (upd (upd Sx.h0 6 (some (.arr false 27 2 (rowsBy ID.c ((membTo (labV l) l.length i).map (idAt l)))))) 4 (some (.arr false 36 1 qs))) 3 (some (.arr false 3 1 q))) 1 (some (.var false [(.v (.sl .shared 5 (rowsBy Vx.c l))), (.v (.sl .shared 4 (rowsBy Ed.c es)))])))⟩ : St)) := by
    refine loop_to (b := f14_b2) (fun q0 => (⟨(upd (upd (upd (upd (upd (upd Sx.e0 7 (.v (.int .i64 ((q0 : Int))))) 6 (.s 6 0 ((membTo (labV l) q0 i).map (idAt l)).length)) 5 (.v (.int .i64 ((i : Int))))) 4 (.s 4 0 m)) 3 (.s 3 0 l.length)) 1 (.p 1 0)), (upd (upd (upd (upd Sx.h0 6 (some (.arr false 27 2 (rowsBy ID.c ((membTo (labV l) q0 i).map (idAt l)))))) 4 (some (.arr false 36 1 qs))) 3 (some (.arr false 3 1 q))) 1 (some (.var false [(.v (.sl .shared 5 (rowsBy Vx.c l))), (.v (.sl .shared 4 (rowsBy Ed.c es)))])))⟩ : St)) (l.length) ?_ ?_ (by simp)
    · intro k hk
      have hkz : (k : Int) < (l.length : Int) := by omega
      have hg := hget k hk
      have hb : ((membTo (labV l) k i).map (idAt l)).length ≤ k := by rw [List.length_map]; exact membTo_length _ _ _
      rw [membTo_succ]
      by_cases e : labV l k = i
      · have hd : decide (((labV l k : Nat) : Int) = (i : Int)) = true := dec_t (by omega)
        rw [if_pos e, List.map_append, List.map_singleton, idAt_lt hk]
        generalize (membTo (labV l) k i).map (idAt l) = p at *
        have h16 : (p.length + 1) * 16 ≤ 140737488355328 := by omega
        have hs : rowsBy ID.c p ++ [[.int .i64 l[k].id.s, .int .i64 l[k].id.n]] = rowsBy ID.c (p ++ [l[k].id]) := rowsBy_snoc ID.c p _
        have hln : (p ++ [l[k].id]).length = p.length + 1 := by rw [List.length_append]; rfl
        rw [hln]
        generalize labV l k = z at *
        simp only [f14_b2, hkz, hg, hd, rowsBy_get Vx.c hk, Vx.c, hs, h16, wrap_succ hk (show l.length ≤ 9223372036854775807 by omega), go_sem, reduceIte, Nat.reduceEqDiff, Nat.reduceAdd, Nat.reduceLeDiff, List.length_cons, List.length_nil]
      · have hd : decide (((labV l k : Nat) : Int) = (i : Int)) = false := dec_f (by omega)
        rw [if_neg e, List.append_nil]
        generalize (membTo (labV l) k i).map (idAt l) = p at *
        generalize labV l k = z at *
        simp only [f14_b2, hkz, hg, hd, wrap_succ hk (show l.length ≤ 9223372036854775807 by omega), go_sem, reduceIte, Nat.reduceEqDiff, Nat.reduceAdd, Nat.reduceLeDiff, List.length_cons, List.length_nil]
    · simp only [f14_b2, dec_ge (Nat.le_refl l.length), go_sem, reduceIte, Nat.reduceEqDiff]
  exact l1
theorem i_r06_Parts {l : List Vx} {es : List Ed} (h : WF l es) : call F 14 [.agg [.sl .shared 5 (rowsBy Vx.c l), .sl .shared 4 (rowsBy Ed.c es)]] = some (.sl (.own 36) 1 (rowsBy cIDs (partsI l))) := by
  have c1 := i_r06_Labels h
  have hlv := h.lv
  unfold labT at c1
  have hget : ∀ i, i < l.length → (rowsBy cNat ((List.range l.length).map (labV l)))[i]? = some [.int .i64 ((labV l i : Nat) : Int)] := fun i hi => by
    rw [rowsBy_get cNat (by rw [List.length_map, List.length_range]; exact hi), List.getElem_map, List.getElem_range]; rfl
  have hlr : (rowsBy cNat ((List.range l.length).map (labV l))).length = l.length := by rw [rowsBy_map, List.length_map, List.length_map, List.length_range]
  generalize rowsBy cNat ((List.range l.length).map (labV l)) = q at *
  have l1 : E (cs F) 0 f14_l1 (⟨(upd (upd (upd (upd Sx.e0 5 (.v (.int .i64 (0)))) 4 (.s 4 0 (refP l 0).length)) 3 (.s 3 0 l.length)) 1 (.p 1 0)), (upd (upd (upd Sx.h0 4 (some (.arr false 36 1 (rowsBy cIDs (refP l 0))))) 3 (some (.arr false 3 1 q))) 1 (some (.var false [(.v (.sl .shared 5 (rowsBy Vx.c l))), (.v (.sl .shared 4 (rowsBy Ed.c es)))])))⟩ : St) = some (.exit 0, (⟨(upd Sx.e0 4 (.s 4 0 (refP l l.length).length)), (upd Sx.h0 4 (some (.arr false 36 1 (rowsBy cIDs (refP l l.length)))))⟩ : St)) := by
    refine loop_to (b := f14_b1) (fun q0 => (⟨(upd (upd (upd (upd Sx.e0 5 (.v (.int .i64 ((q0 : Int))))) 4 (.s 4 0 (refP l q0).length)) 3 (.s 3 0 l.length)) 1 (.p 1 0)), (upd (upd (upd Sx.h0 4 (some (.arr false 36 1 (rowsBy cIDs (refP l q0))))) 3 (some (.arr false 3 1 q))) 1 (some (.var false [(.v (.sl .shared 5 (rowsBy Vx.c l))), (.v (.sl .shared 4 (rowsBy Ed.c es)))])))⟩ : St)) (l.length) ?_ ?_ (by simp)
    · intro i hi
      have hiz : (i : Int) < (l.length : Int) := by omega
      have hg := hget i hi
      have hb : (refP l i).length ≤ i := by unfold refP; rw [List.length_map]; exact rootsTo_length _ _
      have k1 := r06_part l es hlv i q hget hlr (rowsBy cIDs (refP l i)) (refP l i).length
      rw [refP_succ]
      generalize refP l i = p at *
      by_cases e : labV l i = i
      · have hd : decide (¬ ((labV l i : Nat) : Int) = (i : Int)) = false := dec_f (by omega)
        rw [if_pos e]
        generalize (membTo (labV l) l.length i).map (idAt l) = o at *
        have h24 : (p.length + 1) * 24 ≤ 140737488355328 := by omega
        have hs : rowsBy cIDs p ++ [[.sl .shared 2 (rowsBy ID.c o)]] = rowsBy cIDs (p ++ [o]) := rowsBy_snoc cIDs p o
        have hln : (p ++ [o]).length = p.length + 1 := by rw [List.length_append]; rfl
        rw [hln]
        generalize labV l i = z at *
        simp only [f14_b1, hiz, hg, hd, k1, hs, h24, List.drop_zero, wrap_succ hi (show l.length ≤ 9223372036854775807 by omega), go_sem, reduceIte, Nat.reduceEqDiff, List.length_cons, List.length_nil, ne_eq]
      · have hd : decide (¬ ((labV l i : Nat) : Int) = (i : Int)) = true := dec_t (by omega)
        rw [if_neg e, List.append_nil]
        generalize labV l i = z at *
        simp only [f14_b1, hiz, hg, hd, wrap_succ hi (show l.length ≤ 9223372036854775807 by omega), go_sem, reduceIte, Nat.reduceEqDiff, List.length_cons, List.length_nil, ne_eq]
    · simp only [f14_b1, dec_ge (Nat.le_refl l.length), go_sem, reduceIte, Nat.reduceEqDiff]
  have e0 : refP l 0 = [] := rfl
  have e1 : refP l l.length = partsI l := rfl
  simp only [e0, e1, rowsBy_nil, List.length_nil] at l1
  generalize partsI l = p at *
  have e2 : (rowsBy cIDs p).take p.length = rowsBy cIDs p := rowsBy_takeAll cIDs p
  rw [call_code F (show F 14 = some (.code f14) from rfl)]
  simp only [f14, c1, hlr, l1, e2, go_sem, reduceIte, reduceCtorEq, Nat.reduceEqDiff, Nat.reduceAdd, Nat.reduceMul, List.length_cons, List.length_nil]
end Go.Proofs.Ytfhijlhiifkkhaa.Sx
namespace Go.Proofs.Ytfhijlhiifkkhaa.Sx
open Go
theorem Vx.ext_iff' (x y : Vx) : x = y ↔ x.id = y.id ∧ x.label = y.label ∧ x.attr = y.attr ∧ x.ring = y.ring := by
  cases x; cases y; simp only [Vx.mk.injEq]
  constructor
  · rintro ⟨a, b, c, d⟩; exact ⟨a, c, d, b⟩
  · rintro ⟨a, b, c, d⟩; exact ⟨a, d, b, c⟩
theorem Ed.ext_iff' (x y : Ed) : x = y ↔ x.id = y.id ∧ x.label = y.label ∧ x.attr = y.attr := by
  cases x; cases y; simp only [Ed.mk.injEq]
theorem Ed.dec (x y : Ed) : (decide (x.id.s = y.id.s) && (decide (x.id.n = y.id.n) && (decide (x.label = y.label) && decide (x.attr = y.attr)))) = decide (x = y) := by
  by_cases h : x = y
  · subst h; simp
  · rw [decide_eq_false h]
    simp only [Bool.and_eq_false_iff, decide_eq_false_iff_not]
    rw [Ed.ext_iff', ID.ext_iff'] at h
    by_cases h1 : x.id.s = y.id.s
    · by_cases h2 : x.id.n = y.id.n
      · by_cases h3 : x.label = y.label
        · exact .inr (.inr (.inr fun h4 => h ⟨⟨h1, h2⟩, h3, h4⟩))
        · exact .inr (.inr (.inl h3))
      · exact .inr (.inl h2)
    · exact .inl h1
theorem c_IDs (l m : List ID) (hl : l.length ≤ 9223372036854775807) : call F 15 [.sl .shared 2 (rowsBy ID.c l), .sl .shared 2 (rowsBy ID.c m)] = some (.bool (decide (l = m))) := by
  by_cases hlen : l.length = m.length
  · have he := len_eq hlen
    have l1 : E (cs F) 0 f15_l1 (⟨(upd (upd (upd Sx.e0 5 (.v (.int .i64 (0)))) 1 (.v (.sl .shared 2 (rowsBy ID.c m)))) 0 (.v (.sl .shared 2 (rowsBy ID.c l)))), Sx.h0⟩ : St) = some (if (List.range (l.length)).any (pairB (fun x y => decide (x = y)) l m) then (.ret, (⟨(upd Sx.e0 4 (.v (.bool false))), Sx.h0⟩ : St)) else (.exit 0, (⟨Sx.e0, Sx.h0⟩ : St))) := by
      refine loop_any (b := f15_b1) (fun q0 => (⟨(upd (upd (upd Sx.e0 5 (.v (.int .i64 ((q0 : Int))))) 1 (.v (.sl .shared 2 (rowsBy ID.c m)))) 0 (.v (.sl .shared 2 (rowsBy ID.c l)))), Sx.h0⟩ : St)) (pairB (fun x y => decide (x = y)) l m) (l.length) ?_ ?_ (by simp) ?_ (by simp)
      · intro i h1 hp
        have h2 : i < m.length := by omega
        rw [pairB_at h1 h2] at hp
        have hd : decide (l[i] = m[i]) = true := by simpa using hp
        simp only [f15_b1, dec_lt h1, rowsBy_get ID.c h1, rowsBy_get ID.c h2, ID.c, hd, wrap_succ h1 hl, go_sem, reduceIte, reduceCtorEq, Nat.reduceEqDiff, Nat.reduceAdd, List.length_cons, List.length_nil]
      · intro i h1 hp
        have h2 : i < m.length := by omega
        rw [pairB_at h1 h2] at hp
        have hd : decide (l[i] = m[i]) = false := by simpa using hp
        simp only [f15_b1, dec_lt h1, rowsBy_get ID.c h1, rowsBy_get ID.c h2, ID.c, hd, go_sem, reduceIte, reduceCtorEq, Nat.reduceEqDiff, Nat.reduceAdd, List.length_cons, List.length_nil]
      · simp only [f15_b1, dec_ge (Nat.le_refl l.length), go_sem, reduceIte, reduceCtorEq, Nat.reduceEqDiff]
    rw [pairB_eq (fun _ _ => rfl) hlen] at l1
    generalize decide (l = m) = b at *
    rw [call_code F (show F 15 = some (.code f15) from rfl)]
    cases b
    · simp only [f15, he, l1, Bool.not_false, go_sem, reduceIte, reduceCtorEq, Nat.reduceEqDiff, Nat.reduceAdd, ne_eq]
    · simp only [f15, he, l1, Bool.not_true, go_sem, reduceIte, reduceCtorEq, Nat.reduceEqDiff, Nat.reduceAdd, ne_eq]
  · have hlm : l ≠ m := fun e => hlen (by rw [e])
    have he := len_ne hlen
    rw [dec_f hlm]
    rw [call_code F (show F 15 = some (.code f15) from rfl)]
    simp only [f15, he, go_sem, reduceIte, reduceCtorEq, Nat.reduceEqDiff, Nat.reduceAdd, ne_eq]
theorem rowsBy_set_same {α : Type} (c : α → List TV) {l : List α} {i : Nat} (h : i < l.length) : (rowsBy c l).set i (c l[i]) = rowsBy c l := by
  rw [rowsBy_set, List.set_getElem_self]
end Go.Proofs.Ytfhijlhiifkkhaa.Sx
namespace Go.Proofs.Ytfhijlhiifkkhaa.Sx
open Go
def threeV : List Vx := [⟨⟨1, 1⟩, [⟨⟨1, 9⟩, 0⟩], ⟨#[]⟩, 0⟩, ⟨⟨1, 2⟩, [⟨⟨1, 9⟩, 1⟩], ⟨#[]⟩, 0⟩, ⟨⟨1, 3⟩, [], ⟨#[]⟩, 0⟩]
def threeE : List Ed := [⟨⟨1, 9⟩, ⟨#[]⟩, 0⟩]
theorem three_wf : WF threeV threeE := wf_of (by decide) (by decide) (by decide +kernel) (by decide +kernel) (by decide +kernel)
theorem three_labs : (List.range 3).map (labV threeV) = [0, 0, 2] := by
  have h := three_wf.rounds
  rw [show threeV.length = 3 from rfl] at h
  rw [← h]
  decide +kernel
theorem three_parts : partsN (labV threeV) threeV.length = 2 := by
  have h := three_labs
  rw [show threeV.length = 3 from rfl]
  simp only [List.range_succ, List.range_zero, List.nil_append, List.map_cons, List.map_nil, List.cons_append, List.cons.injEq] at h
  obtain ⟨a, b, c, _⟩ := h
  unfold partsN
  simp [List.range_succ, a, b, c]
theorem c_shown : call F 8 [] = some (.bool true) := by
  have f1 := i_comp_Count three_wf
  rw [three_parts] at f1
  have k1 : rowsBy Vx.c threeV = [[.int .i64 1, .int .i64 1, .sl .shared 3 [[.int .i64 1, .int .i64 9, .int .i64 0]], .str ⟨#[]⟩, .int .i64 0], [.int .i64 1, .int .i64 2, .sl .shared 3 [[.int .i64 1, .int .i64 9, .int .i64 1]], .str ⟨#[]⟩, .int .i64 0], [.int .i64 1, .int .i64 3, .sl .shared 3 [], .str ⟨#[]⟩, .int .i64 0]] := rfl
  have k3 : rowsBy Ed.c threeE = [[.int .i64 1, .int .i64 9, .str ⟨#[]⟩, .int .i64 0]] := rfl
  rw [k1, k3] at f1
  simp only [show ((2 : Nat) : Int) = 2 from rfl] at f1
  rw [call_code F (show F 8 = some (.code f8) from rfl)]
  simp only [f8, f1, go_sem, reduceIte, reduceCtorEq, Nat.reduceEqDiff, Nat.reduceAdd, Nat.reduceMul, Nat.reduceLeDiff, List.length_cons, List.length_nil]
theorem c_formed (l : List Vx) (es : List Ed) (hr : FitsR l) (hL : FitsL l es) : call F 9 [.agg [.sl .shared 5 (rowsBy Vx.c l), .sl .shared 4 (rowsBy Ed.c es)]] = some (.bool (decide (formC l es = 0))) := by
  have cf := i_r04_Form l es hr hL
  rw [call_code F (show F 9 = some (.code f9) from rfl)]
  simp only [f9, cf, go_sem, reduceIte, reduceCtorEq, Nat.reduceEqDiff, Nat.reduceAdd, Nat.reduceMul, List.length_cons, List.length_nil]
theorem labels_l1 (l : List Vx) (es : List Ed) (x y : ID) (P : List (List ID)) (hP : P.length ≤ 100) (hp : ∀ p ∈ P, p.length ≤ 100) : E (cs F) 0 f3_l1 (⟨(upd (upd (upd (upd (upd (upd (upd (upd Sx.e0 12 (.v (.int .i64 (0)))) 11 (.s 11 0 P.length)) 10 (.v (.sl .shared 1 (rowsBy cIDs P)))) 9 (.v (.bool (true)))) 7 (.v (.bool (true)))) 5 (.p 5 0)) 4 (.p 4 0)) 3 (.p 3 0)), (upd (upd (upd (upd Sx.h0 11 (some (.arr false 36 1 (rowsBy cIDs P)))) 5 (some (.var false [(.v (.int .i64 (y.s))), (.v (.int .i64 (y.n)))]))) 4 (some (.var false [(.v (.int .i64 (x.s))), (.v (.int .i64 (x.n)))]))) 3 (some (.var false [(.v (.sl .shared 5 (rowsBy Vx.c l))), (.v (.sl .shared 4 (rowsBy Ed.c es)))])))⟩ : St) =
    some (.exit 0, (⟨(upd (upd (upd (upd (upd (upd (upd Sx.e0 11 (.s 11 0 P.length)) 10 (.v (.sl .shared 1 (rowsBy cIDs P)))) 9 (.v (.bool (true)))) 7 (.v (.bool (true)))) 5 (.p 5 0)) 4 (.p 4 0)) 3 (.p 3 0)), (upd (upd (upd (upd Sx.h0 11 (some (.arr false 36 1 (rowsBy cIDs P)))) 5 (some (.var false [(.v (.int .i64 (y.s))), (.v (.int .i64 (y.n)))]))) 4 (some (.var false [(.v (.int .i64 (x.s))), (.v (.int .i64 (x.n)))]))) 3 (some (.var false [(.v (.sl .shared 5 (rowsBy Vx.c l))), (.v (.sl .shared 4 (rowsBy Ed.c es)))])))⟩ : St)) := by
  have l1 : E (cs F) 0 f3_l1 (⟨(upd (upd (upd (upd (upd (upd (upd (upd Sx.e0 12 (.v (.int .i64 (0)))) 11 (.s 11 0 P.length)) 10 (.v (.sl .shared 1 (rowsBy cIDs P)))) 9 (.v (.bool (true)))) 7 (.v (.bool (true)))) 5 (.p 5 0)) 4 (.p 4 0)) 3 (.p 3 0)), (upd (upd (upd (upd Sx.h0 11 (some (.arr false 36 1 (rowsBy cIDs P)))) 5 (some (.var false [(.v (.int .i64 (y.s))), (.v (.int .i64 (y.n)))]))) 4 (some (.var false [(.v (.int .i64 (x.s))), (.v (.int .i64 (x.n)))]))) 3 (some (.var false [(.v (.sl .shared 5 (rowsBy Vx.c l))), (.v (.sl .shared 4 (rowsBy Ed.c es)))])))⟩ : St) = some (.exit 0, (⟨(upd (upd (upd (upd (upd (upd (upd Sx.e0 11 (.s 11 0 P.length)) 10 (.v (.sl .shared 1 (rowsBy cIDs P)))) 9 (.v (.bool (true)))) 7 (.v (.bool (true)))) 5 (.p 5 0)) 4 (.p 4 0)) 3 (.p 3 0)), (upd (upd (upd (upd Sx.h0 11 (some (.arr false 36 1 (rowsBy cIDs P)))) 5 (some (.var false [(.v (.int .i64 (y.s))), (.v (.int .i64 (y.n)))]))) 4 (some (.var false [(.v (.int .i64 (x.s))), (.v (.int .i64 (x.n)))]))) 3 (some (.var false [(.v (.sl .shared 5 (rowsBy Vx.c l))), (.v (.sl .shared 4 (rowsBy Ed.c es)))])))⟩ : St)) := by
    refine loop_to (b := f3_b1) (fun q0 => (⟨(upd (upd (upd (upd (upd (upd (upd (upd Sx.e0 12 (.v (.int .i64 ((q0 : Int))))) 11 (.s 11 0 P.length)) 10 (.v (.sl .shared 1 (rowsBy cIDs P)))) 9 (.v (.bool (true)))) 7 (.v (.bool (true)))) 5 (.p 5 0)) 4 (.p 4 0)) 3 (.p 3 0)), (upd (upd (upd (upd Sx.h0 11 (some (.arr false 36 1 (rowsBy cIDs P)))) 5 (some (.var false [(.v (.int .i64 (y.s))), (.v (.int .i64 (y.n)))]))) 4 (some (.var false [(.v (.int .i64 (x.s))), (.v (.int .i64 (x.n)))]))) 3 (some (.var false [(.v (.sl .shared 5 (rowsBy Vx.c l))), (.v (.sl .shared 4 (rowsBy Ed.c es)))])))⟩ : St)) (P.length) ?_ ?_ (by simp)
    · intro i hi
      have hiz : (i : Int) < (P.length : Int) := by omega
      have c1 := c_IDs P[i] P[i] (by have := hp _ (List.getElem_mem hi); omega)
      rw [dec_t rfl] at c1
      have hd : decide (¬ (P.length : Int) = (P.length : Int)) = false := dec_f (by omega)
      have hg := rowsBy_get cIDs hi
      generalize P[i] = p at *
      simp only [f3_b1, hiz, hg, cIDs, c1, wrap_succ hi (show P.length ≤ 9223372036854775807 by omega), go_sem, reduceIte, Nat.reduceEqDiff, Nat.reduceAdd, Nat.reduceMul, List.length_cons, List.length_nil, ne_eq, not_true_eq_false, Nat.testBit, Nat.reduceShiftRight, Nat.reduceAnd, Nat.reduceBNe]
    · simp only [f3_b1, dec_ge (Nat.le_refl P.length), go_sem, reduceIte, Nat.reduceEqDiff]
  exact l1
theorem t_labels (l : List Vx) (es : List Ed) (x y : ID) (hr : FitsR l) (hL : FitsL l es) : call F 3 [.agg [.sl .shared 5 (rowsBy Vx.c l), .sl .shared 4 (rowsBy Ed.c es)], .agg [.int .i64 x.s, .int .i64 x.n], .agg [.int .i64 y.s, .int .i64 y.n]] = some (.bool true) := by
  have csh := c_shown
  have cf := c_formed l es hr hL
  by_cases hf : formC l es = 0
  · have h := (formC_ok.1 hf).1
    have hlv := h.lv
    rw [dec_t hf] at cf
    have c1 := i_Labels h
    have c2 := i_r06_Labels h
    unfold labT at c1 c2
    have c3 := c_Ints ((List.range l.length).map (labV l)) ((List.range l.length).map (labV l)) (by rw [List.length_map, List.length_range]; omega)
    rw [dec_t rfl] at c3
    have c4 := i_Parts h
    have c5 := i_r06_Parts h
    have c6 := i_comp_Count h
    have c7 := i_r06_Count h
    have c8 := i_Together h x y
    have c9 := i_r06_Together h x y
    have hsm := partsI_small (l := l)
    have l1 := labels_l1 l es x y (partsI l) (by omega) (fun p hp => by have := hsm.2 p hp; omega)
    have hll : ((List.range l.length).map (labV l)).length = l.length := by rw [List.length_map, List.length_range]
    generalize (List.range l.length).map (labV l) = q at *
    generalize partsI l = P at *
    generalize partsN (labV l) l.length = z at *
    generalize togB l x y = b at *
    have e1 : (rowsBy cNat q).take q.length = rowsBy cNat q := rowsBy_takeAll cNat q
    have hd : decide ((z : Int) = (z : Int)) = true := dec_t rfl
    have hd2 : decide ((P.length : Int) = (P.length : Int)) = true := dec_t rfl
    have hb : (b == b) = true := by cases b <;> rfl
    rw [call_code F (show F 3 = some (.code f3) from rfl)]
    simp only [f3, csh, cf, c1, c2, c3, c4, c5, c6, c7, c8, c9, l1, e1, hb, go_sem, reduceIte, reduceCtorEq, Nat.reduceEqDiff, Nat.reduceAdd, Nat.reduceMul, Nat.reduceBEq, List.length_cons, List.length_nil, Nat.testBit, Nat.reduceShiftRight, Nat.reduceAnd, Nat.reduceBNe]
  · rw [dec_f hf] at cf
    rw [call_code F (show F 3 = some (.code f3) from rfl)]
    simp only [f3, csh, cf, go_sem, reduceIte, reduceCtorEq, Nat.reduceEqDiff, Nat.reduceAdd, Nat.reduceMul, List.length_cons, List.length_nil]
theorem places_l2 {l : List Vx} {es : List Ed} (h : WF l es) (i : Nat) (hi : i < l.length) (q : List (List TV)) (hlr : q.length = l.length) (hget : ∀ i, i < l.length → q[i]? = some [.int .i64 ((labV l i : Nat) : Int)]) : E (cs F) 0 f6_l2 (⟨(upd (upd (upd (upd (upd Sx.e0 7 (.v (.int .i64 (0)))) 6 (.v (.int .i64 ((i : Int))))) 5 (.s 5 0 l.length)) 3 (.v (.bool (true)))) 1 (.p 1 0)), (upd (upd Sx.h0 5 (some (.arr false 3 1 q))) 1 (some (.var false [(.v (.sl .shared 5 (rowsBy Vx.c l))), (.v (.sl .shared 4 (rowsBy Ed.c es)))])))⟩ : St) =
    some (.exit 2, (⟨(upd (upd (upd (upd Sx.e0 6 (.v (.int .i64 ((i : Int))))) 5 (.s 5 0 l.length)) 3 (.v (.bool (true)))) 1 (.p 1 0)), (upd (upd Sx.h0 5 (some (.arr false 3 1 q))) 1 (some (.var false [(.v (.sl .shared 5 (rowsBy Vx.c l))), (.v (.sl .shared 4 (rowsBy Ed.c es)))])))⟩ : St)) := by
  have hlv := h.lv
  have l1 : E (cs F) 0 f6_l2 (⟨(upd (upd (upd (upd (upd Sx.e0 7 (.v (.int .i64 (0)))) 6 (.v (.int .i64 ((i : Int))))) 5 (.s 5 0 l.length)) 3 (.v (.bool (true)))) 1 (.p 1 0)), (upd (upd Sx.h0 5 (some (.arr false 3 1 q))) 1 (some (.var false [(.v (.sl .shared 5 (rowsBy Vx.c l))), (.v (.sl .shared 4 (rowsBy Ed.c es)))])))⟩ : St) = some (.exit 2, (⟨(upd (upd (upd (upd Sx.e0 6 (.v (.int .i64 ((i : Int))))) 5 (.s 5 0 l.length)) 3 (.v (.bool (true)))) 1 (.p 1 0)), (upd (upd Sx.h0 5 (some (.arr false 3 1 q))) 1 (some (.var false [(.v (.sl .shared 5 (rowsBy Vx.c l))), (.v (.sl .shared 4 (rowsBy Ed.c es)))])))⟩ : St)) := by
    refine loop_to (b := f6_b2) (fun q0 => (⟨(upd (upd (upd (upd (upd Sx.e0 7 (.v (.int .i64 ((q0 : Int))))) 6 (.v (.int .i64 ((i : Int))))) 5 (.s 5 0 l.length)) 3 (.v (.bool (true)))) 1 (.p 1 0)), (upd (upd Sx.h0 5 (some (.arr false 3 1 q))) 1 (some (.var false [(.v (.sl .shared 5 (rowsBy Vx.c l))), (.v (.sl .shared 4 (rowsBy Ed.c es)))])))⟩ : St)) (i) ?_ ?_ (by simp)
    · intro k hk
      have hkl : k < l.length := by omega
      have hiz : (i : Int) < (l.length : Int) := by omega
      have hkz : (k : Int) < (l.length : Int) := by omega
      have c1 := i_Together h l[i].id l[k].id
      have e1 := togB_at h.sv.nodup hi hkl
      rw [idAt_lt hi, idAt_lt hkl] at e1
      rw [e1] at c1
      have g1 := hget i hi
      have g2 := hget k hkl
      have hd : decide (((labV l i : Nat) : Int) = ((labV l k : Nat) : Int)) = decide (labV l i = labV l k) := by rw [decide_eq_decide]; omega
      generalize labV l i = a at *
      generalize labV l k = b at *
      have hb : (decide (a = b) == decide (a = b)) = true := by cases decide (a = b) <;> rfl
      generalize decide (a = b) = d at *
      simp only [f6_b2, dec_lt hk, hiz, hkz, rowsBy_get Vx.c hi, rowsBy_get Vx.c hkl, Vx.c, c1, g1, g2, hd, hb, Bool.not_true, wrap_succ hk (show i ≤ 9223372036854775807 by omega), go_sem, reduceIte, Nat.reduceEqDiff, Nat.reduceAdd, Nat.reduceMul, Nat.reduceLeDiff, List.length_cons, List.length_nil, Nat.testBit, Nat.reduceShiftRight, Nat.reduceAnd, Nat.reduceBNe]
    · simp only [f6_b2, dec_ge (Nat.le_refl i), go_sem, reduceIte, Nat.reduceEqDiff]
  exact l1
theorem t_places (l : List Vx) (es : List Ed) (hr : FitsR l) (hL : FitsL l es) : call F 6 [.agg [.sl .shared 5 (rowsBy Vx.c l), .sl .shared 4 (rowsBy Ed.c es)]] = some (.bool true) := by
  have csh := c_shown
  have cf := c_formed l es hr hL
  by_cases hf : formC l es = 0
  · have h := (formC_ok.1 hf).1
    have hlv := h.lv
    rw [dec_t hf] at cf
    have c1 := i_Labels h
    unfold labT at c1
    have hget : ∀ i, i < l.length → (rowsBy cNat ((List.range l.length).map (labV l)))[i]? = some [.int .i64 ((labV l i : Nat) : Int)] := fun i hi => by
      rw [rowsBy_get cNat (by rw [List.length_map, List.length_range]; exact hi), List.getElem_map, List.getElem_range]; rfl
    have hlr : (rowsBy cNat ((List.range l.length).map (labV l))).length = l.length := by rw [rowsBy_map, List.length_map, List.length_map, List.length_range]
    generalize rowsBy cNat ((List.range l.length).map (labV l)) = q at *
    have l1 : E (cs F) 0 f6_l1 (⟨(upd (upd (upd (upd Sx.e0 6 (.v (.int .i64 (0)))) 5 (.s 5 0 l.length)) 3 (.v (.bool (true)))) 1 (.p 1 0)), (upd (upd Sx.h0 5 (some (.arr false 3 1 q))) 1 (some (.var false [(.v (.sl .shared 5 (rowsBy Vx.c l))), (.v (.sl .shared 4 (rowsBy Ed.c es)))])))⟩ : St) = some (.exit 0, (⟨(upd Sx.e0 3 (.v (.bool (true)))), Sx.h0⟩ : St)) := by
      refine loop_to (b := f6_b1) (fun q0 => (⟨(upd (upd (upd (upd Sx.e0 6 (.v (.int .i64 ((q0 : Int))))) 5 (.s 5 0 l.length)) 3 (.v (.bool (true)))) 1 (.p 1 0)), (upd (upd Sx.h0 5 (some (.arr false 3 1 q))) 1 (some (.var false [(.v (.sl .shared 5 (rowsBy Vx.c l))), (.v (.sl .shared 4 (rowsBy Ed.c es)))])))⟩ : St)) (l.length) ?_ ?_ (by simp)
      · intro i hi
        have hiz : (i : Int) < (l.length : Int) := by omega
        have l2 := places_l2 h i hi q hlr hget
        have g1 := hget i hi
        obtain ⟨h2, h3⟩ := labV_idem' l hi
        have hself := (labV_lab l).self hi
        have g2 := hget _ h2
        rw [h3] at g2
        have z2 : ((labV l i : Nat) : Int) < (l.length : Int) := by omega
        have d1 : decide (((labV l i : Nat) : Int) < 0) = false := dec_f (by omega)
        have d2 : decide (((labV l i : Nat) : Int) > (i : Int)) = false := dec_f (by omega)
        have d3 : decide (¬ ((labV l i : Nat) : Int) = ((labV l i : Nat) : Int)) = false := dec_f (by omega)
        generalize labV l i = a at *
        simp only [f6_b1, hiz, l2, g1, g2, z2, d1, d2, wrap_succ hi (show l.length ≤ 9223372036854775807 by omega), go_sem, reduceIte, Nat.reduceEqDiff, Nat.reduceAdd, List.length_cons, List.length_nil, ne_eq, not_true_eq_false, Nat.testBit, Nat.reduceShiftRight, Nat.reduceAnd, Nat.reduceBNe]
      · simp only [f6_b1, dec_ge (Nat.le_refl l.length), go_sem, reduceIte, Nat.reduceEqDiff]
    have hd : decide (¬ (l.length : Int) = (l.length : Int)) = false := dec_f (by omega)
    rw [call_code F (show F 6 = some (.code f6) from rfl)]
    simp only [f6, csh, cf, c1, hlr, l1, go_sem, reduceIte, reduceCtorEq, Nat.reduceEqDiff, Nat.reduceAdd, Nat.reduceMul, Nat.reduceLeDiff, List.length_cons, List.length_nil, ne_eq, not_true_eq_false]
  · rw [dec_f hf] at cf
    rw [call_code F (show F 6 = some (.code f6) from rfl)]
    simp only [f6, csh, cf, go_sem, reduceIte, reduceCtorEq, Nat.reduceEqDiff, Nat.reduceAdd, Nat.reduceMul, List.length_cons, List.length_nil]
end Go.Proofs.Ytfhijlhiifkkhaa.Sx
namespace Go.Proofs.Ytfhijlhiifkkhaa.Sx
theorem nodup_rev {r : List Dart} (h : r.Nodup) : r.reverse.Nodup := ((List.reverse_perm r).nodup_iff).2 h
theorem next_prev {r : List Dart} (hn : r.Nodup) {x : Dart} (hx : x ∈ r) : nextD r (prevD r x) = x := by
  have hp := List.length_pos_of_mem hx
  have e := ga_idx hx
  conv => lhs; rw [← e]
  rw [prevD_ga hn hp, nextD_ga hn hp, show r.idxOf x + (r.length - 1) + 1 = r.idxOf x + r.length by omega, ← ga_mod, Nat.add_mod_right, ga_mod, e]
theorem next_rev {r : List Dart} (hn : r.Nodup) {x : Dart} (hx : x ∈ r) : nextD r.reverse x = prevD r x := by
  have hp := List.length_pos_of_mem hx
  have hnr : r.reverse.Nodup := nodup_rev hn
  obtain ⟨hi, hxi⟩ := idxOf_at hx
  generalize r.idxOf x = i at hi hxi
  have hl : r.reverse.length = r.length := List.length_reverse
  have e1 : ga r.reverse (r.length - 1 - i) = x := by
    rw [ga_lt (by omega), List.getElem_reverse, ← hxi]
    congr 1
    omega
  have e2 : ga r i = x := by rw [ga_lt hi, hxi]
  have h1 := nextD_ga hnr (by omega) (r.length - 1 - i)
  have h2 := prevD_ga hn hp i
  rw [e1] at h1
  rw [e2] at h2
  rw [h1, h2]
  by_cases h0 : i = 0
  · subst h0
    rw [show r.length - 1 - 0 + 1 = r.reverse.length by omega, ← ga_mod, Nat.mod_self, ga_lt (by omega), Nat.zero_add, ga_lt (by omega), List.getElem_reverse]
    rfl
  · rw [ga_lt (by omega), List.getElem_reverse, show i + (r.length - 1) = (i - 1) + r.length by omega, ← ga_mod r, Nat.add_mod_right, ga_mod, ga_lt (by omega)]
    congr 1; omega
def mirV (v : Vx) : Vx := reR v (turn v.ring.reverse)
def mirL (l : List Vx) : List Vx := l.map mirV
theorem mirV_count (v : Vx) (y : Dart) : (mirV v).ring.count y = v.ring.count y := by
  show (turn _).count y = _
  rw [← (rot_turn _).count, List.count_reverse]
theorem mir_count (l : List Vx) (y : Dart) : (allR (mirL l)).count y = (allR l).count y := count_map mirV y id (fun _ _ => rfl) (fun v => mirV_count v y) l
theorem mir_mem (l : List Vx) (y : Dart) : y ∈ allR (mirL l) ↔ y ∈ allR l := by rw [← List.count_pos_iff, mir_count, List.count_pos_iff]
theorem mir_nd {l : List Vx} (h : (allR l).Nodup) : (allR (mirL l)).Nodup := by
  rw [List.nodup_iff_count]; intro y; rw [mir_count]; exact List.nodup_iff_count.1 h y
theorem mir_pr {l : List Vx} (h : Pr l) : Pr (mirL l) :=
  ⟨mir_nd h.nd, fun x hx => (mir_mem l _).2 (h.oth x ((mir_mem l x).1 hx)), fun x hx => h.ne x ((mir_mem l x).1 hx)⟩
theorem mir_wf {l : List Vx} {es : List Ed} (h : WF l es) : WF (mirL l) es := by
  refine wf_of_count h (by unfold mirL; rw [List.map_map]; rfl) (fun u hu => ?_) (mir_count l)
  obtain ⟨v, hv, rfl⟩ := List.mem_map.1 hu
  exact (turn_turn (nodup_rev (ring_nodup h.nd hv))).symm
theorem mir_sig {l : List Vx} (hn : (allR l).Nodup) {x : Dart} (hx : x ∈ allR l) : sigD (mirL l) (sigD l x) = x := by
  obtain ⟨v, hv, hxv⟩ := (allR_mem l x).1 hx
  have hs := sigD_mem hn hv hxv
  have hnr := ring_nodup hn hv
  have hm : mirV v ∈ mirL l := List.mem_map_of_mem hv
  have hmem : sigD l x ∈ (mirV v).ring := ((rot_turn _).mem _).1 (List.mem_reverse.2 hs)
  rw [sigD_at (mir_nd hn) hm hmem]
  show nextD (turn v.ring.reverse) _ = x
  rw [nextD_rot (nodup_rev hnr) (rot_turn _), next_rev hnr hs, sigD_at hn hv hxv]
  exact prev_next hnr hxv
theorem mir_phi {l : List Vx} (h : Pr l) {x : Dart} (hx : x ∈ allR l) : phiD (mirL l) (othD (phiD l x)) = othD x := by
  unfold phiD
  rw [othD_othD]
  exact mir_sig h.nd (h.oth x hx)
theorem Pth.back {f g k : Dart → Dart} {D : List Dart} (hk : ∀ z ∈ D, g (k (f z)) = k z) : ∀ {r : List Dart} {x y : Dart}, Pth f x r y → (∀ z ∈ x :: r, z ∈ D) → Pth g (k y) (r.map k).reverse (k x)
  | [], x, y, h, hr => by
    have h : f x = y := h
    show g (k y) = k x
    rw [← h]; exact hk x (hr x (by simp))
  | z :: r, x, y, h, hr => by
    rw [List.map_cons, List.reverse_cons]
    refine Pth.app.2 ⟨Pth.back hk h.2 (fun u hu => hr u (by simp at hu ⊢; exact .inr hu)), ?_⟩
    show g (k z) = k x
    rw [← h.1]; exact hk x (hr x (by simp))
def backC (c : List Dart) : List Dart := match c with
  | [] => []
  | x :: r => othD x :: (r.map othD).reverse
theorem backC_perm (c : List Dart) : (backC c).Perm (c.map othD) := by
  cases c with
  | nil => exact .refl _
  | cons x r => exact (List.reverse_perm _).cons _
theorem backC_len (c : List Dart) : (backC c).length = c.length := by rw [(backC_perm c).length_eq, List.length_map]
theorem mir_dec {l : List Vx} (h : Pr l) {cs : List (List Dart)} (hc : Dec (phiD l) (allR l) cs) : Dec (phiD (mirL l)) (allR (mirL l)) (cs.map backC) := by
  have hp : ∀ cs : List (List Dart), ((cs.map backC).flatten).Perm (cs.flatten.map othD) := by
    intro cs
    induction cs with
    | nil => exact .refl _
    | cons c cs ih =>
      rw [List.map_cons, List.flatten_cons, List.flatten_cons, List.map_append]
      exact (backC_perm c).append ih
  refine ⟨fun c hcm => ?_, ?_, fun x => ?_⟩
  · obtain ⟨d, hd, rfl⟩ := List.mem_map.1 hcm
    have hcy := hc.cy d hd
    cases d with
    | nil => cases hcy
    | cons x r => exact Pth.back (D := allR l) (fun z hz => mir_phi h hz) hcy fun z hz => (hc.mem z).1 (List.mem_flatten.2 ⟨_, hd, hz⟩)
  · rw [(hp cs).nodup_iff]
    have : ∀ l : List Dart, l.Nodup → (l.map othD).Nodup := by
      intro l
      induction l with
      | nil => intro _; simp
      | cons x l ih =>
        intro hl
        rw [List.nodup_cons] at hl
        rw [List.map_cons, List.nodup_cons]
        refine ⟨fun hm => ?_, ih hl.2⟩
        obtain ⟨y, hy, e⟩ := List.mem_map.1 hm
        exact hl.1 (othD_inj e ▸ hy)
    exact this _ hc.nd
  · rw [(hp cs).mem_iff, mir_mem, List.mem_map]
    constructor
    · rintro ⟨y, hy, rfl⟩
      exact h.oth y ((hc.mem y).1 hy)
    · intro hx
      exact ⟨othD x, (hc.mem _).2 (h.oth x hx), othD_othD x⟩
theorem mir_alone (l : List Vx) : aloneN (mirL l) = aloneN l := by
  unfold aloneN mirL
  rw [List.countP_map]
  refine List.countP_congr fun v _ => ?_
  show ((mirV v).ring.isEmpty = true) ↔ _
  have : (mirV v).ring.isEmpty = v.ring.isEmpty := by
    have h1 : (mirV v).ring.length = v.ring.length := by
      show (turn _).length = _
      rw [turn_length, List.length_reverse]
    cases ha : (mirV v).ring <;> cases hb : v.ring <;> rw [ha, hb] at h1 <;> simp at h1 <;> rfl
  rw [this]
theorem mir_ringAt {l : List Vx} {u : Nat} {x : Dart} : x ∈ ringAt (mirL l) u ↔ x ∈ ringAt l u := by
  have hl : (mirL l).length = l.length := by simp [mirL]
  have key : ∀ (h : u < l.length) (h' : u < (mirL l).length), x ∈ (mirL l)[u].ring ↔ x ∈ l[u].ring := fun h h' => by
    simp only [mirL, List.getElem_map]
    show x ∈ turn _ ↔ _
    rw [← (rot_turn _).mem, List.mem_reverse]
  constructor
  · intro h
    have hu := ringAt_mem h
    rw [ringAt_lt hu] at h
    rw [ringAt_lt (by omega)]
    exact (key (by omega) hu).1 h
  · intro h
    have hu := ringAt_mem h
    rw [ringAt_lt hu] at h
    rw [ringAt_lt (show u < (mirL l).length by omega)]
    exact (key hu (by omega)).2 h
theorem mir_step {l : List Vx} (u w : Nat) : stepV (mirL l) u w ↔ stepV l u w := by
  rw [stepV_iff, stepV_iff]
  constructor
  · rintro ⟨x, h1, h2⟩; exact ⟨x, mir_ringAt.1 h1, mir_ringAt.1 h2⟩
  · rintro ⟨x, h1, h2⟩; exact ⟨x, mir_ringAt.2 h1, mir_ringAt.2 h2⟩
theorem mir_eul {l : List Vx} (h : Pr l) {v e f p : Nat} (k : Eul l v e f p) : Eul (mirL l) v e f p := by
  obtain ⟨cs, hc, rfl⟩ := k.f
  obtain ⟨lab, hl, rfl⟩ := k.p
  have hlen : (mirL l).length = l.length := by simp [mirL]
  refine ⟨by rw [hlen]; exact k.v, ?_, ⟨_, mir_dec h hc, by rw [List.length_map, mir_alone]⟩, ⟨lab, ?_, by rw [hlen]⟩⟩
  · rw [k.e]
    exact len_of_mem h.nd (mir_nd h.nd) fun x => (mir_mem l x).symm
  · rw [hlen]
    exact hl.iff fun u w => (mir_step u w).symm
/-- as many faces of each size -/
theorem mir_sizes {l : List Vx} (h : Pr l) {cs ds : List (List Dart)} (hc : Dec (phiD l) (allR l) cs) (hd : Dec (phiD (mirL l)) (allR (mirL l)) ds) (n : Nat) : (cs.filter (fun c => decide (c.length = n))).length = (ds.filter (fun c => decide (c.length = n))).length ∧ cs.length = ds.length := by
  have hm := mir_dec h hc
  refine ⟨?_, by have := hm.len hd; rw [List.length_map] at this; exact this⟩
  rw [← hm.sizes hd n, List.filter_map, List.length_map]
  congr 2
  funext c
  show decide (c.length = n) = decide ((backC c).length = n)
  rw [backC_len]
end Go.Proofs.Ytfhijlhiifkkhaa.Sx
namespace Go.Proofs.Ytfhijlhiifkkhaa.Sx
theorem dartsE_snoc2 (es : List Ed) (e : Ed) : dartsE (es ++ [e]) = dartsE es ++ [⟨e.id, 0⟩, ⟨e.id, 1⟩] := by unfold dartsE; rw [List.flatMap_append]; simp
def insV (id : ID) (z a : Dart) (v : Vx) : Vx := if v.id = id then reR v (insR v.ring z a) else v
theorem insV_id (id : ID) (z a : Dart) (v : Vx) : (insV id z a v).id = v.id := by unfold insV; split <;> rfl
theorem insV_pos {id : ID} {v : Vx} (h : v.id = id) (z a : Dart) : insV id z a v = reR v (insR v.ring z a) := by unfold insV; rw [if_pos h]
theorem insV_neg {id : ID} {v : Vx} (h : ¬ v.id = id) (z a : Dart) : insV id z a v = v := by unfold insV; rw [if_neg h]
theorem insV_label (id : ID) (z a : Dart) (v : Vx) : (insV id z a v).label = v.label := by unfold insV; split <;> rfl
theorem insV_attr (id : ID) (z a : Dart) (v : Vx) : (insV id z a v).attr = v.attr := by unfold insV; split <;> rfl
theorem ins_count1 {r : List Dart} {z a : Dart} (ha : a ∉ r) (y : Dart) : (insR r z a).count y = r.count y + if y = a then 1 else 0 := by
  rw [insR_eq ha, ← (rot_turn _).count, count_insL]
theorem ins_mem1 {r : List Dart} {z a : Dart} (ha : a ∉ r) (y : Dart) : y ∈ insR r z a ↔ y ∈ r ∨ y = a := by
  rw [← List.count_pos_iff, ins_count1 ha, ← List.count_pos_iff (a := y) (l := r)]
  split
  · rename_i h; simp [h]
  · rename_i h; simp [h]
theorem ins_nd1 {r : List Dart} (hn : r.Nodup) {z a : Dart} (ha : a ∉ r) : (insR r z a).Nodup := by
  rw [insR_eq ha]; exact (rot_turn _).nodup (insL_nodup hn ha)
theorem ins_turn1 {r : List Dart} (hn : r.Nodup) {z a : Dart} (ha : a ∉ r) : insR r z a = turn (insR r z a) := by
  rw [insR_eq ha, turn_turn (insL_nodup hn ha)]
theorem ins_back1 {r : List Dart} {z a : Dart} (ha : a ∉ r) : Rot ((insR r z a).filter (fun y => decide (¬ y = a))) r := by
  rw [insR_eq ha]
  have := ((rot_turn (insL r z a)).symm).filter (fun y => decide (¬ y = a))
  rw [insL_filter ha] at this
  exact this
theorem insV_back {id : ID} {z a : Dart} {v : Vx} (ha : a ∉ v.ring) : Rot ((insV id z a v).ring.filter (fun y => decide (¬ y = a))) v.ring := by
  unfold insV
  split
  · exact ins_back1 ha
  · rw [List.filter_eq_self.2 (fun y hy => by simp; rintro rfl; exact ha hy)]
    exact .refl _
theorem insV_nd {id : ID} {z a : Dart} {v : Vx} (hn : v.ring.Nodup) (ha : a ∉ v.ring) : (insV id z a v).ring.Nodup := by
  unfold insV; split
  · exact ins_nd1 hn ha
  · exact hn
theorem insV_turn {id : ID} {z a : Dart} {v : Vx} (hn : v.ring.Nodup) (ha : a ∉ v.ring) (ht : v.ring = turn v.ring) : (insV id z a v).ring = turn (insV id z a v).ring := by
  unfold insV; split
  · exact ins_turn1 hn ha
  · exact ht
theorem insV_mem {id : ID} {z a : Dart} {v : Vx} (ha : a ∉ v.ring) (y : Dart) : y ∈ (insV id z a v).ring ↔ y ∈ v.ring ∨ (y = a ∧ v.id = id) := by
  unfold insV; split
  · rename_i h
    show y ∈ insR _ _ _ ↔ _
    rw [ins_mem1 ha]; simp [h]
  · rename_i h; simp [h]
theorem map_ins {l : List Vx} (hn : (l.map Vx.id).Nodup) {k : Nat} (hk : k < l.length) (z a : Dart) : l.map (insV l[k].id z a) = l.set k (reR l[k] (insR l[k].ring z a)) := by
  refine List.ext_getElem (by simp) fun i h1 h2 => ?_
  rw [List.getElem_map, List.getElem_set]
  split
  · rename_i e; subst e; unfold insV; rw [if_pos rfl]
  · rename_i e
    unfold insV
    rw [if_neg]
    intro e2
    have hi : i < l.length := by simpa using h1
    have := (List.getElem_inj hn (h₀ := by simpa using hi) (h₁ := by simpa using hk)).1 (by simpa using e2)
    exact e this.symm
theorem ins_count {l : List Vx} (hn : (l.map Vx.id).Nodup) {v : Vx} (hv : v ∈ l) {z a : Dart} (ha : a ∉ allR l) (y : Dart) : (allR (l.map (insV v.id z a))).count y = (allR l).count y + if y = a then 1 else 0 := by
  obtain ⟨k, hk, rfl⟩ := List.mem_iff_getElem.1 hv
  rw [map_ins hn hk]
  have h1 := count_set hk (reR l[k] (insR l[k].ring z a)) y
  have h2 : (reR l[k] (insR l[k].ring z a)).ring.count y = l[k].ring.count y + if y = a then 1 else 0 := ins_count1 (fun h => ha (mem_allR (List.getElem_mem hk) h)) y
  omega
/-- the new edge's name: the greatest that may be -/
def bigI : ID := ⟨8, 1048576⟩
def bigA : Dart := ⟨bigI, 0⟩
def bigB : Dart := ⟨bigI, 1⟩
def bigE : Ed := ⟨bigI, ⟨#[]⟩, 0⟩
theorem oth_big : othD bigA = bigB := rfl
def moreV (l : List Vx) (v w : ID) (x y : Dart) : List Vx := (l.map (insV v x bigA)).map (insV w y bigB)
theorem big_not {l : List Vx} {es : List Ed} (h : WF l es) (hn : bigI ∉ es.map Ed.id) : bigA ∉ allR l ∧ bigB ∉ allR l := by
  constructor
  · intro hm
    obtain ⟨e, he, hx⟩ := dartsE_mem.1 ((h.mem _).1 hm)
    refine hn (List.mem_map.2 ⟨e, he, ?_⟩)
    rcases hx with hx | hx
    · exact (congrArg Dart.e hx).symm
    · exact (congrArg Dart.e hx).symm
  · intro hm
    obtain ⟨e, he, hx⟩ := dartsE_mem.1 ((h.mem _).1 hm)
    refine hn (List.mem_map.2 ⟨e, he, ?_⟩)
    rcases hx with hx | hx
    · exact (congrArg Dart.e hx).symm
    · exact (congrArg Dart.e hx).symm
section
variable {l : List Vx} {es : List Ed}
theorem more_count (h : WF l es) (hn : bigI ∉ es.map Ed.id) {v w : Vx} (hv : v ∈ l) (hw : w ∈ l) (x y z : Dart) : (allR (moreV l v.id w.id x y)).count z = (allR l).count z + (if z = bigA then 1 else 0) + (if z = bigB then 1 else 0) := by
  obtain ⟨ha, hb⟩ := big_not h hn
  have hid : (l.map (insV v.id x bigA)).map Vx.id = l.map Vx.id := by rw [List.map_map]; exact List.map_congr_left fun u _ => insV_id _ _ _ u
  have h1 : ∀ z, (allR (l.map (insV v.id x bigA))).count z = (allR l).count z + if z = bigA then 1 else 0 := ins_count h.sv.nodup hv ha
  have hb' : bigB ∉ allR (l.map (insV v.id x bigA)) := fun hm => by
    have h2 := h1 bigB
    have h3 := List.count_pos_iff.2 hm
    rw [List.count_eq_zero_of_not_mem hb, if_neg (by decide)] at h2
    omega
  have hw' : insV v.id x bigA w ∈ l.map (insV v.id x bigA) := List.mem_map_of_mem hw
  have h2 := ins_count (l := l.map (insV v.id x bigA)) (by rw [hid]; exact h.sv.nodup) hw' (z := y) hb' z
  rw [insV_id] at h2
  unfold moreV
  rw [h2, h1]
theorem rise_big {ids : List ID} (h : Rise ids) (hn : bigI ∉ ids) : Rise (ids ++ [bigI]) := by
  refine ⟨fun x hx => ?_, List.pairwise_append.2 ⟨h.2, by simp, fun x hx y hy => ?_⟩⟩
  · rcases List.mem_append.1 hx with hx | hx
    · exact h.1 x hx
    · rw [List.mem_singleton.1 hx]; rfl
  · rw [List.mem_singleton.1 hy]
    have h1 := h.1 x hx
    have h2 : x ≠ bigI := fun e => hn (e ▸ hx)
    unfold mayI at h1
    have h1 := of_decide_eq_true h1
    rw [Ne, ID.ext_iff'] at h2
    unfold ltI bigI at *
    simp only at h2 ⊢
    omega
theorem more_wf (h : WF l es) (hn : bigI ∉ es.map Ed.id) (hlt : es.length < 40) {v w : Vx} (hv : v ∈ l) (hw : w ∈ l) (x y : Dart) : WF (moreV l v.id w.id x y) (es ++ [bigE]) := by
  obtain ⟨ha, hb⟩ := big_not h hn
  have hc := more_count h hn hv hw x y
  refine ⟨by simp [moreV]; exact h.lv, by simp; omega, ?_, ?_, fun u hu => ?_, ?_, fun z => ?_⟩
  · have : (moreV l v.id w.id x y).map Vx.id = l.map Vx.id := by
      unfold moreV
      rw [List.map_map, List.map_map]
      exact List.map_congr_left fun u _ => by show (insV _ _ _ (insV _ _ _ u)).id = u.id; rw [insV_id, insV_id]
    rw [this]; exact h.sv
  · rw [List.map_append]; exact rise_big h.se hn
  · obtain ⟨u1, hu1, rfl⟩ := List.mem_map.1 hu
    obtain ⟨u0, hu0, rfl⟩ := List.mem_map.1 hu1
    have n0 := ring_nodup h.nd hu0
    have a0 : bigA ∉ u0.ring := fun hm => ha (mem_allR hu0 hm)
    have b0 : bigB ∉ u0.ring := fun hm => hb (mem_allR hu0 hm)
    have b1 : bigB ∉ (insV v.id x bigA u0).ring := fun hm => by
      rcases (insV_mem a0 _).1 hm with hm | hm
      · exact b0 hm
      · exact absurd hm.1 (by decide)
    exact insV_turn (insV_nd n0 a0) b1 (insV_turn n0 a0 (h.tn u0 hu0))
  · rw [List.nodup_iff_count]
    intro z
    rw [hc]
    have h1 := List.nodup_iff_count.1 h.nd z
    by_cases e1 : z = bigA
    · subst e1
      rw [List.count_eq_zero_of_not_mem ha, if_pos rfl, if_neg (by decide)]; omega
    · by_cases e2 : z = bigB
      · subst e2
        rw [List.count_eq_zero_of_not_mem hb, if_neg (by decide), if_pos rfl]; omega
      · rw [if_neg e1, if_neg e2]; omega
  · rw [← List.count_pos_iff, hc, dartsE_snoc2 es bigE, List.mem_append, ← h.mem z, ← List.count_pos_iff]
    simp only [List.mem_cons, List.not_mem_nil, or_false]
    show _ ↔ _ ∨ (z = bigA ∨ z = bigB)
    by_cases e1 : z = bigA
    · rw [if_pos e1]; constructor
      · intro _; exact .inr (.inl e1)
      · intro _; omega
    · by_cases e2 : z = bigB
      · rw [if_pos e2]; constructor
        · intro _; exact .inr (.inr e2)
        · intro _; omega
      · simp [e1, e2]
theorem more_cut (h : WF l es) (hn : bigI ∉ es.map Ed.id) (v w : ID) (x y : Dart) : Cut (moreV l v w x y) l bigA (othD bigA) := by
  obtain ⟨ha, hb⟩ := big_not h hn
  refine ⟨by simp [moreV], fun i hi hi' => ?_⟩
  rw [oth_big]
  have e : (moreV l v w x y)[i] = insV w y bigB (insV v x bigA l[i]) := by simp [moreV]
  rw [e]
  have hu0 := List.getElem_mem hi'
  have a0 : bigA ∉ l[i].ring := fun hm => ha (mem_allR hu0 hm)
  have b0 : bigB ∉ l[i].ring := fun hm => hb (mem_allR hu0 hm)
  have b1 : bigB ∉ (insV v x bigA l[i]).ring := fun hm => by
    rcases (insV_mem a0 _).1 hm with hm | hm
    · exact b0 hm
    · exact absurd hm.1 (by decide)
  have r1 := insV_back (id := w) (z := y) b1
  have r2 := insV_back (id := v) (z := x) a0
  have r3 := (r1.filter (fun y => decide (¬ y = bigA))).trans r2
  rw [List.filter_filter] at r3 ⊢
  have : (fun a => decide (¬ a = bigB) && decide (¬ a = bigA)) = (fun a => decide (¬ a = bigA) && decide (¬ a = bigB)) := by
    funext a; exact Bool.and_comm _ _
  rw [this]
  exact r3
theorem next_ins {r : List Dart} (hn : r.Nodup) {z a : Dart} (ha : a ∉ r) (hz : z ∈ r) : nextD (insR r z a) z = a := by
  have h1 := prev_ins hn ha hz
  have h2 := next_prev (ins_nd1 hn ha) ((ins_mem1 (z := z) ha a).2 (.inr rfl))
  rw [h1] at h2
  exact h2
theorem next_ins_other {r : List Dart} (hn : r.Nodup) {z a u : Dart} (ha : a ∉ r) (hz : z ∈ r) (hu : u ∈ r) (huz : u ≠ z) : nextD (insR r z a) u = nextD r u := by
  have hni := ins_nd1 hn ha (z := z)
  have hua : u ≠ a := fun e => ha (e ▸ hu)
  have hui : u ∈ insR r z a := (ins_mem1 ha u).2 (.inl hu)
  have h1 := filter_skip hni hui hua
  rw [if_neg] at h1
  · rw [← h1]
    exact (nextD_rot (hni.filter _) (ins_back1 ha) u).symm
  · intro e
    have h2 := prev_next hni hui
    rw [e, prev_ins hn ha hz] at h2
    exact huz h2.symm
theorem more_sig (h : WF l es) (hn : bigI ∉ es.map Ed.id) (hlt : es.length < 40) {v w : Vx} (hv : v ∈ l) (hw : w ∈ l) {x y : Dart} (hx : x ∈ v.ring) (hy : y ∈ w.ring) (hxy : x ≠ y) :
    sigD (moreV l v.id w.id x y) x = bigA ∧ sigD (moreV l v.id w.id x y) y = bigB := by
  obtain ⟨ha, hb⟩ := big_not h hn
  have hm := more_wf h hn hlt hv hw x y
  have nodup_id := h.sv.nodup
  have fact : ∀ u ∈ l, bigA ∉ u.ring ∧ bigB ∉ (insV v.id x bigA u).ring ∧ u.ring.Nodup ∧ (insV v.id x bigA u).ring.Nodup ∧ insV w.id y bigB (insV v.id x bigA u) ∈ moreV l v.id w.id x y := fun u hu => by
    have a0 : bigA ∉ u.ring := fun hm => ha (mem_allR hu hm)
    have n0 := ring_nodup h.nd hu
    refine ⟨a0, fun hm => ?_, n0, insV_nd n0 a0, List.mem_map_of_mem (List.mem_map_of_mem hu)⟩
    rcases (insV_mem a0 _).1 hm with hm | hm
    · exact hb (mem_allR hu hm)
    · exact absurd hm.1 (by decide)
  constructor
  · obtain ⟨a0, b1, n0, n1, hmem⟩ := fact v hv
    have e1 : (insV v.id x bigA v).ring = insR v.ring x bigA := by unfold insV; rw [if_pos rfl]; rfl
    have hx1 : x ∈ (insV v.id x bigA v).ring := (insV_mem a0 x).2 (.inl hx)
    have hx2 : x ∈ (insV w.id y bigB (insV v.id x bigA v)).ring := (insV_mem b1 x).2 (.inl hx1)
    rw [sigD_at hm.nd hmem hx2]
    have h1 : nextD (insV v.id x bigA v).ring x = bigA := by rw [e1]; exact next_ins n0 a0 hx
    by_cases hvw : v.id = w.id
    · have e : v = w := inj_of_nodup nodup_id hv hw hvw
      subst e
      have e2 : (insV v.id y bigB (insV v.id x bigA v)).ring = insR (insV v.id x bigA v).ring y bigB := by
        rw [insV_pos (insV_id v.id x bigA v) y bigB]; rfl
      rw [e2, next_ins_other n1 b1 ((insV_mem a0 y).2 (.inl hy)) hx1 hxy, h1]
    · have e2 : insV w.id y bigB (insV v.id x bigA v) = insV v.id x bigA v := by
        rw [insV_neg (by rw [insV_id]; exact hvw)]
      rw [e2, h1]
  · obtain ⟨a0, b1, n0, n1, hmem⟩ := fact w hw
    have hy1 : y ∈ (insV v.id x bigA w).ring := (insV_mem a0 y).2 (.inl hy)
    have hy2 : y ∈ (insV w.id y bigB (insV v.id x bigA w)).ring := (insV_mem b1 y).2 (.inl hy1)
    rw [sigD_at hm.nd hmem hy2]
    have e2 : (insV w.id y bigB (insV v.id x bigA w)).ring = insR (insV v.id x bigA w).ring y bigB := by
      rw [insV_pos (insV_id v.id x bigA w) y bigB]; rfl
    rw [e2, next_ins n1 b1 hy1]
theorem more_alone (h : WF l es) (hn : bigI ∉ es.map Ed.id) {v w : Vx} (hv : v ∈ l) (hw : w ∈ l) {x y : Dart} (hx : x ∈ v.ring) (hy : y ∈ w.ring) : aloneN (moreV l v.id w.id x y) = aloneN l := by
  obtain ⟨ha, hb⟩ := big_not h hn
  unfold aloneN moreV
  rw [List.map_map, List.countP_map]
  refine List.countP_congr fun u hu => ?_
  have a0 : bigA ∉ u.ring := fun hm => ha (mem_allR hu hm)
  have b1 : bigB ∉ (insV v.id x bigA u).ring := fun hm => by
    rcases (insV_mem a0 _).1 hm with hm | hm
    · exact hb (mem_allR hu hm)
    · exact absurd hm.1 (by decide)
  show (insV w.id y bigB (insV v.id x bigA u)).ring.isEmpty = true ↔ u.ring.isEmpty = true
  rw [List.isEmpty_iff, List.isEmpty_iff]
  constructor
  · intro e
    cases hr : u.ring with
    | nil => rfl
    | cons z r =>
      have : z ∈ (insV w.id y bigB (insV v.id x bigA u)).ring := (insV_mem b1 z).2 (.inl ((insV_mem a0 z).2 (.inl (by rw [hr]; simp))))
      rw [e] at this; cases this
  · intro e
    have hv' : u.id ≠ v.id := fun e' => by
      have := inj_of_nodup h.sv.nodup hu hv e'
      rw [this] at e; rw [e] at hx; cases hx
    have hw' : u.id ≠ w.id := fun e' => by
      have := inj_of_nodup h.sv.nodup hu hw e'
      rw [this] at e; rw [e] at hy; cases hy
    have e1 : insV v.id x bigA u = u := by unfold insV; rw [if_neg hv']
    have e2 : insV w.id y bigB u = u := by unfold insV; rw [if_neg hw']
    rw [e1, e2, e]
/-- darts of one face, whatever the faces are told by -/
theorem Dec.same {f : Dart → Dart} {D : List Dart} (oo : OneOne f D) {n : Nat} (hD : D.length ≤ n) {cs : List (List Dart)} (h : Dec f D cs) {u w : Dart} (hu : u ∈ D) : (∃ c ∈ cs, u ∈ c ∧ w ∈ c) ↔ w ∈ orb f n u := by
  have hcy := oo.orb_cy hu hD
  constructor
  · rintro ⟨c, hc, h1, h2⟩
    exact (h.cy c hc).sub hcy h1 (orb_self _ _ _) w h2
  · intro hw
    obtain ⟨c, hc, h1⟩ := List.mem_flatten.1 ((h.mem u).2 hu)
    exact ⟨c, hc, h1, hcy.sub (h.cy c hc) (orb_self _ _ _) h1 w hw⟩
/-- an edge between corners of one face makes of it two; between two faces it makes of these one -/
theorem more_faces (h : WF l es) (hn : bigI ∉ es.map Ed.id) (hlt : es.length < 40) {v w : Vx} (hv : v ∈ l) (hw : w ∈ l) {x y : Dart} (hx : x ∈ v.ring) (hy : y ∈ w.ring) (hxy : x ≠ y)
    {cs ds : List (List Dart)} (hc : Dec (phiD (moreV l v.id w.id x y)) (allR (moreV l v.id w.id x y)) cs) (hd : Dec (phiD l) (allR l) ds) :
    (othD y ∈ trD l (othD x) ∧ cs.length = ds.length + 1) ∨ (othD y ∉ trD l (othD x) ∧ cs.length + 1 = ds.length) := by
  have hm := more_wf h hn hlt hv hw x y
  have hcut := more_cut h hn v.id w.id x y
  have hA : bigA ∈ allR (moreV l v.id w.id x y) := (hm.mem _).2 (dartsE_mem.2 ⟨bigE, by simp, .inl rfl⟩)
  obtain ⟨cs', hc', hcase⟩ := hc.faces hm.pr hA hcut
  have hl := hc'.len hd
  have hal := more_alone h hn hv hw hx hy
  obtain ⟨s1, s2⟩ := more_sig h hn hlt hv hw hx hy hxy
  have hxo := h.pr.oth x (mem_allR hv hx)
  have hyo := h.pr.oth y (mem_allR hw hy)
  have p1 : phiD (moreV l v.id w.id x y) (othD x) = bigA := by unfold phiD; rw [othD_othD]; exact s1
  have p2 : phiD (moreV l v.id w.id x y) (othD y) = othD bigA := by unfold phiD; rw [othD_othD]; exact s2
  have hlen : (allR l).length ≤ 100 := by rw [h.many]; have := h.le; omega
  have hs := hc'.same (phiD_oo h.pr) hlen (w := othD y) hxo
  rcases hcase with ⟨_, he, hno⟩ | ⟨_, he, hyes⟩
  · refine .inr ⟨fun hin => ?_, by omega⟩
    exact hno _ hxo _ hyo p1 p2 (hs.2 hin)
  · refine .inl ⟨hs.1 (hyes _ hxo _ hyo p1 p2), by omega⟩
end
end Go.Proofs.Ytfhijlhiifkkhaa.Sx
namespace Go.Proofs.Ytfhijlhiifkkhaa.Sx
open Go
theorem r04_clone_l1 (l : List Vx) (es : List Ed) (hl : l.length ≤ 100000) (hr : FitsR l) : E (cs F) 0 f23_l1 (⟨(upd (upd (upd (upd Sx.e0 4 (.v (.int .i64 (0)))) 3 (.p 3 0)) 2 (.p 2 0)) 1 (.p 1 0)), (upd (upd (upd (upd Sx.h0 10193 (some (.arr false 42 4 (rowsBy Ed.c es)))) 3 (some (.var false [(.v (.sl (.tight 47) 5 [])), (.s 10193 0 es.length)]))) 2 (some (.var false [(.v (.sl (.tight 47) 5 [])), (.v (.sl (.tight 42) 4 []))]))) 1 (some (.var false [(.v (.sl .shared 5 (rowsBy Vx.c l))), (.v (.sl .shared 4 (rowsBy Ed.c es)))])))⟩ : St) =
    some (if l.length = 0 then (.exit 0, (⟨(upd (upd Sx.e0 3 (.p 3 0)) 2 (.p 2 0)), (upd (upd (upd Sx.h0 10193 (some (.arr false 42 4 (rowsBy Ed.c es)))) 3 (some (.var false [(.v (.sl (.tight 47) 5 [])), (.s 10193 0 es.length)]))) 2 (some (.var false [(.v (.sl (.tight 47) 5 [])), (.v (.sl (.tight 42) 4 []))])))⟩ : St)) else (.exit 0, (⟨(upd (upd Sx.e0 3 (.p 3 0)) 2 (.p 2 0)), (upd (upd (upd (upd Sx.h0 10193 (some (.arr false 42 4 (rowsBy Ed.c es)))) 10192 (some (.arr false 47 5 (rowsBy Vx.c l)))) 3 (some (.var false [(.s 10192 0 l.length), (.s 10193 0 es.length)]))) 2 (some (.var false [(.v (.sl (.tight 47) 5 [])), (.v (.sl (.tight 42) 4 []))])))⟩ : St))) := by
  have hw : l.length ≤ 9223372036854775807 := by omega
  have l1 : E (cs F) 0 f23_l1 (⟨(upd (upd (upd (upd Sx.e0 4 (.v (.int .i64 (0)))) 3 (.p 3 0)) 2 (.p 2 0)) 1 (.p 1 0)), (upd (upd (upd (upd Sx.h0 10193 (some (.arr false 42 4 (rowsBy Ed.c es)))) 3 (some (.var false [(.v (.sl (.tight 47) 5 [])), (.s 10193 0 es.length)]))) 2 (some (.var false [(.v (.sl (.tight 47) 5 [])), (.v (.sl (.tight 42) 4 []))]))) 1 (some (.var false [(.v (.sl .shared 5 (rowsBy Vx.c l))), (.v (.sl .shared 4 (rowsBy Ed.c es)))])))⟩ : St) = some (if l.length = 0 then (.exit 0, (⟨(upd (upd Sx.e0 3 (.p 3 0)) 2 (.p 2 0)), (upd (upd (upd Sx.h0 10193 (some (.arr false 42 4 (rowsBy Ed.c es)))) 3 (some (.var false [(.v (.sl (.tight 47) 5 [])), (.s 10193 0 es.length)]))) 2 (some (.var false [(.v (.sl (.tight 47) 5 [])), (.v (.sl (.tight 42) 4 []))])))⟩ : St)) else (.exit 0, (⟨(upd (upd Sx.e0 3 (.p 3 0)) 2 (.p 2 0)), (upd (upd (upd (upd Sx.h0 10193 (some (.arr false 42 4 (rowsBy Ed.c es)))) 10192 (some (.arr false 47 5 (rowsBy Vx.c l)))) 3 (some (.var false [(.s 10192 0 l.length), (.s 10193 0 es.length)]))) 2 (some (.var false [(.v (.sl (.tight 47) 5 [])), (.v (.sl (.tight 42) 4 []))])))⟩ : St))) := by
    refine loop_grow (b := f23_b1) _ (fun q0 => (⟨(upd (upd (upd (upd Sx.e0 4 (.v (.int .i64 ((q0 : Int))))) 3 (.p 3 0)) 2 (.p 2 0)) 1 (.p 1 0)), (upd (upd (upd (upd (upd Sx.h0 10193 (some (.arr false 42 4 (rowsBy Ed.c es)))) 10192 (some (.arr false 47 5 (rowsBy Vx.c (l.take q0))))) 3 (some (.var false [(.s 10192 0 (l.take q0).length), (.s 10193 0 es.length)]))) 2 (some (.var false [(.v (.sl (.tight 47) 5 [])), (.v (.sl (.tight 42) 4 []))]))) 1 (some (.var false [(.v (.sl .shared 5 (rowsBy Vx.c l))), (.v (.sl .shared 4 (rowsBy Ed.c es)))])))⟩ : St)) (l.length) ?_ (by simp) ?_ ?_ ?_ (by simp)
    · intro h0
      simp only [f23_b1, show decide ((0 : Int) < (l.length : Int)) = false from decide_eq_false (by omega), go_sem, reduceIte, Nat.reduceEqDiff, Nat.reduceAdd, Nat.reduceLeDiff, List.length_cons, List.length_nil]
    · intro hn
      have hs : l.take 1 = [l[0]] := List.take_succ_eq_append_getElem (i := 0) hn
      have d1 : decide ((0 : Int) < (l.length : Int)) = true := decide_eq_true (by omega)
      have h1z : (0 : Int) < (l.length : Int) := by omega
      have hrl := (hr _ (List.getElem_mem hn)).le
      have h5 : l[0].ring.length * 24 ≤ 140737488355328 := by omega
      have e2 : rowsBy Vx.c [l[0]] = [[.int .i64 l[0].id.s, .int .i64 l[0].id.n, .sl .shared 3 (rowsBy Dart.c l[0].ring), .str l[0].label, .int .i64 l[0].attr]] := rfl
      rw [hs, e2]
      simp only [f23_b1, h1z, rowsBy_get Vx.c hn, Vx.c, h5, show IntKind.i64.wrap 1 = 1 from rfl, go_sem, reduceIte, Nat.reduceEqDiff, Nat.reduceAdd, Nat.reduceMul, Nat.reduceLeDiff, List.length_cons, List.length_nil, Int.reduceAdd, Int.reduceToNat, Int.cast_ofNat_Int]
    · intro i hi0 hi
      have h1z : (i : Int) < (l.length : Int) := by omega
      have hs : l.take (i + 1) = l.take i ++ [l[i]] := List.take_succ_eq_append_getElem hi
      have hrl := (hr _ (List.getElem_mem hi)).le
      have h5 : l[i].ring.length * 24 ≤ 140737488355328 := by omega
      have hl2 : (l.take i).length ≤ i := by rw [List.length_take]; omega
      have e2 : (l.take i ++ [l[i]]).length = (l.take i).length + 1 := by rw [List.length_append]; rfl
      rw [hs, e2]
      generalize l.take i = q at *
      have h6 : (q.length + 1) * 64 ≤ 140737488355328 := by omega
      have e3 : rowsBy Vx.c q ++ [[.int .i64 l[i].id.s, .int .i64 l[i].id.n, .sl .shared 3 (rowsBy Dart.c l[i].ring), .str l[i].label, .int .i64 l[i].attr]] = rowsBy Vx.c (q ++ [l[i]]) := rowsBy_snoc Vx.c q l[i]
      simp only [f23_b1, h1z, rowsBy_get Vx.c hi, Vx.c, h5, h6, e3, wrap_succ hi hw, go_sem, reduceIte, Nat.reduceEqDiff, Nat.reduceAdd, Nat.reduceLeDiff, List.length_cons, List.length_nil]
    · intro hn
      rw [List.take_length]
      simp only [f23_b1, dec_ge (Nat.le_refl l.length), go_sem, reduceIte, Nat.reduceEqDiff, Nat.reduceAdd, Nat.reduceLeDiff, List.length_cons, List.length_nil]
  exact l1
theorem i_r04_Clone (l : List Vx) (es : List Ed) (hl : l.length ≤ 100000) (he : es.length ≤ 100000) (hr : FitsR l) : call F 23 [.agg [.sl .shared 5 (rowsBy Vx.c l), .sl .shared 4 (rowsBy Ed.c es)]] = some (.agg [.sl (.own 47) 5 (rowsBy Vx.c l), .sl (.own 42) 4 (rowsBy Ed.c es)]) := by
  have l1 := r04_clone_l1 l es hl hr
  have h5 : es.length * 40 ≤ 140737488355328 := by omega
  rw [call_code F (show F 23 = some (.code f23) from rfl)]
  by_cases h0 : l.length = 0
  · rw [if_pos h0] at l1
    have e0 := List.eq_nil_of_length_eq_zero h0
    subst e0
    simp only [rowsBy_nil] at l1 ⊢
    simp only [f23, l1, h5, go_sem, reduceIte, reduceCtorEq, Nat.reduceEqDiff, Nat.reduceAdd, List.length_cons, List.length_nil]
  · rw [if_neg h0] at l1
    simp only [f23, l1, h5, go_sem, reduceIte, reduceCtorEq, Nat.reduceEqDiff, Nat.reduceAdd, Nat.reduceBEq, List.length_cons, List.length_nil]
/-- vertices changed one by one -/
def mixF (g : Vx → Vx) (v : List Vx) (i : Nat) : List Vx := (v.take i).map g ++ v.drop i
theorem mixF_at {g : Vx → Vx} {v : List Vx} {i : Nat} (h : i < v.length) : (mixF g v i)[i]? = some v[i] := by
  unfold mixF
  rw [List.getElem?_append_right (by simp; omega), List.length_map, List.length_take, Nat.min_eq_left (by omega), Nat.sub_self, List.getElem?_drop, Nat.add_zero, List.getElem?_eq_getElem h]
theorem mixF_len (g : Vx → Vx) (v : List Vx) (i : Nat) : (mixF g v i).length = v.length := by
  unfold mixF; rw [List.length_append, List.length_map, List.length_take, List.length_drop]; omega
theorem mixF_set {g : Vx → Vx} {v : List Vx} {i : Nat} (h : i < v.length) : (mixF g v i).set i (g v[i]) = mixF g v (i + 1) := by
  unfold mixF
  rw [List.set_append_right _ _ (by rw [List.length_map, List.length_take]; omega), List.length_map, List.length_take, Nat.min_eq_left (by omega), Nat.sub_self, List.drop_eq_getElem_cons h, List.set_cons_zero, List.take_succ_eq_append_getElem h, List.map_append, List.append_assoc]
  rfl
theorem mixF_all (g : Vx → Vx) (v : List Vx) : mixF g v v.length = v.map g := by unfold mixF; rw [List.take_length, List.drop_length, List.append_nil]
theorem mixF_zero (g : Vx → Vx) (v : List Vx) : mixF g v 0 = v := rfl
theorem mixF_row {g : Vx → Vx} {v : List Vx} {i : Nat} (h : i < v.length) : (rowsBy Vx.c (mixF g v i))[i]? = some (Vx.c v[i]) := by
  have hil : i < (mixF g v i).length := by rw [mixF_len]; exact h
  rw [rowsBy_get Vx.c hil]
  have hg := mixF_at (g := g) h
  rw [List.getElem?_eq_getElem hil] at hg
  rw [Option.some.inj hg]
theorem mixF_rowset {g : Vx → Vx} {v : List Vx} {i : Nat} (h : i < v.length) : (rowsBy Vx.c (mixF g v i)).set i (Vx.c (g v[i])) = rowsBy Vx.c (mixF g v (i + 1)) := by rw [rowsBy_set, mixF_set h]
theorem mixF_same {g : Vx → Vx} {v : List Vx} {i : Nat} (h : i < v.length) (e : g v[i] = v[i]) : mixF g v (i + 1) = mixF g v i := by
  rw [← mixF_set h, e]
  refine List.ext_getElem? fun k => ?_
  rw [List.getElem?_set]
  split
  · rename_i hk
    subst hk
    rw [mixF_at h, if_pos (by rw [mixF_len]; exact h)]
  · rfl
end Go.Proofs.Ytfhijlhiifkkhaa.Sx
namespace Go.Proofs.Ytfhijlhiifkkhaa.Sx
open Go
theorem insR_le {r : List Dart} {z a : Dart} : (insR r z a).length ≤ r.length + 1 := by
  unfold insR
  split
  · rw [turn_length]; omega
  · rw [turn_length, List.length_append, List.length_append, List.length_take, List.length_drop]; simp; omega
def insB (v w : ID) (u : Vx) : Vx := insV w Dart0 bigB (insV v Dart0 bigA u)
theorem moreV_insB (l : List Vx) (v w : ID) : l.map (insB v w) = moreV l v w Dart0 Dart0 := by
  unfold moreV; rw [List.map_map]; rfl
theorem plV_ids {l m : List Vx} (h : l.map Vx.id = m.map Vx.id) (x : ID) : plV l x = plV m x := by
  have e : ∀ k : List Vx, plV k x = (k.map Vx.id).findIdx fun i => decide (i = x) := fun k => by unfold plV; rw [List.findIdx_map]; rfl
  rw [e, e, h]
theorem moreV_len (l : List Vx) (v w : ID) (x y : Dart) : (moreV l v w x y).length = l.length := by unfold moreV; rw [List.length_map, List.length_map]
theorem moreV_ids (l : List Vx) (v w : ID) (x y : Dart) : (moreV l v w x y).map Vx.id = l.map Vx.id := by
  unfold moreV
  rw [List.map_map, List.map_map]
  exact List.map_congr_left fun u _ => by
    show (insV w y bigB (insV v x bigA u)).id = u.id
    rw [insV_id, insV_id]
theorem vx_pl {l : List Vx} {x : ID} {v : Vx} (h : vxBy l x = some v) : ∃ hp : plV l x < l.length, l[plV l x] = v ∧ v.id = x := by
  have h1 := (vxBy_some h)
  unfold vxBy firstBy at h
  obtain ⟨hp, h2⟩ := List.getElem?_eq_some_iff.1 h
  exact ⟨hp, h2, h1.2⟩
open Classical in
theorem more_parts {l : List Vx} {es : List Ed} (h : WF l es) (hn : bigI ∉ es.map Ed.id) (hlt : es.length < 40) {x y : ID} {v w : Vx} (hv : vxBy l x = some v) (hw : vxBy l y = some w) :
    togB (moreV l x y Dart0 Dart0) x y = true ∧ partsN (labV l) l.length = partsN (labV (moreV l x y Dart0 Dart0)) (moreV l x y Dart0 Dart0).length + if togB l x y = true then 0 else 1 := by
  obtain ⟨hp, hpv, hvx⟩ := vx_pl hv
  obtain ⟨hq, hqw, hwy⟩ := vx_pl hw
  subst hvx hwy
  have hM := more_wf h hn hlt (vxBy_some hv).1 (vxBy_some hw).1 Dart0 Dart0
  have hc := more_cut h hn v.id w.id Dart0 Dart0
  obtain ⟨hA, hB⟩ := big_not h hn
  have hml := moreV_len l v.id w.id Dart0 Dart0
  have hplv := plV_ids (moreV_ids l v.id w.id Dart0 Dart0)
  generalize hMe : moreV l v.id w.id Dart0 Dart0 = M at *
  have hnotA : ∀ i (hi : i < l.length), bigA ∉ l[i].ring := fun i hi hx => hA (mem_allR (List.getElem_mem hi) hx)
  have hnotB : ∀ i (hi : i < l.length), bigB ∉ (insV v.id Dart0 bigA l[i]).ring := fun i hi hx => by
    rcases (insV_mem (hnotA i hi) _).1 hx with h1 | ⟨h1, _⟩
    · exact hB (mem_allR (List.getElem_mem hi) h1)
    · exact absurd h1 (by decide)
  have hget : ∀ i (hi : i < M.length), M[i] = insV w.id Dart0 bigB (insV v.id Dart0 bigA (l[i]'(by omega))) := fun i hi => by
    subst hMe
    exact (List.getElem_map (insV w.id Dart0 bigB)).trans (congrArg (insV w.id Dart0 bigB) (List.getElem_map (insV v.id Dart0 bigA)))
  have hpA : bigA ∈ ringAt M (plV l v.id) := by
    rw [ringAt_lt (by omega), hget _ (by omega), insV_mem (hnotB _ hp), insV_mem (hnotA _ hp)]
    exact .inl (.inr ⟨rfl, by rw [hpv]⟩)
  have hqB : othD bigA ∈ ringAt M (plV l w.id) := by
    rw [oth_big, ringAt_lt (by omega), hget _ (by omega), insV_mem (hnotB _ hq), insV_id]
    exact .inr ⟨rfl, by rw [hqw]⟩
  have hst := fun u k => hc.step hM.nd hpA hqB u k
  have hlM := labV_lab M
  have hlM2 : Lab (withE (stepV l) (plV l v.id) (plV l w.id)) l.length (labV M) := by
    rw [hml] at hlM
    exact hlM.iff hst
  have hpw := parts_with (R := stepV l) stepV_symm hp hq (labV_lab l) hlM2
  have hcon : Con (stepV M) (plV l v.id) (plV l w.id) := .one ((hst _ _).2 (.inr (.inl ⟨rfl, rfl⟩)))
  refine ⟨?_, ?_⟩
  · unfold togB
    rw [hplv, hplv]
    exact decide_eq_true ⟨by omega, by omega, (hlM.eq stepV_symm (by omega) (by omega)).1 hcon⟩
  · rw [hml, hpw]
    congr 1
    have e : togB l v.id w.id = true ↔ Con (stepV l) (plV l v.id) (plV l w.id) := by
      unfold togB
      rw [decide_eq_true_eq]
      exact ⟨fun h => ((labV_lab l).eq stepV_symm hp hq).2 h.2.2, fun h => ⟨hp, hq, ((labV_lab l).eq stepV_symm hp hq).1 h⟩⟩
    by_cases hc : togB l v.id w.id = true
    · rw [if_pos hc, if_pos (e.1 hc)]
    · rw [if_neg hc, if_neg (fun k => hc (e.2 k))]
theorem edge_l1 (l m : List Vx) (es f : List Ed) (v w : ID) (hm : m.length ≤ 24) (hr : ∀ u ∈ m, u.ring.length ≤ 200) : E (cs F) 0 f5_l1 (⟨(upd (upd (upd (upd (upd (upd (upd Sx.e0 17 (.v (.int .i64 (0)))) 16 (.p 16 0)) 13 (.p 13 0)) 7 (.v (.bool (true)))) 5 (.p 5 0)) 4 (.p 4 0)) 3 (.p 3 0)), (upd (upd (upd (upd (upd (upd (upd Sx.h0 11025 (some (.arr false 42 4 (rowsBy Ed.c f)))) 11024 (some (.arr false 47 5 (rowsBy Vx.c m)))) 16 (some (.var false [(.s 11024 0 m.length), (.s 11025 0 f.length)]))) 13 (some (.var false [(.v (.int .i64 (8))), (.v (.int .i64 (1048576)))]))) 5 (some (.var false [(.v (.int .i64 (w.s))), (.v (.int .i64 (w.n)))]))) 4 (some (.var false [(.v (.int .i64 (v.s))), (.v (.int .i64 (v.n)))]))) 3 (some (.var false [(.v (.sl .shared 5 (rowsBy Vx.c l))), (.v (.sl .shared 4 (rowsBy Ed.c es)))])))⟩ : St) =
    some (.exit 0, (⟨(upd (upd (upd (upd (upd Sx.e0 16 (.p 16 0)) 7 (.v (.bool (true)))) 5 (.p 5 0)) 4 (.p 4 0)) 3 (.p 3 0)), (upd (upd (upd (upd (upd (upd Sx.h0 11025 (some (.arr false 42 4 (rowsBy Ed.c f)))) 11024 (some (.arr false 47 5 (rowsBy Vx.c (m.map (insB v w)))))) 16 (some (.var false [(.s 11024 0 m.length), (.s 11025 0 f.length)]))) 5 (some (.var false [(.v (.int .i64 (w.s))), (.v (.int .i64 (w.n)))]))) 4 (some (.var false [(.v (.int .i64 (v.s))), (.v (.int .i64 (v.n)))]))) 3 (some (.var false [(.v (.sl .shared 5 (rowsBy Vx.c l))), (.v (.sl .shared 4 (rowsBy Ed.c es)))])))⟩ : St)) := by
  have hw : m.length ≤ 9223372036854775807 := by omega
  have l1 : E (cs F) 0 f5_l1 (⟨(upd (upd (upd (upd (upd (upd (upd Sx.e0 17 (.v (.int .i64 (0)))) 16 (.p 16 0)) 13 (.p 13 0)) 7 (.v (.bool (true)))) 5 (.p 5 0)) 4 (.p 4 0)) 3 (.p 3 0)), (upd (upd (upd (upd (upd (upd (upd Sx.h0 11025 (some (.arr false 42 4 (rowsBy Ed.c f)))) 11024 (some (.arr false 47 5 (rowsBy Vx.c (mixF (insB v w) m 0))))) 16 (some (.var false [(.s 11024 0 m.length), (.s 11025 0 f.length)]))) 13 (some (.var false [(.v (.int .i64 (8))), (.v (.int .i64 (1048576)))]))) 5 (some (.var false [(.v (.int .i64 (w.s))), (.v (.int .i64 (w.n)))]))) 4 (some (.var false [(.v (.int .i64 (v.s))), (.v (.int .i64 (v.n)))]))) 3 (some (.var false [(.v (.sl .shared 5 (rowsBy Vx.c l))), (.v (.sl .shared 4 (rowsBy Ed.c es)))])))⟩ : St) = some (.exit 0, (⟨(upd (upd (upd (upd (upd Sx.e0 16 (.p 16 0)) 7 (.v (.bool (true)))) 5 (.p 5 0)) 4 (.p 4 0)) 3 (.p 3 0)), (upd (upd (upd (upd (upd (upd Sx.h0 11025 (some (.arr false 42 4 (rowsBy Ed.c f)))) 11024 (some (.arr false 47 5 (rowsBy Vx.c (m.map (insB v w)))))) 16 (some (.var false [(.s 11024 0 m.length), (.s 11025 0 f.length)]))) 5 (some (.var false [(.v (.int .i64 (w.s))), (.v (.int .i64 (w.n)))]))) 4 (some (.var false [(.v (.int .i64 (v.s))), (.v (.int .i64 (v.n)))]))) 3 (some (.var false [(.v (.sl .shared 5 (rowsBy Vx.c l))), (.v (.sl .shared 4 (rowsBy Ed.c es)))])))⟩ : St)) := by
    refine loop_to (b := f5_b1) (fun q0 => (⟨(upd (upd (upd (upd (upd (upd (upd Sx.e0 17 (.v (.int .i64 ((q0 : Int))))) 16 (.p 16 0)) 13 (.p 13 0)) 7 (.v (.bool (true)))) 5 (.p 5 0)) 4 (.p 4 0)) 3 (.p 3 0)), (upd (upd (upd (upd (upd (upd (upd Sx.h0 11025 (some (.arr false 42 4 (rowsBy Ed.c f)))) 11024 (some (.arr false 47 5 (rowsBy Vx.c (mixF (insB v w) m q0))))) 16 (some (.var false [(.s 11024 0 m.length), (.s 11025 0 f.length)]))) 13 (some (.var false [(.v (.int .i64 (8))), (.v (.int .i64 (1048576)))]))) 5 (some (.var false [(.v (.int .i64 (w.s))), (.v (.int .i64 (w.n)))]))) 4 (some (.var false [(.v (.int .i64 (v.s))), (.v (.int .i64 (v.n)))]))) 3 (some (.var false [(.v (.sl .shared 5 (rowsBy Vx.c l))), (.v (.sl .shared 4 (rowsBy Ed.c es)))])))⟩ : St)) (m.length) ?_ ?_ (by simp)
    · intro i hi
      have hiz : (i : Int) < (m.length : Int) := by omega
      have hg := mixF_row (g := (insB v w)) hi
      have hs := mixF_rowset (g := (insB v w)) hi
      have hrl := hr _ (List.getElem_mem hi)
      have hml : i < (rowsBy Vx.c (mixF (insB v w) m i)).length := by rw [rowsBy_length, mixF_len]; exact hi
      have ca := i_r03_Insert m[i].ring Dart0 bigA (by omega)
      have hle := insR_le (r := m[i].ring) (z := Dart0) (a := bigA)
      by_cases h1 : m[i].id = v
      · have d1 := dec_t h1
        by_cases h2 : m[i].id = w
        · have d2 := dec_t h2
          have cb := i_r03_Insert (insR m[i].ring Dart0 bigA) Dart0 bigB (by omega)
          rw [show insB v w m[i] = reR m[i] (insR (insR m[i].ring Dart0 bigA) Dart0 bigB) from by
            unfold insB; rw [insV_pos h1, insV_pos (by exact h2)]; rfl] at hs
          simp only [Vx.c, reR] at hs
          simp only [Dart0, ID0, bigI, bigA, bigB] at ca cb hs
          generalize insR (insR m[i].ring _ _) _ _ = r2 at *
          generalize insR m[i].ring _ _ = r1 at *
          generalize mixF (insB v w) m (i + 1) = mm at *
          generalize rowsBy Vx.c (mixF (insB v w) m i) = q at *
          have s1 : ∀ r : List TV, (q.set i r)[i]? = some r := fun r => by rw [List.getElem?_set, if_pos rfl, if_pos hml]
          have s2 : ∀ r r' : List TV, (q.set i r).set i r' = q.set i r' := fun r r' => List.set_set ..
          simp only [f5_b1, hiz, hg, Vx.c, ca, cb, hs, s1, s2, upd_two, d1, d2, wrap_succ hi hw, List.set_cons_zero, List.set_cons_succ, go_sem, reduceIte, Nat.reduceEqDiff, Nat.reduceAdd, Nat.reduceMul, Nat.reduceLeDiff, Nat.reduceBEq, List.length_cons, List.length_nil, not_false_eq_true, Nat.testBit, Nat.reduceShiftRight, Nat.reduceAnd, Nat.reduceBNe]
        · have d2 := dec_f h2
          rw [show insB v w m[i] = reR m[i] (insR m[i].ring Dart0 bigA) from by
            unfold insB; rw [insV_pos h1, insV_neg (by exact h2)]] at hs
          simp only [Vx.c, reR] at hs
          simp only [Dart0, ID0, bigI, bigA] at ca hs
          generalize insR m[i].ring _ _ = r1 at *
          generalize mixF (insB v w) m (i + 1) = mm at *
          generalize rowsBy Vx.c (mixF (insB v w) m i) = q at *
          have s1 : ∀ r : List TV, (q.set i r)[i]? = some r := fun r => by rw [List.getElem?_set, if_pos rfl, if_pos hml]
          have hg2 : mm = mm := rfl
          rw [← hs]
          simp only [f5_b1, hiz, hg, Vx.c, ca, s1, d1, d2, wrap_succ hi hw, List.set_cons_zero, List.set_cons_succ, go_sem, reduceIte, Nat.reduceEqDiff, Nat.reduceAdd, Nat.reduceMul, Nat.reduceLeDiff, Nat.reduceBEq, List.length_cons, List.length_nil, not_false_eq_true, Nat.testBit, Nat.reduceShiftRight, Nat.reduceAnd, Nat.reduceBNe]
      · have d1 := dec_f h1
        by_cases h2 : m[i].id = w
        · have d2 := dec_t h2
          have cb := i_r03_Insert m[i].ring Dart0 bigB (by omega)
          rw [show insB v w m[i] = reR m[i] (insR m[i].ring Dart0 bigB) from by
            unfold insB; rw [insV_neg h1, insV_pos h2]] at hs
          simp only [Vx.c, reR] at hs
          simp only [Dart0, ID0, bigI, bigB] at cb hs
          clear ca hle
          generalize insR m[i].ring _ _ = r1 at *
          simp only [f5_b1, hiz, rowsBy_length, hg, Vx.c, cb, hs, d1, d2, wrap_succ hi hw, List.set_cons_zero, List.set_cons_succ, go_sem, reduceIte, Nat.reduceEqDiff, Nat.reduceAdd, Nat.reduceMul, Nat.reduceLeDiff, Nat.reduceBEq, List.length_cons, List.length_nil, not_false_eq_true, Nat.testBit, Nat.reduceShiftRight, Nat.reduceAnd, Nat.reduceBNe]
        · have d2 := dec_f h2
          rw [mixF_same hi (show insB v w m[i] = m[i] by unfold insB; rw [insV_neg h1, insV_neg h2])]
          simp only [f5_b1, hiz, hg, Vx.c, d1, d2, wrap_succ hi hw, go_sem, reduceIte, Nat.reduceEqDiff, Nat.reduceAdd, Nat.reduceLeDiff, List.length_cons, List.length_nil, Nat.testBit, Nat.reduceShiftRight, Nat.reduceAnd, Nat.reduceBNe]
    · rw [mixF_all]
      simp only [f5_b1, dec_ge (Nat.le_refl m.length), go_sem, reduceIte, Nat.reduceEqDiff, Nat.reduceAdd, Nat.reduceLeDiff, List.length_cons, List.length_nil]
  exact l1
set_option maxHeartbeats 1000000 in
theorem t_edge_main {l : List Vx} {es : List Ed} (h : WF l es) (x y : ID) (v w : Vx) (hv : vxBy l x = some v) (hw : vxBy l y = some w) (hb : edBy es bigI = none) (hlt : es.length < 40) (cf : call F 9 [.agg [.sl .shared 5 (rowsBy Vx.c l), .sl .shared 4 (rowsBy Ed.c es)]] = some (.bool true))
    (c1 : call F 21 [.agg [.sl .shared 5 (rowsBy Vx.c l), .sl .shared 4 (rowsBy Ed.c es)], .agg [.int .i64 x.s, .int .i64 x.n]] = some (vxT .shared (some v)))
    (c2 : call F 21 [.agg [.sl .shared 5 (rowsBy Vx.c l), .sl .shared 4 (rowsBy Ed.c es)], .agg [.int .i64 y.s, .int .i64 y.n]] = some (vxT .shared (some w)))
    (c3 : call F 22 [.agg [.sl .shared 5 (rowsBy Vx.c l), .sl .shared 4 (rowsBy Ed.c es)], .agg [.int .i64 8, .int .i64 1048576]] = some (edT none)) : call F 5 [.agg [.sl .shared 5 (rowsBy Vx.c l), .sl .shared 4 (rowsBy Ed.c es)], .agg [.int .i64 x.s, .int .i64 x.n], .agg [.int .i64 y.s, .int .i64 y.n]] = some (.bool true) := by
  have csh := c_shown
  have hlv := h.lv
  have hn : bigI ∉ es.map Ed.id := edBy_none hb
  obtain ⟨_, _, hvx⟩ := vx_pl hv
  obtain ⟨_, _, hwy⟩ := vx_pl hw
  have hM := more_wf h hn hlt (vxBy_some hv).1 (vxBy_some hw).1 Dart0 Dart0
  rw [hvx, hwy] at hM
  obtain ⟨ht, hp⟩ := more_parts h hn hlt hv hw
  have c4 := i_r04_Clone l es (by omega) (by omega) h.fitsR
  have l1 := edge_l1 l l es (es ++ [bigE]) x y h.lv (fun u hu => by have := h.ring80 hu; omega)
  rw [moreV_insB] at l1
  have c5 := i_Together h x y
  have c6 := i_Together hM x y
  rw [ht] at c6
  have c7 := i_comp_Count h
  have c8 := i_comp_Count hM
  have hMl := moreV_len l x y Dart0 Dart0
  have hlm : (moreV l x y Dart0 Dart0).take l.length = moreV l x y Dart0 Dart0 := List.take_of_length_le (by omega)
  have k1 : decide ((es.length : Int) ≥ 40) = false := dec_f (by omega)
  have k3 : (es.length + 1) * 40 ≤ 140737488355328 := by omega
  have k4 : rowsBy Ed.c es ++ [[.int .i64 8, .int .i64 1048576, .str ⟨#[]⟩, .int .i64 0]] = rowsBy Ed.c (es ++ [bigE]) := rowsBy_snoc Ed.c es bigE
  have k5 : (es ++ [bigE]).length = es.length + 1 := by simp
  have k6 : (es ++ [bigE]).take (es.length + 1) = es ++ [bigE] := List.take_of_length_le (by simp)
  rw [k5] at l1
  have hz1 := partsN_le (labV l) l.length
  generalize partsN (labV (moreV l x y Dart0 Dart0)) (moreV l x y Dart0 Dart0).length = zM at *
  generalize partsN (labV l) l.length = z at *
  generalize moreV l x y Dart0 Dart0 = M at *
  generalize es ++ [bigE] = e1 at *
  simp only [vxT, edT] at c1 c2 c3
  cases hB : togB l x y with
  | true =>
    rw [hB] at c5 hp
    rw [if_pos rfl] at hp
    have w1 : IntKind.i64.wrap ((z : Int) - 0) = (z : Int) := by rw [wrap64 (by omega) (by omega)]; omega
    have d1 : decide ((zM : Int) = (z : Int)) = true := dec_t (by omega)
    rw [call_code F (show F 5 = some (.code f5) from rfl)]
    simp only [f5, csh, cf, c1, c2, c3, c4, c5, c6, c7, c8, l1, k1, k3, k4, k6, hlm, w1, d1, go_sem, reduceIte, reduceCtorEq, Nat.reduceEqDiff, Nat.reduceAdd, Nat.reduceMul, Nat.reduceLeDiff, List.length_cons, List.length_nil, Nat.testBit, Nat.reduceShiftRight, Nat.reduceAnd, Nat.reduceBNe]
  | false =>
    rw [hB] at c5 hp
    rw [if_neg (by simp)] at hp
    have w1 : IntKind.i64.wrap ((z : Int) - 1) = (z : Int) - 1 := wrap64 (by omega) (by omega)
    have d1 : decide ((zM : Int) = (z : Int) - 1) = true := dec_t (by omega)
    rw [call_code F (show F 5 = some (.code f5) from rfl)]
    simp only [f5, csh, cf, c1, c2, c3, c4, c5, c6, c7, c8, l1, k1, k3, k4, k6, hlm, w1, d1, go_sem, reduceIte, reduceCtorEq, Nat.reduceEqDiff, Nat.reduceAdd, Nat.reduceMul, Nat.reduceLeDiff, List.length_cons, List.length_nil, Nat.testBit, Nat.reduceShiftRight, Nat.reduceAnd, Nat.reduceBNe]
set_option maxHeartbeats 4000000 in
theorem t_edge (l : List Vx) (es : List Ed) (x y : ID) (hr : FitsR l) (hL : FitsL l es) (hl : Fits l) (he : Fits es) : call F 5 [.agg [.sl .shared 5 (rowsBy Vx.c l), .sl .shared 4 (rowsBy Ed.c es)], .agg [.int .i64 x.s, .int .i64 x.n], .agg [.int .i64 y.s, .int .i64 y.n]] = some (.bool true) := by
  have csh := c_shown
  have cf := c_formed l es hr hL
  have c1 := i_r04_Vertex l x hl (.sl .shared 4 (rowsBy Ed.c es))
  have c2 := i_r04_Vertex l y hl (.sl .shared 4 (rowsBy Ed.c es))
  have c3 := i_r04_Edge es bigI he l
  by_cases hf : formC l es = 0
  · have h := (formC_ok.1 hf).1
    rw [dec_t hf] at cf
    by_cases hg : 40 ≤ es.length
    · have k := dec_t (show (es.length : Int) ≥ 40 by omega)
      cases hv : vxBy l x <;> cases hw : vxBy l y <;> cases hb : edBy es bigI <;> rw [hv] at c1 <;> rw [hw] at c2 <;> rw [hb] at c3 <;> simp only [vxT, edT, bigI] at c1 c2 c3
      all_goals rw [call_code F (show F 5 = some (.code f5) from rfl)]
      all_goals simp only [f5, csh, cf, c1, c2, c3, k, go_sem, reduceIte, reduceCtorEq, Nat.reduceEqDiff, Nat.reduceAdd, Nat.reduceMul, Nat.reduceLeDiff, List.length_cons, List.length_nil]
    · have k := dec_f (show ¬ (es.length : Int) ≥ 40 by omega)
      cases hv : vxBy l x <;> cases hw : vxBy l y <;> cases hb : edBy es bigI <;> rw [hv] at c1 <;> rw [hw] at c2 <;> rw [hb] at c3
      case some.some.none v w => exact t_edge_main h x y v w hv hw hb (by omega) cf c1 c2 c3
      all_goals simp only [vxT, edT, bigI] at c1 c2 c3
      all_goals rw [call_code F (show F 5 = some (.code f5) from rfl)]
      all_goals simp only [f5, csh, cf, c1, c2, c3, go_sem, reduceIte, reduceCtorEq, Nat.reduceEqDiff, Nat.reduceAdd, Nat.reduceMul, Nat.reduceLeDiff, List.length_cons, List.length_nil]
  · rw [dec_f hf] at cf
    cases hv : vxBy l x <;> cases hw : vxBy l y <;> cases hb : edBy es bigI <;> rw [hv] at c1 <;> rw [hw] at c2 <;> rw [hb] at c3 <;> simp only [vxT, edT, bigI] at c1 c2 c3
    all_goals rw [call_code F (show F 5 = some (.code f5) from rfl)]
    all_goals simp only [f5, csh, cf, c1, c2, c3, go_sem, reduceIte, reduceCtorEq, Nat.reduceEqDiff, Nat.reduceAdd, Nat.reduceMul, Nat.reduceLeDiff, List.length_cons, List.length_nil]
end Go.Proofs.Ytfhijlhiifkkhaa.Sx
namespace Go.Proofs.Ytfhijlhiifkkhaa.Sx
open Go Go.RowKit Go.ChangeShapes Go.WideShapes Go.ChangeAt
theorem agg_of {t : TypeId} {n : Nat} {a : TV} (hagg : isAggB Try.prog t = true) (h : ArgShape Try.prog n t a) : ∃ ts, a = .agg ts ∧ Shape Try.prog n t ts := by
  unfold ArgShape at h; rw [if_pos hagg] at h; exact h
theorem plain_of {t : TypeId} {n : Nat} {a : TV} (hagg : isAggB Try.prog t = false) (h : ArgShape Try.prog n t a) : Shape Try.prog n t [a] := by
  unfold ArgShape at h; rw [if_neg (by rw [hagg]; simp)] at h; exact h
theorem own : ownKnob Try.prog.godebug = none := by kernel_rfl
theorem laidOut : laidOutB Try.prog = true := by kernel_rfl
/-- rows that are each of a form are a list's -/
theorem rows_list {α : Type} {c : α → List TV} {S : List TV → Prop} {Q : α → Prop} (h : ∀ ts, S ts → ∃ x, ts = c x ∧ Q x) : ∀ {rows : List (List TV)}, (∀ r ∈ rows, S r) → ∃ l : List α, rows = rowsBy c l ∧ ∀ x ∈ l, Q x
  | [], _ => ⟨[], rfl, by simp⟩
  | r :: rows, hr => by
    obtain ⟨x, rfl, hx⟩ := h r (hr r (by simp))
    obtain ⟨l, rfl, hl⟩ := rows_list h (rows := rows) fun q hq => hr q (by simp [hq])
    refine ⟨x :: l, rfl, fun y hy => ?_⟩
    rcases List.mem_cons.1 hy with rfl | hy
    · exact hx
    · exact hl y hy
theorem shInt {n : Nat} {ts : List TV} (h : Shape Try.prog (n + 1) 3 ts) : ∃ a, ts = [.int .i64 a] ∧ IntKind.i64.has a := by
  unfold Shape at h; rw [Try.underlying3] at h; exact h
theorem shBool {n : Nat} {ts : List TV} (h : Shape Try.prog (n + 1) 4 ts) : ∃ b, ts = [.bool b] := by
  unfold Shape at h; rw [Try.underlying4] at h; exact h
theorem shStr {n : Nat} {ts : List TV} (h : Shape Try.prog (n + 1) 9 ts) : ∃ a : ByteArray, ts = [.str a] ∧ a.size ≤ 140737488351232 := by
  unfold Shape at h; rw [Try.underlying9] at h
  obtain ⟨a, rfl, _, ha⟩ := h; exact ⟨a, rfl, ha⟩
theorem shID {n : Nat} {ts : List TV} (h : Shape Try.prog (n + 2) 27 ts) : ∃ x : ID, ts = ID.c x := by
  unfold Shape at h; rw [Try.underlying27] at h
  obtain ⟨x, r, rfl, h1, y, r', rfl, h2, rfl⟩ := h
  obtain ⟨a, rfl, ha⟩ := shInt h1
  obtain ⟨b, rfl, hb⟩ := shInt h2
  exact ⟨⟨a, b⟩, rfl⟩
theorem shDart {n : Nat} {ts : List TV} (h : Shape Try.prog (n + 3) 44 ts) : ∃ x : Dart, ts = Dart.c x := by
  unfold Shape at h; rw [Try.underlying44] at h
  obtain ⟨x, r, rfl, h1, y, r', rfl, h2, rfl⟩ := h
  obtain ⟨e, rfl⟩ := shID h1
  obtain ⟨c, rfl, _⟩ := shInt h2
  exact ⟨⟨e, c⟩, rfl⟩
theorem shDarts {n : Nat} {ts : List TV} (h : Shape Try.prog (n + 4) 45 ts) : ∃ l : List Dart, ts = [.sl .shared 3 (rowsBy Dart.c l)] ∧ Fits l := by
  unfold Shape at h; rw [Try.underlying45] at h
  obtain ⟨rows, rfl, ⟨_, hb⟩, hr⟩ := h
  obtain ⟨l, rfl, _⟩ := rows_list (c := Dart.c) (Q := fun _ => True) (fun ts h => (shDart h).imp fun _ h => ⟨h, trivial⟩) hr
  refine ⟨l, rfl, Fits.of ?_⟩
  rw [rowsBy_length, show Try.prog.bytesOf 44 = 24 by kernel_rfl] at hb
  simp only [reachBytes] at hb
  omega
def VxOk (v : Vx) : Prop := Fits v.ring ∧ v.label.size ≤ 9223372036854775807
def EdOk (v : Ed) : Prop := v.label.size ≤ 9223372036854775807
theorem shVx {n : Nat} {ts : List TV} (h : Shape Try.prog (n + 5) 47 ts) : ∃ x : Vx, ts = Vx.c x ∧ VxOk x := by
  unfold Shape at h; rw [Try.underlying47] at h
  obtain ⟨x, r, rfl, h1, y, r', rfl, h2, z, r'', rfl, h3, u, r3, rfl, h4, rfl⟩ := h
  obtain ⟨e, rfl⟩ := shID h1
  obtain ⟨l, rfl, hl⟩ := shDarts h2
  obtain ⟨s, rfl, hs⟩ := shStr h3
  obtain ⟨c, rfl, _⟩ := shInt h4
  exact ⟨⟨e, l, s, c⟩, rfl, hl, Nat.le_trans hs (by decide)⟩
theorem shEd {n : Nat} {ts : List TV} (h : Shape Try.prog (n + 3) 42 ts) : ∃ x : Ed, ts = Ed.c x ∧ EdOk x := by
  unfold Shape at h; rw [Try.underlying42] at h
  obtain ⟨x, r, rfl, h1, z, r'', rfl, h3, u, r3, rfl, h4, rfl⟩ := h
  obtain ⟨e, rfl⟩ := shID h1
  obtain ⟨s, rfl, hs⟩ := shStr h3
  obtain ⟨c, rfl, _⟩ := shInt h4
  exact ⟨⟨e, s, c⟩, rfl, Nat.le_trans hs (by decide)⟩
theorem shVxs {n : Nat} {ts : List TV} (h : Shape Try.prog (n + 6) 22 ts) : ∃ l : List Vx, ts = [.sl .shared 5 (rowsBy Vx.c l)] ∧ ∀ v ∈ l, VxOk v := by
  unfold Shape at h; rw [Try.underlying22] at h
  obtain ⟨rows, rfl, _, hr⟩ := h
  obtain ⟨l, rfl, hl⟩ := rows_list (c := Vx.c) (fun ts h => shVx h) hr
  exact ⟨l, rfl, hl⟩
theorem shEds {n : Nat} {ts : List TV} (h : Shape Try.prog (n + 4) 23 ts) : ∃ l : List Ed, ts = [.sl .shared 4 (rowsBy Ed.c l)] ∧ ∀ v ∈ l, EdOk v := by
  unfold Shape at h; rw [Try.underlying23] at h
  obtain ⟨rows, rfl, _, hr⟩ := h
  obtain ⟨l, rfl, hl⟩ := rows_list (c := Ed.c) (fun ts h => shEd h) hr
  exact ⟨l, rfl, hl⟩
theorem shVxsF {n : Nat} {ts : List TV} (h : Shape Try.prog (n + 6) 22 ts) : ∃ l : List Vx, ts = [.sl .shared 5 (rowsBy Vx.c l)] ∧ (∀ v ∈ l, VxOk v) ∧ Fits l := by
  unfold Shape at h; rw [Try.underlying22] at h
  obtain ⟨rows, rfl, ⟨_, hb⟩, hr⟩ := h
  obtain ⟨l, rfl, hl⟩ := rows_list (c := Vx.c) (fun ts h => shVx h) hr
  refine ⟨l, rfl, hl, Fits.of ?_⟩
  rw [rowsBy_length, show Try.prog.bytesOf 47 = 64 by kernel_rfl] at hb
  simp only [reachBytes] at hb
  omega
theorem shEdsF {n : Nat} {ts : List TV} (h : Shape Try.prog (n + 4) 23 ts) : ∃ l : List Ed, ts = [.sl .shared 4 (rowsBy Ed.c l)] ∧ (∀ v ∈ l, EdOk v) ∧ Fits l := by
  unfold Shape at h; rw [Try.underlying23] at h
  obtain ⟨rows, rfl, ⟨_, hb⟩, hr⟩ := h
  obtain ⟨l, rfl, hl⟩ := rows_list (c := Ed.c) (fun ts h => shEd h) hr
  refine ⟨l, rfl, hl, Fits.of ?_⟩
  rw [rowsBy_length, show Try.prog.bytesOf 42 = 40 by kernel_rfl] at hb
  simp only [reachBytes] at hb
  omega
theorem shDiagramF {n : Nat} {ts : List TV} (h : Shape Try.prog (n + 7) 25 ts) : ∃ (vs : List Vx) (es : List Ed), ts = [.sl .shared 5 (rowsBy Vx.c vs), .sl .shared 4 (rowsBy Ed.c es)] ∧ FitsR vs ∧ FitsL vs es ∧ Fits vs ∧ Fits es := by
  unfold Shape at h; rw [Try.underlying25] at h
  obtain ⟨x, r, rfl, h1, z, r'', rfl, h3, rfl⟩ := h
  obtain ⟨d, rfl, hd, hf⟩ := shVxsF h1
  obtain ⟨e, rfl, he, hg⟩ := shEdsF h3
  exact ⟨d, e, rfl, fun v hv => (hd v hv).1, ⟨fun v hv => (hd v hv).2, he⟩, hf, hg⟩
theorem shDiagram {n : Nat} {ts : List TV} (h : Shape Try.prog (n + 7) 25 ts) : ∃ (vs : List Vx) (es : List Ed), ts = [.sl .shared 5 (rowsBy Vx.c vs), .sl .shared 4 (rowsBy Ed.c es)] ∧ FitsR vs ∧ FitsL vs es := by
  unfold Shape at h; rw [Try.underlying25] at h
  obtain ⟨x, r, rfl, h1, z, r'', rfl, h3, rfl⟩ := h
  obtain ⟨d, rfl, hd⟩ := shVxs h1
  obtain ⟨e, rfl, he⟩ := shEds h3
  exact ⟨d, e, rfl, fun v hv => (hd v hv).1, fun v hv => (hd v hv).2, he⟩
end Go.Proofs.Ytfhijlhiifkkhaa.Sx
