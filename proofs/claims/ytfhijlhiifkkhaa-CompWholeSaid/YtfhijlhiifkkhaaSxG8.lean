/- Chapter 6: its functions, the program's and the reference's, as what they come to in a diagram that is well formed. Diagrams compared, copied; their names. Chapter 6: the head of the statements; labels and parts as the reference has them; labels as places. CompWhole: parts are all vertices, each once; the ends of each edge hang together. The forms of this seat's arguments. -/
import Derived.Test.YtfhijlhiifkkhaaRows
import Derived.Test.YtfhijlhiifkkhaaSxG4
import Derived.Test.YtfhijlhiifkkhaaSxG6
import Derived.Test.YtfhijlhiifkkhaaSxG7
set_option maxRecDepth 100000
set_option linter.unusedSimpArgs false
set_option linter.unusedVariables false
namespace Go.Proofs.Ytfhijlhiifkkhaa.Sx
open Go
theorem c_Ints (l m : List Nat) (hl : l.length ≤ 9223372036854775807) : call F 10 [.sl .shared 1 (rowsBy cNat l), .sl .shared 1 (rowsBy cNat m)] = some (.bool (decide (l = m))) := by
  by_cases hlen : l.length = m.length
  · have he : (decide (¬ (l.length : Int) = (m.length : Int))) = false := dec_f (by omega)
    have l1 : E (cs F) 0 f10_l1 (⟨(upd (upd (upd Sx.e0 5 (.v (.int .i64 (0)))) 1 (.v (.sl .shared 1 (rowsBy cNat m)))) 0 (.v (.sl .shared 1 (rowsBy cNat l)))), Sx.h0⟩ : St) = some (if (List.range (l.length)).any (pairB (fun x y => decide (x = y)) l m) then (.ret, (⟨(upd Sx.e0 4 (.v (.bool false))), Sx.h0⟩ : St)) else (.exit 0, (⟨Sx.e0, Sx.h0⟩ : St))) := by
      refine loop_any (b := f10_b1) (fun q0 => (⟨(upd (upd (upd Sx.e0 5 (.v (.int .i64 ((q0 : Int))))) 1 (.v (.sl .shared 1 (rowsBy cNat m)))) 0 (.v (.sl .shared 1 (rowsBy cNat l)))), Sx.h0⟩ : St)) (pairB (fun x y => decide (x = y)) l m) (l.length) ?_ ?_ (by simp) ?_ (by simp)
      · intro i h1 hp
        have h2 : i < m.length := by omega
        rw [pairB_at h1 h2] at hp
        have hd : decide (¬ ((l[i] : Nat) : Int) = ((m[i] : Nat) : Int)) = false := by
          have : l[i] = m[i] := by simpa using hp
          exact dec_f (by omega)
        simp only [f10_b1, dec_lt h1, rowsBy_get cNat h1, rowsBy_get cNat h2, cNat, hd, wrap_succ h1 hl, go_sem, reduceIte, reduceCtorEq, Nat.reduceEqDiff, Nat.reduceAdd, List.length_cons, List.length_nil, ne_eq]
      · intro i h1 hp
        have h2 : i < m.length := by omega
        rw [pairB_at h1 h2] at hp
        have hd : decide (¬ ((l[i] : Nat) : Int) = ((m[i] : Nat) : Int)) = true := by
          have : ¬ l[i] = m[i] := by simpa using hp
          exact dec_t (by omega)
        simp only [f10_b1, dec_lt h1, rowsBy_get cNat h1, rowsBy_get cNat h2, cNat, hd, go_sem, reduceIte, reduceCtorEq, Nat.reduceEqDiff, Nat.reduceAdd, List.length_cons, List.length_nil, ne_eq]
      · simp only [f10_b1, dec_ge (Nat.le_refl l.length), go_sem, reduceIte, reduceCtorEq, Nat.reduceEqDiff]
    rw [pairB_eq (fun _ _ => rfl) hlen] at l1
    generalize decide (l = m) = b at *
    rw [call_code F (show F 10 = some (.code f10) from rfl)]
    cases b
    · simp only [f10, he, l1, Bool.not_false, go_sem, reduceIte, reduceCtorEq, Nat.reduceEqDiff, Nat.reduceAdd, ne_eq]
    · simp only [f10, he, l1, Bool.not_true, go_sem, reduceIte, reduceCtorEq, Nat.reduceEqDiff, Nat.reduceAdd, ne_eq]
  · have hlm : l ≠ m := fun e => hlen (by rw [e])
    have he : (decide (¬ (l.length : Int) = (m.length : Int))) = true := dec_t (by omega)
    rw [dec_f hlm]
    rw [call_code F (show F 10 = some (.code f10) from rfl)]
    simp only [f10, he, go_sem, reduceIte, reduceCtorEq, Nat.reduceEqDiff, Nat.reduceAdd, ne_eq]
def plZ (l : List Vx) (x : ID) : Int := if plV l x = l.length then -1 else (plV l x : Int)
theorem plZ_lt {l : List Vx} {x : ID} (h : plV l x < l.length) : plZ l x = (plV l x : Int) := if_neg (by omega)
theorem i_r06_place (l : List Vx) (x : ID) (hl : Fits l) (es : TV) : call F 30 [.agg [.sl .shared 5 (rowsBy Vx.c l), es], .agg [.int .i64 x.s, .int .i64 x.n]] = some (.int .i64 (plZ l x)) := by
  have hle : (l).length ≤ 5864062014634 := hl.le
  have hw : (l).length ≤ 9223372036854775807 := Nat.le_trans hle (by decide)
  have S : ∀ n, n ≤ (l).length → (∀ i, i < n → ∀ hi : i < (l).length, (fun v : Vx => decide (v.id = x)) (l)[i] = false) → ∀ r, E (cs F) 0 f30_b1 (⟨(upd (upd (upd Sx.e0 5 (.v (.int .i64 ((n : Int))))) 3 (.p 3 0)) 2 (.p 2 0)), (upd (upd Sx.h0 3 (some (.var false [(.v (.int .i64 (x.s))), (.v (.int .i64 (x.n)))]))) 2 (some (.var false [(.v (.sl .shared 5 (rowsBy Vx.c l))), (.v es)])))⟩ : St) = some r → r.1 ≠ .norm →
      E (cs F) 0 f30_l1 (⟨(upd (upd (upd Sx.e0 5 (.v (.int .i64 (0)))) 3 (.p 3 0)) 2 (.p 2 0)), (upd (upd Sx.h0 3 (some (.var false [(.v (.int .i64 (x.s))), (.v (.int .i64 (x.n)))]))) 2 (some (.var false [(.v (.sl .shared 5 (rowsBy Vx.c l))), (.v es)])))⟩ : St) = some r := by
    intro n hn hno r hf hrr
    refine loop_to (b := f30_b1) (fun i => (⟨(upd (upd (upd Sx.e0 5 (.v (.int .i64 ((i : Int))))) 3 (.p 3 0)) 2 (.p 2 0)), (upd (upd Sx.h0 3 (some (.var false [(.v (.int .i64 (x.s))), (.v (.int .i64 (x.n)))]))) 2 (some (.var false [(.v (.sl .shared 5 (rowsBy Vx.c l))), (.v es)])))⟩ : St)) n ?_ hf hrr
    intro i hi
    have h1 : i < (l).length := Nat.lt_of_lt_of_le hi hn
    have h1z : (i : Int) < ((l).length : Int) := Int.ofNat_lt.2 h1
    have hne := hno i hi h1
    have hne' : ¬ l[i].id = x := of_decide_eq_false hne
    have hq1 := dec_f hne'
    have hq2 := dec_f (Ne.symm hne')
    simp only [f30_b1, h1z, rowsBy_get Vx.c h1, Vx.c, hq1, wrap_succ h1 hw, go_sem, reduceIte, Nat.reduceEqDiff, Nat.reduceAdd, Nat.reduceLeDiff, List.length_cons, List.length_nil, Nat.testBit, Nat.reduceShiftRight, Nat.reduceAnd, Nat.reduceBNe]
  have S := S ((l).findIdx (fun v : Vx => decide (v.id = x))) List.findIdx_le_length (fun i h1 h2 => findIdx_not h1 h2)
  rcases findIdx_cases (fun v : Vx => decide (v.id = x)) (l) with h0 | ⟨hlt, hp⟩
  · rw [h0] at S
    have := S _ (by simp only [f30_b1, dec_ge (Nat.le_refl (l).length), go_sem, reduceIte, Nat.reduceEqDiff, Nat.reduceAdd, Nat.reduceLeDiff, List.length_cons, List.length_nil]
                    rfl) (by simp)
    rw [plZ, plV, if_pos h0]
    rw [call_code F (show F 30 = some (.code f30) from rfl)]
    simp only [f30, this, go_sem, reduceIte, reduceCtorEq, Nat.reduceEqDiff, Nat.reduceAdd, List.length_cons, List.length_nil, Int.reduceNeg]
  · rw [plZ, if_neg (show ¬ plV l x = l.length from Nat.ne_of_lt hlt), plV]
    generalize (l).findIdx (fun v : Vx => decide (v.id = x)) = n at *
    have hltz : (n : Int) < ((l).length : Int) := Int.ofNat_lt.2 hlt
    have hp' : l[n].id = x := of_decide_eq_true hp
    have hq1 := dec_t hp'
    have hq2 := dec_t hp'.symm
    have := S _ (by simp only [f30_b1, hltz, rowsBy_get Vx.c hlt, Vx.c, hq1, go_sem, reduceIte, Nat.reduceEqDiff, Nat.reduceAdd, Nat.reduceLeDiff, List.length_cons, List.length_nil, Nat.testBit, Nat.reduceShiftRight, Nat.reduceAnd, Nat.reduceBNe]
                    rfl) (by simp)
    rw [call_code F (show F 30 = some (.code f30) from rfl)]
    simp only [f30, this, go_sem, reduceIte, reduceCtorEq, Nat.reduceEqDiff, Nat.reduceAdd, List.length_cons, List.length_nil, Int.reduceNeg]
theorem edgP_take {l : List Vx} {es : List Ed} {j : Nat} (hj : j < es.length) (f : List Nat) : spr (edgP l (es.take (j + 1))) f = spr1 (spr (edgP l (es.take j)) f) (dpl l ⟨es[j].id, 0⟩, dpl l ⟨es[j].id, 1⟩) := by
  unfold edgP
  rw [List.take_succ_eq_append_getElem hj, List.map_append, spr_append]; rfl
theorem r06_round {l : List Vx} {es : List Ed} (h : WF l es) (k : Nat) (f : List Nat) (hf : f.length = l.length) : E (cs F) 0 f12_l3 (⟨(upd (upd (upd (upd Sx.e0 6 (.v (.int .i64 (0)))) 5 (.v (.int .i64 ((k : Int))))) 3 (.s 3 0 l.length)) 1 (.p 1 0)), (upd (upd Sx.h0 3 (some (.arr false 3 1 (rowsBy cNat f)))) 1 (some (.var false [(.v (.sl .shared 5 (rowsBy Vx.c l))), (.v (.sl .shared 4 (rowsBy Ed.c es)))])))⟩ : St) =
    some (.exit 4, (⟨(upd (upd (upd Sx.e0 5 (.v (.int .i64 ((k : Int))))) 3 (.s 3 0 l.length)) 1 (.p 1 0)), (upd (upd Sx.h0 3 (some (.arr false 3 1 (rowsBy cNat (spr (edgP l es) f))))) 1 (some (.var false [(.v (.sl .shared 5 (rowsBy Vx.c l))), (.v (.sl .shared 4 (rowsBy Ed.c es)))])))⟩ : St)) := by
  have hle := h.le
  have hlv := h.lv
  have l1 : E (cs F) 0 f12_l3 (⟨(upd (upd (upd (upd Sx.e0 6 (.v (.int .i64 (0)))) 5 (.v (.int .i64 ((k : Int))))) 3 (.s 3 0 l.length)) 1 (.p 1 0)), (upd (upd Sx.h0 3 (some (.arr false 3 1 (rowsBy cNat (spr (edgP l (es.take 0)) f))))) 1 (some (.var false [(.v (.sl .shared 5 (rowsBy Vx.c l))), (.v (.sl .shared 4 (rowsBy Ed.c es)))])))⟩ : St) = some (.exit 4, (⟨(upd (upd (upd Sx.e0 5 (.v (.int .i64 ((k : Int))))) 3 (.s 3 0 l.length)) 1 (.p 1 0)), (upd (upd Sx.h0 3 (some (.arr false 3 1 (rowsBy cNat (spr (edgP l es) f))))) 1 (some (.var false [(.v (.sl .shared 5 (rowsBy Vx.c l))), (.v (.sl .shared 4 (rowsBy Ed.c es)))])))⟩ : St)) := by
    refine loop_to (b := f12_b3) (fun q0 => (⟨(upd (upd (upd (upd Sx.e0 6 (.v (.int .i64 ((q0 : Int))))) 5 (.v (.int .i64 ((k : Int))))) 3 (.s 3 0 l.length)) 1 (.p 1 0)), (upd (upd Sx.h0 3 (some (.arr false 3 1 (rowsBy cNat (spr (edgP l (es.take q0)) f))))) 1 (some (.var false [(.v (.sl .shared 5 (rowsBy Vx.c l))), (.v (.sl .shared 4 (rowsBy Ed.c es)))])))⟩ : St)) (es.length) ?_ ?_ (by simp)
    · intro j hj
      have hjz : (j : Int) < (es.length : Int) := by omega
      obtain ⟨m0, m1⟩ := h.edge_in (List.getElem_mem hj)
      obtain ⟨a1, a2⟩ := h.plV_dpl m0
      obtain ⟨b1, b2⟩ := h.plV_dpl m1
      have p0 := (dpl_at m0).1
      have p1 := (dpl_at m1).1
      have c0 := i_r04_At l ⟨es[j].id, 0⟩ h.fits h.fitsR (.sl .shared 4 (rowsBy Ed.c es))
      have c1 := i_r04_At l ⟨es[j].id, 1⟩ h.fits h.fitsR (.sl .shared 4 (rowsBy Ed.c es))
      have d0 := i_r06_place l (idAt l (dpl l ⟨es[j].id, 0⟩)) h.fits (.sl .shared 4 (rowsBy Ed.c es))
      have d1 := i_r06_place l (idAt l (dpl l ⟨es[j].id, 1⟩)) h.fits (.sl .shared 4 (rowsBy Ed.c es))
      rw [a1] at c0
      rw [b1] at c1
      rw [plZ_lt (by rw [a2]; exact p0), a2] at d0
      rw [plZ_lt (by rw [b2]; exact p1), b2] at d1
      rw [show atT (some (l.getD (dpl l ⟨es[j].id, 0⟩) Vx0)) = .tup [.agg [.int .i64 (idAt l (dpl l ⟨es[j].id, 0⟩)).s, .int .i64 (idAt l (dpl l ⟨es[j].id, 0⟩)).n], .bool true] from rfl] at c0
      rw [show atT (some (l.getD (dpl l ⟨es[j].id, 1⟩) Vx0)) = .tup [.agg [.int .i64 (idAt l (dpl l ⟨es[j].id, 1⟩)).s, .int .i64 (idAt l (dpl l ⟨es[j].id, 1⟩)).n], .bool true] from rfl] at c1
      rw [edgP_take hj]
      have hgl : (spr (edgP l (es.take j)) f).length = l.length := by rw [spr_len, hf]
      generalize spr (edgP l (es.take j)) f = g at *
      generalize idAt l (dpl l ⟨es[j].id, 0⟩) = x0 at *
      generalize idAt l (dpl l ⟨es[j].id, 1⟩) = x1 at *
      generalize dpl l ⟨es[j].id, 0⟩ = a at *
      generalize dpl l ⟨es[j].id, 1⟩ = b at *
      have r0 := row_nat (f := g) (i := a) (by omega)
      have r1 := row_nat (f := g) (i := b) (by omega)
      have z0 : (a : Int) < (l.length : Int) := by omega
      have z1 : (b : Int) < (l.length : Int) := by omega
      have y0 : decide ((a : Int) ≥ 0) = true := dec_t (by omega)
      have y1 : decide ((b : Int) ≥ 0) = true := dec_t (by omega)
      have mn : (if (fat g b : Int) < (fat g a : Int) then (fat g b : Int) else (fat g a : Int)) = ((min (fat g a) (fat g b) : Nat) : Int) := by split <;> omega
      unfold spr1
      have s1 : (rowsBy cNat g).set a [.int .i64 ((min (fat g a) (fat g b) : Nat) : Int)] = rowsBy cNat (g.set a (min (fat g a) (fat g b))) := rowsBy_set cNat g _ _
      have r2 := row_nat (f := g.set a (min (fat g a) (fat g b))) (i := b) (by rw [List.length_set]; omega)
      have s2 : (rowsBy cNat (g.set a (min (fat g a) (fat g b)))).set b [.int .i64 ((min (fat g a) (fat g b) : Nat) : Int)] = rowsBy cNat ((g.set a (min (fat g a) (fat g b))).set b (min (fat g a) (fat g b))) := rowsBy_set cNat _ _ _
      generalize min (fat g a) (fat g b) = w at *
      simp only [f12_b3, hjz, rowsBy_get Ed.c hj, Ed.c, c0, c1, d0, d1, r0, r1, z0, z1, mn, s1, r2, s2, upd_two, wrap_succ hj (show es.length ≤ 9223372036854775807 by omega), go_sem, reduceIte, Nat.reduceEqDiff, Nat.reduceAdd, Nat.reduceMul, Nat.reduceLeDiff, Nat.reduceBEq, List.length_cons, List.length_nil, not_false_eq_true, Nat.testBit, Nat.reduceShiftRight, Nat.reduceAnd, Nat.reduceBNe]
    · rw [List.take_length]
      simp only [f12_b3, dec_ge (Nat.le_refl es.length), go_sem, reduceIte, Nat.reduceEqDiff, Nat.reduceAdd, List.length_cons, List.length_nil]
  · exact l1
theorem i_r06_Labels {l : List Vx} {es : List Ed} (h : WF l es) : call F 12 [.agg [.sl .shared 5 (rowsBy Vx.c l), .sl .shared 4 (rowsBy Ed.c es)]] = some (labT l) := by
  have hle := h.le
  have hlv := h.lv
  have l1 : E (cs F) 0 f12_l1 (⟨(upd (upd (upd Sx.e0 4 (.v (.int .i64 (0)))) 3 (.s 3 0 0)) 1 (.p 1 0)), (upd (upd Sx.h0 3 (some (.arr false 3 1 (rowsBy cNat (List.range 0))))) 1 (some (.var false [(.v (.sl .shared 5 (rowsBy Vx.c l))), (.v (.sl .shared 4 (rowsBy Ed.c es)))])))⟩ : St) = some (.exit 0, (⟨(upd (upd Sx.e0 3 (.s 3 0 l.length)) 1 (.p 1 0)), (upd (upd Sx.h0 3 (some (.arr false 3 1 (rowsBy cNat (List.range l.length))))) 1 (some (.var false [(.v (.sl .shared 5 (rowsBy Vx.c l))), (.v (.sl .shared 4 (rowsBy Ed.c es)))])))⟩ : St)) := by
    refine loop_to (b := f12_b1) (fun q0 => (⟨(upd (upd (upd Sx.e0 4 (.v (.int .i64 ((q0 : Int))))) 3 (.s 3 0 q0)) 1 (.p 1 0)), (upd (upd Sx.h0 3 (some (.arr false 3 1 (rowsBy cNat (List.range q0))))) 1 (some (.var false [(.v (.sl .shared 5 (rowsBy Vx.c l))), (.v (.sl .shared 4 (rowsBy Ed.c es)))])))⟩ : St)) (l.length) ?_ ?_ (by simp)
    · intro i hi
      have hiz : (i : Int) < (l.length : Int) := by omega
      rw [range_nat]
      have hlr : (rowsBy cNat (List.range i)).length = i := by rw [rowsBy_map, List.length_map, List.length_range]
      generalize rowsBy cNat (List.range i) = q at *
      have e1 : q.take i = q := by rw [← hlr, List.take_length]
      have h8 : (i + 1) * 8 ≤ 140737488355328 := by omega
      simp only [f12_b1, hiz, h8, e1, wrap_succ hi (show l.length ≤ 9223372036854775807 by omega), go_sem, reduceIte, Nat.reduceEqDiff, Nat.reduceAdd, Nat.reduceLeDiff, List.length_cons, List.length_nil]
    · simp only [f12_b1, dec_ge (Nat.le_refl l.length), go_sem, reduceIte, Nat.reduceEqDiff, Nat.reduceAdd, Nat.reduceLeDiff, List.length_cons, List.length_nil]
  have l2 : E (cs F) 0 f12_l2 (⟨(upd (upd (upd Sx.e0 5 (.v (.int .i64 (0)))) 3 (.s 3 0 l.length)) 1 (.p 1 0)), (upd (upd Sx.h0 3 (some (.arr false 3 1 (rowsBy cNat (sprK (edgP l es) (List.range l.length) 0))))) 1 (some (.var false [(.v (.sl .shared 5 (rowsBy Vx.c l))), (.v (.sl .shared 4 (rowsBy Ed.c es)))])))⟩ : St) = some (.exit 2, (⟨(upd Sx.e0 3 (.s 3 0 l.length)), (upd Sx.h0 3 (some (.arr false 3 1 (rowsBy cNat (sprK (edgP l es) (List.range l.length) l.length)))))⟩ : St)) := by
    refine loop_to (b := f12_b2) (fun q0 => (⟨(upd (upd (upd Sx.e0 5 (.v (.int .i64 ((q0 : Int))))) 3 (.s 3 0 l.length)) 1 (.p 1 0)), (upd (upd Sx.h0 3 (some (.arr false 3 1 (rowsBy cNat (sprK (edgP l es) (List.range l.length) q0))))) 1 (some (.var false [(.v (.sl .shared 5 (rowsBy Vx.c l))), (.v (.sl .shared 4 (rowsBy Ed.c es)))])))⟩ : St)) (l.length) ?_ ?_ (by simp)
    · intro i hi
      have hiz : (i : Int) < (l.length : Int) := by omega
      have k1 := r06_round h i (sprK (edgP l es) (List.range l.length) i) (by
        clear l1 hi hiz
        induction i with
        | zero => exact List.length_range
        | succ i ih => show (spr _ _).length = _; rw [spr_len]; exact ih)
      show _ = some (Ex.norm, (⟨(upd (upd (upd Sx.e0 5 (.v (.int .i64 (((i + 1 : Nat) : Int))))) 3 (.s 3 0 l.length)) 1 (.p 1 0)), (upd (upd Sx.h0 3 (some (.arr false 3 1 (rowsBy cNat (spr (edgP l es) (sprK (edgP l es) (List.range l.length) i)))))) 1 (some (.var false [(.v (.sl .shared 5 (rowsBy Vx.c l))), (.v (.sl .shared 4 (rowsBy Ed.c es)))])))⟩ : St))
      generalize sprK (edgP l es) (List.range l.length) i = g at *
      generalize spr (edgP l es) g = g2 at *
      simp only [f12_b2, hiz, k1, wrap_succ hi (show l.length ≤ 9223372036854775807 by omega), go_sem, reduceIte, Nat.reduceEqDiff, Nat.reduceAdd, Nat.reduceLeDiff, List.length_cons, List.length_nil]
    · simp only [f12_b2, dec_ge (Nat.le_refl l.length), go_sem, reduceIte, Nat.reduceEqDiff, Nat.reduceAdd, Nat.reduceLeDiff, List.length_cons, List.length_nil]
  rw [h.rounds] at l2
  unfold labT
  have hlr : (rowsBy cNat ((List.range l.length).map (labV l))).length = l.length := by rw [rowsBy_map, List.length_map, List.length_map, List.length_range]
  have e0 : sprK (edgP l es) (List.range l.length) 0 = List.range l.length := rfl
  simp only [e0] at l2
  simp only [List.range_zero, rowsBy_nil] at l1
  generalize rowsBy cNat ((List.range l.length).map (labV l)) = q at *
  generalize rowsBy cNat (List.range l.length) = q0 at *
  have e1 : q.take l.length = q := by rw [← hlr, List.take_length]
  rw [call_code F (show F 12 = some (.code f12) from rfl)]
  simp only [f12, l1, l2, e1, go_sem, reduceIte, reduceCtorEq, Nat.reduceEqDiff, Nat.reduceAdd, List.length_cons, List.length_nil]
theorem i_Labels {l : List Vx} {es : List Ed} (h : WF l es) : call F 11 [.agg [.sl .shared 5 (rowsBy Vx.c l), .sl .shared 4 (rowsBy Ed.c es)]] = some (labT l) := by
  rw [call_ext F (show F 11 = some (.ext labG) from rfl)]
  exact labG_eq _ h.labok
theorem i_Parts {l : List Vx} {es : List Ed} (h : WF l es) : call F 13 [.agg [.sl .shared 5 (rowsBy Vx.c l), .sl .shared 4 (rowsBy Ed.c es)]] = some (.sl .shared 1 (rowsBy cIDs (partsI l))) := by
  rw [call_ext F (show F 13 = some (.ext partsG) from rfl), ← partsT_eq]
  exact partsG_eq _ _ h.labok
theorem i_comp_Count {l : List Vx} {es : List Ed} (h : WF l es) : call F 16 [.agg [.sl .shared 5 (rowsBy Vx.c l), .sl .shared 4 (rowsBy Ed.c es)]] = some (.int .i64 (partsN (labV l) l.length : Nat)) := by
  have c1 := i_Parts h
  have hl := partsI_len l
  rw [call_code F (show F 16 = some (.code f16) from rfl)]
  simp only [f16, c1, hl, go_sem, reduceIte, reduceCtorEq, Nat.reduceEqDiff, Nat.reduceAdd, Nat.reduceMul, List.length_cons, List.length_nil]
theorem partsN_succ (r : Nat → Nat) (i : Nat) : partsN r (i + 1) = partsN r i + if r i = i then 1 else 0 := by
  unfold partsN
  rw [List.range_succ, List.countP_append, List.countP_singleton]
  by_cases e : r i = i
  · rw [if_pos e, if_pos (by simpa using e)]
  · rw [if_neg e, if_neg (by simpa using e)]
theorem i_r06_Count {l : List Vx} {es : List Ed} (h : WF l es) : call F 17 [.agg [.sl .shared 5 (rowsBy Vx.c l), .sl .shared 4 (rowsBy Ed.c es)]] = some (.int .i64 (partsN (labV l) l.length : Nat)) := by
  have c1 := i_r06_Labels h
  have hlv := h.lv
  unfold labT at c1
  have hget : ∀ i, i < l.length → (rowsBy cNat ((List.range l.length).map (labV l)))[i]? = some [.int .i64 ((labV l i : Nat) : Int)] := fun i hi => by
    rw [rowsBy_get cNat (by rw [List.length_map, List.length_range]; exact hi), List.getElem_map, List.getElem_range]; rfl
  have hlr : (rowsBy cNat ((List.range l.length).map (labV l))).length = l.length := by rw [rowsBy_map, List.length_map, List.length_map, List.length_range]
  generalize rowsBy cNat ((List.range l.length).map (labV l)) = q at *
  have l1 : E (cs F) 0 f17_l1 (⟨(upd (upd (upd Sx.e0 5 (.v (.int .i64 (0)))) 4 (.v (.int .i64 ((partsN (labV l) 0 : Nat))))) 3 (.s 3 0 l.length)), (upd Sx.h0 3 (some (.arr false 3 1 q)))⟩ : St) = some (.exit 0, (⟨(upd Sx.e0 4 (.v (.int .i64 ((partsN (labV l) l.length : Nat))))), Sx.h0⟩ : St)) := by
    refine loop_to (b := f17_b1) (fun q0 => (⟨(upd (upd (upd Sx.e0 5 (.v (.int .i64 ((q0 : Int))))) 4 (.v (.int .i64 ((partsN (labV l) q0 : Nat))))) 3 (.s 3 0 l.length)), (upd Sx.h0 3 (some (.arr false 3 1 q)))⟩ : St)) (l.length) ?_ ?_ (by simp)
    · intro i hi
      have hiz : (i : Int) < (l.length : Int) := by omega
      have hp := partsN_le (labV l) i
      have hw := wrap_succ (i := partsN (labV l) i) (n := partsN (labV l) i + 1) (Nat.lt_succ_self _) (by omega)
      have hg := hget i hi
      rw [partsN_succ]
      generalize partsN (labV l) i = m at *
      by_cases e : labV l i = i
      · have hd : decide (((labV l i : Nat) : Int) = (i : Int)) = true := dec_t (by omega)
        rw [if_pos e]
        generalize labV l i = z at *
        simp only [f17_b1, hiz, hg, hd, hw, wrap_succ hi (show l.length ≤ 9223372036854775807 by omega), go_sem, reduceIte, Nat.reduceEqDiff, List.length_cons, List.length_nil]
      · have hd : decide (((labV l i : Nat) : Int) = (i : Int)) = false := dec_f (by omega)
        rw [if_neg e, Nat.add_zero]
        generalize labV l i = z at *
        simp only [f17_b1, hiz, hg, hd, hw, wrap_succ hi (show l.length ≤ 9223372036854775807 by omega), go_sem, reduceIte, Nat.reduceEqDiff, List.length_cons, List.length_nil]
    · simp only [f17_b1, dec_ge (Nat.le_refl l.length), go_sem, reduceIte, Nat.reduceEqDiff]
  have e0 : partsN (labV l) 0 = 0 := rfl
  simp only [e0, nat0] at l1
  generalize partsN (labV l) l.length = m at *
  rw [call_code F (show F 17 = some (.code f17) from rfl)]
  simp only [f17, c1, hlr, l1, go_sem, reduceIte, reduceCtorEq, Nat.reduceEqDiff, Nat.reduceAdd, Nat.reduceMul, List.length_cons, List.length_nil]
theorem i_Index_ID (l : List ID) (x : ID) (hl : Fits l) : call F 42 [.sl .shared 2 (rowsBy ID.c l), .agg [.int .i64 x.s, .int .i64 x.n]] = some (.int .i64 (idx l x)) := by
  have hl := hl.le
  have S : ∀ r, E (cs F) 0 f42_b1 (⟨(upd (upd (upd (upd Sx.e0 8 (.v (.int .i64 ((l.idxOf x : Int))))) 7 (.v (.int .i64 ((l.length : Int))))) 3 (.p 3 0)) 0 (.v (.sl .shared 2 (rowsBy ID.c l)))), (upd Sx.h0 3 (some (.var false [(.v (.int .i64 (x.s))), (.v (.int .i64 (x.n)))])))⟩ : St) = some r → r.1 ≠ .norm →
      E (cs F) 0 f42_l1 (⟨(upd (upd (upd (upd Sx.e0 8 (.v (.int .i64 (0)))) 7 (.v (.int .i64 ((l.length : Int))))) 3 (.p 3 0)) 0 (.v (.sl .shared 2 (rowsBy ID.c l)))), (upd Sx.h0 3 (some (.var false [(.v (.int .i64 (x.s))), (.v (.int .i64 (x.n)))])))⟩ : St) = some r := by
    intro r hf hr
    refine loop_to (b := f42_b1) (fun i => (⟨(upd (upd (upd (upd Sx.e0 8 (.v (.int .i64 ((i : Int))))) 7 (.v (.int .i64 ((l.length : Int))))) 3 (.p 3 0)) 0 (.v (.sl .shared 2 (rowsBy ID.c l)))), (upd Sx.h0 3 (some (.var false [(.v (.int .i64 (x.s))), (.v (.int .i64 (x.n)))])))⟩ : St)) (l.idxOf x) ?_ hf hr
    intro i hi
    have h1 : i < l.length := Nat.lt_of_lt_of_le hi (idxOf_le l x)
    have h1z : (i : Int) < (l.length : Int) := by omega
    have hne := dec_f (idxOf_ne hi h1)
    have hne2 := dec_f (Ne.symm (idxOf_ne hi h1))
    simp only [f42_b1, h1z, rowsBy_get ID.c h1, ID.c, hne2, wrap_succ h1 (show l.length ≤ 9223372036854775807 by omega), go_sem, reduceIte, reduceCtorEq, Nat.reduceEqDiff, Nat.reduceAdd, List.length_cons, List.length_nil]
  by_cases hm : x ∈ l
  · obtain ⟨hlt, he⟩ := idxOf_at hm
    have hd := dec_t he
    have hd2 := dec_t he.symm
    have hltz : ((l.idxOf x : Nat) : Int) < (l.length : Int) := by omega
    have := S _ (by simp only [f42_b1, hltz, rowsBy_get ID.c hlt, ID.c, hd2, go_sem, reduceIte, reduceCtorEq, Nat.reduceEqDiff, Nat.reduceAdd, List.length_cons, List.length_nil]; rfl) (by simp)
    rw [idx_pos hm]
    rw [call_code F (show F 42 = some (.code f42) from rfl)]
    simp only [f42, this, go_sem, reduceIte, reduceCtorEq, Nat.reduceEqDiff, Nat.reduceAdd, List.length_cons, List.length_nil, Int.reduceNeg]
  · have e := idxOf_not hm
    have := S _ (by rw [e]
                    simp only [f42_b1, dec_ge (Nat.le_refl l.length), go_sem, reduceIte, reduceCtorEq, Nat.reduceEqDiff]
                    rfl) (by simp)
    rw [idx_neg hm]
    rw [call_code F (show F 42 = some (.code f42) from rfl)]
    simp only [f42, this, go_sem, reduceIte, reduceCtorEq, Nat.reduceEqDiff, Nat.reduceAdd, List.length_cons, List.length_nil, Int.reduceNeg]
theorem i_Contains_ID (l : List ID) (x : ID) (hl : Fits l) : call F 33 [.sl .shared 2 (rowsBy ID.c l), .agg [.int .i64 x.s, .int .i64 x.n]] = some (.bool (decide (x ∈ l))) := by
  rw [call_code F (show F 33 = some (.code f33) from rfl)]
  simp only [f33, i_Index_ID l x hl, go_sem, reduceIte, reduceCtorEq, Nat.reduceEqDiff, Nat.reduceAdd, Nat.reduceMul, List.length_cons, List.length_nil]
  rw [idx_ge0]
theorem i_Tog1 (p : List ID) (x y : ID) (hp : Fits p) : call F 32 [.sl .shared 2 (rowsBy ID.c p), .pc [.int .i64 x.s, .int .i64 x.n], .pc [.int .i64 y.s, .int .i64 y.n]] = some (.bool (decide (x ∈ p) && decide (y ∈ p))) := by
  have c1 := i_Contains_ID p x hp
  have c2 := i_Contains_ID p y hp
  generalize decide (x ∈ p) = a at *
  generalize decide (y ∈ p) = b at *
  cases a
  · rw [call_code F (show F 32 = some (.code f32) from rfl)]
    simp only [f32, c1, Bool.false_and, go_sem, reduceIte, reduceCtorEq, Nat.reduceEqDiff, Nat.reduceAdd, Nat.reduceMul, List.length_cons, List.length_nil]
  · rw [call_code F (show F 32 = some (.code f32) from rfl)]
    simp only [f32, c1, c2, Bool.true_and, go_sem, reduceIte, reduceCtorEq, Nat.reduceEqDiff, Nat.reduceAdd, Nat.reduceMul, List.length_cons, List.length_nil]
theorem i_IndexFunc_IDs (l : List (List ID)) (f : FuncId) (a b c d : Int) (hl : Fits l) (p : List ID → Bool) (hp0 : ∀ v, v ∈ l → call F f [.sl .shared 2 (rowsBy ID.c v), .pc [.int .i64 a, .int .i64 b], .pc [.int .i64 c, .int .i64 d]] = some (.bool (p v))) : call F 41 [.sl .shared 1 (rowsBy cIDs l), .fn f [.pc [.int .i64 a, .int .i64 b], .pc [.int .i64 c, .int .i64 d]]] = some (.int .i64 (if l.findIdx p = l.length then -1 else ((l.findIdx p : Nat) : Int))) := by
  have hle : (l).length ≤ 5864062014634 := hl.le
  have hw : (l).length ≤ 9223372036854775807 := Nat.le_trans hle (by decide)
  have S : ∀ n, n ≤ (l).length → (∀ i, i < n → ∀ hi : i < (l).length, p (l)[i] = false) → ∀ r, E (cs F) 0 f41_b1 (⟨(upd (upd (upd (upd Sx.e0 8 (.v (.int .i64 ((n : Int))))) 7 (.v (.int .i64 ((l.length : Int))))) 1 (.v (.fn f [.pc [.int .i64 a, .int .i64 b], .pc [.int .i64 c, .int .i64 d]]))) 0 (.v (.sl .shared 1 (rowsBy cIDs l)))), Sx.h0⟩ : St) = some r → r.1 ≠ .norm →
      E (cs F) 0 f41_l1 (⟨(upd (upd (upd (upd Sx.e0 8 (.v (.int .i64 (0)))) 7 (.v (.int .i64 ((l.length : Int))))) 1 (.v (.fn f [.pc [.int .i64 a, .int .i64 b], .pc [.int .i64 c, .int .i64 d]]))) 0 (.v (.sl .shared 1 (rowsBy cIDs l)))), Sx.h0⟩ : St) = some r := by
    intro n hn hno r hf hrr
    refine loop_to (b := f41_b1) (fun i => (⟨(upd (upd (upd (upd Sx.e0 8 (.v (.int .i64 ((i : Int))))) 7 (.v (.int .i64 ((l.length : Int))))) 1 (.v (.fn f [.pc [.int .i64 a, .int .i64 b], .pc [.int .i64 c, .int .i64 d]]))) 0 (.v (.sl .shared 1 (rowsBy cIDs l)))), Sx.h0⟩ : St)) n ?_ hf hrr
    intro i hi
    have h1 : i < (l).length := Nat.lt_of_lt_of_le hi hn
    have h1z : (i : Int) < ((l).length : Int) := Int.ofNat_lt.2 h1
    have hne := hno i hi h1
    have hv := hp0 l[i] (List.getElem_mem h1)
    rw [hne] at hv
    simp only [f41_b1, h1z, rowsBy_get cIDs h1, cIDs, hv, wrap_succ h1 hw, go_sem, reduceIte, reduceCtorEq, Nat.reduceEqDiff, Nat.reduceAdd, Nat.reduceMul, List.length_cons, List.length_nil]
  have S := S ((l).findIdx p) List.findIdx_le_length (fun i h1 h2 => findIdx_not h1 h2)
  rcases findIdx_cases p (l) with h0 | ⟨hlt, hp⟩
  · rw [h0] at S
    have := S _ (by simp only [f41_b1, dec_ge (Nat.le_refl (l).length), go_sem, reduceIte, reduceCtorEq, Nat.reduceEqDiff]
                    rfl) (by simp)
    rw [if_pos h0]
    rw [call_code F (show F 41 = some (.code f41) from rfl)]
    simp only [f41, this, go_sem, reduceIte, reduceCtorEq, Nat.reduceEqDiff, Nat.reduceAdd, Int.reduceNeg]
  · rw [if_neg (show ¬ l.findIdx p = l.length by omega)]
    generalize (l).findIdx p = n at *
    have hltz : (n : Int) < ((l).length : Int) := Int.ofNat_lt.2 hlt
    have hv := hp0 l[n] (List.getElem_mem hlt)
    rw [hp] at hv
    have := S _ (by simp only [f41_b1, hltz, rowsBy_get cIDs hlt, cIDs, hv, go_sem, reduceIte, reduceCtorEq, Nat.reduceEqDiff, Nat.reduceAdd, Nat.reduceMul, List.length_cons, List.length_nil]
                    rfl) (by simp)
    rw [call_code F (show F 41 = some (.code f41) from rfl)]
    simp only [f41, this, go_sem, reduceIte, reduceCtorEq, Nat.reduceEqDiff, Nat.reduceAdd, Int.reduceNeg]
theorem i_ContainsFunc_IDs (l : List (List ID)) (f : FuncId) (a b c d : Int) (hl : Fits l) (p : List ID → Bool) (hp0 : ∀ v, v ∈ l → call F f [.sl .shared 2 (rowsBy ID.c v), .pc [.int .i64 a, .int .i64 b], .pc [.int .i64 c, .int .i64 d]] = some (.bool (p v))) : call F 31 [.sl .shared 1 (rowsBy cIDs l), .fn f [.pc [.int .i64 a, .int .i64 b], .pc [.int .i64 c, .int .i64 d]]] = some (.bool (l.any p)) := by
  have ix := i_IndexFunc_IDs l f a b c d hl p hp0
  rcases findIdx_cases p l with h0 | ⟨hlt, hp⟩
  · rw [if_pos h0] at ix
    rw [show l.any p = false by
      rw [List.any_eq_false]
      intro v hv
      obtain ⟨i, hi, rfl⟩ := List.mem_iff_getElem.1 hv
      rw [findIdx_not (p := p) (by omega) hi]; simp]
    rw [call_code F (show F 31 = some (.code f31) from rfl)]
    simp only [f31, ix, go_sem, reduceIte, reduceCtorEq, Nat.reduceEqDiff, Nat.reduceAdd, Nat.reduceMul, Int.reduceGE, Int.reduceNeg]
  · rw [if_neg (show ¬ l.findIdx p = l.length by omega)] at ix
    rw [show l.any p = true by rw [List.any_eq_true]; exact ⟨_, List.getElem_mem hlt, hp⟩]
    have hq : decide (((l.findIdx p : Nat) : Int) ≥ 0) = true := by simp
    generalize l.findIdx p = n at *
    rw [call_code F (show F 31 = some (.code f31) from rfl)]
    simp only [f31, ix, go_sem, reduceIte, reduceCtorEq, Nat.reduceEqDiff, Nat.reduceAdd, Nat.reduceMul]
theorem partsI_small {l : List Vx} : (partsI l).length ≤ l.length ∧ ∀ p ∈ partsI l, p.length ≤ l.length := by
  refine ⟨by rw [partsI_len]; exact partsN_le _ _, fun p hp => ?_⟩
  obtain ⟨q, _, _, rfl⟩ := partsI_mem.1 hp
  rw [List.length_map]; exact membTo_length _ _ _
theorem i_Together {l : List Vx} {es : List Ed} (h : WF l es) (x y : ID) : call F 18 [.agg [.sl .shared 5 (rowsBy Vx.c l), .sl .shared 4 (rowsBy Ed.c es)], .agg [.int .i64 x.s, .int .i64 x.n], .agg [.int .i64 y.s, .int .i64 y.n]] = some (.bool (togB l x y)) := by
  have hlv := h.lv
  have c1 := i_Parts h
  have c2 := i_ContainsFunc_IDs (partsI l) 32 x.s x.n y.s y.n (Fits.of (by have := (partsI_small (l := l)).1; omega)) (fun p => decide (x ∈ p) && decide (y ∈ p)) (fun p hp => i_Tog1 p x y (Fits.of (by have := (partsI_small (l := l)).2 p hp; omega)))
  rw [any_parts h.sv.nodup] at c2
  generalize rowsBy cIDs (partsI l) = q at *
  rw [call_code F (show F 18 = some (.code f18) from rfl)]
  simp only [f18, c1, c2, go_sem, reduceIte, reduceCtorEq, Nat.reduceEqDiff, Nat.reduceAdd, Nat.reduceMul, List.length_cons, List.length_nil]
theorem i_r06_Together {l : List Vx} {es : List Ed} (h : WF l es) (x y : ID) : call F 19 [.agg [.sl .shared 5 (rowsBy Vx.c l), .sl .shared 4 (rowsBy Ed.c es)], .agg [.int .i64 x.s, .int .i64 x.n], .agg [.int .i64 y.s, .int .i64 y.n]] = some (.bool (togB l x y)) := by
  have hlv := h.lv
  have c1 := i_r06_Labels h
  have c2 := i_r06_place l x h.fits (.sl .shared 4 (rowsBy Ed.c es))
  have c3 := i_r06_place l y h.fits (.sl .shared 4 (rowsBy Ed.c es))
  unfold labT at c1
  have hget : ∀ i, i < l.length → (rowsBy cNat ((List.range l.length).map (labV l)))[i]? = some [.int .i64 ((labV l i : Nat) : Int)] := fun i hi => by
    rw [rowsBy_get cNat (by rw [List.length_map, List.length_range]; exact hi), List.getElem_map, List.getElem_range]; rfl
  have hlr : (rowsBy cNat ((List.range l.length).map (labV l))).length = l.length := by rw [rowsBy_map, List.length_map, List.length_map, List.length_range]
  generalize rowsBy cNat ((List.range l.length).map (labV l)) = q at *
  have m1 : decide ((-1 : Int) ≥ 0) = false := rfl
  unfold togB
  unfold plZ at c2 c3
  rcases Nat.lt_or_ge (plV l x) l.length with hx | hx
  · rw [if_neg (by omega)] at c2
    have g1 := hget _ hx
    have y0 : decide (((plV l x : Nat) : Int) ≥ 0) = true := dec_t (by omega)
    have z0 : ((plV l x : Nat) : Int) < (l.length : Int) := by omega
    rcases Nat.lt_or_ge (plV l y) l.length with hy | hy
    · rw [if_neg (by omega)] at c3
      have g2 := hget _ hy
      have y1 : decide (((plV l y : Nat) : Int) ≥ 0) = true := dec_t (by omega)
      have z1 : ((plV l y : Nat) : Int) < (l.length : Int) := by omega
      rw [show decide (plV l x < l.length ∧ plV l y < l.length ∧ labV l (plV l x) = labV l (plV l y)) = decide (((labV l (plV l x) : Nat) : Int) = ((labV l (plV l y) : Nat) : Int)) from by rw [decide_eq_decide]; omega]
      generalize labV l (plV l x) = a at *
      generalize labV l (plV l y) = b at *
      generalize plV l x = i at *
      generalize plV l y = j at *
      rw [call_code F (show F 19 = some (.code f19) from rfl)]
      simp only [f19, c1, c2, c3, hlr, g1, g2, z0, z1, go_sem, reduceIte, reduceCtorEq, Nat.reduceEqDiff, Nat.reduceAdd, Nat.reduceMul, List.length_cons, List.length_nil, Nat.testBit, Nat.reduceShiftRight, Nat.reduceAnd, Nat.reduceBNe]
    · have hy0 := plV_le l y
      rw [if_pos (by omega)] at c3
      rw [dec_f (by omega)]
      generalize plV l x = i at *
      rw [call_code F (show F 19 = some (.code f19) from rfl)]
      simp only [f19, c1, c2, c3, hlr, go_sem, reduceIte, reduceCtorEq, Nat.reduceEqDiff, Nat.reduceAdd, Nat.reduceMul, List.length_cons, List.length_nil, Int.reduceGE, Int.reduceNeg]
  · have hx0 := plV_le l x
    rw [if_pos (by omega)] at c2
    rw [dec_f (by omega)]
    generalize (if plV l y = l.length then (-1 : Int) else (plV l y : Int)) = j at *
    rw [call_code F (show F 19 = some (.code f19) from rfl)]
    simp only [f19, c1, c2, c3, hlr, go_sem, reduceIte, reduceCtorEq, Nat.reduceEqDiff, Nat.reduceAdd, Nat.reduceMul, List.length_cons, List.length_nil, Int.reduceGE, Int.reduceNeg]
/-- the reference's parts, as far as it has gone -/
noncomputable def refP (l : List Vx) (i : Nat) : List (List ID) := (rootsTo (labV l) i).map fun q => (membTo (labV l) l.length q).map (idAt l)
theorem refP_succ (l : List Vx) (i : Nat) : refP l (i + 1) = refP l i ++ if labV l i = i then [(membTo (labV l) l.length i).map (idAt l)] else [] := by
  unfold refP
  rw [rootsTo_succ, List.map_append]
  congr 1
  split <;> rfl
theorem r06_part (l : List Vx) (es : List Ed) (hl : l.length ≤ 24) (i : Nat) (q : List (List TV)) (hget : ∀ i, i < l.length → q[i]? = some [.int .i64 ((labV l i : Nat) : Int)]) (hlr : q.length = l.length) (qs : List (List TV)) (m : Nat) : E (cs F) 0 f14_l2 (⟨(upd (upd (upd (upd (upd (upd Sx.e0 7 (.v (.int .i64 (0)))) 6 (.s 6 0 0)) 5 (.v (.int .i64 ((i : Int))))) 4 (.s 4 0 m)) 3 (.s 3 0 l.length)) 1 (.p 1 0)), (upd (upd (upd (upd Sx.h0 6 (some (.arr false 27 2 []))) 4 (some (.arr false 36 1 qs))) 3 (some (.arr false 3 1 q))) 1 (some (.var false [(.v (.sl .shared 5 (rowsBy Vx.c l))), (.v (.sl .shared 4 (rowsBy Ed.c es)))])))⟩ : St) =
    some (.exit 2, (⟨(upd (upd (upd (upd (upd Sx.e0 6 (.s 6 0 ((membTo (labV l) l.length i).map (idAt l)).length)) 5 (.v (.int .i64 ((i : Int))))) 4 (.s 4 0 m)) 3 (.s 3 0 l.length)) 1 (.p 1 0)), (upd (upd (upd (upd Sx.h0 6 (some (.arr false 27 2 (rowsBy ID.c ((membTo (labV l) l.length i).map (idAt l)))))) 4 (some (.arr false 36 1 qs))) 3 (some (.arr false 3 1 q))) 1 (some (.var false [(.v (.sl .shared 5 (rowsBy Vx.c l))), (.v (.sl .shared 4 (rowsBy Ed.c es)))])))⟩ : St)) := by
  have l1 : E (cs F) 0 f14_l2 (⟨(upd (upd (upd (upd (upd (upd Sx.e0 7 (.v (.int .i64 (0)))) 6 (.s 6 0 ((membTo (labV l) 0 i).map (idAt l)).length)) 5 (.v (.int .i64 ((i : Int))))) 4 (.s 4 0 m)) 3 (.s 3 0 l.length)) 1 (.p 1 0)), (upd (upd (upd (upd Sx.h0 6 (some (.arr false 27 2 (rowsBy ID.c ((membTo (labV l) 0 i).map (idAt l)))))) 4 (some (.arr false 36 1 qs))) 3 (some (.arr false 3 1 q))) 1 (some (.var false [(.v (.sl .shared 5 (rowsBy Vx.c l))), (.v (.sl .shared 4 (rowsBy Ed.c es)))])))⟩ : St) = some (.exit 2, (⟨(upd (upd (upd (upd (upd Sx.e0 6 (.s 6 0 ((membTo (labV l) l.length i).map (idAt l)).length)) 5 (.v (.int .i64 ((i : Int))))) 4 (.s 4 0 m)) 3 (.s 3 0 l.length)) 1 (.p 1 0)), (upd (upd (upd (upd Sx.h0 6 (some (.arr false 27 2 (rowsBy ID.c ((membTo (labV l) l.length i).map (idAt l)))))) 4 (some (.arr false 36 1 qs))) 3 (some (.arr false 3 1 q))) 1 (some (.var false [(.v (.sl .shared 5 (rowsBy Vx.c l))), (.v (.sl .shared 4 (rowsBy Ed.c es)))])))⟩ : St)) := by
    refine loop_to (b := f14_b2) (fun q0 => (⟨(upd (upd (upd (upd (upd (upd Sx.e0 7 (.v (.int .i64 ((q0 : Int))))) 6 (.s 6 0 ((membTo (labV l) q0 i).map (idAt l)).length)) 5 (.v (.int .i64 ((i : Int))))) 4 (.s 4 0 m)) 3 (.s 3 0 l.length)) 1 (.p 1 0)), (upd (upd (upd (upd Sx.h0 6 (some (.arr false 27 2 (rowsBy ID.c ((membTo (labV l) q0 i).map (idAt l)))))) 4 (some (.arr false 36 1 qs))) 3 (some (.arr false 3 1 q))) 1 (some (.var false [(.v (.sl .shared 5 (rowsBy Vx.c l))), (.v (.sl .shared 4 (rowsBy Ed.c es)))])))⟩ : St)) (l.length) ?_ ?_ (by simp)
    · intro k hk
      have hkz : (k : Int) < (l.length : Int) := by omega
      have hg := hget k hk
      have hb : ((membTo (labV l) k i).map (idAt l)).length ≤ k := by rw [List.length_map]; exact membTo_length _ _ _
      rw [membTo_succ]
      by_cases e : labV l k = i
      · have hd : decide (((labV l k : Nat) : Int) = (i : Int)) = true := dec_t (by omega)
        rw [if_pos e, List.map_append, List.map_singleton, idAt_lt hk]
        generalize (membTo (labV l) k i).map (idAt l) = p at *
        have h16 : (p.length + 1) * 16 ≤ 140737488355328 := by omega
        have hs : rowsBy ID.c p ++ [[.int .i64 l[k].id.s, .int .i64 l[k].id.n]] = rowsBy ID.c (p ++ [l[k].id]) := rowsBy_snoc ID.c p _
        have hln : (p ++ [l[k].id]).length = p.length + 1 := by rw [List.length_append]; rfl
        rw [hln]
        generalize labV l k = z at *
        simp only [f14_b2, hkz, hg, hd, rowsBy_get Vx.c hk, Vx.c, hs, h16, wrap_succ hk (show l.length ≤ 9223372036854775807 by omega), go_sem, reduceIte, Nat.reduceEqDiff, Nat.reduceAdd, Nat.reduceLeDiff, List.length_cons, List.length_nil]
      · have hd : decide (((labV l k : Nat) : Int) = (i : Int)) = false := dec_f (by omega)
        rw [if_neg e, List.append_nil]
        generalize (membTo (labV l) k i).map (idAt l) = p at *
        generalize labV l k = z at *
        simp only [f14_b2, hkz, hg, hd, wrap_succ hk (show l.length ≤ 9223372036854775807 by omega), go_sem, reduceIte, Nat.reduceEqDiff, Nat.reduceAdd, Nat.reduceLeDiff, List.length_cons, List.length_nil]
    · simp only [f14_b2, dec_ge (Nat.le_refl l.length), go_sem, reduceIte, Nat.reduceEqDiff]
  exact l1
theorem i_r06_Parts {l : List Vx} {es : List Ed} (h : WF l es) : call F 14 [.agg [.sl .shared 5 (rowsBy Vx.c l), .sl .shared 4 (rowsBy Ed.c es)]] = some (.sl (.own 36) 1 (rowsBy cIDs (partsI l))) := by
  have c1 := i_r06_Labels h
  have hlv := h.lv
  unfold labT at c1
  have hget : ∀ i, i < l.length → (rowsBy cNat ((List.range l.length).map (labV l)))[i]? = some [.int .i64 ((labV l i : Nat) : Int)] := fun i hi => by
    rw [rowsBy_get cNat (by rw [List.length_map, List.length_range]; exact hi), List.getElem_map, List.getElem_range]; rfl
  have hlr : (rowsBy cNat ((List.range l.length).map (labV l))).length = l.length := by rw [rowsBy_map, List.length_map, List.length_map, List.length_range]
  generalize rowsBy cNat ((List.range l.length).map (labV l)) = q at *
  have l1 : E (cs F) 0 f14_l1 (⟨(upd (upd (upd (upd Sx.e0 5 (.v (.int .i64 (0)))) 4 (.s 4 0 (refP l 0).length)) 3 (.s 3 0 l.length)) 1 (.p 1 0)), (upd (upd (upd Sx.h0 4 (some (.arr false 36 1 (rowsBy cIDs (refP l 0))))) 3 (some (.arr false 3 1 q))) 1 (some (.var false [(.v (.sl .shared 5 (rowsBy Vx.c l))), (.v (.sl .shared 4 (rowsBy Ed.c es)))])))⟩ : St) = some (.exit 0, (⟨(upd Sx.e0 4 (.s 4 0 (refP l l.length).length)), (upd Sx.h0 4 (some (.arr false 36 1 (rowsBy cIDs (refP l l.length)))))⟩ : St)) := by
    refine loop_to (b := f14_b1) (fun q0 => (⟨(upd (upd (upd (upd Sx.e0 5 (.v (.int .i64 ((q0 : Int))))) 4 (.s 4 0 (refP l q0).length)) 3 (.s 3 0 l.length)) 1 (.p 1 0)), (upd (upd (upd Sx.h0 4 (some (.arr false 36 1 (rowsBy cIDs (refP l q0))))) 3 (some (.arr false 3 1 q))) 1 (some (.var false [(.v (.sl .shared 5 (rowsBy Vx.c l))), (.v (.sl .shared 4 (rowsBy Ed.c es)))])))⟩ : St)) (l.length) ?_ ?_ (by simp)
    · intro i hi
      have hiz : (i : Int) < (l.length : Int) := by omega
      have hg := hget i hi
      have hb : (refP l i).length ≤ i := by unfold refP; rw [List.length_map]; exact rootsTo_length _ _
      have k1 := r06_part l es hlv i q hget hlr (rowsBy cIDs (refP l i)) (refP l i).length
      rw [refP_succ]
      generalize refP l i = p at *
      by_cases e : labV l i = i
      · have hd : decide (¬ ((labV l i : Nat) : Int) = (i : Int)) = false := dec_f (by omega)
        rw [if_pos e]
        generalize (membTo (labV l) l.length i).map (idAt l) = o at *
        have h24 : (p.length + 1) * 24 ≤ 140737488355328 := by omega
        have hs : rowsBy cIDs p ++ [[.sl .shared 2 (rowsBy ID.c o)]] = rowsBy cIDs (p ++ [o]) := rowsBy_snoc cIDs p o
        have hln : (p ++ [o]).length = p.length + 1 := by rw [List.length_append]; rfl
        rw [hln]
        generalize labV l i = z at *
        simp only [f14_b1, hiz, hg, hd, k1, hs, h24, List.drop_zero, wrap_succ hi (show l.length ≤ 9223372036854775807 by omega), go_sem, reduceIte, Nat.reduceEqDiff, List.length_cons, List.length_nil, ne_eq]
      · have hd : decide (¬ ((labV l i : Nat) : Int) = (i : Int)) = true := dec_t (by omega)
        rw [if_neg e, List.append_nil]
        generalize labV l i = z at *
        simp only [f14_b1, hiz, hg, hd, wrap_succ hi (show l.length ≤ 9223372036854775807 by omega), go_sem, reduceIte, Nat.reduceEqDiff, List.length_cons, List.length_nil, ne_eq]
    · simp only [f14_b1, dec_ge (Nat.le_refl l.length), go_sem, reduceIte, Nat.reduceEqDiff]
  have e0 : refP l 0 = [] := rfl
  have e1 : refP l l.length = partsI l := rfl
  simp only [e0, e1, rowsBy_nil, List.length_nil] at l1
  generalize partsI l = p at *
  have e2 : (rowsBy cIDs p).take p.length = rowsBy cIDs p := rowsBy_takeAll cIDs p
  rw [call_code F (show F 14 = some (.code f14) from rfl)]
  simp only [f14, c1, hlr, l1, e2, go_sem, reduceIte, reduceCtorEq, Nat.reduceEqDiff, Nat.reduceAdd, Nat.reduceMul, List.length_cons, List.length_nil]
end Go.Proofs.Ytfhijlhiifkkhaa.Sx
namespace Go.Proofs.Ytfhijlhiifkkhaa.Sx
open Go
theorem Vx.ext_iff' (x y : Vx) : x = y ↔ x.id = y.id ∧ x.label = y.label ∧ x.attr = y.attr ∧ x.ring = y.ring := by
  cases x; cases y; simp only [Vx.mk.injEq]
  constructor
  · rintro ⟨a, b, c, d⟩; exact ⟨a, c, d, b⟩
  · rintro ⟨a, b, c, d⟩; exact ⟨a, d, b, c⟩
theorem Ed.ext_iff' (x y : Ed) : x = y ↔ x.id = y.id ∧ x.label = y.label ∧ x.attr = y.attr := by
  cases x; cases y; simp only [Ed.mk.injEq]
theorem Ed.dec (x y : Ed) : (decide (x.id.s = y.id.s) && (decide (x.id.n = y.id.n) && (decide (x.label = y.label) && decide (x.attr = y.attr)))) = decide (x = y) := by
  by_cases h : x = y
  · subst h; simp
  · rw [decide_eq_false h]
    simp only [Bool.and_eq_false_iff, decide_eq_false_iff_not]
    rw [Ed.ext_iff', ID.ext_iff'] at h
    by_cases h1 : x.id.s = y.id.s
    · by_cases h2 : x.id.n = y.id.n
      · by_cases h3 : x.label = y.label
        · exact .inr (.inr (.inr fun h4 => h ⟨⟨h1, h2⟩, h3, h4⟩))
        · exact .inr (.inr (.inl h3))
      · exact .inr (.inl h2)
    · exact .inl h1
theorem c_IDs (l m : List ID) (hl : l.length ≤ 9223372036854775807) : call F 15 [.sl .shared 2 (rowsBy ID.c l), .sl .shared 2 (rowsBy ID.c m)] = some (.bool (decide (l = m))) := by
  by_cases hlen : l.length = m.length
  · have he := len_eq hlen
    have l1 : E (cs F) 0 f15_l1 (⟨(upd (upd (upd Sx.e0 5 (.v (.int .i64 (0)))) 1 (.v (.sl .shared 2 (rowsBy ID.c m)))) 0 (.v (.sl .shared 2 (rowsBy ID.c l)))), Sx.h0⟩ : St) = some (if (List.range (l.length)).any (pairB (fun x y => decide (x = y)) l m) then (.ret, (⟨(upd Sx.e0 4 (.v (.bool false))), Sx.h0⟩ : St)) else (.exit 0, (⟨Sx.e0, Sx.h0⟩ : St))) := by
      refine loop_any (b := f15_b1) (fun q0 => (⟨(upd (upd (upd Sx.e0 5 (.v (.int .i64 ((q0 : Int))))) 1 (.v (.sl .shared 2 (rowsBy ID.c m)))) 0 (.v (.sl .shared 2 (rowsBy ID.c l)))), Sx.h0⟩ : St)) (pairB (fun x y => decide (x = y)) l m) (l.length) ?_ ?_ (by simp) ?_ (by simp)
      · intro i h1 hp
        have h2 : i < m.length := by omega
        rw [pairB_at h1 h2] at hp
        have hd : decide (l[i] = m[i]) = true := by simpa using hp
        simp only [f15_b1, dec_lt h1, rowsBy_get ID.c h1, rowsBy_get ID.c h2, ID.c, hd, wrap_succ h1 hl, go_sem, reduceIte, reduceCtorEq, Nat.reduceEqDiff, Nat.reduceAdd, List.length_cons, List.length_nil]
      · intro i h1 hp
        have h2 : i < m.length := by omega
        rw [pairB_at h1 h2] at hp
        have hd : decide (l[i] = m[i]) = false := by simpa using hp
        simp only [f15_b1, dec_lt h1, rowsBy_get ID.c h1, rowsBy_get ID.c h2, ID.c, hd, go_sem, reduceIte, reduceCtorEq, Nat.reduceEqDiff, Nat.reduceAdd, List.length_cons, List.length_nil]
      · simp only [f15_b1, dec_ge (Nat.le_refl l.length), go_sem, reduceIte, reduceCtorEq, Nat.reduceEqDiff]
    rw [pairB_eq (fun _ _ => rfl) hlen] at l1
    generalize decide (l = m) = b at *
    rw [call_code F (show F 15 = some (.code f15) from rfl)]
    cases b
    · simp only [f15, he, l1, Bool.not_false, go_sem, reduceIte, reduceCtorEq, Nat.reduceEqDiff, Nat.reduceAdd, ne_eq]
    · simp only [f15, he, l1, Bool.not_true, go_sem, reduceIte, reduceCtorEq, Nat.reduceEqDiff, Nat.reduceAdd, ne_eq]
  · have hlm : l ≠ m := fun e => hlen (by rw [e])
    have he := len_ne hlen
    rw [dec_f hlm]
    rw [call_code F (show F 15 = some (.code f15) from rfl)]
    simp only [f15, he, go_sem, reduceIte, reduceCtorEq, Nat.reduceEqDiff, Nat.reduceAdd, ne_eq]
theorem rowsBy_set_same {α : Type} (c : α → List TV) {l : List α} {i : Nat} (h : i < l.length) : (rowsBy c l).set i (c l[i]) = rowsBy c l := by
  rw [rowsBy_set, List.set_getElem_self]
end Go.Proofs.Ytfhijlhiifkkhaa.Sx
namespace Go.Proofs.Ytfhijlhiifkkhaa.Sx
open Go
def threeV : List Vx := [⟨⟨1, 1⟩, [⟨⟨1, 9⟩, 0⟩], ⟨#[]⟩, 0⟩, ⟨⟨1, 2⟩, [⟨⟨1, 9⟩, 1⟩], ⟨#[]⟩, 0⟩, ⟨⟨1, 3⟩, [], ⟨#[]⟩, 0⟩]
def threeE : List Ed := [⟨⟨1, 9⟩, ⟨#[]⟩, 0⟩]
theorem three_wf : WF threeV threeE := wf_of (by decide) (by decide) (by decide +kernel) (by decide +kernel) (by decide +kernel)
theorem three_labs : (List.range 3).map (labV threeV) = [0, 0, 2] := by
  have h := three_wf.rounds
  rw [show threeV.length = 3 from rfl] at h
  rw [← h]
  decide +kernel
theorem three_parts : partsN (labV threeV) threeV.length = 2 := by
  have h := three_labs
  rw [show threeV.length = 3 from rfl]
  simp only [List.range_succ, List.range_zero, List.nil_append, List.map_cons, List.map_nil, List.cons_append, List.cons.injEq] at h
  obtain ⟨a, b, c, _⟩ := h
  unfold partsN
  simp [List.range_succ, a, b, c]
theorem c_shown : call F 8 [] = some (.bool true) := by
  have f1 := i_comp_Count three_wf
  rw [three_parts] at f1
  have k1 : rowsBy Vx.c threeV = [[.int .i64 1, .int .i64 1, .sl .shared 3 [[.int .i64 1, .int .i64 9, .int .i64 0]], .str ⟨#[]⟩, .int .i64 0], [.int .i64 1, .int .i64 2, .sl .shared 3 [[.int .i64 1, .int .i64 9, .int .i64 1]], .str ⟨#[]⟩, .int .i64 0], [.int .i64 1, .int .i64 3, .sl .shared 3 [], .str ⟨#[]⟩, .int .i64 0]] := rfl
  have k3 : rowsBy Ed.c threeE = [[.int .i64 1, .int .i64 9, .str ⟨#[]⟩, .int .i64 0]] := rfl
  rw [k1, k3] at f1
  simp only [show ((2 : Nat) : Int) = 2 from rfl] at f1
  rw [call_code F (show F 8 = some (.code f8) from rfl)]
  simp only [f8, f1, go_sem, reduceIte, reduceCtorEq, Nat.reduceEqDiff, Nat.reduceAdd, Nat.reduceMul, Nat.reduceLeDiff, List.length_cons, List.length_nil]
theorem c_formed (l : List Vx) (es : List Ed) (hr : FitsR l) (hL : FitsL l es) : call F 9 [.agg [.sl .shared 5 (rowsBy Vx.c l), .sl .shared 4 (rowsBy Ed.c es)]] = some (.bool (decide (formC l es = 0))) := by
  have cf := i_r04_Form l es hr hL
  rw [call_code F (show F 9 = some (.code f9) from rfl)]
  simp only [f9, cf, go_sem, reduceIte, reduceCtorEq, Nat.reduceEqDiff, Nat.reduceAdd, Nat.reduceMul, List.length_cons, List.length_nil]
theorem labels_l1 (l : List Vx) (es : List Ed) (x y : ID) (P : List (List ID)) (hP : P.length ≤ 100) (hp : ∀ p ∈ P, p.length ≤ 100) : E (cs F) 0 f3_l1 (⟨(upd (upd (upd (upd (upd (upd (upd (upd Sx.e0 12 (.v (.int .i64 (0)))) 11 (.s 11 0 P.length)) 10 (.v (.sl .shared 1 (rowsBy cIDs P)))) 9 (.v (.bool (true)))) 7 (.v (.bool (true)))) 5 (.p 5 0)) 4 (.p 4 0)) 3 (.p 3 0)), (upd (upd (upd (upd Sx.h0 11 (some (.arr false 36 1 (rowsBy cIDs P)))) 5 (some (.var false [(.v (.int .i64 (y.s))), (.v (.int .i64 (y.n)))]))) 4 (some (.var false [(.v (.int .i64 (x.s))), (.v (.int .i64 (x.n)))]))) 3 (some (.var false [(.v (.sl .shared 5 (rowsBy Vx.c l))), (.v (.sl .shared 4 (rowsBy Ed.c es)))])))⟩ : St) =
    some (.exit 0, (⟨(upd (upd (upd (upd (upd (upd (upd Sx.e0 11 (.s 11 0 P.length)) 10 (.v (.sl .shared 1 (rowsBy cIDs P)))) 9 (.v (.bool (true)))) 7 (.v (.bool (true)))) 5 (.p 5 0)) 4 (.p 4 0)) 3 (.p 3 0)), (upd (upd (upd (upd Sx.h0 11 (some (.arr false 36 1 (rowsBy cIDs P)))) 5 (some (.var false [(.v (.int .i64 (y.s))), (.v (.int .i64 (y.n)))]))) 4 (some (.var false [(.v (.int .i64 (x.s))), (.v (.int .i64 (x.n)))]))) 3 (some (.var false [(.v (.sl .shared 5 (rowsBy Vx.c l))), (.v (.sl .shared 4 (rowsBy Ed.c es)))])))⟩ : St)) := by
  have l1 : E (cs F) 0 f3_l1 (⟨(upd (upd (upd (upd (upd (upd (upd (upd Sx.e0 12 (.v (.int .i64 (0)))) 11 (.s 11 0 P.length)) 10 (.v (.sl .shared 1 (rowsBy cIDs P)))) 9 (.v (.bool (true)))) 7 (.v (.bool (true)))) 5 (.p 5 0)) 4 (.p 4 0)) 3 (.p 3 0)), (upd (upd (upd (upd Sx.h0 11 (some (.arr false 36 1 (rowsBy cIDs P)))) 5 (some (.var false [(.v (.int .i64 (y.s))), (.v (.int .i64 (y.n)))]))) 4 (some (.var false [(.v (.int .i64 (x.s))), (.v (.int .i64 (x.n)))]))) 3 (some (.var false [(.v (.sl .shared 5 (rowsBy Vx.c l))), (.v (.sl .shared 4 (rowsBy Ed.c es)))])))⟩ : St) = some (.exit 0, (⟨(upd (upd (upd (upd (upd (upd (upd Sx.e0 11 (.s 11 0 P.length)) 10 (.v (.sl .shared 1 (rowsBy cIDs P)))) 9 (.v (.bool (true)))) 7 (.v (.bool (true)))) 5 (.p 5 0)) 4 (.p 4 0)) 3 (.p 3 0)), (upd (upd (upd (upd Sx.h0 11 (some (.arr false 36 1 (rowsBy cIDs P)))) 5 (some (.var false [(.v (.int .i64 (y.s))), (.v (.int .i64 (y.n)))]))) 4 (some (.var false [(.v (.int .i64 (x.s))), (.v (.int .i64 (x.n)))]))) 3 (some (.var false [(.v (.sl .shared 5 (rowsBy Vx.c l))), (.v (.sl .shared 4 (rowsBy Ed.c es)))])))⟩ : St)) := by
    refine loop_to (b := f3_b1) (fun q0 => (⟨(upd (upd (upd (upd (upd (upd (upd (upd Sx.e0 12 (.v (.int .i64 ((q0 : Int))))) 11 (.s 11 0 P.length)) 10 (.v (.sl .shared 1 (rowsBy cIDs P)))) 9 (.v (.bool (true)))) 7 (.v (.bool (true)))) 5 (.p 5 0)) 4 (.p 4 0)) 3 (.p 3 0)), (upd (upd (upd (upd Sx.h0 11 (some (.arr false 36 1 (rowsBy cIDs P)))) 5 (some (.var false [(.v (.int .i64 (y.s))), (.v (.int .i64 (y.n)))]))) 4 (some (.var false [(.v (.int .i64 (x.s))), (.v (.int .i64 (x.n)))]))) 3 (some (.var false [(.v (.sl .shared 5 (rowsBy Vx.c l))), (.v (.sl .shared 4 (rowsBy Ed.c es)))])))⟩ : St)) (P.length) ?_ ?_ (by simp)
    · intro i hi
      have hiz : (i : Int) < (P.length : Int) := by omega
      have c1 := c_IDs P[i] P[i] (by have := hp _ (List.getElem_mem hi); omega)
      rw [dec_t rfl] at c1
      have hd : decide (¬ (P.length : Int) = (P.length : Int)) = false := dec_f (by omega)
      have hg := rowsBy_get cIDs hi
      generalize P[i] = p at *
      simp only [f3_b1, hiz, hg, cIDs, c1, wrap_succ hi (show P.length ≤ 9223372036854775807 by omega), go_sem, reduceIte, Nat.reduceEqDiff, Nat.reduceAdd, Nat.reduceMul, List.length_cons, List.length_nil, ne_eq, not_true_eq_false, Nat.testBit, Nat.reduceShiftRight, Nat.reduceAnd, Nat.reduceBNe]
    · simp only [f3_b1, dec_ge (Nat.le_refl P.length), go_sem, reduceIte, Nat.reduceEqDiff]
  exact l1
theorem t_labels (l : List Vx) (es : List Ed) (x y : ID) (hr : FitsR l) (hL : FitsL l es) : call F 3 [.agg [.sl .shared 5 (rowsBy Vx.c l), .sl .shared 4 (rowsBy Ed.c es)], .agg [.int .i64 x.s, .int .i64 x.n], .agg [.int .i64 y.s, .int .i64 y.n]] = some (.bool true) := by
  have csh := c_shown
  have cf := c_formed l es hr hL
  by_cases hf : formC l es = 0
  · have h := (formC_ok.1 hf).1
    have hlv := h.lv
    rw [dec_t hf] at cf
    have c1 := i_Labels h
    have c2 := i_r06_Labels h
    unfold labT at c1 c2
    have c3 := c_Ints ((List.range l.length).map (labV l)) ((List.range l.length).map (labV l)) (by rw [List.length_map, List.length_range]; omega)
    rw [dec_t rfl] at c3
    have c4 := i_Parts h
    have c5 := i_r06_Parts h
    have c6 := i_comp_Count h
    have c7 := i_r06_Count h
    have c8 := i_Together h x y
    have c9 := i_r06_Together h x y
    have hsm := partsI_small (l := l)
    have l1 := labels_l1 l es x y (partsI l) (by omega) (fun p hp => by have := hsm.2 p hp; omega)
    have hll : ((List.range l.length).map (labV l)).length = l.length := by rw [List.length_map, List.length_range]
    generalize (List.range l.length).map (labV l) = q at *
    generalize partsI l = P at *
    generalize partsN (labV l) l.length = z at *
    generalize togB l x y = b at *
    have e1 : (rowsBy cNat q).take q.length = rowsBy cNat q := rowsBy_takeAll cNat q
    have hd : decide ((z : Int) = (z : Int)) = true := dec_t rfl
    have hd2 : decide ((P.length : Int) = (P.length : Int)) = true := dec_t rfl
    have hb : (b == b) = true := by cases b <;> rfl
    rw [call_code F (show F 3 = some (.code f3) from rfl)]
    simp only [f3, csh, cf, c1, c2, c3, c4, c5, c6, c7, c8, c9, l1, e1, hb, go_sem, reduceIte, reduceCtorEq, Nat.reduceEqDiff, Nat.reduceAdd, Nat.reduceMul, Nat.reduceBEq, List.length_cons, List.length_nil, Nat.testBit, Nat.reduceShiftRight, Nat.reduceAnd, Nat.reduceBNe]
  · rw [dec_f hf] at cf
    rw [call_code F (show F 3 = some (.code f3) from rfl)]
    simp only [f3, csh, cf, go_sem, reduceIte, reduceCtorEq, Nat.reduceEqDiff, Nat.reduceAdd, Nat.reduceMul, List.length_cons, List.length_nil]
theorem places_l2 {l : List Vx} {es : List Ed} (h : WF l es) (i : Nat) (hi : i < l.length) (q : List (List TV)) (hlr : q.length = l.length) (hget : ∀ i, i < l.length → q[i]? = some [.int .i64 ((labV l i : Nat) : Int)]) : E (cs F) 0 f6_l2 (⟨(upd (upd (upd (upd (upd Sx.e0 7 (.v (.int .i64 (0)))) 6 (.v (.int .i64 ((i : Int))))) 5 (.s 5 0 l.length)) 3 (.v (.bool (true)))) 1 (.p 1 0)), (upd (upd Sx.h0 5 (some (.arr false 3 1 q))) 1 (some (.var false [(.v (.sl .shared 5 (rowsBy Vx.c l))), (.v (.sl .shared 4 (rowsBy Ed.c es)))])))⟩ : St) =
    some (.exit 2, (⟨(upd (upd (upd (upd Sx.e0 6 (.v (.int .i64 ((i : Int))))) 5 (.s 5 0 l.length)) 3 (.v (.bool (true)))) 1 (.p 1 0)), (upd (upd Sx.h0 5 (some (.arr false 3 1 q))) 1 (some (.var false [(.v (.sl .shared 5 (rowsBy Vx.c l))), (.v (.sl .shared 4 (rowsBy Ed.c es)))])))⟩ : St)) := by
  have hlv := h.lv
  have l1 : E (cs F) 0 f6_l2 (⟨(upd (upd (upd (upd (upd Sx.e0 7 (.v (.int .i64 (0)))) 6 (.v (.int .i64 ((i : Int))))) 5 (.s 5 0 l.length)) 3 (.v (.bool (true)))) 1 (.p 1 0)), (upd (upd Sx.h0 5 (some (.arr false 3 1 q))) 1 (some (.var false [(.v (.sl .shared 5 (rowsBy Vx.c l))), (.v (.sl .shared 4 (rowsBy Ed.c es)))])))⟩ : St) = some (.exit 2, (⟨(upd (upd (upd (upd Sx.e0 6 (.v (.int .i64 ((i : Int))))) 5 (.s 5 0 l.length)) 3 (.v (.bool (true)))) 1 (.p 1 0)), (upd (upd Sx.h0 5 (some (.arr false 3 1 q))) 1 (some (.var false [(.v (.sl .shared 5 (rowsBy Vx.c l))), (.v (.sl .shared 4 (rowsBy Ed.c es)))])))⟩ : St)) := by
    refine loop_to (b := f6_b2) (fun q0 => (⟨(upd (upd (upd (upd (upd Sx.e0 7 (.v (.int .i64 ((q0 : Int))))) 6 (.v (.int .i64 ((i : Int))))) 5 (.s 5 0 l.length)) 3 (.v (.bool (true)))) 1 (.p 1 0)), (upd (upd Sx.h0 5 (some (.arr false 3 1 q))) 1 (some (.var false [(.v (.sl .shared 5 (rowsBy Vx.c l))), (.v (.sl .shared 4 (rowsBy Ed.c es)))])))⟩ : St)) (i) ?_ ?_ (by simp)
    · intro k hk
      have hkl : k < l.length := by omega
      have hiz : (i : Int) < (l.length : Int) := by omega
      have hkz : (k : Int) < (l.length : Int) := by omega
      have c1 := i_Together h l[i].id l[k].id
      have e1 := togB_at h.sv.nodup hi hkl
      rw [idAt_lt hi, idAt_lt hkl] at e1
      rw [e1] at c1
      have g1 := hget i hi
      have g2 := hget k hkl
      have hd : decide (((labV l i : Nat) : Int) = ((labV l k : Nat) : Int)) = decide (labV l i = labV l k) := by rw [decide_eq_decide]; omega
      generalize labV l i = a at *
      generalize labV l k = b at *
      have hb : (decide (a = b) == decide (a = b)) = true := by cases decide (a = b) <;> rfl
      generalize decide (a = b) = d at *
      simp only [f6_b2, dec_lt hk, hiz, hkz, rowsBy_get Vx.c hi, rowsBy_get Vx.c hkl, Vx.c, c1, g1, g2, hd, hb, Bool.not_true, wrap_succ hk (show i ≤ 9223372036854775807 by omega), go_sem, reduceIte, Nat.reduceEqDiff, Nat.reduceAdd, Nat.reduceMul, Nat.reduceLeDiff, List.length_cons, List.length_nil, Nat.testBit, Nat.reduceShiftRight, Nat.reduceAnd, Nat.reduceBNe]
    · simp only [f6_b2, dec_ge (Nat.le_refl i), go_sem, reduceIte, Nat.reduceEqDiff]
  exact l1
theorem t_places (l : List Vx) (es : List Ed) (hr : FitsR l) (hL : FitsL l es) : call F 6 [.agg [.sl .shared 5 (rowsBy Vx.c l), .sl .shared 4 (rowsBy Ed.c es)]] = some (.bool true) := by
  have csh := c_shown
  have cf := c_formed l es hr hL
  by_cases hf : formC l es = 0
  · have h := (formC_ok.1 hf).1
    have hlv := h.lv
    rw [dec_t hf] at cf
    have c1 := i_Labels h
    unfold labT at c1
    have hget : ∀ i, i < l.length → (rowsBy cNat ((List.range l.length).map (labV l)))[i]? = some [.int .i64 ((labV l i : Nat) : Int)] := fun i hi => by
      rw [rowsBy_get cNat (by rw [List.length_map, List.length_range]; exact hi), List.getElem_map, List.getElem_range]; rfl
    have hlr : (rowsBy cNat ((List.range l.length).map (labV l))).length = l.length := by rw [rowsBy_map, List.length_map, List.length_map, List.length_range]
    generalize rowsBy cNat ((List.range l.length).map (labV l)) = q at *
    have l1 : E (cs F) 0 f6_l1 (⟨(upd (upd (upd (upd Sx.e0 6 (.v (.int .i64 (0)))) 5 (.s 5 0 l.length)) 3 (.v (.bool (true)))) 1 (.p 1 0)), (upd (upd Sx.h0 5 (some (.arr false 3 1 q))) 1 (some (.var false [(.v (.sl .shared 5 (rowsBy Vx.c l))), (.v (.sl .shared 4 (rowsBy Ed.c es)))])))⟩ : St) = some (.exit 0, (⟨(upd Sx.e0 3 (.v (.bool (true)))), Sx.h0⟩ : St)) := by
      refine loop_to (b := f6_b1) (fun q0 => (⟨(upd (upd (upd (upd Sx.e0 6 (.v (.int .i64 ((q0 : Int))))) 5 (.s 5 0 l.length)) 3 (.v (.bool (true)))) 1 (.p 1 0)), (upd (upd Sx.h0 5 (some (.arr false 3 1 q))) 1 (some (.var false [(.v (.sl .shared 5 (rowsBy Vx.c l))), (.v (.sl .shared 4 (rowsBy Ed.c es)))])))⟩ : St)) (l.length) ?_ ?_ (by simp)
      · intro i hi
        have hiz : (i : Int) < (l.length : Int) := by omega
        have l2 := places_l2 h i hi q hlr hget
        have g1 := hget i hi
        obtain ⟨h2, h3⟩ := labV_idem' l hi
        have hself := (labV_lab l).self hi
        have g2 := hget _ h2
        rw [h3] at g2
        have z2 : ((labV l i : Nat) : Int) < (l.length : Int) := by omega
        have d1 : decide (((labV l i : Nat) : Int) < 0) = false := dec_f (by omega)
        have d2 : decide (((labV l i : Nat) : Int) > (i : Int)) = false := dec_f (by omega)
        have d3 : decide (¬ ((labV l i : Nat) : Int) = ((labV l i : Nat) : Int)) = false := dec_f (by omega)
        generalize labV l i = a at *
        simp only [f6_b1, hiz, l2, g1, g2, z2, d1, d2, wrap_succ hi (show l.length ≤ 9223372036854775807 by omega), go_sem, reduceIte, Nat.reduceEqDiff, Nat.reduceAdd, List.length_cons, List.length_nil, ne_eq, not_true_eq_false, Nat.testBit, Nat.reduceShiftRight, Nat.reduceAnd, Nat.reduceBNe]
      · simp only [f6_b1, dec_ge (Nat.le_refl l.length), go_sem, reduceIte, Nat.reduceEqDiff]
    have hd : decide (¬ (l.length : Int) = (l.length : Int)) = false := dec_f (by omega)
    rw [call_code F (show F 6 = some (.code f6) from rfl)]
    simp only [f6, csh, cf, c1, hlr, l1, go_sem, reduceIte, reduceCtorEq, Nat.reduceEqDiff, Nat.reduceAdd, Nat.reduceMul, Nat.reduceLeDiff, List.length_cons, List.length_nil, ne_eq, not_true_eq_false]
  · rw [dec_f hf] at cf
    rw [call_code F (show F 6 = some (.code f6) from rfl)]
    simp only [f6, csh, cf, go_sem, reduceIte, reduceCtorEq, Nat.reduceEqDiff, Nat.reduceAdd, Nat.reduceMul, List.length_cons, List.length_nil]
end Go.Proofs.Ytfhijlhiifkkhaa.Sx
namespace Go.Proofs.Ytfhijlhiifkkhaa.Sx
open Go
theorem flat_set {α : Type} : ∀ {L : List (List α)} {k : Nat} {x : List α} (c : α), L[k]? = some x → (L.set k (x ++ [c])).flatten.length = L.flatten.length + 1
  | [], _, _, _, h => by simp at h
  | y :: L, 0, x, c, h => by
    simp only [List.getElem?_cons_zero, Option.some.injEq] at h
    subst h
    simp only [List.set_cons_zero, List.flatten_cons, List.length_append, List.length_cons, List.length_nil]
    omega
  | y :: L, k + 1, x, c, h => by
    have := flat_set (L := L) (k := k) (x := x) c (by simpa using h)
    simp only [List.set_cons_succ, List.flatten_cons, List.length_append, this]
    omega
theorem parts_total {α : Type} {r : Nat → Nat} (c : Nat → α) : ∀ i, (∀ u, u < i → r u ≤ u ∧ r (r u) = r u) → (partsTo r c i).flatten.length = i
  | 0, _ => rfl
  | i + 1, h => by
    have ih := parts_total c i fun u hu => h u (by omega)
    obtain ⟨h1, h2⟩ := h i (by omega)
    by_cases e : r i = i
    · rw [partsTo_new c (fun u hu => (h u (by omega)).1) e, List.flatten_append, List.length_append, ih]; rfl
    · obtain ⟨k, hk1, hk2⟩ := List.mem_iff_getElem.1 (rootsTo_mem.2 ⟨by omega, h2⟩ : r i ∈ rootsTo r i)
      have hk : (rootsTo r i)[k]? = some (r i) := by rw [List.getElem?_eq_getElem hk1, hk2]
      have hp : (partsTo r c i)[k]? = some ((membTo r i (r i)).map c) := by
        unfold partsTo; rw [List.getElem?_map, hk]; rfl
      rw [partsTo_more c e hk, flat_set _ hp, ih]
theorem partsI_total (l : List Vx) : (partsI l).flatten.length = l.length :=
  parts_total (idAt l) l.length fun u hu => ⟨(labV_lab l).self hu, (labV_idem' l hu).2⟩
theorem partsI_get {l : List Vx} {i : Nat} (hi : i < (partsI l).length) : ∃ q, (rootsTo (labV l) l.length)[i]? = some q ∧ q < l.length ∧ labV l q = q ∧ (partsI l)[i] = (membTo (labV l) l.length q).map (idAt l) := by
  have hi2 : i < (rootsTo (labV l) l.length).length := by unfold partsI partsTo at hi; rwa [List.length_map] at hi
  obtain ⟨h1, h2⟩ := rootsTo_mem.1 (List.getElem_mem hi2)
  refine ⟨_, List.getElem?_eq_getElem hi2, h1, h2, ?_⟩
  exact List.getElem_map (fun q => (membTo (labV l) l.length q).map (idAt l))
theorem tog_part {l : List Vx} (hn : (l.map Vx.id).Nodup) {i : Nat} (hi : i < (partsI l).length) {x y : ID} (hx : x ∈ (partsI l)[i]) (hy : y ∈ (partsI l)[i]) : togB l x y = true := by
  obtain ⟨q, _, _, _, e⟩ := partsI_get hi
  rw [e, part_mem hn] at hx hy
  exact decide_eq_true ⟨hx.1, hy.1, by rw [hx.2, hy.2]⟩
theorem tog_parts {l : List Vx} (hn : (l.map Vx.id).Nodup) {i j : Nat} (hi : i < (partsI l).length) (hj : j < (partsI l).length) (hij : i ≠ j) {x y : ID} (hx : x ∈ (partsI l)[i]) (hy : y ∈ (partsI l)[j]) : togB l x y = false := by
  obtain ⟨q, a1, _, _, e⟩ := partsI_get hi
  obtain ⟨q', b1, _, _, e'⟩ := partsI_get hj
  rw [e, part_mem hn] at hx
  rw [e', part_mem hn] at hy
  refine decide_eq_false fun h => hij ?_
  have : q = q' := by rw [← hx.2, ← hy.2]; exact h.2.2
  subst this
  obtain ⟨h1, h2⟩ := List.getElem?_eq_some_iff.1 a1
  obtain ⟨h3, h4⟩ := List.getElem?_eq_some_iff.1 b1
  exact (List.getElem_inj (rootsTo_nodup (labV l) l.length)).1 (h2.trans h4.symm)
theorem part_pos {l : List Vx} {i : Nat} (hi : i < (partsI l).length) : 0 < (partsI l)[i].length := by
  obtain ⟨q, _, h1, h2, e⟩ := partsI_get hi
  rw [e, List.length_map]
  exact List.length_pos_of_mem (membTo_mem.2 ⟨h1, h2⟩)
/-- as many parts as vertices less edges, at least -/
theorem parts_ge {l : List Vx} {es : List Ed} (h : WF l es) : l.length ≤ partsN (labV l) l.length + es.length := by
  obtain ⟨f, p, k⟩ := eul_ex h.pr (e := es.length) h.many.symm
  obtain ⟨g, hg⟩ := Eul.genus _ (Nat.le_refl _) h.pr k
  have hp := (k.faces_le h.pr).1
  obtain ⟨lab, hl, e⟩ := k.p
  have e2 : partsN lab l.length = partsN (labV l) l.length := partsN_congr fun u hu => hl.uniq (labV_lab l) hu
  omega
theorem whole_l2 {l : List Vx} {es : List Ed} (h : WF l es) (i : Nat) (hi : i < (partsI l).length) (n : Nat) : E (cs F) 0 f4_l2 (⟨(upd (upd (upd (upd (upd (upd Sx.e0 8 (.v (.int .i64 (0)))) 7 (.v (.int .i64 ((i : Int))))) 6 (.v (.sl .shared 1 (rowsBy cIDs (partsI l))))) 5 (.v (.int .i64 ((n : Int))))) 3 (.v (.bool (true)))) 1 (.p 1 0)), (upd Sx.h0 1 (some (.var false [(.v (.sl .shared 5 (rowsBy Vx.c l))), (.v (.sl .shared 4 (rowsBy Ed.c es)))])))⟩ : St) =
    some (.exit 2, (⟨(upd (upd (upd (upd (upd Sx.e0 7 (.v (.int .i64 ((i : Int))))) 6 (.v (.sl .shared 1 (rowsBy cIDs (partsI l))))) 5 (.v (.int .i64 ((n : Int))))) 3 (.v (.bool (true)))) 1 (.p 1 0)), (upd Sx.h0 1 (some (.var false [(.v (.sl .shared 5 (rowsBy Vx.c l))), (.v (.sl .shared 4 (rowsBy Ed.c es)))])))⟩ : St)) := by
  have hlv := h.lv
  have hp0 := part_pos hi
  have hP0 : 0 < (partsI l).length := by omega
  have hq0 := part_pos hP0
  have hsm := (partsI_small (l := l)).2 _ (List.getElem_mem hi)
  have hc1 : ∀ k (hk : k < (partsI l)[i].length), togB l (partsI l)[i][0] (partsI l)[i][k] = true := fun k hk => tog_part h.sv.nodup hi (List.getElem_mem _) (List.getElem_mem _)
  have hc2 : 0 < i → ∀ k (hk : k < (partsI l)[i].length), togB l (partsI l)[0][0] (partsI l)[i][k] = false := fun h0 k hk => tog_parts h.sv.nodup hP0 hi (by omega) (List.getElem_mem _) (List.getElem_mem _)
  have hg := rowsBy_get cIDs hi
  have hg0 := rowsBy_get cIDs hP0
  generalize (partsI l)[i] = p at *
  generalize (partsI l)[0] = p0 at *
  generalize rowsBy cIDs (partsI l) = rr at *
  have l1 : E (cs F) 0 f4_l2 (⟨(upd (upd (upd (upd (upd (upd Sx.e0 8 (.v (.int .i64 (0)))) 7 (.v (.int .i64 ((i : Int))))) 6 (.v (.sl .shared 1 rr))) 5 (.v (.int .i64 ((n : Int))))) 3 (.v (.bool (true)))) 1 (.p 1 0)), (upd Sx.h0 1 (some (.var false [(.v (.sl .shared 5 (rowsBy Vx.c l))), (.v (.sl .shared 4 (rowsBy Ed.c es)))])))⟩ : St) = some (.exit 2, (⟨(upd (upd (upd (upd (upd Sx.e0 7 (.v (.int .i64 ((i : Int))))) 6 (.v (.sl .shared 1 rr))) 5 (.v (.int .i64 ((n : Int))))) 3 (.v (.bool (true)))) 1 (.p 1 0)), (upd Sx.h0 1 (some (.var false [(.v (.sl .shared 5 (rowsBy Vx.c l))), (.v (.sl .shared 4 (rowsBy Ed.c es)))])))⟩ : St)) := by
    refine loop_to (b := f4_b2) (fun q0 => (⟨(upd (upd (upd (upd (upd (upd Sx.e0 8 (.v (.int .i64 ((q0 : Int))))) 7 (.v (.int .i64 ((i : Int))))) 6 (.v (.sl .shared 1 rr))) 5 (.v (.int .i64 ((n : Int))))) 3 (.v (.bool (true)))) 1 (.p 1 0)), (upd Sx.h0 1 (some (.var false [(.v (.sl .shared 5 (rowsBy Vx.c l))), (.v (.sl .shared 4 (rowsBy Ed.c es)))])))⟩ : St)) (p.length) ?_ ?_ (by simp)
    · intro k hk
      have c1 := i_Together h p[0] p[k]
      rw [hc1 k hk] at c1
      have g1 := rowsBy_get ID.c hp0
      have g2 := rowsBy_get ID.c hk
      by_cases h0 : 0 < i
      · have c2 := i_Together h p0[0] p[k]
        rw [hc2 h0 k hk] at c2
        have g3 := rowsBy_get ID.c hq0
        have d1 : decide ((i : Int) > 0) = true := dec_t (by omega)
        simp only [ID.c, cIDs] at *
        generalize p[0] = a at *
        generalize p[k] = b at *
        generalize p0[0] = c at *
        simp only [f4_b2, hg, hg0, dec_lt hk, c1, c2, g1, g2, g3, d1, wrap_succ hk (show p.length ≤ 9223372036854775807 by omega), go_sem, reduceIte, Nat.reduceEqDiff, Nat.reduceAdd, Nat.reduceMul, List.length_cons, List.length_nil, Int.reduceToNat, Nat.testBit, Nat.reduceShiftRight, Nat.reduceAnd, Nat.reduceBNe]
      · have d1 : decide ((i : Int) > 0) = false := dec_f (by omega)
        simp only [ID.c, cIDs] at *
        generalize p[0] = a at *
        generalize p[k] = b at *
        simp only [f4_b2, hg, dec_lt hk, c1, g1, g2, d1, wrap_succ hk (show p.length ≤ 9223372036854775807 by omega), go_sem, reduceIte, Nat.reduceEqDiff, Nat.reduceAdd, Nat.reduceMul, List.length_cons, List.length_nil, Int.reduceToNat]
    · simp only [cIDs] at hg
      simp only [f4_b2, hg, dec_ge (Nat.le_refl p.length), go_sem, reduceIte, Nat.reduceEqDiff, List.length_cons, List.length_nil]
  exact l1
theorem whole_l1 {l : List Vx} {es : List Ed} (h : WF l es) : E (cs F) 0 f4_l1 (⟨(upd (upd (upd (upd (upd Sx.e0 7 (.v (.int .i64 (0)))) 6 (.v (.sl .shared 1 (rowsBy cIDs (partsI l))))) 5 (.v (.int .i64 (0)))) 3 (.v (.bool (true)))) 1 (.p 1 0)), (upd Sx.h0 1 (some (.var false [(.v (.sl .shared 5 (rowsBy Vx.c l))), (.v (.sl .shared 4 (rowsBy Ed.c es)))])))⟩ : St) =
    some (.exit 0, (⟨(upd (upd (upd (upd Sx.e0 6 (.v (.sl .shared 1 (rowsBy cIDs (partsI l))))) 5 (.v (.int .i64 ((l.length : Int))))) 3 (.v (.bool (true)))) 1 (.p 1 0)), (upd Sx.h0 1 (some (.var false [(.v (.sl .shared 5 (rowsBy Vx.c l))), (.v (.sl .shared 4 (rowsBy Ed.c es)))])))⟩ : St)) := by
  have hlv := h.lv
  have hsm := (partsI_small (l := l))
  have l1 : E (cs F) 0 f4_l1 (⟨(upd (upd (upd (upd (upd Sx.e0 7 (.v (.int .i64 (0)))) 6 (.v (.sl .shared 1 (rowsBy cIDs (partsI l))))) 5 (.v (.int .i64 ((((partsI l).take 0).flatten.length : Nat))))) 3 (.v (.bool (true)))) 1 (.p 1 0)), (upd Sx.h0 1 (some (.var false [(.v (.sl .shared 5 (rowsBy Vx.c l))), (.v (.sl .shared 4 (rowsBy Ed.c es)))])))⟩ : St) = some (.exit 0, (⟨(upd (upd (upd (upd Sx.e0 6 (.v (.sl .shared 1 (rowsBy cIDs (partsI l))))) 5 (.v (.int .i64 ((l.length : Int))))) 3 (.v (.bool (true)))) 1 (.p 1 0)), (upd Sx.h0 1 (some (.var false [(.v (.sl .shared 5 (rowsBy Vx.c l))), (.v (.sl .shared 4 (rowsBy Ed.c es)))])))⟩ : St)) := by
    refine loop_to (b := f4_b1) (fun q0 => (⟨(upd (upd (upd (upd (upd Sx.e0 7 (.v (.int .i64 ((q0 : Int))))) 6 (.v (.sl .shared 1 (rowsBy cIDs (partsI l))))) 5 (.v (.int .i64 ((((partsI l).take q0).flatten.length : Nat))))) 3 (.v (.bool (true)))) 1 (.p 1 0)), (upd Sx.h0 1 (some (.var false [(.v (.sl .shared 5 (rowsBy Vx.c l))), (.v (.sl .shared 4 (rowsBy Ed.c es)))])))⟩ : St)) ((partsI l).length) ?_ ?_ (by simp)
    · intro i hi
      have hiz : (i : Int) < ((partsI l).length : Int) := by omega
      have hg := rowsBy_get cIDs hi
      have l2 := whole_l2 h i hi (((partsI l).take (i + 1)).flatten.length)
      have ht := partsI_total l
      have e1 : ((partsI l).take (i + 1)).flatten.length = ((partsI l).take i).flatten.length + (partsI l)[i].length := by
        rw [List.take_succ_eq_append_getElem hi, List.flatten_append, List.length_append]; simp
      have e2 : ((partsI l).take (i + 1)).flatten.length ≤ (partsI l).flatten.length := by
        conv => rhs; rw [← List.take_append_drop (i + 1) (partsI l), List.flatten_append, List.length_append]
        omega
      generalize ((partsI l).take (i + 1)).flatten.length = m1 at *
      generalize ((partsI l).take i).flatten.length = m at *
      have w1 : IntKind.i64.wrap ((m : Int) + ((partsI l)[i].length : Int)) = (m1 : Int) := by rw [wrap64 (by omega) (by omega)]; omega
      simp only [cIDs] at hg
      generalize (partsI l)[i] = p at *
      simp only [f4_b1, hg, dec_lt hi, l2, w1, wrap_succ hi (show (partsI l).length ≤ 9223372036854775807 by omega), go_sem, reduceIte, Nat.reduceEqDiff, List.length_cons, List.length_nil]
    · rw [List.take_length, partsI_total]
      simp only [f4_b1, dec_ge (Nat.le_refl (partsI l).length), go_sem, reduceIte, Nat.reduceEqDiff]
  have e0 : ((partsI l).take 0).flatten.length = 0 := rfl
  rw [e0] at l1
  exact l1
theorem whole_l3 {l : List Vx} {es : List Ed} (h : WF l es) (n : Nat) : E (cs F) 0 f4_l3 (⟨(upd (upd (upd (upd (upd Sx.e0 9 (.v (.int .i64 (0)))) 6 (.v (.sl .shared 1 (rowsBy cIDs (partsI l))))) 5 (.v (.int .i64 ((n : Int))))) 3 (.v (.bool (true)))) 1 (.p 1 0)), (upd Sx.h0 1 (some (.var false [(.v (.sl .shared 5 (rowsBy Vx.c l))), (.v (.sl .shared 4 (rowsBy Ed.c es)))])))⟩ : St) =
    some (.exit 4, (⟨(upd (upd (upd (upd Sx.e0 6 (.v (.sl .shared 1 (rowsBy cIDs (partsI l))))) 5 (.v (.int .i64 ((n : Int))))) 3 (.v (.bool (true)))) 1 (.p 1 0)), (upd Sx.h0 1 (some (.var false [(.v (.sl .shared 5 (rowsBy Vx.c l))), (.v (.sl .shared 4 (rowsBy Ed.c es)))])))⟩ : St)) := by
  have hle := h.le
  have l1 : E (cs F) 0 f4_l3 (⟨(upd (upd (upd (upd (upd Sx.e0 9 (.v (.int .i64 (0)))) 6 (.v (.sl .shared 1 (rowsBy cIDs (partsI l))))) 5 (.v (.int .i64 ((n : Int))))) 3 (.v (.bool (true)))) 1 (.p 1 0)), (upd Sx.h0 1 (some (.var false [(.v (.sl .shared 5 (rowsBy Vx.c l))), (.v (.sl .shared 4 (rowsBy Ed.c es)))])))⟩ : St) = some (.exit 4, (⟨(upd (upd (upd (upd Sx.e0 6 (.v (.sl .shared 1 (rowsBy cIDs (partsI l))))) 5 (.v (.int .i64 ((n : Int))))) 3 (.v (.bool (true)))) 1 (.p 1 0)), (upd Sx.h0 1 (some (.var false [(.v (.sl .shared 5 (rowsBy Vx.c l))), (.v (.sl .shared 4 (rowsBy Ed.c es)))])))⟩ : St)) := by
    refine loop_to (b := f4_b3) (fun q0 => (⟨(upd (upd (upd (upd (upd Sx.e0 9 (.v (.int .i64 ((q0 : Int))))) 6 (.v (.sl .shared 1 (rowsBy cIDs (partsI l))))) 5 (.v (.int .i64 ((n : Int))))) 3 (.v (.bool (true)))) 1 (.p 1 0)), (upd Sx.h0 1 (some (.var false [(.v (.sl .shared 5 (rowsBy Vx.c l))), (.v (.sl .shared 4 (rowsBy Ed.c es)))])))⟩ : St)) (es.length) ?_ ?_ (by simp)
    · intro j hj
      have hjz : (j : Int) < (es.length : Int) := by omega
      obtain ⟨m0, m1⟩ := h.edge_in (List.getElem_mem hj)
      have p0 := (dpl_at m0).1
      have p1 := (dpl_at m1).1
      have c0 := i_r04_At l ⟨es[j].id, 0⟩ h.fits h.fitsR (.sl .shared 4 (rowsBy Ed.c es))
      have c1 := i_r04_At l ⟨es[j].id, 1⟩ h.fits h.fitsR (.sl .shared 4 (rowsBy Ed.c es))
      rw [(h.plV_dpl m0).1] at c0
      rw [(h.plV_dpl m1).1] at c1
      rw [show atT (some (l.getD (dpl l ⟨es[j].id, 0⟩) Vx0)) = .tup [.agg [.int .i64 (idAt l (dpl l ⟨es[j].id, 0⟩)).s, .int .i64 (idAt l (dpl l ⟨es[j].id, 0⟩)).n], .bool true] from rfl] at c0
      rw [show atT (some (l.getD (dpl l ⟨es[j].id, 1⟩) Vx0)) = .tup [.agg [.int .i64 (idAt l (dpl l ⟨es[j].id, 1⟩)).s, .int .i64 (idAt l (dpl l ⟨es[j].id, 1⟩)).n], .bool true] from rfl] at c1
      have c2 := i_Together h (idAt l (dpl l ⟨es[j].id, 0⟩)) (idAt l (dpl l ⟨es[j].id, 1⟩))
      have e1 := (h.edge_step (List.getElem_mem hj)).2.2
      rw [togB_at h.sv.nodup p0 p1, dec_t (((labV_lab l).eq stepV_symm p0 p1).1 (.one e1))] at c2
      generalize idAt l (dpl l ⟨es[j].id, 0⟩) = x0 at *
      generalize idAt l (dpl l ⟨es[j].id, 1⟩) = x1 at *
      simp only [f4_b3, hjz, rowsBy_get Ed.c hj, Ed.c, c0, c1, c2, wrap_succ hj (show es.length ≤ 9223372036854775807 by omega), go_sem, reduceIte, Nat.reduceEqDiff, Nat.reduceAdd, Nat.reduceMul, Nat.reduceLeDiff, Nat.reduceBEq, List.length_cons, List.length_nil, Nat.testBit, Nat.reduceShiftRight, Nat.reduceAnd, Nat.reduceBNe]
    · simp only [f4_b3, dec_ge (Nat.le_refl es.length), go_sem, reduceIte, Nat.reduceEqDiff, Nat.reduceAdd, List.length_cons, List.length_nil]
  exact l1
theorem t_whole (l : List Vx) (es : List Ed) (hr : FitsR l) (hL : FitsL l es) : call F 4 [.agg [.sl .shared 5 (rowsBy Vx.c l), .sl .shared 4 (rowsBy Ed.c es)]] = some (.bool true) := by
  have csh := c_shown
  have cf := c_formed l es hr hL
  by_cases hf : formC l es = 0
  · have h := (formC_ok.1 hf).1
    have hlv := h.lv
    have hle := h.le
    rw [dec_t hf] at cf
    have c1 := i_Parts h
    have c2 := i_comp_Count h
    have l1 := whole_l1 h
    have l3 := whole_l3 h l.length
    have hpl := partsI_len l
    have hge := parts_ge h
    have hpn := partsN_le (labV l) l.length
    generalize partsN (labV l) l.length = z at *
    generalize partsI l = P at *
    have w1 : IntKind.i64.wrap ((l.length : Int) - (es.length : Int)) = (l.length : Int) - (es.length : Int) := wrap64 (by omega) (by omega)
    have d1 : decide ((l.length : Int) = (l.length : Int)) = true := dec_t rfl
    have d2 : decide ((z : Int) = (z : Int)) = true := dec_t rfl
    have d3 : decide ((z : Int) ≥ (l.length : Int) - (es.length : Int)) = true := dec_t (by omega)
    have d4 : decide ((z : Int) ≤ (l.length : Int)) = true := dec_t (by omega)
    rw [call_code F (show F 4 = some (.code f4) from rfl)]
    simp only [f4, csh, cf, c1, c2, l1, l3, hpl, w1, d3, d4, go_sem, reduceIte, reduceCtorEq, Nat.reduceEqDiff, Nat.reduceAdd, Nat.reduceMul, Nat.reduceLeDiff, List.length_cons, List.length_nil]
  · rw [dec_f hf] at cf
    rw [call_code F (show F 4 = some (.code f4) from rfl)]
    simp only [f4, csh, cf, go_sem, reduceIte, reduceCtorEq, Nat.reduceEqDiff, Nat.reduceAdd, Nat.reduceMul, List.length_cons, List.length_nil]
end Go.Proofs.Ytfhijlhiifkkhaa.Sx
namespace Go.Proofs.Ytfhijlhiifkkhaa.Sx
open Go Go.RowKit Go.ChangeShapes Go.WideShapes Go.ChangeAt
theorem agg_of {t : TypeId} {n : Nat} {a : TV} (hagg : isAggB Try.prog t = true) (h : ArgShape Try.prog n t a) : ∃ ts, a = .agg ts ∧ Shape Try.prog n t ts := by
  unfold ArgShape at h; rw [if_pos hagg] at h; exact h
theorem plain_of {t : TypeId} {n : Nat} {a : TV} (hagg : isAggB Try.prog t = false) (h : ArgShape Try.prog n t a) : Shape Try.prog n t [a] := by
  unfold ArgShape at h; rw [if_neg (by rw [hagg]; simp)] at h; exact h
theorem own : ownKnob Try.prog.godebug = none := by kernel_rfl
theorem laidOut : laidOutB Try.prog = true := by kernel_rfl
/-- rows that are each of a form are a list's -/
theorem rows_list {α : Type} {c : α → List TV} {S : List TV → Prop} {Q : α → Prop} (h : ∀ ts, S ts → ∃ x, ts = c x ∧ Q x) : ∀ {rows : List (List TV)}, (∀ r ∈ rows, S r) → ∃ l : List α, rows = rowsBy c l ∧ ∀ x ∈ l, Q x
  | [], _ => ⟨[], rfl, by simp⟩
  | r :: rows, hr => by
    obtain ⟨x, rfl, hx⟩ := h r (hr r (by simp))
    obtain ⟨l, rfl, hl⟩ := rows_list h (rows := rows) fun q hq => hr q (by simp [hq])
    refine ⟨x :: l, rfl, fun y hy => ?_⟩
    rcases List.mem_cons.1 hy with rfl | hy
    · exact hx
    · exact hl y hy
theorem shInt {n : Nat} {ts : List TV} (h : Shape Try.prog (n + 1) 3 ts) : ∃ a, ts = [.int .i64 a] ∧ IntKind.i64.has a := by
  unfold Shape at h; rw [Try.underlying3] at h; exact h
theorem shBool {n : Nat} {ts : List TV} (h : Shape Try.prog (n + 1) 4 ts) : ∃ b, ts = [.bool b] := by
  unfold Shape at h; rw [Try.underlying4] at h; exact h
theorem shStr {n : Nat} {ts : List TV} (h : Shape Try.prog (n + 1) 9 ts) : ∃ a : ByteArray, ts = [.str a] ∧ a.size ≤ 140737488351232 := by
  unfold Shape at h; rw [Try.underlying9] at h
  obtain ⟨a, rfl, _, ha⟩ := h; exact ⟨a, rfl, ha⟩
theorem shID {n : Nat} {ts : List TV} (h : Shape Try.prog (n + 2) 27 ts) : ∃ x : ID, ts = ID.c x := by
  unfold Shape at h; rw [Try.underlying27] at h
  obtain ⟨x, r, rfl, h1, y, r', rfl, h2, rfl⟩ := h
  obtain ⟨a, rfl, ha⟩ := shInt h1
  obtain ⟨b, rfl, hb⟩ := shInt h2
  exact ⟨⟨a, b⟩, rfl⟩
theorem shDart {n : Nat} {ts : List TV} (h : Shape Try.prog (n + 3) 44 ts) : ∃ x : Dart, ts = Dart.c x := by
  unfold Shape at h; rw [Try.underlying44] at h
  obtain ⟨x, r, rfl, h1, y, r', rfl, h2, rfl⟩ := h
  obtain ⟨e, rfl⟩ := shID h1
  obtain ⟨c, rfl, _⟩ := shInt h2
  exact ⟨⟨e, c⟩, rfl⟩
theorem shDarts {n : Nat} {ts : List TV} (h : Shape Try.prog (n + 4) 45 ts) : ∃ l : List Dart, ts = [.sl .shared 3 (rowsBy Dart.c l)] ∧ Fits l := by
  unfold Shape at h; rw [Try.underlying45] at h
  obtain ⟨rows, rfl, ⟨_, hb⟩, hr⟩ := h
  obtain ⟨l, rfl, _⟩ := rows_list (c := Dart.c) (Q := fun _ => True) (fun ts h => (shDart h).imp fun _ h => ⟨h, trivial⟩) hr
  refine ⟨l, rfl, Fits.of ?_⟩
  rw [rowsBy_length, show Try.prog.bytesOf 44 = 24 by kernel_rfl] at hb
  simp only [reachBytes] at hb
  omega
def VxOk (v : Vx) : Prop := Fits v.ring ∧ v.label.size ≤ 9223372036854775807
def EdOk (v : Ed) : Prop := v.label.size ≤ 9223372036854775807
theorem shVx {n : Nat} {ts : List TV} (h : Shape Try.prog (n + 5) 47 ts) : ∃ x : Vx, ts = Vx.c x ∧ VxOk x := by
  unfold Shape at h; rw [Try.underlying47] at h
  obtain ⟨x, r, rfl, h1, y, r', rfl, h2, z, r'', rfl, h3, u, r3, rfl, h4, rfl⟩ := h
  obtain ⟨e, rfl⟩ := shID h1
  obtain ⟨l, rfl, hl⟩ := shDarts h2
  obtain ⟨s, rfl, hs⟩ := shStr h3
  obtain ⟨c, rfl, _⟩ := shInt h4
  exact ⟨⟨e, l, s, c⟩, rfl, hl, Nat.le_trans hs (by decide)⟩
theorem shEd {n : Nat} {ts : List TV} (h : Shape Try.prog (n + 3) 42 ts) : ∃ x : Ed, ts = Ed.c x ∧ EdOk x := by
  unfold Shape at h; rw [Try.underlying42] at h
  obtain ⟨x, r, rfl, h1, z, r'', rfl, h3, u, r3, rfl, h4, rfl⟩ := h
  obtain ⟨e, rfl⟩ := shID h1
  obtain ⟨s, rfl, hs⟩ := shStr h3
  obtain ⟨c, rfl, _⟩ := shInt h4
  exact ⟨⟨e, s, c⟩, rfl, Nat.le_trans hs (by decide)⟩
theorem shVxs {n : Nat} {ts : List TV} (h : Shape Try.prog (n + 6) 22 ts) : ∃ l : List Vx, ts = [.sl .shared 5 (rowsBy Vx.c l)] ∧ ∀ v ∈ l, VxOk v := by
  unfold Shape at h; rw [Try.underlying22] at h
  obtain ⟨rows, rfl, _, hr⟩ := h
  obtain ⟨l, rfl, hl⟩ := rows_list (c := Vx.c) (fun ts h => shVx h) hr
  exact ⟨l, rfl, hl⟩
theorem shEds {n : Nat} {ts : List TV} (h : Shape Try.prog (n + 4) 23 ts) : ∃ l : List Ed, ts = [.sl .shared 4 (rowsBy Ed.c l)] ∧ ∀ v ∈ l, EdOk v := by
  unfold Shape at h; rw [Try.underlying23] at h
  obtain ⟨rows, rfl, _, hr⟩ := h
  obtain ⟨l, rfl, hl⟩ := rows_list (c := Ed.c) (fun ts h => shEd h) hr
  exact ⟨l, rfl, hl⟩
theorem shVxsF {n : Nat} {ts : List TV} (h : Shape Try.prog (n + 6) 22 ts) : ∃ l : List Vx, ts = [.sl .shared 5 (rowsBy Vx.c l)] ∧ (∀ v ∈ l, VxOk v) ∧ Fits l := by
  unfold Shape at h; rw [Try.underlying22] at h
  obtain ⟨rows, rfl, ⟨_, hb⟩, hr⟩ := h
  obtain ⟨l, rfl, hl⟩ := rows_list (c := Vx.c) (fun ts h => shVx h) hr
  refine ⟨l, rfl, hl, Fits.of ?_⟩
  rw [rowsBy_length, show Try.prog.bytesOf 47 = 64 by kernel_rfl] at hb
  simp only [reachBytes] at hb
  omega
theorem shEdsF {n : Nat} {ts : List TV} (h : Shape Try.prog (n + 4) 23 ts) : ∃ l : List Ed, ts = [.sl .shared 4 (rowsBy Ed.c l)] ∧ (∀ v ∈ l, EdOk v) ∧ Fits l := by
  unfold Shape at h; rw [Try.underlying23] at h
  obtain ⟨rows, rfl, ⟨_, hb⟩, hr⟩ := h
  obtain ⟨l, rfl, hl⟩ := rows_list (c := Ed.c) (fun ts h => shEd h) hr
  refine ⟨l, rfl, hl, Fits.of ?_⟩
  rw [rowsBy_length, show Try.prog.bytesOf 42 = 40 by kernel_rfl] at hb
  simp only [reachBytes] at hb
  omega
theorem shDiagramF {n : Nat} {ts : List TV} (h : Shape Try.prog (n + 7) 25 ts) : ∃ (vs : List Vx) (es : List Ed), ts = [.sl .shared 5 (rowsBy Vx.c vs), .sl .shared 4 (rowsBy Ed.c es)] ∧ FitsR vs ∧ FitsL vs es ∧ Fits vs ∧ Fits es := by
  unfold Shape at h; rw [Try.underlying25] at h
  obtain ⟨x, r, rfl, h1, z, r'', rfl, h3, rfl⟩ := h
  obtain ⟨d, rfl, hd, hf⟩ := shVxsF h1
  obtain ⟨e, rfl, he, hg⟩ := shEdsF h3
  exact ⟨d, e, rfl, fun v hv => (hd v hv).1, ⟨fun v hv => (hd v hv).2, he⟩, hf, hg⟩
theorem shDiagram {n : Nat} {ts : List TV} (h : Shape Try.prog (n + 7) 25 ts) : ∃ (vs : List Vx) (es : List Ed), ts = [.sl .shared 5 (rowsBy Vx.c vs), .sl .shared 4 (rowsBy Ed.c es)] ∧ FitsR vs ∧ FitsL vs es := by
  unfold Shape at h; rw [Try.underlying25] at h
  obtain ⟨x, r, rfl, h1, z, r'', rfl, h3, rfl⟩ := h
  obtain ⟨d, rfl, hd⟩ := shVxs h1
  obtain ⟨e, rfl, he⟩ := shEds h3
  exact ⟨d, e, rfl, fun v hv => (hd v hv).1, fun v hv => (hd v hv).2, he⟩
end Go.Proofs.Ytfhijlhiifkkhaa.Sx
