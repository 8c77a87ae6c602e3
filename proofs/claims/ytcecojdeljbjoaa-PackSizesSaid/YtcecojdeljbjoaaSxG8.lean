/- What the functions of faces come to. Faces gone round: what the iterator's rounds come to. All faces: what the program's rounds, and the reference's, come to. Lesser places spread along edges, in plain Lean: n rounds of that come to the least place of each part. Parts of a diagram that is well formed, in plain Lean: which vertices hang together; the reference's rounds; parts as lists. Chapter 6: its functions, the program's and the reference's, as what they come to in a diagram that is well formed. Faces, parts and the genus of a diagram that is well formed. Diagrams as bytes, in plain Lean: laid down, taken, and back. Numbers and texts as bytes: what the functions that lay them down come to. Diagrams laid down as bytes: what the functions come to. Diagrams laid down as bytes: pack.Put and its reference. Chapter 8: the head of its statements; numbers and texts. Chapter 8: the first of some; sizes. The forms of this seat's arguments. -/
import Derived.Test.YtcecojdeljbjoaaRows
import Derived.Test.YtcecojdeljbjoaaSxG4
import Derived.Test.YtcecojdeljbjoaaSxG5
import Derived.Test.YtcecojdeljbjoaaSxG6
import Derived.Test.YtcecojdeljbjoaaSxG7
set_option maxRecDepth 100000
set_option linter.unusedSimpArgs false
set_option linter.unusedVariables false
namespace Go.Proofs.Ytcecojdeljbjoaa.Sx
open Go
theorem c_ident_Other (x : Dart) (h : x.d = 0 ∨ x.d = 1) : call F 100 [.agg [.int .i64 x.e.s, .int .i64 x.e.n, .int .i64 x.d]] = some (.agg [.int .i64 x.e.s, .int .i64 x.e.n, .int .i64 (1 - x.d)]) := by
  obtain ⟨e, d⟩ := x
  simp only at h
  have h0 : IntKind.i64.wrap (xorB .i64 0 1) = 1 := by decide
  have h1 : IntKind.i64.wrap (xorB .i64 1 1) = 0 := by decide
  rcases h with rfl | rfl
  · rw [call_code F (show F 100 = some (.code f100) from rfl)]
    simp only [f100, h0, go_sem, reduceIte, reduceCtorEq, Nat.reduceEqDiff, Nat.reduceAdd, Nat.reduceMul, Nat.reduceLeDiff, Nat.reduceSub, Nat.reduceBEq, List.length_cons, List.length_nil, Int.reduceLT, Int.reduceLE, Int.reduceGT, Int.reduceGE, Int.reduceAdd, Int.reduceSub, Int.reduceMul, Int.reduceNeg, Int.reduceToNat, Int.reduceEq, Int.reduceNe, Int.cast_ofNat_Int, ne_eq, not_true_eq_false, not_false_eq_true, Nat.testBit, Nat.reduceShiftRight, Nat.reduceAnd, Nat.reduceBNe]
  · rw [call_code F (show F 100 = some (.code f100) from rfl)]
    simp only [f100, h1, go_sem, reduceIte, reduceCtorEq, Nat.reduceEqDiff, Nat.reduceAdd, Nat.reduceMul, Nat.reduceLeDiff, Nat.reduceSub, Nat.reduceBEq, List.length_cons, List.length_nil, Int.reduceLT, Int.reduceLE, Int.reduceGT, Int.reduceGE, Int.reduceAdd, Int.reduceSub, Int.reduceMul, Int.reduceNeg, Int.reduceToNat, Int.reduceEq, Int.reduceNe, Int.cast_ofNat_Int, ne_eq, not_true_eq_false, not_false_eq_true, Nat.testBit, Nat.reduceShiftRight, Nat.reduceAnd, Nat.reduceBNe]
theorem dartsE_snoc (es : List Ed) (e : Ed) : dartsE (es ++ [e]) = dartsE es ++ [⟨e.id, 0⟩, ⟨e.id, 1⟩] := by unfold dartsE; rw [List.flatMap_append]; simp
theorem rowsBy_two {l : List Dart} (e : ID) : rowsBy Dart.c l ++ [[.int .i64 e.s, .int .i64 e.n, .int .i64 0], [.int .i64 e.s, .int .i64 e.n, .int .i64 1]] = rowsBy Dart.c (l ++ [⟨e, 0⟩, ⟨e, 1⟩]) := by rw [← rowsBy_append]; rfl
theorem i_face_Darts (vs : TV) (es : List Ed) (he : es.length ≤ 100000) : call F 94 [.agg [vs, .sl .shared 4 (rowsBy Ed.c es)]] = some (.sl (.own 56) 3 (rowsBy Dart.c (dartsE es))) := by
  have hw : es.length ≤ 9223372036854775807 := by omega
  have l1 : E (cs F) 0 f94_l1 (⟨(upd (upd (upd (upd Sx.e0 10 (.v (.int .i64 (0)))) 9 (.v (.int .i64 ((es.length : Int))))) 8 (.v (.sl .shared 4 (rowsBy Ed.c es)))) 3 (.v (.sl (.tight 56) 3 []))), Sx.h0⟩ : St) = some (if es.length = 0 then (.exit 0, (⟨(upd Sx.e0 3 (.v (.sl (.tight 56) 3 []))), Sx.h0⟩ : St)) else (.exit 0, (⟨(upd Sx.e0 3 (.s 3 0 (dartsE es).length)), (upd Sx.h0 3 (some (.arr false 56 3 (rowsBy Dart.c (dartsE es)))))⟩ : St))) := by
    refine loop_grow (b := f94_b1) _ (fun q0 => (⟨(upd (upd (upd (upd Sx.e0 10 (.v (.int .i64 ((q0 : Int))))) 9 (.v (.int .i64 ((es.length : Int))))) 8 (.v (.sl .shared 4 (rowsBy Ed.c es)))) 3 (.s 3 0 (dartsE (es.take q0)).length)), (upd Sx.h0 3 (some (.arr false 56 3 (rowsBy Dart.c (dartsE (es.take q0))))))⟩ : St)) (es.length) ?_ (by simp) ?_ ?_ ?_ (by simp)
    · intro h0
      simp only [f94_b1, show decide ((0 : Int) < (es.length : Int)) = false from decide_eq_false (by omega), go_sem, reduceIte, reduceCtorEq, Nat.reduceEqDiff, Nat.reduceAdd, Nat.reduceMul, Nat.reduceLeDiff, Nat.reduceSub, Nat.reduceBEq, List.length_cons, List.length_nil, Int.reduceLT, Int.reduceLE, Int.reduceGT, Int.reduceGE, Int.reduceAdd, Int.reduceSub, Int.reduceMul, Int.reduceNeg, Int.reduceToNat, Int.reduceEq, Int.reduceNe, Int.cast_ofNat_Int, ne_eq, not_true_eq_false, not_false_eq_true, Nat.testBit, Nat.reduceShiftRight, Nat.reduceAnd, Nat.reduceBNe]
    · intro hn
      have hs : es.take 1 = [es[0]] := List.take_succ_eq_append_getElem (i := 0) hn
      have d1 : decide ((0 : Int) < (es.length : Int)) = true := decide_eq_true (by omega)
      have h1z : (0 : Int) < (es.length : Int) := by omega
      have hd : dartsE [es[0]] = [⟨es[0].id, 0⟩, ⟨es[0].id, 1⟩] := by simp [dartsE]
      have c1 := c_ident_Other ⟨es[0].id, 0⟩ (.inl rfl)
      simp only [Int.reduceSub] at c1
      rw [hs, hd]
      simp only [f94_b1, d1, h1z, rowsBy_get Ed.c hn, Ed.c, c1, show IntKind.i64.wrap 1 = 1 from rfl, rowsBy, Dart.c, go_sem, reduceIte, reduceCtorEq, Nat.reduceEqDiff, Nat.reduceAdd, Nat.reduceMul, Nat.reduceLeDiff, Nat.reduceSub, Nat.reduceBEq, List.length_cons, List.length_nil, Int.reduceLT, Int.reduceLE, Int.reduceGT, Int.reduceGE, Int.reduceAdd, Int.reduceSub, Int.reduceMul, Int.reduceNeg, Int.reduceToNat, Int.reduceEq, Int.reduceNe, Int.cast_ofNat_Int, ne_eq, not_true_eq_false, not_false_eq_true, Nat.testBit, Nat.reduceShiftRight, Nat.reduceAnd, Nat.reduceBNe]
    · intro i hi0 hi
      have h1z : (i : Int) < (es.length : Int) := by omega
      have hs : es.take (i + 1) = es.take i ++ [es[i]] := List.take_succ_eq_append_getElem hi
      have hl : (dartsE (es.take i)).length ≤ 2 * i := by rw [dartsE_len, List.length_take]; omega
      have c1 := c_ident_Other ⟨es[i].id, 0⟩ (.inl rfl)
      simp only [Int.reduceSub] at c1
      rw [hs, dartsE_snoc]
      generalize dartsE (es.take i) = q at *
      have h5 : (q.length + 2) * 24 ≤ 140737488355328 := by omega
      have h6 := rowsBy_two (l := q) es[i].id
      simp only [f94_b1, dec_lt hi, h1z, rowsBy_get Ed.c hi, Ed.c, c1, h5, h6, wrap_succ hi hw, List.length_append, go_sem, reduceIte, reduceCtorEq, Nat.reduceEqDiff, Nat.reduceAdd, Nat.reduceMul, Nat.reduceLeDiff, Nat.reduceSub, Nat.reduceBEq, List.length_cons, List.length_nil, Int.reduceLT, Int.reduceLE, Int.reduceGT, Int.reduceGE, Int.reduceAdd, Int.reduceSub, Int.reduceMul, Int.reduceNeg, Int.reduceToNat, Int.reduceEq, Int.reduceNe, Int.cast_ofNat_Int, ne_eq, not_true_eq_false, not_false_eq_true, Nat.testBit, Nat.reduceShiftRight, Nat.reduceAnd, Nat.reduceBNe]
    · intro hn
      rw [List.take_length]
      simp only [f94_b1, dec_ge (Nat.le_refl es.length), go_sem, reduceIte, reduceCtorEq, Nat.reduceEqDiff, Nat.reduceAdd, Nat.reduceMul, Nat.reduceLeDiff, Nat.reduceSub, Nat.reduceBEq, List.length_cons, List.length_nil, Int.reduceLT, Int.reduceLE, Int.reduceGT, Int.reduceGE, Int.reduceAdd, Int.reduceSub, Int.reduceMul, Int.reduceNeg, Int.reduceToNat, Int.reduceEq, Int.reduceNe, Int.cast_ofNat_Int, ne_eq, not_true_eq_false, not_false_eq_true, Nat.testBit, Nat.reduceShiftRight, Nat.reduceAnd, Nat.reduceBNe]
  rw [call_code F (show F 94 = some (.code f94) from rfl)]
  by_cases h0 : es.length = 0
  · rw [if_pos h0] at l1
    have e0 : es = [] := List.eq_nil_of_length_eq_zero h0
    have e1 : dartsE es = [] := by rw [e0]; rfl
    rw [e1]
    simp only [f94, l1, rowsBy, go_sem, reduceIte, reduceCtorEq, Nat.reduceEqDiff, Nat.reduceAdd, Nat.reduceMul, Nat.reduceLeDiff, Nat.reduceSub, Nat.reduceBEq, List.length_cons, List.length_nil, Int.reduceLT, Int.reduceLE, Int.reduceGT, Int.reduceGE, Int.reduceAdd, Int.reduceSub, Int.reduceMul, Int.reduceNeg, Int.reduceToNat, Int.reduceEq, Int.reduceNe, Int.cast_ofNat_Int, ne_eq, not_true_eq_false, not_false_eq_true, Nat.testBit, Nat.reduceShiftRight, Nat.reduceAnd, Nat.reduceBNe]
  · rw [if_neg h0] at l1
    simp only [f94, l1, go_sem, reduceIte, reduceCtorEq, Nat.reduceEqDiff, Nat.reduceAdd, Nat.reduceMul, Nat.reduceLeDiff, Nat.reduceSub, Nat.reduceBEq, List.length_cons, List.length_nil, Int.reduceLT, Int.reduceLE, Int.reduceGT, Int.reduceGE, Int.reduceAdd, Int.reduceSub, Int.reduceMul, Int.reduceNeg, Int.reduceToNat, Int.reduceEq, Int.reduceNe, Int.cast_ofNat_Int, ne_eq, not_true_eq_false, not_false_eq_true, Nat.testBit, Nat.reduceShiftRight, Nat.reduceAnd, Nat.reduceBNe]
theorem ring_le {l : List Vx} {v : Vx} (hv : v ∈ l) : v.ring.length ≤ (allR l).length := by
  induction l with
  | nil => cases hv
  | cons u l ih =>
    rw [allR_cons, List.length_append]
    rcases List.mem_cons.1 hv with rfl | hv
    · omega
    · have := ih hv; omega
theorem WF.fits {l : List Vx} {es : List Ed} (h : WF l es) : Fits l := by have := h.lv; exact Fits.of (by omega)
theorem WF.ring80 {l : List Vx} {es : List Ed} (h : WF l es) {v : Vx} (hv : v ∈ l) : v.ring.length ≤ 80 := by
  have h1 := ring_le hv
  rw [h.many] at h1
  have := h.le
  omega
theorem WF.fitsR {l : List Vx} {es : List Ed} (h : WF l es) : FitsR l := fun v hv => by
  have := h.ring80 hv
  exact Fits.of (by omega)
theorem WF.side {l : List Vx} {es : List Ed} (h : WF l es) {x : Dart} (hx : x ∈ allR l) : x.d = 0 ∨ x.d = 1 := by
  obtain ⟨e, _, h⟩ := dartsE_mem.1 ((h.mem x).1 hx)
  rcases h with rfl | rfl
  · exact .inl rfl
  · exact .inr rfl
theorem sigD_none {l : List Vx} {x : Dart} (h : atBy l x = none) : sigD l x = Dart0 := by unfold sigD; rw [h]
theorem sigD_some {l : List Vx} {x : Dart} {v : Vx} (h : atBy l x = some v) : sigD l x = nextD v.ring x := by unfold sigD; rw [h]
theorem at_mem {l : List Vx} {x : Dart} {v : Vx} (h : atBy l x = some v) : x ∈ allR l := mem_allR (atBy_some h).1 (atBy_some h).2
/-- a dart, and whether it is one -/
def sgT (l : List Vx) (x : Dart) : TV := .tup [dartT (sigD l x), .bool (decide (x ∈ allR l))]
def phT (l : List Vx) (x : Dart) : TV := .tup [dartT (if x ∈ allR l then phiD l x else Dart0), .bool (decide (x ∈ allR l))]
theorem i_face_Sigma (l : List Vx) (x : Dart) (hl : Fits l) (hr : FitsR l) (es : TV) : call F 107 [.agg [.sl .shared 5 (rowsBy Vx.c l), es], .agg [.int .i64 x.e.s, .int .i64 x.e.n, .int .i64 x.d]] = some (sgT l x) := by
  have hle : (l).length ≤ 5864062014634 := hl.le
  have hw : (l).length ≤ 9223372036854775807 := Nat.le_trans hle (by decide)
  have S : ∀ n, n ≤ (l).length → (∀ i, i < n → ∀ hi : i < (l).length, (fun v : Vx => decide (x ∈ v.ring)) (l)[i] = false) → ∀ r, E (cs F) 0 f107_b1 (⟨(upd (upd (upd (upd (upd Sx.e0 13 (.v (.int .i64 ((n : Int))))) 12 (.v (.int .i64 ((l.length : Int))))) 11 (.v (.sl .shared 5 (rowsBy Vx.c l)))) 4 (.p 4 0)) 3 (.p 3 0)), (upd (upd Sx.h0 4 (some (.var false [(.v (.int .i64 (0))), (.v (.int .i64 (0))), (.v (.int .i64 (0)))]))) 3 (some (.var false [(.v (.int .i64 (x.e.s))), (.v (.int .i64 (x.e.n))), (.v (.int .i64 (x.d)))])))⟩ : St) = some r → r.1 ≠ .norm →
      E (cs F) 0 f107_l1 (⟨(upd (upd (upd (upd (upd Sx.e0 13 (.v (.int .i64 (0)))) 12 (.v (.int .i64 ((l.length : Int))))) 11 (.v (.sl .shared 5 (rowsBy Vx.c l)))) 4 (.p 4 0)) 3 (.p 3 0)), (upd (upd Sx.h0 4 (some (.var false [(.v (.int .i64 (0))), (.v (.int .i64 (0))), (.v (.int .i64 (0)))]))) 3 (some (.var false [(.v (.int .i64 (x.e.s))), (.v (.int .i64 (x.e.n))), (.v (.int .i64 (x.d)))])))⟩ : St) = some r := by
    intro n hn hno r hf hrr
    refine loop_to (b := f107_b1) (fun i => (⟨(upd (upd (upd (upd (upd Sx.e0 13 (.v (.int .i64 ((i : Int))))) 12 (.v (.int .i64 ((l.length : Int))))) 11 (.v (.sl .shared 5 (rowsBy Vx.c l)))) 4 (.p 4 0)) 3 (.p 3 0)), (upd (upd Sx.h0 4 (some (.var false [(.v (.int .i64 (0))), (.v (.int .i64 (0))), (.v (.int .i64 (0)))]))) 3 (some (.var false [(.v (.int .i64 (x.e.s))), (.v (.int .i64 (x.e.n))), (.v (.int .i64 (x.d)))])))⟩ : St)) n ?_ hf hrr
    intro i hi
    have h1 : i < (l).length := Nat.lt_of_lt_of_le hi hn
    have h1z : (i : Int) < ((l).length : Int) := Int.ofNat_lt.2 h1
    have hne := hno i hi h1
    have hv := i_ring_Next l[i].ring x (hr _ (List.getElem_mem h1))
    rw [show decide (x ∈ l[i].ring) = false from hne] at hv
    simp only [dartT] at hv
    simp only [f107_b1, dec_lt h1, h1z, rowsBy_get Vx.c h1, Vx.c, hv, wrap_succ h1 hw, go_sem, reduceIte, reduceCtorEq, Nat.reduceEqDiff, Nat.reduceAdd, Nat.reduceMul, Nat.reduceLeDiff, Nat.reduceSub, Nat.reduceBEq, List.length_cons, List.length_nil, Int.reduceLT, Int.reduceLE, Int.reduceGT, Int.reduceGE, Int.reduceAdd, Int.reduceSub, Int.reduceMul, Int.reduceNeg, Int.reduceToNat, Int.reduceEq, Int.reduceNe, Int.cast_ofNat_Int, ne_eq, not_true_eq_false, not_false_eq_true, Nat.testBit, Nat.reduceShiftRight, Nat.reduceAnd, Nat.reduceBNe]
  have S := S ((l).findIdx (fun v : Vx => decide (x ∈ v.ring))) List.findIdx_le_length (fun i h1 h2 => findIdx_not h1 h2)
  rcases findIdx_cases (fun v : Vx => decide (x ∈ v.ring)) (l) with h0 | ⟨hlt, hp⟩
  · rw [h0] at S
    have := S _ (by simp only [f107_b1, dec_ge (Nat.le_refl (l).length), go_sem, reduceIte, reduceCtorEq, Nat.reduceEqDiff, Nat.reduceAdd, Nat.reduceMul, Nat.reduceLeDiff, Nat.reduceSub, Nat.reduceBEq, List.length_cons, List.length_nil, Int.reduceLT, Int.reduceLE, Int.reduceGT, Int.reduceGE, Int.reduceAdd, Int.reduceSub, Int.reduceMul, Int.reduceNeg, Int.reduceToNat, Int.reduceEq, Int.reduceNe, Int.cast_ofNat_Int, ne_eq, not_true_eq_false, not_false_eq_true, Nat.testBit, Nat.reduceShiftRight, Nat.reduceAnd, Nat.reduceBNe]
                    rfl) (by simp)
    have hn : atBy l x = none := by rw [atBy, firstBy_none h0]
    rw [sgT, sigD_none hn, dec_f (atBy_none hn)]
    rw [call_code F (show F 107 = some (.code f107) from rfl)]
    simp only [f107, this, dartT, Dart0, ID0, go_sem, reduceIte, reduceCtorEq, Nat.reduceEqDiff, Nat.reduceAdd, Nat.reduceMul, Nat.reduceLeDiff, Nat.reduceSub, Nat.reduceBEq, List.length_cons, List.length_nil, Int.reduceLT, Int.reduceLE, Int.reduceGT, Int.reduceGE, Int.reduceAdd, Int.reduceSub, Int.reduceMul, Int.reduceNeg, Int.reduceToNat, Int.reduceEq, Int.reduceNe, Int.cast_ofNat_Int, ne_eq, not_true_eq_false, not_false_eq_true, Nat.testBit, Nat.reduceShiftRight, Nat.reduceAnd, Nat.reduceBNe]
  · have hs : atBy l x = some l[(l).findIdx (fun v : Vx => decide (x ∈ v.ring))] := by rw [atBy, firstBy_some hlt]
    rw [sgT, sigD_some hs, dec_t (at_mem hs)]
    generalize (l).findIdx (fun v : Vx => decide (x ∈ v.ring)) = n at *
    have hltz : (n : Int) < ((l).length : Int) := Int.ofNat_lt.2 hlt
    have hv := i_ring_Next l[n].ring x (hr _ (List.getElem_mem hlt))
    rw [show decide (x ∈ l[n].ring) = true from hp] at hv
    simp only [dartT] at hv ⊢
    have := S _ (by simp only [f107_b1, dec_lt hlt, hltz, rowsBy_get Vx.c hlt, Vx.c, hv, go_sem, reduceIte, reduceCtorEq, Nat.reduceEqDiff, Nat.reduceAdd, Nat.reduceMul, Nat.reduceLeDiff, Nat.reduceSub, Nat.reduceBEq, List.length_cons, List.length_nil, Int.reduceLT, Int.reduceLE, Int.reduceGT, Int.reduceGE, Int.reduceAdd, Int.reduceSub, Int.reduceMul, Int.reduceNeg, Int.reduceToNat, Int.reduceEq, Int.reduceNe, Int.cast_ofNat_Int, ne_eq, not_true_eq_false, not_false_eq_true, Nat.testBit, Nat.reduceShiftRight, Nat.reduceAnd, Nat.reduceBNe]
                    rfl) (by simp)
    rw [call_code F (show F 107 = some (.code f107) from rfl)]
    simp only [f107, this, go_sem, reduceIte, reduceCtorEq, Nat.reduceEqDiff, Nat.reduceAdd, Nat.reduceMul, Nat.reduceLeDiff, Nat.reduceSub, Nat.reduceBEq, List.length_cons, List.length_nil, Int.reduceLT, Int.reduceLE, Int.reduceGT, Int.reduceGE, Int.reduceAdd, Int.reduceSub, Int.reduceMul, Int.reduceNeg, Int.reduceToNat, Int.reduceEq, Int.reduceNe, Int.cast_ofNat_Int, ne_eq, not_true_eq_false, not_false_eq_true, Nat.testBit, Nat.reduceShiftRight, Nat.reduceAnd, Nat.reduceBNe]
theorem atBy_isSome {l : List Vx} {x : Dart} (h : x ∈ allR l) : ∃ v, atBy l x = some v := by
  cases hc : atBy l x with
  | none => exact absurd h (atBy_none hc)
  | some v => exact ⟨v, rfl⟩
theorem i_face_Phi {l : List Vx} {es : List Ed} (h : WF l es) (x : Dart) : call F 102 [.agg [.sl .shared 5 (rowsBy Vx.c l), .sl .shared 4 (rowsBy Ed.c es)], .agg [.int .i64 x.e.s, .int .i64 x.e.n, .int .i64 x.d]] = some (phT l x) := by
  have ca := i_At l x h.fits h.fitsR (.sl .shared 4 (rowsBy Ed.c es))
  by_cases hx : x ∈ allR l
  · obtain ⟨v, hv⟩ := atBy_isSome hx
    have co := c_ident_Other x (h.side hx)
    have cg := i_face_Sigma l (othD x) h.fits h.fitsR (.sl .shared 4 (rowsBy Ed.c es))
    have h2 : othD x ∈ allR l := h.pr.oth x hx
    rw [sgT, dec_t h2] at cg
    rw [hv] at ca
    rw [phT, if_pos hx, dec_t hx]
    simp only [atT, idT, dartT, othD] at ca cg ⊢
    rw [call_code F (show F 102 = some (.code f102) from rfl)]
    simp only [f102, ca, co, cg, phiD, othD, go_sem, reduceIte, reduceCtorEq, Nat.reduceEqDiff, Nat.reduceAdd, Nat.reduceMul, Nat.reduceLeDiff, Nat.reduceSub, Nat.reduceBEq, List.length_cons, List.length_nil, Int.reduceLT, Int.reduceLE, Int.reduceGT, Int.reduceGE, Int.reduceAdd, Int.reduceSub, Int.reduceMul, Int.reduceNeg, Int.reduceToNat, Int.reduceEq, Int.reduceNe, Int.cast_ofNat_Int, ne_eq, not_true_eq_false, not_false_eq_true, Nat.testBit, Nat.reduceShiftRight, Nat.reduceAnd, Nat.reduceBNe]
  · have hn : atBy l x = none := by
      cases hc : atBy l x with
      | none => rfl
      | some v => exact absurd (at_mem hc) hx
    rw [hn] at ca
    rw [phT, if_neg hx, dec_f hx]
    simp only [atT, idT, dartT, Dart0, ID0] at ca ⊢
    rw [call_code F (show F 102 = some (.code f102) from rfl)]
    simp only [f102, ca, go_sem, reduceIte, reduceCtorEq, Nat.reduceEqDiff, Nat.reduceAdd, Nat.reduceMul, Nat.reduceLeDiff, Nat.reduceSub, Nat.reduceBEq, List.length_cons, List.length_nil, Int.reduceLT, Int.reduceLE, Int.reduceGT, Int.reduceGE, Int.reduceAdd, Int.reduceSub, Int.reduceMul, Int.reduceNeg, Int.reduceToNat, Int.reduceEq, Int.reduceNe, Int.cast_ofNat_Int, ne_eq, not_true_eq_false, not_false_eq_true, Nat.testBit, Nat.reduceShiftRight, Nat.reduceAnd, Nat.reduceBNe]
end Go.Proofs.Ytcecojdeljbjoaa.Sx
namespace Go.Proofs.Ytcecojdeljbjoaa.Sx
open Go
/-- the first darts of a face -/
def firsts (f : Dart → Dart) (x : Dart) (i : Nat) : List Dart := (List.range i).map fun k => it f k x
theorem firsts_snoc (f : Dart → Dart) (x : Dart) (i : Nat) : firsts f x (i + 1) = firsts f x i ++ [it f i x] := by unfold firsts; rw [List.range_succ, List.map_append]; rfl
theorem firsts_len (f : Dart → Dart) (x : Dart) (i : Nat) : (firsts f x i).length = i := by unfold firsts; simp
def pcD (x : Dart) : TV := .pc [.int .i64 x.e.s, .int .i64 x.e.n, .int .i64 x.d]
def obD (x : Dart) : Option Ob := some (.var false [.v (.int .i64 x.e.s), .v (.int .i64 x.e.n), .v (.int .i64 x.d)])
def pcG (l : List Vx) (es : List Ed) : TV := .pc [.sl .shared 5 (rowsBy Vx.c l), .sl .shared 4 (rowsBy Ed.c es)]
theorem rowsBy_dart {l : List Dart} (x : Dart) : rowsBy Dart.c l ++ [[.int .i64 x.e.s, .int .i64 x.e.n, .int .i64 x.d]] = rowsBy Dart.c (l ++ [x]) := rowsBy_snoc Dart.c l x
def asE (l : List Vx) (es : List Ed) (x : Dart) : Nat → LV := upd (upd (upd (upd Sx.e0 4 (LV.p 1000004 0)) 2 (.v (pcG l es))) 1 (.v (pcD x))) 0 .u
def asF (l : List Vx) (es : List Ed) (x : Dart) : Nat → LV := upd (upd (upd (upd (upd Sx.e0 22 (.v (.bool false))) 4 (LV.p 1000004 0)) 2 (.v (pcG l es))) 1 (.v (pcD x))) 0 .u
theorem i_round (l : List Vx) (es : List Ed) (x : Dart) : call F 95 [.agg [.sl .shared 5 (rowsBy Vx.c l), .sl .shared 4 (rowsBy Ed.c es)], .agg [.int .i64 x.e.s, .int .i64 x.e.n, .int .i64 x.d]] = some (.fn 101 [pcD x, pcG l es]) := by
  simp only [pcD, pcG]
  rw [call_code F (show F 95 = some (.code f95) from rfl)]
  simp only [f95, go_sem, reduceIte, reduceCtorEq, Nat.reduceEqDiff, Nat.reduceAdd, Nat.reduceMul, Nat.reduceLeDiff, Nat.reduceSub, Nat.reduceBEq, List.length_cons, List.length_nil, Int.reduceLT, Int.reduceLE, Int.reduceGT, Int.reduceGE, Int.reduceAdd, Int.reduceSub, Int.reduceMul, Int.reduceNeg, Int.reduceToNat, Int.reduceEq, Int.reduceNe, Int.cast_ofNat_Int, ne_eq, not_true_eq_false, not_false_eq_true, Nat.testBit, Nat.reduceShiftRight, Nat.reduceAnd, Nat.reduceBNe]
end Go.Proofs.Ytcecojdeljbjoaa.Sx
namespace Go.Proofs.Ytcecojdeljbjoaa.Sx
open Go
def rowF (p : List Dart) : List TV := [.sl .shared 3 (rowsBy Dart.c p)]
/-- a dart more: the face of it, if it was not told -/
def stepF (f : Dart → Dart) (q : List (List Dart) × List Dart) (x : Dart) : List (List Dart) × List Dart := if x ∈ q.2 then q else (q.1 ++ [orb f 100 x], q.2 ++ orb f 100 x)
theorem stepF_fold (f : Dart → Dart) : ∀ (xs : List Dart) (q : List (List Dart) × List Dart), (xs.foldl (stepF f) q).1 = q.1 ++ cycF f 100 xs q.2
  | [], q => by simp [cycF]
  | x :: xs, q => by
    rw [List.foldl_cons, stepF_fold f xs, stepF, cycF]
    split
    · rfl
    · simp
/-- what is told is closed -/
theorem stepF_told {f : Dart → Dart} {D : List Dart} (oo : OneOne f D) (hn : D.length ≤ 100) : ∀ (xs : List Dart) (q : List (List Dart) × List Dart), (∀ x ∈ xs, x ∈ D) → (∀ y ∈ q.2, y ∈ D ∧ f y ∈ q.2) → (∀ y ∈ (xs.foldl (stepF f) q).2, y ∈ D ∧ f y ∈ (xs.foldl (stepF f) q).2)
  | [], q, _, h => h
  | x :: xs, q, hx, h => by
    rw [List.foldl_cons]
    refine stepF_told oo hn xs _ (fun y hy => hx y (by simp [hy])) ?_
    unfold stepF
    split
    · exact h
    · intro y hy
      simp only [List.mem_append] at hy ⊢
      rcases hy with hy | hy
      · exact ⟨(h y hy).1, .inl (h y hy).2⟩
      · exact ⟨oo.orb_in (hx x (by simp)) 100 y hy, .inr ((oo.orb_cy (hx x (by simp)) hn).step hy)⟩
def facesD (l : List Vx) (es : List Ed) : List (List Dart) := cycF (phiD l) 100 (dartsE es) []
def faR (v3 : LV) (k i : Nat) (fn : LV) : Rnd := { bd := .seq f85_ra f85_rb, p := 23, env := upd (upd (upd (upd (upd (upd (upd (upd Sx.e0 22 fn) 13 (.v (.int .i64 ((i : Int))))) 12 (.v (.int .i64 ((k : Int))))) 11 (.s 11 0 k)) 7 (LV.p 7 0)) 4 (LV.p 4 0)) 3 v3) 1 (LV.p 1 0), lo := 0, ks := [(1000004, 1000004), (1, 1), (3, 3), (4, 4), (7, 7), (11, 11), (10256, 10256)] }
theorem faces_loop {l : List Vx} {es : List Ed} (h : WF l es) {x : Dart} (hx : x ∈ allR l) (told : List Dart) (ht : ∀ y ∈ trD l x, y ∉ told) (v3 : LV) (o3 : Option Ob) (ho : (v3 = .v (.sl (.tight 37) 1 []) ∧ o3 = none) ∨ ∃ fs : List (List Dart), v3 = .s 3 0 fs.length ∧ o3 = some (.arr false 37 1 (rowsBy rowF fs))) (D : List Dart) (k0 : Nat) (fn : LV) :
    E ((cs F).ring (faR v3 D.length k0 fn)) 1000000 f101_l1 ⟨asE l es x, upd (upd (upd (upd (upd (upd (upd Sx.h0 10256 (some (.map false true false (mapD told)))) 11 (some (.arr false 56 3 (rowsBy Dart.c D)))) 7 (some (.var false [.v (.sl (.tight 56) 3 [])]))) 4 (some (.var false [.m 10256]))) 3 o3) 1 (some (.var false [.v (.sl .shared 5 (rowsBy Vx.c l)), .v (.sl .shared 4 (rowsBy Ed.c es))]))) 1000004 (obD x)⟩ =
      some (.ret, ⟨upd (upd (upd (upd (upd Sx.e0 22 (.v (.bool true))) 4 (LV.p 1000004 0)) 2 (.v (pcG l es))) 1 (.v (pcD x))) 0 .u, upd (upd (upd (upd (upd (upd (upd (upd Sx.h0 10448 (some (.arr false 56 3 (rowsBy Dart.c (trD l x))))) 10256 (some (.map false true false (mapD (told ++ trD l x))))) 11 (some (.arr false 56 3 (rowsBy Dart.c D)))) 7 (some (.var false [.s 10448 0 (trD l x).length]))) 4 (some (.var false [.m 10256]))) 3 o3) 1 (some (.var false [.v (.sl .shared 5 (rowsBy Vx.c l)), .v (.sl .shared 4 (rowsBy Ed.c es))]))) 1000004 (obD x)⟩) := by
  have oo := phiD_oo h.pr
  have hlen : (allR l).length ≤ 100 := by rw [h.many]; have := h.le; omega
  obtain ⟨hk, hback⟩ := oo.per_lt hx hlen
  have hne : ∀ i, i < per (phiD l) 100 x → it (phiD l) (i + 1) x ≠ x := fun i hi => per_not hi
  have hmem : ∀ i, it (phiD l) i x ∈ allR l := fun i => it_mem oo.mem hx i
  have htr : trD l x = firsts (phiD l) x (per (phiD l) 100 x + 1) := rfl
  have hnd := oo.orb_nd hx 100
  have hno : ∀ i, i ≤ per (phiD l) 100 x → it (phiD l) i x ∉ told ++ firsts (phiD l) x i := fun i hi hm => by
    rcases List.mem_append.1 hm with hm | hm
    · refine ht _ ?_ hm
      rw [htr]; unfold firsts; rw [List.mem_map]
      exact ⟨i, by rw [List.mem_range]; omega, rfl⟩
    · unfold firsts at hm
      obtain ⟨j, hj, e⟩ := List.mem_map.1 hm
      rw [List.mem_range] at hj
      have h1 : j < (orb (phiD l) 100 x).length := by rw [orb_len]; omega
      have h2 : i < (orb (phiD l) 100 x).length := by rw [orb_len]; omega
      have := (List.getElem_inj hnd (h₀ := h1) (h₁ := h2)).1 (by rw [orb_get, orb_get]; exact e)
      omega
  rw [htr]
  have hk100 : per (phiD l) 100 x < 100 := by omega
  clear hnd ht htr
  generalize per (phiD l) 100 x = n at *
  have key : ∀ i : Nat, call F 102 [.agg [.sl .shared 5 (rowsBy Vx.c l), .sl .shared 4 (rowsBy Ed.c es)], .agg [.int .i64 (it (phiD l) i x).e.s, .int .i64 (it (phiD l) i x).e.n, .int .i64 (it (phiD l) i x).d]] = some (.tup [dartT (it (phiD l) (i + 1) x), .bool true]) := fun i => by
    have := i_face_Phi h (it (phiD l) i x)
    rw [phT, if_pos (hmem i), dec_t (hmem i)] at this
    exact this
  have g := loop_grow (C := (cs F).ring (faR v3 D.length k0 fn)) (lo := 1000000) (b := f101_b1) ⟨asE l es x, upd (upd (upd (upd (upd (upd (upd Sx.h0 10256 (some (.map false true false (mapD told)))) 11 (some (.arr false 56 3 (rowsBy Dart.c D)))) 7 (some (.var false [.v (.sl (.tight 56) 3 [])]))) 4 (some (.var false [.m 10256]))) 3 o3) 1 (some (.var false [.v (.sl .shared 5 (rowsBy Vx.c l)), .v (.sl .shared 4 (rowsBy Ed.c es))]))) 1000004 (obD x)⟩
    (fun i => ⟨asF l es x, upd (upd (upd (upd (upd (upd (upd (upd Sx.h0 10448 (some (.arr false 56 3 (rowsBy Dart.c (firsts (phiD l) x i))))) 10256 (some (.map false true false (mapD (told ++ firsts (phiD l) x i))))) 11 (some (.arr false 56 3 (rowsBy Dart.c D)))) 7 (some (.var false [.s 10448 0 (firsts (phiD l) x i).length]))) 4 (some (.var false [.m 10256]))) 3 o3) 1 (some (.var false [.v (.sl .shared 5 (rowsBy Vx.c l)), .v (.sl .shared 4 (rowsBy Ed.c es))]))) 1000004 (obD (it (phiD l) i x))⟩) n
    (r0 := (.ret, ⟨upd (upd (upd (upd (upd Sx.e0 22 (.v (.bool true))) 4 (LV.p 1000004 0)) 2 (.v (pcG l es))) 1 (.v (pcD x))) 0 .u, upd (upd (upd (upd (upd (upd (upd (upd Sx.h0 10448 (some (.arr false 56 3 (rowsBy Dart.c (firsts (phiD l) x (n + 1)))))) 10256 (some (.map false true false (mapD (told ++ firsts (phiD l) x (n + 1)))))) 11 (some (.arr false 56 3 (rowsBy Dart.c D)))) 7 (some (.var false [.s 10448 0 (firsts (phiD l) x (n + 1)).length]))) 4 (some (.var false [.m 10256]))) 3 o3) 1 (some (.var false [.v (.sl .shared 5 (rowsBy Vx.c l)), .v (.sl .shared 4 (rowsBy Ed.c es))]))) 1000004 (obD x)⟩))
    (r := (.ret, ⟨upd (upd (upd (upd (upd Sx.e0 22 (.v (.bool true))) 4 (LV.p 1000004 0)) 2 (.v (pcG l es))) 1 (.v (pcD x))) 0 .u, upd (upd (upd (upd (upd (upd (upd (upd Sx.h0 10448 (some (.arr false 56 3 (rowsBy Dart.c (firsts (phiD l) x (n + 1)))))) 10256 (some (.map false true false (mapD (told ++ firsts (phiD l) x (n + 1)))))) 11 (some (.arr false 56 3 (rowsBy Dart.c D)))) 7 (some (.var false [.s 10448 0 (firsts (phiD l) x (n + 1)).length]))) 4 (some (.var false [.m 10256]))) 3 o3) 1 (some (.var false [.v (.sl .shared 5 (rowsBy Vx.c l)), .v (.sl .shared 4 (rowsBy Ed.c es))]))) 1000004 (obD x)⟩))
    ?_ (by simp) ?_ ?_ ?_ (by simp)
  · rw [show (if n = 0 then _ else _) = _ from ite_self _] at g
    exact g
  · intro h0
    subst h0
    have c := key 0
    have e0 : it (phiD l) 0 x = x := rfl
    have e1 : it (phiD l) (0 + 1) x = x := hback
    have e2 : firsts (phiD l) x (0 + 1) = [x] := rfl
    have hm := hno 0 (Nat.le_refl _)
    rw [e0, e1] at c
    rw [e2]
    have e3 : firsts (phiD l) x 0 = [] := rfl
    rw [e0, e3, List.append_nil] at hm
    have u1 := upd_mapD x told
    rw [if_neg hm] at u1
    simp only [asE, faR, pcD, pcG, obD, dartT, keyL, Dart.c] at c u1 ⊢
    rcases ho with ⟨rfl, rfl⟩ | ⟨fs, rfl, rfl⟩
    · simp only [f101_b1, f85_ra, f85_rb, Nat.reduceLT, c, u1, go_sem, reduceIte, reduceCtorEq, Nat.reduceEqDiff, Nat.reduceAdd, Nat.reduceMul, Nat.reduceLeDiff, List.length_cons, List.length_nil, not_false_eq_true]
    · simp only [f101_b1, f85_ra, f85_rb, Nat.reduceLT, c, u1, go_sem, reduceIte, reduceCtorEq, Nat.reduceEqDiff, Nat.reduceAdd, Nat.reduceMul, Nat.reduceLeDiff, List.length_cons, List.length_nil, not_false_eq_true]
  · intro hn
    have c := key 0
    have e0 : it (phiD l) 0 x = x := rfl
    have e2 : firsts (phiD l) x 1 = [x] := rfl
    have hd := dec_f (hne 0 hn)
    have hm := hno 0 (Nat.zero_le _)
    rw [e0] at c
    rw [e2]
    rw [Nat.zero_add] at c hd
    have e3 : firsts (phiD l) x 0 = [] := rfl
    rw [e0, e3, List.append_nil] at hm
    have u1 := upd_mapD x told
    rw [if_neg hm] at u1
    generalize it (phiD l) 1 x = y at *
    simp only [asE, asF, faR, pcD, pcG, obD, dartT, keyL, Dart.c] at c u1 ⊢
    rcases ho with ⟨rfl, rfl⟩ | ⟨fs, rfl, rfl⟩
    · simp only [f101_b1, f85_ra, f85_rb, Nat.reduceLT, c, hd, u1, go_sem, reduceIte, reduceCtorEq, Nat.reduceEqDiff, Nat.reduceAdd, Nat.reduceMul, Nat.reduceLeDiff, List.length_cons, List.length_nil, not_false_eq_true]
    · simp only [f101_b1, f85_ra, f85_rb, Nat.reduceLT, c, hd, u1, go_sem, reduceIte, reduceCtorEq, Nat.reduceEqDiff, Nat.reduceAdd, Nat.reduceMul, Nat.reduceLeDiff, List.length_cons, List.length_nil, not_false_eq_true]
  · intro i hi0 hi
    have c := key i
    have hd := dec_f (hne i hi)
    have hl : (firsts (phiD l) x i).length = i := firsts_len _ _ _
    have hm := hno i (Nat.le_of_lt hi)
    rw [firsts_snoc, ← List.append_assoc]
    have u1 := upd_mapD (it (phiD l) i x) (told ++ firsts (phiD l) x i)
    rw [if_neg hm] at u1
    generalize it (phiD l) (i + 1) x = y at *
    generalize it (phiD l) i x = z at *
    generalize firsts (phiD l) x i = q at *
    have h5 : (q.length + 1) * 24 ≤ 140737488355328 := by omega
    have h6 := rowsBy_dart (l := q) z
    generalize told ++ q = tq at *
    simp only [asF, faR, pcD, pcG, obD, dartT, keyL, Dart.c] at c u1 ⊢
    rcases ho with ⟨rfl, rfl⟩ | ⟨fs, rfl, rfl⟩
    · simp only [f101_b1, f85_ra, f85_rb, Nat.reduceLT, c, hd, u1, h5, List.length_append, go_sem, reduceIte, reduceCtorEq, Nat.reduceEqDiff, Nat.reduceAdd, Nat.reduceMul, Nat.reduceLeDiff, List.length_cons, List.length_nil, not_false_eq_true]
    · simp only [f101_b1, f85_ra, f85_rb, Nat.reduceLT, c, hd, u1, h5, List.length_append, go_sem, reduceIte, reduceCtorEq, Nat.reduceEqDiff, Nat.reduceAdd, Nat.reduceMul, Nat.reduceLeDiff, List.length_cons, List.length_nil, not_false_eq_true]
  · intro hn
    have c := key n
    have hl : (firsts (phiD l) x n).length = n := firsts_len _ _ _
    have hm := hno n (Nat.le_refl _)
    rw [firsts_snoc, ← List.append_assoc]
    have u1 := upd_mapD (it (phiD l) n x) (told ++ firsts (phiD l) x n)
    rw [if_neg hm] at u1
    rw [hback] at c
    generalize it (phiD l) n x = z at *
    generalize firsts (phiD l) x n = q at *
    have h5 : (q.length + 1) * 24 ≤ 140737488355328 := by omega
    have h6 := rowsBy_dart (l := q) z
    generalize told ++ q = tq at *
    simp only [asF, faR, pcD, pcG, obD, dartT, keyL, Dart.c] at c u1 ⊢
    rcases ho with ⟨rfl, rfl⟩ | ⟨fs, rfl, rfl⟩
    · simp only [f101_b1, f85_ra, f85_rb, Nat.reduceLT, c, u1, h5, List.length_append, go_sem, reduceIte, reduceCtorEq, Nat.reduceEqDiff, Nat.reduceAdd, Nat.reduceMul, Nat.reduceLeDiff, List.length_cons, List.length_nil, not_false_eq_true]
    · simp only [f101_b1, f85_ra, f85_rb, Nat.reduceLT, c, u1, h5, List.length_append, go_sem, reduceIte, reduceCtorEq, Nat.reduceEqDiff, Nat.reduceAdd, Nat.reduceMul, Nat.reduceLeDiff, List.length_cons, List.length_nil, not_false_eq_true]
def facesTo (l : List Vx) (es : List Ed) (i : Nat) : List (List Dart) × List Dart := ((dartsE es).take i).foldl (stepF (phiD l)) ([], [])
theorem facesTo_succ (l : List Vx) (es : List Ed) {i : Nat} (h : i < (dartsE es).length) : facesTo l es (i + 1) = stepF (phiD l) (facesTo l es i) (dartsE es)[i] := by
  unfold facesTo; rw [List.take_succ_eq_append_getElem h, List.foldl_append]; rfl
theorem facesTo_all (l : List Vx) (es : List Ed) : (facesTo l es (dartsE es).length).1 = facesD l es := by
  unfold facesTo facesD; rw [List.take_length, stepF_fold]; rfl
theorem facesTo_told {l : List Vx} {es : List Ed} (h : WF l es) (i : Nat) : ∀ y ∈ (facesTo l es i).2, y ∈ allR l ∧ phiD l y ∈ (facesTo l es i).2 := by
  have hlen : (allR l).length ≤ 100 := by rw [h.many]; have := h.le; omega
  exact stepF_told (phiD_oo h.pr) hlen _ _ (fun x hx => (h.mem x).2 (List.mem_of_mem_take hx)) (fun y hy => by cases hy)
theorem facesTo_len (l : List Vx) (es : List Ed) : ∀ i, (facesTo l es i).1.length ≤ i ∧ (0 < i → i ≤ (dartsE es).length → 0 < (facesTo l es i).1.length)
  | 0 => ⟨Nat.le_refl _, fun h => absurd h (Nat.lt_irrefl _)⟩
  | i + 1 => by
    have ih := facesTo_len l es i
    by_cases hi : i < (dartsE es).length
    · rw [facesTo_succ l es hi]
      unfold stepF
      split
      · rename_i hm
        refine ⟨by omega, fun _ _ => ?_⟩
        cases i with
        | zero => cases hm
        | succ i => exact ih.2 (by omega) (by omega)
      · simp only [List.length_append, List.length_cons, List.length_nil]
        exact ⟨by omega, fun _ _ => by omega⟩
    · have e : facesTo l es (i + 1) = facesTo l es i := by
        unfold facesTo
        rw [List.take_of_length_le (by omega), List.take_of_length_le (by omega)]
      rw [e]
      exact ⟨by omega, fun _ h => by omega⟩
theorem fresh_face {l : List Vx} {es : List Ed} (h : WF l es) {x : Dart} (hx : x ∈ allR l) {told : List Dart} (ht : ∀ y ∈ told, y ∈ allR l ∧ phiD l y ∈ told) (hxt : x ∉ told) : ∀ y ∈ trD l x, y ∉ told := fun y hy hyt => by
  have hlen : (allR l).length ≤ 100 := by rw [h.many]; have := h.le; omega
  have hcy := (phiD_oo h.pr).orb_cy hx hlen
  exact hxt (hcy.within (S := fun z => z ∈ told) (fun z hz => (ht z hz).2) hy hyt x (orb_self _ _ _))
theorem faces_l1 {l : List Vx} {es : List Ed} (h : WF l es) : E (cs F) 0 f85_l1 (⟨(upd (upd (upd (upd (upd (upd Sx.e0 13 (.v (.int .i64 (0)))) 12 (.v (.int .i64 (((dartsE es).length : Int))))) 11 (.s 11 0 (dartsE es).length)) 4 (.p 4 0)) 3 (.v (.sl (.tight 37) 1 []))) 1 (.p 1 0)), (upd (upd (upd (upd Sx.h0 10256 (some (.map false true false []))) 11 (some (.arr false 56 3 (rowsBy Dart.c (dartsE es))))) 4 (some (.var false [.m 10256]))) 1 (some (.var false [(.v (.sl .shared 5 (rowsBy Vx.c l))), (.v (.sl .shared 4 (rowsBy Ed.c es)))])))⟩ : St) =
    some (if (dartsE es).length = 0 then (.exit 0, (⟨(upd Sx.e0 3 (.v (.sl (.tight 37) 1 []))), Sx.h0⟩ : St)) else (.exit 0, (⟨(upd Sx.e0 3 (.s 3 0 (facesD l es).length)), (upd Sx.h0 3 (some (.arr false 37 1 (rowsBy rowF (facesD l es)))))⟩ : St))) := by
  have hb : bodyOf (F 101) = some f101.body := rfl
  have hle : (dartsE es).length ≤ 80 := by rw [dartsE_len]; have := h.le; omega
  have hw : (dartsE es).length ≤ 9223372036854775807 := by omega
  have hall : ∀ i (hi : i < (dartsE es).length), (dartsE es)[i] ∈ allR l := fun i hi => (h.mem _).2 (List.getElem_mem hi)
  rw [← facesTo_all l es]
  have l1 : E (cs F) 0 f85_l1 (⟨(upd (upd (upd (upd (upd (upd Sx.e0 13 (.v (.int .i64 (0)))) 12 (.v (.int .i64 (((dartsE es).length : Int))))) 11 (.s 11 0 (dartsE es).length)) 4 (.p 4 0)) 3 (.v (.sl (.tight 37) 1 []))) 1 (.p 1 0)), (upd (upd (upd (upd Sx.h0 10256 (some (.map false true false []))) 11 (some (.arr false 56 3 (rowsBy Dart.c (dartsE es))))) 4 (some (.var false [.m 10256]))) 1 (some (.var false [(.v (.sl .shared 5 (rowsBy Vx.c l))), (.v (.sl .shared 4 (rowsBy Ed.c es)))])))⟩ : St) = some (if (dartsE es).length = 0 then (.exit 0, (⟨(upd Sx.e0 3 (.v (.sl (.tight 37) 1 []))), Sx.h0⟩ : St)) else (.exit 0, (⟨(upd Sx.e0 3 (.s 3 0 (facesTo l es (dartsE es).length).1.length)), (upd Sx.h0 3 (some (.arr false 37 1 (rowsBy rowF (facesTo l es (dartsE es).length).1))))⟩ : St))) := by
    refine loop_grow (b := f85_b1) _ (fun q0 => (⟨(upd (upd (upd (upd (upd (upd Sx.e0 13 (.v (.int .i64 ((q0 : Int))))) 12 (.v (.int .i64 (((dartsE es).length : Int))))) 11 (.s 11 0 (dartsE es).length)) 4 (.p 4 0)) 3 (.s 3 0 (facesTo l es q0).1.length)) 1 (.p 1 0)), (upd (upd (upd (upd (upd Sx.h0 10256 (some (.map false true false (mapD (facesTo l es q0).2)))) 11 (some (.arr false 56 3 (rowsBy Dart.c (dartsE es))))) 4 (some (.var false [.m 10256]))) 3 (some (.arr false 37 1 (rowsBy rowF (facesTo l es q0).1)))) 1 (some (.var false [(.v (.sl .shared 5 (rowsBy Vx.c l))), (.v (.sl .shared 4 (rowsBy Ed.c es)))])))⟩ : St)) ((dartsE es).length) ?_ (by simp) ?_ ?_ ?_ (by simp)
    · intro h0
      simp only [f85_b1, show decide ((0 : Int) < ((dartsE es).length : Int)) = false from decide_eq_false (by omega), go_sem, reduceIte, Nat.reduceEqDiff]
    · intro hn
      have e1 : facesTo l es 1 = ([trD l (dartsE es)[0]], trD l (dartsE es)[0]) := by
        have := facesTo_succ l es (i := 0) hn
        rw [Nat.zero_add] at this
        rw [this]; unfold stepF
        have e0 : facesTo l es 0 = ([], []) := rfl
        rw [e0, if_neg (by simp)]; rfl
      have d1 : decide ((0 : Int) < ((dartsE es).length : Int)) = true := decide_eq_true (by omega)
      have h1z : (0 : Int) < ((dartsE es).length : Int) := by omega
      have hx := hall 0 hn
      have hg := rowsBy_get Dart.c hn
      rw [e1]
      have cr := i_round l es (dartsE es)[0]
      have al := faces_loop h hx [] (fun y _ => by simp) (.v (.sl (.tight 37) 1 [])) none (.inl ⟨rfl, rfl⟩) (dartsE es) 0 (.v (.fn 101 [pcD (dartsE es)[0], pcG l es]))
      rw [List.nil_append] at al
      have e3 : rowsBy rowF [trD l (dartsE es)[0]] = [[.sl .shared 3 (rowsBy Dart.c (trD l (dartsE es)[0]))]] := rfl
      rw [e3]
      generalize dartsE es = D at *
      generalize D[0] = x at *
      generalize trD l x = t at *
      have f1 := find_mapD x []
      simp only [asE, faR, pcD, pcG, obD, mapD, List.map_nil, keyL] at al cr f1 ⊢
      simp only [go_sem, reduceIte, Nat.reduceEqDiff, Int.cast_ofNat_Int] at al
      simp only [f85_b1, f101, hb, h1z, hg, Dart.c, cr, al, f1, Nat.reduceLT, List.not_mem_nil, if_false, show IntKind.i64.wrap 1 = 1 from rfl, go_sem, reduceIte, reduceCtorEq, Nat.reduceEqDiff, Nat.reduceAdd, Nat.reduceMul, Nat.reduceLeDiff, List.length_cons, List.length_nil, Int.reduceAdd, Int.reduceToNat, Int.cast_ofNat_Int]
    · intro i hi0 hi
      have h1z : (i : Int) < ((dartsE es).length : Int) := by omega
      have hx := hall i hi
      have hg := rowsBy_get Dart.c hi
      have ht := facesTo_told h i
      have hfl := facesTo_len l es i
      have hs := facesTo_succ l es hi
      by_cases hm : (dartsE es)[i] ∈ (facesTo l es i).2
      · have e1 : facesTo l es (i + 1) = facesTo l es i := by rw [hs]; unfold stepF; rw [if_pos hm]
        rw [e1]
        generalize dartsE es = D at *
        generalize facesTo l es i = q at *
        have f1 := find_mapD D[i] q.2
        rw [if_pos hm] at f1
        simp only [keyL] at f1
        simp only [f85_b1, h1z, hg, Dart.c, f1, wrap_succ hi hw, go_sem, reduceIte, Nat.reduceEqDiff, Nat.reduceAdd, List.length_cons, List.length_nil]
      · have e1 : facesTo l es (i + 1) = ((facesTo l es i).1 ++ [trD l (dartsE es)[i]], (facesTo l es i).2 ++ trD l (dartsE es)[i]) := by rw [hs]; unfold stepF; rw [if_neg hm]; rfl
        rw [e1]
        have cr := i_round l es (dartsE es)[i]
        have al := faces_loop h hx (facesTo l es i).2 (fresh_face h hx ht hm) (.s 3 0 (facesTo l es i).1.length) (some (.arr false 37 1 (rowsBy rowF (facesTo l es i).1))) (.inr ⟨_, rfl, rfl⟩) (dartsE es) i (.v (.fn 101 [pcD (dartsE es)[i], pcG l es]))
        have hfl2 : (facesTo l es i).1.length ≤ 80 := by omega
        generalize dartsE es = D at *
        generalize facesTo l es i = q at *
        obtain ⟨fs, told⟩ := q
        simp only at hfl2 hm al ⊢
        generalize trD l D[i] = t at *
        have f1 := find_mapD D[i] told
        rw [if_neg hm] at f1
        have e3 : rowsBy rowF fs ++ [[.sl .shared 3 (rowsBy Dart.c t)]] = rowsBy rowF (fs ++ [t]) := rowsBy_snoc rowF fs t
        have h5 : (fs.length + 1) * 24 ≤ 140737488355328 := by omega
        generalize D[i] = x at *
        simp only [asE, faR, pcD, pcG, obD, keyL] at al cr f1 ⊢
        simp only [f85_b1, f101, hb, h1z, hg, Dart.c, cr, al, f1, Nat.reduceLT, h5, e3, wrap_succ hi hw, List.length_append, go_sem, reduceIte, reduceCtorEq, Nat.reduceEqDiff, Nat.reduceAdd, Nat.reduceMul, List.length_cons, List.length_nil]
    · intro hn
      simp only [f85_b1, dec_ge (Nat.le_refl (dartsE es).length), go_sem, reduceIte, Nat.reduceEqDiff]
  exact l1
theorem facesD_nil {l : List Vx} {es : List Ed} (h : (dartsE es).length = 0) : facesD l es = [] := by
  unfold facesD; rw [List.eq_nil_of_length_eq_zero h]; rfl
theorem i_Faces {l : List Vx} {es : List Ed} (h : WF l es) : call F 85 [.agg [.sl .shared 5 (rowsBy Vx.c l), .sl .shared 4 (rowsBy Ed.c es)]] = some (.sl (.own 37) 1 (rowsBy rowF (facesD l es))) := by
  have cd := i_face_Darts (.sl .shared 5 (rowsBy Vx.c l)) es (by have := h.le; omega)
  have fl := faces_l1 h
  have h0 := facesD_nil (l := l) (es := es)
  generalize dartsE es = D at *
  generalize facesD l es = fs at *
  rw [call_code F (show F 85 = some (.code f85) from rfl)]
  by_cases hz : D.length = 0
  · rw [if_pos hz] at fl
    have hD := List.eq_nil_of_length_eq_zero hz
    subst hD
    rw [h0 rfl]
    simp only [rowsBy, List.length_nil, nat0] at cd fl
    simp only [f85, cd, fl, rowsBy, go_sem, reduceIte, reduceCtorEq, Nat.reduceEqDiff, Nat.reduceAdd, Nat.reduceMul, List.length_cons, List.length_nil, Int.cast_ofNat_Int]
  · rw [if_neg hz] at fl
    simp only [f85, cd, fl, go_sem, reduceIte, reduceCtorEq, Nat.reduceEqDiff, Nat.reduceAdd, Nat.reduceMul, List.length_cons, List.length_nil]
end Go.Proofs.Ytcecojdeljbjoaa.Sx
namespace Go.Proofs.Ytcecojdeljbjoaa.Sx
/-- one edge -/
def spr1 (f : List Nat) (e : Nat × Nat) : List Nat := (f.set e.1 (min (fat f e.1) (fat f e.2))).set e.2 (min (fat f e.1) (fat f e.2))
/-- a round -/
def spr (es : List (Nat × Nat)) (f : List Nat) : List Nat := es.foldl spr1 f
def sprK (es : List (Nat × Nat)) (f : List Nat) : Nat → List Nat
  | 0 => f
  | k + 1 => spr es (sprK es f k)
theorem spr1_len (f : List Nat) (e : Nat × Nat) : (spr1 f e).length = f.length := by unfold spr1; rw [List.length_set, List.length_set]
theorem spr_len : ∀ (es : List (Nat × Nat)) (f : List Nat), (spr es f).length = f.length
  | [], _ => rfl
  | e :: es, f => by
    show (spr es (spr1 f e)).length = _
    rw [spr_len es, spr1_len]
theorem spr1_at {f : List Nat} {e : Nat × Nat} (h1 : e.1 < f.length) (h2 : e.2 < f.length) (u : Nat) : fat (spr1 f e) u = if u = e.1 ∨ u = e.2 then min (fat f e.1) (fat f e.2) else fat f u := by
  unfold spr1
  rw [fat_set (by rw [List.length_set]; exact h2), fat_set h1]
  by_cases a : u = e.2
  · rw [if_pos a, if_pos (.inr a)]
  · rw [if_neg a]
    by_cases b : u = e.1
    · rw [if_pos b, if_pos (.inl b)]
    · rw [if_neg b, if_neg (by simp [a, b])]
theorem spr1_le {f : List Nat} {e : Nat × Nat} (h1 : e.1 < f.length) (h2 : e.2 < f.length) (u : Nat) : fat (spr1 f e) u ≤ fat f u := by
  rw [spr1_at h1 h2]
  split
  · rename_i h
    rcases h with rfl | rfl
    · exact Nat.min_le_left _ _
    · exact Nat.min_le_right _ _
  · exact Nat.le_refl _
def InE (n : Nat) (es : List (Nat × Nat)) : Prop := ∀ e ∈ es, e.1 < n ∧ e.2 < n
theorem spr_le : ∀ {es : List (Nat × Nat)} {f : List Nat}, InE f.length es → ∀ u, fat (spr es f) u ≤ fat f u
  | [], _, _, _ => Nat.le_refl _
  | e :: es, f, h, u => by
    have he := h e (by simp)
    have := spr_le (es := es) (f := spr1 f e) (fun x hx => by rw [spr1_len]; exact h x (by simp [hx])) u
    exact Nat.le_trans this (spr1_le he.1 he.2 u)
theorem spr_append (s t : List (Nat × Nat)) (f : List Nat) : spr (s ++ t) f = spr t (spr s f) := List.foldl_append
/-- an edge's ends are not above what either was -/
theorem spr_edge {es : List (Nat × Nat)} {f : List Nat} (h : InE f.length es) {e : Nat × Nat} (he : e ∈ es) : fat (spr es f) e.1 ≤ fat f e.2 ∧ fat (spr es f) e.2 ≤ fat f e.1 := by
  obtain ⟨s, t, rfl⟩ := List.append_of_mem he
  have hs : InE f.length s := fun x hx => h x (by simp [hx])
  have ht : InE f.length t := fun x hx => h x (by simp [hx])
  have h0 := h e (by simp)
  rw [spr_append]
  show fat (spr t (spr1 (spr s f) e)) e.1 ≤ _ ∧ fat (spr t (spr1 (spr s f) e)) e.2 ≤ _
  have hl := spr_len s f
  have k := fun u => spr_le (es := t) (f := spr1 (spr s f) e) (by rw [spr1_len, hl]; exact ht) u
  have k1 := k e.1
  have k2 := k e.2
  rw [spr1_at (by rw [hl]; exact h0.1) (by rw [hl]; exact h0.2), if_pos (.inl rfl)] at k1
  rw [spr1_at (by rw [hl]; exact h0.1) (by rw [hl]; exact h0.2), if_pos (.inr rfl)] at k2
  have a1 := spr_le hs e.1
  have a2 := spr_le hs e.2
  omega
/-- each place names one that hangs together with it -/
structure SprI (R : Nat → Nat → Prop) (n : Nat) (f : List Nat) : Prop where
  len : f.length = n
  con : ∀ u, u < n → Con R u (fat f u)
section
variable {R : Nat → Nat → Prop} {n : Nat}
theorem SprI.start (R : Nat → Nat → Prop) (n : Nat) : SprI R n (List.range n) := by
  refine ⟨List.length_range, fun u hu => ?_⟩
  rw [fat_at (by rw [List.length_range]; exact hu), List.getElem_range]
  exact .refl _
theorem SprI.one (hs : ∀ u v, R u v → R v u) {f : List Nat} (h : SprI R n f) {e : Nat × Nat} (h1 : e.1 < n) (h2 : e.2 < n) (hr : R e.1 e.2) : SprI R n (spr1 f e) := by
  refine ⟨by rw [spr1_len]; exact h.len, fun u hu => ?_⟩
  rw [spr1_at (by rw [h.len]; exact h1) (by rw [h.len]; exact h2)]
  have c1 := h.con e.1 h1
  have c2 := h.con e.2 h2
  have c12 : Con R e.1 e.2 := .one hr
  have c21 : Con R e.2 e.1 := .one (hs _ _ hr)
  split
  · rename_i hu
    rcases Nat.le_total (fat f e.1) (fat f e.2) with hle | hle
    · rw [Nat.min_eq_left hle]
      rcases hu with rfl | rfl
      · exact c1
      · exact c21.trans c1
    · rw [Nat.min_eq_right hle]
      rcases hu with rfl | rfl
      · exact c12.trans c2
      · exact c2
  · exact h.con u hu
theorem SprI.round (hs : ∀ u v, R u v → R v u) : ∀ {es : List (Nat × Nat)} {f : List Nat}, SprI R n f → (∀ e ∈ es, e.1 < n ∧ e.2 < n ∧ R e.1 e.2) → SprI R n (spr es f)
  | [], _, h, _ => h
  | e :: es, f, h, he => by
    obtain ⟨h1, h2, h3⟩ := he e (by simp)
    have k : SprI R n (spr1 f e) := h.one hs h1 h2 h3
    exact SprI.round (f := spr1 f e) hs k fun x hx => he x (by simp [hx])
theorem countP_lt {α : Type} {p q : α → Bool} : ∀ {l : List α}, (∀ u ∈ l, p u = true → q u = true) → (∃ a ∈ l, p a = false ∧ q a = true) → l.countP p < l.countP q
  | [], _, h => by obtain ⟨a, ha, _⟩ := h; cases ha
  | x :: l, h, he => by
    have h0 : l.countP p ≤ l.countP q := List.countP_mono_left fun u hu => h u (by simp [hu])
    have hx := h x (by simp)
    obtain ⟨a, ha, h1, h2⟩ := he
    rcases List.mem_cons.1 ha with rfl | ha
    · rw [List.countP_cons, List.countP_cons, h1, h2]; simp; omega
    · have := countP_lt (l := l) (fun u hu => h u (by simp [hu])) ⟨a, ha, h1, h2⟩
      rw [List.countP_cons, List.countP_cons]
      cases hp : p x with
      | false => simp; omega
      | true => rw [hx hp]; simp; omega
/-- from where it is so to where it is not there is a step at which it ends -/
theorem Con.edge {P : Nat → Prop} {u w : Nat} (h : Con R u w) (hu : P u) (hw : ¬ P w) : ∃ a b, R a b ∧ Con R u a ∧ P a ∧ ¬ P b := by
  induction h with
  | refl => exact absurd hu hw
  | @step u v w a _ ih =>
    by_cases hv : P v
    · obtain ⟨x, y, h1, h2, h3, h4⟩ := ih hv hw
      exact ⟨x, y, h1, .step a h2, h3, h4⟩
    · exact ⟨u, v, a, .refl _, hu, hv⟩
theorem spr_all (hs : ∀ u v, R u v → R v u) (hb : ∀ u v, R u v → u < n ∧ v < n) {es : List (Nat × Nat)} (he : ∀ e ∈ es, e.1 < n ∧ e.2 < n ∧ R e.1 e.2) (hr : ∀ u v, R u v → (u, v) ∈ es ∨ (v, u) ∈ es)
    {lab : Nat → Nat} (hl : Lab R n lab) : sprK es (List.range n) n = (List.range n).map lab := by
  have hin : InE n es := fun e h => ⟨(he e h).1, (he e h).2.1⟩
  have hinv : ∀ k, SprI R n (sprK es (List.range n) k) := by
    intro k
    induction k with
    | zero => exact SprI.start R n
    | succ k ih => exact ih.round hs he
  have hge : ∀ k u, u < n → lab u ≤ fat (sprK es (List.range n) k) u := fun k u hu => hl.le u hu _ ((hinv k).con u hu)
  have hdown : ∀ k u, fat (sprK es (List.range n) (k + 1)) u ≤ fat (sprK es (List.range n) k) u := fun k u => spr_le (by rw [(hinv k).len]; exact hin) u
  have hroot : ∀ k u, u < n → lab u = u → fat (sprK es (List.range n) k) u = u := by
    intro k
    induction k with
    | zero =>
      intro u hu _
      show fat (List.range n) u = u
      rw [fat_at (by rw [List.length_range]; exact hu), List.getElem_range]
    | succ k ih =>
      intro u hu hlu
      have h1 := hdown k u
      have h2 := hge (k + 1) u hu
      have h3 := ih u hu hlu
      omega
  have hgood : ∀ k, (∀ u, u < n → fat (sprK es (List.range n) k) u = lab u) ∨ k ≤ (List.range n).countP fun u => decide (fat (sprK es (List.range n) k) u = lab u) := by
    intro k
    induction k with
    | zero => exact .inr (Nat.zero_le _)
    | succ k ih =>
      rcases ih with ih | ih
      · refine .inl fun u hu => ?_
        have h1 := hdown k u
        have h2 := hge (k + 1) u hu
        have h3 := ih u hu
        omega
      · by_cases hall : ∀ u, u < n → fat (sprK es (List.range n) k) u = lab u
        · refine .inl fun u hu => ?_
          have h1 := hdown k u
          have h2 := hge (k + 1) u hu
          have h3 := hall u hu
          omega
        · right
          obtain ⟨u, hu⟩ := Classical.not_forall.1 hall
          obtain ⟨hun, hu⟩ := Classical.not_imp.1 hu
          have hlu := hl.self hun
          have hidem := hl.idem hs hun
          obtain ⟨a, b, h1, h2, h3, h4⟩ := Con.edge (P := fun v => fat (sprK es (List.range n) k) v = lab v) ((hl.con u hun).symm hs) (by
            show fat _ (lab u) = lab (lab u)
            rw [hidem]; exact hroot k _ (by omega) hidem) hu
          obtain ⟨ha, hbn⟩ := hb a b h1
          have hlab : lab a = lab b := (hl.eq hs ha hbn).1 (.one h1)
          have hnew : fat (sprK es (List.range n) (k + 1)) b = lab b := by
            have h5 := hge (k + 1) b hbn
            have h3 : fat (sprK es (List.range n) k) a = lab a := h3
            have : fat (sprK es (List.range n) (k + 1)) b ≤ fat (sprK es (List.range n) k) a := by
              rcases hr a b h1 with h | h
              · exact (spr_edge (by rw [(hinv k).len]; exact hin) h).2
              · exact (spr_edge (by rw [(hinv k).len]; exact hin) h).1
            omega
          have := countP_lt (l := List.range n) (p := fun u => decide (fat (sprK es (List.range n) k) u = lab u)) (q := fun u => decide (fat (sprK es (List.range n) (k + 1)) u = lab u)) (fun v hv hp => by
            have hvn := List.mem_range.1 hv
            have hp := of_decide_eq_true hp
            refine decide_eq_true ?_
            have h1 := hdown k v
            have h2 := hge (k + 1) v hvn
            omega) ⟨b, List.mem_range.2 hbn, decide_eq_false h4, decide_eq_true hnew⟩
          omega
  have hn : ∀ u, u < n → fat (sprK es (List.range n) n) u = lab u := by
    rcases hgood n with h | h
    · exact h
    · intro u hu
      have hle := List.countP_le_length (p := fun u => decide (fat (sprK es (List.range n) n) u = lab u)) (l := List.range n)
      rw [List.length_range] at hle
      have e : (List.range n).countP (fun u => decide (fat (sprK es (List.range n) n) u = lab u)) = (List.range n).length := by rw [List.length_range]; omega
      exact of_decide_eq_true (List.countP_eq_length.1 e u (List.mem_range.2 hu))
  refine List.ext_getElem (by rw [(hinv n).len, List.length_map, List.length_range]) fun i h1 h2 => ?_
  have hin : i < n := by rw [(hinv n).len] at h1; exact h1
  rw [List.getElem_map, List.getElem_range, ← hn i hin, fat_at h1]
end
end Go.Proofs.Ytcecojdeljbjoaa.Sx
namespace Go.Proofs.Ytcecojdeljbjoaa.Sx
open Go
def dpl (l : List Vx) (x : Dart) : Nat := l.findIdx fun v => decide (x ∈ v.ring)
theorem WF.labok {l : List Vx} {es : List Ed} (h : WF l es) : LabOk l := by
  refine ⟨⟨by have := h.lv; omega, fun v hv => ?_⟩, h.nd, h.pr.oth, fun x hx => ?_⟩
  · have h1 : v.ring.length ≤ (allR l).length := List.Sublist.length_le (List.sublist_flatten_of_mem (List.mem_map.2 ⟨v, hv, rfl⟩))
    have h2 := h.many
    have h3 := h.le
    omega
  · obtain ⟨e, _, h1 | h1⟩ := dartsE_mem.1 ((h.mem x).1 hx)
    · exact .inl (by rw [h1])
    · exact .inr (by rw [h1])
/-! ### the reference's rounds -/
def edgP (l : List Vx) (es : List Ed) : List (Nat × Nat) := es.map fun e => (dpl l ⟨e.id, 0⟩, dpl l ⟨e.id, 1⟩)
theorem dpl_at {l : List Vx} {x : Dart} (hx : x ∈ allR l) : dpl l x < l.length ∧ x ∈ ringAt l (dpl l x) := by
  rcases findIdx_cases (fun v : Vx => decide (x ∈ v.ring)) l with h | ⟨h, k⟩
  · obtain ⟨v, hv, hxv⟩ := (allR_mem l x).1 hx
    obtain ⟨i, hi, rfl⟩ := List.mem_iff_getElem.1 hv
    have := findIdx_not (p := fun v : Vx => decide (x ∈ v.ring)) (l := l) (i := i) (by omega) hi
    simp at this
    exact absurd hxv this
  · refine ⟨h, ?_⟩
    show x ∈ ringAt l (l.findIdx fun v => decide (x ∈ v.ring))
    rw [ringAt_lt h]
    exact of_decide_eq_true k
theorem WF.edge_in {l : List Vx} {es : List Ed} (h : WF l es) {e : Ed} (he : e ∈ es) : (⟨e.id, 0⟩ : Dart) ∈ allR l ∧ (⟨e.id, 1⟩ : Dart) ∈ allR l :=
  ⟨(h.mem _).2 (dartsE_mem.2 ⟨e, he, .inl rfl⟩), (h.mem _).2 (dartsE_mem.2 ⟨e, he, .inr rfl⟩)⟩
theorem WF.edge_step {l : List Vx} {es : List Ed} (h : WF l es) {e : Ed} (he : e ∈ es) : dpl l ⟨e.id, 0⟩ < l.length ∧ dpl l ⟨e.id, 1⟩ < l.length ∧ stepV l (dpl l ⟨e.id, 0⟩) (dpl l ⟨e.id, 1⟩) := by
  obtain ⟨h0, h1⟩ := h.edge_in he
  obtain ⟨a1, a2⟩ := dpl_at h0
  obtain ⟨b1, b2⟩ := dpl_at h1
  exact ⟨a1, b1, ⟨⟨e.id, 0⟩, a2, b2⟩⟩
theorem stepV_bound {l : List Vx} (u w : Nat) (h : stepV l u w) : u < l.length ∧ w < l.length := by
  obtain ⟨x, h1, h2⟩ := h
  exact ⟨ringAt_mem (u := u) h1, ringAt_mem (u := w) h2⟩
theorem WF.step_edge {l : List Vx} {es : List Ed} (h : WF l es) (u w : Nat) (hs : stepV l u w) : (u, w) ∈ edgP l es ∨ (w, u) ∈ edgP l es := by
  obtain ⟨x, h1, h2⟩ := hs
  have hx : x ∈ allR l := ringAt_all (u := u) h1
  obtain ⟨e, he, hxe⟩ := dartsE_mem.1 ((h.mem x).1 hx)
  obtain ⟨h3, h4⟩ := h.edge_in he
  obtain ⟨_, a2⟩ := dpl_at h3
  obtain ⟨_, b2⟩ := dpl_at h4
  rcases hxe with rfl | rfl
  · have e1 := ringAt_one h.nd (u := u) h1 a2
    have e2 := ringAt_one h.nd (u := w) h2 b2
    exact .inl (List.mem_map.2 ⟨e, he, by rw [e1, e2]⟩)
  · have e1 := ringAt_one h.nd (u := u) h1 b2
    have e2 := ringAt_one h.nd (u := w) h2 a2
    exact .inr (List.mem_map.2 ⟨e, he, by rw [e1, e2]⟩)
theorem WF.rounds {l : List Vx} {es : List Ed} (h : WF l es) : sprK (edgP l es) (List.range l.length) l.length = (List.range l.length).map (labV l) :=
  spr_all stepV_symm stepV_bound (fun e he => by
    obtain ⟨f, hf, rfl⟩ := List.mem_map.1 he
    exact h.edge_step hf) h.step_edge (labV_lab l)
/-! ### parts -/
noncomputable def partsI (l : List Vx) : List (List ID) := partsTo (labV l) (idAt l) l.length
def cIDs (p : List ID) : List TV := [.sl .shared 2 (rowsBy ID.c p)]
theorem partsT_eq (l : List Vx) : partsT l = .sl .shared 1 (rowsBy cIDs (partsI l)) := by
  unfold partsT partsL partsI partsTo
  rw [rowsBy_map, List.map_map, List.map_map]
  congr 1
  refine List.map_congr_left fun q _ => ?_
  show [TV.sl .shared 2 _] = [TV.sl .shared 2 _]
  rw [rowsBy_map, List.map_map]; rfl
theorem partsI_len (l : List Vx) : (partsI l).length = partsN (labV l) l.length := by
  unfold partsI partsTo partsN
  rw [List.length_map, List.countP_eq_length_filter]; rfl
end Go.Proofs.Ytcecojdeljbjoaa.Sx
namespace Go.Proofs.Ytcecojdeljbjoaa.Sx
open Go
theorem i_Parts {l : List Vx} {es : List Ed} (h : WF l es) : call F 96 [.agg [.sl .shared 5 (rowsBy Vx.c l), .sl .shared 4 (rowsBy Ed.c es)]] = some (.sl .shared 1 (rowsBy cIDs (partsI l))) := by
  rw [call_ext F (show F 96 = some (.ext partsG) from rfl), ← partsT_eq]
  exact partsG_eq _ _ h.labok
theorem i_comp_Count {l : List Vx} {es : List Ed} (h : WF l es) : call F 86 [.agg [.sl .shared 5 (rowsBy Vx.c l), .sl .shared 4 (rowsBy Ed.c es)]] = some (.int .i64 (partsN (labV l) l.length : Nat)) := by
  have c1 := i_Parts h
  have hl := partsI_len l
  rw [call_code F (show F 86 = some (.code f86) from rfl)]
  simp only [f86, c1, hl, go_sem, reduceIte, reduceCtorEq, Nat.reduceEqDiff, Nat.reduceAdd, Nat.reduceMul, List.length_cons, List.length_nil]
end Go.Proofs.Ytcecojdeljbjoaa.Sx
namespace Go.Proofs.Ytcecojdeljbjoaa.Sx
open Go
theorem facesQ_dec {l : List Vx} {es : List Ed} (h : WF l es) : Dec (phiD l) (dartsE es) (facesD l es) := by
  have oo : OneOne (phiD l) (dartsE es) := ⟨fun x hx => (h.mem _).1 ((phiD_oo h.pr).mem x ((h.mem x).2 hx)), fun x hx y hy => (phiD_oo h.pr).inj x ((h.mem x).2 hx) y ((h.mem y).2 hy)⟩
  exact oo.dec (by rw [dartsE_len]; have := h.le; omega)
theorem Dec.onQ {f : Dart → Dart} {D D' : List Dart} {cs : List (List Dart)} (h : Dec f D cs) (e : ∀ x, x ∈ D ↔ x ∈ D') : Dec f D' cs := ⟨h.cy, h.nd, fun x => by rw [h.mem, e]⟩
theorem facesQ_all {l : List Vx} {es : List Ed} (h : WF l es) : Dec (phiD l) (allR l) (facesD l es) := (facesQ_dec h).onQ fun x => (h.mem x).symm
theorem facesQ_fits {l : List Vx} {es : List Ed} (h : WF l es) : (∀ p ∈ facesD l es, p.length ≤ 80) ∧ (facesD l es).length ≤ 80 := by
  have hd := facesQ_dec h
  have hlen : (dartsE es).length ≤ 80 := by rw [dartsE_len]; have := h.le; omega
  have hfl : (facesD l es).flatten.length ≤ 80 := Nat.le_trans (nodup_sub hd.nd fun x hx => (hd.mem x).1 hx) hlen
  refine ⟨fun p hp => Nat.le_trans (List.Sublist.length_le (List.sublist_flatten_of_mem hp)) hfl, ?_⟩
  have key : ∀ cs : List (List Dart), (∀ c ∈ cs, c ≠ []) → cs.length ≤ cs.flatten.length := by
    intro cs
    induction cs with
    | nil => intro _; exact Nat.le_refl _
    | cons c cs ih =>
      intro h
      rw [List.flatten_cons, List.length_append, List.length_cons]
      have := ih fun d hd => h d (by simp [hd])
      have := List.length_pos_iff.2 (h c (by simp))
      omega
  refine Nat.le_trans (key _ fun c hc e => ?_) hfl
  have := hd.cy c hc
  rw [e] at this; cases this
noncomputable def cN (l : List Vx) : Nat := partsN (labV l) l.length
def fN (l : List Vx) (es : List Ed) : Nat := (facesD l es).length + aloneN l
noncomputable def gN (l : List Vx) (es : List Ed) : Nat := (es.length + 2 * cN l - l.length - fN l es) / 2
theorem WF.eul {l : List Vx} {es : List Ed} (h : WF l es) : Eul l l.length es.length (fN l es) (cN l) := ⟨rfl, h.many.symm, ⟨_, facesQ_all h, rfl⟩, ⟨_, labV_lab l, rfl⟩⟩
theorem WF.gen {l : List Vx} {es : List Ed} (h : WF l es) : l.length + fN l es + 2 * gN l es = es.length + 2 * cN l := by
  obtain ⟨g, hg⟩ := Eul.genus _ (Nat.le_refl _) h.pr h.eul
  unfold gN
  omega
theorem WF.small {l : List Vx} {es : List Ed} (h : WF l es) : fN l es ≤ 104 ∧ cN l ≤ 24 ∧ cN l ≤ fN l es ∧ cN l ≤ l.length := by
  have h1 := (facesQ_fits h).2
  have h2 := h.lv
  have h3 : aloneN l ≤ l.length := List.countP_le_length
  have h4 : cN l ≤ l.length := partsN_le _ _
  have h5 := h.eul.faces_le h.pr
  refine ⟨by unfold fN; omega, by omega, h5.1, h4⟩
theorem i_Count1 (v : Vx) : call F 84 [.agg [.int .i64 v.id.s, .int .i64 v.id.n, .sl .shared 3 (rowsBy Dart.c v.ring), .str v.label, .int .i64 v.attr]] = some (.bool v.ring.isEmpty) := by
  have hd : decide ((v.ring.length : Int) = 0) = v.ring.isEmpty := by
    cases v.ring with
    | nil => rfl
    | cons x r => exact dec_f (by simp only [List.length_cons]; omega)
  rw [call_code F (show F 84 = some (.code f84) from rfl)]
  simp only [f84, hd, go_sem, reduceIte, reduceCtorEq, Nat.reduceEqDiff, Nat.reduceAdd, Nat.reduceLeDiff, List.length_cons, List.length_nil]
theorem aloneN_succ {l : List Vx} {i : Nat} (hi : i < l.length) : aloneN (l.take (i + 1)) = aloneN (l.take i) + if l[i].ring.isEmpty = true then 1 else 0 := by
  unfold aloneN
  rw [List.take_succ_eq_append_getElem hi, List.countP_append, List.countP_singleton]
theorem i_many (l : List Vx) (hl : l.length ≤ 24) : call F 83 [.sl .shared 5 (rowsBy Vx.c l), .fn 84 []] = some (.int .i64 (aloneN l : Nat)) := by
  have l1 : E (cs F) 0 f83_l1 (⟨(upd (upd (upd (upd (upd Sx.e0 10 (.v (.int .i64 (0)))) 9 (.v (.int .i64 ((l.length : Int))))) 8 (.v (.sl .shared 5 (rowsBy Vx.c l)))) 5 (.v (.int .i64 ((aloneN (l.take 0) : Nat))))) 1 (.v (.fn 84 []))), Sx.h0⟩ : St) = some (.exit 0, (⟨(upd Sx.e0 5 (.v (.int .i64 ((aloneN l : Nat))))), Sx.h0⟩ : St)) := by
    refine loop_to (b := f83_b1) (fun q0 => (⟨(upd (upd (upd (upd (upd Sx.e0 10 (.v (.int .i64 ((q0 : Int))))) 9 (.v (.int .i64 ((l.length : Int))))) 8 (.v (.sl .shared 5 (rowsBy Vx.c l)))) 5 (.v (.int .i64 ((aloneN (l.take q0) : Nat))))) 1 (.v (.fn 84 []))), Sx.h0⟩ : St)) (l.length) ?_ ?_ (by simp)
    · intro i hi
      have hiz : (i : Int) < (l.length : Int) := by omega
      have c1 := i_Count1 l[i]
      have ha : aloneN (l.take i) ≤ i := Nat.le_trans List.countP_le_length (by rw [List.length_take]; omega)
      have hw := wrap_succ (i := aloneN (l.take i)) (n := aloneN (l.take i) + 1) (Nat.lt_succ_self _) (by omega)
      rw [aloneN_succ hi]
      generalize aloneN (l.take i) = m at *
      cases hb : l[i].ring.isEmpty with
      | true =>
        rw [hb] at c1
        rw [if_pos rfl]
        simp only [f83_b1, hiz, rowsBy_get Vx.c hi, Vx.c, c1, hw, wrap_succ hi (show l.length ≤ 9223372036854775807 by omega), go_sem, reduceIte, Nat.reduceEqDiff, Nat.reduceAdd, Nat.reduceMul, List.length_cons, List.length_nil]
      | false =>
        rw [hb] at c1
        rw [if_neg (by simp), Nat.add_zero]
        simp only [f83_b1, hiz, rowsBy_get Vx.c hi, Vx.c, c1, hw, wrap_succ hi (show l.length ≤ 9223372036854775807 by omega), go_sem, reduceIte, Nat.reduceEqDiff, Nat.reduceAdd, Nat.reduceMul, List.length_cons, List.length_nil]
    · rw [List.take_length]
      simp only [f83_b1, dec_ge (Nat.le_refl l.length), go_sem, reduceIte, Nat.reduceEqDiff]
  have e0 : aloneN (l.take 0) = 0 := rfl
  simp only [e0, nat0] at l1
  rw [call_code F (show F 83 = some (.code f83) from rfl)]
  simp only [f83, l1, go_sem, reduceIte, reduceCtorEq, Nat.reduceEqDiff, Nat.reduceAdd]
theorem i_euler_Count {l : List Vx} {es : List Ed} (h : WF l es) : call F 67 [.agg [.sl .shared 5 (rowsBy Vx.c l), .sl .shared 4 (rowsBy Ed.c es)]] = some (.tup [.int .i64 l.length, .int .i64 es.length, .int .i64 (fN l es : Nat), .int .i64 (cN l : Nat)]) := by
  have c1 := i_many l h.lv
  have c2 := i_Faces h
  have c3 := i_comp_Count h
  have hf := h.small.1
  have w1 : IntKind.i64.wrap (((facesD l es).length : Int) + (aloneN l : Int)) = (fN l es : Int) := by
    have e : (fN l es : Int) = ((facesD l es).length : Int) + (aloneN l : Int) := by unfold fN; omega
    rw [wrap64 (by omega) (by omega), e]
  have e2 : partsN (labV l) l.length = cN l := rfl
  rw [e2] at c3
  generalize fN l es = fn at *
  generalize cN l = cn at *
  generalize facesD l es = fs at *
  rw [call_code F (show F 67 = some (.code f67) from rfl)]
  simp only [f67, c1, c2, c3, w1, go_sem, reduceIte, reduceCtorEq, Nat.reduceEqDiff, Nat.reduceAdd, Nat.reduceMul, Nat.reduceLeDiff, Nat.reduceBEq, List.length_cons, List.length_nil, Nat.testBit, Nat.reduceShiftRight, Nat.reduceAnd, Nat.reduceBNe]
theorem i_euler_Genus {l : List Vx} {es : List Ed} (h : WF l es) : call F 52 [.agg [.sl .shared 5 (rowsBy Vx.c l), .sl .shared 4 (rowsBy Ed.c es)]] = some (.int .i64 (gN l es : Nat)) := by
  have c1 := i_euler_Count h
  have hg := h.gen
  have hs := h.small
  have hlv := h.lv
  have hle := h.le
  generalize fN l es = f at *
  generalize cN l = c at *
  generalize gN l es = g at *
  have w1 : IntKind.i64.wrap ((l.length : Int) - (es.length : Int)) = (l.length : Int) - (es.length : Int) := wrap64 (by omega) (by omega)
  have w2 : IntKind.i64.wrap ((l.length : Int) - (es.length : Int) + (f : Int)) = 2 * ((c : Int) - (g : Int)) := by rw [wrap64 (by omega) (by omega)]; omega
  have td : (2 * ((c : Int) - (g : Int))).tdiv 2 = (c : Int) - (g : Int) := Int.mul_tdiv_cancel_left _ (by decide)
  have w3 : IntKind.i64.wrap ((c : Int) - (g : Int)) = (c : Int) - (g : Int) := wrap64 (by omega) (by omega)
  have w4 : IntKind.i64.wrap ((c : Int) - ((c : Int) - (g : Int))) = (g : Int) := by rw [wrap64 (by omega) (by omega)]; omega
  rw [call_code F (show F 52 = some (.code f52) from rfl)]
  simp only [f52, c1, w1, w2, td, w3, w4, go_sem, reduceIte, reduceCtorEq, Nat.reduceEqDiff, Nat.reduceAdd, Nat.reduceMul, List.length_cons, List.length_nil, Int.reduceEq]
theorem i_Planar {l : List Vx} {es : List Ed} (h : WF l es) : call F 36 [.agg [.sl .shared 5 (rowsBy Vx.c l), .sl .shared 4 (rowsBy Ed.c es)]] = some (.bool (decide (gN l es = 0))) := by
  have c1 := i_euler_Genus h
  have hd : decide (((gN l es : Nat) : Int) = 0) = decide (gN l es = 0) := by rw [decide_eq_decide]; omega
  generalize gN l es = g at *
  rw [call_code F (show F 36 = some (.code f36) from rfl)]
  simp only [f36, c1, hd, go_sem, reduceIte, reduceCtorEq, Nat.reduceEqDiff, Nat.reduceAdd, Nat.reduceMul, List.length_cons, List.length_nil]
/-- whether a diagram may be -/
noncomputable def mayC (l : List Vx) (es : List Ed) : Int := if formC l es = 0 then (if gN l es = 0 then 0 else 11) else formC l es
theorem i_euler_May (l : List Vx) (es : List Ed) (hr : FitsR l) : call F 24 [.agg [.sl .shared 5 (rowsBy Vx.c l), .sl .shared 4 (rowsBy Ed.c es)]] = some (.int .i64 (mayC l es)) := by
  have c1 := i_diagram_Form l es hr
  unfold mayC
  by_cases hf : formC l es = 0
  · have h := (formC_ok.1 hf).1
    have c2 := i_Planar h
    rw [hf] at c1
    rw [if_pos hf]
    by_cases hg : gN l es = 0
    · rw [if_pos hg]
      rw [dec_t hg] at c2
      rw [call_code F (show F 24 = some (.code f24) from rfl)]
      simp only [f24, c1, c2, go_sem, reduceIte, reduceCtorEq, Nat.reduceEqDiff, Nat.reduceAdd, Nat.reduceMul, List.length_cons, List.length_nil, ne_eq, not_true_eq_false]
    · rw [if_neg hg]
      rw [dec_f hg] at c2
      rw [call_code F (show F 24 = some (.code f24) from rfl)]
      simp only [f24, c1, c2, go_sem, reduceIte, reduceCtorEq, Nat.reduceEqDiff, Nat.reduceAdd, Nat.reduceMul, List.length_cons, List.length_nil, ne_eq, not_true_eq_false]
  · have hd : decide (¬ formC l es = 0) = true := dec_t hf
    rw [if_neg hf]
    generalize formC l es = c at *
    rw [call_code F (show F 24 = some (.code f24) from rfl)]
    simp only [f24, c1, hd, go_sem, reduceIte, reduceCtorEq, Nat.reduceEqDiff, Nat.reduceAdd, Nat.reduceMul, List.length_cons, List.length_nil, ne_eq]
end Go.Proofs.Ytcecojdeljbjoaa.Sx
namespace Go.Proofs.Ytcecojdeljbjoaa.Sx
open Go
/-- what an edge and a vertex have in common -/
def edB (x : ID) (s : ByteArray) (n : Int) : List UInt8 := putI x ++ textB s ++ numB n
def plE (es : List Ed) (x : ID) : Nat := if es.findIdx (fun e => decide (e.id = x)) = es.length then 0 else es.findIdx fun e => decide (e.id = x)
def dartB (es : List Ed) (x : Dart) : UInt8 := u8 ((plE es x.e : Int) + 128 * x.d)
def vxB (es : List Ed) (v : Vx) : List UInt8 := edB v.id v.label v.attr ++ u8 v.ring.length :: v.ring.map (dartB es)
def edsB (es : List Ed) : List UInt8 := es.flatMap fun e => edB e.id e.label e.attr
def vxsB (es : List Ed) (l : List Vx) : List UInt8 := l.flatMap (vxB es)
def putD (l : List Vx) (es : List Ed) : List UInt8 := u8 es.length :: (edsB es ++ u8 l.length :: vxsB es l)
theorem mayC_form {l : List Vx} {es : List Ed} (h : mayC l es = 0) : formC l es = 0 := by
  unfold mayC at h
  split at h
  · assumption
  · exact h
/-! ### how many bytes -/
theorem edB_len (x : ID) (s : ByteArray) (n : Int) : (edB x s n).length = 13 + s.size := by
  unfold edB
  rw [List.length_append, List.length_append, putI_len, textB_len, numB_len]; omega
theorem edsB_len : ∀ es : List Ed, (edsB es).length = 13 * es.length + (es.map fun e => e.label.size).sum
  | [] => rfl
  | e :: es => by
    have := edsB_len es
    unfold edsB at this ⊢
    rw [List.flatMap_cons, List.length_append, this, edB_len, List.length_cons, List.map_cons, List.sum_cons]; omega
theorem vxsB_len (es : List Ed) : ∀ l : List Vx, (vxsB es l).length = 14 * l.length + (l.map fun v => v.label.size).sum + (allR l).length
  | [] => rfl
  | v :: l => by
    have := vxsB_len es l
    unfold vxsB at this ⊢
    rw [List.flatMap_cons, List.length_append, this]
    unfold vxB
    rw [List.length_append, edB_len, List.length_cons, List.length_map, List.length_cons, List.map_cons, List.sum_cons, allR_cons, List.length_append]; omega
theorem putD_len {l : List Vx} {es : List Ed} (h : WF l es) : (putD l es).length = 2 + 13 * es.length + 14 * l.length + 2 * es.length + (es.map fun e => e.label.size).sum + (l.map fun v => v.label.size).sum := by
  unfold putD
  rw [List.length_cons, List.length_append, List.length_cons, edsB_len, vxsB_len, h.many]; omega
end Go.Proofs.Ytcecojdeljbjoaa.Sx
namespace Go.Proofs.Ytcecojdeljbjoaa.Sx
open Go
def nR (l : List UInt8) (x : Int) (q : Nat) : List (List TV) := rowsBy cByte (l ++ (numB x).take q) ++ List.replicate (8 - q) [.int .u8 0]
theorem nR_len (l : List UInt8) (x : Int) {q : Nat} (h : q ≤ 8) : (nR l x q).length = l.length + 8 := by
  unfold nR
  rw [List.length_append, rowsBy_length, List.length_append, List.length_take, numB_len, List.length_replicate]
  omega
theorem nR_zero (l : List UInt8) (x : Int) : rowsBy cByte l ++ (List.replicate (l.length + 8) [TV.int .u8 0]).drop l.length = nR l x 0 := by
  unfold nR
  rw [List.take_zero, List.append_nil, List.drop_replicate, show l.length + 8 - l.length = 8 - 0 by omega]
theorem nR_end (l : List UInt8) (x : Int) : nR l x 8 = rowsBy cByte (l ++ numB x) := by
  unfold nR
  rw [List.take_of_length_le (by rw [numB_len]; omega)]
  simp
theorem numB_get (x : Int) {q : Nat} (h : q < 8) : (numB x)[q]? = some (byteK (x % 18446744073709551616) (7 - q)) := by
  match q, h with
  | 0, _ => rfl
  | 1, _ => rfl
  | 2, _ => rfl
  | 3, _ => rfl
  | 4, _ => rfl
  | 5, _ => rfl
  | 6, _ => rfl
  | 7, _ => rfl
theorem numB_take (x : Int) {q : Nat} (h : q < 8) : (numB x).take (q + 1) = (numB x).take q ++ [byteK (x % 18446744073709551616) (7 - q)] := by
  rw [List.take_add_one, numB_get x h]; rfl
theorem nR_set (l : List UInt8) (x : Int) {q : Nat} (h : q < 8) : (nR l x q).set (l.length + q) (cByte (byteK (x % 18446744073709551616) (7 - q))) = nR l x (q + 1) := by
  unfold nR
  have e : (rowsBy cByte (l ++ (numB x).take q)).length = l.length + q := by rw [rowsBy_length, List.length_append, List.length_take, numB_len]; omega
  rw [List.set_append_right _ _ (by omega), e, Nat.sub_self, show 8 - q = (8 - (q + 1)) + 1 by omega, List.replicate_succ, List.set_cons_zero, numB_take x h, ← List.append_assoc, ← rowsBy_snoc, List.append_assoc]
  rfl
theorem nR_get (l : List UInt8) (x : Int) {q : Nat} (h : q < 8) : (nR l x q)[l.length + q]? = some [TV.int .u8 0] := by
  unfold nR
  have e : (rowsBy cByte (l ++ (numB x).take q)).length = l.length + q := by rw [rowsBy_length, List.length_append, List.length_take, numB_len]; omega
  rw [List.getElem?_append_right (by omega), e, Nat.sub_self, show 8 - q = (8 - (q + 1)) + 1 by omega, List.replicate_succ]
  rfl
/-- the byte of a round -/
theorem byteR_eq (x : Int) {q : Nat} (h : q < 8) : [TV.int .u8 (IntKind.u8.wrap ((IntKind.u64.wrap x).fdiv (2 ^ min (8 * (7 - (q : Int))).toNat 64)))] = cByte (byteK (x % 18446744073709551616) (7 - q)) := by
  rw [u8_row, wrapU_mod, show min (8 * (7 - (q : Int))).toNat 64 = 8 * (7 - q) by omega, Int.fdiv_eq_ediv_of_nonneg _ (Int.pow_nonneg (by omega))]
  rfl
theorem i_pack_Num (l : List UInt8) (hl : l.length ≤ 100000) (fl : Fl) (x : Int) : call F 17 [.sl fl 1 (rowsBy cByte l), .int .i64 x] = some (.sl (.own 5) 1 (rowsBy cByte (l ++ numB x))) := by
  have w8 : IntKind.i64.wrap ((l.length : Int) + 8) = (l.length : Int) + 8 := wrap64 (by omega) (by omega)
  have t8 : ((l.length : Int) + 8).toNat = l.length + 8 := by omega
  have n8 : (0 : Int) ≤ (l.length : Int) + 8 := by omega
  have b8 : (l.length : Int) + 8 ≤ 140737488355328 := by omega
  have m8 : min l.length (l.length + 8) = l.length := by omega
  have hz := nR_zero l x
  have tk : (l ++ numB x).take (l.length + 8) = l ++ numB x := List.take_of_length_le (by rw [List.length_append, numB_len]; omega)
  have l1 : E (cs F) 0 f17_l1 (⟨(upd (upd (upd (upd Sx.e0 14 (.v (.int .i64 (0)))) 5 (.s 5 0 (l.length + 8))) 1 (.v (.int .i64 (x)))) 0 (.v (.sl fl 1 (rowsBy cByte l)))), (upd Sx.h0 5 (some (.arr false 5 1 (nR l x 0))))⟩ : St) = some (.exit 0, (⟨(upd Sx.e0 5 (.s 5 0 (l.length + 8))), (upd Sx.h0 5 (some (.arr false 5 1 (nR l x 8))))⟩ : St)) := by
    refine loop_to (b := f17_b1) (fun q0 => (⟨(upd (upd (upd (upd Sx.e0 14 (.v (.int .i64 ((q0 : Int))))) 5 (.s 5 0 (l.length + 8))) 1 (.v (.int .i64 (x)))) 0 (.v (.sl fl 1 (rowsBy cByte l)))), (upd Sx.h0 5 (some (.arr false 5 1 (nR l x q0))))⟩ : St)) (8) ?_ ?_ (by simp)
    · intro i h1
      have h2 : (i : Int) < 8 := by omega
      have c0 : IntKind.i64.wrap ((l.length : Int) + i) = (l.length : Int) + i := wrap64 (by omega) (by omega)
      have c1 : IntKind.i64.wrap (7 - (i : Int)) = 7 - i := wrap64 (by omega) (by omega)
      have c2 : IntKind.i64.wrap (8 * (7 - (i : Int))) = 8 * (7 - i) := wrap64 (by omega) (by omega)
      have c3 : ¬ 8 * (7 - (i : Int)) < 0 := by omega
      have c4 : (0 : Int) ≤ (l.length : Int) + i := by omega
      have c5 : ((l.length : Int) + i).toNat = l.length + i := by omega
      have c6 : l.length + i < l.length + 8 := by omega
      have c7 := nR_len l x (Nat.le_of_lt h1)
      have d1 : (l.length : Int) + i < ((l.length + 8 : Nat) : Int) := by omega
      have c8 := nR_get l x h1
      have c9 := nR_set l x h1
      rw [← byteR_eq x h1] at c9
      simp only [f17_b1, rowsBy_length, decide_eq_true h2, c0, c1, c2, c3, c4, c5, c8, c9, d1, List.set_cons_zero, wrap_succ h1 (show 8 ≤ 9223372036854775807 by omega), go_sem, reduceIte, reduceCtorEq, Nat.reduceEqDiff, List.length_cons, List.length_nil, not_false_eq_true]
    · simp only [f17_b1, go_sem, reduceIte, reduceCtorEq, Nat.reduceEqDiff, Int.reduceLT, Int.cast_ofNat_Int]
  rw [call_code F (show F 17 = some (.code f17) from rfl)]
  simp only [f17, rowsBy_length, w8, t8, n8, b8, m8, Nat.zero_add, List.nil_append, List.take_zero, rowsBy_takeAll, hz, l1, Int.mul_one, nR_end, tk, go_sem, reduceIte, reduceCtorEq, Nat.reduceEqDiff, Nat.reduceAdd, List.length_cons, List.length_nil, Int.cast_ofNat_Int]
theorem i_Clip (fl : Fl) (R : List (List TV)) : calli F 30 1000000 Sx.h0 [.v (.sl fl 1 R)] = some (.v (.sl (.tight 5) 1 R), Sx.h0) := by
  rw [calli_code F (fn := f30) rfl]
  simp only [f30, Int.le_refl, Nat.sub_zero, List.take_length, go_sem, reduceIte, reduceCtorEq, Nat.reduceEqDiff]
theorem i_pack_Text (l : List UInt8) (hl : l.length ≤ 100000) (fl : Fl) (s : ByteArray) (hs : s.size ≤ 100000) : call F 19 [.sl fl 1 (rowsBy cByte l), .str s] = some (.sl (.own 5) 1 (rowsBy cByte (l ++ textB s))) := by
  have e : rowsBy cByte l ++ [[.int .u8 (IntKind.u8.wrap s.size)]] ++ rowsBy cByte s.data.toList = rowsBy cByte (l ++ textB s) := by
    rw [u8_row, rowsBy_snoc, rowsBy_append]
    unfold textB
    simp
  have hsz : s.data.toList.length = s.size := by rw [Array.length_toList]; rfl
  obtain ⟨z, hz⟩ : ∃ z, IntKind.u8.wrap (s.size : Int) = z := ⟨_, rfl⟩
  rw [← e, hz]
  have hq : (rowsBy cByte s.data.toList).length = s.size := by rw [rowsBy_length, hsz]
  cases hR : rowsBy cByte l with
  | nil =>
    have k3 : (1 + s.size) * 1 ≤ 140737488355328 := by omega
    have t2 : ([TV.int .u8 z] :: rowsBy cByte s.data.toList).take (1 + s.size) = [TV.int .u8 z] :: rowsBy cByte s.data.toList := take_all (by rw [List.length_cons, hq]; omega)
    rw [call_code F (show F 19 = some (.code f19) from rfl)]
    simp only [f19, hz, i_Clip, byteRows_by, hq, k3, t2, List.nil_append, List.cons_append, go_sem, reduceIte, reduceCtorEq, Nat.reduceEqDiff, Nat.reduceAdd, Nat.reduceMul, Nat.reduceLeDiff, List.length_cons, List.length_nil]
  | cons r R =>
    have hRl : R.length + 1 = l.length := by rw [← rowsBy_length cByte l, hR]; rfl
    have k1 : (R.length + 1 + 1) * 1 ≤ 140737488355328 := by omega
    have k3 : (R.length + 1 + 1 + s.size) * 1 ≤ 140737488355328 := by omega
    have t1 : (R ++ [[TV.int .u8 z]]).take (R.length + 1) = R ++ [[TV.int .u8 z]] := take_all (by simp)
    have t2 : (r :: (R ++ [[TV.int .u8 z]] ++ rowsBy cByte s.data.toList)).take (R.length + 1 + 1 + s.size) = r :: (R ++ [[TV.int .u8 z]] ++ rowsBy cByte s.data.toList) := take_all (by rw [List.length_cons, List.length_append, List.length_append, hq]; simp; omega)
    rw [call_code F (show F 19 = some (.code f19) from rfl)]
    simp only [f19, hz, i_Clip, byteRows_by, hq, k1, k3, t1, go_sem, reduceIte, reduceCtorEq, Nat.reduceEqDiff, Nat.reduceAdd, List.length_cons, List.length_nil]
    all_goals simp only [t2]
end Go.Proofs.Ytcecojdeljbjoaa.Sx
namespace Go.Proofs.Ytcecojdeljbjoaa.Sx
open Go
/-! ### the map of places -/
def plI (k : Nat) : List Ed → List (List TV × List TV)
  | [] => []
  | e :: r => ([.int .i64 e.id.s, .int .i64 e.id.n], [.int .i64 (k : Int)]) :: plI (k + 1) r
def keyI (x : ID) : List LV := [LV.v (.int .i64 x.s), LV.v (.int .i64 x.n)]
theorem eqcI (x y : ID) : eqCells [Lk.i, Lk.i] (keyI x) (liftV [.int .i64 y.s, .int .i64 y.n]) = some (decide (x = y)) := by
  unfold keyI
  have e : decide (x = y) = (decide (x.s = y.s) && decide (x.n = y.n)) := by
    cases x; cases y; simp
  rw [e]
  simp only [Bool.and_true, go_sem, reduceIte, reduceCtorEq, Nat.reduceEqDiff, Nat.reduceAdd, Nat.reduceMul, Nat.reduceLeDiff, Nat.reduceSub, Nat.reduceBEq, List.length_cons, List.length_nil, Int.reduceLT, Int.reduceLE, Int.reduceGT, Int.reduceGE, Int.reduceAdd, Int.reduceSub, Int.reduceMul, Int.reduceNeg, Int.reduceToNat, Int.reduceEq, Int.reduceNe, Int.cast_ofNat_Int, ne_eq, not_true_eq_false, not_false_eq_true, Nat.testBit, Nat.reduceShiftRight, Nat.reduceAnd, Nat.reduceBNe]
theorem find_plI (x : ID) : ∀ (es : List Ed) (k : Nat), findM [Lk.i, Lk.i] (keyI x) (plI k es) = some (if es.findIdx (fun e => decide (e.id = x)) = es.length then none else some [.int .i64 ((k + es.findIdx (fun e => decide (e.id = x)) : Nat) : Int)])
  | [], k => rfl
  | e :: es, k => by
    show findM _ _ (([.int .i64 e.id.s, .int .i64 e.id.n], [.int .i64 (k : Int)]) :: plI (k + 1) es) = _
    rw [findM, eqcI, List.findIdx_cons]
    by_cases h : x = e.id
    · subst h
      simp
    · have h' : ¬ e.id = x := fun q => h q.symm
      rw [decide_eq_false h, decide_eq_false h']
      simp only [cond_false, List.length_cons]
      rw [find_plI x es (k + 1)]
      by_cases q : es.findIdx (fun e => decide (e.id = x)) = es.length
      · rw [if_pos q, if_pos (by omega)]
      · rw [if_neg q, if_neg (by omega), show k + 1 + es.findIdx (fun e => decide (e.id = x)) = k + (es.findIdx (fun e => decide (e.id = x)) + 1) by omega]
theorem upd_plI (e : Ed) : ∀ (es : List Ed) (k : Nat), e.id ∉ es.map Ed.id → updM [Lk.i, Lk.i] (keyI e.id) [.int .i64 e.id.s, .int .i64 e.id.n] [.int .i64 ((k + es.length : Nat) : Int)] (plI k es) = some (plI k (es ++ [e]))
  | [], k, _ => rfl
  | f :: es, k, h => by
    simp only [List.map_cons, List.mem_cons, not_or] at h
    have := upd_plI e es (k + 1) h.2
    rw [show k + 1 + es.length = k + (f :: es).length by simp only [List.length_cons]; omega] at this
    show updM _ _ _ _ (([.int .i64 f.id.s, .int .i64 f.id.n], [.int .i64 (k : Int)]) :: plI (k + 1) es) = _
    rw [updM, eqcI, decide_eq_false h.1]
    simp only []
    rw [this]; rfl
theorem i_pack_put (l : List UInt8) (hl : l.length ≤ 90000) (x : ID) (s : ByteArray) (n : Int) (hs : s.size ≤ 1000) : call F 25 [.sl .shared 1 (rowsBy cByte l), .agg [.int .i64 x.s, .int .i64 x.n, .str s, .int .i64 n]] = some (.sl (.own 5) 1 (rowsBy cByte (l ++ edB x s n))) := by
  have c1 := i_ident_Put l (by omega) .shared x
  have c2 := i_pack_Text (l ++ putI x) (by rw [List.length_append, putI_len]; omega) .shared s (by omega)
  have c3 := i_pack_Num (l ++ putI x ++ textB s) (by rw [List.length_append, List.length_append, putI_len, textB_len]; omega) .shared n
  have e : l ++ edB x s n = l ++ putI x ++ textB s ++ numB n := by unfold edB; simp only [List.append_assoc]
  rw [e]
  have t1 : ∀ (l : List UInt8), (rowsBy cByte l).take l.length = rowsBy cByte l := fun l => rowsBy_takeAll _ _
  rw [call_code F (show F 25 = some (.code f25) from rfl)]
  simp only [f25, c1, c2, c3, t1, rowsBy_length, go_sem, reduceIte, reduceCtorEq, Nat.reduceEqDiff, Nat.reduceAdd, Nat.reduceMul, Nat.reduceLeDiff, Nat.reduceSub, Nat.reduceBEq, List.length_cons, List.length_nil, Int.reduceLT, Int.reduceLE, Int.reduceGT, Int.reduceGE, Int.reduceAdd, Int.reduceSub, Int.reduceMul, Int.reduceNeg, Int.reduceToNat, Int.reduceEq, Int.reduceNe, Int.cast_ofNat_Int, ne_eq, not_true_eq_false, not_false_eq_true, Nat.testBit, Nat.reduceShiftRight, Nat.reduceAnd, Nat.reduceBNe]
end Go.Proofs.Ytcecojdeljbjoaa.Sx
namespace Go.Proofs.Ytcecojdeljbjoaa.Sx
open Go
/-- no name longer than the law allows -/
structure Sml (l : List Vx) (es : List Ed) : Prop where
  le : es.length ≤ 42
  lv : l.length ≤ 26
  lr : ∀ v ∈ l, v.ring.length ≤ 82
  se : ∀ e ∈ es, e.label.size ≤ 500
  sv : ∀ v ∈ l, v.label.size ≤ 500
def pB (es : List Ed) (i : Nat) : List UInt8 := u8 es.length :: edsB (es.take i)
theorem edsB_snoc (es : List Ed) (e : Ed) : edsB (es ++ [e]) = edsB es ++ edB e.id e.label e.attr := by
  unfold edsB; rw [List.flatMap_append]; simp
theorem vxsB_snoc (es : List Ed) (l : List Vx) (v : Vx) : vxsB es (l ++ [v]) = vxsB es l ++ vxB es v := by
  unfold vxsB; rw [List.flatMap_append]; simp
theorem pB_succ {es : List Ed} {i : Nat} (h : i < es.length) : pB es i ++ edB es[i].id es[i].label es[i].attr = pB es (i + 1) := by
  unfold pB
  rw [List.take_succ_eq_append_getElem h, edsB_snoc]; rfl
theorem edsB_le : ∀ {es : List Ed}, (∀ e ∈ es, e.label.size ≤ 500) → (edsB es).length ≤ 513 * es.length
  | [], _ => by simp [edsB]
  | e :: es, h => by
    have h1 := edsB_le (es := es) fun x hx => h x (by simp [hx])
    have h2 := h e (by simp)
    show (edB e.id e.label e.attr ++ edsB es).length ≤ _
    rw [List.length_append, edB_len, List.length_cons]; omega
theorem pB_len {l : List Vx} {es : List Ed} (h : Sml l es) (i : Nat) : (pB es i).length ≤ 21547 := by
  have h1 := edsB_le (es := es.take i) fun e he => h.se e (List.mem_of_mem_take he)
  have h2 := h.le
  have h3 : (es.take i).length ≤ es.length := by rw [List.length_take]; omega
  unfold pB
  rw [List.length_cons]; omega
theorem vxB_len {es : List Ed} {v : Vx} (h1 : v.ring.length ≤ 82) (h2 : v.label.size ≤ 500) : (vxB es v).length ≤ 596 := by
  unfold vxB
  rw [List.length_append, edB_len, List.length_cons, List.length_map]; omega
theorem pack_Put_l1 {l : List Vx} {es : List Ed} (h : Sml l es) (hn : (es.map Ed.id).Nodup) :
    E (cs F) 0 f10_l1 (⟨(upd (upd (upd (upd (upd (upd Sx.e0 27 (.v (.int .i64 (0)))) 26 (.v (.int .i64 ((es.length : Int))))) 25 (.v (.sl .shared 4 (rowsBy Ed.c es)))) 6 (.s 6 0 (pB es 0).length)) 5 (.m 5)) 1 (.p 1 0)), (upd (upd (upd Sx.h0 6 (some (.arr false 5 1 (rowsBy cByte (pB es 0))))) 5 (some (.map false true false (plI 0 (es.take 0))))) 1 (some (.var false [(.v (.sl .shared 5 (rowsBy Vx.c l))), (.v (.sl .shared 4 (rowsBy Ed.c es)))])))⟩ : St) =
    some (.exit 0, (⟨(upd (upd (upd Sx.e0 6 (.s 6 0 (pB es es.length).length)) 5 (.m 5)) 1 (.p 1 0)), (upd (upd (upd Sx.h0 6 (some (.arr false 5 1 (rowsBy cByte (pB es es.length))))) 5 (some (.map false true false (plI 0 es)))) 1 (some (.var false [(.v (.sl .shared 5 (rowsBy Vx.c l))), (.v (.sl .shared 4 (rowsBy Ed.c es)))])))⟩ : St)) := by
  have hle := h.le
  have l1 : E (cs F) 0 f10_l1 (⟨(upd (upd (upd (upd (upd (upd Sx.e0 27 (.v (.int .i64 (0)))) 26 (.v (.int .i64 ((es.length : Int))))) 25 (.v (.sl .shared 4 (rowsBy Ed.c es)))) 6 (.s 6 0 (pB es 0).length)) 5 (.m 5)) 1 (.p 1 0)), (upd (upd (upd Sx.h0 6 (some (.arr false 5 1 (rowsBy cByte (pB es 0))))) 5 (some (.map false true false (plI 0 (es.take 0))))) 1 (some (.var false [(.v (.sl .shared 5 (rowsBy Vx.c l))), (.v (.sl .shared 4 (rowsBy Ed.c es)))])))⟩ : St) = some (.exit 0, (⟨(upd (upd (upd Sx.e0 6 (.s 6 0 (pB es es.length).length)) 5 (.m 5)) 1 (.p 1 0)), (upd (upd (upd Sx.h0 6 (some (.arr false 5 1 (rowsBy cByte (pB es es.length))))) 5 (some (.map false true false (plI 0 es)))) 1 (some (.var false [(.v (.sl .shared 5 (rowsBy Vx.c l))), (.v (.sl .shared 4 (rowsBy Ed.c es)))])))⟩ : St)) := by
    refine loop_to (b := f10_b1) (fun q0 => (⟨(upd (upd (upd (upd (upd (upd Sx.e0 27 (.v (.int .i64 ((q0 : Int))))) 26 (.v (.int .i64 ((es.length : Int))))) 25 (.v (.sl .shared 4 (rowsBy Ed.c es)))) 6 (.s 6 0 (pB es q0).length)) 5 (.m 5)) 1 (.p 1 0)), (upd (upd (upd Sx.h0 6 (some (.arr false 5 1 (rowsBy cByte (pB es q0))))) 5 (some (.map false true false (plI 0 (es.take q0))))) 1 (some (.var false [(.v (.sl .shared 5 (rowsBy Vx.c l))), (.v (.sl .shared 4 (rowsBy Ed.c es)))])))⟩ : St)) (es.length) ?_ ?_ (by simp)
    · intro i h1
      have h1z : (i : Int) < (es.length : Int) := by omega
      have hw : es.length ≤ 9223372036854775807 := by omega
      have c1 := i_pack_put (pB es i) (by have := pB_len h i; omega) es[i].id es[i].label es[i].attr (by have := h.se _ (List.getElem_mem h1); omega)
      rw [pB_succ h1] at c1
      have u1 := upd_plI es[i] (es.take i) 0 (by
        intro hm
        have h2 : es.take (i + 1) = es.take i ++ [es[i]] := List.take_succ_eq_append_getElem h1
        have h3 : ((es.take (i + 1)).map Ed.id).Nodup := by
          rw [List.map_take]; exact hn.sublist (List.take_sublist _ _)
        rw [h2, List.map_append, List.nodup_append] at h3
        exact h3.2.2 _ hm _ (by simp) rfl)
      rw [← List.take_succ_eq_append_getElem h1, show 0 + (es.take i).length = i by rw [List.length_take]; omega] at u1
      simp only [keyI] at u1
      have t1 := rowsBy_takeAll cByte (pB es i)
      simp only [f10_b1, h1z, rowsBy_get Ed.c h1, Ed.c, c1, u1, t1, rowsBy_length, wrap_succ h1 hw, go_sem, reduceIte, Nat.reduceEqDiff, Nat.reduceAdd, Nat.reduceMul, Nat.reduceLeDiff, List.length_cons, List.length_nil, not_false_eq_true]
    · simp only [f10_b1, dec_ge (Nat.le_refl es.length), List.take_length, go_sem, reduceIte, Nat.reduceEqDiff]
  exact l1
/-! ### a ring -/
def rB (es : List Ed) (W : List UInt8) (r : List Dart) (i : Nat) : List UInt8 := W ++ (r.take i).map (dartB es)
theorem rB_succ {es : List Ed} {W : List UInt8} {r : List Dart} {i : Nat} (h : i < r.length) : rB es W r i ++ [dartB es r[i]] = rB es W r (i + 1) := by
  unfold rB
  rw [List.take_succ_eq_append_getElem h, List.map_append, List.append_assoc]; rfl
theorem rB_len {es : List Ed} {W : List UInt8} {r : List Dart} {i : Nat} : (rB es W r i).length ≤ W.length + r.length := by
  unfold rB
  rw [List.length_append, List.length_map, List.length_take]; omega
theorem dart_row (es : List Ed) (x : Dart) : [TV.int .u8 (IntKind.u8.wrap (IntKind.i64.wrap (((plE es x.e : Nat) : Int) + IntKind.i64.wrap (128 * x.d))))] = cByte (dartB es x) := by
  rw [u8_row]
  unfold dartB
  congr 1
  refine u8_eq ?_
  rw [wrapI_mod, wrapI_mod]
  omega
theorem pack_Put_l3 (l : List Vx) (es : List Ed) (W : List UInt8) (r : List Dart) (k : Int) (hW : W.length ≤ 200000) (hr : r.length ≤ 82) :
    E (cs F) 0 f10_l3 (⟨(upd (upd (upd (upd (upd (upd (upd (upd Sx.e0 73 (.v (.int .i64 (0)))) 72 (.v (.int .i64 ((r.length : Int))))) 71 (.v (.sl .shared 3 (rowsBy Dart.c r)))) 50 (.v (.int .i64 (k)))) 49 (.v (.int .i64 ((l.length : Int))))) 48 (.v (.sl .shared 5 (rowsBy Vx.c l)))) 6 (.s 6 0 (rB es W r 0).length)) 5 (.m 5)), (upd (upd Sx.h0 6 (some (.arr false 5 1 (rowsBy cByte (rB es W r 0))))) 5 (some (.map false true false (plI 0 es))))⟩ : St) =
    some (.exit 4, (⟨(upd (upd (upd (upd (upd Sx.e0 50 (.v (.int .i64 (k)))) 49 (.v (.int .i64 ((l.length : Int))))) 48 (.v (.sl .shared 5 (rowsBy Vx.c l)))) 6 (.s 6 0 (rB es W r r.length).length)) 5 (.m 5)), (upd (upd Sx.h0 6 (some (.arr false 5 1 (rowsBy cByte (rB es W r r.length))))) 5 (some (.map false true false (plI 0 es))))⟩ : St)) := by
  have l1 : E (cs F) 0 f10_l3 (⟨(upd (upd (upd (upd (upd (upd (upd (upd Sx.e0 73 (.v (.int .i64 (0)))) 72 (.v (.int .i64 ((r.length : Int))))) 71 (.v (.sl .shared 3 (rowsBy Dart.c r)))) 50 (.v (.int .i64 (k)))) 49 (.v (.int .i64 ((l.length : Int))))) 48 (.v (.sl .shared 5 (rowsBy Vx.c l)))) 6 (.s 6 0 (rB es W r 0).length)) 5 (.m 5)), (upd (upd Sx.h0 6 (some (.arr false 5 1 (rowsBy cByte (rB es W r 0))))) 5 (some (.map false true false (plI 0 es))))⟩ : St) = some (.exit 4, (⟨(upd (upd (upd (upd (upd Sx.e0 50 (.v (.int .i64 (k)))) 49 (.v (.int .i64 ((l.length : Int))))) 48 (.v (.sl .shared 5 (rowsBy Vx.c l)))) 6 (.s 6 0 (rB es W r r.length).length)) 5 (.m 5)), (upd (upd Sx.h0 6 (some (.arr false 5 1 (rowsBy cByte (rB es W r r.length))))) 5 (some (.map false true false (plI 0 es))))⟩ : St)) := by
    refine loop_to (b := f10_b3) (fun q0 => (⟨(upd (upd (upd (upd (upd (upd (upd (upd Sx.e0 73 (.v (.int .i64 ((q0 : Int))))) 72 (.v (.int .i64 ((r.length : Int))))) 71 (.v (.sl .shared 3 (rowsBy Dart.c r)))) 50 (.v (.int .i64 (k)))) 49 (.v (.int .i64 ((l.length : Int))))) 48 (.v (.sl .shared 5 (rowsBy Vx.c l)))) 6 (.s 6 0 (rB es W r q0).length)) 5 (.m 5)), (upd (upd Sx.h0 6 (some (.arr false 5 1 (rowsBy cByte (rB es W r q0))))) 5 (some (.map false true false (plI 0 es))))⟩ : St)) (r.length) ?_ ?_ (by simp)
    · intro i h1
      have h1z : (i : Int) < (r.length : Int) := by omega
      have hw : r.length ≤ 9223372036854775807 := by omega
      have hB := rB_len (es := es) (W := W) (r := r) (i := i)
      have k1 : ((rB es W r i).length + 1) * 1 ≤ 140737488355328 := by omega
      have t1 := rowsBy_takeAll cByte (rB es W r i)
      have e1 := dart_row es r[i]
      have e2 := rowsBy_snoc cByte (rB es W r i) (dartB es r[i])
      rw [rB_succ h1, ← e1] at e2
      have e3 : (rB es W r (i + 1)).length = (rB es W r i).length + 1 := by rw [← rB_succ h1, List.length_append]; rfl
      have f1 := find_plI r[i].e es 0
      by_cases hq : es.findIdx (fun e => decide (e.id = r[i].e)) = es.length
      · have hp : plE es r[i].e = 0 := by unfold plE; rw [if_pos hq]
        rw [if_pos hq] at f1
        simp only [keyI] at f1
        rw [hp] at e2
        simp only [show ((0 : Nat) : Int) = 0 from rfl] at e2
        simp only [f10_b3, h1z, rowsBy_get Dart.c h1, Dart.c, f1, t1, e2, e3, k1, wrap_succ h1 hw, go_sem, reduceIte, Nat.reduceEqDiff, Nat.reduceAdd, Nat.reduceLeDiff, Nat.reduceBEq, List.length_cons, List.length_nil, Nat.testBit, Nat.reduceShiftRight, Nat.reduceAnd, Nat.reduceBNe]
      · have hp : plE es r[i].e = es.findIdx (fun e => decide (e.id = r[i].e)) := by unfold plE; rw [if_neg hq]
        rw [if_neg hq, Nat.zero_add, ← hp] at f1
        simp only [keyI] at f1
        simp only [f10_b3, h1z, rowsBy_get Dart.c h1, Dart.c, f1, t1, e2, e3, k1, wrap_succ h1 hw, go_sem, reduceIte, Nat.reduceEqDiff, Nat.reduceAdd, Nat.reduceLeDiff, Nat.reduceBEq, List.length_cons, List.length_nil, Nat.testBit, Nat.reduceShiftRight, Nat.reduceAnd, Nat.reduceBNe]
    · simp only [f10_b3, dec_ge (Nat.le_refl r.length), go_sem, reduceIte, Nat.reduceEqDiff]
  exact l1
/-! ### all -/
def vB (es : List Ed) (l : List Vx) (k : Nat) : List UInt8 := pB es es.length ++ u8 l.length :: vxsB es (l.take k)
theorem rB_zero (es : List Ed) (W : List UInt8) (r : List Dart) : rB es W r 0 = W := by unfold rB; simp
theorem rB_all (es : List Ed) (W : List UInt8) (r : List Dart) : rB es W r r.length = W ++ r.map (dartB es) := by unfold rB; rw [List.take_length]
theorem vB_zero (es : List Ed) (l : List Vx) : vB es l 0 = pB es es.length ++ [u8 l.length] := by unfold vB; simp [vxsB]
theorem vB_succ {es : List Ed} {l : List Vx} {k : Nat} (h : k < l.length) : vB es l k ++ edB l[k].id l[k].label l[k].attr ++ [u8 l[k].ring.length] ++ l[k].ring.map (dartB es) = vB es l (k + 1) := by
  unfold vB
  rw [List.take_succ_eq_append_getElem h, vxsB_snoc]
  unfold vxB
  simp only [List.append_assoc, List.cons_append, List.nil_append]
theorem vB_end (es : List Ed) (l : List Vx) : vB es l l.length = putD l es := by
  unfold vB pB putD
  rw [List.take_length, List.take_length]; rfl
theorem vxsB_le {es : List Ed} : ∀ {l : List Vx}, (∀ v ∈ l, v.ring.length ≤ 82) → (∀ v ∈ l, v.label.size ≤ 500) → (vxsB es l).length ≤ 596 * l.length
  | [], _, _ => by simp [vxsB]
  | v :: l, h1, h2 => by
    have q1 := vxsB_le (es := es) (l := l) (fun x hx => h1 x (by simp [hx])) (fun x hx => h2 x (by simp [hx]))
    have q2 := vxB_len (es := es) (h1 v (by simp)) (h2 v (by simp))
    show (vxB es v ++ vxsB es l).length ≤ _
    rw [List.length_append, List.length_cons]; omega
theorem vB_len {l : List Vx} {es : List Ed} (h : Sml l es) (k : Nat) : (vB es l k).length ≤ 38000 := by
  have h1 := vxsB_le (es := es) (l := l.take k) (fun v hv => h.lr v (List.mem_of_mem_take hv)) (fun v hv => h.sv v (List.mem_of_mem_take hv))
  have h2 := pB_len h es.length
  have h3 := h.lv
  have h4 : (l.take k).length ≤ l.length := by rw [List.length_take]; omega
  unfold vB
  rw [List.length_append, List.length_cons]; omega
theorem pack_Put_l2 {l : List Vx} {es : List Ed} (h : Sml l es) :
    E (cs F) 0 f10_l2 (⟨(upd (upd (upd (upd (upd Sx.e0 50 (.v (.int .i64 (0)))) 49 (.v (.int .i64 ((l.length : Int))))) 48 (.v (.sl .shared 5 (rowsBy Vx.c l)))) 6 (.s 6 0 (vB es l 0).length)) 5 (.m 5)), (upd (upd Sx.h0 6 (some (.arr false 5 1 (rowsBy cByte (vB es l 0))))) 5 (some (.map false true false (plI 0 es))))⟩ : St) =
    some (.exit 2, (⟨(upd Sx.e0 6 (.s 6 0 (vB es l l.length).length)), (upd Sx.h0 6 (some (.arr false 5 1 (rowsBy cByte (vB es l l.length)))))⟩ : St)) := by
  have hlv := h.lv
  have l1 : E (cs F) 0 f10_l2 (⟨(upd (upd (upd (upd (upd Sx.e0 50 (.v (.int .i64 (0)))) 49 (.v (.int .i64 ((l.length : Int))))) 48 (.v (.sl .shared 5 (rowsBy Vx.c l)))) 6 (.s 6 0 (vB es l 0).length)) 5 (.m 5)), (upd (upd Sx.h0 6 (some (.arr false 5 1 (rowsBy cByte (vB es l 0))))) 5 (some (.map false true false (plI 0 es))))⟩ : St) = some (.exit 2, (⟨(upd Sx.e0 6 (.s 6 0 (vB es l l.length).length)), (upd Sx.h0 6 (some (.arr false 5 1 (rowsBy cByte (vB es l l.length)))))⟩ : St)) := by
    refine loop_to (b := f10_b2) (fun q0 => (⟨(upd (upd (upd (upd (upd Sx.e0 50 (.v (.int .i64 ((q0 : Int))))) 49 (.v (.int .i64 ((l.length : Int))))) 48 (.v (.sl .shared 5 (rowsBy Vx.c l)))) 6 (.s 6 0 (vB es l q0).length)) 5 (.m 5)), (upd (upd Sx.h0 6 (some (.arr false 5 1 (rowsBy cByte (vB es l q0))))) 5 (some (.map false true false (plI 0 es))))⟩ : St)) (l.length) ?_ ?_ (by simp)
    · intro i h1
      have h1z : (i : Int) < (l.length : Int) := by omega
      have hw : l.length ≤ 9223372036854775807 := by omega
      have hB := vB_len h i
      have hr := h.lr _ (List.getElem_mem h1)
      have hs := h.sv _ (List.getElem_mem h1)
      have c1 := i_pack_put (vB es l i) (by omega) l[i].id l[i].label l[i].attr (by omega)
      have hq : (vB es l i ++ edB l[i].id l[i].label l[i].attr).length ≤ 39000 := by rw [List.length_append, edB_len]; omega
      have hs1 := vB_succ (es := es) h1
      generalize vB es l i ++ edB l[i].id l[i].label l[i].attr = Q at *
      have e1 := rowsBy_snoc cByte Q (u8 l[i].ring.length)
      rw [← u8_row] at e1
      have hW : (Q ++ [u8 l[i].ring.length]).length = Q.length + 1 := by rw [List.length_append]; rfl
      have k1 : (Q.length + 1) * 1 ≤ 140737488355328 := by omega
      have l3 := pack_Put_l3 l es (Q ++ [u8 l[i].ring.length]) l[i].ring (i : Int) (by omega) hr
      rw [rB_zero, rB_all, hs1, hW] at l3
      have t1 := rowsBy_takeAll cByte (vB es l i)
      have t2 := rowsBy_takeAll cByte Q
      simp only [f10_b2, h1z, rowsBy_get Vx.c h1, Vx.c, c1, t1, t2, e1, k1, l3, rowsBy_length, wrap_succ h1 hw, go_sem, reduceIte, Nat.reduceEqDiff, Nat.reduceAdd, Nat.reduceMul, Nat.reduceLeDiff, List.length_cons, List.length_nil]
    · simp only [f10_b2, dec_ge (Nat.le_refl l.length), go_sem, reduceIte, Nat.reduceEqDiff]
  exact l1
theorem may_sml {l : List Vx} {es : List Ed} (h : mayC l es = 0) (hr : ∀ v ∈ l, v.ring.length ≤ 82) : Sml l es ∧ (es.map Ed.id).Nodup := by
  obtain ⟨hw, hl, _⟩ := formC_ok.1 (mayC_form h)
  have hml : ∀ s, mayLab s = true → s.size ≤ 500 := by
    intro s hs
    unfold mayLab at hs
    simp only [Bool.and_eq_true, decide_eq_true_eq] at hs
    omega
  unfold labB at hl
  simp only [Bool.or_eq_false_iff, List.any_eq_false, Bool.not_eq_true', Bool.not_eq_false] at hl
  exact ⟨⟨by have := hw.le; omega, by have := hw.lv; omega, hr, fun e he => hml _ (hl.2 e he), fun v hv => hml _ (hl.1 v hv)⟩, hw.se.nodup⟩
theorem i_pack_Put (l : List Vx) (es : List Ed) (hr : ∀ v ∈ l, v.ring.length ≤ 82) : call F 10 [.agg [.sl .shared 5 (rowsBy Vx.c l), .sl .shared 4 (rowsBy Ed.c es)]] = some (if mayC l es = 0 then .tup [.sl (.own 5) 1 (rowsBy cByte (putD l es)), .int .i64 0] else .tup [.sl (.own 5) 1 [], .int .i64 (mayC l es)]) := by
  have c1 := i_euler_May l es (fun v hv => Fits.of (by have := hr v hv; omega))
  by_cases hm : mayC l es = 0
  · obtain ⟨h, hn⟩ := may_sml hm hr
    rw [if_pos hm]
    rw [hm] at c1
    have l1 := pack_Put_l1 h hn
    have e0 : rowsBy cByte (pB es 0) = [[TV.int .u8 (IntKind.u8.wrap es.length)]] := by
      show [cByte (u8 es.length)] = _
      rw [u8_row]
    rw [show (pB es 0).length = 1 from rfl, e0, List.take_zero, show plI 0 [] = [] from rfl] at l1
    have l2 := pack_Put_l2 h
    have e1 : rowsBy cByte (pB es es.length) ++ [[TV.int .u8 (IntKind.u8.wrap l.length)]] = rowsBy cByte (vB es l 0) := by rw [u8_row, rowsBy_snoc, vB_zero]
    have e2 : (vB es l 0).length = (pB es es.length).length + 1 := by rw [vB_zero, List.length_append]; rfl
    have hp := pB_len h es.length
    have k1 : ((pB es es.length).length + 1) * 1 ≤ 140737488355328 := by omega
    have t1 := rowsBy_takeAll cByte (pB es es.length)
    have t2 := rowsBy_takeAll cByte (vB es l l.length)
    rw [e2] at l2
    rw [← vB_end]
    rw [call_code F (show F 10 = some (.code f10) from rfl)]
    simp only [f10, c1, l1, l2, e1, k1, t1, t2, rowsBy_length, go_sem, reduceIte, reduceCtorEq, Nat.reduceEqDiff, Nat.reduceAdd, Nat.reduceMul, Nat.reduceLeDiff, List.length_cons, List.length_nil, ne_eq, not_true_eq_false]
  · have hd : decide (¬ mayC l es = 0) = true := dec_t hm
    rw [if_neg hm]
    generalize mayC l es = c at *
    rw [call_code F (show F 10 = some (.code f10) from rfl)]
    simp only [f10, c1, hd, go_sem, reduceIte, reduceCtorEq, Nat.reduceEqDiff, Nat.reduceAdd, Nat.reduceMul, List.length_cons, List.length_nil, ne_eq]
end Go.Proofs.Ytcecojdeljbjoaa.Sx
namespace Go.Proofs.Ytcecojdeljbjoaa.Sx
open Go
theorem none_wf : WF [] [] := wf_of (by decide) (by decide) (by decide +kernel) (by decide +kernel) (by decide +kernel)
theorem none_gen : gN [] [] = 0 := by
  have h := none_wf.gen
  have h2 := none_wf.small
  rw [show fN [] [] = 0 by decide +kernel] at h
  simp only [List.length_nil] at h h2
  omega
theorem none_may : mayC [] [] = 0 := by
  unfold mayC
  rw [if_pos (formC_ok.2 ⟨none_wf, rfl, rfl⟩), if_pos none_gen]
theorem i_Put_none : call F 10 [.agg [.sl .shared 5 [], .sl .shared 4 []]] = some (.tup [.sl (.own 5) 1 [[.int .u8 0], [.int .u8 0]], .int .i64 0]) := by
  have c1 := i_euler_May [] [] (fun v hv => by cases hv)
  rw [none_may] at c1
  simp only [rowsBy_nil] at c1
  have w0 : IntKind.u8.wrap 0 = 0 := rfl
  rw [call_code F (show F 10 = some (.code f10) from rfl)]
  simp only [f10, c1, go_sem, reduceIte, reduceCtorEq, Nat.reduceEqDiff, Nat.reduceAdd, Nat.reduceMul, List.length_cons, List.length_nil, Int.cast_ofNat_Int, ne_eq, not_true_eq_false]
  rw [f10_l1_eq]
  simp only [f10_b1, go_sem, reduceIte, Nat.reduceEqDiff, Nat.reduceAdd, Nat.reduceMul, Nat.reduceLeDiff, List.length_cons, List.length_nil, Int.reduceLT, Int.cast_ofNat_Int]
  rw [f10_l2_eq]
  simp only [f10_b2, w0, go_sem, reduceIte, Nat.reduceEqDiff, Int.reduceLT]
theorem c_shown : call F 9 [] = some (.bool true) := by
  have c1 := i_Put_none
  have c2 := i_pack_Num [] (by simp) (.tight 5) 1
  rw [List.nil_append, rowsBy_nil] at c2
  have hl : (rowsBy cByte (numB 1)).length = 8 := by rw [rowsBy_length]; rfl
  rw [call_code F (show F 9 = some (.code f9) from rfl)]
  have hb : ([UInt8.ofNat 0, UInt8.ofNat 0] == [0, 0]) = true := rfl
  simp only [f9, c1, c2, hl, hb, go_sem, reduceIte, reduceCtorEq, Nat.reduceEqDiff, Nat.reduceAdd, Nat.reduceMul, List.length_cons, List.length_nil, Int.reduceToNat, Int.cast_ofNat_Int]

end Go.Proofs.Ytcecojdeljbjoaa.Sx
namespace Go.Proofs.Ytcecojdeljbjoaa.Sx
open Go
/-- the first of some -/
def fewVx (n k : Nat) (l : List Vx) : List Vx := (l.take n).map fun v => ⟨v.id, v.ring.take k, v.label, v.attr⟩
theorem fewVx_len (n k : Nat) (l : List Vx) : (fewVx n k l).length ≤ n := by unfold fewVx; rw [List.length_map, List.length_take]; omega
theorem fewVx_ring (n k : Nat) (l : List Vx) : ∀ v ∈ fewVx n k l, v.ring.length ≤ k := by
  intro v hv
  unfold fewVx at hv
  obtain ⟨w, _, rfl⟩ := List.mem_map.1 hv
  show (w.ring.take k).length ≤ _
  rw [List.length_take]; omega
theorem fewVx_succ {n k : Nat} {l : List Vx} (h : n < l.length) : fewVx (n + 1) k l = fewVx n k l ++ [⟨l[n].id, l[n].ring.take k, l[n].label, l[n].attr⟩] := by
  unfold fewVx
  rw [List.take_succ_eq_append_getElem h, List.map_append]; rfl
theorem fewVx_min (n k : Nat) (l : List Vx) : fewVx (min l.length n) k l = fewVx n k l := by
  unfold fewVx
  congr 1
  rcases Nat.le_total l.length n with h | h
  · rw [Nat.min_eq_left h, List.take_of_length_le (Nat.le_refl _), List.take_of_length_le h]
  · rw [Nat.min_eq_right h]
theorem take_min {α : Type} (n : Nat) (l : List α) : l.take (min l.length n) = l.take n := by
  rcases Nat.le_total l.length n with h | h
  · rw [Nat.min_eq_left h, List.take_of_length_le (Nat.le_refl _), List.take_of_length_le h]
  · rw [Nat.min_eq_right h]
theorem few_l1 (vs : List Vx) (es : List Ed) : E (cs F) 0 f11_l1 (⟨(upd (upd (upd (upd Sx.e0 4 (.v (.int .i64 (0)))) 3 (.p 3 0)) 2 (.p 2 0)) 1 (.p 1 0)), (upd (upd (upd Sx.h0 3 (some (.var false [(.v (.sl (.tight 39) 5 [])), (.v (.sl (.tight 36) 4 []))]))) 2 (some (.var false [(.v (.sl (.tight 39) 5 [])), (.v (.sl (.tight 36) 4 []))]))) 1 (some (.var false [(.v (.sl .shared 5 (rowsBy Vx.c vs))), (.v (.sl .shared 4 (rowsBy Ed.c es)))])))⟩ : St) =
    some (if min vs.length 26 = 0 then (.exit 0, (⟨(upd (upd (upd Sx.e0 3 (.p 3 0)) 2 (.p 2 0)) 1 (.p 1 0)), (upd (upd (upd Sx.h0 3 (some (.var false [(.v (.sl (.tight 39) 5 [])), (.v (.sl (.tight 36) 4 []))]))) 2 (some (.var false [(.v (.sl (.tight 39) 5 [])), (.v (.sl (.tight 36) 4 []))]))) 1 (some (.var false [(.v (.sl .shared 5 (rowsBy Vx.c vs))), (.v (.sl .shared 4 (rowsBy Ed.c es)))])))⟩ : St)) else (.exit 0, (⟨(upd (upd (upd Sx.e0 3 (.p 3 0)) 2 (.p 2 0)) 1 (.p 1 0)), (upd (upd (upd (upd Sx.h0 10192 (some (.arr false 39 5 (rowsBy Vx.c (fewVx 26 82 vs))))) 3 (some (.var false [(.s 10192 0 (fewVx 26 82 vs).length), (.v (.sl (.tight 36) 4 []))]))) 2 (some (.var false [(.v (.sl (.tight 39) 5 [])), (.v (.sl (.tight 36) 4 []))]))) 1 (some (.var false [(.v (.sl .shared 5 (rowsBy Vx.c vs))), (.v (.sl .shared 4 (rowsBy Ed.c es)))])))⟩ : St))) := by
  rw [← fewVx_min 26 82 vs]
  have l1 : E (cs F) 0 f11_l1 (⟨(upd (upd (upd (upd Sx.e0 4 (.v (.int .i64 (0)))) 3 (.p 3 0)) 2 (.p 2 0)) 1 (.p 1 0)), (upd (upd (upd Sx.h0 3 (some (.var false [(.v (.sl (.tight 39) 5 [])), (.v (.sl (.tight 36) 4 []))]))) 2 (some (.var false [(.v (.sl (.tight 39) 5 [])), (.v (.sl (.tight 36) 4 []))]))) 1 (some (.var false [(.v (.sl .shared 5 (rowsBy Vx.c vs))), (.v (.sl .shared 4 (rowsBy Ed.c es)))])))⟩ : St) = some (if min vs.length 26 = 0 then (.exit 0, (⟨(upd (upd (upd Sx.e0 3 (.p 3 0)) 2 (.p 2 0)) 1 (.p 1 0)), (upd (upd (upd Sx.h0 3 (some (.var false [(.v (.sl (.tight 39) 5 [])), (.v (.sl (.tight 36) 4 []))]))) 2 (some (.var false [(.v (.sl (.tight 39) 5 [])), (.v (.sl (.tight 36) 4 []))]))) 1 (some (.var false [(.v (.sl .shared 5 (rowsBy Vx.c vs))), (.v (.sl .shared 4 (rowsBy Ed.c es)))])))⟩ : St)) else (.exit 0, (⟨(upd (upd (upd Sx.e0 3 (.p 3 0)) 2 (.p 2 0)) 1 (.p 1 0)), (upd (upd (upd (upd Sx.h0 10192 (some (.arr false 39 5 (rowsBy Vx.c (fewVx (min vs.length 26) 82 vs))))) 3 (some (.var false [(.s 10192 0 (fewVx (min vs.length 26) 82 vs).length), (.v (.sl (.tight 36) 4 []))]))) 2 (some (.var false [(.v (.sl (.tight 39) 5 [])), (.v (.sl (.tight 36) 4 []))]))) 1 (some (.var false [(.v (.sl .shared 5 (rowsBy Vx.c vs))), (.v (.sl .shared 4 (rowsBy Ed.c es)))])))⟩ : St))) := by
    refine loop_grow (b := f11_b1) _ (fun q0 => (⟨(upd (upd (upd (upd Sx.e0 4 (.v (.int .i64 ((q0 : Int))))) 3 (.p 3 0)) 2 (.p 2 0)) 1 (.p 1 0)), (upd (upd (upd (upd Sx.h0 10192 (some (.arr false 39 5 (rowsBy Vx.c (fewVx q0 82 vs))))) 3 (some (.var false [(.s 10192 0 (fewVx q0 82 vs).length), (.v (.sl (.tight 36) 4 []))]))) 2 (some (.var false [(.v (.sl (.tight 39) 5 [])), (.v (.sl (.tight 36) 4 []))]))) 1 (some (.var false [(.v (.sl .shared 5 (rowsBy Vx.c vs))), (.v (.sl .shared 4 (rowsBy Ed.c es)))])))⟩ : St)) (min vs.length 26) ?_ (by simp) ?_ ?_ ?_ (by simp)
    · intro h0
      have h0' : vs.length = 0 := by omega
      simp only [f11_b1, show decide ((0 : Int) < (vs.length : Int)) = false from decide_eq_false (by omega), go_sem, reduceIte, Nat.reduceEqDiff, Nat.reduceAdd, Nat.reduceLeDiff, List.length_cons, List.length_nil]
    · intro hn
      have h1 : 0 < vs.length := by omega
      have hs := fewVx_succ (n := 0) (k := 82) h1
      have e0 : fewVx 0 82 vs = [] := rfl
      rw [e0, List.nil_append, Nat.zero_add] at hs
      rw [hs]
      have e2 : rowsBy Vx.c [⟨vs[0].id, vs[0].ring.take 82, vs[0].label, vs[0].attr⟩] = [[.int .i64 vs[0].id.s, .int .i64 vs[0].id.n, .sl .shared 3 (rowsBy Dart.c (vs[0].ring.take 82)), .str vs[0].label, .int .i64 vs[0].attr]] := rfl
      rw [e2]
      have d1 : decide ((0 : Int) < (vs.length : Int)) = true := decide_eq_true (by omega)
      have h1z : (0 : Int) < (vs.length : Int) := by omega
      by_cases hr : vs[0].ring.length > 82
      · have k1 : decide ((vs[0].ring.length : Int) > 82) = true := decide_eq_true (by omega)
        have k2 : (82 : Int) ≤ (vs[0].ring.length : Int) := by omega
        simp only [f11_b1, h1z, rowsBy_get Vx.c h1, Vx.c, k1, k2, Int.reduceLT, show IntKind.i64.wrap 1 = 1 from rfl, go_sem, reduceIte, Nat.reduceEqDiff, Nat.reduceAdd, Nat.reduceMul, Nat.reduceLeDiff, List.length_cons, List.length_nil, Int.reduceLT, Int.reduceLE, Int.reduceAdd, Int.reduceToNat, Int.cast_ofNat_Int]
      · have k1 : decide ((vs[0].ring.length : Int) > 82) = false := decide_eq_false (by omega)
        rw [List.take_of_length_le (show vs[0].ring.length ≤ 82 by omega)]
        simp only [f11_b1, h1z, rowsBy_get Vx.c h1, Vx.c, k1, Int.reduceLT, show IntKind.i64.wrap 1 = 1 from rfl, go_sem, reduceIte, Nat.reduceEqDiff, Nat.reduceAdd, Nat.reduceMul, Nat.reduceLeDiff, List.length_cons, List.length_nil, Int.reduceLT, Int.reduceLE, Int.reduceAdd, Int.reduceToNat, Int.cast_ofNat_Int]
    · intro i hi0 hi
      have h1 : i < vs.length := by omega
      have h1z : (i : Int) < (vs.length : Int) := by omega
      have h2 : i < 26 := by omega
      have h3 : decide ((i : Int) < 26) = true := decide_eq_true (by omega)
      have hw : (26 : Nat) ≤ 9223372036854775807 := by decide
      have hs := fewVx_succ (k := 82) h1
      have hl : (fewVx i 82 vs).length ≤ i := fewVx_len i 82 vs
      have h5 : ((fewVx i 82 vs).length + 1) * 64 ≤ 140737488355328 := by omega
      rw [hs]
      have e2 : (fewVx i 82 vs ++ ([⟨vs[i].id, vs[i].ring.take 82, vs[i].label, vs[i].attr⟩] : List Vx)).length = (fewVx i 82 vs).length + 1 := by rw [List.length_append]; rfl
      rw [e2]
      generalize fewVx i 82 vs = m at *
      have e3 : rowsBy Vx.c m ++ [[.int .i64 vs[i].id.s, .int .i64 vs[i].id.n, .sl .shared 3 (rowsBy Dart.c (vs[i].ring.take 82)), .str vs[i].label, .int .i64 vs[i].attr]] = rowsBy Vx.c (m ++ [⟨vs[i].id, vs[i].ring.take 82, vs[i].label, vs[i].attr⟩]) := rowsBy_snoc Vx.c m ⟨vs[i].id, vs[i].ring.take 82, vs[i].label, vs[i].attr⟩
      by_cases hr : vs[i].ring.length > 82
      · have k1 : decide ((vs[i].ring.length : Int) > 82) = true := decide_eq_true (by omega)
        have k2 : (82 : Int) ≤ (vs[i].ring.length : Int) := by omega
        simp only [f11_b1, h1z, h3, rowsBy_get Vx.c h1, Vx.c, k1, k2, h5, e3, wrap_succ h2 hw, List.take_length, go_sem, reduceIte, Nat.reduceEqDiff, Nat.reduceAdd, Nat.reduceLeDiff, List.length_cons, List.length_nil, Int.reduceLE, Int.reduceToNat]
      · have k1 : decide ((vs[i].ring.length : Int) > 82) = false := decide_eq_false (by omega)
        rw [List.take_of_length_le (show vs[i].ring.length ≤ 82 by omega)] at e3 ⊢
        simp only [f11_b1, h1z, h3, rowsBy_get Vx.c h1, Vx.c, k1, h5, e3, wrap_succ h2 hw, List.take_length, go_sem, reduceIte, Nat.reduceEqDiff, Nat.reduceAdd, Nat.reduceLeDiff, List.length_cons, List.length_nil, Int.reduceLE, Int.reduceToNat]
    · intro hn
      by_cases h : vs.length ≤ 26
      · rw [Nat.min_eq_left h]
        simp only [f11_b1, dec_ge (Nat.le_refl vs.length), go_sem, reduceIte, Nat.reduceEqDiff, Nat.reduceAdd, Nat.reduceLeDiff, List.length_cons, List.length_nil]
      · rw [Nat.min_eq_right (by omega)]
        simp only [f11_b1, show decide ((26 : Int) < (vs.length : Int)) = true from decide_eq_true (by omega), go_sem, reduceIte, Nat.reduceEqDiff, Nat.reduceAdd, Nat.reduceLeDiff, List.length_cons, List.length_nil, Int.reduceLT, Int.cast_ofNat_Int]
  exact l1
theorem few_l2a (vs : List Vx) (es : List Ed) : E (cs F) 0 f11_l2 (⟨(upd (upd (upd (upd Sx.e0 6 (.v (.int .i64 (0)))) 3 (.p 3 0)) 2 (.p 2 0)) 1 (.p 1 0)), (upd (upd (upd Sx.h0 3 (some (.var false [(.v (.sl (.tight 39) 5 [])), (.v (.sl (.tight 36) 4 []))]))) 2 (some (.var false [(.v (.sl (.tight 39) 5 [])), (.v (.sl (.tight 36) 4 []))]))) 1 (some (.var false [(.v (.sl .shared 5 (rowsBy Vx.c vs))), (.v (.sl .shared 4 (rowsBy Ed.c es)))])))⟩ : St) =
    some (if min es.length 42 = 0 then (.exit 2, (⟨(upd (upd Sx.e0 3 (.p 3 0)) 2 (.p 2 0)), (upd (upd Sx.h0 3 (some (.var false [(.v (.sl (.tight 39) 5 [])), (.v (.sl (.tight 36) 4 []))]))) 2 (some (.var false [(.v (.sl (.tight 39) 5 [])), (.v (.sl (.tight 36) 4 []))])))⟩ : St)) else (.exit 2, (⟨(upd (upd Sx.e0 3 (.p 3 0)) 2 (.p 2 0)), (upd (upd (upd Sx.h0 10193 (some (.arr false 36 4 (rowsBy Ed.c (es.take 42))))) 3 (some (.var false [(.v (.sl (.tight 39) 5 [])), (.s 10193 0 (es.take 42).length)]))) 2 (some (.var false [(.v (.sl (.tight 39) 5 [])), (.v (.sl (.tight 36) 4 []))])))⟩ : St))) := by
  rw [← take_min 42 es]
  have l1 : E (cs F) 0 f11_l2 (⟨(upd (upd (upd (upd Sx.e0 6 (.v (.int .i64 (0)))) 3 (.p 3 0)) 2 (.p 2 0)) 1 (.p 1 0)), (upd (upd (upd Sx.h0 3 (some (.var false [(.v (.sl (.tight 39) 5 [])), (.v (.sl (.tight 36) 4 []))]))) 2 (some (.var false [(.v (.sl (.tight 39) 5 [])), (.v (.sl (.tight 36) 4 []))]))) 1 (some (.var false [(.v (.sl .shared 5 (rowsBy Vx.c vs))), (.v (.sl .shared 4 (rowsBy Ed.c es)))])))⟩ : St) = some (if min es.length 42 = 0 then (.exit 2, (⟨(upd (upd Sx.e0 3 (.p 3 0)) 2 (.p 2 0)), (upd (upd Sx.h0 3 (some (.var false [(.v (.sl (.tight 39) 5 [])), (.v (.sl (.tight 36) 4 []))]))) 2 (some (.var false [(.v (.sl (.tight 39) 5 [])), (.v (.sl (.tight 36) 4 []))])))⟩ : St)) else (.exit 2, (⟨(upd (upd Sx.e0 3 (.p 3 0)) 2 (.p 2 0)), (upd (upd (upd Sx.h0 10193 (some (.arr false 36 4 (rowsBy Ed.c (es.take (min es.length 42)))))) 3 (some (.var false [(.v (.sl (.tight 39) 5 [])), (.s 10193 0 (es.take (min es.length 42)).length)]))) 2 (some (.var false [(.v (.sl (.tight 39) 5 [])), (.v (.sl (.tight 36) 4 []))])))⟩ : St))) := by
    refine loop_grow (b := f11_b2) _ (fun q0 => (⟨(upd (upd (upd (upd Sx.e0 6 (.v (.int .i64 ((q0 : Int))))) 3 (.p 3 0)) 2 (.p 2 0)) 1 (.p 1 0)), (upd (upd (upd (upd Sx.h0 10193 (some (.arr false 36 4 (rowsBy Ed.c (es.take q0))))) 3 (some (.var false [(.v (.sl (.tight 39) 5 [])), (.s 10193 0 (es.take q0).length)]))) 2 (some (.var false [(.v (.sl (.tight 39) 5 [])), (.v (.sl (.tight 36) 4 []))]))) 1 (some (.var false [(.v (.sl .shared 5 (rowsBy Vx.c vs))), (.v (.sl .shared 4 (rowsBy Ed.c es)))])))⟩ : St)) (min es.length 42) ?_ (by simp) ?_ ?_ ?_ (by simp)
    · intro h0
      simp only [f11_b2, show decide ((0 : Int) < (es.length : Int)) = false from decide_eq_false (by omega), go_sem, reduceIte, Nat.reduceEqDiff, Nat.reduceAdd, List.length_cons, List.length_nil]
    · intro hn
      have h1 : 0 < es.length := by omega
      have hs : es.take 1 = [es[0]] := List.take_succ_eq_append_getElem (i := 0) h1
      rw [hs]
      have e2 : rowsBy Ed.c [es[0]] = [[.int .i64 es[0].id.s, .int .i64 es[0].id.n, .str es[0].label, .int .i64 es[0].attr]] := rfl
      rw [e2]
      have d1 : decide ((0 : Int) < (es.length : Int)) = true := decide_eq_true (by omega)
      have h1z : (0 : Int) < (es.length : Int) := by omega
      simp only [f11_b2, h1z, rowsBy_get Ed.c h1, Ed.c, Int.reduceLT, show IntKind.i64.wrap 1 = 1 from rfl, go_sem, reduceIte, Nat.reduceEqDiff, Nat.reduceAdd, Nat.reduceMul, Nat.reduceLeDiff, Nat.reduceBEq, List.length_cons, List.length_nil, Int.reduceLT, Int.reduceAdd, Int.reduceToNat, Int.cast_ofNat_Int, Nat.testBit, Nat.reduceShiftRight, Nat.reduceAnd, Nat.reduceBNe]
    · intro i hi0 hi
      have h1 : i < es.length := by omega
      have h1z : (i : Int) < (es.length : Int) := by omega
      have h2 : i < 42 := by omega
      have h3 : decide ((i : Int) < 42) = true := decide_eq_true (by omega)
      have hw : (42 : Nat) ≤ 9223372036854775807 := by decide
      have hs : es.take (i + 1) = es.take i ++ [es[i]] := List.take_succ_eq_append_getElem h1
      have hl : (es.take i).length ≤ i := by rw [List.length_take]; omega
      have h5 : ((es.take i).length + 1) * 40 ≤ 140737488355328 := by omega
      rw [hs]
      have e2 : (es.take i ++ [es[i]]).length = (es.take i).length + 1 := by rw [List.length_append]; rfl
      rw [e2]
      generalize es.take i = q at *
      have e3 : rowsBy Ed.c q ++ [[.int .i64 es[i].id.s, .int .i64 es[i].id.n, .str es[i].label, .int .i64 es[i].attr]] = rowsBy Ed.c (q ++ [es[i]]) := rowsBy_snoc Ed.c q es[i]
      simp only [f11_b2, h1z, h3, rowsBy_get Ed.c h1, Ed.c, h5, e3, wrap_succ h2 hw, List.take_length, go_sem, reduceIte, Nat.reduceEqDiff, Nat.reduceAdd, Nat.reduceBEq, List.length_cons, List.length_nil, Nat.testBit, Nat.reduceShiftRight, Nat.reduceAnd, Nat.reduceBNe]
    · intro hn
      by_cases h : es.length ≤ 42
      · rw [Nat.min_eq_left h]
        simp only [f11_b2, dec_ge (Nat.le_refl es.length), go_sem, reduceIte, Nat.reduceEqDiff, Nat.reduceAdd, List.length_cons, List.length_nil]
      · rw [Nat.min_eq_right (by omega)]
        simp only [f11_b2, show decide ((42 : Int) < (es.length : Int)) = true from decide_eq_true (by omega), go_sem, reduceIte, Nat.reduceEqDiff, Nat.reduceAdd, List.length_cons, List.length_nil, Int.reduceLT, Int.cast_ofNat_Int]
  exact l1
theorem few_l2b (vs : List Vx) (es : List Ed) (m : List Vx) : E (cs F) 0 f11_l2 (⟨(upd (upd (upd (upd Sx.e0 6 (.v (.int .i64 (0)))) 3 (.p 3 0)) 2 (.p 2 0)) 1 (.p 1 0)), (upd (upd (upd (upd Sx.h0 10192 (some (.arr false 39 5 (rowsBy Vx.c m)))) 3 (some (.var false [(.s 10192 0 m.length), (.v (.sl (.tight 36) 4 []))]))) 2 (some (.var false [(.v (.sl (.tight 39) 5 [])), (.v (.sl (.tight 36) 4 []))]))) 1 (some (.var false [(.v (.sl .shared 5 (rowsBy Vx.c vs))), (.v (.sl .shared 4 (rowsBy Ed.c es)))])))⟩ : St) =
    some (if min es.length 42 = 0 then (.exit 2, (⟨(upd (upd Sx.e0 3 (.p 3 0)) 2 (.p 2 0)), (upd (upd (upd Sx.h0 10192 (some (.arr false 39 5 (rowsBy Vx.c m)))) 3 (some (.var false [(.s 10192 0 m.length), (.v (.sl (.tight 36) 4 []))]))) 2 (some (.var false [(.v (.sl (.tight 39) 5 [])), (.v (.sl (.tight 36) 4 []))])))⟩ : St)) else (.exit 2, (⟨(upd (upd Sx.e0 3 (.p 3 0)) 2 (.p 2 0)), (upd (upd (upd (upd Sx.h0 10193 (some (.arr false 36 4 (rowsBy Ed.c (es.take 42))))) 10192 (some (.arr false 39 5 (rowsBy Vx.c m)))) 3 (some (.var false [(.s 10192 0 m.length), (.s 10193 0 (es.take 42).length)]))) 2 (some (.var false [(.v (.sl (.tight 39) 5 [])), (.v (.sl (.tight 36) 4 []))])))⟩ : St))) := by
  rw [← take_min 42 es]
  have l1 : E (cs F) 0 f11_l2 (⟨(upd (upd (upd (upd Sx.e0 6 (.v (.int .i64 (0)))) 3 (.p 3 0)) 2 (.p 2 0)) 1 (.p 1 0)), (upd (upd (upd (upd Sx.h0 10192 (some (.arr false 39 5 (rowsBy Vx.c m)))) 3 (some (.var false [(.s 10192 0 m.length), (.v (.sl (.tight 36) 4 []))]))) 2 (some (.var false [(.v (.sl (.tight 39) 5 [])), (.v (.sl (.tight 36) 4 []))]))) 1 (some (.var false [(.v (.sl .shared 5 (rowsBy Vx.c vs))), (.v (.sl .shared 4 (rowsBy Ed.c es)))])))⟩ : St) = some (if min es.length 42 = 0 then (.exit 2, (⟨(upd (upd Sx.e0 3 (.p 3 0)) 2 (.p 2 0)), (upd (upd (upd Sx.h0 10192 (some (.arr false 39 5 (rowsBy Vx.c m)))) 3 (some (.var false [(.s 10192 0 m.length), (.v (.sl (.tight 36) 4 []))]))) 2 (some (.var false [(.v (.sl (.tight 39) 5 [])), (.v (.sl (.tight 36) 4 []))])))⟩ : St)) else (.exit 2, (⟨(upd (upd Sx.e0 3 (.p 3 0)) 2 (.p 2 0)), (upd (upd (upd (upd Sx.h0 10193 (some (.arr false 36 4 (rowsBy Ed.c (es.take (min es.length 42)))))) 10192 (some (.arr false 39 5 (rowsBy Vx.c m)))) 3 (some (.var false [(.s 10192 0 m.length), (.s 10193 0 (es.take (min es.length 42)).length)]))) 2 (some (.var false [(.v (.sl (.tight 39) 5 [])), (.v (.sl (.tight 36) 4 []))])))⟩ : St))) := by
    refine loop_grow (b := f11_b2) _ (fun q0 => (⟨(upd (upd (upd (upd Sx.e0 6 (.v (.int .i64 ((q0 : Int))))) 3 (.p 3 0)) 2 (.p 2 0)) 1 (.p 1 0)), (upd (upd (upd (upd (upd Sx.h0 10193 (some (.arr false 36 4 (rowsBy Ed.c (es.take q0))))) 10192 (some (.arr false 39 5 (rowsBy Vx.c m)))) 3 (some (.var false [(.s 10192 0 m.length), (.s 10193 0 (es.take q0).length)]))) 2 (some (.var false [(.v (.sl (.tight 39) 5 [])), (.v (.sl (.tight 36) 4 []))]))) 1 (some (.var false [(.v (.sl .shared 5 (rowsBy Vx.c vs))), (.v (.sl .shared 4 (rowsBy Ed.c es)))])))⟩ : St)) (min es.length 42) ?_ (by simp) ?_ ?_ ?_ (by simp)
    · intro h0
      simp only [f11_b2, show decide ((0 : Int) < (es.length : Int)) = false from decide_eq_false (by omega), go_sem, reduceIte, Nat.reduceEqDiff, Nat.reduceAdd, List.length_cons, List.length_nil]
    · intro hn
      have h1 : 0 < es.length := by omega
      have hs : es.take 1 = [es[0]] := List.take_succ_eq_append_getElem (i := 0) h1
      rw [hs]
      have e2 : rowsBy Ed.c [es[0]] = [[.int .i64 es[0].id.s, .int .i64 es[0].id.n, .str es[0].label, .int .i64 es[0].attr]] := rfl
      rw [e2]
      have d1 : decide ((0 : Int) < (es.length : Int)) = true := decide_eq_true (by omega)
      have h1z : (0 : Int) < (es.length : Int) := by omega
      simp only [f11_b2, h1z, rowsBy_get Ed.c h1, Ed.c, Int.reduceLT, show IntKind.i64.wrap 1 = 1 from rfl, go_sem, reduceIte, Nat.reduceEqDiff, Nat.reduceAdd, Nat.reduceMul, Nat.reduceLeDiff, Nat.reduceBEq, List.length_cons, List.length_nil, Int.reduceLT, Int.reduceAdd, Int.reduceToNat, Int.cast_ofNat_Int, Nat.testBit, Nat.reduceShiftRight, Nat.reduceAnd, Nat.reduceBNe]
    · intro i hi0 hi
      have h1 : i < es.length := by omega
      have h1z : (i : Int) < (es.length : Int) := by omega
      have h2 : i < 42 := by omega
      have h3 : decide ((i : Int) < 42) = true := decide_eq_true (by omega)
      have hw : (42 : Nat) ≤ 9223372036854775807 := by decide
      have hs : es.take (i + 1) = es.take i ++ [es[i]] := List.take_succ_eq_append_getElem h1
      have hl : (es.take i).length ≤ i := by rw [List.length_take]; omega
      have h5 : ((es.take i).length + 1) * 40 ≤ 140737488355328 := by omega
      rw [hs]
      have e2 : (es.take i ++ [es[i]]).length = (es.take i).length + 1 := by rw [List.length_append]; rfl
      rw [e2]
      generalize es.take i = q at *
      have e3 : rowsBy Ed.c q ++ [[.int .i64 es[i].id.s, .int .i64 es[i].id.n, .str es[i].label, .int .i64 es[i].attr]] = rowsBy Ed.c (q ++ [es[i]]) := rowsBy_snoc Ed.c q es[i]
      simp only [f11_b2, h1z, h3, rowsBy_get Ed.c h1, Ed.c, h5, e3, wrap_succ h2 hw, List.take_length, go_sem, reduceIte, Nat.reduceEqDiff, Nat.reduceAdd, Nat.reduceBEq, List.length_cons, List.length_nil, Nat.testBit, Nat.reduceShiftRight, Nat.reduceAnd, Nat.reduceBNe]
    · intro hn
      by_cases h : es.length ≤ 42
      · rw [Nat.min_eq_left h]
        simp only [f11_b2, dec_ge (Nat.le_refl es.length), go_sem, reduceIte, Nat.reduceEqDiff, Nat.reduceAdd, List.length_cons, List.length_nil]
      · rw [Nat.min_eq_right (by omega)]
        simp only [f11_b2, show decide ((42 : Int) < (es.length : Int)) = true from decide_eq_true (by omega), go_sem, reduceIte, Nat.reduceEqDiff, Nat.reduceAdd, List.length_cons, List.length_nil, Int.reduceLT, Int.cast_ofNat_Int]
  exact l1
theorem c_few (vs : List Vx) (es : List Ed) : call F 11 [.agg [.sl .shared 5 (rowsBy Vx.c vs), .sl .shared 4 (rowsBy Ed.c es)]] = some (.agg [.sl (.own 39) 5 (rowsBy Vx.c (fewVx 26 82 vs)), .sl (.own 36) 4 (rowsBy Ed.c (es.take 42))]) := by
  have l1 := few_l1 vs es
  have ze : min es.length 42 = 0 → es.take 42 = [] := fun h => List.eq_nil_of_length_eq_zero (by rw [List.length_take]; omega)
  have zv : min vs.length 26 = 0 → fewVx 26 82 vs = [] := fun h => List.eq_nil_of_length_eq_zero (by unfold fewVx; rw [List.length_map, List.length_take]; omega)
  by_cases h1 : min vs.length 26 = 0
  · rw [if_pos h1] at l1
    have l2 := few_l2a vs es
    rw [zv h1]
    by_cases h2 : min es.length 42 = 0
    · rw [if_pos h2] at l2
      rw [ze h2]
      rw [call_code F (show F 11 = some (.code f11) from rfl)]
      simp only [f11, l1, l2, rowsBy_nil, go_sem, reduceIte, reduceCtorEq, Nat.reduceEqDiff, Nat.reduceAdd, List.length_cons, List.length_nil]
    · rw [if_neg h2] at l2
      generalize es.take 42 = q at *
      rw [call_code F (show F 11 = some (.code f11) from rfl)]
      simp only [f11, l1, l2, rowsBy_nil, List.take_length, go_sem, reduceIte, reduceCtorEq, Nat.reduceEqDiff, Nat.reduceAdd, List.length_cons, List.length_nil]
  · rw [if_neg h1] at l1
    have l2 := few_l2b vs es (fewVx 26 82 vs)
    generalize fewVx 26 82 vs = m at *
    by_cases h2 : min es.length 42 = 0
    · rw [if_pos h2] at l2
      rw [ze h2]
      rw [call_code F (show F 11 = some (.code f11) from rfl)]
      simp only [f11, l1, l2, rowsBy_nil, List.take_length, go_sem, reduceIte, reduceCtorEq, Nat.reduceEqDiff, Nat.reduceAdd, List.length_cons, List.length_nil]
    · rw [if_neg h2] at l2
      generalize es.take 42 = q at *
      rw [call_code F (show F 11 = some (.code f11) from rfl)]
      simp only [f11, l1, l2, List.take_length, go_sem, reduceIte, reduceCtorEq, Nat.reduceEqDiff, Nat.reduceAdd, Nat.reduceBEq, List.length_cons, List.length_nil]
def sE (e : List Ed) (i : Nat) : Nat := ((e.take i).map fun x => x.label.size).sum
def sV (e : List Vx) (i : Nat) : Nat := ((e.take i).map fun x => x.label.size).sum
theorem sE_succ {e : List Ed} {i : Nat} (h : i < e.length) : sE e (i + 1) = sE e i + e[i].label.size := by
  unfold sE; rw [List.take_succ_eq_append_getElem h, List.map_append, List.sum_append]; simp
theorem sV_succ {e : List Vx} {i : Nat} (h : i < e.length) : sV e (i + 1) = sV e i + e[i].label.size := by
  unfold sV; rw [List.take_succ_eq_append_getElem h, List.map_append, List.sum_append]; simp
theorem sum_le {α : Type} {f : α → Nat} : ∀ {l : List α}, (∀ x ∈ l, f x ≤ 500) → (l.map f).sum ≤ 500 * l.length
  | [], _ => by simp
  | x :: l, h => by
    have h1 := sum_le (l := l) fun y hy => h y (by simp [hy])
    have h2 := h x (by simp)
    rw [List.map_cons, List.sum_cons, List.length_cons]; omega
theorem sE_le {e : List Ed} (h : ∀ x ∈ e, x.label.size ≤ 500) (i : Nat) : sE e i ≤ 500 * e.length := by
  have := sum_le (l := e.take i) (f := fun x => x.label.size) fun x hx => h x (List.mem_of_mem_take hx)
  have h2 : (e.take i).length ≤ e.length := by rw [List.length_take]; omega
  unfold sE; omega
theorem sV_le {e : List Vx} (h : ∀ x ∈ e, x.label.size ≤ 500) (i : Nat) : sV e i ≤ 500 * e.length := by
  have := sum_le (l := e.take i) (f := fun x => x.label.size) fun x hx => h x (List.mem_of_mem_take hx)
  have h2 : (e.take i).length ≤ e.length := by rw [List.length_take]; omega
  unfold sV; omega
theorem t_sizes (vs : List Vx) (es : List Ed) : call F 4 [.agg [.sl .shared 5 (rowsBy Vx.c vs), .sl .shared 4 (rowsBy Ed.c es)]] = some (.bool true) := by
  have csh := c_shown
  have cw := c_few vs es
  have hr := fewVx_ring 26 82 vs
  generalize fewVx 26 82 vs = v at *
  generalize es.take 42 = e at *
  have cp := i_pack_Put v e hr
  by_cases hm : mayC v e = 0
  · rw [if_pos hm] at cp
    have hw := (formC_ok.1 (mayC_form hm)).1
    have hlen := putD_len hw
    obtain ⟨hsml, _⟩ := may_sml hm hr
    generalize putD v e = B at *
    have hv := hw.lv
    have he := hw.le
    have se := sE_le hsml.se
    have sv := sV_le hsml.sv
    have wr : IntKind.i64.wrap (IntKind.i64.wrap (IntKind.i64.wrap (2 + IntKind.i64.wrap (13 * (e.length : Int))) + IntKind.i64.wrap (14 * (v.length : Int))) + IntKind.i64.wrap (2 * (e.length : Int))) = ((2 + 13 * e.length + 14 * v.length + 2 * e.length + sE e 0 : Nat) : Int) := by
      rw [wrap64 (n := 13 * (e.length : Int)) (by omega) (by omega), wrap64 (n := 14 * (v.length : Int)) (by omega) (by omega), wrap64 (n := 2 * (e.length : Int)) (by omega) (by omega), wrap64 (n := 2 + 13 * (e.length : Int)) (by omega) (by omega), wrap64 (n := 2 + 13 * (e.length : Int) + 14 * (v.length : Int)) (by omega) (by omega), wrap64 (by omega) (by omega)]
      have : sE e 0 = 0 := rfl
      omega
    have hB : B.length = 2 + 13 * e.length + 14 * v.length + 2 * e.length + sE e e.length + sV v v.length := by
      rw [hlen]; unfold sE sV; rw [List.take_length, List.take_length]
    generalize hN : 2 + 13 * e.length + 14 * v.length + 2 * e.length = N at *
    have hNb : N ≤ 100000 := by omega
    have l1 : E (cs F) 0 f4_l1 (⟨(upd (upd (upd (upd (upd Sx.e0 7 (.v (.int .i64 (0)))) 6 (.v (.int .i64 (((N + sE e 0 : Nat) : Int))))) 4 (.s 4 0 B.length)) 3 (.v (.bool (true)))) 1 (.p 1 0)), (upd (upd (upd (upd Sx.h0 10065 (some (.arr true 36 4 (rowsBy Ed.c e)))) 10064 (some (.arr true 39 5 (rowsBy Vx.c v)))) 4 (some (.arr false 5 1 (rowsBy cByte B)))) 1 (some (.var false [(.s 10064 0 v.length), (.s 10065 0 e.length)])))⟩ : St) = some (.exit 0, (⟨(upd (upd (upd (upd Sx.e0 6 (.v (.int .i64 (((N + sE e e.length : Nat) : Int))))) 4 (.s 4 0 B.length)) 3 (.v (.bool (true)))) 1 (.p 1 0)), (upd (upd (upd (upd Sx.h0 10065 (some (.arr true 36 4 (rowsBy Ed.c e)))) 10064 (some (.arr true 39 5 (rowsBy Vx.c v)))) 4 (some (.arr false 5 1 (rowsBy cByte B)))) 1 (some (.var false [(.s 10064 0 v.length), (.s 10065 0 e.length)])))⟩ : St)) := by
      refine loop_to (b := f4_b1) (fun q0 => (⟨(upd (upd (upd (upd (upd Sx.e0 7 (.v (.int .i64 ((q0 : Int))))) 6 (.v (.int .i64 (((N + sE e q0 : Nat) : Int))))) 4 (.s 4 0 B.length)) 3 (.v (.bool (true)))) 1 (.p 1 0)), (upd (upd (upd (upd Sx.h0 10065 (some (.arr true 36 4 (rowsBy Ed.c e)))) 10064 (some (.arr true 39 5 (rowsBy Vx.c v)))) 4 (some (.arr false 5 1 (rowsBy cByte B)))) 1 (some (.var false [(.s 10064 0 v.length), (.s 10065 0 e.length)])))⟩ : St)) (e.length) ?_ ?_ (by simp)
      · intro i h1
        have h1z : (i : Int) < (e.length : Int) := by omega
        have q1 := se i
        have q2 := hsml.se _ (List.getElem_mem h1)
        have w1 : IntKind.i64.wrap (((N + sE e i : Nat) : Int) + (e[i].label.size : Int)) = ((N + sE e (i + 1) : Nat) : Int) := by rw [wrap64 (by omega) (by omega), sE_succ h1]; omega
        simp only [f4_b1, h1z, rowsBy_get Ed.c h1, Ed.c, w1, wrap_succ h1 (show e.length ≤ 9223372036854775807 by omega), go_sem, reduceIte, Nat.reduceEqDiff, Nat.reduceAdd, Nat.reduceLeDiff, List.length_cons, List.length_nil]
      · simp only [f4_b1, dec_ge (Nat.le_refl e.length), go_sem, reduceIte, Nat.reduceEqDiff, Nat.reduceAdd, List.length_cons, List.length_nil]
    have l2 : E (cs F) 0 f4_l2 (⟨(upd (upd (upd (upd (upd Sx.e0 8 (.v (.int .i64 (0)))) 6 (.v (.int .i64 (((N + sE e e.length + sV v 0 : Nat) : Int))))) 4 (.s 4 0 B.length)) 3 (.v (.bool (true)))) 1 (.p 1 0)), (upd (upd (upd (upd Sx.h0 10065 (some (.arr true 36 4 (rowsBy Ed.c e)))) 10064 (some (.arr true 39 5 (rowsBy Vx.c v)))) 4 (some (.arr false 5 1 (rowsBy cByte B)))) 1 (some (.var false [(.s 10064 0 v.length), (.s 10065 0 e.length)])))⟩ : St) = some (.exit 2, (⟨(upd (upd (upd Sx.e0 6 (.v (.int .i64 (((N + sE e e.length + sV v v.length : Nat) : Int))))) 4 (.s 4 0 B.length)) 3 (.v (.bool (true)))), (upd Sx.h0 4 (some (.arr false 5 1 (rowsBy cByte B))))⟩ : St)) := by
      refine loop_to (b := f4_b2) (fun q0 => (⟨(upd (upd (upd (upd (upd Sx.e0 8 (.v (.int .i64 ((q0 : Int))))) 6 (.v (.int .i64 (((N + sE e e.length + sV v q0 : Nat) : Int))))) 4 (.s 4 0 B.length)) 3 (.v (.bool (true)))) 1 (.p 1 0)), (upd (upd (upd (upd Sx.h0 10065 (some (.arr true 36 4 (rowsBy Ed.c e)))) 10064 (some (.arr true 39 5 (rowsBy Vx.c v)))) 4 (some (.arr false 5 1 (rowsBy cByte B)))) 1 (some (.var false [(.s 10064 0 v.length), (.s 10065 0 e.length)])))⟩ : St)) (v.length) ?_ ?_ (by simp)
      · intro i h1
        have h1z : (i : Int) < (v.length : Int) := by omega
        have q0 := se e.length
        have q1 := sv i
        have q2 := hsml.sv _ (List.getElem_mem h1)
        have w1 : IntKind.i64.wrap (((N + sE e e.length + sV v i : Nat) : Int) + (v[i].label.size : Int)) = ((N + sE e e.length + sV v (i + 1) : Nat) : Int) := by rw [wrap64 (by omega) (by omega), sV_succ h1]; omega
        simp only [f4_b2, h1z, rowsBy_get Vx.c h1, Vx.c, w1, wrap_succ h1 (show v.length ≤ 9223372036854775807 by omega), go_sem, reduceIte, Nat.reduceEqDiff, Nat.reduceAdd, Nat.reduceLeDiff, List.length_cons, List.length_nil]
      · simp only [f4_b2, dec_ge (Nat.le_refl v.length), go_sem, reduceIte, Nat.reduceEqDiff, Nat.reduceAdd, Nat.reduceLeDiff, List.length_cons, List.length_nil]
    rw [show N + sE e e.length + sV v 0 = N + sE e e.length from rfl, ← hB] at l2
    rw [call_code F (show F 4 = some (.code f4) from rfl)]
    simp only [f4, csh, cw, cp, wr, l1, l2, rowsBy_length, rowsBy_takeAll, go_sem, reduceIte, reduceCtorEq, Nat.reduceEqDiff, Nat.reduceAdd, Nat.reduceMul, Nat.reduceLeDiff, List.length_cons, List.length_nil, ne_eq, not_true_eq_false]
  · have hd : decide (¬ mayC v e = 0) = true := dec_t hm
    rw [if_neg hm] at cp
    generalize mayC v e = c at *
    rw [call_code F (show F 4 = some (.code f4) from rfl)]
    simp only [f4, csh, cw, cp, hd, rowsBy_length, rowsBy_takeAll, go_sem, reduceIte, reduceCtorEq, Nat.reduceEqDiff, Nat.reduceAdd, Nat.reduceMul, Nat.reduceLeDiff, List.length_cons, List.length_nil, Int.cast_ofNat_Int, ne_eq]
end Go.Proofs.Ytcecojdeljbjoaa.Sx
namespace Go.Proofs.Ytcecojdeljbjoaa.Sx
open Go Go.RowKit Go.ChangeShapes Go.WideShapes Go.ChangeAt
set_option maxRecDepth 100000
theorem agg_of {t : TypeId} {n : Nat} {a : TV} (hagg : isAggB Try.prog t = true) (h : ArgShape Try.prog n t a) : ∃ ts, a = .agg ts ∧ Shape Try.prog n t ts := by
  unfold ArgShape at h; rw [if_pos hagg] at h; exact h
theorem own : ownKnob Try.prog.godebug = none := by kernel_rfl
theorem laidOut : laidOutB Try.prog = true := by kernel_rfl
/-- rows that are each of a form are a list's -/
theorem rows_list {α : Type} {c : α → List TV} {S : List TV → Prop} {Q : α → Prop} (h : ∀ ts, S ts → ∃ x, ts = c x ∧ Q x) : ∀ {rows : List (List TV)}, (∀ r ∈ rows, S r) → ∃ l : List α, rows = rowsBy c l ∧ ∀ x ∈ l, Q x
  | [], _ => ⟨[], rfl, by simp⟩
  | r :: rows, hr => by
    obtain ⟨x, rfl, hx⟩ := h r (hr r (by simp))
    obtain ⟨l, rfl, hl⟩ := rows_list h (rows := rows) fun q hq => hr q (by simp [hq])
    refine ⟨x :: l, rfl, fun y hy => ?_⟩
    rcases List.mem_cons.1 hy with rfl | hy
    · exact hx
    · exact hl y hy
theorem shInt {n : Nat} {ts : List TV} (h : Shape Try.prog (n + 1) 3 ts) : ∃ a, ts = [.int .i64 a] ∧ IntKind.i64.has a := by
  unfold Shape at h; rw [Try.underlying3] at h; exact h
theorem shStr {n : Nat} {ts : List TV} (h : Shape Try.prog (n + 1) 9 ts) : ∃ a : ByteArray, ts = [.str a] ∧ a.size ≤ 140737488351232 := by
  unfold Shape at h; rw [Try.underlying9] at h
  obtain ⟨a, rfl, _, ha⟩ := h; exact ⟨a, rfl, ha⟩
theorem shID {n : Nat} {ts : List TV} (h : Shape Try.prog (n + 2) 34 ts) : ∃ x : ID, ts = ID.c x := by
  unfold Shape at h; rw [Try.underlying34] at h
  obtain ⟨x, r, rfl, h1, y, r', rfl, h2, rfl⟩ := h
  obtain ⟨a, rfl, ha⟩ := shInt h1
  obtain ⟨b, rfl, hb⟩ := shInt h2
  exact ⟨⟨a, b⟩, rfl⟩
theorem shDart {n : Nat} {ts : List TV} (h : Shape Try.prog (n + 3) 56 ts) : ∃ x : Dart, ts = Dart.c x := by
  unfold Shape at h; rw [Try.underlying56] at h
  obtain ⟨x, r, rfl, h1, y, r', rfl, h2, rfl⟩ := h
  obtain ⟨e, rfl⟩ := shID h1
  obtain ⟨c, rfl, _⟩ := shInt h2
  exact ⟨⟨e, c⟩, rfl⟩
theorem shDarts {n : Nat} {ts : List TV} (h : Shape Try.prog (n + 4) 37 ts) : ∃ l : List Dart, ts = [.sl .shared 3 (rowsBy Dart.c l)] ∧ Fits l := by
  unfold Shape at h; rw [Try.underlying37] at h
  obtain ⟨rows, rfl, ⟨_, hb⟩, hr⟩ := h
  obtain ⟨l, rfl, _⟩ := rows_list (c := Dart.c) (Q := fun _ => True) (fun ts h => (shDart h).imp fun _ h => ⟨h, trivial⟩) hr
  refine ⟨l, rfl, Fits.of ?_⟩
  rw [rowsBy_length, show Try.prog.bytesOf 56 = 24 by kernel_rfl] at hb
  simp only [reachBytes] at hb
  omega
def VxOk (v : Vx) : Prop := Fits v.ring ∧ v.label.size ≤ 9223372036854775807
def EdOk (v : Ed) : Prop := v.label.size ≤ 9223372036854775807
theorem shVx {n : Nat} {ts : List TV} (h : Shape Try.prog (n + 5) 39 ts) : ∃ x : Vx, ts = Vx.c x ∧ VxOk x := by
  unfold Shape at h; rw [Try.underlying39] at h
  obtain ⟨x, r, rfl, h1, y, r', rfl, h2, z, r'', rfl, h3, u, r3, rfl, h4, rfl⟩ := h
  obtain ⟨e, rfl⟩ := shID h1
  obtain ⟨l, rfl, hl⟩ := shDarts h2
  obtain ⟨s, rfl, hs⟩ := shStr h3
  obtain ⟨c, rfl, _⟩ := shInt h4
  exact ⟨⟨e, l, s, c⟩, rfl, hl, Nat.le_trans hs (by decide)⟩
theorem shEd {n : Nat} {ts : List TV} (h : Shape Try.prog (n + 3) 36 ts) : ∃ x : Ed, ts = Ed.c x ∧ EdOk x := by
  unfold Shape at h; rw [Try.underlying36] at h
  obtain ⟨x, r, rfl, h1, z, r'', rfl, h3, u, r3, rfl, h4, rfl⟩ := h
  obtain ⟨e, rfl⟩ := shID h1
  obtain ⟨s, rfl, hs⟩ := shStr h3
  obtain ⟨c, rfl, _⟩ := shInt h4
  exact ⟨⟨e, s, c⟩, rfl, Nat.le_trans hs (by decide)⟩
theorem shVxs {n : Nat} {ts : List TV} (h : Shape Try.prog (n + 6) 22 ts) : ∃ l : List Vx, ts = [.sl .shared 5 (rowsBy Vx.c l)] ∧ ∀ v ∈ l, VxOk v := by
  unfold Shape at h; rw [Try.underlying22] at h
  obtain ⟨rows, rfl, _, hr⟩ := h
  obtain ⟨l, rfl, hl⟩ := rows_list (c := Vx.c) (fun ts h => shVx h) hr
  exact ⟨l, rfl, hl⟩
theorem shEds {n : Nat} {ts : List TV} (h : Shape Try.prog (n + 4) 23 ts) : ∃ l : List Ed, ts = [.sl .shared 4 (rowsBy Ed.c l)] ∧ ∀ v ∈ l, EdOk v := by
  unfold Shape at h; rw [Try.underlying23] at h
  obtain ⟨rows, rfl, _, hr⟩ := h
  obtain ⟨l, rfl, hl⟩ := rows_list (c := Ed.c) (fun ts h => shEd h) hr
  exact ⟨l, rfl, hl⟩
theorem shDiagram {n : Nat} {ts : List TV} (h : Shape Try.prog (n + 7) 25 ts) : ∃ (vs : List Vx) (es : List Ed), ts = [.sl .shared 5 (rowsBy Vx.c vs), .sl .shared 4 (rowsBy Ed.c es)] ∧ FitsR vs ∧ FitsL vs es := by
  unfold Shape at h; rw [Try.underlying25] at h
  obtain ⟨x, r, rfl, h1, z, r'', rfl, h3, rfl⟩ := h
  obtain ⟨d, rfl, hd⟩ := shVxs h1
  obtain ⟨e, rfl, he⟩ := shEds h3
  exact ⟨d, e, rfl, fun v hv => (hd v hv).1, fun v hv => (hd v hv).2, he⟩
end Go.Proofs.Ytcecojdeljbjoaa.Sx
