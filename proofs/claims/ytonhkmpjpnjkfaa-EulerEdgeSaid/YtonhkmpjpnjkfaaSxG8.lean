/- All faces: what the program's rounds, and the reference's, come to. Lesser places spread along edges, in plain Lean: n rounds of that come to the least place of each part. Parts of a diagram that is well formed, in plain Lean: which vertices hang together; the reference's rounds; parts as lists. Chapter 6: its functions, the program's and the reference's, as what they come to in a diagram that is well formed. Faces, parts and the genus of a diagram that is well formed. Diagrams compared, copied; their names. Chapter 7: the head of its statements; counts, bounds, trees, what may be. Rings the other way round, in plain Lean: the same faces, the other way round. An edge more between two corners, in plain Lean. The reference's copy of a diagram. An edge less, an edge more, the mirror: what becomes of the genus. EulerEdge: an edge more. The forms of this seat's arguments. -/
import Derived.Test.YtonhkmpjpnjkfaaRows
import Derived.Test.YtonhkmpjpnjkfaaSxG4
import Derived.Test.YtonhkmpjpnjkfaaSxG5
import Derived.Test.YtonhkmpjpnjkfaaSxG6
import Derived.Test.YtonhkmpjpnjkfaaSxG7
set_option maxRecDepth 100000
set_option linter.unusedSimpArgs false
set_option linter.unusedVariables false
namespace Go.Proofs.Ytonhkmpjpnjkfaa.Sx
open Go
def rowF (p : List Dart) : List TV := [.sl .shared 3 (rowsBy Dart.c p)]
/-- a dart more: the face of it, if it was not told -/
def stepF (f : Dart → Dart) (q : List (List Dart) × List Dart) (x : Dart) : List (List Dart) × List Dart := if x ∈ q.2 then q else (q.1 ++ [orb f 100 x], q.2 ++ orb f 100 x)
theorem stepF_fold (f : Dart → Dart) : ∀ (xs : List Dart) (q : List (List Dart) × List Dart), (xs.foldl (stepF f) q).1 = q.1 ++ cycF f 100 xs q.2
  | [], q => by simp [cycF]
  | x :: xs, q => by
    rw [List.foldl_cons, stepF_fold f xs, stepF, cycF]
    split
    · rfl
    · simp
/-- what is told is closed -/
theorem stepF_told {f : Dart → Dart} {D : List Dart} (oo : OneOne f D) (hn : D.length ≤ 100) : ∀ (xs : List Dart) (q : List (List Dart) × List Dart), (∀ x ∈ xs, x ∈ D) → (∀ y ∈ q.2, y ∈ D ∧ f y ∈ q.2) → (∀ y ∈ (xs.foldl (stepF f) q).2, y ∈ D ∧ f y ∈ (xs.foldl (stepF f) q).2)
  | [], q, _, h => h
  | x :: xs, q, hx, h => by
    rw [List.foldl_cons]
    refine stepF_told oo hn xs _ (fun y hy => hx y (by simp [hy])) ?_
    unfold stepF
    split
    · exact h
    · intro y hy
      simp only [List.mem_append] at hy ⊢
      rcases hy with hy | hy
      · exact ⟨(h y hy).1, .inl (h y hy).2⟩
      · exact ⟨oo.orb_in (hx x (by simp)) 100 y hy, .inr ((oo.orb_cy (hx x (by simp)) hn).step hy)⟩
def facesD (l : List Vx) (es : List Ed) : List (List Dart) := cycF (phiD l) 100 (dartsE es) []
def faR (v3 : LV) (k i : Nat) (fn : LV) : Rnd := { bd := .seq f39_ra f39_rb, p := 23, env := upd (upd (upd (upd (upd (upd (upd (upd Sx.e0 22 fn) 13 (.v (.int .i64 ((i : Int))))) 12 (.v (.int .i64 ((k : Int))))) 11 (.s 11 0 k)) 7 (LV.p 7 0)) 4 (LV.p 4 0)) 3 v3) 1 (LV.p 1 0), lo := 0, ks := [(1000004, 1000004), (1, 1), (3, 3), (4, 4), (7, 7), (11, 11), (10256, 10256)] }
theorem faces_loop {l : List Vx} {es : List Ed} (h : WF l es) {x : Dart} (hx : x ∈ allR l) (told : List Dart) (ht : ∀ y ∈ trD l x, y ∉ told) (v3 : LV) (o3 : Option Ob) (ho : (v3 = .v (.sl (.tight 40) 1 []) ∧ o3 = none) ∨ ∃ fs : List (List Dart), v3 = .s 3 0 fs.length ∧ o3 = some (.arr false 40 1 (rowsBy rowF fs))) (D : List Dart) (k0 : Nat) (fn : LV) :
    E ((cs F).ring (faR v3 D.length k0 fn)) 1000000 f69_l1 ⟨asE l es x, upd (upd (upd (upd (upd (upd (upd Sx.h0 10256 (some (.map false true false (mapD told)))) 11 (some (.arr false 39 3 (rowsBy Dart.c D)))) 7 (some (.var false [.v (.sl (.tight 39) 3 [])]))) 4 (some (.var false [.m 10256]))) 3 o3) 1 (some (.var false [.v (.sl .shared 5 (rowsBy Vx.c l)), .v (.sl .shared 4 (rowsBy Ed.c es))]))) 1000004 (obD x)⟩ =
      some (.ret, ⟨upd (upd (upd (upd (upd Sx.e0 22 (.v (.bool true))) 4 (LV.p 1000004 0)) 2 (.v (pcG l es))) 1 (.v (pcD x))) 0 .u, upd (upd (upd (upd (upd (upd (upd (upd Sx.h0 10448 (some (.arr false 39 3 (rowsBy Dart.c (trD l x))))) 10256 (some (.map false true false (mapD (told ++ trD l x))))) 11 (some (.arr false 39 3 (rowsBy Dart.c D)))) 7 (some (.var false [.s 10448 0 (trD l x).length]))) 4 (some (.var false [.m 10256]))) 3 o3) 1 (some (.var false [.v (.sl .shared 5 (rowsBy Vx.c l)), .v (.sl .shared 4 (rowsBy Ed.c es))]))) 1000004 (obD x)⟩) := by
  have oo := phiD_oo h.pr
  have hlen : (allR l).length ≤ 100 := by rw [h.many]; have := h.le; omega
  obtain ⟨hk, hback⟩ := oo.per_lt hx hlen
  have hne : ∀ i, i < per (phiD l) 100 x → it (phiD l) (i + 1) x ≠ x := fun i hi => per_not hi
  have hmem : ∀ i, it (phiD l) i x ∈ allR l := fun i => it_mem oo.mem hx i
  have htr : trD l x = firsts (phiD l) x (per (phiD l) 100 x + 1) := rfl
  have hnd := oo.orb_nd hx 100
  have hno : ∀ i, i ≤ per (phiD l) 100 x → it (phiD l) i x ∉ told ++ firsts (phiD l) x i := fun i hi hm => by
    rcases List.mem_append.1 hm with hm | hm
    · refine ht _ ?_ hm
      rw [htr]; unfold firsts; rw [List.mem_map]
      exact ⟨i, by rw [List.mem_range]; omega, rfl⟩
    · unfold firsts at hm
      obtain ⟨j, hj, e⟩ := List.mem_map.1 hm
      rw [List.mem_range] at hj
      have h1 : j < (orb (phiD l) 100 x).length := by rw [orb_len]; omega
      have h2 : i < (orb (phiD l) 100 x).length := by rw [orb_len]; omega
      have := (List.getElem_inj hnd (h₀ := h1) (h₁ := h2)).1 (by rw [orb_get, orb_get]; exact e)
      omega
  rw [htr]
  have hk100 : per (phiD l) 100 x < 100 := by omega
  clear hnd ht htr
  generalize per (phiD l) 100 x = n at *
  have key : ∀ i : Nat, call F 70 [.agg [.sl .shared 5 (rowsBy Vx.c l), .sl .shared 4 (rowsBy Ed.c es)], .agg [.int .i64 (it (phiD l) i x).e.s, .int .i64 (it (phiD l) i x).e.n, .int .i64 (it (phiD l) i x).d]] = some (.tup [dartT (it (phiD l) (i + 1) x), .bool true]) := fun i => by
    have := i_face_Phi h (it (phiD l) i x)
    rw [phT, if_pos (hmem i), dec_t (hmem i)] at this
    exact this
  have g := loop_grow (C := (cs F).ring (faR v3 D.length k0 fn)) (lo := 1000000) (b := f69_b1) ⟨asE l es x, upd (upd (upd (upd (upd (upd (upd Sx.h0 10256 (some (.map false true false (mapD told)))) 11 (some (.arr false 39 3 (rowsBy Dart.c D)))) 7 (some (.var false [.v (.sl (.tight 39) 3 [])]))) 4 (some (.var false [.m 10256]))) 3 o3) 1 (some (.var false [.v (.sl .shared 5 (rowsBy Vx.c l)), .v (.sl .shared 4 (rowsBy Ed.c es))]))) 1000004 (obD x)⟩
    (fun i => ⟨asF l es x, upd (upd (upd (upd (upd (upd (upd (upd Sx.h0 10448 (some (.arr false 39 3 (rowsBy Dart.c (firsts (phiD l) x i))))) 10256 (some (.map false true false (mapD (told ++ firsts (phiD l) x i))))) 11 (some (.arr false 39 3 (rowsBy Dart.c D)))) 7 (some (.var false [.s 10448 0 (firsts (phiD l) x i).length]))) 4 (some (.var false [.m 10256]))) 3 o3) 1 (some (.var false [.v (.sl .shared 5 (rowsBy Vx.c l)), .v (.sl .shared 4 (rowsBy Ed.c es))]))) 1000004 (obD (it (phiD l) i x))⟩) n
    (r0 := (.ret, ⟨upd (upd (upd (upd (upd Sx.e0 22 (.v (.bool true))) 4 (LV.p 1000004 0)) 2 (.v (pcG l es))) 1 (.v (pcD x))) 0 .u, upd (upd (upd (upd (upd (upd (upd (upd Sx.h0 10448 (some (.arr false 39 3 (rowsBy Dart.c (firsts (phiD l) x (n + 1)))))) 10256 (some (.map false true false (mapD (told ++ firsts (phiD l) x (n + 1)))))) 11 (some (.arr false 39 3 (rowsBy Dart.c D)))) 7 (some (.var false [.s 10448 0 (firsts (phiD l) x (n + 1)).length]))) 4 (some (.var false [.m 10256]))) 3 o3) 1 (some (.var false [.v (.sl .shared 5 (rowsBy Vx.c l)), .v (.sl .shared 4 (rowsBy Ed.c es))]))) 1000004 (obD x)⟩))
    (r := (.ret, ⟨upd (upd (upd (upd (upd Sx.e0 22 (.v (.bool true))) 4 (LV.p 1000004 0)) 2 (.v (pcG l es))) 1 (.v (pcD x))) 0 .u, upd (upd (upd (upd (upd (upd (upd (upd Sx.h0 10448 (some (.arr false 39 3 (rowsBy Dart.c (firsts (phiD l) x (n + 1)))))) 10256 (some (.map false true false (mapD (told ++ firsts (phiD l) x (n + 1)))))) 11 (some (.arr false 39 3 (rowsBy Dart.c D)))) 7 (some (.var false [.s 10448 0 (firsts (phiD l) x (n + 1)).length]))) 4 (some (.var false [.m 10256]))) 3 o3) 1 (some (.var false [.v (.sl .shared 5 (rowsBy Vx.c l)), .v (.sl .shared 4 (rowsBy Ed.c es))]))) 1000004 (obD x)⟩))
    ?_ (by simp) ?_ ?_ ?_ (by simp)
  · rw [show (if n = 0 then _ else _) = _ from ite_self _] at g
    exact g
  · intro h0
    subst h0
    have c := key 0
    have e0 : it (phiD l) 0 x = x := rfl
    have e1 : it (phiD l) (0 + 1) x = x := hback
    have e2 : firsts (phiD l) x (0 + 1) = [x] := rfl
    have hm := hno 0 (Nat.le_refl _)
    rw [e0, e1] at c
    rw [e2]
    have e3 : firsts (phiD l) x 0 = [] := rfl
    rw [e0, e3, List.append_nil] at hm
    have u1 := upd_mapD x told
    rw [if_neg hm] at u1
    simp only [asE, faR, pcD, pcG, obD, dartT, keyL, Dart.c] at c u1 ⊢
    rcases ho with ⟨rfl, rfl⟩ | ⟨fs, rfl, rfl⟩
    · simp only [f69_b1, f39_ra, f39_rb, Nat.reduceLT, c, u1, go_sem, reduceIte, reduceCtorEq, Nat.reduceEqDiff, Nat.reduceAdd, Nat.reduceMul, Nat.reduceLeDiff, List.length_cons, List.length_nil, not_false_eq_true]
    · simp only [f69_b1, f39_ra, f39_rb, Nat.reduceLT, c, u1, go_sem, reduceIte, reduceCtorEq, Nat.reduceEqDiff, Nat.reduceAdd, Nat.reduceMul, Nat.reduceLeDiff, List.length_cons, List.length_nil, not_false_eq_true]
  · intro hn
    have c := key 0
    have e0 : it (phiD l) 0 x = x := rfl
    have e2 : firsts (phiD l) x 1 = [x] := rfl
    have hd := dec_f (hne 0 hn)
    have hm := hno 0 (Nat.zero_le _)
    rw [e0] at c
    rw [e2]
    rw [Nat.zero_add] at c hd
    have e3 : firsts (phiD l) x 0 = [] := rfl
    rw [e0, e3, List.append_nil] at hm
    have u1 := upd_mapD x told
    rw [if_neg hm] at u1
    generalize it (phiD l) 1 x = y at *
    simp only [asE, asF, faR, pcD, pcG, obD, dartT, keyL, Dart.c] at c u1 ⊢
    rcases ho with ⟨rfl, rfl⟩ | ⟨fs, rfl, rfl⟩
    · simp only [f69_b1, f39_ra, f39_rb, Nat.reduceLT, c, hd, u1, go_sem, reduceIte, reduceCtorEq, Nat.reduceEqDiff, Nat.reduceAdd, Nat.reduceMul, Nat.reduceLeDiff, List.length_cons, List.length_nil, not_false_eq_true]
    · simp only [f69_b1, f39_ra, f39_rb, Nat.reduceLT, c, hd, u1, go_sem, reduceIte, reduceCtorEq, Nat.reduceEqDiff, Nat.reduceAdd, Nat.reduceMul, Nat.reduceLeDiff, List.length_cons, List.length_nil, not_false_eq_true]
  · intro i hi0 hi
    have c := key i
    have hd := dec_f (hne i hi)
    have hl : (firsts (phiD l) x i).length = i := firsts_len _ _ _
    have hm := hno i (Nat.le_of_lt hi)
    rw [firsts_snoc, ← List.append_assoc]
    have u1 := upd_mapD (it (phiD l) i x) (told ++ firsts (phiD l) x i)
    rw [if_neg hm] at u1
    generalize it (phiD l) (i + 1) x = y at *
    generalize it (phiD l) i x = z at *
    generalize firsts (phiD l) x i = q at *
    have h5 : (q.length + 1) * 24 ≤ 140737488355328 := by omega
    have h6 := rowsBy_dart (l := q) z
    generalize told ++ q = tq at *
    simp only [asF, faR, pcD, pcG, obD, dartT, keyL, Dart.c] at c u1 ⊢
    rcases ho with ⟨rfl, rfl⟩ | ⟨fs, rfl, rfl⟩
    · simp only [f69_b1, f39_ra, f39_rb, Nat.reduceLT, c, hd, u1, h5, List.length_append, go_sem, reduceIte, reduceCtorEq, Nat.reduceEqDiff, Nat.reduceAdd, Nat.reduceMul, Nat.reduceLeDiff, List.length_cons, List.length_nil, not_false_eq_true]
    · simp only [f69_b1, f39_ra, f39_rb, Nat.reduceLT, c, hd, u1, h5, List.length_append, go_sem, reduceIte, reduceCtorEq, Nat.reduceEqDiff, Nat.reduceAdd, Nat.reduceMul, Nat.reduceLeDiff, List.length_cons, List.length_nil, not_false_eq_true]
  · intro hn
    have c := key n
    have hl : (firsts (phiD l) x n).length = n := firsts_len _ _ _
    have hm := hno n (Nat.le_refl _)
    rw [firsts_snoc, ← List.append_assoc]
    have u1 := upd_mapD (it (phiD l) n x) (told ++ firsts (phiD l) x n)
    rw [if_neg hm] at u1
    rw [hback] at c
    generalize it (phiD l) n x = z at *
    generalize firsts (phiD l) x n = q at *
    have h5 : (q.length + 1) * 24 ≤ 140737488355328 := by omega
    have h6 := rowsBy_dart (l := q) z
    generalize told ++ q = tq at *
    simp only [asF, faR, pcD, pcG, obD, dartT, keyL, Dart.c] at c u1 ⊢
    rcases ho with ⟨rfl, rfl⟩ | ⟨fs, rfl, rfl⟩
    · simp only [f69_b1, f39_ra, f39_rb, Nat.reduceLT, c, u1, h5, List.length_append, go_sem, reduceIte, reduceCtorEq, Nat.reduceEqDiff, Nat.reduceAdd, Nat.reduceMul, Nat.reduceLeDiff, List.length_cons, List.length_nil, not_false_eq_true]
    · simp only [f69_b1, f39_ra, f39_rb, Nat.reduceLT, c, u1, h5, List.length_append, go_sem, reduceIte, reduceCtorEq, Nat.reduceEqDiff, Nat.reduceAdd, Nat.reduceMul, Nat.reduceLeDiff, List.length_cons, List.length_nil, not_false_eq_true]
def facesTo (l : List Vx) (es : List Ed) (i : Nat) : List (List Dart) × List Dart := ((dartsE es).take i).foldl (stepF (phiD l)) ([], [])
theorem facesTo_succ (l : List Vx) (es : List Ed) {i : Nat} (h : i < (dartsE es).length) : facesTo l es (i + 1) = stepF (phiD l) (facesTo l es i) (dartsE es)[i] := by
  unfold facesTo; rw [List.take_succ_eq_append_getElem h, List.foldl_append]; rfl
theorem facesTo_all (l : List Vx) (es : List Ed) : (facesTo l es (dartsE es).length).1 = facesD l es := by
  unfold facesTo facesD; rw [List.take_length, stepF_fold]; rfl
theorem facesTo_told {l : List Vx} {es : List Ed} (h : WF l es) (i : Nat) : ∀ y ∈ (facesTo l es i).2, y ∈ allR l ∧ phiD l y ∈ (facesTo l es i).2 := by
  have hlen : (allR l).length ≤ 100 := by rw [h.many]; have := h.le; omega
  exact stepF_told (phiD_oo h.pr) hlen _ _ (fun x hx => (h.mem x).2 (List.mem_of_mem_take hx)) (fun y hy => by cases hy)
theorem facesTo_len (l : List Vx) (es : List Ed) : ∀ i, (facesTo l es i).1.length ≤ i ∧ (0 < i → i ≤ (dartsE es).length → 0 < (facesTo l es i).1.length)
  | 0 => ⟨Nat.le_refl _, fun h => absurd h (Nat.lt_irrefl _)⟩
  | i + 1 => by
    have ih := facesTo_len l es i
    by_cases hi : i < (dartsE es).length
    · rw [facesTo_succ l es hi]
      unfold stepF
      split
      · rename_i hm
        refine ⟨by omega, fun _ _ => ?_⟩
        cases i with
        | zero => cases hm
        | succ i => exact ih.2 (by omega) (by omega)
      · simp only [List.length_append, List.length_cons, List.length_nil]
        exact ⟨by omega, fun _ _ => by omega⟩
    · have e : facesTo l es (i + 1) = facesTo l es i := by
        unfold facesTo
        rw [List.take_of_length_le (by omega), List.take_of_length_le (by omega)]
      rw [e]
      exact ⟨by omega, fun _ h => by omega⟩
theorem fresh_face {l : List Vx} {es : List Ed} (h : WF l es) {x : Dart} (hx : x ∈ allR l) {told : List Dart} (ht : ∀ y ∈ told, y ∈ allR l ∧ phiD l y ∈ told) (hxt : x ∉ told) : ∀ y ∈ trD l x, y ∉ told := fun y hy hyt => by
  have hlen : (allR l).length ≤ 100 := by rw [h.many]; have := h.le; omega
  have hcy := (phiD_oo h.pr).orb_cy hx hlen
  exact hxt (hcy.within (S := fun z => z ∈ told) (fun z hz => (ht z hz).2) hy hyt x (orb_self _ _ _))
theorem faces_l1 {l : List Vx} {es : List Ed} (h : WF l es) : E (cs F) 0 f39_l1 (⟨(upd (upd (upd (upd (upd (upd Sx.e0 13 (.v (.int .i64 (0)))) 12 (.v (.int .i64 (((dartsE es).length : Int))))) 11 (.s 11 0 (dartsE es).length)) 4 (.p 4 0)) 3 (.v (.sl (.tight 40) 1 []))) 1 (.p 1 0)), (upd (upd (upd (upd Sx.h0 10256 (some (.map false true false []))) 11 (some (.arr false 39 3 (rowsBy Dart.c (dartsE es))))) 4 (some (.var false [.m 10256]))) 1 (some (.var false [(.v (.sl .shared 5 (rowsBy Vx.c l))), (.v (.sl .shared 4 (rowsBy Ed.c es)))])))⟩ : St) =
    some (if (dartsE es).length = 0 then (.exit 0, (⟨(upd Sx.e0 3 (.v (.sl (.tight 40) 1 []))), Sx.h0⟩ : St)) else (.exit 0, (⟨(upd Sx.e0 3 (.s 3 0 (facesD l es).length)), (upd Sx.h0 3 (some (.arr false 40 1 (rowsBy rowF (facesD l es)))))⟩ : St))) := by
  have hb : bodyOf (F 69) = some f69.body := rfl
  have hle : (dartsE es).length ≤ 80 := by rw [dartsE_len]; have := h.le; omega
  have hw : (dartsE es).length ≤ 9223372036854775807 := by omega
  have hall : ∀ i (hi : i < (dartsE es).length), (dartsE es)[i] ∈ allR l := fun i hi => (h.mem _).2 (List.getElem_mem hi)
  rw [← facesTo_all l es]
  have l1 : E (cs F) 0 f39_l1 (⟨(upd (upd (upd (upd (upd (upd Sx.e0 13 (.v (.int .i64 (0)))) 12 (.v (.int .i64 (((dartsE es).length : Int))))) 11 (.s 11 0 (dartsE es).length)) 4 (.p 4 0)) 3 (.v (.sl (.tight 40) 1 []))) 1 (.p 1 0)), (upd (upd (upd (upd Sx.h0 10256 (some (.map false true false []))) 11 (some (.arr false 39 3 (rowsBy Dart.c (dartsE es))))) 4 (some (.var false [.m 10256]))) 1 (some (.var false [(.v (.sl .shared 5 (rowsBy Vx.c l))), (.v (.sl .shared 4 (rowsBy Ed.c es)))])))⟩ : St) = some (if (dartsE es).length = 0 then (.exit 0, (⟨(upd Sx.e0 3 (.v (.sl (.tight 40) 1 []))), Sx.h0⟩ : St)) else (.exit 0, (⟨(upd Sx.e0 3 (.s 3 0 (facesTo l es (dartsE es).length).1.length)), (upd Sx.h0 3 (some (.arr false 40 1 (rowsBy rowF (facesTo l es (dartsE es).length).1))))⟩ : St))) := by
    refine loop_grow (b := f39_b1) _ (fun q0 => (⟨(upd (upd (upd (upd (upd (upd Sx.e0 13 (.v (.int .i64 ((q0 : Int))))) 12 (.v (.int .i64 (((dartsE es).length : Int))))) 11 (.s 11 0 (dartsE es).length)) 4 (.p 4 0)) 3 (.s 3 0 (facesTo l es q0).1.length)) 1 (.p 1 0)), (upd (upd (upd (upd (upd Sx.h0 10256 (some (.map false true false (mapD (facesTo l es q0).2)))) 11 (some (.arr false 39 3 (rowsBy Dart.c (dartsE es))))) 4 (some (.var false [.m 10256]))) 3 (some (.arr false 40 1 (rowsBy rowF (facesTo l es q0).1)))) 1 (some (.var false [(.v (.sl .shared 5 (rowsBy Vx.c l))), (.v (.sl .shared 4 (rowsBy Ed.c es)))])))⟩ : St)) ((dartsE es).length) ?_ (by simp) ?_ ?_ ?_ (by simp)
    · intro h0
      simp only [f39_b1, show decide ((0 : Int) < ((dartsE es).length : Int)) = false from decide_eq_false (by omega), go_sem, reduceIte, Nat.reduceEqDiff]
    · intro hn
      have e1 : facesTo l es 1 = ([trD l (dartsE es)[0]], trD l (dartsE es)[0]) := by
        have := facesTo_succ l es (i := 0) hn
        rw [Nat.zero_add] at this
        rw [this]; unfold stepF
        have e0 : facesTo l es 0 = ([], []) := rfl
        rw [e0, if_neg (by simp)]; rfl
      have d1 : decide ((0 : Int) < ((dartsE es).length : Int)) = true := decide_eq_true (by omega)
      have h1z : (0 : Int) < ((dartsE es).length : Int) := by omega
      have hx := hall 0 hn
      have hg := rowsBy_get Dart.c hn
      rw [e1]
      have cr := i_round l es (dartsE es)[0]
      have al := faces_loop h hx [] (fun y _ => by simp) (.v (.sl (.tight 40) 1 [])) none (.inl ⟨rfl, rfl⟩) (dartsE es) 0 (.v (.fn 69 [pcD (dartsE es)[0], pcG l es]))
      rw [List.nil_append] at al
      have e3 : rowsBy rowF [trD l (dartsE es)[0]] = [[.sl .shared 3 (rowsBy Dart.c (trD l (dartsE es)[0]))]] := rfl
      rw [e3]
      generalize dartsE es = D at *
      generalize D[0] = x at *
      generalize trD l x = t at *
      have f1 := find_mapD x []
      simp only [asE, faR, pcD, pcG, obD, mapD, List.map_nil, keyL] at al cr f1 ⊢
      simp only [go_sem, reduceIte, Nat.reduceEqDiff, Int.cast_ofNat_Int] at al
      simp only [f39_b1, f69, hb, h1z, hg, Dart.c, cr, al, f1, Nat.reduceLT, List.not_mem_nil, if_false, show IntKind.i64.wrap 1 = 1 from rfl, go_sem, reduceIte, reduceCtorEq, Nat.reduceEqDiff, Nat.reduceAdd, Nat.reduceMul, Nat.reduceLeDiff, List.length_cons, List.length_nil, Int.reduceAdd, Int.reduceToNat, Int.cast_ofNat_Int]
    · intro i hi0 hi
      have h1z : (i : Int) < ((dartsE es).length : Int) := by omega
      have hx := hall i hi
      have hg := rowsBy_get Dart.c hi
      have ht := facesTo_told h i
      have hfl := facesTo_len l es i
      have hs := facesTo_succ l es hi
      by_cases hm : (dartsE es)[i] ∈ (facesTo l es i).2
      · have e1 : facesTo l es (i + 1) = facesTo l es i := by rw [hs]; unfold stepF; rw [if_pos hm]
        rw [e1]
        generalize dartsE es = D at *
        generalize facesTo l es i = q at *
        have f1 := find_mapD D[i] q.2
        rw [if_pos hm] at f1
        simp only [keyL] at f1
        simp only [f39_b1, h1z, hg, Dart.c, f1, wrap_succ hi hw, go_sem, reduceIte, Nat.reduceEqDiff, Nat.reduceAdd, List.length_cons, List.length_nil]
      · have e1 : facesTo l es (i + 1) = ((facesTo l es i).1 ++ [trD l (dartsE es)[i]], (facesTo l es i).2 ++ trD l (dartsE es)[i]) := by rw [hs]; unfold stepF; rw [if_neg hm]; rfl
        rw [e1]
        have cr := i_round l es (dartsE es)[i]
        have al := faces_loop h hx (facesTo l es i).2 (fresh_face h hx ht hm) (.s 3 0 (facesTo l es i).1.length) (some (.arr false 40 1 (rowsBy rowF (facesTo l es i).1))) (.inr ⟨_, rfl, rfl⟩) (dartsE es) i (.v (.fn 69 [pcD (dartsE es)[i], pcG l es]))
        have hfl2 : (facesTo l es i).1.length ≤ 80 := by omega
        generalize dartsE es = D at *
        generalize facesTo l es i = q at *
        obtain ⟨fs, told⟩ := q
        simp only at hfl2 hm al ⊢
        generalize trD l D[i] = t at *
        have f1 := find_mapD D[i] told
        rw [if_neg hm] at f1
        have e3 : rowsBy rowF fs ++ [[.sl .shared 3 (rowsBy Dart.c t)]] = rowsBy rowF (fs ++ [t]) := rowsBy_snoc rowF fs t
        have h5 : (fs.length + 1) * 24 ≤ 140737488355328 := by omega
        generalize D[i] = x at *
        simp only [asE, faR, pcD, pcG, obD, keyL] at al cr f1 ⊢
        simp only [f39_b1, f69, hb, h1z, hg, Dart.c, cr, al, f1, Nat.reduceLT, h5, e3, wrap_succ hi hw, List.length_append, go_sem, reduceIte, reduceCtorEq, Nat.reduceEqDiff, Nat.reduceAdd, Nat.reduceMul, List.length_cons, List.length_nil]
    · intro hn
      simp only [f39_b1, dec_ge (Nat.le_refl (dartsE es).length), go_sem, reduceIte, Nat.reduceEqDiff]
  exact l1
theorem facesD_nil {l : List Vx} {es : List Ed} (h : (dartsE es).length = 0) : facesD l es = [] := by
  unfold facesD; rw [List.eq_nil_of_length_eq_zero h]; rfl
theorem i_Faces {l : List Vx} {es : List Ed} (h : WF l es) : call F 39 [.agg [.sl .shared 5 (rowsBy Vx.c l), .sl .shared 4 (rowsBy Ed.c es)]] = some (.sl (.own 40) 1 (rowsBy rowF (facesD l es))) := by
  have cd := i_face_Darts (.sl .shared 5 (rowsBy Vx.c l)) es (by have := h.le; omega)
  have fl := faces_l1 h
  have h0 := facesD_nil (l := l) (es := es)
  generalize dartsE es = D at *
  generalize facesD l es = fs at *
  rw [call_code F (show F 39 = some (.code f39) from rfl)]
  by_cases hz : D.length = 0
  · rw [if_pos hz] at fl
    have hD := List.eq_nil_of_length_eq_zero hz
    subst hD
    rw [h0 rfl]
    simp only [rowsBy, List.length_nil, nat0] at cd fl
    simp only [f39, cd, fl, rowsBy, go_sem, reduceIte, reduceCtorEq, Nat.reduceEqDiff, Nat.reduceAdd, Nat.reduceMul, List.length_cons, List.length_nil, Int.cast_ofNat_Int]
  · rw [if_neg hz] at fl
    simp only [f39, cd, fl, go_sem, reduceIte, reduceCtorEq, Nat.reduceEqDiff, Nat.reduceAdd, Nat.reduceMul, List.length_cons, List.length_nil]
theorem firsts_more {f : Dart → Dart} {x : Dart} (i : Nat) : firsts f x 1 = [x] ∧ (firsts f x (i + 1)).length = i + 1 := ⟨rfl, firsts_len _ _ _⟩
theorem i_r05_Trace {l : List Vx} {es : List Ed} (h : WF l es) (x : Dart) : call F 21 [.agg [.sl .shared 5 (rowsBy Vx.c l), .sl .shared 4 (rowsBy Ed.c es)], .agg [.int .i64 x.e.s, .int .i64 x.e.n, .int .i64 x.d]] = some (.sl (.own 39) 3 (rowsBy Dart.c (trT l x))) := by
  have cp := i_r05_Phi h x
  by_cases hx : x ∈ allR l
  · rw [phT, if_pos hx, dec_t hx] at cp
    have oo := phiD_oo h.pr
    have hlen : (allR l).length ≤ 80 := by rw [h.many]; have := h.le; omega
    obtain ⟨hk, hback⟩ := oo.per_lt hx (n := 100) (by omega)
    have hne : ∀ i, i < per (phiD l) 100 x → it (phiD l) (i + 1) x ≠ x := fun i hi => per_not hi
    have hmem : ∀ i, it (phiD l) i x ∈ allR l := fun i => it_mem oo.mem hx i
    have htr : trT l x = firsts (phiD l) x (per (phiD l) 100 x + 1) := by unfold trT; rw [if_pos hx]; rfl
    rw [htr]
    generalize per (phiD l) 100 x = n at *
    have key : ∀ i : Nat, call F 41 [.agg [.sl .shared 5 (rowsBy Vx.c l), .sl .shared 4 (rowsBy Ed.c es)], .agg [.int .i64 (it (phiD l) i x).e.s, .int .i64 (it (phiD l) i x).e.n, .int .i64 (it (phiD l) i x).d]] = some (.tup [dartT (it (phiD l) (i + 1) x), .bool true]) := fun i => by
      have := i_r05_Phi h (it (phiD l) i x)
      rw [phT, if_pos (hmem i), dec_t (hmem i)] at this
      exact this
    have e0 : phiD l x = it (phiD l) (0 + 1) x := rfl
    rw [e0] at cp
    have l1 : E (cs F) 0 f21_l1 (⟨(upd (upd (upd (upd Sx.e0 6 (.p 6 0)) 5 (.s 5 0 (firsts (phiD l) x (0 + 1)).length)) 3 (.p 3 0)) 2 (.p 2 0)), (upd (upd (upd (upd Sx.h0 6 (some (.var false [(.v (.int .i64 ((it (phiD l) (0 + 1) x).e.s))), (.v (.int .i64 ((it (phiD l) (0 + 1) x).e.n))), (.v (.int .i64 ((it (phiD l) (0 + 1) x).d)))]))) 5 (some (.arr false 39 3 (rowsBy Dart.c (firsts (phiD l) x (0 + 1)))))) 3 (some (.var false [(.v (.int .i64 (x.e.s))), (.v (.int .i64 (x.e.n))), (.v (.int .i64 (x.d)))]))) 2 (some (.var false [(.v (.sl .shared 5 (rowsBy Vx.c l))), (.v (.sl .shared 4 (rowsBy Ed.c es)))])))⟩ : St) = some (.exit 0, (⟨(upd Sx.e0 5 (.s 5 0 (firsts (phiD l) x (n + 1)).length)), (upd Sx.h0 5 (some (.arr false 39 3 (rowsBy Dart.c (firsts (phiD l) x (n + 1))))))⟩ : St)) := by
      refine loop_to (b := f21_b1) (fun q0 => (⟨(upd (upd (upd (upd Sx.e0 6 (.p 6 0)) 5 (.s 5 0 (firsts (phiD l) x (q0 + 1)).length)) 3 (.p 3 0)) 2 (.p 2 0)), (upd (upd (upd (upd Sx.h0 6 (some (.var false [(.v (.int .i64 ((it (phiD l) (q0 + 1) x).e.s))), (.v (.int .i64 ((it (phiD l) (q0 + 1) x).e.n))), (.v (.int .i64 ((it (phiD l) (q0 + 1) x).d)))]))) 5 (some (.arr false 39 3 (rowsBy Dart.c (firsts (phiD l) x (q0 + 1)))))) 3 (some (.var false [(.v (.int .i64 (x.e.s))), (.v (.int .i64 (x.e.n))), (.v (.int .i64 (x.d)))]))) 2 (some (.var false [(.v (.sl .shared 5 (rowsBy Vx.c l))), (.v (.sl .shared 4 (rowsBy Ed.c es)))])))⟩ : St)) (n) ?_ ?_ (by simp)
      · intro i hi
        have c := key (i + 1)
        have hd := hne i hi
        have hl : (firsts (phiD l) x (i + 1)).length = i + 1 := firsts_len _ _ _
        rw [firsts_snoc (phiD l) x (i + 1)]
        generalize it (phiD l) (i + 1 + 1) x = y at *
        generalize it (phiD l) (i + 1) x = z at *
        generalize firsts (phiD l) x (i + 1) = q at *
        have h5 : (q.length + 1) * 24 ≤ 140737488355328 := by omega
        have h6 := rowsBy_dart (l := q) z
        have h7 : decide ((q.length : Int) < 82) = true := decide_eq_true (by omega)
        simp only [dartT] at c ⊢
        simp only [f21_b1, c, dec_f hd, h5, h7, List.length_append, go_sem, reduceIte, Nat.reduceEqDiff, Nat.reduceAdd, Nat.reduceMul, Nat.reduceLeDiff, List.length_cons, List.length_nil]
      · rw [hback]
        simp only [f21_b1, go_sem, reduceIte, Nat.reduceEqDiff, Nat.reduceAdd, List.length_cons, List.length_nil]
    have e1 := (firsts_more (f := phiD l) (x := x) 0).1
    rw [Nat.zero_add] at l1 cp
    rw [e1] at l1
    generalize firsts (phiD l) x (n + 1) = t at *
    generalize it (phiD l) 1 x = y at *
    simp only [dartT, List.length_cons, List.length_nil, Nat.zero_add] at cp l1
    rw [call_code F (show F 21 = some (.code f21) from rfl)]
    simp only [f21, cp, l1, go_sem, reduceIte, reduceCtorEq, Nat.reduceEqDiff, Nat.reduceAdd, Nat.reduceMul, Nat.reduceLeDiff, List.length_cons, List.length_nil]
  · rw [phT, if_neg hx, dec_f hx] at cp
    rw [trT, if_neg hx]
    simp only [dartT, Dart0, ID0, rowsBy] at cp ⊢
    rw [call_code F (show F 21 = some (.code f21) from rfl)]
    simp only [f21, cp, go_sem, reduceIte, reduceCtorEq, Nat.reduceEqDiff, Nat.reduceAdd, Nat.reduceMul, Nat.reduceLeDiff, List.length_cons, List.length_nil]
end Go.Proofs.Ytonhkmpjpnjkfaa.Sx
namespace Go.Proofs.Ytonhkmpjpnjkfaa.Sx
/-- one edge -/
def spr1 (f : List Nat) (e : Nat × Nat) : List Nat := (f.set e.1 (min (fat f e.1) (fat f e.2))).set e.2 (min (fat f e.1) (fat f e.2))
/-- a round -/
def spr (es : List (Nat × Nat)) (f : List Nat) : List Nat := es.foldl spr1 f
def sprK (es : List (Nat × Nat)) (f : List Nat) : Nat → List Nat
  | 0 => f
  | k + 1 => spr es (sprK es f k)
theorem spr1_len (f : List Nat) (e : Nat × Nat) : (spr1 f e).length = f.length := by unfold spr1; rw [List.length_set, List.length_set]
theorem spr_len : ∀ (es : List (Nat × Nat)) (f : List Nat), (spr es f).length = f.length
  | [], _ => rfl
  | e :: es, f => by
    show (spr es (spr1 f e)).length = _
    rw [spr_len es, spr1_len]
theorem spr1_at {f : List Nat} {e : Nat × Nat} (h1 : e.1 < f.length) (h2 : e.2 < f.length) (u : Nat) : fat (spr1 f e) u = if u = e.1 ∨ u = e.2 then min (fat f e.1) (fat f e.2) else fat f u := by
  unfold spr1
  rw [fat_set (by rw [List.length_set]; exact h2), fat_set h1]
  by_cases a : u = e.2
  · rw [if_pos a, if_pos (.inr a)]
  · rw [if_neg a]
    by_cases b : u = e.1
    · rw [if_pos b, if_pos (.inl b)]
    · rw [if_neg b, if_neg (by simp [a, b])]
theorem spr1_le {f : List Nat} {e : Nat × Nat} (h1 : e.1 < f.length) (h2 : e.2 < f.length) (u : Nat) : fat (spr1 f e) u ≤ fat f u := by
  rw [spr1_at h1 h2]
  split
  · rename_i h
    rcases h with rfl | rfl
    · exact Nat.min_le_left _ _
    · exact Nat.min_le_right _ _
  · exact Nat.le_refl _
def InE (n : Nat) (es : List (Nat × Nat)) : Prop := ∀ e ∈ es, e.1 < n ∧ e.2 < n
theorem spr_le : ∀ {es : List (Nat × Nat)} {f : List Nat}, InE f.length es → ∀ u, fat (spr es f) u ≤ fat f u
  | [], _, _, _ => Nat.le_refl _
  | e :: es, f, h, u => by
    have he := h e (by simp)
    have := spr_le (es := es) (f := spr1 f e) (fun x hx => by rw [spr1_len]; exact h x (by simp [hx])) u
    exact Nat.le_trans this (spr1_le he.1 he.2 u)
theorem spr_append (s t : List (Nat × Nat)) (f : List Nat) : spr (s ++ t) f = spr t (spr s f) := List.foldl_append
/-- an edge's ends are not above what either was -/
theorem spr_edge {es : List (Nat × Nat)} {f : List Nat} (h : InE f.length es) {e : Nat × Nat} (he : e ∈ es) : fat (spr es f) e.1 ≤ fat f e.2 ∧ fat (spr es f) e.2 ≤ fat f e.1 := by
  obtain ⟨s, t, rfl⟩ := List.append_of_mem he
  have hs : InE f.length s := fun x hx => h x (by simp [hx])
  have ht : InE f.length t := fun x hx => h x (by simp [hx])
  have h0 := h e (by simp)
  rw [spr_append]
  show fat (spr t (spr1 (spr s f) e)) e.1 ≤ _ ∧ fat (spr t (spr1 (spr s f) e)) e.2 ≤ _
  have hl := spr_len s f
  have k := fun u => spr_le (es := t) (f := spr1 (spr s f) e) (by rw [spr1_len, hl]; exact ht) u
  have k1 := k e.1
  have k2 := k e.2
  rw [spr1_at (by rw [hl]; exact h0.1) (by rw [hl]; exact h0.2), if_pos (.inl rfl)] at k1
  rw [spr1_at (by rw [hl]; exact h0.1) (by rw [hl]; exact h0.2), if_pos (.inr rfl)] at k2
  have a1 := spr_le hs e.1
  have a2 := spr_le hs e.2
  omega
/-- each place names one that hangs together with it -/
structure SprI (R : Nat → Nat → Prop) (n : Nat) (f : List Nat) : Prop where
  len : f.length = n
  con : ∀ u, u < n → Con R u (fat f u)
section
variable {R : Nat → Nat → Prop} {n : Nat}
theorem SprI.start (R : Nat → Nat → Prop) (n : Nat) : SprI R n (List.range n) := by
  refine ⟨List.length_range, fun u hu => ?_⟩
  rw [fat_at (by rw [List.length_range]; exact hu), List.getElem_range]
  exact .refl _
theorem SprI.one (hs : ∀ u v, R u v → R v u) {f : List Nat} (h : SprI R n f) {e : Nat × Nat} (h1 : e.1 < n) (h2 : e.2 < n) (hr : R e.1 e.2) : SprI R n (spr1 f e) := by
  refine ⟨by rw [spr1_len]; exact h.len, fun u hu => ?_⟩
  rw [spr1_at (by rw [h.len]; exact h1) (by rw [h.len]; exact h2)]
  have c1 := h.con e.1 h1
  have c2 := h.con e.2 h2
  have c12 : Con R e.1 e.2 := .one hr
  have c21 : Con R e.2 e.1 := .one (hs _ _ hr)
  split
  · rename_i hu
    rcases Nat.le_total (fat f e.1) (fat f e.2) with hle | hle
    · rw [Nat.min_eq_left hle]
      rcases hu with rfl | rfl
      · exact c1
      · exact c21.trans c1
    · rw [Nat.min_eq_right hle]
      rcases hu with rfl | rfl
      · exact c12.trans c2
      · exact c2
  · exact h.con u hu
theorem SprI.round (hs : ∀ u v, R u v → R v u) : ∀ {es : List (Nat × Nat)} {f : List Nat}, SprI R n f → (∀ e ∈ es, e.1 < n ∧ e.2 < n ∧ R e.1 e.2) → SprI R n (spr es f)
  | [], _, h, _ => h
  | e :: es, f, h, he => by
    obtain ⟨h1, h2, h3⟩ := he e (by simp)
    have k : SprI R n (spr1 f e) := h.one hs h1 h2 h3
    exact SprI.round (f := spr1 f e) hs k fun x hx => he x (by simp [hx])
theorem countP_lt {α : Type} {p q : α → Bool} : ∀ {l : List α}, (∀ u ∈ l, p u = true → q u = true) → (∃ a ∈ l, p a = false ∧ q a = true) → l.countP p < l.countP q
  | [], _, h => by obtain ⟨a, ha, _⟩ := h; cases ha
  | x :: l, h, he => by
    have h0 : l.countP p ≤ l.countP q := List.countP_mono_left fun u hu => h u (by simp [hu])
    have hx := h x (by simp)
    obtain ⟨a, ha, h1, h2⟩ := he
    rcases List.mem_cons.1 ha with rfl | ha
    · rw [List.countP_cons, List.countP_cons, h1, h2]; simp; omega
    · have := countP_lt (l := l) (fun u hu => h u (by simp [hu])) ⟨a, ha, h1, h2⟩
      rw [List.countP_cons, List.countP_cons]
      cases hp : p x with
      | false => simp; omega
      | true => rw [hx hp]; simp; omega
/-- from where it is so to where it is not there is a step at which it ends -/
theorem Con.edge {P : Nat → Prop} {u w : Nat} (h : Con R u w) (hu : P u) (hw : ¬ P w) : ∃ a b, R a b ∧ Con R u a ∧ P a ∧ ¬ P b := by
  induction h with
  | refl => exact absurd hu hw
  | @step u v w a _ ih =>
    by_cases hv : P v
    · obtain ⟨x, y, h1, h2, h3, h4⟩ := ih hv hw
      exact ⟨x, y, h1, .step a h2, h3, h4⟩
    · exact ⟨u, v, a, .refl _, hu, hv⟩
theorem spr_all (hs : ∀ u v, R u v → R v u) (hb : ∀ u v, R u v → u < n ∧ v < n) {es : List (Nat × Nat)} (he : ∀ e ∈ es, e.1 < n ∧ e.2 < n ∧ R e.1 e.2) (hr : ∀ u v, R u v → (u, v) ∈ es ∨ (v, u) ∈ es)
    {lab : Nat → Nat} (hl : Lab R n lab) : sprK es (List.range n) n = (List.range n).map lab := by
  have hin : InE n es := fun e h => ⟨(he e h).1, (he e h).2.1⟩
  have hinv : ∀ k, SprI R n (sprK es (List.range n) k) := by
    intro k
    induction k with
    | zero => exact SprI.start R n
    | succ k ih => exact ih.round hs he
  have hge : ∀ k u, u < n → lab u ≤ fat (sprK es (List.range n) k) u := fun k u hu => hl.le u hu _ ((hinv k).con u hu)
  have hdown : ∀ k u, fat (sprK es (List.range n) (k + 1)) u ≤ fat (sprK es (List.range n) k) u := fun k u => spr_le (by rw [(hinv k).len]; exact hin) u
  have hroot : ∀ k u, u < n → lab u = u → fat (sprK es (List.range n) k) u = u := by
    intro k
    induction k with
    | zero =>
      intro u hu _
      show fat (List.range n) u = u
      rw [fat_at (by rw [List.length_range]; exact hu), List.getElem_range]
    | succ k ih =>
      intro u hu hlu
      have h1 := hdown k u
      have h2 := hge (k + 1) u hu
      have h3 := ih u hu hlu
      omega
  have hgood : ∀ k, (∀ u, u < n → fat (sprK es (List.range n) k) u = lab u) ∨ k ≤ (List.range n).countP fun u => decide (fat (sprK es (List.range n) k) u = lab u) := by
    intro k
    induction k with
    | zero => exact .inr (Nat.zero_le _)
    | succ k ih =>
      rcases ih with ih | ih
      · refine .inl fun u hu => ?_
        have h1 := hdown k u
        have h2 := hge (k + 1) u hu
        have h3 := ih u hu
        omega
      · by_cases hall : ∀ u, u < n → fat (sprK es (List.range n) k) u = lab u
        · refine .inl fun u hu => ?_
          have h1 := hdown k u
          have h2 := hge (k + 1) u hu
          have h3 := hall u hu
          omega
        · right
          obtain ⟨u, hu⟩ := Classical.not_forall.1 hall
          obtain ⟨hun, hu⟩ := Classical.not_imp.1 hu
          have hlu := hl.self hun
          have hidem := hl.idem hs hun
          obtain ⟨a, b, h1, h2, h3, h4⟩ := Con.edge (P := fun v => fat (sprK es (List.range n) k) v = lab v) ((hl.con u hun).symm hs) (by
            show fat _ (lab u) = lab (lab u)
            rw [hidem]; exact hroot k _ (by omega) hidem) hu
          obtain ⟨ha, hbn⟩ := hb a b h1
          have hlab : lab a = lab b := (hl.eq hs ha hbn).1 (.one h1)
          have hnew : fat (sprK es (List.range n) (k + 1)) b = lab b := by
            have h5 := hge (k + 1) b hbn
            have h3 : fat (sprK es (List.range n) k) a = lab a := h3
            have : fat (sprK es (List.range n) (k + 1)) b ≤ fat (sprK es (List.range n) k) a := by
              rcases hr a b h1 with h | h
              · exact (spr_edge (by rw [(hinv k).len]; exact hin) h).2
              · exact (spr_edge (by rw [(hinv k).len]; exact hin) h).1
            omega
          have := countP_lt (l := List.range n) (p := fun u => decide (fat (sprK es (List.range n) k) u = lab u)) (q := fun u => decide (fat (sprK es (List.range n) (k + 1)) u = lab u)) (fun v hv hp => by
            have hvn := List.mem_range.1 hv
            have hp := of_decide_eq_true hp
            refine decide_eq_true ?_
            have h1 := hdown k v
            have h2 := hge (k + 1) v hvn
            omega) ⟨b, List.mem_range.2 hbn, decide_eq_false h4, decide_eq_true hnew⟩
          omega
  have hn : ∀ u, u < n → fat (sprK es (List.range n) n) u = lab u := by
    rcases hgood n with h | h
    · exact h
    · intro u hu
      have hle := List.countP_le_length (p := fun u => decide (fat (sprK es (List.range n) n) u = lab u)) (l := List.range n)
      rw [List.length_range] at hle
      have e : (List.range n).countP (fun u => decide (fat (sprK es (List.range n) n) u = lab u)) = (List.range n).length := by rw [List.length_range]; omega
      exact of_decide_eq_true (List.countP_eq_length.1 e u (List.mem_range.2 hu))
  refine List.ext_getElem (by rw [(hinv n).len, List.length_map, List.length_range]) fun i h1 h2 => ?_
  have hin : i < n := by rw [(hinv n).len] at h1; exact h1
  rw [List.getElem_map, List.getElem_range, ← hn i hin, fat_at h1]
end
end Go.Proofs.Ytonhkmpjpnjkfaa.Sx
namespace Go.Proofs.Ytonhkmpjpnjkfaa.Sx
open Go
/-! ### places -/
def plV (l : List Vx) (x : ID) : Nat := l.findIdx fun v => decide (v.id = x)
def dpl (l : List Vx) (x : Dart) : Nat := l.findIdx fun v => decide (x ∈ v.ring)
theorem plV_le (l : List Vx) (x : ID) : plV l x ≤ l.length := List.findIdx_le_length
theorem plV_cases (l : List Vx) (x : ID) : (plV l x = l.length ∧ x ∉ l.map Vx.id) ∨ (plV l x < l.length ∧ idAt l (plV l x) = x) := by
  rcases findIdx_cases (fun v : Vx => decide (v.id = x)) l with h | ⟨h, k⟩
  · refine .inl ⟨h, fun hx => ?_⟩
    obtain ⟨v, hv, rfl⟩ := List.mem_map.1 hx
    obtain ⟨i, hi, rfl⟩ := List.mem_iff_getElem.1 hv
    have := findIdx_not (p := fun v : Vx => decide (v.id = l[i].id)) (l := l) (i := i) (by omega) hi
    simp at this
  · refine .inr ⟨h, ?_⟩
    show idAt l (l.findIdx fun v => decide (v.id = x)) = x
    rw [idAt_lt h]
    exact of_decide_eq_true k
theorem idAt_inj {l : List Vx} (hn : (l.map Vx.id).Nodup) {i j : Nat} (hi : i < l.length) (hj : j < l.length) (h : idAt l i = idAt l j) : i = j := by
  rw [idAt_lt hi, idAt_lt hj] at h
  have h1 : (l.map Vx.id)[i]'(by rw [List.length_map]; exact hi) = (l.map Vx.id)[j]'(by rw [List.length_map]; exact hj) := by rw [List.getElem_map, List.getElem_map]; exact h
  exact (List.getElem_inj hn).1 h1
theorem idAt_mem {l : List Vx} {i : Nat} (hi : i < l.length) : idAt l i ∈ l.map Vx.id := by
  rw [idAt_lt hi]; exact List.mem_map.2 ⟨_, List.getElem_mem hi, rfl⟩
theorem plV_at {l : List Vx} (hn : (l.map Vx.id).Nodup) {i : Nat} (hi : i < l.length) : plV l (idAt l i) = i := by
  rcases plV_cases l (idAt l i) with ⟨_, h⟩ | ⟨h, k⟩
  · exact absurd (idAt_mem hi) h
  · exact idAt_inj hn h hi k
theorem WF.labok {l : List Vx} {es : List Ed} (h : WF l es) : LabOk l := by
  refine ⟨⟨by have := h.lv; omega, fun v hv => ?_⟩, h.nd, h.pr.oth, fun x hx => ?_⟩
  · have h1 : v.ring.length ≤ (allR l).length := List.Sublist.length_le (List.sublist_flatten_of_mem (List.mem_map.2 ⟨v, hv, rfl⟩))
    have h2 := h.many
    have h3 := h.le
    omega
  · obtain ⟨e, _, h1 | h1⟩ := dartsE_mem.1 ((h.mem x).1 hx)
    · exact .inl (by rw [h1])
    · exact .inr (by rw [h1])
/-! ### the reference's rounds -/
def edgP (l : List Vx) (es : List Ed) : List (Nat × Nat) := es.map fun e => (dpl l ⟨e.id, 0⟩, dpl l ⟨e.id, 1⟩)
theorem dpl_at {l : List Vx} {x : Dart} (hx : x ∈ allR l) : dpl l x < l.length ∧ x ∈ ringAt l (dpl l x) := by
  rcases findIdx_cases (fun v : Vx => decide (x ∈ v.ring)) l with h | ⟨h, k⟩
  · obtain ⟨v, hv, hxv⟩ := (allR_mem l x).1 hx
    obtain ⟨i, hi, rfl⟩ := List.mem_iff_getElem.1 hv
    have := findIdx_not (p := fun v : Vx => decide (x ∈ v.ring)) (l := l) (i := i) (by omega) hi
    simp at this
    exact absurd hxv this
  · refine ⟨h, ?_⟩
    show x ∈ ringAt l (l.findIdx fun v => decide (x ∈ v.ring))
    rw [ringAt_lt h]
    exact of_decide_eq_true k
theorem WF.edge_in {l : List Vx} {es : List Ed} (h : WF l es) {e : Ed} (he : e ∈ es) : (⟨e.id, 0⟩ : Dart) ∈ allR l ∧ (⟨e.id, 1⟩ : Dart) ∈ allR l :=
  ⟨(h.mem _).2 (dartsE_mem.2 ⟨e, he, .inl rfl⟩), (h.mem _).2 (dartsE_mem.2 ⟨e, he, .inr rfl⟩)⟩
theorem WF.edge_step {l : List Vx} {es : List Ed} (h : WF l es) {e : Ed} (he : e ∈ es) : dpl l ⟨e.id, 0⟩ < l.length ∧ dpl l ⟨e.id, 1⟩ < l.length ∧ stepV l (dpl l ⟨e.id, 0⟩) (dpl l ⟨e.id, 1⟩) := by
  obtain ⟨h0, h1⟩ := h.edge_in he
  obtain ⟨a1, a2⟩ := dpl_at h0
  obtain ⟨b1, b2⟩ := dpl_at h1
  exact ⟨a1, b1, ⟨⟨e.id, 0⟩, a2, b2⟩⟩
theorem stepV_bound {l : List Vx} (u w : Nat) (h : stepV l u w) : u < l.length ∧ w < l.length := by
  obtain ⟨x, h1, h2⟩ := h
  exact ⟨ringAt_mem (u := u) h1, ringAt_mem (u := w) h2⟩
theorem WF.step_edge {l : List Vx} {es : List Ed} (h : WF l es) (u w : Nat) (hs : stepV l u w) : (u, w) ∈ edgP l es ∨ (w, u) ∈ edgP l es := by
  obtain ⟨x, h1, h2⟩ := hs
  have hx : x ∈ allR l := ringAt_all (u := u) h1
  obtain ⟨e, he, hxe⟩ := dartsE_mem.1 ((h.mem x).1 hx)
  obtain ⟨h3, h4⟩ := h.edge_in he
  obtain ⟨_, a2⟩ := dpl_at h3
  obtain ⟨_, b2⟩ := dpl_at h4
  rcases hxe with rfl | rfl
  · have e1 := ringAt_one h.nd (u := u) h1 a2
    have e2 := ringAt_one h.nd (u := w) h2 b2
    exact .inl (List.mem_map.2 ⟨e, he, by rw [e1, e2]⟩)
  · have e1 := ringAt_one h.nd (u := u) h1 b2
    have e2 := ringAt_one h.nd (u := w) h2 a2
    exact .inr (List.mem_map.2 ⟨e, he, by rw [e1, e2]⟩)
theorem WF.rounds {l : List Vx} {es : List Ed} (h : WF l es) : sprK (edgP l es) (List.range l.length) l.length = (List.range l.length).map (labV l) :=
  spr_all stepV_symm stepV_bound (fun e he => by
    obtain ⟨f, hf, rfl⟩ := List.mem_map.1 he
    exact h.edge_step hf) h.step_edge (labV_lab l)
/-- the reference's places of an edge's two ends -/
theorem WF.plV_dpl {l : List Vx} {es : List Ed} (h : WF l es) {x : Dart} (hx : x ∈ allR l) : atBy l x = some (l.getD (dpl l x) Vx0) ∧ plV l (idAt l (dpl l x)) = dpl l x := by
  obtain ⟨h1, h2⟩ := dpl_at hx
  refine ⟨?_, plV_at h.sv.nodup h1⟩
  unfold atBy firstBy
  show l[dpl l x]? = _
  rw [List.getD_eq_getElem?_getD, List.getElem?_eq_getElem h1]; rfl
/-! ### parts -/
noncomputable def partsI (l : List Vx) : List (List ID) := partsTo (labV l) (idAt l) l.length
def cIDs (p : List ID) : List TV := [.sl .shared 2 (rowsBy ID.c p)]
theorem partsT_eq (l : List Vx) : partsT l = .sl .shared 1 (rowsBy cIDs (partsI l)) := by
  unfold partsT partsL partsI partsTo
  rw [rowsBy_map, List.map_map, List.map_map]
  congr 1
  refine List.map_congr_left fun q _ => ?_
  show [TV.sl .shared 2 _] = [TV.sl .shared 2 _]
  rw [rowsBy_map, List.map_map]; rfl
noncomputable def togB (l : List Vx) (x y : ID) : Bool := decide (plV l x < l.length ∧ plV l y < l.length ∧ labV l (plV l x) = labV l (plV l y))
theorem partsI_len (l : List Vx) : (partsI l).length = partsN (labV l) l.length := by
  unfold partsI partsTo partsN
  rw [List.length_map, List.countP_eq_length_filter]; rfl
theorem togB_at {l : List Vx} (hn : (l.map Vx.id).Nodup) {i j : Nat} (hi : i < l.length) (hj : j < l.length) : togB l (idAt l i) (idAt l j) = decide (labV l i = labV l j) := by
  unfold togB
  rw [plV_at hn hi, plV_at hn hj, decide_eq_decide]
  exact ⟨fun h => h.2.2, fun h => ⟨hi, hj, h⟩⟩
end Go.Proofs.Ytonhkmpjpnjkfaa.Sx
namespace Go.Proofs.Ytonhkmpjpnjkfaa.Sx
open Go
def plZ (l : List Vx) (x : ID) : Int := if plV l x = l.length then -1 else (plV l x : Int)
theorem plZ_lt {l : List Vx} {x : ID} (h : plV l x < l.length) : plZ l x = (plV l x : Int) := if_neg (by omega)
theorem i_r06_place (l : List Vx) (x : ID) (hl : Fits l) (es : TV) : call F 42 [.agg [.sl .shared 5 (rowsBy Vx.c l), es], .agg [.int .i64 x.s, .int .i64 x.n]] = some (.int .i64 (plZ l x)) := by
  have hle : (l).length ≤ 5864062014634 := hl.le
  have hw : (l).length ≤ 9223372036854775807 := Nat.le_trans hle (by decide)
  have S : ∀ n, n ≤ (l).length → (∀ i, i < n → ∀ hi : i < (l).length, (fun v : Vx => decide (v.id = x)) (l)[i] = false) → ∀ r, E (cs F) 0 f42_b1 (⟨(upd (upd (upd Sx.e0 5 (.v (.int .i64 ((n : Int))))) 3 (.p 3 0)) 2 (.p 2 0)), (upd (upd Sx.h0 3 (some (.var false [(.v (.int .i64 (x.s))), (.v (.int .i64 (x.n)))]))) 2 (some (.var false [(.v (.sl .shared 5 (rowsBy Vx.c l))), (.v es)])))⟩ : St) = some r → r.1 ≠ .norm →
      E (cs F) 0 f42_l1 (⟨(upd (upd (upd Sx.e0 5 (.v (.int .i64 (0)))) 3 (.p 3 0)) 2 (.p 2 0)), (upd (upd Sx.h0 3 (some (.var false [(.v (.int .i64 (x.s))), (.v (.int .i64 (x.n)))]))) 2 (some (.var false [(.v (.sl .shared 5 (rowsBy Vx.c l))), (.v es)])))⟩ : St) = some r := by
    intro n hn hno r hf hrr
    refine loop_to (b := f42_b1) (fun i => (⟨(upd (upd (upd Sx.e0 5 (.v (.int .i64 ((i : Int))))) 3 (.p 3 0)) 2 (.p 2 0)), (upd (upd Sx.h0 3 (some (.var false [(.v (.int .i64 (x.s))), (.v (.int .i64 (x.n)))]))) 2 (some (.var false [(.v (.sl .shared 5 (rowsBy Vx.c l))), (.v es)])))⟩ : St)) n ?_ hf hrr
    intro i hi
    have h1 : i < (l).length := Nat.lt_of_lt_of_le hi hn
    have h1z : (i : Int) < ((l).length : Int) := Int.ofNat_lt.2 h1
    have hne := hno i hi h1
    have hne' : ¬ l[i].id = x := of_decide_eq_false hne
    have hq1 := dec_f hne'
    have hq2 := dec_f (Ne.symm hne')
    simp only [f42_b1, h1z, rowsBy_get Vx.c h1, Vx.c, hq1, wrap_succ h1 hw, go_sem, reduceIte, Nat.reduceEqDiff, Nat.reduceAdd, Nat.reduceLeDiff, List.length_cons, List.length_nil, Nat.testBit, Nat.reduceShiftRight, Nat.reduceAnd, Nat.reduceBNe]
  have S := S ((l).findIdx (fun v : Vx => decide (v.id = x))) List.findIdx_le_length (fun i h1 h2 => findIdx_not h1 h2)
  rcases findIdx_cases (fun v : Vx => decide (v.id = x)) (l) with h0 | ⟨hlt, hp⟩
  · rw [h0] at S
    have := S _ (by simp only [f42_b1, dec_ge (Nat.le_refl (l).length), go_sem, reduceIte, Nat.reduceEqDiff, Nat.reduceAdd, Nat.reduceLeDiff, List.length_cons, List.length_nil]
                    rfl) (by simp)
    rw [plZ, plV, if_pos h0]
    rw [call_code F (show F 42 = some (.code f42) from rfl)]
    simp only [f42, this, go_sem, reduceIte, reduceCtorEq, Nat.reduceEqDiff, Nat.reduceAdd, List.length_cons, List.length_nil, Int.reduceNeg]
  · rw [plZ, if_neg (show ¬ plV l x = l.length from Nat.ne_of_lt hlt), plV]
    generalize (l).findIdx (fun v : Vx => decide (v.id = x)) = n at *
    have hltz : (n : Int) < ((l).length : Int) := Int.ofNat_lt.2 hlt
    have hp' : l[n].id = x := of_decide_eq_true hp
    have hq1 := dec_t hp'
    have hq2 := dec_t hp'.symm
    have := S _ (by simp only [f42_b1, hltz, rowsBy_get Vx.c hlt, Vx.c, hq1, go_sem, reduceIte, Nat.reduceEqDiff, Nat.reduceAdd, Nat.reduceLeDiff, List.length_cons, List.length_nil, Nat.testBit, Nat.reduceShiftRight, Nat.reduceAnd, Nat.reduceBNe]
                    rfl) (by simp)
    rw [call_code F (show F 42 = some (.code f42) from rfl)]
    simp only [f42, this, go_sem, reduceIte, reduceCtorEq, Nat.reduceEqDiff, Nat.reduceAdd, List.length_cons, List.length_nil, Int.reduceNeg]
theorem edgP_take {l : List Vx} {es : List Ed} {j : Nat} (hj : j < es.length) (f : List Nat) : spr (edgP l (es.take (j + 1))) f = spr1 (spr (edgP l (es.take j)) f) (dpl l ⟨es[j].id, 0⟩, dpl l ⟨es[j].id, 1⟩) := by
  unfold edgP
  rw [List.take_succ_eq_append_getElem hj, List.map_append, spr_append]; rfl
theorem r06_round {l : List Vx} {es : List Ed} (h : WF l es) (k : Nat) (f : List Nat) (hf : f.length = l.length) : E (cs F) 0 f43_l3 (⟨(upd (upd (upd (upd Sx.e0 6 (.v (.int .i64 (0)))) 5 (.v (.int .i64 ((k : Int))))) 3 (.s 3 0 l.length)) 1 (.p 1 0)), (upd (upd Sx.h0 3 (some (.arr false 3 1 (rowsBy cNat f)))) 1 (some (.var false [(.v (.sl .shared 5 (rowsBy Vx.c l))), (.v (.sl .shared 4 (rowsBy Ed.c es)))])))⟩ : St) =
    some (.exit 4, (⟨(upd (upd (upd Sx.e0 5 (.v (.int .i64 ((k : Int))))) 3 (.s 3 0 l.length)) 1 (.p 1 0)), (upd (upd Sx.h0 3 (some (.arr false 3 1 (rowsBy cNat (spr (edgP l es) f))))) 1 (some (.var false [(.v (.sl .shared 5 (rowsBy Vx.c l))), (.v (.sl .shared 4 (rowsBy Ed.c es)))])))⟩ : St)) := by
  have hle := h.le
  have hlv := h.lv
  have l1 : E (cs F) 0 f43_l3 (⟨(upd (upd (upd (upd Sx.e0 6 (.v (.int .i64 (0)))) 5 (.v (.int .i64 ((k : Int))))) 3 (.s 3 0 l.length)) 1 (.p 1 0)), (upd (upd Sx.h0 3 (some (.arr false 3 1 (rowsBy cNat (spr (edgP l (es.take 0)) f))))) 1 (some (.var false [(.v (.sl .shared 5 (rowsBy Vx.c l))), (.v (.sl .shared 4 (rowsBy Ed.c es)))])))⟩ : St) = some (.exit 4, (⟨(upd (upd (upd Sx.e0 5 (.v (.int .i64 ((k : Int))))) 3 (.s 3 0 l.length)) 1 (.p 1 0)), (upd (upd Sx.h0 3 (some (.arr false 3 1 (rowsBy cNat (spr (edgP l es) f))))) 1 (some (.var false [(.v (.sl .shared 5 (rowsBy Vx.c l))), (.v (.sl .shared 4 (rowsBy Ed.c es)))])))⟩ : St)) := by
    refine loop_to (b := f43_b3) (fun q0 => (⟨(upd (upd (upd (upd Sx.e0 6 (.v (.int .i64 ((q0 : Int))))) 5 (.v (.int .i64 ((k : Int))))) 3 (.s 3 0 l.length)) 1 (.p 1 0)), (upd (upd Sx.h0 3 (some (.arr false 3 1 (rowsBy cNat (spr (edgP l (es.take q0)) f))))) 1 (some (.var false [(.v (.sl .shared 5 (rowsBy Vx.c l))), (.v (.sl .shared 4 (rowsBy Ed.c es)))])))⟩ : St)) (es.length) ?_ ?_ (by simp)
    · intro j hj
      have hjz : (j : Int) < (es.length : Int) := by omega
      obtain ⟨m0, m1⟩ := h.edge_in (List.getElem_mem hj)
      obtain ⟨a1, a2⟩ := h.plV_dpl m0
      obtain ⟨b1, b2⟩ := h.plV_dpl m1
      have p0 := (dpl_at m0).1
      have p1 := (dpl_at m1).1
      have c0 := i_r04_At l ⟨es[j].id, 0⟩ h.fits h.fitsR (.sl .shared 4 (rowsBy Ed.c es))
      have c1 := i_r04_At l ⟨es[j].id, 1⟩ h.fits h.fitsR (.sl .shared 4 (rowsBy Ed.c es))
      have d0 := i_r06_place l (idAt l (dpl l ⟨es[j].id, 0⟩)) h.fits (.sl .shared 4 (rowsBy Ed.c es))
      have d1 := i_r06_place l (idAt l (dpl l ⟨es[j].id, 1⟩)) h.fits (.sl .shared 4 (rowsBy Ed.c es))
      rw [a1] at c0
      rw [b1] at c1
      rw [plZ_lt (by rw [a2]; exact p0), a2] at d0
      rw [plZ_lt (by rw [b2]; exact p1), b2] at d1
      rw [show atT (some (l.getD (dpl l ⟨es[j].id, 0⟩) Vx0)) = .tup [.agg [.int .i64 (idAt l (dpl l ⟨es[j].id, 0⟩)).s, .int .i64 (idAt l (dpl l ⟨es[j].id, 0⟩)).n], .bool true] from rfl] at c0
      rw [show atT (some (l.getD (dpl l ⟨es[j].id, 1⟩) Vx0)) = .tup [.agg [.int .i64 (idAt l (dpl l ⟨es[j].id, 1⟩)).s, .int .i64 (idAt l (dpl l ⟨es[j].id, 1⟩)).n], .bool true] from rfl] at c1
      rw [edgP_take hj]
      have hgl : (spr (edgP l (es.take j)) f).length = l.length := by rw [spr_len, hf]
      generalize spr (edgP l (es.take j)) f = g at *
      generalize idAt l (dpl l ⟨es[j].id, 0⟩) = x0 at *
      generalize idAt l (dpl l ⟨es[j].id, 1⟩) = x1 at *
      generalize dpl l ⟨es[j].id, 0⟩ = a at *
      generalize dpl l ⟨es[j].id, 1⟩ = b at *
      have r0 := row_nat (f := g) (i := a) (by omega)
      have r1 := row_nat (f := g) (i := b) (by omega)
      have z0 : (a : Int) < (l.length : Int) := by omega
      have z1 : (b : Int) < (l.length : Int) := by omega
      have y0 : decide ((a : Int) ≥ 0) = true := dec_t (by omega)
      have y1 : decide ((b : Int) ≥ 0) = true := dec_t (by omega)
      have mn : (if (fat g b : Int) < (fat g a : Int) then (fat g b : Int) else (fat g a : Int)) = ((min (fat g a) (fat g b) : Nat) : Int) := by split <;> omega
      unfold spr1
      have s1 : (rowsBy cNat g).set a [.int .i64 ((min (fat g a) (fat g b) : Nat) : Int)] = rowsBy cNat (g.set a (min (fat g a) (fat g b))) := rowsBy_set cNat g _ _
      have r2 := row_nat (f := g.set a (min (fat g a) (fat g b))) (i := b) (by rw [List.length_set]; omega)
      have s2 : (rowsBy cNat (g.set a (min (fat g a) (fat g b)))).set b [.int .i64 ((min (fat g a) (fat g b) : Nat) : Int)] = rowsBy cNat ((g.set a (min (fat g a) (fat g b))).set b (min (fat g a) (fat g b))) := rowsBy_set cNat _ _ _
      generalize min (fat g a) (fat g b) = w at *
      simp only [f43_b3, hjz, rowsBy_get Ed.c hj, Ed.c, c0, c1, d0, d1, r0, r1, z0, z1, mn, s1, r2, s2, upd_two, wrap_succ hj (show es.length ≤ 9223372036854775807 by omega), go_sem, reduceIte, Nat.reduceEqDiff, Nat.reduceAdd, Nat.reduceMul, Nat.reduceLeDiff, Nat.reduceBEq, List.length_cons, List.length_nil, not_false_eq_true, Nat.testBit, Nat.reduceShiftRight, Nat.reduceAnd, Nat.reduceBNe]
    · rw [List.take_length]
      simp only [f43_b3, dec_ge (Nat.le_refl es.length), go_sem, reduceIte, Nat.reduceEqDiff, Nat.reduceAdd, List.length_cons, List.length_nil]
  · exact l1
theorem i_r06_Labels {l : List Vx} {es : List Ed} (h : WF l es) : call F 43 [.agg [.sl .shared 5 (rowsBy Vx.c l), .sl .shared 4 (rowsBy Ed.c es)]] = some (labT l) := by
  have hle := h.le
  have hlv := h.lv
  have l1 : E (cs F) 0 f43_l1 (⟨(upd (upd (upd Sx.e0 4 (.v (.int .i64 (0)))) 3 (.s 3 0 0)) 1 (.p 1 0)), (upd (upd Sx.h0 3 (some (.arr false 3 1 (rowsBy cNat (List.range 0))))) 1 (some (.var false [(.v (.sl .shared 5 (rowsBy Vx.c l))), (.v (.sl .shared 4 (rowsBy Ed.c es)))])))⟩ : St) = some (.exit 0, (⟨(upd (upd Sx.e0 3 (.s 3 0 l.length)) 1 (.p 1 0)), (upd (upd Sx.h0 3 (some (.arr false 3 1 (rowsBy cNat (List.range l.length))))) 1 (some (.var false [(.v (.sl .shared 5 (rowsBy Vx.c l))), (.v (.sl .shared 4 (rowsBy Ed.c es)))])))⟩ : St)) := by
    refine loop_to (b := f43_b1) (fun q0 => (⟨(upd (upd (upd Sx.e0 4 (.v (.int .i64 ((q0 : Int))))) 3 (.s 3 0 q0)) 1 (.p 1 0)), (upd (upd Sx.h0 3 (some (.arr false 3 1 (rowsBy cNat (List.range q0))))) 1 (some (.var false [(.v (.sl .shared 5 (rowsBy Vx.c l))), (.v (.sl .shared 4 (rowsBy Ed.c es)))])))⟩ : St)) (l.length) ?_ ?_ (by simp)
    · intro i hi
      have hiz : (i : Int) < (l.length : Int) := by omega
      rw [range_nat]
      have hlr : (rowsBy cNat (List.range i)).length = i := by rw [rowsBy_map, List.length_map, List.length_range]
      generalize rowsBy cNat (List.range i) = q at *
      have e1 : q.take i = q := by rw [← hlr, List.take_length]
      have h8 : (i + 1) * 8 ≤ 140737488355328 := by omega
      simp only [f43_b1, hiz, h8, e1, wrap_succ hi (show l.length ≤ 9223372036854775807 by omega), go_sem, reduceIte, Nat.reduceEqDiff, Nat.reduceAdd, Nat.reduceLeDiff, List.length_cons, List.length_nil]
    · simp only [f43_b1, dec_ge (Nat.le_refl l.length), go_sem, reduceIte, Nat.reduceEqDiff, Nat.reduceAdd, Nat.reduceLeDiff, List.length_cons, List.length_nil]
  have l2 : E (cs F) 0 f43_l2 (⟨(upd (upd (upd Sx.e0 5 (.v (.int .i64 (0)))) 3 (.s 3 0 l.length)) 1 (.p 1 0)), (upd (upd Sx.h0 3 (some (.arr false 3 1 (rowsBy cNat (sprK (edgP l es) (List.range l.length) 0))))) 1 (some (.var false [(.v (.sl .shared 5 (rowsBy Vx.c l))), (.v (.sl .shared 4 (rowsBy Ed.c es)))])))⟩ : St) = some (.exit 2, (⟨(upd Sx.e0 3 (.s 3 0 l.length)), (upd Sx.h0 3 (some (.arr false 3 1 (rowsBy cNat (sprK (edgP l es) (List.range l.length) l.length)))))⟩ : St)) := by
    refine loop_to (b := f43_b2) (fun q0 => (⟨(upd (upd (upd Sx.e0 5 (.v (.int .i64 ((q0 : Int))))) 3 (.s 3 0 l.length)) 1 (.p 1 0)), (upd (upd Sx.h0 3 (some (.arr false 3 1 (rowsBy cNat (sprK (edgP l es) (List.range l.length) q0))))) 1 (some (.var false [(.v (.sl .shared 5 (rowsBy Vx.c l))), (.v (.sl .shared 4 (rowsBy Ed.c es)))])))⟩ : St)) (l.length) ?_ ?_ (by simp)
    · intro i hi
      have hiz : (i : Int) < (l.length : Int) := by omega
      have k1 := r06_round h i (sprK (edgP l es) (List.range l.length) i) (by
        clear l1 hi hiz
        induction i with
        | zero => exact List.length_range
        | succ i ih => show (spr _ _).length = _; rw [spr_len]; exact ih)
      show _ = some (Ex.norm, (⟨(upd (upd (upd Sx.e0 5 (.v (.int .i64 (((i + 1 : Nat) : Int))))) 3 (.s 3 0 l.length)) 1 (.p 1 0)), (upd (upd Sx.h0 3 (some (.arr false 3 1 (rowsBy cNat (spr (edgP l es) (sprK (edgP l es) (List.range l.length) i)))))) 1 (some (.var false [(.v (.sl .shared 5 (rowsBy Vx.c l))), (.v (.sl .shared 4 (rowsBy Ed.c es)))])))⟩ : St))
      generalize sprK (edgP l es) (List.range l.length) i = g at *
      generalize spr (edgP l es) g = g2 at *
      simp only [f43_b2, hiz, k1, wrap_succ hi (show l.length ≤ 9223372036854775807 by omega), go_sem, reduceIte, Nat.reduceEqDiff, Nat.reduceAdd, Nat.reduceLeDiff, List.length_cons, List.length_nil]
    · simp only [f43_b2, dec_ge (Nat.le_refl l.length), go_sem, reduceIte, Nat.reduceEqDiff, Nat.reduceAdd, Nat.reduceLeDiff, List.length_cons, List.length_nil]
  rw [h.rounds] at l2
  unfold labT
  have hlr : (rowsBy cNat ((List.range l.length).map (labV l))).length = l.length := by rw [rowsBy_map, List.length_map, List.length_map, List.length_range]
  have e0 : sprK (edgP l es) (List.range l.length) 0 = List.range l.length := rfl
  simp only [e0] at l2
  simp only [List.range_zero, rowsBy_nil] at l1
  generalize rowsBy cNat ((List.range l.length).map (labV l)) = q at *
  generalize rowsBy cNat (List.range l.length) = q0 at *
  have e1 : q.take l.length = q := by rw [← hlr, List.take_length]
  rw [call_code F (show F 43 = some (.code f43) from rfl)]
  simp only [f43, l1, l2, e1, go_sem, reduceIte, reduceCtorEq, Nat.reduceEqDiff, Nat.reduceAdd, List.length_cons, List.length_nil]
theorem i_Parts {l : List Vx} {es : List Ed} (h : WF l es) : call F 54 [.agg [.sl .shared 5 (rowsBy Vx.c l), .sl .shared 4 (rowsBy Ed.c es)]] = some (.sl .shared 1 (rowsBy cIDs (partsI l))) := by
  rw [call_ext F (show F 54 = some (.ext partsG) from rfl), ← partsT_eq]
  exact partsG_eq _ _ h.labok
theorem i_comp_Count {l : List Vx} {es : List Ed} (h : WF l es) : call F 40 [.agg [.sl .shared 5 (rowsBy Vx.c l), .sl .shared 4 (rowsBy Ed.c es)]] = some (.int .i64 (partsN (labV l) l.length : Nat)) := by
  have c1 := i_Parts h
  have hl := partsI_len l
  rw [call_code F (show F 40 = some (.code f40) from rfl)]
  simp only [f40, c1, hl, go_sem, reduceIte, reduceCtorEq, Nat.reduceEqDiff, Nat.reduceAdd, Nat.reduceMul, List.length_cons, List.length_nil]
theorem i_r06_Together {l : List Vx} {es : List Ed} (h : WF l es) (x y : ID) : call F 24 [.agg [.sl .shared 5 (rowsBy Vx.c l), .sl .shared 4 (rowsBy Ed.c es)], .agg [.int .i64 x.s, .int .i64 x.n], .agg [.int .i64 y.s, .int .i64 y.n]] = some (.bool (togB l x y)) := by
  have hlv := h.lv
  have c1 := i_r06_Labels h
  have c2 := i_r06_place l x h.fits (.sl .shared 4 (rowsBy Ed.c es))
  have c3 := i_r06_place l y h.fits (.sl .shared 4 (rowsBy Ed.c es))
  unfold labT at c1
  have hget : ∀ i, i < l.length → (rowsBy cNat ((List.range l.length).map (labV l)))[i]? = some [.int .i64 ((labV l i : Nat) : Int)] := fun i hi => by
    rw [rowsBy_get cNat (by rw [List.length_map, List.length_range]; exact hi), List.getElem_map, List.getElem_range]; rfl
  have hlr : (rowsBy cNat ((List.range l.length).map (labV l))).length = l.length := by rw [rowsBy_map, List.length_map, List.length_map, List.length_range]
  generalize rowsBy cNat ((List.range l.length).map (labV l)) = q at *
  have m1 : decide ((-1 : Int) ≥ 0) = false := rfl
  unfold togB
  unfold plZ at c2 c3
  rcases Nat.lt_or_ge (plV l x) l.length with hx | hx
  · rw [if_neg (by omega)] at c2
    have g1 := hget _ hx
    have y0 : decide (((plV l x : Nat) : Int) ≥ 0) = true := dec_t (by omega)
    have z0 : ((plV l x : Nat) : Int) < (l.length : Int) := by omega
    rcases Nat.lt_or_ge (plV l y) l.length with hy | hy
    · rw [if_neg (by omega)] at c3
      have g2 := hget _ hy
      have y1 : decide (((plV l y : Nat) : Int) ≥ 0) = true := dec_t (by omega)
      have z1 : ((plV l y : Nat) : Int) < (l.length : Int) := by omega
      rw [show decide (plV l x < l.length ∧ plV l y < l.length ∧ labV l (plV l x) = labV l (plV l y)) = decide (((labV l (plV l x) : Nat) : Int) = ((labV l (plV l y) : Nat) : Int)) from by rw [decide_eq_decide]; omega]
      generalize labV l (plV l x) = a at *
      generalize labV l (plV l y) = b at *
      generalize plV l x = i at *
      generalize plV l y = j at *
      rw [call_code F (show F 24 = some (.code f24) from rfl)]
      simp only [f24, c1, c2, c3, hlr, g1, g2, z0, z1, go_sem, reduceIte, reduceCtorEq, Nat.reduceEqDiff, Nat.reduceAdd, Nat.reduceMul, List.length_cons, List.length_nil, Nat.testBit, Nat.reduceShiftRight, Nat.reduceAnd, Nat.reduceBNe]
    · have hy0 := plV_le l y
      rw [if_pos (by omega)] at c3
      rw [dec_f (by omega)]
      generalize plV l x = i at *
      rw [call_code F (show F 24 = some (.code f24) from rfl)]
      simp only [f24, c1, c2, c3, hlr, go_sem, reduceIte, reduceCtorEq, Nat.reduceEqDiff, Nat.reduceAdd, Nat.reduceMul, List.length_cons, List.length_nil, Int.reduceGE, Int.reduceNeg]
  · have hx0 := plV_le l x
    rw [if_pos (by omega)] at c2
    rw [dec_f (by omega)]
    generalize (if plV l y = l.length then (-1 : Int) else (plV l y : Int)) = j at *
    rw [call_code F (show F 24 = some (.code f24) from rfl)]
    simp only [f24, c1, c2, c3, hlr, go_sem, reduceIte, reduceCtorEq, Nat.reduceEqDiff, Nat.reduceAdd, Nat.reduceMul, List.length_cons, List.length_nil, Int.reduceGE, Int.reduceNeg]
end Go.Proofs.Ytonhkmpjpnjkfaa.Sx
namespace Go.Proofs.Ytonhkmpjpnjkfaa.Sx
open Go
theorem facesQ_dec {l : List Vx} {es : List Ed} (h : WF l es) : Dec (phiD l) (dartsE es) (facesD l es) := by
  have oo : OneOne (phiD l) (dartsE es) := ⟨fun x hx => (h.mem _).1 ((phiD_oo h.pr).mem x ((h.mem x).2 hx)), fun x hx y hy => (phiD_oo h.pr).inj x ((h.mem x).2 hx) y ((h.mem y).2 hy)⟩
  exact oo.dec (by rw [dartsE_len]; have := h.le; omega)
theorem Dec.onQ {f : Dart → Dart} {D D' : List Dart} {cs : List (List Dart)} (h : Dec f D cs) (e : ∀ x, x ∈ D ↔ x ∈ D') : Dec f D' cs := ⟨h.cy, h.nd, fun x => by rw [h.mem, e]⟩
theorem facesQ_all {l : List Vx} {es : List Ed} (h : WF l es) : Dec (phiD l) (allR l) (facesD l es) := (facesQ_dec h).onQ fun x => (h.mem x).symm
theorem facesQ_fits {l : List Vx} {es : List Ed} (h : WF l es) : (∀ p ∈ facesD l es, p.length ≤ 80) ∧ (facesD l es).length ≤ 80 := by
  have hd := facesQ_dec h
  have hlen : (dartsE es).length ≤ 80 := by rw [dartsE_len]; have := h.le; omega
  have hfl : (facesD l es).flatten.length ≤ 80 := Nat.le_trans (nodup_sub hd.nd fun x hx => (hd.mem x).1 hx) hlen
  refine ⟨fun p hp => Nat.le_trans (List.Sublist.length_le (List.sublist_flatten_of_mem hp)) hfl, ?_⟩
  have key : ∀ cs : List (List Dart), (∀ c ∈ cs, c ≠ []) → cs.length ≤ cs.flatten.length := by
    intro cs
    induction cs with
    | nil => intro _; exact Nat.le_refl _
    | cons c cs ih =>
      intro h
      rw [List.flatten_cons, List.length_append, List.length_cons]
      have := ih fun d hd => h d (by simp [hd])
      have := List.length_pos_iff.2 (h c (by simp))
      omega
  refine Nat.le_trans (key _ fun c hc e => ?_) hfl
  have := hd.cy c hc
  rw [e] at this; cases this
noncomputable def cN (l : List Vx) : Nat := partsN (labV l) l.length
def fN (l : List Vx) (es : List Ed) : Nat := (facesD l es).length + aloneN l
noncomputable def gN (l : List Vx) (es : List Ed) : Nat := (es.length + 2 * cN l - l.length - fN l es) / 2
theorem WF.eul {l : List Vx} {es : List Ed} (h : WF l es) : Eul l l.length es.length (fN l es) (cN l) := ⟨rfl, h.many.symm, ⟨_, facesQ_all h, rfl⟩, ⟨_, labV_lab l, rfl⟩⟩
theorem WF.gen {l : List Vx} {es : List Ed} (h : WF l es) : l.length + fN l es + 2 * gN l es = es.length + 2 * cN l := by
  obtain ⟨g, hg⟩ := Eul.genus _ (Nat.le_refl _) h.pr h.eul
  unfold gN
  omega
theorem WF.small {l : List Vx} {es : List Ed} (h : WF l es) : fN l es ≤ 104 ∧ cN l ≤ 24 ∧ cN l ≤ fN l es ∧ cN l ≤ l.length := by
  have h1 := (facesQ_fits h).2
  have h2 := h.lv
  have h3 : aloneN l ≤ l.length := List.countP_le_length
  have h4 : cN l ≤ l.length := partsN_le _ _
  have h5 := h.eul.faces_le h.pr
  refine ⟨by unfold fN; omega, by omega, h5.1, h4⟩
theorem i_Count1 (v : Vx) : call F 38 [.agg [.int .i64 v.id.s, .int .i64 v.id.n, .sl .shared 3 (rowsBy Dart.c v.ring), .str v.label, .int .i64 v.attr]] = some (.bool v.ring.isEmpty) := by
  have hd : decide ((v.ring.length : Int) = 0) = v.ring.isEmpty := by
    cases v.ring with
    | nil => rfl
    | cons x r => exact dec_f (by simp only [List.length_cons]; omega)
  rw [call_code F (show F 38 = some (.code f38) from rfl)]
  simp only [f38, hd, go_sem, reduceIte, reduceCtorEq, Nat.reduceEqDiff, Nat.reduceAdd, Nat.reduceLeDiff, List.length_cons, List.length_nil]
theorem aloneN_succ {l : List Vx} {i : Nat} (hi : i < l.length) : aloneN (l.take (i + 1)) = aloneN (l.take i) + if l[i].ring.isEmpty = true then 1 else 0 := by
  unfold aloneN
  rw [List.take_succ_eq_append_getElem hi, List.countP_append, List.countP_singleton]
theorem i_many (l : List Vx) (hl : l.length ≤ 24) : call F 37 [.sl .shared 5 (rowsBy Vx.c l), .fn 38 []] = some (.int .i64 (aloneN l : Nat)) := by
  have l1 : E (cs F) 0 f37_l1 (⟨(upd (upd (upd (upd (upd Sx.e0 10 (.v (.int .i64 (0)))) 9 (.v (.int .i64 ((l.length : Int))))) 8 (.v (.sl .shared 5 (rowsBy Vx.c l)))) 5 (.v (.int .i64 ((aloneN (l.take 0) : Nat))))) 1 (.v (.fn 38 []))), Sx.h0⟩ : St) = some (.exit 0, (⟨(upd Sx.e0 5 (.v (.int .i64 ((aloneN l : Nat))))), Sx.h0⟩ : St)) := by
    refine loop_to (b := f37_b1) (fun q0 => (⟨(upd (upd (upd (upd (upd Sx.e0 10 (.v (.int .i64 ((q0 : Int))))) 9 (.v (.int .i64 ((l.length : Int))))) 8 (.v (.sl .shared 5 (rowsBy Vx.c l)))) 5 (.v (.int .i64 ((aloneN (l.take q0) : Nat))))) 1 (.v (.fn 38 []))), Sx.h0⟩ : St)) (l.length) ?_ ?_ (by simp)
    · intro i hi
      have hiz : (i : Int) < (l.length : Int) := by omega
      have c1 := i_Count1 l[i]
      have ha : aloneN (l.take i) ≤ i := Nat.le_trans List.countP_le_length (by rw [List.length_take]; omega)
      have hw := wrap_succ (i := aloneN (l.take i)) (n := aloneN (l.take i) + 1) (Nat.lt_succ_self _) (by omega)
      rw [aloneN_succ hi]
      generalize aloneN (l.take i) = m at *
      cases hb : l[i].ring.isEmpty with
      | true =>
        rw [hb] at c1
        rw [if_pos rfl]
        simp only [f37_b1, hiz, rowsBy_get Vx.c hi, Vx.c, c1, hw, wrap_succ hi (show l.length ≤ 9223372036854775807 by omega), go_sem, reduceIte, Nat.reduceEqDiff, Nat.reduceAdd, Nat.reduceMul, List.length_cons, List.length_nil]
      | false =>
        rw [hb] at c1
        rw [if_neg (by simp), Nat.add_zero]
        simp only [f37_b1, hiz, rowsBy_get Vx.c hi, Vx.c, c1, hw, wrap_succ hi (show l.length ≤ 9223372036854775807 by omega), go_sem, reduceIte, Nat.reduceEqDiff, Nat.reduceAdd, Nat.reduceMul, List.length_cons, List.length_nil]
    · rw [List.take_length]
      simp only [f37_b1, dec_ge (Nat.le_refl l.length), go_sem, reduceIte, Nat.reduceEqDiff]
  have e0 : aloneN (l.take 0) = 0 := rfl
  simp only [e0, nat0] at l1
  rw [call_code F (show F 37 = some (.code f37) from rfl)]
  simp only [f37, l1, go_sem, reduceIte, reduceCtorEq, Nat.reduceEqDiff, Nat.reduceAdd]
theorem i_euler_Count {l : List Vx} {es : List Ed} (h : WF l es) : call F 13 [.agg [.sl .shared 5 (rowsBy Vx.c l), .sl .shared 4 (rowsBy Ed.c es)]] = some (.tup [.int .i64 l.length, .int .i64 es.length, .int .i64 (fN l es : Nat), .int .i64 (cN l : Nat)]) := by
  have c1 := i_many l h.lv
  have c2 := i_Faces h
  have c3 := i_comp_Count h
  have hf := h.small.1
  have w1 : IntKind.i64.wrap (((facesD l es).length : Int) + (aloneN l : Int)) = (fN l es : Int) := by
    have e : (fN l es : Int) = ((facesD l es).length : Int) + (aloneN l : Int) := by unfold fN; omega
    rw [wrap64 (by omega) (by omega), e]
  have e2 : partsN (labV l) l.length = cN l := rfl
  rw [e2] at c3
  generalize fN l es = fn at *
  generalize cN l = cn at *
  generalize facesD l es = fs at *
  rw [call_code F (show F 13 = some (.code f13) from rfl)]
  simp only [f13, c1, c2, c3, w1, go_sem, reduceIte, reduceCtorEq, Nat.reduceEqDiff, Nat.reduceAdd, Nat.reduceMul, Nat.reduceLeDiff, Nat.reduceBEq, List.length_cons, List.length_nil, Nat.testBit, Nat.reduceShiftRight, Nat.reduceAnd, Nat.reduceBNe]
theorem i_euler_Genus {l : List Vx} {es : List Ed} (h : WF l es) : call F 14 [.agg [.sl .shared 5 (rowsBy Vx.c l), .sl .shared 4 (rowsBy Ed.c es)]] = some (.int .i64 (gN l es : Nat)) := by
  have c1 := i_euler_Count h
  have hg := h.gen
  have hs := h.small
  have hlv := h.lv
  have hle := h.le
  generalize fN l es = f at *
  generalize cN l = c at *
  generalize gN l es = g at *
  have w1 : IntKind.i64.wrap ((l.length : Int) - (es.length : Int)) = (l.length : Int) - (es.length : Int) := wrap64 (by omega) (by omega)
  have w2 : IntKind.i64.wrap ((l.length : Int) - (es.length : Int) + (f : Int)) = 2 * ((c : Int) - (g : Int)) := by rw [wrap64 (by omega) (by omega)]; omega
  have td : (2 * ((c : Int) - (g : Int))).tdiv 2 = (c : Int) - (g : Int) := Int.mul_tdiv_cancel_left _ (by decide)
  have w3 : IntKind.i64.wrap ((c : Int) - (g : Int)) = (c : Int) - (g : Int) := wrap64 (by omega) (by omega)
  have w4 : IntKind.i64.wrap ((c : Int) - ((c : Int) - (g : Int))) = (g : Int) := by rw [wrap64 (by omega) (by omega)]; omega
  rw [call_code F (show F 14 = some (.code f14) from rfl)]
  simp only [f14, c1, w1, w2, td, w3, w4, go_sem, reduceIte, reduceCtorEq, Nat.reduceEqDiff, Nat.reduceAdd, Nat.reduceMul, List.length_cons, List.length_nil, Int.reduceEq]
theorem i_Planar {l : List Vx} {es : List Ed} (h : WF l es) : call F 15 [.agg [.sl .shared 5 (rowsBy Vx.c l), .sl .shared 4 (rowsBy Ed.c es)]] = some (.bool (decide (gN l es = 0))) := by
  have c1 := i_euler_Genus h
  have hd : decide (((gN l es : Nat) : Int) = 0) = decide (gN l es = 0) := by rw [decide_eq_decide]; omega
  generalize gN l es = g at *
  rw [call_code F (show F 15 = some (.code f15) from rfl)]
  simp only [f15, c1, hd, go_sem, reduceIte, reduceCtorEq, Nat.reduceEqDiff, Nat.reduceAdd, Nat.reduceMul, List.length_cons, List.length_nil]
end Go.Proofs.Ytonhkmpjpnjkfaa.Sx
namespace Go.Proofs.Ytonhkmpjpnjkfaa.Sx
open Go
theorem Vx.ext_iff' (x y : Vx) : x = y ↔ x.id = y.id ∧ x.label = y.label ∧ x.attr = y.attr ∧ x.ring = y.ring := by
  cases x; cases y; simp only [Vx.mk.injEq]
  constructor
  · rintro ⟨a, b, c, d⟩; exact ⟨a, c, d, b⟩
  · rintro ⟨a, b, c, d⟩; exact ⟨a, d, b, c⟩
theorem Ed.ext_iff' (x y : Ed) : x = y ↔ x.id = y.id ∧ x.label = y.label ∧ x.attr = y.attr := by
  cases x; cases y; simp only [Ed.mk.injEq]
theorem Ed.dec (x y : Ed) : (decide (x.id.s = y.id.s) && (decide (x.id.n = y.id.n) && (decide (x.label = y.label) && decide (x.attr = y.attr)))) = decide (x = y) := by
  by_cases h : x = y
  · subst h; simp
  · rw [decide_eq_false h]
    simp only [Bool.and_eq_false_iff, decide_eq_false_iff_not]
    rw [Ed.ext_iff', ID.ext_iff'] at h
    by_cases h1 : x.id.s = y.id.s
    · by_cases h2 : x.id.n = y.id.n
      · by_cases h3 : x.label = y.label
        · exact .inr (.inr (.inr fun h4 => h ⟨⟨h1, h2⟩, h3, h4⟩))
        · exact .inr (.inr (.inl h3))
      · exact .inr (.inl h2)
    · exact .inl h1
end Go.Proofs.Ytonhkmpjpnjkfaa.Sx
namespace Go.Proofs.Ytonhkmpjpnjkfaa.Sx
open Go
/-- the first of some -/
def fewVx (n k : Nat) (l : List Vx) : List Vx := (l.take n).map fun v => ⟨v.id, v.ring.take k, v.label, v.attr⟩
theorem fewVx_len (n k : Nat) (l : List Vx) : (fewVx n k l).length ≤ n := by unfold fewVx; rw [List.length_map, List.length_take]; omega
theorem fewVx_fits (n k : Nat) (hk : k ≤ 1000000) (l : List Vx) : FitsR (fewVx n k l) := by
  intro v hv
  unfold fewVx at hv
  obtain ⟨w, _, rfl⟩ := List.mem_map.1 hv
  refine Fits.of ?_
  show (w.ring.take k).length ≤ _
  rw [List.length_take]; omega
theorem fewVx_succ {n k : Nat} {l : List Vx} (h : n < l.length) : fewVx (n + 1) k l = fewVx n k l ++ [⟨l[n].id, l[n].ring.take k, l[n].label, l[n].attr⟩] := by
  unfold fewVx
  rw [List.take_succ_eq_append_getElem h, List.map_append]; rfl
theorem fewVx_min (n k : Nat) (l : List Vx) : fewVx (min l.length n) k l = fewVx n k l := by
  unfold fewVx
  congr 1
  rcases Nat.le_total l.length n with h | h
  · rw [Nat.min_eq_left h, List.take_of_length_le (Nat.le_refl _), List.take_of_length_le h]
  · rw [Nat.min_eq_right h]
theorem take_min {α : Type} (n : Nat) (l : List α) : l.take (min l.length n) = l.take n := by
  rcases Nat.le_total l.length n with h | h
  · rw [Nat.min_eq_left h, List.take_of_length_le (Nat.le_refl _), List.take_of_length_le h]
  · rw [Nat.min_eq_right h]
theorem few_l1 (vs : List Vx) (es : List Ed) : E (cs F) 0 f11_l1 (⟨(upd (upd (upd (upd Sx.e0 4 (.v (.int .i64 (0)))) 3 (.p 3 0)) 2 (.p 2 0)) 1 (.p 1 0)), (upd (upd (upd Sx.h0 3 (some (.var false [(.v (.sl (.tight 42) 5 [])), (.v (.sl (.tight 37) 4 []))]))) 2 (some (.var false [(.v (.sl (.tight 42) 5 [])), (.v (.sl (.tight 37) 4 []))]))) 1 (some (.var false [(.v (.sl .shared 5 (rowsBy Vx.c vs))), (.v (.sl .shared 4 (rowsBy Ed.c es)))])))⟩ : St) =
    some (if min vs.length 26 = 0 then (.exit 0, (⟨(upd (upd (upd Sx.e0 3 (.p 3 0)) 2 (.p 2 0)) 1 (.p 1 0)), (upd (upd (upd Sx.h0 3 (some (.var false [(.v (.sl (.tight 42) 5 [])), (.v (.sl (.tight 37) 4 []))]))) 2 (some (.var false [(.v (.sl (.tight 42) 5 [])), (.v (.sl (.tight 37) 4 []))]))) 1 (some (.var false [(.v (.sl .shared 5 (rowsBy Vx.c vs))), (.v (.sl .shared 4 (rowsBy Ed.c es)))])))⟩ : St)) else (.exit 0, (⟨(upd (upd (upd Sx.e0 3 (.p 3 0)) 2 (.p 2 0)) 1 (.p 1 0)), (upd (upd (upd (upd Sx.h0 10192 (some (.arr false 42 5 (rowsBy Vx.c (fewVx 26 82 vs))))) 3 (some (.var false [(.s 10192 0 (fewVx 26 82 vs).length), (.v (.sl (.tight 37) 4 []))]))) 2 (some (.var false [(.v (.sl (.tight 42) 5 [])), (.v (.sl (.tight 37) 4 []))]))) 1 (some (.var false [(.v (.sl .shared 5 (rowsBy Vx.c vs))), (.v (.sl .shared 4 (rowsBy Ed.c es)))])))⟩ : St))) := by
  rw [← fewVx_min 26 82 vs]
  have l1 : E (cs F) 0 f11_l1 (⟨(upd (upd (upd (upd Sx.e0 4 (.v (.int .i64 (0)))) 3 (.p 3 0)) 2 (.p 2 0)) 1 (.p 1 0)), (upd (upd (upd Sx.h0 3 (some (.var false [(.v (.sl (.tight 42) 5 [])), (.v (.sl (.tight 37) 4 []))]))) 2 (some (.var false [(.v (.sl (.tight 42) 5 [])), (.v (.sl (.tight 37) 4 []))]))) 1 (some (.var false [(.v (.sl .shared 5 (rowsBy Vx.c vs))), (.v (.sl .shared 4 (rowsBy Ed.c es)))])))⟩ : St) = some (if min vs.length 26 = 0 then (.exit 0, (⟨(upd (upd (upd Sx.e0 3 (.p 3 0)) 2 (.p 2 0)) 1 (.p 1 0)), (upd (upd (upd Sx.h0 3 (some (.var false [(.v (.sl (.tight 42) 5 [])), (.v (.sl (.tight 37) 4 []))]))) 2 (some (.var false [(.v (.sl (.tight 42) 5 [])), (.v (.sl (.tight 37) 4 []))]))) 1 (some (.var false [(.v (.sl .shared 5 (rowsBy Vx.c vs))), (.v (.sl .shared 4 (rowsBy Ed.c es)))])))⟩ : St)) else (.exit 0, (⟨(upd (upd (upd Sx.e0 3 (.p 3 0)) 2 (.p 2 0)) 1 (.p 1 0)), (upd (upd (upd (upd Sx.h0 10192 (some (.arr false 42 5 (rowsBy Vx.c (fewVx (min vs.length 26) 82 vs))))) 3 (some (.var false [(.s 10192 0 (fewVx (min vs.length 26) 82 vs).length), (.v (.sl (.tight 37) 4 []))]))) 2 (some (.var false [(.v (.sl (.tight 42) 5 [])), (.v (.sl (.tight 37) 4 []))]))) 1 (some (.var false [(.v (.sl .shared 5 (rowsBy Vx.c vs))), (.v (.sl .shared 4 (rowsBy Ed.c es)))])))⟩ : St))) := by
    refine loop_grow (b := f11_b1) _ (fun q0 => (⟨(upd (upd (upd (upd Sx.e0 4 (.v (.int .i64 ((q0 : Int))))) 3 (.p 3 0)) 2 (.p 2 0)) 1 (.p 1 0)), (upd (upd (upd (upd Sx.h0 10192 (some (.arr false 42 5 (rowsBy Vx.c (fewVx q0 82 vs))))) 3 (some (.var false [(.s 10192 0 (fewVx q0 82 vs).length), (.v (.sl (.tight 37) 4 []))]))) 2 (some (.var false [(.v (.sl (.tight 42) 5 [])), (.v (.sl (.tight 37) 4 []))]))) 1 (some (.var false [(.v (.sl .shared 5 (rowsBy Vx.c vs))), (.v (.sl .shared 4 (rowsBy Ed.c es)))])))⟩ : St)) (min vs.length 26) ?_ (by simp) ?_ ?_ ?_ (by simp)
    · intro h0
      have h0' : vs.length = 0 := by omega
      simp only [f11_b1, show decide ((0 : Int) < (vs.length : Int)) = false from decide_eq_false (by omega), go_sem, reduceIte, Nat.reduceEqDiff, Nat.reduceAdd, Nat.reduceLeDiff, List.length_cons, List.length_nil]
    · intro hn
      have h1 : 0 < vs.length := by omega
      have hs := fewVx_succ (n := 0) (k := 82) h1
      have e0 : fewVx 0 82 vs = [] := rfl
      rw [e0, List.nil_append, Nat.zero_add] at hs
      rw [hs]
      have e2 : rowsBy Vx.c [⟨vs[0].id, vs[0].ring.take 82, vs[0].label, vs[0].attr⟩] = [[.int .i64 vs[0].id.s, .int .i64 vs[0].id.n, .sl .shared 3 (rowsBy Dart.c (vs[0].ring.take 82)), .str vs[0].label, .int .i64 vs[0].attr]] := rfl
      rw [e2]
      have d1 : decide ((0 : Int) < (vs.length : Int)) = true := decide_eq_true (by omega)
      have h1z : (0 : Int) < (vs.length : Int) := by omega
      by_cases hr : vs[0].ring.length > 82
      · have k1 : decide ((vs[0].ring.length : Int) > 82) = true := decide_eq_true (by omega)
        have k2 : (82 : Int) ≤ (vs[0].ring.length : Int) := by omega
        simp only [f11_b1, h1z, rowsBy_get Vx.c h1, Vx.c, k1, k2, Int.reduceLT, show IntKind.i64.wrap 1 = 1 from rfl, go_sem, reduceIte, Nat.reduceEqDiff, Nat.reduceAdd, Nat.reduceMul, Nat.reduceLeDiff, List.length_cons, List.length_nil, Int.reduceLT, Int.reduceLE, Int.reduceAdd, Int.reduceToNat, Int.cast_ofNat_Int]
      · have k1 : decide ((vs[0].ring.length : Int) > 82) = false := decide_eq_false (by omega)
        rw [List.take_of_length_le (show vs[0].ring.length ≤ 82 by omega)]
        simp only [f11_b1, h1z, rowsBy_get Vx.c h1, Vx.c, k1, Int.reduceLT, show IntKind.i64.wrap 1 = 1 from rfl, go_sem, reduceIte, Nat.reduceEqDiff, Nat.reduceAdd, Nat.reduceMul, Nat.reduceLeDiff, List.length_cons, List.length_nil, Int.reduceLT, Int.reduceLE, Int.reduceAdd, Int.reduceToNat, Int.cast_ofNat_Int]
    · intro i hi0 hi
      have h1 : i < vs.length := by omega
      have h1z : (i : Int) < (vs.length : Int) := by omega
      have h2 : i < 26 := by omega
      have h3 : decide ((i : Int) < 26) = true := decide_eq_true (by omega)
      have hw : (26 : Nat) ≤ 9223372036854775807 := by decide
      have hs := fewVx_succ (k := 82) h1
      have hl : (fewVx i 82 vs).length ≤ i := fewVx_len i 82 vs
      have h5 : ((fewVx i 82 vs).length + 1) * 64 ≤ 140737488355328 := by omega
      rw [hs]
      have e2 : (fewVx i 82 vs ++ ([⟨vs[i].id, vs[i].ring.take 82, vs[i].label, vs[i].attr⟩] : List Vx)).length = (fewVx i 82 vs).length + 1 := by rw [List.length_append]; rfl
      rw [e2]
      generalize fewVx i 82 vs = m at *
      have e3 : rowsBy Vx.c m ++ [[.int .i64 vs[i].id.s, .int .i64 vs[i].id.n, .sl .shared 3 (rowsBy Dart.c (vs[i].ring.take 82)), .str vs[i].label, .int .i64 vs[i].attr]] = rowsBy Vx.c (m ++ [⟨vs[i].id, vs[i].ring.take 82, vs[i].label, vs[i].attr⟩]) := rowsBy_snoc Vx.c m ⟨vs[i].id, vs[i].ring.take 82, vs[i].label, vs[i].attr⟩
      by_cases hr : vs[i].ring.length > 82
      · have k1 : decide ((vs[i].ring.length : Int) > 82) = true := decide_eq_true (by omega)
        have k2 : (82 : Int) ≤ (vs[i].ring.length : Int) := by omega
        simp only [f11_b1, h1z, h3, rowsBy_get Vx.c h1, Vx.c, k1, k2, h5, e3, wrap_succ h2 hw, List.take_length, go_sem, reduceIte, Nat.reduceEqDiff, Nat.reduceAdd, Nat.reduceLeDiff, List.length_cons, List.length_nil, Int.reduceLE, Int.reduceToNat]
      · have k1 : decide ((vs[i].ring.length : Int) > 82) = false := decide_eq_false (by omega)
        rw [List.take_of_length_le (show vs[i].ring.length ≤ 82 by omega)] at e3 ⊢
        simp only [f11_b1, h1z, h3, rowsBy_get Vx.c h1, Vx.c, k1, h5, e3, wrap_succ h2 hw, List.take_length, go_sem, reduceIte, Nat.reduceEqDiff, Nat.reduceAdd, Nat.reduceLeDiff, List.length_cons, List.length_nil, Int.reduceLE, Int.reduceToNat]
    · intro hn
      by_cases h : vs.length ≤ 26
      · rw [Nat.min_eq_left h]
        simp only [f11_b1, dec_ge (Nat.le_refl vs.length), go_sem, reduceIte, Nat.reduceEqDiff, Nat.reduceAdd, Nat.reduceLeDiff, List.length_cons, List.length_nil]
      · rw [Nat.min_eq_right (by omega)]
        simp only [f11_b1, show decide ((26 : Int) < (vs.length : Int)) = true from decide_eq_true (by omega), go_sem, reduceIte, Nat.reduceEqDiff, Nat.reduceAdd, Nat.reduceLeDiff, List.length_cons, List.length_nil, Int.reduceLT, Int.cast_ofNat_Int]
  exact l1
theorem few_l2a (vs : List Vx) (es : List Ed) : E (cs F) 0 f11_l2 (⟨(upd (upd (upd (upd Sx.e0 6 (.v (.int .i64 (0)))) 3 (.p 3 0)) 2 (.p 2 0)) 1 (.p 1 0)), (upd (upd (upd Sx.h0 3 (some (.var false [(.v (.sl (.tight 42) 5 [])), (.v (.sl (.tight 37) 4 []))]))) 2 (some (.var false [(.v (.sl (.tight 42) 5 [])), (.v (.sl (.tight 37) 4 []))]))) 1 (some (.var false [(.v (.sl .shared 5 (rowsBy Vx.c vs))), (.v (.sl .shared 4 (rowsBy Ed.c es)))])))⟩ : St) =
    some (if min es.length 42 = 0 then (.exit 2, (⟨(upd (upd Sx.e0 3 (.p 3 0)) 2 (.p 2 0)), (upd (upd Sx.h0 3 (some (.var false [(.v (.sl (.tight 42) 5 [])), (.v (.sl (.tight 37) 4 []))]))) 2 (some (.var false [(.v (.sl (.tight 42) 5 [])), (.v (.sl (.tight 37) 4 []))])))⟩ : St)) else (.exit 2, (⟨(upd (upd Sx.e0 3 (.p 3 0)) 2 (.p 2 0)), (upd (upd (upd Sx.h0 10193 (some (.arr false 37 4 (rowsBy Ed.c (es.take 42))))) 3 (some (.var false [(.v (.sl (.tight 42) 5 [])), (.s 10193 0 (es.take 42).length)]))) 2 (some (.var false [(.v (.sl (.tight 42) 5 [])), (.v (.sl (.tight 37) 4 []))])))⟩ : St))) := by
  rw [← take_min 42 es]
  have l1 : E (cs F) 0 f11_l2 (⟨(upd (upd (upd (upd Sx.e0 6 (.v (.int .i64 (0)))) 3 (.p 3 0)) 2 (.p 2 0)) 1 (.p 1 0)), (upd (upd (upd Sx.h0 3 (some (.var false [(.v (.sl (.tight 42) 5 [])), (.v (.sl (.tight 37) 4 []))]))) 2 (some (.var false [(.v (.sl (.tight 42) 5 [])), (.v (.sl (.tight 37) 4 []))]))) 1 (some (.var false [(.v (.sl .shared 5 (rowsBy Vx.c vs))), (.v (.sl .shared 4 (rowsBy Ed.c es)))])))⟩ : St) = some (if min es.length 42 = 0 then (.exit 2, (⟨(upd (upd Sx.e0 3 (.p 3 0)) 2 (.p 2 0)), (upd (upd Sx.h0 3 (some (.var false [(.v (.sl (.tight 42) 5 [])), (.v (.sl (.tight 37) 4 []))]))) 2 (some (.var false [(.v (.sl (.tight 42) 5 [])), (.v (.sl (.tight 37) 4 []))])))⟩ : St)) else (.exit 2, (⟨(upd (upd Sx.e0 3 (.p 3 0)) 2 (.p 2 0)), (upd (upd (upd Sx.h0 10193 (some (.arr false 37 4 (rowsBy Ed.c (es.take (min es.length 42)))))) 3 (some (.var false [(.v (.sl (.tight 42) 5 [])), (.s 10193 0 (es.take (min es.length 42)).length)]))) 2 (some (.var false [(.v (.sl (.tight 42) 5 [])), (.v (.sl (.tight 37) 4 []))])))⟩ : St))) := by
    refine loop_grow (b := f11_b2) _ (fun q0 => (⟨(upd (upd (upd (upd Sx.e0 6 (.v (.int .i64 ((q0 : Int))))) 3 (.p 3 0)) 2 (.p 2 0)) 1 (.p 1 0)), (upd (upd (upd (upd Sx.h0 10193 (some (.arr false 37 4 (rowsBy Ed.c (es.take q0))))) 3 (some (.var false [(.v (.sl (.tight 42) 5 [])), (.s 10193 0 (es.take q0).length)]))) 2 (some (.var false [(.v (.sl (.tight 42) 5 [])), (.v (.sl (.tight 37) 4 []))]))) 1 (some (.var false [(.v (.sl .shared 5 (rowsBy Vx.c vs))), (.v (.sl .shared 4 (rowsBy Ed.c es)))])))⟩ : St)) (min es.length 42) ?_ (by simp) ?_ ?_ ?_ (by simp)
    · intro h0
      simp only [f11_b2, show decide ((0 : Int) < (es.length : Int)) = false from decide_eq_false (by omega), go_sem, reduceIte, Nat.reduceEqDiff, Nat.reduceAdd, List.length_cons, List.length_nil]
    · intro hn
      have h1 : 0 < es.length := by omega
      have hs : es.take 1 = [es[0]] := List.take_succ_eq_append_getElem (i := 0) h1
      rw [hs]
      have e2 : rowsBy Ed.c [es[0]] = [[.int .i64 es[0].id.s, .int .i64 es[0].id.n, .str es[0].label, .int .i64 es[0].attr]] := rfl
      rw [e2]
      have d1 : decide ((0 : Int) < (es.length : Int)) = true := decide_eq_true (by omega)
      have h1z : (0 : Int) < (es.length : Int) := by omega
      simp only [f11_b2, h1z, rowsBy_get Ed.c h1, Ed.c, Int.reduceLT, show IntKind.i64.wrap 1 = 1 from rfl, go_sem, reduceIte, Nat.reduceEqDiff, Nat.reduceAdd, Nat.reduceMul, Nat.reduceLeDiff, Nat.reduceBEq, List.length_cons, List.length_nil, Int.reduceLT, Int.reduceAdd, Int.reduceToNat, Int.cast_ofNat_Int, Nat.testBit, Nat.reduceShiftRight, Nat.reduceAnd, Nat.reduceBNe]
    · intro i hi0 hi
      have h1 : i < es.length := by omega
      have h1z : (i : Int) < (es.length : Int) := by omega
      have h2 : i < 42 := by omega
      have h3 : decide ((i : Int) < 42) = true := decide_eq_true (by omega)
      have hw : (42 : Nat) ≤ 9223372036854775807 := by decide
      have hs : es.take (i + 1) = es.take i ++ [es[i]] := List.take_succ_eq_append_getElem h1
      have hl : (es.take i).length ≤ i := by rw [List.length_take]; omega
      have h5 : ((es.take i).length + 1) * 40 ≤ 140737488355328 := by omega
      rw [hs]
      have e2 : (es.take i ++ [es[i]]).length = (es.take i).length + 1 := by rw [List.length_append]; rfl
      rw [e2]
      generalize es.take i = q at *
      have e3 : rowsBy Ed.c q ++ [[.int .i64 es[i].id.s, .int .i64 es[i].id.n, .str es[i].label, .int .i64 es[i].attr]] = rowsBy Ed.c (q ++ [es[i]]) := rowsBy_snoc Ed.c q es[i]
      simp only [f11_b2, h1z, h3, rowsBy_get Ed.c h1, Ed.c, h5, e3, wrap_succ h2 hw, List.take_length, go_sem, reduceIte, Nat.reduceEqDiff, Nat.reduceAdd, Nat.reduceBEq, List.length_cons, List.length_nil, Nat.testBit, Nat.reduceShiftRight, Nat.reduceAnd, Nat.reduceBNe]
    · intro hn
      by_cases h : es.length ≤ 42
      · rw [Nat.min_eq_left h]
        simp only [f11_b2, dec_ge (Nat.le_refl es.length), go_sem, reduceIte, Nat.reduceEqDiff, Nat.reduceAdd, List.length_cons, List.length_nil]
      · rw [Nat.min_eq_right (by omega)]
        simp only [f11_b2, show decide ((42 : Int) < (es.length : Int)) = true from decide_eq_true (by omega), go_sem, reduceIte, Nat.reduceEqDiff, Nat.reduceAdd, List.length_cons, List.length_nil, Int.reduceLT, Int.cast_ofNat_Int]
  exact l1
theorem few_l2b (vs : List Vx) (es : List Ed) (m : List Vx) : E (cs F) 0 f11_l2 (⟨(upd (upd (upd (upd Sx.e0 6 (.v (.int .i64 (0)))) 3 (.p 3 0)) 2 (.p 2 0)) 1 (.p 1 0)), (upd (upd (upd (upd Sx.h0 10192 (some (.arr false 42 5 (rowsBy Vx.c m)))) 3 (some (.var false [(.s 10192 0 m.length), (.v (.sl (.tight 37) 4 []))]))) 2 (some (.var false [(.v (.sl (.tight 42) 5 [])), (.v (.sl (.tight 37) 4 []))]))) 1 (some (.var false [(.v (.sl .shared 5 (rowsBy Vx.c vs))), (.v (.sl .shared 4 (rowsBy Ed.c es)))])))⟩ : St) =
    some (if min es.length 42 = 0 then (.exit 2, (⟨(upd (upd Sx.e0 3 (.p 3 0)) 2 (.p 2 0)), (upd (upd (upd Sx.h0 10192 (some (.arr false 42 5 (rowsBy Vx.c m)))) 3 (some (.var false [(.s 10192 0 m.length), (.v (.sl (.tight 37) 4 []))]))) 2 (some (.var false [(.v (.sl (.tight 42) 5 [])), (.v (.sl (.tight 37) 4 []))])))⟩ : St)) else (.exit 2, (⟨(upd (upd Sx.e0 3 (.p 3 0)) 2 (.p 2 0)), (upd (upd (upd (upd Sx.h0 10193 (some (.arr false 37 4 (rowsBy Ed.c (es.take 42))))) 10192 (some (.arr false 42 5 (rowsBy Vx.c m)))) 3 (some (.var false [(.s 10192 0 m.length), (.s 10193 0 (es.take 42).length)]))) 2 (some (.var false [(.v (.sl (.tight 42) 5 [])), (.v (.sl (.tight 37) 4 []))])))⟩ : St))) := by
  rw [← take_min 42 es]
  have l1 : E (cs F) 0 f11_l2 (⟨(upd (upd (upd (upd Sx.e0 6 (.v (.int .i64 (0)))) 3 (.p 3 0)) 2 (.p 2 0)) 1 (.p 1 0)), (upd (upd (upd (upd Sx.h0 10192 (some (.arr false 42 5 (rowsBy Vx.c m)))) 3 (some (.var false [(.s 10192 0 m.length), (.v (.sl (.tight 37) 4 []))]))) 2 (some (.var false [(.v (.sl (.tight 42) 5 [])), (.v (.sl (.tight 37) 4 []))]))) 1 (some (.var false [(.v (.sl .shared 5 (rowsBy Vx.c vs))), (.v (.sl .shared 4 (rowsBy Ed.c es)))])))⟩ : St) = some (if min es.length 42 = 0 then (.exit 2, (⟨(upd (upd Sx.e0 3 (.p 3 0)) 2 (.p 2 0)), (upd (upd (upd Sx.h0 10192 (some (.arr false 42 5 (rowsBy Vx.c m)))) 3 (some (.var false [(.s 10192 0 m.length), (.v (.sl (.tight 37) 4 []))]))) 2 (some (.var false [(.v (.sl (.tight 42) 5 [])), (.v (.sl (.tight 37) 4 []))])))⟩ : St)) else (.exit 2, (⟨(upd (upd Sx.e0 3 (.p 3 0)) 2 (.p 2 0)), (upd (upd (upd (upd Sx.h0 10193 (some (.arr false 37 4 (rowsBy Ed.c (es.take (min es.length 42)))))) 10192 (some (.arr false 42 5 (rowsBy Vx.c m)))) 3 (some (.var false [(.s 10192 0 m.length), (.s 10193 0 (es.take (min es.length 42)).length)]))) 2 (some (.var false [(.v (.sl (.tight 42) 5 [])), (.v (.sl (.tight 37) 4 []))])))⟩ : St))) := by
    refine loop_grow (b := f11_b2) _ (fun q0 => (⟨(upd (upd (upd (upd Sx.e0 6 (.v (.int .i64 ((q0 : Int))))) 3 (.p 3 0)) 2 (.p 2 0)) 1 (.p 1 0)), (upd (upd (upd (upd (upd Sx.h0 10193 (some (.arr false 37 4 (rowsBy Ed.c (es.take q0))))) 10192 (some (.arr false 42 5 (rowsBy Vx.c m)))) 3 (some (.var false [(.s 10192 0 m.length), (.s 10193 0 (es.take q0).length)]))) 2 (some (.var false [(.v (.sl (.tight 42) 5 [])), (.v (.sl (.tight 37) 4 []))]))) 1 (some (.var false [(.v (.sl .shared 5 (rowsBy Vx.c vs))), (.v (.sl .shared 4 (rowsBy Ed.c es)))])))⟩ : St)) (min es.length 42) ?_ (by simp) ?_ ?_ ?_ (by simp)
    · intro h0
      simp only [f11_b2, show decide ((0 : Int) < (es.length : Int)) = false from decide_eq_false (by omega), go_sem, reduceIte, Nat.reduceEqDiff, Nat.reduceAdd, List.length_cons, List.length_nil]
    · intro hn
      have h1 : 0 < es.length := by omega
      have hs : es.take 1 = [es[0]] := List.take_succ_eq_append_getElem (i := 0) h1
      rw [hs]
      have e2 : rowsBy Ed.c [es[0]] = [[.int .i64 es[0].id.s, .int .i64 es[0].id.n, .str es[0].label, .int .i64 es[0].attr]] := rfl
      rw [e2]
      have d1 : decide ((0 : Int) < (es.length : Int)) = true := decide_eq_true (by omega)
      have h1z : (0 : Int) < (es.length : Int) := by omega
      simp only [f11_b2, h1z, rowsBy_get Ed.c h1, Ed.c, Int.reduceLT, show IntKind.i64.wrap 1 = 1 from rfl, go_sem, reduceIte, Nat.reduceEqDiff, Nat.reduceAdd, Nat.reduceMul, Nat.reduceLeDiff, Nat.reduceBEq, List.length_cons, List.length_nil, Int.reduceLT, Int.reduceAdd, Int.reduceToNat, Int.cast_ofNat_Int, Nat.testBit, Nat.reduceShiftRight, Nat.reduceAnd, Nat.reduceBNe]
    · intro i hi0 hi
      have h1 : i < es.length := by omega
      have h1z : (i : Int) < (es.length : Int) := by omega
      have h2 : i < 42 := by omega
      have h3 : decide ((i : Int) < 42) = true := decide_eq_true (by omega)
      have hw : (42 : Nat) ≤ 9223372036854775807 := by decide
      have hs : es.take (i + 1) = es.take i ++ [es[i]] := List.take_succ_eq_append_getElem h1
      have hl : (es.take i).length ≤ i := by rw [List.length_take]; omega
      have h5 : ((es.take i).length + 1) * 40 ≤ 140737488355328 := by omega
      rw [hs]
      have e2 : (es.take i ++ [es[i]]).length = (es.take i).length + 1 := by rw [List.length_append]; rfl
      rw [e2]
      generalize es.take i = q at *
      have e3 : rowsBy Ed.c q ++ [[.int .i64 es[i].id.s, .int .i64 es[i].id.n, .str es[i].label, .int .i64 es[i].attr]] = rowsBy Ed.c (q ++ [es[i]]) := rowsBy_snoc Ed.c q es[i]
      simp only [f11_b2, h1z, h3, rowsBy_get Ed.c h1, Ed.c, h5, e3, wrap_succ h2 hw, List.take_length, go_sem, reduceIte, Nat.reduceEqDiff, Nat.reduceAdd, Nat.reduceBEq, List.length_cons, List.length_nil, Nat.testBit, Nat.reduceShiftRight, Nat.reduceAnd, Nat.reduceBNe]
    · intro hn
      by_cases h : es.length ≤ 42
      · rw [Nat.min_eq_left h]
        simp only [f11_b2, dec_ge (Nat.le_refl es.length), go_sem, reduceIte, Nat.reduceEqDiff, Nat.reduceAdd, List.length_cons, List.length_nil]
      · rw [Nat.min_eq_right (by omega)]
        simp only [f11_b2, show decide ((42 : Int) < (es.length : Int)) = true from decide_eq_true (by omega), go_sem, reduceIte, Nat.reduceEqDiff, Nat.reduceAdd, List.length_cons, List.length_nil, Int.reduceLT, Int.cast_ofNat_Int]
  exact l1
theorem c_few (vs : List Vx) (es : List Ed) : call F 11 [.agg [.sl .shared 5 (rowsBy Vx.c vs), .sl .shared 4 (rowsBy Ed.c es)]] = some (.agg [.sl (.own 42) 5 (rowsBy Vx.c (fewVx 26 82 vs)), .sl (.own 37) 4 (rowsBy Ed.c (es.take 42))]) := by
  have l1 := few_l1 vs es
  have ze : min es.length 42 = 0 → es.take 42 = [] := fun h => List.eq_nil_of_length_eq_zero (by rw [List.length_take]; omega)
  have zv : min vs.length 26 = 0 → fewVx 26 82 vs = [] := fun h => List.eq_nil_of_length_eq_zero (by unfold fewVx; rw [List.length_map, List.length_take]; omega)
  by_cases h1 : min vs.length 26 = 0
  · rw [if_pos h1] at l1
    have l2 := few_l2a vs es
    rw [zv h1]
    by_cases h2 : min es.length 42 = 0
    · rw [if_pos h2] at l2
      rw [ze h2]
      rw [call_code F (show F 11 = some (.code f11) from rfl)]
      simp only [f11, l1, l2, rowsBy_nil, go_sem, reduceIte, reduceCtorEq, Nat.reduceEqDiff, Nat.reduceAdd, List.length_cons, List.length_nil]
    · rw [if_neg h2] at l2
      generalize es.take 42 = q at *
      rw [call_code F (show F 11 = some (.code f11) from rfl)]
      simp only [f11, l1, l2, rowsBy_nil, List.take_length, go_sem, reduceIte, reduceCtorEq, Nat.reduceEqDiff, Nat.reduceAdd, List.length_cons, List.length_nil]
  · rw [if_neg h1] at l1
    have l2 := few_l2b vs es (fewVx 26 82 vs)
    generalize fewVx 26 82 vs = m at *
    by_cases h2 : min es.length 42 = 0
    · rw [if_pos h2] at l2
      rw [ze h2]
      rw [call_code F (show F 11 = some (.code f11) from rfl)]
      simp only [f11, l1, l2, rowsBy_nil, List.take_length, go_sem, reduceIte, reduceCtorEq, Nat.reduceEqDiff, Nat.reduceAdd, List.length_cons, List.length_nil]
    · rw [if_neg h2] at l2
      generalize es.take 42 = q at *
      rw [call_code F (show F 11 = some (.code f11) from rfl)]
      simp only [f11, l1, l2, List.take_length, go_sem, reduceIte, reduceCtorEq, Nat.reduceEqDiff, Nat.reduceAdd, Nat.reduceBEq, List.length_cons, List.length_nil]
theorem few_fitsL (vs : List Vx) (es : List Ed) (n k m : Nat) (h : FitsL vs es) : FitsL (fewVx n k vs) (es.take m) := by
  refine ⟨fun v hv => ?_, fun v hv => h.2 v (List.mem_of_mem_take hv)⟩
  unfold fewVx at hv
  obtain ⟨w, hw, rfl⟩ := List.mem_map.1 hv
  exact h.1 w (List.mem_of_mem_take hw)
def ringV (a b c d : Dart) : List Vx := [⟨⟨1, 1⟩, [a, b, c, d], ⟨#[]⟩, 0⟩]
def ringE : List Ed := [⟨⟨1, 2⟩, ⟨#[]⟩, 0⟩, ⟨⟨1, 3⟩, ⟨#[]⟩, 0⟩]
def d20 : Dart := ⟨⟨1, 2⟩, 0⟩
def d21 : Dart := ⟨⟨1, 2⟩, 1⟩
def d30 : Dart := ⟨⟨1, 3⟩, 0⟩
def d31 : Dart := ⟨⟨1, 3⟩, 1⟩
theorem ring1_wf : WF (ringV d20 d21 d30 d31) ringE := wf_of (by decide) (by decide) (by decide +kernel) (by decide +kernel) (by decide +kernel)
theorem ring2_wf : WF (ringV d20 d30 d21 d31) ringE := wf_of (by decide) (by decide) (by decide +kernel) (by decide +kernel) (by decide +kernel)
theorem none_wf : WF [] [] := wf_of (by decide) (by decide) (by decide +kernel) (by decide +kernel) (by decide +kernel)
theorem cN_one (l : List Vx) (h : l.length = 1) : cN l = 1 := by
  have h0 : labV l 0 = 0 := Nat.le_zero.1 ((labV_lab l).self (by omega))
  unfold cN partsN
  rw [h]
  simp [List.range_succ, h0]
theorem ring1_gen : gN (ringV d20 d21 d30 d31) ringE = 0 := by
  have h := ring1_wf.gen
  rw [cN_one _ rfl, show fN (ringV d20 d21 d30 d31) ringE = 3 by decide +kernel, show (ringV d20 d21 d30 d31).length = 1 from rfl, show ringE.length = 2 from rfl] at h
  omega
theorem ring2_gen : gN (ringV d20 d30 d21 d31) ringE = 1 := by
  have h := ring2_wf.gen
  rw [cN_one _ rfl, show fN (ringV d20 d30 d21 d31) ringE = 1 by decide +kernel, show (ringV d20 d30 d21 d31).length = 1 from rfl, show ringE.length = 2 from rfl] at h
  omega
theorem none_gen : gN [] [] = 0 := by
  have h := none_wf.gen
  have h2 := none_wf.small
  rw [show fN [] [] = 0 by decide +kernel] at h
  simp only [List.length_nil] at h h2
  omega
theorem c_dart (n s : Int) : call F 31 [.int .i64 n, .int .i64 s] = some (.agg [.int .i64 1, .int .i64 n, .int .i64 s]) := by
  rw [call_code F (show F 31 = some (.code f31) from rfl)]
  simp only [f31, go_sem, reduceIte, reduceCtorEq, Nat.reduceEqDiff, Nat.reduceAdd, Nat.reduceLeDiff, List.length_cons, List.length_nil]
theorem c_two (a b c d : Dart) : call F 30 [.agg [.int .i64 a.e.s, .int .i64 a.e.n, .int .i64 a.d], .agg [.int .i64 b.e.s, .int .i64 b.e.n, .int .i64 b.d], .agg [.int .i64 c.e.s, .int .i64 c.e.n, .int .i64 c.d], .agg [.int .i64 d.e.s, .int .i64 d.e.n, .int .i64 d.d]] = some (.agg [.sl (.own 42) 5 (rowsBy Vx.c (ringV a b c d)), .sl (.own 37) 4 (rowsBy Ed.c ringE)]) := by
  rw [call_code F (show F 30 = some (.code f30) from rfl)]
  simp only [f30, go_sem, reduceIte, reduceCtorEq, Nat.reduceEqDiff, Nat.reduceAdd, Nat.reduceLeDiff, Nat.reduceBEq, List.length_cons, List.length_nil]
  rfl
theorem c_shown : call F 10 [] = some (.bool true) := by
  have k1 := c_two d20 d21 d30 d31
  have k2 := c_two d20 d30 d21 d31
  have g1 := i_euler_Genus ring1_wf
  have g2 := i_euler_Genus ring2_wf
  have g3 := i_Planar none_wf
  rw [ring1_gen] at g1
  rw [ring2_gen] at g2
  rw [none_gen, dec_t rfl] at g3
  simp only [show ((0 : Nat) : Int) = 0 from rfl, show ((1 : Nat) : Int) = 1 from rfl] at g1 g2
  simp only [d20, d21, d30, d31] at k1 k2
  simp only [rowsBy_nil] at g3
  generalize hq1 : ringV d20 d21 d30 d31 = q1 at *
  generalize hq2 : ringV d20 d30 d21 d31 = q2 at *
  simp only [d20, d21, d30, d31] at hq1 hq2
  rw [hq1] at k1
  rw [hq2] at k2
  generalize ringE = e at *
  rw [call_code F (show F 10 = some (.code f10) from rfl)]
  simp only [f10, c_dart, k1, k2, g1, g2, g3, rowsBy_takeAll, go_sem, reduceIte, reduceCtorEq, Nat.reduceEqDiff, Nat.reduceAdd, Nat.reduceMul, Nat.reduceLeDiff, List.length_cons, List.length_nil]
end Go.Proofs.Ytonhkmpjpnjkfaa.Sx
namespace Go.Proofs.Ytonhkmpjpnjkfaa.Sx
theorem next_prev {r : List Dart} (hn : r.Nodup) {x : Dart} (hx : x ∈ r) : nextD r (prevD r x) = x := by
  have hp := List.length_pos_of_mem hx
  have e := ga_idx hx
  conv => lhs; rw [← e]
  rw [prevD_ga hn hp, nextD_ga hn hp, show r.idxOf x + (r.length - 1) + 1 = r.idxOf x + r.length by omega, ← ga_mod, Nat.add_mod_right, ga_mod, e]
theorem Pth.back {f g k : Dart → Dart} {D : List Dart} (hk : ∀ z ∈ D, g (k (f z)) = k z) : ∀ {r : List Dart} {x y : Dart}, Pth f x r y → (∀ z ∈ x :: r, z ∈ D) → Pth g (k y) (r.map k).reverse (k x)
  | [], x, y, h, hr => by
    have h : f x = y := h
    show g (k y) = k x
    rw [← h]; exact hk x (hr x (by simp))
  | z :: r, x, y, h, hr => by
    rw [List.map_cons, List.reverse_cons]
    refine Pth.app.2 ⟨Pth.back hk h.2 (fun u hu => hr u (by simp at hu ⊢; exact .inr hu)), ?_⟩
    show g (k z) = k x
    rw [← h.1]; exact hk x (hr x (by simp))
end Go.Proofs.Ytonhkmpjpnjkfaa.Sx
namespace Go.Proofs.Ytonhkmpjpnjkfaa.Sx
theorem dartsE_snoc2 (es : List Ed) (e : Ed) : dartsE (es ++ [e]) = dartsE es ++ [⟨e.id, 0⟩, ⟨e.id, 1⟩] := by unfold dartsE; rw [List.flatMap_append]; simp
def insV (id : ID) (z a : Dart) (v : Vx) : Vx := if v.id = id then reR v (insR v.ring z a) else v
theorem insV_id (id : ID) (z a : Dart) (v : Vx) : (insV id z a v).id = v.id := by unfold insV; split <;> rfl
theorem insV_pos {id : ID} {v : Vx} (h : v.id = id) (z a : Dart) : insV id z a v = reR v (insR v.ring z a) := by unfold insV; rw [if_pos h]
theorem insV_neg {id : ID} {v : Vx} (h : ¬ v.id = id) (z a : Dart) : insV id z a v = v := by unfold insV; rw [if_neg h]
theorem ins_count1 {r : List Dart} {z a : Dart} (ha : a ∉ r) (y : Dart) : (insR r z a).count y = r.count y + if y = a then 1 else 0 := by
  rw [insR_eq ha, ← (rot_turn _).count, count_insL]
theorem ins_mem1 {r : List Dart} {z a : Dart} (ha : a ∉ r) (y : Dart) : y ∈ insR r z a ↔ y ∈ r ∨ y = a := by
  rw [← List.count_pos_iff, ins_count1 ha, ← List.count_pos_iff (a := y) (l := r)]
  split
  · rename_i h; simp [h]
  · rename_i h; simp [h]
theorem ins_nd1 {r : List Dart} (hn : r.Nodup) {z a : Dart} (ha : a ∉ r) : (insR r z a).Nodup := by
  rw [insR_eq ha]; exact (rot_turn _).nodup (insL_nodup hn ha)
theorem ins_turn1 {r : List Dart} (hn : r.Nodup) {z a : Dart} (ha : a ∉ r) : insR r z a = turn (insR r z a) := by
  rw [insR_eq ha, turn_turn (insL_nodup hn ha)]
theorem ins_back1 {r : List Dart} {z a : Dart} (ha : a ∉ r) : Rot ((insR r z a).filter (fun y => decide (¬ y = a))) r := by
  rw [insR_eq ha]
  have := ((rot_turn (insL r z a)).symm).filter (fun y => decide (¬ y = a))
  rw [insL_filter ha] at this
  exact this
theorem insV_back {id : ID} {z a : Dart} {v : Vx} (ha : a ∉ v.ring) : Rot ((insV id z a v).ring.filter (fun y => decide (¬ y = a))) v.ring := by
  unfold insV
  split
  · exact ins_back1 ha
  · rw [List.filter_eq_self.2 (fun y hy => by simp; rintro rfl; exact ha hy)]
    exact .refl _
theorem insV_nd {id : ID} {z a : Dart} {v : Vx} (hn : v.ring.Nodup) (ha : a ∉ v.ring) : (insV id z a v).ring.Nodup := by
  unfold insV; split
  · exact ins_nd1 hn ha
  · exact hn
theorem insV_turn {id : ID} {z a : Dart} {v : Vx} (hn : v.ring.Nodup) (ha : a ∉ v.ring) (ht : v.ring = turn v.ring) : (insV id z a v).ring = turn (insV id z a v).ring := by
  unfold insV; split
  · exact ins_turn1 hn ha
  · exact ht
theorem insV_mem {id : ID} {z a : Dart} {v : Vx} (ha : a ∉ v.ring) (y : Dart) : y ∈ (insV id z a v).ring ↔ y ∈ v.ring ∨ (y = a ∧ v.id = id) := by
  unfold insV; split
  · rename_i h
    show y ∈ insR _ _ _ ↔ _
    rw [ins_mem1 ha]; simp [h]
  · rename_i h; simp [h]
theorem map_ins {l : List Vx} (hn : (l.map Vx.id).Nodup) {k : Nat} (hk : k < l.length) (z a : Dart) : l.map (insV l[k].id z a) = l.set k (reR l[k] (insR l[k].ring z a)) := by
  refine List.ext_getElem (by simp) fun i h1 h2 => ?_
  rw [List.getElem_map, List.getElem_set]
  split
  · rename_i e; subst e; unfold insV; rw [if_pos rfl]
  · rename_i e
    unfold insV
    rw [if_neg]
    intro e2
    have hi : i < l.length := by simpa using h1
    have := (List.getElem_inj hn (h₀ := by simpa using hi) (h₁ := by simpa using hk)).1 (by simpa using e2)
    exact e this.symm
theorem ins_count {l : List Vx} (hn : (l.map Vx.id).Nodup) {v : Vx} (hv : v ∈ l) {z a : Dart} (ha : a ∉ allR l) (y : Dart) : (allR (l.map (insV v.id z a))).count y = (allR l).count y + if y = a then 1 else 0 := by
  obtain ⟨k, hk, rfl⟩ := List.mem_iff_getElem.1 hv
  rw [map_ins hn hk]
  have h1 := count_set hk (reR l[k] (insR l[k].ring z a)) y
  have h2 : (reR l[k] (insR l[k].ring z a)).ring.count y = l[k].ring.count y + if y = a then 1 else 0 := ins_count1 (fun h => ha (mem_allR (List.getElem_mem hk) h)) y
  omega
/-- the new edge's name: the greatest that may be -/
def bigI : ID := ⟨8, 1048576⟩
def bigA : Dart := ⟨bigI, 0⟩
def bigB : Dart := ⟨bigI, 1⟩
def bigE : Ed := ⟨bigI, ⟨#[]⟩, 0⟩
theorem oth_big : othD bigA = bigB := rfl
def moreV (l : List Vx) (v w : ID) (x y : Dart) : List Vx := (l.map (insV v x bigA)).map (insV w y bigB)
theorem big_not {l : List Vx} {es : List Ed} (h : WF l es) (hn : bigI ∉ es.map Ed.id) : bigA ∉ allR l ∧ bigB ∉ allR l := by
  constructor
  · intro hm
    obtain ⟨e, he, hx⟩ := dartsE_mem.1 ((h.mem _).1 hm)
    refine hn (List.mem_map.2 ⟨e, he, ?_⟩)
    rcases hx with hx | hx
    · exact (congrArg Dart.e hx).symm
    · exact (congrArg Dart.e hx).symm
  · intro hm
    obtain ⟨e, he, hx⟩ := dartsE_mem.1 ((h.mem _).1 hm)
    refine hn (List.mem_map.2 ⟨e, he, ?_⟩)
    rcases hx with hx | hx
    · exact (congrArg Dart.e hx).symm
    · exact (congrArg Dart.e hx).symm
section
variable {l : List Vx} {es : List Ed}
theorem more_count (h : WF l es) (hn : bigI ∉ es.map Ed.id) {v w : Vx} (hv : v ∈ l) (hw : w ∈ l) (x y z : Dart) : (allR (moreV l v.id w.id x y)).count z = (allR l).count z + (if z = bigA then 1 else 0) + (if z = bigB then 1 else 0) := by
  obtain ⟨ha, hb⟩ := big_not h hn
  have hid : (l.map (insV v.id x bigA)).map Vx.id = l.map Vx.id := by rw [List.map_map]; exact List.map_congr_left fun u _ => insV_id _ _ _ u
  have h1 : ∀ z, (allR (l.map (insV v.id x bigA))).count z = (allR l).count z + if z = bigA then 1 else 0 := ins_count h.sv.nodup hv ha
  have hb' : bigB ∉ allR (l.map (insV v.id x bigA)) := fun hm => by
    have h2 := h1 bigB
    have h3 := List.count_pos_iff.2 hm
    rw [List.count_eq_zero_of_not_mem hb, if_neg (by decide)] at h2
    omega
  have hw' : insV v.id x bigA w ∈ l.map (insV v.id x bigA) := List.mem_map_of_mem hw
  have h2 := ins_count (l := l.map (insV v.id x bigA)) (by rw [hid]; exact h.sv.nodup) hw' (z := y) hb' z
  rw [insV_id] at h2
  unfold moreV
  rw [h2, h1]
theorem rise_big {ids : List ID} (h : Rise ids) (hn : bigI ∉ ids) : Rise (ids ++ [bigI]) := by
  refine ⟨fun x hx => ?_, List.pairwise_append.2 ⟨h.2, by simp, fun x hx y hy => ?_⟩⟩
  · rcases List.mem_append.1 hx with hx | hx
    · exact h.1 x hx
    · rw [List.mem_singleton.1 hx]; rfl
  · rw [List.mem_singleton.1 hy]
    have h1 := h.1 x hx
    have h2 : x ≠ bigI := fun e => hn (e ▸ hx)
    unfold mayI at h1
    have h1 := of_decide_eq_true h1
    rw [Ne, ID.ext_iff'] at h2
    unfold ltI bigI at *
    simp only at h2 ⊢
    omega
theorem more_wf (h : WF l es) (hn : bigI ∉ es.map Ed.id) (hlt : es.length < 40) {v w : Vx} (hv : v ∈ l) (hw : w ∈ l) (x y : Dart) : WF (moreV l v.id w.id x y) (es ++ [bigE]) := by
  obtain ⟨ha, hb⟩ := big_not h hn
  have hc := more_count h hn hv hw x y
  refine ⟨by simp [moreV]; exact h.lv, by simp; omega, ?_, ?_, fun u hu => ?_, ?_, fun z => ?_⟩
  · have : (moreV l v.id w.id x y).map Vx.id = l.map Vx.id := by
      unfold moreV
      rw [List.map_map, List.map_map]
      exact List.map_congr_left fun u _ => by show (insV _ _ _ (insV _ _ _ u)).id = u.id; rw [insV_id, insV_id]
    rw [this]; exact h.sv
  · rw [List.map_append]; exact rise_big h.se hn
  · obtain ⟨u1, hu1, rfl⟩ := List.mem_map.1 hu
    obtain ⟨u0, hu0, rfl⟩ := List.mem_map.1 hu1
    have n0 := ring_nodup h.nd hu0
    have a0 : bigA ∉ u0.ring := fun hm => ha (mem_allR hu0 hm)
    have b0 : bigB ∉ u0.ring := fun hm => hb (mem_allR hu0 hm)
    have b1 : bigB ∉ (insV v.id x bigA u0).ring := fun hm => by
      rcases (insV_mem a0 _).1 hm with hm | hm
      · exact b0 hm
      · exact absurd hm.1 (by decide)
    exact insV_turn (insV_nd n0 a0) b1 (insV_turn n0 a0 (h.tn u0 hu0))
  · rw [List.nodup_iff_count]
    intro z
    rw [hc]
    have h1 := List.nodup_iff_count.1 h.nd z
    by_cases e1 : z = bigA
    · subst e1
      rw [List.count_eq_zero_of_not_mem ha, if_pos rfl, if_neg (by decide)]; omega
    · by_cases e2 : z = bigB
      · subst e2
        rw [List.count_eq_zero_of_not_mem hb, if_neg (by decide), if_pos rfl]; omega
      · rw [if_neg e1, if_neg e2]; omega
  · rw [← List.count_pos_iff, hc, dartsE_snoc2 es bigE, List.mem_append, ← h.mem z, ← List.count_pos_iff]
    simp only [List.mem_cons, List.not_mem_nil, or_false]
    show _ ↔ _ ∨ (z = bigA ∨ z = bigB)
    by_cases e1 : z = bigA
    · rw [if_pos e1]; constructor
      · intro _; exact .inr (.inl e1)
      · intro _; omega
    · by_cases e2 : z = bigB
      · rw [if_pos e2]; constructor
        · intro _; exact .inr (.inr e2)
        · intro _; omega
      · simp [e1, e2]
theorem more_cut (h : WF l es) (hn : bigI ∉ es.map Ed.id) (v w : ID) (x y : Dart) : Cut (moreV l v w x y) l bigA (othD bigA) := by
  obtain ⟨ha, hb⟩ := big_not h hn
  refine ⟨by simp [moreV], fun i hi hi' => ?_⟩
  rw [oth_big]
  have e : (moreV l v w x y)[i] = insV w y bigB (insV v x bigA l[i]) := by simp [moreV]
  rw [e]
  have hu0 := List.getElem_mem hi'
  have a0 : bigA ∉ l[i].ring := fun hm => ha (mem_allR hu0 hm)
  have b0 : bigB ∉ l[i].ring := fun hm => hb (mem_allR hu0 hm)
  have b1 : bigB ∉ (insV v x bigA l[i]).ring := fun hm => by
    rcases (insV_mem a0 _).1 hm with hm | hm
    · exact b0 hm
    · exact absurd hm.1 (by decide)
  have r1 := insV_back (id := w) (z := y) b1
  have r2 := insV_back (id := v) (z := x) a0
  have r3 := (r1.filter (fun y => decide (¬ y = bigA))).trans r2
  rw [List.filter_filter] at r3 ⊢
  have : (fun a => decide (¬ a = bigB) && decide (¬ a = bigA)) = (fun a => decide (¬ a = bigA) && decide (¬ a = bigB)) := by
    funext a; exact Bool.and_comm _ _
  rw [this]
  exact r3
theorem next_ins {r : List Dart} (hn : r.Nodup) {z a : Dart} (ha : a ∉ r) (hz : z ∈ r) : nextD (insR r z a) z = a := by
  have h1 := prev_ins hn ha hz
  have h2 := next_prev (ins_nd1 hn ha) ((ins_mem1 (z := z) ha a).2 (.inr rfl))
  rw [h1] at h2
  exact h2
theorem next_ins_other {r : List Dart} (hn : r.Nodup) {z a u : Dart} (ha : a ∉ r) (hz : z ∈ r) (hu : u ∈ r) (huz : u ≠ z) : nextD (insR r z a) u = nextD r u := by
  have hni := ins_nd1 hn ha (z := z)
  have hua : u ≠ a := fun e => ha (e ▸ hu)
  have hui : u ∈ insR r z a := (ins_mem1 ha u).2 (.inl hu)
  have h1 := filter_skip hni hui hua
  rw [if_neg] at h1
  · rw [← h1]
    exact (nextD_rot (hni.filter _) (ins_back1 ha) u).symm
  · intro e
    have h2 := prev_next hni hui
    rw [e, prev_ins hn ha hz] at h2
    exact huz h2.symm
theorem more_sig (h : WF l es) (hn : bigI ∉ es.map Ed.id) (hlt : es.length < 40) {v w : Vx} (hv : v ∈ l) (hw : w ∈ l) {x y : Dart} (hx : x ∈ v.ring) (hy : y ∈ w.ring) (hxy : x ≠ y) :
    sigD (moreV l v.id w.id x y) x = bigA ∧ sigD (moreV l v.id w.id x y) y = bigB := by
  obtain ⟨ha, hb⟩ := big_not h hn
  have hm := more_wf h hn hlt hv hw x y
  have nodup_id := h.sv.nodup
  have fact : ∀ u ∈ l, bigA ∉ u.ring ∧ bigB ∉ (insV v.id x bigA u).ring ∧ u.ring.Nodup ∧ (insV v.id x bigA u).ring.Nodup ∧ insV w.id y bigB (insV v.id x bigA u) ∈ moreV l v.id w.id x y := fun u hu => by
    have a0 : bigA ∉ u.ring := fun hm => ha (mem_allR hu hm)
    have n0 := ring_nodup h.nd hu
    refine ⟨a0, fun hm => ?_, n0, insV_nd n0 a0, List.mem_map_of_mem (List.mem_map_of_mem hu)⟩
    rcases (insV_mem a0 _).1 hm with hm | hm
    · exact hb (mem_allR hu hm)
    · exact absurd hm.1 (by decide)
  constructor
  · obtain ⟨a0, b1, n0, n1, hmem⟩ := fact v hv
    have e1 : (insV v.id x bigA v).ring = insR v.ring x bigA := by unfold insV; rw [if_pos rfl]; rfl
    have hx1 : x ∈ (insV v.id x bigA v).ring := (insV_mem a0 x).2 (.inl hx)
    have hx2 : x ∈ (insV w.id y bigB (insV v.id x bigA v)).ring := (insV_mem b1 x).2 (.inl hx1)
    rw [sigD_at hm.nd hmem hx2]
    have h1 : nextD (insV v.id x bigA v).ring x = bigA := by rw [e1]; exact next_ins n0 a0 hx
    by_cases hvw : v.id = w.id
    · have e : v = w := inj_of_nodup nodup_id hv hw hvw
      subst e
      have e2 : (insV v.id y bigB (insV v.id x bigA v)).ring = insR (insV v.id x bigA v).ring y bigB := by
        rw [insV_pos (insV_id v.id x bigA v) y bigB]; rfl
      rw [e2, next_ins_other n1 b1 ((insV_mem a0 y).2 (.inl hy)) hx1 hxy, h1]
    · have e2 : insV w.id y bigB (insV v.id x bigA v) = insV v.id x bigA v := by
        rw [insV_neg (by rw [insV_id]; exact hvw)]
      rw [e2, h1]
  · obtain ⟨a0, b1, n0, n1, hmem⟩ := fact w hw
    have hy1 : y ∈ (insV v.id x bigA w).ring := (insV_mem a0 y).2 (.inl hy)
    have hy2 : y ∈ (insV w.id y bigB (insV v.id x bigA w)).ring := (insV_mem b1 y).2 (.inl hy1)
    rw [sigD_at hm.nd hmem hy2]
    have e2 : (insV w.id y bigB (insV v.id x bigA w)).ring = insR (insV v.id x bigA w).ring y bigB := by
      rw [insV_pos (insV_id v.id x bigA w) y bigB]; rfl
    rw [e2, next_ins n1 b1 hy1]
theorem more_alone (h : WF l es) (hn : bigI ∉ es.map Ed.id) {v w : Vx} (hv : v ∈ l) (hw : w ∈ l) {x y : Dart} (hx : x ∈ v.ring) (hy : y ∈ w.ring) : aloneN (moreV l v.id w.id x y) = aloneN l := by
  obtain ⟨ha, hb⟩ := big_not h hn
  unfold aloneN moreV
  rw [List.map_map, List.countP_map]
  refine List.countP_congr fun u hu => ?_
  have a0 : bigA ∉ u.ring := fun hm => ha (mem_allR hu hm)
  have b1 : bigB ∉ (insV v.id x bigA u).ring := fun hm => by
    rcases (insV_mem a0 _).1 hm with hm | hm
    · exact hb (mem_allR hu hm)
    · exact absurd hm.1 (by decide)
  show (insV w.id y bigB (insV v.id x bigA u)).ring.isEmpty = true ↔ u.ring.isEmpty = true
  rw [List.isEmpty_iff, List.isEmpty_iff]
  constructor
  · intro e
    cases hr : u.ring with
    | nil => rfl
    | cons z r =>
      have : z ∈ (insV w.id y bigB (insV v.id x bigA u)).ring := (insV_mem b1 z).2 (.inl ((insV_mem a0 z).2 (.inl (by rw [hr]; simp))))
      rw [e] at this; cases this
  · intro e
    have hv' : u.id ≠ v.id := fun e' => by
      have := inj_of_nodup h.sv.nodup hu hv e'
      rw [this] at e; rw [e] at hx; cases hx
    have hw' : u.id ≠ w.id := fun e' => by
      have := inj_of_nodup h.sv.nodup hu hw e'
      rw [this] at e; rw [e] at hy; cases hy
    have e1 : insV v.id x bigA u = u := by unfold insV; rw [if_neg hv']
    have e2 : insV w.id y bigB u = u := by unfold insV; rw [if_neg hw']
    rw [e1, e2, e]
/-- darts of one face, whatever the faces are told by -/
theorem Dec.same {f : Dart → Dart} {D : List Dart} (oo : OneOne f D) {n : Nat} (hD : D.length ≤ n) {cs : List (List Dart)} (h : Dec f D cs) {u w : Dart} (hu : u ∈ D) : (∃ c ∈ cs, u ∈ c ∧ w ∈ c) ↔ w ∈ orb f n u := by
  have hcy := oo.orb_cy hu hD
  constructor
  · rintro ⟨c, hc, h1, h2⟩
    exact (h.cy c hc).sub hcy h1 (orb_self _ _ _) w h2
  · intro hw
    obtain ⟨c, hc, h1⟩ := List.mem_flatten.1 ((h.mem u).2 hu)
    exact ⟨c, hc, h1, hcy.sub (h.cy c hc) (orb_self _ _ _) h1 w hw⟩
/-- an edge between corners of one face makes of it two; between two faces it makes of these one -/
theorem more_faces (h : WF l es) (hn : bigI ∉ es.map Ed.id) (hlt : es.length < 40) {v w : Vx} (hv : v ∈ l) (hw : w ∈ l) {x y : Dart} (hx : x ∈ v.ring) (hy : y ∈ w.ring) (hxy : x ≠ y)
    {cs ds : List (List Dart)} (hc : Dec (phiD (moreV l v.id w.id x y)) (allR (moreV l v.id w.id x y)) cs) (hd : Dec (phiD l) (allR l) ds) :
    (othD y ∈ trD l (othD x) ∧ cs.length = ds.length + 1) ∨ (othD y ∉ trD l (othD x) ∧ cs.length + 1 = ds.length) := by
  have hm := more_wf h hn hlt hv hw x y
  have hcut := more_cut h hn v.id w.id x y
  have hA : bigA ∈ allR (moreV l v.id w.id x y) := (hm.mem _).2 (dartsE_mem.2 ⟨bigE, by simp, .inl rfl⟩)
  obtain ⟨cs', hc', hcase⟩ := hc.faces hm.pr hA hcut
  have hl := hc'.len hd
  have hal := more_alone h hn hv hw hx hy
  obtain ⟨s1, s2⟩ := more_sig h hn hlt hv hw hx hy hxy
  have hxo := h.pr.oth x (mem_allR hv hx)
  have hyo := h.pr.oth y (mem_allR hw hy)
  have p1 : phiD (moreV l v.id w.id x y) (othD x) = bigA := by unfold phiD; rw [othD_othD]; exact s1
  have p2 : phiD (moreV l v.id w.id x y) (othD y) = othD bigA := by unfold phiD; rw [othD_othD]; exact s2
  have hlen : (allR l).length ≤ 100 := by rw [h.many]; have := h.le; omega
  have hs := hc'.same (phiD_oo h.pr) hlen (w := othD y) hxo
  rcases hcase with ⟨_, he, hno⟩ | ⟨_, he, hyes⟩
  · refine .inr ⟨fun hin => ?_, by omega⟩
    exact hno _ hxo _ hyo p1 p2 (hs.2 hin)
  · refine .inl ⟨hs.1 (hyes _ hxo _ hyo p1 p2), by omega⟩
end
end Go.Proofs.Ytonhkmpjpnjkfaa.Sx
namespace Go.Proofs.Ytonhkmpjpnjkfaa.Sx
open Go
theorem r04_clone_l1 (l : List Vx) (es : List Ed) (hl : l.length ≤ 100000) (hr : FitsR l) : E (cs F) 0 f19_l1 (⟨(upd (upd (upd (upd Sx.e0 4 (.v (.int .i64 (0)))) 3 (.p 3 0)) 2 (.p 2 0)) 1 (.p 1 0)), (upd (upd (upd (upd Sx.h0 10193 (some (.arr false 37 4 (rowsBy Ed.c es)))) 3 (some (.var false [(.v (.sl (.tight 42) 5 [])), (.s 10193 0 es.length)]))) 2 (some (.var false [(.v (.sl (.tight 42) 5 [])), (.v (.sl (.tight 37) 4 []))]))) 1 (some (.var false [(.v (.sl .shared 5 (rowsBy Vx.c l))), (.v (.sl .shared 4 (rowsBy Ed.c es)))])))⟩ : St) =
    some (if l.length = 0 then (.exit 0, (⟨(upd (upd Sx.e0 3 (.p 3 0)) 2 (.p 2 0)), (upd (upd (upd Sx.h0 10193 (some (.arr false 37 4 (rowsBy Ed.c es)))) 3 (some (.var false [(.v (.sl (.tight 42) 5 [])), (.s 10193 0 es.length)]))) 2 (some (.var false [(.v (.sl (.tight 42) 5 [])), (.v (.sl (.tight 37) 4 []))])))⟩ : St)) else (.exit 0, (⟨(upd (upd Sx.e0 3 (.p 3 0)) 2 (.p 2 0)), (upd (upd (upd (upd Sx.h0 10193 (some (.arr false 37 4 (rowsBy Ed.c es)))) 10192 (some (.arr false 42 5 (rowsBy Vx.c l)))) 3 (some (.var false [(.s 10192 0 l.length), (.s 10193 0 es.length)]))) 2 (some (.var false [(.v (.sl (.tight 42) 5 [])), (.v (.sl (.tight 37) 4 []))])))⟩ : St))) := by
  have hw : l.length ≤ 9223372036854775807 := by omega
  have l1 : E (cs F) 0 f19_l1 (⟨(upd (upd (upd (upd Sx.e0 4 (.v (.int .i64 (0)))) 3 (.p 3 0)) 2 (.p 2 0)) 1 (.p 1 0)), (upd (upd (upd (upd Sx.h0 10193 (some (.arr false 37 4 (rowsBy Ed.c es)))) 3 (some (.var false [(.v (.sl (.tight 42) 5 [])), (.s 10193 0 es.length)]))) 2 (some (.var false [(.v (.sl (.tight 42) 5 [])), (.v (.sl (.tight 37) 4 []))]))) 1 (some (.var false [(.v (.sl .shared 5 (rowsBy Vx.c l))), (.v (.sl .shared 4 (rowsBy Ed.c es)))])))⟩ : St) = some (if l.length = 0 then (.exit 0, (⟨(upd (upd Sx.e0 3 (.p 3 0)) 2 (.p 2 0)), (upd (upd (upd Sx.h0 10193 (some (.arr false 37 4 (rowsBy Ed.c es)))) 3 (some (.var false [(.v (.sl (.tight 42) 5 [])), (.s 10193 0 es.length)]))) 2 (some (.var false [(.v (.sl (.tight 42) 5 [])), (.v (.sl (.tight 37) 4 []))])))⟩ : St)) else (.exit 0, (⟨(upd (upd Sx.e0 3 (.p 3 0)) 2 (.p 2 0)), (upd (upd (upd (upd Sx.h0 10193 (some (.arr false 37 4 (rowsBy Ed.c es)))) 10192 (some (.arr false 42 5 (rowsBy Vx.c l)))) 3 (some (.var false [(.s 10192 0 l.length), (.s 10193 0 es.length)]))) 2 (some (.var false [(.v (.sl (.tight 42) 5 [])), (.v (.sl (.tight 37) 4 []))])))⟩ : St))) := by
    refine loop_grow (b := f19_b1) _ (fun q0 => (⟨(upd (upd (upd (upd Sx.e0 4 (.v (.int .i64 ((q0 : Int))))) 3 (.p 3 0)) 2 (.p 2 0)) 1 (.p 1 0)), (upd (upd (upd (upd (upd Sx.h0 10193 (some (.arr false 37 4 (rowsBy Ed.c es)))) 10192 (some (.arr false 42 5 (rowsBy Vx.c (l.take q0))))) 3 (some (.var false [(.s 10192 0 (l.take q0).length), (.s 10193 0 es.length)]))) 2 (some (.var false [(.v (.sl (.tight 42) 5 [])), (.v (.sl (.tight 37) 4 []))]))) 1 (some (.var false [(.v (.sl .shared 5 (rowsBy Vx.c l))), (.v (.sl .shared 4 (rowsBy Ed.c es)))])))⟩ : St)) (l.length) ?_ (by simp) ?_ ?_ ?_ (by simp)
    · intro h0
      simp only [f19_b1, show decide ((0 : Int) < (l.length : Int)) = false from decide_eq_false (by omega), go_sem, reduceIte, Nat.reduceEqDiff, Nat.reduceAdd, Nat.reduceLeDiff, List.length_cons, List.length_nil]
    · intro hn
      have hs : l.take 1 = [l[0]] := List.take_succ_eq_append_getElem (i := 0) hn
      have d1 : decide ((0 : Int) < (l.length : Int)) = true := decide_eq_true (by omega)
      have h1z : (0 : Int) < (l.length : Int) := by omega
      have hrl := (hr _ (List.getElem_mem hn)).le
      have h5 : l[0].ring.length * 24 ≤ 140737488355328 := by omega
      have e2 : rowsBy Vx.c [l[0]] = [[.int .i64 l[0].id.s, .int .i64 l[0].id.n, .sl .shared 3 (rowsBy Dart.c l[0].ring), .str l[0].label, .int .i64 l[0].attr]] := rfl
      rw [hs, e2]
      simp only [f19_b1, h1z, rowsBy_get Vx.c hn, Vx.c, h5, show IntKind.i64.wrap 1 = 1 from rfl, go_sem, reduceIte, Nat.reduceEqDiff, Nat.reduceAdd, Nat.reduceMul, Nat.reduceLeDiff, List.length_cons, List.length_nil, Int.reduceAdd, Int.reduceToNat, Int.cast_ofNat_Int]
    · intro i hi0 hi
      have h1z : (i : Int) < (l.length : Int) := by omega
      have hs : l.take (i + 1) = l.take i ++ [l[i]] := List.take_succ_eq_append_getElem hi
      have hrl := (hr _ (List.getElem_mem hi)).le
      have h5 : l[i].ring.length * 24 ≤ 140737488355328 := by omega
      have hl2 : (l.take i).length ≤ i := by rw [List.length_take]; omega
      have e2 : (l.take i ++ [l[i]]).length = (l.take i).length + 1 := by rw [List.length_append]; rfl
      rw [hs, e2]
      generalize l.take i = q at *
      have h6 : (q.length + 1) * 64 ≤ 140737488355328 := by omega
      have e3 : rowsBy Vx.c q ++ [[.int .i64 l[i].id.s, .int .i64 l[i].id.n, .sl .shared 3 (rowsBy Dart.c l[i].ring), .str l[i].label, .int .i64 l[i].attr]] = rowsBy Vx.c (q ++ [l[i]]) := rowsBy_snoc Vx.c q l[i]
      simp only [f19_b1, h1z, rowsBy_get Vx.c hi, Vx.c, h5, h6, e3, wrap_succ hi hw, go_sem, reduceIte, Nat.reduceEqDiff, Nat.reduceAdd, Nat.reduceLeDiff, List.length_cons, List.length_nil]
    · intro hn
      rw [List.take_length]
      simp only [f19_b1, dec_ge (Nat.le_refl l.length), go_sem, reduceIte, Nat.reduceEqDiff, Nat.reduceAdd, Nat.reduceLeDiff, List.length_cons, List.length_nil]
  exact l1
theorem i_r04_Clone (l : List Vx) (es : List Ed) (hl : l.length ≤ 100000) (he : es.length ≤ 100000) (hr : FitsR l) : call F 19 [.agg [.sl .shared 5 (rowsBy Vx.c l), .sl .shared 4 (rowsBy Ed.c es)]] = some (.agg [.sl (.own 42) 5 (rowsBy Vx.c l), .sl (.own 37) 4 (rowsBy Ed.c es)]) := by
  have l1 := r04_clone_l1 l es hl hr
  have h5 : es.length * 40 ≤ 140737488355328 := by omega
  rw [call_code F (show F 19 = some (.code f19) from rfl)]
  by_cases h0 : l.length = 0
  · rw [if_pos h0] at l1
    have e0 := List.eq_nil_of_length_eq_zero h0
    subst e0
    simp only [rowsBy_nil] at l1 ⊢
    simp only [f19, l1, h5, go_sem, reduceIte, reduceCtorEq, Nat.reduceEqDiff, Nat.reduceAdd, List.length_cons, List.length_nil]
  · rw [if_neg h0] at l1
    simp only [f19, l1, h5, go_sem, reduceIte, reduceCtorEq, Nat.reduceEqDiff, Nat.reduceAdd, Nat.reduceBEq, List.length_cons, List.length_nil]
/-- vertices changed one by one -/
def mixF (g : Vx → Vx) (v : List Vx) (i : Nat) : List Vx := (v.take i).map g ++ v.drop i
theorem mixF_at {g : Vx → Vx} {v : List Vx} {i : Nat} (h : i < v.length) : (mixF g v i)[i]? = some v[i] := by
  unfold mixF
  rw [List.getElem?_append_right (by simp; omega), List.length_map, List.length_take, Nat.min_eq_left (by omega), Nat.sub_self, List.getElem?_drop, Nat.add_zero, List.getElem?_eq_getElem h]
theorem mixF_len (g : Vx → Vx) (v : List Vx) (i : Nat) : (mixF g v i).length = v.length := by
  unfold mixF; rw [List.length_append, List.length_map, List.length_take, List.length_drop]; omega
theorem mixF_set {g : Vx → Vx} {v : List Vx} {i : Nat} (h : i < v.length) : (mixF g v i).set i (g v[i]) = mixF g v (i + 1) := by
  unfold mixF
  rw [List.set_append_right _ _ (by rw [List.length_map, List.length_take]; omega), List.length_map, List.length_take, Nat.min_eq_left (by omega), Nat.sub_self, List.drop_eq_getElem_cons h, List.set_cons_zero, List.take_succ_eq_append_getElem h, List.map_append, List.append_assoc]
  rfl
theorem mixF_all (g : Vx → Vx) (v : List Vx) : mixF g v v.length = v.map g := by unfold mixF; rw [List.take_length, List.drop_length, List.append_nil]
theorem mixF_row {g : Vx → Vx} {v : List Vx} {i : Nat} (h : i < v.length) : (rowsBy Vx.c (mixF g v i))[i]? = some (Vx.c v[i]) := by
  have hil : i < (mixF g v i).length := by rw [mixF_len]; exact h
  rw [rowsBy_get Vx.c hil]
  have hg := mixF_at (g := g) h
  rw [List.getElem?_eq_getElem hil] at hg
  rw [Option.some.inj hg]
theorem mixF_rowset {g : Vx → Vx} {v : List Vx} {i : Nat} (h : i < v.length) : (rowsBy Vx.c (mixF g v i)).set i (Vx.c (g v[i])) = rowsBy Vx.c (mixF g v (i + 1)) := by rw [rowsBy_set, mixF_set h]
theorem mixF_same {g : Vx → Vx} {v : List Vx} {i : Nat} (h : i < v.length) (e : g v[i] = v[i]) : mixF g v (i + 1) = mixF g v i := by
  rw [← mixF_set h, e]
  refine List.ext_getElem? fun k => ?_
  rw [List.getElem?_set]
  split
  · rename_i hk
    subst hk
    rw [mixF_at h, if_pos (by rw [mixF_len]; exact h)]
  · rfl
end Go.Proofs.Ytonhkmpjpnjkfaa.Sx
namespace Go.Proofs.Ytonhkmpjpnjkfaa.Sx
open Go
/-! ### an edge more -/
theorem moreP_len (l : List Vx) (v w : ID) (x y : Dart) : (moreV l v w x y).length = l.length := by unfold moreV; rw [List.length_map, List.length_map]
open Classical in
theorem more_togP {l : List Vx} {es : List Ed} (h : WF l es) (hn : bigI ∉ es.map Ed.id) (hlt : es.length < 40) {v w : Vx} (hv : v ∈ l) (hw : w ∈ l) (x y : Dart) :
    cN l = cN (moreV l v.id w.id x y) + if togB l v.id w.id = true then 0 else 1 := by
  obtain ⟨p, hp, rfl⟩ := List.mem_iff_getElem.1 hv
  obtain ⟨q, hq, rfl⟩ := List.mem_iff_getElem.1 hw
  have hM := more_wf h hn hlt hv hw x y
  have hc := more_cut h hn l[p].id l[q].id x y
  obtain ⟨hA, hB⟩ := big_not h hn
  have hml := moreP_len l l[p].id l[q].id x y
  have hget : ∀ i (hi : i < l.length), (moreV l l[p].id l[q].id x y)[i]'(by rw [hml]; exact hi) = insV l[q].id y bigB (insV l[p].id x bigA l[i]) := fun i hi =>
    (List.getElem_map (insV l[q].id y bigB)).trans (congrArg (insV l[q].id y bigB) (List.getElem_map (insV l[p].id x bigA)))
  have hnotA : ∀ i (hi : i < l.length), bigA ∉ l[i].ring := fun i hi hx => hA (mem_allR (List.getElem_mem hi) hx)
  have hnotB : ∀ i (hi : i < l.length), bigB ∉ (insV l[p].id x bigA l[i]).ring := fun i hi hx => by
    rcases (insV_mem (hnotA i hi) _).1 hx with h1 | ⟨h1, _⟩
    · exact hB (mem_allR (List.getElem_mem hi) h1)
    · exact absurd h1 (by decide)
  have hpA : bigA ∈ ringAt (moreV l l[p].id l[q].id x y) p := by
    rw [ringAt_lt (by rw [hml]; exact hp), hget _ hp, insV_mem (hnotB _ hp), insV_mem (hnotA _ hp)]
    exact .inl (.inr ⟨rfl, rfl⟩)
  have hqB : othD bigA ∈ ringAt (moreV l l[p].id l[q].id x y) q := by
    rw [oth_big, ringAt_lt (by rw [hml]; exact hq), hget _ hq, insV_mem (hnotB _ hq), insV_id]
    exact .inr ⟨rfl, rfl⟩
  have hst := fun u k => hc.step hM.nd hpA hqB u k
  have hlM := labV_lab (moreV l l[p].id l[q].id x y)
  rw [hml] at hlM
  have hpw := parts_with (R := stepV l) stepV_symm hp hq (labV_lab l) (hlM.iff hst)
  unfold cN
  rw [hml, hpw]
  congr 1
  have et := togB_at h.sv.nodup hp hq
  rw [idAt_lt hp, idAt_lt hq] at et
  rw [et]
  have e : decide (labV l p = labV l q) = true ↔ Con (stepV l) p q := by
    rw [decide_eq_true_eq]
    exact ((labV_lab l).eq stepV_symm hp hq).symm
  by_cases hc : Con (stepV l) p q
  · rw [if_pos hc, if_pos (e.2 hc)]
  · rw [if_neg hc, if_neg (fun k => hc (e.1 k))]
theorem more_gen {l : List Vx} {es : List Ed} (h : WF l es) (hn : bigI ∉ es.map Ed.id) (hlt : es.length < 40) {v w : Vx} (hv : v ∈ l) (hw : w ∈ l) {x y : Dart} (hx : x ∈ v.ring) (hy : y ∈ w.ring) (hxy : x ≠ y) :
    gN (moreV l v.id w.id x y) (es ++ [bigE]) = gN l es + if othD y ∉ trD l (othD x) ∧ togB l v.id w.id = true then 1 else 0 := by
  have hM := more_wf h hn hlt hv hw x y
  have hcase := more_faces h hn hlt hv hw hx hy hxy (facesQ_all hM) (facesQ_all h)
  have hal := more_alone h hn hv hw hx hy
  have hp := more_togP h hn hlt hv hw x y
  have hA : bigA ∈ allR (moreV l v.id w.id x y) := (hM.mem _).2 (dartsE_mem.2 ⟨bigE, by simp, .inl rfl⟩)
  obtain ⟨_, _, h3⟩ := Eul.cut hM.pr hA (more_cut h hn v.id w.id x y) hM.eul h.eul
  have g1 := h.gen
  have g2 := hM.gen
  rw [moreP_len] at g2
  have e1 : (es ++ [bigE]).length = es.length + 1 := by simp
  rw [e1] at g2
  have f1 : fN (moreV l v.id w.id x y) (es ++ [bigE]) = (facesD (moreV l v.id w.id x y) (es ++ [bigE])).length + aloneN l := by unfold fN; rw [hal]
  have f2 : fN l es = (facesD l es).length + aloneN l := rfl
  rcases hcase with ⟨hin, hc⟩ | ⟨hin, hc⟩
  · rw [if_neg (fun k => k.1 hin)]
    rcases h3 with ⟨h3, _⟩ | ⟨h3, h4⟩ <;> omega
  · by_cases ht : togB l v.id w.id = true
    · rw [if_pos ⟨hin, ht⟩]
      rw [if_pos ht] at hp
      omega
    · rw [if_neg (fun k => ht k.2)]
      rw [if_neg ht] at hp
      omega
end Go.Proofs.Ytonhkmpjpnjkfaa.Sx
namespace Go.Proofs.Ytonhkmpjpnjkfaa.Sx
open Go
theorem insR_le {r : List Dart} {z a : Dart} : (insR r z a).length ≤ r.length + 1 := by
  unfold insR
  split
  · rw [turn_length]; omega
  · rw [turn_length, List.length_append, List.length_append, List.length_take, List.length_drop]; simp; omega
theorem insV_le {id : ID} {z a : Dart} {v : Vx} : (insV id z a v).ring.length ≤ v.ring.length + 1 := by
  unfold insV
  split
  · exact insR_le
  · omega
theorem ins_l1 (l m : List Vx) (es f : List Ed) (x y : Dart) (v w : ID) (hm : m.length ≤ 24) (hr : ∀ u ∈ m, u.ring.length ≤ 200) : E (cs F) 0 f5_l1 (⟨(upd (upd (upd (upd (upd (upd (upd (upd (upd Sx.e0 16 (.v (.int .i64 (0)))) 15 (.p 15 0)) 12 (.p 12 0)) 10 (.p 10 0)) 8 (.p 8 0)) 7 (.v (.bool (true)))) 5 (.p 5 0)) 4 (.p 4 0)) 3 (.p 3 0)), (upd (upd (upd (upd (upd (upd (upd (upd (upd (upd (upd Sx.h0 10961 (some (.arr false 37 4 (rowsBy Ed.c f)))) 10960 (some (.arr false 42 5 (rowsBy Vx.c m)))) 10193 (some (.arr true 37 4 (rowsBy Ed.c es)))) 10192 (some (.arr true 42 5 (rowsBy Vx.c l)))) 15 (some (.var false [(.s 10960 0 m.length), (.s 10961 0 f.length)]))) 12 (some (.var false [(.v (.int .i64 (8))), (.v (.int .i64 (1048576)))]))) 10 (some (.var false [(.v (.int .i64 (w.s))), (.v (.int .i64 (w.n)))]))) 8 (some (.var false [(.v (.int .i64 (v.s))), (.v (.int .i64 (v.n)))]))) 5 (some (.var false [(.v (.int .i64 (y.e.s))), (.v (.int .i64 (y.e.n))), (.v (.int .i64 (y.d)))]))) 4 (some (.var false [(.v (.int .i64 (x.e.s))), (.v (.int .i64 (x.e.n))), (.v (.int .i64 (x.d)))]))) 3 (some (.var false [(.s 10192 0 l.length), (.s 10193 0 es.length)])))⟩ : St) = some (.exit 0, (⟨(upd (upd (upd (upd (upd (upd (upd (upd Sx.e0 15 (.p 15 0)) 12 (.p 12 0)) 10 (.p 10 0)) 8 (.p 8 0)) 7 (.v (.bool (true)))) 5 (.p 5 0)) 4 (.p 4 0)) 3 (.p 3 0)), (upd (upd (upd (upd (upd (upd (upd (upd (upd (upd (upd Sx.h0 10961 (some (.arr false 37 4 (rowsBy Ed.c f)))) 10960 (some (.arr false 42 5 (rowsBy Vx.c (m.map (insV v x bigA)))))) 10193 (some (.arr true 37 4 (rowsBy Ed.c es)))) 10192 (some (.arr true 42 5 (rowsBy Vx.c l)))) 15 (some (.var false [(.s 10960 0 m.length), (.s 10961 0 f.length)]))) 12 (some (.var false [(.v (.int .i64 (8))), (.v (.int .i64 (1048576)))]))) 10 (some (.var false [(.v (.int .i64 (w.s))), (.v (.int .i64 (w.n)))]))) 8 (some (.var false [(.v (.int .i64 (v.s))), (.v (.int .i64 (v.n)))]))) 5 (some (.var false [(.v (.int .i64 (y.e.s))), (.v (.int .i64 (y.e.n))), (.v (.int .i64 (y.d)))]))) 4 (some (.var false [(.v (.int .i64 (x.e.s))), (.v (.int .i64 (x.e.n))), (.v (.int .i64 (x.d)))]))) 3 (some (.var false [(.s 10192 0 l.length), (.s 10193 0 es.length)])))⟩ : St)) := by
  have hw : m.length ≤ 9223372036854775807 := by omega
  have l1 : E (cs F) 0 f5_l1 (⟨(upd (upd (upd (upd (upd (upd (upd (upd (upd Sx.e0 16 (.v (.int .i64 (0)))) 15 (.p 15 0)) 12 (.p 12 0)) 10 (.p 10 0)) 8 (.p 8 0)) 7 (.v (.bool (true)))) 5 (.p 5 0)) 4 (.p 4 0)) 3 (.p 3 0)), (upd (upd (upd (upd (upd (upd (upd (upd (upd (upd (upd Sx.h0 10961 (some (.arr false 37 4 (rowsBy Ed.c f)))) 10960 (some (.arr false 42 5 (rowsBy Vx.c (mixF (insV v x bigA) m 0))))) 10193 (some (.arr true 37 4 (rowsBy Ed.c es)))) 10192 (some (.arr true 42 5 (rowsBy Vx.c l)))) 15 (some (.var false [(.s 10960 0 m.length), (.s 10961 0 f.length)]))) 12 (some (.var false [(.v (.int .i64 (8))), (.v (.int .i64 (1048576)))]))) 10 (some (.var false [(.v (.int .i64 (w.s))), (.v (.int .i64 (w.n)))]))) 8 (some (.var false [(.v (.int .i64 (v.s))), (.v (.int .i64 (v.n)))]))) 5 (some (.var false [(.v (.int .i64 (y.e.s))), (.v (.int .i64 (y.e.n))), (.v (.int .i64 (y.d)))]))) 4 (some (.var false [(.v (.int .i64 (x.e.s))), (.v (.int .i64 (x.e.n))), (.v (.int .i64 (x.d)))]))) 3 (some (.var false [(.s 10192 0 l.length), (.s 10193 0 es.length)])))⟩ : St) = some (.exit 0, (⟨(upd (upd (upd (upd (upd (upd (upd (upd Sx.e0 15 (.p 15 0)) 12 (.p 12 0)) 10 (.p 10 0)) 8 (.p 8 0)) 7 (.v (.bool (true)))) 5 (.p 5 0)) 4 (.p 4 0)) 3 (.p 3 0)), (upd (upd (upd (upd (upd (upd (upd (upd (upd (upd (upd Sx.h0 10961 (some (.arr false 37 4 (rowsBy Ed.c f)))) 10960 (some (.arr false 42 5 (rowsBy Vx.c (m.map (insV v x bigA)))))) 10193 (some (.arr true 37 4 (rowsBy Ed.c es)))) 10192 (some (.arr true 42 5 (rowsBy Vx.c l)))) 15 (some (.var false [(.s 10960 0 m.length), (.s 10961 0 f.length)]))) 12 (some (.var false [(.v (.int .i64 (8))), (.v (.int .i64 (1048576)))]))) 10 (some (.var false [(.v (.int .i64 (w.s))), (.v (.int .i64 (w.n)))]))) 8 (some (.var false [(.v (.int .i64 (v.s))), (.v (.int .i64 (v.n)))]))) 5 (some (.var false [(.v (.int .i64 (y.e.s))), (.v (.int .i64 (y.e.n))), (.v (.int .i64 (y.d)))]))) 4 (some (.var false [(.v (.int .i64 (x.e.s))), (.v (.int .i64 (x.e.n))), (.v (.int .i64 (x.d)))]))) 3 (some (.var false [(.s 10192 0 l.length), (.s 10193 0 es.length)])))⟩ : St)) := by
    refine loop_to (b := f5_b1) (fun q0 => (⟨(upd (upd (upd (upd (upd (upd (upd (upd (upd Sx.e0 16 (.v (.int .i64 ((q0 : Int))))) 15 (.p 15 0)) 12 (.p 12 0)) 10 (.p 10 0)) 8 (.p 8 0)) 7 (.v (.bool (true)))) 5 (.p 5 0)) 4 (.p 4 0)) 3 (.p 3 0)), (upd (upd (upd (upd (upd (upd (upd (upd (upd (upd (upd Sx.h0 10961 (some (.arr false 37 4 (rowsBy Ed.c f)))) 10960 (some (.arr false 42 5 (rowsBy Vx.c (mixF (insV v x bigA) m q0))))) 10193 (some (.arr true 37 4 (rowsBy Ed.c es)))) 10192 (some (.arr true 42 5 (rowsBy Vx.c l)))) 15 (some (.var false [(.s 10960 0 m.length), (.s 10961 0 f.length)]))) 12 (some (.var false [(.v (.int .i64 (8))), (.v (.int .i64 (1048576)))]))) 10 (some (.var false [(.v (.int .i64 (w.s))), (.v (.int .i64 (w.n)))]))) 8 (some (.var false [(.v (.int .i64 (v.s))), (.v (.int .i64 (v.n)))]))) 5 (some (.var false [(.v (.int .i64 (y.e.s))), (.v (.int .i64 (y.e.n))), (.v (.int .i64 (y.d)))]))) 4 (some (.var false [(.v (.int .i64 (x.e.s))), (.v (.int .i64 (x.e.n))), (.v (.int .i64 (x.d)))]))) 3 (some (.var false [(.s 10192 0 l.length), (.s 10193 0 es.length)])))⟩ : St)) (m.length) ?_ ?_ (by simp)
    · intro i hi
      have hiz : (i : Int) < (m.length : Int) := by omega
      have hg := mixF_row (g := (insV v x bigA)) hi
      have hrl := hr _ (List.getElem_mem hi)
      have ci := i_r03_Insert m[i].ring x ⟨bigI, 0⟩ (by omega)
      by_cases he : m[i].id = v
      · have hs := mixF_rowset (g := (insV v x bigA)) hi
        rw [insV_pos he] at hs
        simp only [Vx.c, reR] at hs
        have hd := dec_t he
        simp only [bigI, bigA] at ci hs hg ⊢
        generalize insR m[i].ring _ _ = r at *
        simp only [f5_b1, hiz, rowsBy_length, hg, Vx.c, ci, hs, hd, wrap_succ hi hw, List.set_cons_zero, List.set_cons_succ, go_sem, reduceIte, Nat.reduceEqDiff, Nat.reduceAdd, Nat.reduceMul, Nat.reduceLeDiff, Nat.reduceBEq, List.length_cons, List.length_nil, not_false_eq_true, Nat.testBit, Nat.reduceShiftRight, Nat.reduceAnd, Nat.reduceBNe]
      · have hd := dec_f he
        rw [mixF_same hi (insV_neg he _ _)]
        simp only [f5_b1, hiz, hg, Vx.c, hd, wrap_succ hi hw, go_sem, reduceIte, Nat.reduceEqDiff, Nat.reduceAdd, Nat.reduceLeDiff, List.length_cons, List.length_nil, Nat.testBit, Nat.reduceShiftRight, Nat.reduceAnd, Nat.reduceBNe]
    · rw [mixF_all]
      simp only [f5_b1, dec_ge (Nat.le_refl m.length), go_sem, reduceIte, Nat.reduceEqDiff, Nat.reduceAdd, Nat.reduceLeDiff, List.length_cons, List.length_nil]
  exact l1
theorem ins_l2 (l m : List Vx) (es f : List Ed) (x y : Dart) (v w : ID) (hm : m.length ≤ 24) (hr : ∀ u ∈ m, u.ring.length ≤ 200) : E (cs F) 0 f5_l2 (⟨(upd (upd (upd (upd (upd (upd (upd (upd (upd Sx.e0 17 (.v (.int .i64 (0)))) 15 (.p 15 0)) 12 (.p 12 0)) 10 (.p 10 0)) 8 (.p 8 0)) 7 (.v (.bool (true)))) 5 (.p 5 0)) 4 (.p 4 0)) 3 (.p 3 0)), (upd (upd (upd (upd (upd (upd (upd (upd (upd (upd (upd Sx.h0 10961 (some (.arr false 37 4 (rowsBy Ed.c f)))) 10960 (some (.arr false 42 5 (rowsBy Vx.c m)))) 10193 (some (.arr true 37 4 (rowsBy Ed.c es)))) 10192 (some (.arr true 42 5 (rowsBy Vx.c l)))) 15 (some (.var false [(.s 10960 0 m.length), (.s 10961 0 f.length)]))) 12 (some (.var false [(.v (.int .i64 (8))), (.v (.int .i64 (1048576)))]))) 10 (some (.var false [(.v (.int .i64 (w.s))), (.v (.int .i64 (w.n)))]))) 8 (some (.var false [(.v (.int .i64 (v.s))), (.v (.int .i64 (v.n)))]))) 5 (some (.var false [(.v (.int .i64 (y.e.s))), (.v (.int .i64 (y.e.n))), (.v (.int .i64 (y.d)))]))) 4 (some (.var false [(.v (.int .i64 (x.e.s))), (.v (.int .i64 (x.e.n))), (.v (.int .i64 (x.d)))]))) 3 (some (.var false [(.s 10192 0 l.length), (.s 10193 0 es.length)])))⟩ : St) = some (.exit 2, (⟨(upd (upd (upd (upd (upd (upd (upd Sx.e0 15 (.p 15 0)) 10 (.p 10 0)) 8 (.p 8 0)) 7 (.v (.bool (true)))) 5 (.p 5 0)) 4 (.p 4 0)) 3 (.p 3 0)), (upd (upd (upd (upd (upd (upd (upd (upd (upd (upd Sx.h0 10961 (some (.arr false 37 4 (rowsBy Ed.c f)))) 10960 (some (.arr false 42 5 (rowsBy Vx.c (m.map (insV w y bigB)))))) 10193 (some (.arr true 37 4 (rowsBy Ed.c es)))) 10192 (some (.arr true 42 5 (rowsBy Vx.c l)))) 15 (some (.var false [(.s 10960 0 m.length), (.s 10961 0 f.length)]))) 10 (some (.var false [(.v (.int .i64 (w.s))), (.v (.int .i64 (w.n)))]))) 8 (some (.var false [(.v (.int .i64 (v.s))), (.v (.int .i64 (v.n)))]))) 5 (some (.var false [(.v (.int .i64 (y.e.s))), (.v (.int .i64 (y.e.n))), (.v (.int .i64 (y.d)))]))) 4 (some (.var false [(.v (.int .i64 (x.e.s))), (.v (.int .i64 (x.e.n))), (.v (.int .i64 (x.d)))]))) 3 (some (.var false [(.s 10192 0 l.length), (.s 10193 0 es.length)])))⟩ : St)) := by
  have hw : m.length ≤ 9223372036854775807 := by omega
  have l1 : E (cs F) 0 f5_l2 (⟨(upd (upd (upd (upd (upd (upd (upd (upd (upd Sx.e0 17 (.v (.int .i64 (0)))) 15 (.p 15 0)) 12 (.p 12 0)) 10 (.p 10 0)) 8 (.p 8 0)) 7 (.v (.bool (true)))) 5 (.p 5 0)) 4 (.p 4 0)) 3 (.p 3 0)), (upd (upd (upd (upd (upd (upd (upd (upd (upd (upd (upd Sx.h0 10961 (some (.arr false 37 4 (rowsBy Ed.c f)))) 10960 (some (.arr false 42 5 (rowsBy Vx.c (mixF (insV w y bigB) m 0))))) 10193 (some (.arr true 37 4 (rowsBy Ed.c es)))) 10192 (some (.arr true 42 5 (rowsBy Vx.c l)))) 15 (some (.var false [(.s 10960 0 m.length), (.s 10961 0 f.length)]))) 12 (some (.var false [(.v (.int .i64 (8))), (.v (.int .i64 (1048576)))]))) 10 (some (.var false [(.v (.int .i64 (w.s))), (.v (.int .i64 (w.n)))]))) 8 (some (.var false [(.v (.int .i64 (v.s))), (.v (.int .i64 (v.n)))]))) 5 (some (.var false [(.v (.int .i64 (y.e.s))), (.v (.int .i64 (y.e.n))), (.v (.int .i64 (y.d)))]))) 4 (some (.var false [(.v (.int .i64 (x.e.s))), (.v (.int .i64 (x.e.n))), (.v (.int .i64 (x.d)))]))) 3 (some (.var false [(.s 10192 0 l.length), (.s 10193 0 es.length)])))⟩ : St) = some (.exit 2, (⟨(upd (upd (upd (upd (upd (upd (upd Sx.e0 15 (.p 15 0)) 10 (.p 10 0)) 8 (.p 8 0)) 7 (.v (.bool (true)))) 5 (.p 5 0)) 4 (.p 4 0)) 3 (.p 3 0)), (upd (upd (upd (upd (upd (upd (upd (upd (upd (upd Sx.h0 10961 (some (.arr false 37 4 (rowsBy Ed.c f)))) 10960 (some (.arr false 42 5 (rowsBy Vx.c (m.map (insV w y bigB)))))) 10193 (some (.arr true 37 4 (rowsBy Ed.c es)))) 10192 (some (.arr true 42 5 (rowsBy Vx.c l)))) 15 (some (.var false [(.s 10960 0 m.length), (.s 10961 0 f.length)]))) 10 (some (.var false [(.v (.int .i64 (w.s))), (.v (.int .i64 (w.n)))]))) 8 (some (.var false [(.v (.int .i64 (v.s))), (.v (.int .i64 (v.n)))]))) 5 (some (.var false [(.v (.int .i64 (y.e.s))), (.v (.int .i64 (y.e.n))), (.v (.int .i64 (y.d)))]))) 4 (some (.var false [(.v (.int .i64 (x.e.s))), (.v (.int .i64 (x.e.n))), (.v (.int .i64 (x.d)))]))) 3 (some (.var false [(.s 10192 0 l.length), (.s 10193 0 es.length)])))⟩ : St)) := by
    refine loop_to (b := f5_b2) (fun q0 => (⟨(upd (upd (upd (upd (upd (upd (upd (upd (upd Sx.e0 17 (.v (.int .i64 ((q0 : Int))))) 15 (.p 15 0)) 12 (.p 12 0)) 10 (.p 10 0)) 8 (.p 8 0)) 7 (.v (.bool (true)))) 5 (.p 5 0)) 4 (.p 4 0)) 3 (.p 3 0)), (upd (upd (upd (upd (upd (upd (upd (upd (upd (upd (upd Sx.h0 10961 (some (.arr false 37 4 (rowsBy Ed.c f)))) 10960 (some (.arr false 42 5 (rowsBy Vx.c (mixF (insV w y bigB) m q0))))) 10193 (some (.arr true 37 4 (rowsBy Ed.c es)))) 10192 (some (.arr true 42 5 (rowsBy Vx.c l)))) 15 (some (.var false [(.s 10960 0 m.length), (.s 10961 0 f.length)]))) 12 (some (.var false [(.v (.int .i64 (8))), (.v (.int .i64 (1048576)))]))) 10 (some (.var false [(.v (.int .i64 (w.s))), (.v (.int .i64 (w.n)))]))) 8 (some (.var false [(.v (.int .i64 (v.s))), (.v (.int .i64 (v.n)))]))) 5 (some (.var false [(.v (.int .i64 (y.e.s))), (.v (.int .i64 (y.e.n))), (.v (.int .i64 (y.d)))]))) 4 (some (.var false [(.v (.int .i64 (x.e.s))), (.v (.int .i64 (x.e.n))), (.v (.int .i64 (x.d)))]))) 3 (some (.var false [(.s 10192 0 l.length), (.s 10193 0 es.length)])))⟩ : St)) (m.length) ?_ ?_ (by simp)
    · intro i hi
      have hiz : (i : Int) < (m.length : Int) := by omega
      have hg := mixF_row (g := (insV w y bigB)) hi
      have hrl := hr _ (List.getElem_mem hi)
      have ci := i_r03_Insert m[i].ring y ⟨bigI, 1⟩ (by omega)
      by_cases he : m[i].id = w
      · have hs := mixF_rowset (g := (insV w y bigB)) hi
        rw [insV_pos he] at hs
        simp only [Vx.c, reR] at hs
        have hd := dec_t he
        simp only [bigI, bigB] at ci hs hg ⊢
        generalize insR m[i].ring _ _ = r at *
        simp only [f5_b2, hiz, rowsBy_length, hg, Vx.c, ci, hs, hd, wrap_succ hi hw, List.set_cons_zero, List.set_cons_succ, go_sem, reduceIte, Nat.reduceEqDiff, Nat.reduceAdd, Nat.reduceMul, Nat.reduceLeDiff, Nat.reduceBEq, List.length_cons, List.length_nil, not_false_eq_true, Nat.testBit, Nat.reduceShiftRight, Nat.reduceAnd, Nat.reduceBNe]
      · have hd := dec_f he
        rw [mixF_same hi (insV_neg he _ _)]
        simp only [f5_b2, hiz, hg, Vx.c, hd, wrap_succ hi hw, go_sem, reduceIte, Nat.reduceEqDiff, Nat.reduceAdd, Nat.reduceLeDiff, List.length_cons, List.length_nil, Nat.testBit, Nat.reduceShiftRight, Nat.reduceAnd, Nat.reduceBNe]
    · rw [mixF_all]
      simp only [f5_b2, dec_ge (Nat.le_refl m.length), go_sem, reduceIte, Nat.reduceEqDiff, Nat.reduceAdd, Nat.reduceLeDiff, List.length_cons, List.length_nil]
  exact l1
set_option maxHeartbeats 1000000 in
theorem t_edge_main {l : List Vx} {es : List Ed} (h : WF l es) (x y : Dart) (v w : Vx) (hv : atBy l x = some v) (hw : atBy l y = some w) (hb : edBy es bigI = none) (hlt : es.length < 40) (hxy : x ≠ y) {DD : TV}
    (cw : call F 11 [DD] = some (.agg [.sl (.own 42) 5 (rowsBy Vx.c l), .sl (.own 37) 4 (rowsBy Ed.c es)])) (hDD : ∃ a b : List (List TV), DD = .agg [.sl .shared 5 a, .sl .shared 4 b])
    (cf : call F 12 [.agg [.sl .shared 5 (rowsBy Vx.c l), .sl .shared 4 (rowsBy Ed.c es)]] = some (.int .i64 0))
    (c1 : call F 17 [.agg [.sl .shared 5 (rowsBy Vx.c l), .sl .shared 4 (rowsBy Ed.c es)], .agg [.int .i64 x.e.s, .int .i64 x.e.n, .int .i64 x.d]] = some (atT (some v)))
    (c2 : call F 17 [.agg [.sl .shared 5 (rowsBy Vx.c l), .sl .shared 4 (rowsBy Ed.c es)], .agg [.int .i64 y.e.s, .int .i64 y.e.n, .int .i64 y.d]] = some (atT (some w)))
    (c3 : call F 18 [.agg [.sl .shared 5 (rowsBy Vx.c l), .sl .shared 4 (rowsBy Ed.c es)], .agg [.int .i64 8, .int .i64 1048576]] = some (edT none)) : call F 5 [DD, .agg [.int .i64 x.e.s, .int .i64 x.e.n, .int .i64 x.d], .agg [.int .i64 y.e.s, .int .i64 y.e.n, .int .i64 y.d]] = some (.bool true) := by
  have csh := c_shown
  obtain ⟨aa, bb, rfl⟩ := hDD
  obtain ⟨hvl, hxv⟩ := atBy_some hv
  obtain ⟨hwl, hyw⟩ := atBy_some hw
  have hn : bigI ∉ es.map Ed.id := edBy_none hb
  have hx := mem_allR hvl hxv
  have hy := mem_allR hwl hyw
  have hM := more_wf h hn hlt hvl hwl x y
  have hlv := h.lv
  have c4 := i_r04_Clone l es (by omega) (by omega) h.fitsR
  have l1 := ins_l1 l l es (es ++ [bigE]) x y v.id w.id h.lv (fun u hu => by have := h.ring80 hu; omega)
  have l2 := ins_l2 l (l.map (insV v.id x bigA)) es (es ++ [bigE]) x y v.id w.id (by rw [List.length_map]; exact h.lv) (fun u hu => by
    obtain ⟨u0, hu0, rfl⟩ := List.mem_map.1 hu
    have h1 := h.ring80 hu0
    have h2 := insV_le (id := v.id) (z := x) (a := bigA) (v := u0)
    omega)
  rw [show (l.map (insV v.id x bigA)).map (insV w.id y bigB) = moreV l v.id w.id x y from rfl] at l2
  have c5 := c_r01_Other x (h.side hx)
  have c6 := c_r01_Other y (h.side hy)
  have c7 := i_r05_Trace h (othD x)
  rw [trT, if_pos (h.pr.oth x hx)] at c7
  have htf := trT_fits h (othD x)
  rw [trT, if_pos (h.pr.oth x hx)] at htf
  have c8 := i_r03_Index (trD l (othD x)) (othD y) (Fits.of (by omega))
  have c8b := idx_ge0 (trD l (othD x)) (othD y)
  have c9 := i_r06_Together h v.id w.id
  have g1 := i_euler_Genus h
  have g2 := i_euler_Genus hM
  have hgen := more_gen h hn hlt hvl hwl hxv hyw hxy
  have hgs := h.gen
  have hss := h.small
  have hlen : (l.map (insV v.id x bigA)).length = l.length := List.length_map _
  have hMl : (moreV l v.id w.id x y).length = l.length := by simp [moreV]
  have hlm : (moreV l v.id w.id x y).take l.length = moreV l v.id w.id x y := List.take_of_length_le (by omega)
  have k1 : decide ((es.length : Int) ≥ 40) = false := dec_f (by omega)
  have k2 := dec_f hxy
  have k3 : (es.length + 1) * 40 ≤ 140737488355328 := by omega
  have k4 : rowsBy Ed.c es ++ [[.int .i64 8, .int .i64 1048576, .str ⟨#[]⟩, .int .i64 0]] = rowsBy Ed.c (es ++ [bigE]) := rowsBy_snoc Ed.c es bigE
  have k5 : (es ++ [bigE]).length = es.length + 1 := by simp
  have k6 : (es ++ [bigE]).take (es.length + 1) = es ++ [bigE] := List.take_of_length_le (by simp)
  rw [hlen] at l2
  rw [k5] at l1 l2
  have w1 : IntKind.i64.wrap ((gN l es : Int) + 1) = (gN l es : Int) + 1 := wrap64 (by omega) (by omega)
  generalize gN (moreV l v.id w.id x y) (es ++ [bigE]) = gM at *
  generalize gN l es = g at *
  generalize moreV l v.id w.id x y = M at *
  generalize l.map (insV v.id x bigA) = m1 at *
  generalize es ++ [bigE] = e1 at *
  generalize trD l (othD x) = tr at *
  generalize togB l v.id w.id = tb at *
  generalize idx tr (othD y) = ix at *
  simp only [atT, idT, edT, othD] at c1 c2 c3 c5 c6 c7 c8
  by_cases hin : othD y ∈ tr
  · rw [dec_t hin] at c8b
    rw [if_neg (fun k => k.1 hin)] at hgen
    have d1 : decide ((gM : Int) = (g : Int)) = true := dec_t (by omega)
    rw [call_code F (show F 5 = some (.code f5) from rfl)]
    simp only [f5, csh, cw, cf, c1, c2, c3, c4, c5, c6, c7, c8, c8b, c9, g1, g2, l1, l2, k1, k2, k3, k4, k6, d1, hlm, rowsBy_takeAll, go_sem, reduceIte, reduceCtorEq, Nat.reduceEqDiff, Nat.reduceAdd, Nat.reduceMul, Nat.reduceLeDiff, Nat.reduceBEq, List.length_cons, List.length_nil, ne_eq, not_true_eq_false, Nat.testBit, Nat.reduceShiftRight, Nat.reduceAnd, Nat.reduceBNe]
  · rw [dec_f hin] at c8b
    cases tb with
    | true =>
      rw [if_pos ⟨hin, rfl⟩] at hgen
      have d1 : decide ((gM : Int) = (g : Int) + 1) = true := dec_t (by omega)
      rw [call_code F (show F 5 = some (.code f5) from rfl)]
      simp only [f5, csh, cw, cf, c1, c2, c3, c4, c5, c6, c7, c8, c8b, c9, g1, g2, l1, l2, k1, k2, k3, k4, k6, d1, w1, hlm, rowsBy_takeAll, go_sem, reduceIte, reduceCtorEq, Nat.reduceEqDiff, Nat.reduceAdd, Nat.reduceMul, Nat.reduceLeDiff, Nat.reduceBEq, List.length_cons, List.length_nil, ne_eq, not_true_eq_false, Nat.testBit, Nat.reduceShiftRight, Nat.reduceAnd, Nat.reduceBNe]
    | false =>
      rw [if_neg (by simp)] at hgen
      have d1 : decide ((gM : Int) = (g : Int)) = true := dec_t (by omega)
      rw [call_code F (show F 5 = some (.code f5) from rfl)]
      simp only [f5, csh, cw, cf, c1, c2, c3, c4, c5, c6, c7, c8, c8b, c9, g1, g2, l1, l2, k1, k2, k3, k4, k6, d1, hlm, rowsBy_takeAll, go_sem, reduceIte, reduceCtorEq, Nat.reduceEqDiff, Nat.reduceAdd, Nat.reduceMul, Nat.reduceLeDiff, Nat.reduceBEq, List.length_cons, List.length_nil, ne_eq, not_true_eq_false, Nat.testBit, Nat.reduceShiftRight, Nat.reduceAnd, Nat.reduceBNe]
set_option maxHeartbeats 4000000 in
theorem t_edge (vs : List Vx) (es0 : List Ed) (x y : Dart) (hL0 : FitsL vs es0) : call F 5 [.agg [.sl .shared 5 (rowsBy Vx.c vs), .sl .shared 4 (rowsBy Ed.c es0)], .agg [.int .i64 x.e.s, .int .i64 x.e.n, .int .i64 x.d], .agg [.int .i64 y.e.s, .int .i64 y.e.n, .int .i64 y.d]] = some (.bool true) := by
  have csh := c_shown
  have cw := c_few vs es0
  have hr := fewVx_fits 26 82 (by decide) vs
  have hL := few_fitsL vs es0 26 82 42 hL0
  have hl : Fits (fewVx 26 82 vs) := Fits.of (Nat.le_trans (fewVx_len 26 82 vs) (by decide))
  have he : Fits (es0.take 42) := Fits.of (by rw [List.length_take]; omega)
  generalize fewVx 26 82 vs = l at *
  generalize es0.take 42 = es at *
  have cf := i_r04_Form l es hr hL
  have c1 := i_r04_At l x hl hr (.sl .shared 4 (rowsBy Ed.c es))
  have c2 := i_r04_At l y hl hr (.sl .shared 4 (rowsBy Ed.c es))
  have c3 := i_r04_Edge es bigI he l
  by_cases hf : formC l es = 0
  · have h := (formC_ok.1 hf).1
    rw [hf] at cf
    by_cases hg : 40 ≤ es.length
    · have k := dec_t (show (es.length : Int) ≥ 40 by omega)
      cases hv : atBy l x <;> cases hw : atBy l y <;> cases hb : edBy es bigI <;> rw [hv] at c1 <;> rw [hw] at c2 <;> rw [hb] at c3 <;> simp only [atT, idT, edT, bigI] at c1 c2 c3
      all_goals rw [call_code F (show F 5 = some (.code f5) from rfl)]
      all_goals simp only [f5, csh, cw, cf, c1, c2, c3, k, rowsBy_takeAll, go_sem, reduceIte, reduceCtorEq, Nat.reduceEqDiff, Nat.reduceAdd, Nat.reduceMul, Nat.reduceLeDiff, List.length_cons, List.length_nil, ne_eq, not_true_eq_false]
    · have k := dec_f (show ¬ (es.length : Int) ≥ 40 by omega)
      by_cases hxy : x = y
      · have kx := dec_t hxy
        cases hv : atBy l x <;> cases hw : atBy l y <;> cases hb : edBy es bigI <;> rw [hv] at c1 <;> rw [hw] at c2 <;> rw [hb] at c3 <;> simp only [atT, idT, edT, bigI] at c1 c2 c3
        all_goals rw [call_code F (show F 5 = some (.code f5) from rfl)]
        all_goals simp only [f5, csh, cw, cf, c1, c2, c3, k, kx, rowsBy_takeAll, go_sem, reduceIte, reduceCtorEq, Nat.reduceEqDiff, Nat.reduceAdd, Nat.reduceMul, Nat.reduceLeDiff, List.length_cons, List.length_nil, ne_eq, not_true_eq_false]
      · cases hv : atBy l x <;> cases hw : atBy l y <;> cases hb : edBy es bigI <;> rw [hv] at c1 <;> rw [hw] at c2 <;> rw [hb] at c3
        case some.some.none v w => exact t_edge_main h x y v w hv hw hb (by omega) hxy cw ⟨_, _, rfl⟩ cf c1 c2 c3
        all_goals simp only [atT, idT, edT, bigI] at c1 c2 c3
        all_goals rw [call_code F (show F 5 = some (.code f5) from rfl)]
        all_goals simp only [f5, csh, cw, cf, c1, c2, c3, rowsBy_takeAll, go_sem, reduceIte, reduceCtorEq, Nat.reduceEqDiff, Nat.reduceAdd, Nat.reduceMul, Nat.reduceLeDiff, List.length_cons, List.length_nil, ne_eq, not_true_eq_false]
  · have hd := dec_t hf
    generalize formC l es = c at *
    cases hv : atBy l x <;> cases hw : atBy l y <;> cases hb : edBy es bigI <;> rw [hv] at c1 <;> rw [hw] at c2 <;> rw [hb] at c3 <;> simp only [atT, idT, edT, bigI] at c1 c2 c3
    all_goals rw [call_code F (show F 5 = some (.code f5) from rfl)]
    all_goals simp only [f5, csh, cw, cf, c1, c2, c3, hd, rowsBy_takeAll, go_sem, reduceIte, reduceCtorEq, Nat.reduceEqDiff, Nat.reduceAdd, Nat.reduceMul, Nat.reduceLeDiff, List.length_cons, List.length_nil, ne_eq]
end Go.Proofs.Ytonhkmpjpnjkfaa.Sx
namespace Go.Proofs.Ytonhkmpjpnjkfaa.Sx
open Go Go.RowKit Go.ChangeShapes Go.WideShapes Go.ChangeAt
set_option maxRecDepth 100000
theorem agg_of {t : TypeId} {n : Nat} {a : TV} (hagg : isAggB Try.prog t = true) (h : ArgShape Try.prog n t a) : ∃ ts, a = .agg ts ∧ Shape Try.prog n t ts := by
  unfold ArgShape at h; rw [if_pos hagg] at h; exact h
theorem own : ownKnob Try.prog.godebug = none := by kernel_rfl
theorem laidOut : laidOutB Try.prog = true := by kernel_rfl
/-- rows that are each of a form are a list's -/
theorem rows_list {α : Type} {c : α → List TV} {S : List TV → Prop} {Q : α → Prop} (h : ∀ ts, S ts → ∃ x, ts = c x ∧ Q x) : ∀ {rows : List (List TV)}, (∀ r ∈ rows, S r) → ∃ l : List α, rows = rowsBy c l ∧ ∀ x ∈ l, Q x
  | [], _ => ⟨[], rfl, by simp⟩
  | r :: rows, hr => by
    obtain ⟨x, rfl, hx⟩ := h r (hr r (by simp))
    obtain ⟨l, rfl, hl⟩ := rows_list h (rows := rows) fun q hq => hr q (by simp [hq])
    refine ⟨x :: l, rfl, fun y hy => ?_⟩
    rcases List.mem_cons.1 hy with rfl | hy
    · exact hx
    · exact hl y hy
theorem shInt {n : Nat} {ts : List TV} (h : Shape Try.prog (n + 1) 3 ts) : ∃ a, ts = [.int .i64 a] ∧ IntKind.i64.has a := by
  unfold Shape at h; rw [Try.underlying3] at h; exact h
theorem shStr {n : Nat} {ts : List TV} (h : Shape Try.prog (n + 1) 9 ts) : ∃ a : ByteArray, ts = [.str a] ∧ a.size ≤ 140737488351232 := by
  unfold Shape at h; rw [Try.underlying9] at h
  obtain ⟨a, rfl, _, ha⟩ := h; exact ⟨a, rfl, ha⟩
theorem shID {n : Nat} {ts : List TV} (h : Shape Try.prog (n + 2) 35 ts) : ∃ x : ID, ts = ID.c x := by
  unfold Shape at h; rw [Try.underlying35] at h
  obtain ⟨x, r, rfl, h1, y, r', rfl, h2, rfl⟩ := h
  obtain ⟨a, rfl, ha⟩ := shInt h1
  obtain ⟨b, rfl, hb⟩ := shInt h2
  exact ⟨⟨a, b⟩, rfl⟩
theorem shDart {n : Nat} {ts : List TV} (h : Shape Try.prog (n + 3) 39 ts) : ∃ x : Dart, ts = Dart.c x := by
  unfold Shape at h; rw [Try.underlying39] at h
  obtain ⟨x, r, rfl, h1, y, r', rfl, h2, rfl⟩ := h
  obtain ⟨e, rfl⟩ := shID h1
  obtain ⟨c, rfl, _⟩ := shInt h2
  exact ⟨⟨e, c⟩, rfl⟩
theorem shDarts {n : Nat} {ts : List TV} (h : Shape Try.prog (n + 4) 40 ts) : ∃ l : List Dart, ts = [.sl .shared 3 (rowsBy Dart.c l)] ∧ Fits l := by
  unfold Shape at h; rw [Try.underlying40] at h
  obtain ⟨rows, rfl, ⟨_, hb⟩, hr⟩ := h
  obtain ⟨l, rfl, _⟩ := rows_list (c := Dart.c) (Q := fun _ => True) (fun ts h => (shDart h).imp fun _ h => ⟨h, trivial⟩) hr
  refine ⟨l, rfl, Fits.of ?_⟩
  rw [rowsBy_length, show Try.prog.bytesOf 39 = 24 by kernel_rfl] at hb
  simp only [reachBytes] at hb
  omega
def VxOk (v : Vx) : Prop := Fits v.ring ∧ v.label.size ≤ 9223372036854775807
def EdOk (v : Ed) : Prop := v.label.size ≤ 9223372036854775807
theorem shVx {n : Nat} {ts : List TV} (h : Shape Try.prog (n + 5) 42 ts) : ∃ x : Vx, ts = Vx.c x ∧ VxOk x := by
  unfold Shape at h; rw [Try.underlying42] at h
  obtain ⟨x, r, rfl, h1, y, r', rfl, h2, z, r'', rfl, h3, u, r3, rfl, h4, rfl⟩ := h
  obtain ⟨e, rfl⟩ := shID h1
  obtain ⟨l, rfl, hl⟩ := shDarts h2
  obtain ⟨s, rfl, hs⟩ := shStr h3
  obtain ⟨c, rfl, _⟩ := shInt h4
  exact ⟨⟨e, l, s, c⟩, rfl, hl, Nat.le_trans hs (by decide)⟩
theorem shEd {n : Nat} {ts : List TV} (h : Shape Try.prog (n + 3) 37 ts) : ∃ x : Ed, ts = Ed.c x ∧ EdOk x := by
  unfold Shape at h; rw [Try.underlying37] at h
  obtain ⟨x, r, rfl, h1, z, r'', rfl, h3, u, r3, rfl, h4, rfl⟩ := h
  obtain ⟨e, rfl⟩ := shID h1
  obtain ⟨s, rfl, hs⟩ := shStr h3
  obtain ⟨c, rfl, _⟩ := shInt h4
  exact ⟨⟨e, s, c⟩, rfl, Nat.le_trans hs (by decide)⟩
theorem shVxs {n : Nat} {ts : List TV} (h : Shape Try.prog (n + 6) 22 ts) : ∃ l : List Vx, ts = [.sl .shared 5 (rowsBy Vx.c l)] ∧ ∀ v ∈ l, VxOk v := by
  unfold Shape at h; rw [Try.underlying22] at h
  obtain ⟨rows, rfl, _, hr⟩ := h
  obtain ⟨l, rfl, hl⟩ := rows_list (c := Vx.c) (fun ts h => shVx h) hr
  exact ⟨l, rfl, hl⟩
theorem shEds {n : Nat} {ts : List TV} (h : Shape Try.prog (n + 4) 23 ts) : ∃ l : List Ed, ts = [.sl .shared 4 (rowsBy Ed.c l)] ∧ ∀ v ∈ l, EdOk v := by
  unfold Shape at h; rw [Try.underlying23] at h
  obtain ⟨rows, rfl, _, hr⟩ := h
  obtain ⟨l, rfl, hl⟩ := rows_list (c := Ed.c) (fun ts h => shEd h) hr
  exact ⟨l, rfl, hl⟩
theorem shDiagram {n : Nat} {ts : List TV} (h : Shape Try.prog (n + 7) 25 ts) : ∃ (vs : List Vx) (es : List Ed), ts = [.sl .shared 5 (rowsBy Vx.c vs), .sl .shared 4 (rowsBy Ed.c es)] ∧ FitsR vs ∧ FitsL vs es := by
  unfold Shape at h; rw [Try.underlying25] at h
  obtain ⟨x, r, rfl, h1, z, r'', rfl, h3, rfl⟩ := h
  obtain ⟨d, rfl, hd⟩ := shVxs h1
  obtain ⟨e, rfl, he⟩ := shEds h3
  exact ⟨d, e, rfl, fun v hv => (hd v hv).1, fun v hv => (hd v hv).2, he⟩
end Go.Proofs.Ytonhkmpjpnjkfaa.Sx
