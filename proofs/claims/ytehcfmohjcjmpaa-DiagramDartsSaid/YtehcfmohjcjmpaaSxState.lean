/- Vertices, edges, darts that are gone: what is found there. -/
import Derived.Test.YtehcfmohjcjmpaaSxRing
namespace Go.Proofs.Ytehcfmohjcjmpaa.Sx
open Go
structure Vx where
  id : ID
  ring : List Dart
  label : ByteArray
  attr : Int
deriving DecidableEq
structure Ed where
  id : ID
  label : ByteArray
  attr : Int
deriving DecidableEq
structure Gn where
  d : Dart
  to : Dart
deriving DecidableEq
def Vx.c (v : Vx) : List TV := [.int .i64 v.id.s, .int .i64 v.id.n, .sl .shared 3 (rowsBy Dart.c v.ring), .str v.label, .int .i64 v.attr]
def Ed.c (v : Ed) : List TV := [.int .i64 v.id.s, .int .i64 v.id.n, .str v.label, .int .i64 v.attr]
def Gn.c (g : Gn) : List TV := [.int .i64 g.d.e.s, .int .i64 g.d.e.n, .int .i64 g.d.d, .int .i64 g.to.e.s, .int .i64 g.to.e.n, .int .i64 g.to.d]
/-- the first that is so -/
def firstBy {α : Type} (p : α → Bool) (l : List α) : Option α := l[l.findIdx p]?
theorem firstBy_none {α : Type} {p : α → Bool} {l : List α} (h : l.findIdx p = l.length) : firstBy p l = none := by
  unfold firstBy; rw [h]; simp
theorem firstBy_some {α : Type} {p : α → Bool} {l : List α} (h : l.findIdx p < l.length) : firstBy p l = some l[l.findIdx p] := by
  unfold firstBy; rw [List.getElem?_eq_getElem h]
theorem findIdx_cases {α : Type} (p : α → Bool) (l : List α) : l.findIdx p = l.length ∨ ∃ h : l.findIdx p < l.length, p l[l.findIdx p] = true := by
  rcases Nat.lt_or_ge (l.findIdx p) l.length with h | h
  · exact .inr ⟨h, List.findIdx_getElem⟩
  · exact .inl (Nat.le_antisymm List.findIdx_le_length h)
theorem findIdx_not {α : Type} {p : α → Bool} {l : List α} {i : Nat} (h : i < l.findIdx p) (hi : i < l.length) : p l[i] = false := by
  have := List.not_of_lt_findIdx h; simpa using this
theorem firstBy_mem {α : Type} {p : α → Bool} {l : List α} {x : α} (h : firstBy p l = some x) : x ∈ l ∧ p x = true := by
  rcases findIdx_cases p l with h0 | ⟨h1, h2⟩
  · rw [firstBy_none h0] at h; cases h
  · rw [firstBy_some h1] at h
    obtain rfl := Option.some.inj h
    exact ⟨List.getElem_mem _, h2⟩
theorem firstBy_no {α : Type} {p : α → Bool} {l : List α} (h : firstBy p l = none) : ∀ x ∈ l, p x = false := by
  rcases findIdx_cases p l with h0 | ⟨h1, h2⟩
  · intro x hx
    obtain ⟨i, hi, rfl⟩ := List.mem_iff_getElem.1 hx
    exact findIdx_not (by omega) hi
  · rw [firstBy_some h1] at h; cases h
/-- which vertex, which dart's vertex, where one that is gone went -/
def vxBy (l : List Vx) (x : ID) : Option Vx := firstBy (fun v => decide (v.id = x)) l
def atBy (l : List Vx) (d : Dart) : Option Vx := firstBy (fun v => decide (d ∈ v.ring)) l
def gnBy (l : List Gn) (d : Dart) : Option Gn := firstBy (fun g => decide (g.d = d)) l
def idT (x : ID) : TV := .agg [.int .i64 x.s, .int .i64 x.n]
def atT : Option Vx → TV
  | some v => .tup [idT v.id, .bool true]
  | none => .tup [idT ⟨0, 0⟩, .bool false]
def gnT : Option Gn → TV
  | some g => .tup [dartT g.to, .bool true]
  | none => .tup [dartT Dart0, .bool false]
def FitsR (l : List Vx) : Prop := ∀ v ∈ l, Fits v.ring
theorem i_vertexID (v : Vx) : call F 36 [.agg [.int .i64 v.id.s, .int .i64 v.id.n, .sl .shared 3 (rowsBy Dart.c v.ring), .str v.label, .int .i64 v.attr]] = some (.agg [.int .i64 v.id.s, .int .i64 v.id.n]) := by
  rw [call_code F (show F 36 = some (.code f36) from rfl)]
  simp only [f36, go_sem, reduceIte, reduceCtorEq, Nat.reduceEqDiff, Nat.reduceAdd, Nat.reduceLeDiff, List.length_cons, List.length_nil]
def vxT (fl : Fl) : Option Vx → TV
  | some v => .tup [.agg [.int .i64 v.id.s, .int .i64 v.id.n, .sl fl 3 (rowsBy Dart.c v.ring), .str v.label, .int .i64 v.attr], .bool true]
  | none => .tup [.agg [.int .i64 0, .int .i64 0, .sl (.own 45) 3 [], .str ⟨#[]⟩, .int .i64 0], .bool false]
theorem i_find_Vertex (l : List Vx) (x : ID) (hl : Fits l) : call F 48 [.sl .shared 5 (rowsBy Vx.c l), .fn 36 [], .agg [.int .i64 x.s, .int .i64 x.n]] = some (vxT .shared (vxBy l x)) := by
  have hle : (l).length ≤ 5864062014634 := hl.le
  have hw : (l).length ≤ 9223372036854775807 := Nat.le_trans hle (by decide)
  have S : ∀ n, n ≤ (l).length → (∀ i, i < n → ∀ hi : i < (l).length, (fun v : Vx => decide (v.id = x)) (l)[i] = false) → ∀ r, E (call F) 0 f48_b1 (⟨(upd (upd (upd (upd (upd (upd Sx.e0 13 (.v (.int .i64 ((n : Int))))) 12 (.v (.int .i64 ((l.length : Int))))) 11 (.v (.sl .shared 5 (rowsBy Vx.c l)))) 6 (.p 6 0)) 5 (.p 5 0)) 1 (.v (.fn 36 []))), (upd (upd Sx.h0 6 (some (.var false [(.v (.int .i64 (0))), (.v (.int .i64 (0))), (.v (.sl (.tight 45) 3 [])), (.v (.str ⟨#[]⟩)), (.v (.int .i64 (0)))]))) 5 (some (.var false [(.v (.int .i64 (x.s))), (.v (.int .i64 (x.n)))])))⟩ : St) = some r → r.1 ≠ .norm →
      E (call F) 0 f48_l1 (⟨(upd (upd (upd (upd (upd (upd Sx.e0 13 (.v (.int .i64 (0)))) 12 (.v (.int .i64 ((l.length : Int))))) 11 (.v (.sl .shared 5 (rowsBy Vx.c l)))) 6 (.p 6 0)) 5 (.p 5 0)) 1 (.v (.fn 36 []))), (upd (upd Sx.h0 6 (some (.var false [(.v (.int .i64 (0))), (.v (.int .i64 (0))), (.v (.sl (.tight 45) 3 [])), (.v (.str ⟨#[]⟩)), (.v (.int .i64 (0)))]))) 5 (some (.var false [(.v (.int .i64 (x.s))), (.v (.int .i64 (x.n)))])))⟩ : St) = some r := by
    intro n hn hno r hf hrr
    refine loop_to (b := f48_b1) (fun i => (⟨(upd (upd (upd (upd (upd (upd Sx.e0 13 (.v (.int .i64 ((i : Int))))) 12 (.v (.int .i64 ((l.length : Int))))) 11 (.v (.sl .shared 5 (rowsBy Vx.c l)))) 6 (.p 6 0)) 5 (.p 5 0)) 1 (.v (.fn 36 []))), (upd (upd Sx.h0 6 (some (.var false [(.v (.int .i64 (0))), (.v (.int .i64 (0))), (.v (.sl (.tight 45) 3 [])), (.v (.str ⟨#[]⟩)), (.v (.int .i64 (0)))]))) 5 (some (.var false [(.v (.int .i64 (x.s))), (.v (.int .i64 (x.n)))])))⟩ : St)) n ?_ hf hrr
    intro i hi
    have h1 : i < (l).length := Nat.lt_of_lt_of_le hi hn
    have h1z : (i : Int) < ((l).length : Int) := Int.ofNat_lt.2 h1
    have hne := hno i hi h1
    have hne' : ¬ l[i].id = x := of_decide_eq_false hne
    have hq1 := dec_f hne'
    have hq2 := dec_f (Ne.symm hne')
    have hv := i_vertexID l[i]
    simp only [f48_b1, h1z, rowsBy_get Vx.c h1, Vx.c, hv, hq1, wrap_succ h1 hw, go_sem, reduceIte, Nat.reduceEqDiff, Nat.reduceAdd, Nat.reduceMul, Nat.reduceLeDiff, List.length_cons, List.length_nil, Nat.testBit, Nat.reduceShiftRight, Nat.reduceAnd, Nat.reduceBNe]
  have S := S ((l).findIdx (fun v : Vx => decide (v.id = x))) List.findIdx_le_length (fun i h1 h2 => findIdx_not h1 h2)
  rcases findIdx_cases (fun v : Vx => decide (v.id = x)) (l) with h0 | ⟨hlt, hp⟩
  · rw [h0] at S
    have := S _ (by simp only [f48_b1, dec_ge (Nat.le_refl (l).length), go_sem, reduceIte, Nat.reduceEqDiff]
                    rfl) (by simp)
    rw [vxBy, firstBy_none h0, vxT]
    rw [call_code F (show F 48 = some (.code f48) from rfl)]
    simp only [f48, this, go_sem, reduceIte, reduceCtorEq, Nat.reduceEqDiff, Nat.reduceAdd, List.length_cons, List.length_nil]
  · rw [vxBy, firstBy_some hlt, vxT]
    generalize (l).findIdx (fun v : Vx => decide (v.id = x)) = n at *
    have hltz : (n : Int) < ((l).length : Int) := Int.ofNat_lt.2 hlt
    have hp' : l[n].id = x := of_decide_eq_true hp
    have hv := i_vertexID l[n]
    have hq1 := dec_t hp'
    have hq2 := dec_t hp'.symm
    have := S _ (by simp only [f48_b1, hltz, rowsBy_get Vx.c hlt, Vx.c, hv, hq1, go_sem, reduceIte, Nat.reduceEqDiff, Nat.reduceAdd, Nat.reduceMul, Nat.reduceLeDiff, List.length_cons, List.length_nil, Nat.testBit, Nat.reduceShiftRight, Nat.reduceAnd, Nat.reduceBNe]
                    rfl) (by simp)
    rw [call_code F (show F 48 = some (.code f48) from rfl)]
    simp only [f48, this, go_sem, reduceIte, reduceCtorEq, Nat.reduceEqDiff, Nat.reduceAdd, List.length_cons, List.length_nil]
theorem c_Clone_Dart (fl : Fl) (rows : List (List TV)) (h : rows.length * 24 ≤ 140737488355328) : call F 47 [.sl fl 3 rows] = some (.sl (.own 45) 3 rows) := by
  rw [call_ext F (show F 47 = some (.ext (cloneG 45 3 24)) from rfl)]
  simp [cloneG, h]
theorem i_At (l : List Vx) (d : Dart) (hl : Fits l) (hr : FitsR l) (es : TV) : call F 22 [.agg [.sl .shared 5 (rowsBy Vx.c l), es], .agg [.int .i64 d.e.s, .int .i64 d.e.n, .int .i64 d.d]] = some (atT (atBy l d)) := by
  have hle : (l).length ≤ 5864062014634 := hl.le
  have hw : (l).length ≤ 9223372036854775807 := Nat.le_trans hle (by decide)
  have S : ∀ n, n ≤ (l).length → (∀ i, i < n → ∀ hi : i < (l).length, (fun v : Vx => decide (d ∈ v.ring)) (l)[i] = false) → ∀ r, E (call F) 0 f22_b1 (⟨(upd (upd (upd (upd (upd Sx.e0 11 (.v (.int .i64 ((n : Int))))) 10 (.v (.int .i64 ((l.length : Int))))) 9 (.v (.sl .shared 5 (rowsBy Vx.c l)))) 4 (.p 4 0)) 3 (.p 3 0)), (upd (upd Sx.h0 4 (some (.var false [(.v (.int .i64 (0))), (.v (.int .i64 (0)))]))) 3 (some (.var false [(.v (.int .i64 (d.e.s))), (.v (.int .i64 (d.e.n))), (.v (.int .i64 (d.d)))])))⟩ : St) = some r → r.1 ≠ .norm →
      E (call F) 0 f22_l1 (⟨(upd (upd (upd (upd (upd Sx.e0 11 (.v (.int .i64 (0)))) 10 (.v (.int .i64 ((l.length : Int))))) 9 (.v (.sl .shared 5 (rowsBy Vx.c l)))) 4 (.p 4 0)) 3 (.p 3 0)), (upd (upd Sx.h0 4 (some (.var false [(.v (.int .i64 (0))), (.v (.int .i64 (0)))]))) 3 (some (.var false [(.v (.int .i64 (d.e.s))), (.v (.int .i64 (d.e.n))), (.v (.int .i64 (d.d)))])))⟩ : St) = some r := by
    intro n hn hno r hf hrr
    refine loop_to (b := f22_b1) (fun i => (⟨(upd (upd (upd (upd (upd Sx.e0 11 (.v (.int .i64 ((i : Int))))) 10 (.v (.int .i64 ((l.length : Int))))) 9 (.v (.sl .shared 5 (rowsBy Vx.c l)))) 4 (.p 4 0)) 3 (.p 3 0)), (upd (upd Sx.h0 4 (some (.var false [(.v (.int .i64 (0))), (.v (.int .i64 (0)))]))) 3 (some (.var false [(.v (.int .i64 (d.e.s))), (.v (.int .i64 (d.e.n))), (.v (.int .i64 (d.d)))])))⟩ : St)) n ?_ hf hrr
    intro i hi
    have h1 : i < (l).length := Nat.lt_of_lt_of_le hi hn
    have h1z : (i : Int) < ((l).length : Int) := Int.ofNat_lt.2 h1
    have hne := hno i hi h1
    have hv := c_Contains_Dart l[i].ring d.e.s d.e.n d.d (hr _ (List.getElem_mem h1))
    rw [show decide ((⟨⟨d.e.s, d.e.n⟩, d.d⟩ : Dart) ∈ l[i].ring) = false from hne] at hv
    simp only [f22_b1, h1z, rowsBy_get Vx.c h1, Vx.c, hv, wrap_succ h1 hw, go_sem, reduceIte, Nat.reduceEqDiff, Nat.reduceAdd, Nat.reduceMul, Nat.reduceLeDiff, List.length_cons, List.length_nil]
  have S := S ((l).findIdx (fun v : Vx => decide (d ∈ v.ring))) List.findIdx_le_length (fun i h1 h2 => findIdx_not h1 h2)
  rcases findIdx_cases (fun v : Vx => decide (d ∈ v.ring)) (l) with h0 | ⟨hlt, hp⟩
  · rw [h0] at S
    have := S _ (by simp only [f22_b1, dec_ge (Nat.le_refl (l).length), go_sem, reduceIte, Nat.reduceEqDiff]
                    rfl) (by simp)
    rw [atBy, firstBy_none h0, atT, idT]
    rw [call_code F (show F 22 = some (.code f22) from rfl)]
    simp only [f22, this, go_sem, reduceIte, reduceCtorEq, Nat.reduceEqDiff, Nat.reduceAdd, Nat.reduceLeDiff, List.length_cons, List.length_nil]
  · rw [atBy, firstBy_some hlt, atT, idT]
    generalize (l).findIdx (fun v : Vx => decide (d ∈ v.ring)) = n at *
    have hltz : (n : Int) < ((l).length : Int) := Int.ofNat_lt.2 hlt
    have hv := c_Contains_Dart l[n].ring d.e.s d.e.n d.d (hr _ (List.getElem_mem hlt))
    rw [show decide ((⟨⟨d.e.s, d.e.n⟩, d.d⟩ : Dart) ∈ l[n].ring) = true from hp] at hv
    have := S _ (by simp only [f22_b1, hltz, rowsBy_get Vx.c hlt, Vx.c, hv, go_sem, reduceIte, Nat.reduceEqDiff, Nat.reduceAdd, Nat.reduceMul, Nat.reduceLeDiff, List.length_cons, List.length_nil]
                    rfl) (by simp)
    rw [call_code F (show F 22 = some (.code f22) from rfl)]
    simp only [f22, this, go_sem, reduceIte, reduceCtorEq, Nat.reduceEqDiff, Nat.reduceAdd, Nat.reduceLeDiff, List.length_cons, List.length_nil]
theorem i_r04_At (l : List Vx) (d : Dart) (hl : Fits l) (hr : FitsR l) (es : TV) : call F 30 [.agg [.sl .shared 5 (rowsBy Vx.c l), es], .agg [.int .i64 d.e.s, .int .i64 d.e.n, .int .i64 d.d]] = some (atT (atBy l d)) := by
  have hle : (l).length ≤ 5864062014634 := hl.le
  have hw : (l).length ≤ 9223372036854775807 := Nat.le_trans hle (by decide)
  have S : ∀ n, n ≤ (l).length → (∀ i, i < n → ∀ hi : i < (l).length, (fun v : Vx => decide (d ∈ v.ring)) (l)[i] = false) → ∀ r, E (call F) 0 f30_b1 (⟨(upd (upd (upd (upd Sx.e0 6 (.v (.int .i64 ((n : Int))))) 4 (.p 4 0)) 3 (.p 3 0)) 2 (.p 2 0)), (upd (upd (upd Sx.h0 4 (some (.var false [(.v (.int .i64 (0))), (.v (.int .i64 (0)))]))) 3 (some (.var false [(.v (.int .i64 (d.e.s))), (.v (.int .i64 (d.e.n))), (.v (.int .i64 (d.d)))]))) 2 (some (.var false [(.v (.sl .shared 5 (rowsBy Vx.c l))), (.v es)])))⟩ : St) = some r → r.1 ≠ .norm →
      E (call F) 0 f30_l1 (⟨(upd (upd (upd (upd Sx.e0 6 (.v (.int .i64 (0)))) 4 (.p 4 0)) 3 (.p 3 0)) 2 (.p 2 0)), (upd (upd (upd Sx.h0 4 (some (.var false [(.v (.int .i64 (0))), (.v (.int .i64 (0)))]))) 3 (some (.var false [(.v (.int .i64 (d.e.s))), (.v (.int .i64 (d.e.n))), (.v (.int .i64 (d.d)))]))) 2 (some (.var false [(.v (.sl .shared 5 (rowsBy Vx.c l))), (.v es)])))⟩ : St) = some r := by
    intro n hn hno r hf hrr
    refine loop_to (b := f30_b1) (fun i => (⟨(upd (upd (upd (upd Sx.e0 6 (.v (.int .i64 ((i : Int))))) 4 (.p 4 0)) 3 (.p 3 0)) 2 (.p 2 0)), (upd (upd (upd Sx.h0 4 (some (.var false [(.v (.int .i64 (0))), (.v (.int .i64 (0)))]))) 3 (some (.var false [(.v (.int .i64 (d.e.s))), (.v (.int .i64 (d.e.n))), (.v (.int .i64 (d.d)))]))) 2 (some (.var false [(.v (.sl .shared 5 (rowsBy Vx.c l))), (.v es)])))⟩ : St)) n ?_ hf hrr
    intro i hi
    have h1 : i < (l).length := Nat.lt_of_lt_of_le hi hn
    have h1z : (i : Int) < ((l).length : Int) := Int.ofNat_lt.2 h1
    have hne := hno i hi h1
    have hv := i_r03_Index l[i].ring d (hr _ (List.getElem_mem h1))
    have hm : d ∉ l[i].ring := of_decide_eq_false hne
    rw [idx_neg hm] at hv
    simp only [f30_b1, h1z, rowsBy_get Vx.c h1, Vx.c, hv, wrap_succ h1 hw, go_sem, reduceIte, Nat.reduceEqDiff, Nat.reduceAdd, Nat.reduceMul, Nat.reduceLeDiff, List.length_cons, List.length_nil, Int.reduceGE, Int.reduceNeg, Nat.testBit, Nat.reduceShiftRight, Nat.reduceAnd, Nat.reduceBNe]
  have S := S ((l).findIdx (fun v : Vx => decide (d ∈ v.ring))) List.findIdx_le_length (fun i h1 h2 => findIdx_not h1 h2)
  rcases findIdx_cases (fun v : Vx => decide (d ∈ v.ring)) (l) with h0 | ⟨hlt, hp⟩
  · rw [h0] at S
    have := S _ (by simp only [f30_b1, dec_ge (Nat.le_refl (l).length), go_sem, reduceIte, Nat.reduceEqDiff, Nat.reduceAdd, Nat.reduceLeDiff, List.length_cons, List.length_nil]
                    rfl) (by simp)
    rw [atBy, firstBy_none h0, atT, idT]
    rw [call_code F (show F 30 = some (.code f30) from rfl)]
    simp only [f30, this, go_sem, reduceIte, reduceCtorEq, Nat.reduceEqDiff, Nat.reduceAdd, List.length_cons, List.length_nil]
  · rw [atBy, firstBy_some hlt, atT, idT]
    generalize (l).findIdx (fun v : Vx => decide (d ∈ v.ring)) = n at *
    have hltz : (n : Int) < ((l).length : Int) := Int.ofNat_lt.2 hlt
    have hv := i_r03_Index l[n].ring d (hr _ (List.getElem_mem hlt))
    have hm : d ∈ l[n].ring := of_decide_eq_true hp
    rw [idx_pos hm] at hv
    have hq : decide (((l[n].ring.idxOf d : Nat) : Int) ≥ 0) = true := by simp
    have := S _ (by simp only [f30_b1, hltz, rowsBy_get Vx.c hlt, Vx.c, hv, go_sem, reduceIte, Nat.reduceEqDiff, Nat.reduceAdd, Nat.reduceMul, Nat.reduceLeDiff, List.length_cons, List.length_nil, Nat.testBit, Nat.reduceShiftRight, Nat.reduceAnd, Nat.reduceBNe]
                    rfl) (by simp)
    rw [call_code F (show F 30 = some (.code f30) from rfl)]
    simp only [f30, this, go_sem, reduceIte, reduceCtorEq, Nat.reduceEqDiff, Nat.reduceAdd, List.length_cons, List.length_nil]
theorem i_r04_Vertex (l : List Vx) (x : ID) (hl : Fits l) (es : TV) : call F 28 [.agg [.sl .shared 5 (rowsBy Vx.c l), es], .agg [.int .i64 x.s, .int .i64 x.n]] = some (vxT .shared (vxBy l x)) := by
  have hle : (l).length ≤ 5864062014634 := hl.le
  have hw : (l).length ≤ 9223372036854775807 := Nat.le_trans hle (by decide)
  have S : ∀ n, n ≤ (l).length → (∀ i, i < n → ∀ hi : i < (l).length, (fun v : Vx => decide (v.id = x)) (l)[i] = false) → ∀ r, E (call F) 0 f28_b1 (⟨(upd (upd (upd (upd Sx.e0 6 (.v (.int .i64 ((n : Int))))) 4 (.p 4 0)) 3 (.p 3 0)) 2 (.p 2 0)), (upd (upd (upd Sx.h0 4 (some (.var false [(.v (.int .i64 (0))), (.v (.int .i64 (0))), (.v (.sl (.tight 45) 3 [])), (.v (.str ⟨#[]⟩)), (.v (.int .i64 (0)))]))) 3 (some (.var false [(.v (.int .i64 (x.s))), (.v (.int .i64 (x.n)))]))) 2 (some (.var false [(.v (.sl .shared 5 (rowsBy Vx.c l))), (.v es)])))⟩ : St) = some r → r.1 ≠ .norm →
      E (call F) 0 f28_l1 (⟨(upd (upd (upd (upd Sx.e0 6 (.v (.int .i64 (0)))) 4 (.p 4 0)) 3 (.p 3 0)) 2 (.p 2 0)), (upd (upd (upd Sx.h0 4 (some (.var false [(.v (.int .i64 (0))), (.v (.int .i64 (0))), (.v (.sl (.tight 45) 3 [])), (.v (.str ⟨#[]⟩)), (.v (.int .i64 (0)))]))) 3 (some (.var false [(.v (.int .i64 (x.s))), (.v (.int .i64 (x.n)))]))) 2 (some (.var false [(.v (.sl .shared 5 (rowsBy Vx.c l))), (.v es)])))⟩ : St) = some r := by
    intro n hn hno r hf hrr
    refine loop_to (b := f28_b1) (fun i => (⟨(upd (upd (upd (upd Sx.e0 6 (.v (.int .i64 ((i : Int))))) 4 (.p 4 0)) 3 (.p 3 0)) 2 (.p 2 0)), (upd (upd (upd Sx.h0 4 (some (.var false [(.v (.int .i64 (0))), (.v (.int .i64 (0))), (.v (.sl (.tight 45) 3 [])), (.v (.str ⟨#[]⟩)), (.v (.int .i64 (0)))]))) 3 (some (.var false [(.v (.int .i64 (x.s))), (.v (.int .i64 (x.n)))]))) 2 (some (.var false [(.v (.sl .shared 5 (rowsBy Vx.c l))), (.v es)])))⟩ : St)) n ?_ hf hrr
    intro i hi
    have h1 : i < (l).length := Nat.lt_of_lt_of_le hi hn
    have h1z : (i : Int) < ((l).length : Int) := Int.ofNat_lt.2 h1
    have hne := hno i hi h1
    have hne' : ¬ l[i].id = x := of_decide_eq_false hne
    have hq1 := dec_f hne'
    have hq2 := dec_f (Ne.symm hne')
    simp only [f28_b1, h1z, rowsBy_get Vx.c h1, Vx.c, hq1, wrap_succ h1 hw, go_sem, reduceIte, Nat.reduceEqDiff, Nat.reduceAdd, Nat.reduceLeDiff, List.length_cons, List.length_nil, Nat.testBit, Nat.reduceShiftRight, Nat.reduceAnd, Nat.reduceBNe]
  have S := S ((l).findIdx (fun v : Vx => decide (v.id = x))) List.findIdx_le_length (fun i h1 h2 => findIdx_not h1 h2)
  rcases findIdx_cases (fun v : Vx => decide (v.id = x)) (l) with h0 | ⟨hlt, hp⟩
  · rw [h0] at S
    have := S _ (by simp only [f28_b1, dec_ge (Nat.le_refl (l).length), go_sem, reduceIte, Nat.reduceEqDiff, Nat.reduceAdd, Nat.reduceLeDiff, List.length_cons, List.length_nil]
                    rfl) (by simp)
    rw [vxBy, firstBy_none h0, vxT]
    rw [call_code F (show F 28 = some (.code f28) from rfl)]
    simp only [f28, this, go_sem, reduceIte, reduceCtorEq, Nat.reduceEqDiff, Nat.reduceAdd, List.length_cons, List.length_nil]
  · rw [vxBy, firstBy_some hlt, vxT]
    generalize (l).findIdx (fun v : Vx => decide (v.id = x)) = n at *
    have hltz : (n : Int) < ((l).length : Int) := Int.ofNat_lt.2 hlt
    have hp' : l[n].id = x := of_decide_eq_true hp
    have hq1 := dec_t hp'
    have hq2 := dec_t hp'.symm
    have := S _ (by simp only [f28_b1, hltz, rowsBy_get Vx.c hlt, Vx.c, hq1, go_sem, reduceIte, Nat.reduceEqDiff, Nat.reduceAdd, Nat.reduceLeDiff, List.length_cons, List.length_nil, Nat.testBit, Nat.reduceShiftRight, Nat.reduceAnd, Nat.reduceBNe]
                    rfl) (by simp)
    rw [call_code F (show F 28 = some (.code f28) from rfl)]
    simp only [f28, this, go_sem, reduceIte, reduceCtorEq, Nat.reduceEqDiff, Nat.reduceAdd, List.length_cons, List.length_nil]
theorem i_diagram_Vertex (l : List Vx) (x : ID) (hl : Fits l) (hr : FitsR l) (es : TV) : call F 19 [.agg [.sl .shared 5 (rowsBy Vx.c l), es], .agg [.int .i64 x.s, .int .i64 x.n]] = some (vxT (.own 45) (vxBy l x)) := by
  have hv := i_find_Vertex l x hl
  cases hc : vxBy l x with
  | none =>
    rw [hc] at hv
    simp only [vxT] at hv ⊢
    rw [call_code F (show F 19 = some (.code f19) from rfl)]
    simp only [f19, hv, c_Clone_Dart, go_sem, reduceIte, reduceCtorEq, Nat.reduceEqDiff, Nat.reduceAdd, Nat.reduceMul, Nat.reduceLeDiff, List.length_cons, List.length_nil]
  | some v =>
    rw [hc] at hv
    have hb : v.ring.length * 24 ≤ 140737488355328 := by
      have := (hr v (firstBy_mem hc).1).le
      omega
    simp only [vxT] at hv ⊢
    rw [call_code F (show F 19 = some (.code f19) from rfl)]
    simp only [f19, hv, c_Clone_Dart, hb, go_sem, reduceIte, reduceCtorEq, Nat.reduceEqDiff, Nat.reduceAdd, Nat.reduceMul, Nat.reduceLeDiff, List.length_cons, List.length_nil]
end Go.Proofs.Ytehcfmohjcjmpaa.Sx
