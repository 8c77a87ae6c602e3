/- Names, darts, vertices, edges as this seat's proofs take them; their order. -/
import Derived.Test.YtehcfmohjcjmpaaSxKit
namespace Go.Proofs.Ytehcfmohjcjmpaa.Sx
open Go
structure ID where
  s : Int
  n : Int
deriving DecidableEq
structure Dart where
  e : ID
  d : Int
deriving DecidableEq
def ID.c (x : ID) : List TV := [.int .i64 x.s, .int .i64 x.n]
def Dart.c (x : Dart) : List TV := [.int .i64 x.e.s, .int .i64 x.e.n, .int .i64 x.d]
def ID0 : ID := ⟨0, 0⟩
def Dart0 : Dart := ⟨ID0, 0⟩
@[go_sem] theorem ID.eta (x : ID) : (⟨x.s, x.n⟩ : ID) = x := rfl
@[go_sem] theorem Dart.eta (x : Dart) : (⟨x.e, x.d⟩ : Dart) = x := rfl
@[go_sem] theorem ID.mk_s (a b : Int) : (⟨a, b⟩ : ID).s = a := rfl
@[go_sem] theorem ID.mk_n (a b : Int) : (⟨a, b⟩ : ID).n = b := rfl
@[go_sem] theorem Dart.mk_e (a : ID) (b : Int) : (⟨a, b⟩ : Dart).e = a := rfl
@[go_sem] theorem Dart.mk_d (a : ID) (b : Int) : (⟨a, b⟩ : Dart).d = b := rfl
theorem ID.ext_iff' (x y : ID) : x = y ↔ x.s = y.s ∧ x.n = y.n := by
  obtain ⟨a, b⟩ := x; obtain ⟨c, d⟩ := y; simp
theorem Dart.ext_iff' (x y : Dart) : x = y ↔ x.e.s = y.e.s ∧ x.e.n = y.e.n ∧ x.d = y.d := by
  obtain ⟨⟨a, b⟩, e⟩ := x; obtain ⟨⟨c, d⟩, f⟩ := y; simp [and_assoc]
@[go_sem] theorem ID.dec (x y : ID) : (decide (x.s = y.s) && decide (x.n = y.n)) = decide (x = y) := by
  rw [Bool.eq_iff_iff]; simp only [Bool.and_eq_true, decide_eq_true_eq, ID.ext_iff']
@[go_sem] theorem Dart.dec (x y : Dart) : (decide (x.e.s = y.e.s) && (decide (x.e.n = y.e.n) && decide (x.d = y.d))) = decide (x = y) := by
  rw [Bool.eq_iff_iff]; simp only [Bool.and_eq_true, decide_eq_true_eq, Dart.ext_iff']
@[go_sem] theorem ID.dec0 (x : ID) : (decide (x.s = 0) && decide (x.n = 0)) = decide (x = ID0) := ID.dec x ID0
@[go_sem] theorem Dart.dec0 (x : Dart) : (decide (x.e.s = 0) && (decide (x.e.n = 0) && decide (x.d = 0))) = decide (x = Dart0) := Dart.dec x Dart0
def mayI (x : ID) : Bool := decide (1 ≤ x.s ∧ x.s ≤ 8 ∧ 1 ≤ x.n ∧ x.n ≤ 1048576)
def ordI (x y : ID) : Int := if x = y then 0 else if x.s < y.s ∨ x.s = y.s ∧ x.n < y.n then -1 else 1
def ordD (x y : Dart) : Int := if x = y then 0 else if x.e.s < y.e.s ∨ x.e.s = y.e.s ∧ (x.e.n < y.e.n ∨ x.e.n = y.e.n ∧ x.d < y.d) then -1 else 1
def cmpZ (a b : Int) : Int := if a < b then -1 else if a > b then 1 else 0
def orZ (a b : Int) : Int := if a = 0 then b else a
theorem ordI_cases (x y : ID) : (ordI x y = 0 ∧ x = y) ∨ (ordI x y = -1 ∧ (x.s < y.s ∨ x.s = y.s ∧ x.n < y.n)) ∨ (ordI x y = 1 ∧ (y.s < x.s ∨ x.s = y.s ∧ y.n < x.n)) := by
  unfold ordI
  split
  · exact .inl ⟨rfl, by assumption⟩
  · rename_i hne
    rw [ID.ext_iff'] at hne
    split
    · exact .inr (.inl ⟨rfl, by assumption⟩)
    · exact .inr (.inr ⟨rfl, by omega⟩)
theorem ordD_cases (x y : Dart) : (ordD x y = 0 ∧ x = y) ∨ (ordD x y = -1 ∧ (x.e.s < y.e.s ∨ x.e.s = y.e.s ∧ (x.e.n < y.e.n ∨ x.e.n = y.e.n ∧ x.d < y.d))) ∨
    (ordD x y = 1 ∧ (y.e.s < x.e.s ∨ x.e.s = y.e.s ∧ (y.e.n < x.e.n ∨ x.e.n = y.e.n ∧ y.d < x.d))) := by
  unfold ordD
  split
  · exact .inl ⟨rfl, by assumption⟩
  · rename_i hne
    rw [Dart.ext_iff'] at hne
    split
    · exact .inr (.inl ⟨rfl, by assumption⟩)
    · exact .inr (.inr ⟨rfl, by omega⟩)
theorem cmpZ_cases (a b : Int) : (cmpZ a b = 0 ∧ a = b) ∨ (cmpZ a b = -1 ∧ a < b) ∨ (cmpZ a b = 1 ∧ b < a) := by
  unfold cmpZ
  split
  · omega
  · split <;> omega
theorem ordI_or (x y : ID) : (if x = y then 0 else orZ (cmpZ x.s y.s) (cmpZ x.n y.n)) = ordI x y := by
  have h0 := ordI_cases x y
  have h1 := cmpZ_cases x.s y.s
  have h2 := cmpZ_cases x.n y.n
  simp only [ID.ext_iff'] at h0 ⊢
  unfold orZ
  split
  · omega
  · split <;> omega
theorem ordD_or (x y : Dart) : orZ (ordI x.e y.e) (cmpZ x.d y.d) = ordD x y := by
  have h0 := ordD_cases x y
  have h1 := ordI_cases x.e y.e
  have h2 := cmpZ_cases x.d y.d
  simp only [ID.ext_iff', Dart.ext_iff'] at h0 h1
  unfold orZ
  split <;> omega
/-- where the first one is; or -1 -/
def idx {α : Type} [DecidableEq α] (l : List α) (d : α) : Int := if d ∈ l then (l.idxOf d : Int) else -1
theorem idx_neg {α : Type} [DecidableEq α] {l : List α} {d : α} (h : d ∉ l) : idx l d = -1 := by unfold idx; rw [if_neg h]
theorem idx_pos {α : Type} [DecidableEq α] {l : List α} {d : α} (h : d ∈ l) : idx l d = (l.idxOf d : Int) := by unfold idx; rw [if_pos h]
theorem idxOf_ne {α : Type} [DecidableEq α] {l : List α} {d : α} {i : Nat} (h : i < l.idxOf d) (hi : i < l.length) : l[i] ≠ d := by
  have := List.not_of_lt_findIdx (p := (· == d)) (xs := l) (i := i) h
  simpa using this
theorem idxOf_le {α : Type} [DecidableEq α] (l : List α) (d : α) : l.idxOf d ≤ l.length := List.findIdx_le_length
theorem idxOf_not {α : Type} [DecidableEq α] {l : List α} {d : α} (h : d ∉ l) : l.idxOf d = l.length := by
  have := idxOf_le l d
  rcases Nat.lt_or_ge (l.idxOf d) l.length with h1 | h1
  · exact absurd (List.idxOf_lt_length_iff.1 h1) h
  · omega
theorem idxOf_at {α : Type} [DecidableEq α] {l : List α} {d : α} (h : d ∈ l) : ∃ hlt : l.idxOf d < l.length, l[l.idxOf d] = d := by
  have hlt := List.idxOf_lt_length_iff.2 h
  exact ⟨hlt, List.getElem_idxOf hlt⟩
theorem idx_ge0 {α : Type} [DecidableEq α] (l : List α) (d : α) : decide (idx l d ≥ 0) = decide (d ∈ l) := by
  unfold idx; split <;> simp_all
theorem idx_lt0 {α : Type} [DecidableEq α] (l : List α) (d : α) : decide (idx l d < 0) = !decide (d ∈ l) := by
  unfold idx; split <;> simp_all
end Go.Proofs.Ytehcfmohjcjmpaa.Sx
