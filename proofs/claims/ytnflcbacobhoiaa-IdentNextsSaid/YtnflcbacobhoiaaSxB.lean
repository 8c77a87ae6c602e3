/- 'Next', the program's and the reference's. -/
import Derived.Test.YtnflcbacobhoiaaSxA
namespace Go.Proofs.Ytnflcbacobhoiaa.Sx
open Go
def idRow (p : Int × Int) : List TV := [.int .i64 p.1, .int .i64 p.2]
def idRows : List (Int × Int) → List (List TV)
  | [] => []
  | p :: l => idRow p :: idRows l
theorem idRows_length : ∀ l, (idRows l).length = l.length
  | [] => rfl
  | p :: l => by simp [idRows, idRows_length l]
theorem idRows_get : ∀ (l : List (Int × Int)) (i : Nat), (idRows l)[i]? = (l[i]?).map idRow
  | [], i => by simp [idRows]
  | p :: l, 0 => by simp [idRows]
  | p :: l, i + 1 => by simp [idRows, idRows_get l i]
def nextStep (site n : Int) (p : Int × Int) : Int := if p.1 = site ∧ mayB p.1 p.2 = true ∧ n ≤ p.2 then IntKind.i64.wrap (p.2 + 1) else n
theorem l10 (site : Int) (L : List (Int × Int)) (hL : L.length ≤ 9223372036854775807) (fl : Fl) : ∀ (k i : Nat) (n : Int), i + k = L.length →
    E (call F) 0 f10_l1 ⟨upd (upd (upd (upd (upd (upd e0 12 (.v (.int .i64 (i : Int)))) 11 (.v (.int .i64 (L.length : Int)))) 10 (.v (.sl fl 2 (idRows L)))) 5 (.p 5 0)) 4 (.p 4 0)) 1 (.v (.int .i64 site)),
        upd (upd h0 5 (some (.var false [.v (.int .i64 site), .v (.int .i64 n)]))) 4 (some (.var false [.v (.int .i64 0), .v (.int .i64 0)]))⟩ =
      some (.exit 0, ⟨upd (upd e0 5 (.p 5 0)) 4 (.p 4 0), upd (upd h0 5 (some (.var false [.v (.int .i64 site), .v (.int .i64 ((L.drop i).foldl (nextStep site) n))]))) 4 (some (.var false [.v (.int .i64 0), .v (.int .i64 0)]))⟩)
  | 0, i, n, h => by
    rw [f10_l1_eq]
    simp only [f10_b1, dec_ge (show L.length ≤ i by omega), go_sem, reduceIte, Nat.reduceEqDiff]
    rw [List.drop_eq_nil_of_le (by omega)]; rfl
  | k + 1, i, n, h => by
    have hlt : i < L.length := by omega
    have hg : (idRows L)[i]? = some [.int .i64 (L[i]).1, .int .i64 (L[i]).2] := by rw [idRows_get, List.getElem?_eq_getElem hlt]; rfl
    have ih := fun n => l10 site L hL fl k (i + 1) n (by omega)
    rw [f10_l1_eq]
    simp only [f10_b1, dec_lt hlt, hg, go_sem, reduceIte, Nat.reduceEqDiff, Nat.reduceAdd, Nat.reduceLeDiff, List.length_cons, List.length_nil]
    rw [List.drop_eq_getElem_cons hlt, List.foldl_cons]
    iterate 4 all_goals (try (split <;> (rename_i h; (try simp only [Bool.not_eq_true] at h); simp only [*, t11, wrap_succ hlt hL, go_sem, reduceIte, Nat.reduceEqDiff, Nat.reduceAdd, Nat.reduceMul, List.length_cons, List.length_nil])))
    all_goals simp_all [nextStep]
    rw [if_neg (by omega)]
def nextN (site : Int) (L : List (Int × Int)) : Int := L.foldl (nextStep site) 1
def idOf (a b : Int) : TV := if mayB a b = true then .agg [.int .i64 a, .int .i64 b] else .agg [.int .i64 0, .int .i64 0]
theorem t10 (site : Int) (L : List (Int × Int)) (hL : L.length ≤ 9223372036854775807) (fl : Fl) : call F 10 [.sl fl 2 (idRows L), .int .i64 site] = some (idOf site (nextN site L)) := by
  have h := l10 site L hL fl L.length 0 1 (by omega)
  simp only [go_sem, Int.cast_ofNat_Int] at h
  rw [call_code F (show F 10 = some (.code f10) from rfl)]
  simp only [f10, idRows_length, h, t11, go_sem, reduceIte, reduceCtorEq, Nat.reduceEqDiff, Nat.reduceAdd, Nat.reduceMul, Nat.reduceLeDiff, List.length_cons, List.length_nil]
  iterate 2 all_goals (try (split <;> (rename_i h; (try simp only [Bool.not_eq_true] at h); simp only [*, go_sem, reduceIte, Nat.reduceEqDiff, Nat.reduceAdd, List.length_cons, List.length_nil])))
  all_goals simp_all [idOf, nextN]

def nextStepR (site n : Int) (p : Int × Int) : Int := if p.1 = site ∧ mayB p.1 p.2 = true then (if n < p.2 then p.2 else n) else n
theorem l17 (site : Int) (L : List (Int × Int)) (hL : L.length ≤ 9223372036854775807) (fl : Fl) : ∀ (k i : Nat) (n : Int), i + k = L.length →
    E (call F) 0 f17_l1 ⟨upd (upd (upd (upd (upd e0 6 (.v (.int .i64 (i : Int)))) 5 (.v (.int .i64 n))) 4 (.p 4 0)) 1 (.v (.int .i64 site))) 0 (.v (.sl fl 2 (idRows L))),
        upd h0 4 (some (.var false [.v (.int .i64 0), .v (.int .i64 0)]))⟩ =
      some (.exit 0, ⟨upd (upd (upd e0 5 (.v (.int .i64 ((L.drop i).foldl (nextStepR site) n)))) 4 (.p 4 0)) 1 (.v (.int .i64 site)), upd h0 4 (some (.var false [.v (.int .i64 0), .v (.int .i64 0)]))⟩)
  | 0, i, n, h => by
    rw [f17_l1_eq]
    simp only [f17_b1, idRows_length, dec_ge (show L.length ≤ i by omega), go_sem, reduceIte, reduceCtorEq, Nat.reduceEqDiff]
    rw [List.drop_eq_nil_of_le (by omega)]; rfl
  | k + 1, i, n, h => by
    have hlt : i < L.length := by omega
    have hg : (idRows L)[i]? = some [.int .i64 (L[i]).1, .int .i64 (L[i]).2] := by rw [idRows_get, List.getElem?_eq_getElem hlt]; rfl
    have ih := fun n => l17 site L hL fl k (i + 1) n (by omega)
    rw [f17_l1_eq]
    simp only [f17_b1, idRows_length, dec_lt hlt, hg, t14, go_sem, reduceIte, reduceCtorEq, Nat.reduceEqDiff, Nat.reduceAdd, Nat.reduceMul, List.length_cons, List.length_nil]
    rw [List.drop_eq_getElem_cons hlt, List.foldl_cons]
    iterate 4 all_goals (try (split <;> (rename_i h; (try simp only [Bool.not_eq_true] at h); simp only [*, wrap_succ hlt hL, go_sem, reduceIte, reduceCtorEq, Nat.reduceEqDiff, Nat.reduceAdd, Nat.reduceLeDiff, List.length_cons, List.length_nil])))
    all_goals simp_all [nextStepR]
def nextR (site : Int) (L : List (Int × Int)) : Int := IntKind.i64.wrap (L.foldl (nextStepR site) 0 + 1)
theorem t17 (site : Int) (L : List (Int × Int)) (hL : L.length ≤ 9223372036854775807) (fl : Fl) : call F 17 [.sl fl 2 (idRows L), .int .i64 site] = some (idOf site (nextR site L)) := by
  have h := l17 site L hL fl L.length 0 0 (by omega)
  simp only [go_sem, Int.cast_ofNat_Int] at h
  rw [call_code F (show F 17 = some (.code f17) from rfl)]
  simp only [f17, h, t14, go_sem, reduceIte, reduceCtorEq, Nat.reduceEqDiff, Nat.reduceAdd, Nat.reduceMul, Nat.reduceLeDiff, List.length_cons, List.length_nil]
  iterate 2 all_goals (try (split <;> (rename_i h; (try simp only [Bool.not_eq_true] at h); simp only [*, go_sem, reduceIte, Nat.reduceEqDiff, Nat.reduceAdd, List.length_cons, List.length_nil])))
  all_goals simp_all [idOf, nextR]
end Go.Proofs.Ytnflcbacobhoiaa.Sx
