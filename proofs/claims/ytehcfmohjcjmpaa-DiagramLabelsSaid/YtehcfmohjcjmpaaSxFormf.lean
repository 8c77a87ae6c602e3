/- What is wrong with a diagram: the program's answer. -/
import Derived.Test.YtehcfmohjcjmpaaSxFormp
namespace Go.Proofs.Ytehcfmohjcjmpaa.Sx
open Go
def labB (l : List Vx) (es : List Ed) : Bool := l.any (fun v => !mayLab v.label) || es.any (fun v => !mayLab v.label)
def attB (l : List Vx) (es : List Ed) : Bool := l.any (fun v => !mayAtt v.attr) || es.any (fun v => !mayAtt v.attr)
/-- the number of what is wrong -/
def formC (l : List Vx) (es : List Ed) : Int :=
  if l.length > 24 ∨ es.length > 40 then 3 else if riseI (l.map Vx.id) = false ∨ riseI (es.map Ed.id) = false ∨ ringsB l es = false then 10 else if labB l es then 4 else if attB l es then 1 else 0
theorem i_diagram_Form (l : List Vx) (es : List Ed) (hr : FitsR l) : call F 12 [.agg [.sl .shared 5 (rowsBy Vx.c l), .sl .shared 4 (rowsBy Ed.c es)]] = some (.int .i64 (formC l es)) := by
  unfold formC
  by_cases h1 : l.length > 24
  · rw [if_pos (.inl h1)]
    have k1 : decide ((l.length : Int) > 24) = true := decide_eq_true (by omega)
    rw [call_code F (show F 12 = some (.code f12) from rfl)]
    simp only [f12, k1, go_sem, reduceIte, reduceCtorEq, Nat.reduceEqDiff, Nat.reduceAdd, Nat.reduceLeDiff, List.length_cons, List.length_nil]
  · have k1 : decide ((l.length : Int) > 24) = false := decide_eq_false (by omega)
    by_cases h2 : es.length > 40
    · rw [if_pos (.inr h2)]
      have k2 : decide ((es.length : Int) > 40) = true := decide_eq_true (by omega)
      rw [call_code F (show F 12 = some (.code f12) from rfl)]
      simp only [f12, k1, k2, go_sem, reduceIte, reduceCtorEq, Nat.reduceEqDiff, Nat.reduceAdd, Nat.reduceLeDiff, List.length_cons, List.length_nil]
    · have k2 : decide ((es.length : Int) > 40) = false := decide_eq_false (by omega)
      rw [if_neg (by omega)]
      have hl : Fits l := by unfold Fits; omega
      have he : Fits es := by unfold Fits; omega
      have n1 := c_named_Vertex l hl
      have n2 := c_named_Edge es he
      have r1 := c_rise (l.map Vx.id) (by unfold Fits; rw [List.length_map]; omega)
      have r2 := c_rise (es.map Ed.id) (by unfold Fits; rw [List.length_map]; omega)
      have r3 := i_diagram_rings l es hl hr he
      rw [ringsPB] at r3
      have s1 := i_some l es hl he 41 (fun s _ => !mayLab s) i_Form1
      have s2 := i_some l es hl he 42 (fun _ n => !mayAtt n) i_Form2
      rw [show (l.any (fun v => (fun s _ => !mayLab s) v.label v.attr) || es.any (fun v => (fun s _ => !mayLab s) v.label v.attr)) = labB l es from rfl] at s1
      rw [show (l.any (fun v => (fun _ n => !mayAtt n) v.label v.attr) || es.any (fun v => (fun _ n => !mayAtt n) v.label v.attr)) = attB l es from rfl] at s2
      generalize l.map Vx.id = i1 at *
      generalize es.map Ed.id = i2 at *
      generalize riseI i1 = b1 at *
      generalize riseI i2 = b2 at *
      generalize ringsB l es = b3 at *
      generalize labB l es = b4 at *
      generalize attB l es = b5 at *
      cases b1
      · rw [call_code F (show F 12 = some (.code f12) from rfl)]
        simp only [f12, k1, k2, n1, r1, go_sem, reduceIte, reduceCtorEq, Nat.reduceEqDiff, Nat.reduceAdd, Nat.reduceMul, Nat.reduceLeDiff, List.length_cons, List.length_nil]
      · cases b2
        · rw [call_code F (show F 12 = some (.code f12) from rfl)]
          simp only [f12, k1, k2, n1, n2, r1, r2, go_sem, reduceIte, reduceCtorEq, Nat.reduceEqDiff, Nat.reduceAdd, Nat.reduceMul, Nat.reduceLeDiff, List.length_cons, List.length_nil]
        · cases b3
          · rw [call_code F (show F 12 = some (.code f12) from rfl)]
            simp only [f12, k1, k2, n1, n2, r1, r2, r3, go_sem, reduceIte, reduceCtorEq, Nat.reduceEqDiff, Nat.reduceAdd, Nat.reduceMul, Nat.reduceLeDiff, List.length_cons, List.length_nil]
          · cases b4 <;> cases b5 <;> (rw [call_code F (show F 12 = some (.code f12) from rfl)]) <;> (simp only [f12, k1, k2, n1, n2, r1, r2, r3, s1, s2, go_sem, reduceIte, reduceCtorEq, Nat.reduceEqDiff, Nat.reduceAdd, Nat.reduceMul, Nat.reduceLeDiff, List.length_cons, List.length_nil])
end Go.Proofs.Ytehcfmohjcjmpaa.Sx
