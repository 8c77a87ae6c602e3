/- What is wrong with a diagram: the reference's answer. -/
import Derived.Test.YtehcfmohjcjmpaaSxFormf
namespace Go.Proofs.Ytehcfmohjcjmpaa.Sx
open Go
def FitsL (l : List Vx) (es : List Ed) : Prop := (∀ v ∈ l, v.label.size ≤ 9223372036854775807) ∧ ∀ v ∈ es, v.label.size ≤ 9223372036854775807
theorem rform_l1 (l : List Vx) (es : List Ed) (hl : Fits l) (hs : FitsL l es) : E (call F) 0 f13_l1 (⟨(upd (upd (upd (upd (upd Sx.e0 9 (.v (.int .i64 (0)))) 8 (.v (.bool true))) 7 (.v (.bool true))) 4 (.v (.int .i64 ((l.length : Int))))) 1 (.p 1 0)), (upd Sx.h0 1 (some (.var false [.v (.sl .shared 5 (rowsBy Vx.c l)), .v (.sl .shared 4 (rowsBy Ed.c es))])))⟩ : St) =
    some (.exit 0, (⟨(upd (upd (upd Sx.e0 8 (.v (.bool (l.all fun v => mayAtt v.attr)))) 7 (.v (.bool (l.all fun v => mayLab v.label)))) 1 (.p 1 0)), (upd Sx.h0 1 (some (.var false [.v (.sl .shared 5 (rowsBy Vx.c l)), .v (.sl .shared 4 (rowsBy Ed.c es))])))⟩ : St)) := by
  have hle := hl.le
  refine loop_to (b := f13_b1) (fun i => (⟨(upd (upd (upd (upd (upd Sx.e0 9 (.v (.int .i64 ((i : Int))))) 8 (.v (.bool ((l.take i).all fun v => mayAtt v.attr)))) 7 (.v (.bool ((l.take i).all fun v => mayLab v.label)))) 4 (.v (.int .i64 ((l.length : Int))))) 1 (.p 1 0)), (upd Sx.h0 1 (some (.var false [.v (.sl .shared 5 (rowsBy Vx.c l)), .v (.sl .shared 4 (rowsBy Ed.c es))])))⟩ : St)) l.length ?_ ?_ (by simp)
  · intro i hi
    have h1z : (i : Int) < (l.length : Int) := by omega
    have c1 := c_r04_MayLabel l[i].label (hs.1 _ (List.getElem_mem hi))
    rw [show (mayB l[i].label && decide ((l[i].label.size : Int) ≤ 16)) = mayLab l[i].label from rfl] at c1
    have c2 := c_r04_MayAttr l[i].attr
    rw [show (decide (l[i].attr ≥ -1099511627776) && decide (l[i].attr ≤ 1099511627776)) = mayAtt l[i].attr from rfl] at c2
    rw [List.take_succ_eq_append_getElem hi, List.all_append, List.all_append]
    simp only [List.all_cons, List.all_nil, Bool.and_true]
    generalize (l.take i).all (fun v => mayLab v.label) = b1 at *
    generalize (l.take i).all (fun v => mayAtt v.attr) = b2 at *
    generalize mayLab l[i].label = b3 at *
    generalize mayAtt l[i].attr = b4 at *
    cases b1 <;> cases b2 <;> (simp only [f13_b1, h1z, rowsBy_get Vx.c hi, Vx.c, c1, c2, Bool.true_and, Bool.false_and, wrap_succ hi (show l.length ≤ 9223372036854775807 by omega), go_sem, reduceIte, Nat.reduceEqDiff, Nat.reduceAdd, Nat.reduceMul, Nat.reduceLeDiff, List.length_cons, List.length_nil])
  · rw [List.take_length]
    simp only [f13_b1, dec_ge (Nat.le_refl l.length), go_sem, reduceIte, Nat.reduceEqDiff]
theorem rform_l2 (l : List Vx) (es : List Ed) (he : Fits es) (hs : FitsL l es) (a1 a2 : Bool) : E (call F) 0 f13_l2 (⟨(upd (upd (upd (upd Sx.e0 10 (.v (.int .i64 (0)))) 8 (.v (.bool a2))) 7 (.v (.bool a1))) 1 (.p 1 0)), (upd Sx.h0 1 (some (.var false [.v (.sl .shared 5 (rowsBy Vx.c l)), .v (.sl .shared 4 (rowsBy Ed.c es))])))⟩ : St) =
    some (.exit 2, (⟨(upd (upd Sx.e0 8 (.v (.bool (a2 && es.all fun v => mayAtt v.attr)))) 7 (.v (.bool (a1 && es.all fun v => mayLab v.label)))), Sx.h0⟩ : St)) := by
  have hle := he.le
  have key := loop_to (C := call F) (lo := 0) (b := f13_b2) (fun i => (⟨(upd (upd (upd (upd Sx.e0 10 (.v (.int .i64 ((i : Int))))) 8 (.v (.bool (a2 && (es.take i).all fun v => mayAtt v.attr)))) 7 (.v (.bool (a1 && (es.take i).all fun v => mayLab v.label)))) 1 (.p 1 0)), (upd Sx.h0 1 (some (.var false [.v (.sl .shared 5 (rowsBy Vx.c l)), .v (.sl .shared 4 (rowsBy Ed.c es))])))⟩ : St)) es.length (r := (.exit 2, (⟨(upd (upd Sx.e0 8 (.v (.bool (a2 && es.all fun v => mayAtt v.attr)))) 7 (.v (.bool (a1 && es.all fun v => mayLab v.label)))), Sx.h0⟩ : St))) ?_ ?_ (by simp)
  · simp only [List.take_zero, List.all_nil, Bool.and_true] at key
    exact key
  · intro i hi
    have h1z : (i : Int) < (es.length : Int) := by omega
    have c1 := c_r04_MayLabel es[i].label (hs.2 _ (List.getElem_mem hi))
    rw [show (mayB es[i].label && decide ((es[i].label.size : Int) ≤ 16)) = mayLab es[i].label from rfl] at c1
    have c2 := c_r04_MayAttr es[i].attr
    rw [show (decide (es[i].attr ≥ -1099511627776) && decide (es[i].attr ≤ 1099511627776)) = mayAtt es[i].attr from rfl] at c2
    rw [List.take_succ_eq_append_getElem hi, List.all_append, List.all_append, ← Bool.and_assoc, ← Bool.and_assoc]
    simp only [List.all_cons, List.all_nil, Bool.and_true]
    generalize (a1 && (es.take i).all (fun v => mayLab v.label)) = b1 at *
    generalize (a2 && (es.take i).all (fun v => mayAtt v.attr)) = b2 at *
    generalize mayLab es[i].label = b3 at *
    generalize mayAtt es[i].attr = b4 at *
    cases b1 <;> cases b2 <;> (simp only [f13_b2, h1z, rowsBy_get Ed.c hi, Ed.c, c1, c2, Bool.true_and, Bool.false_and, wrap_succ hi (show es.length ≤ 9223372036854775807 by omega), go_sem, reduceIte, Nat.reduceEqDiff, Nat.reduceAdd, Nat.reduceMul, Nat.reduceLeDiff, List.length_cons, List.length_nil])
  · rw [List.take_length]
    simp only [f13_b2, dec_ge (Nat.le_refl es.length), go_sem, reduceIte, Nat.reduceEqDiff, Nat.reduceAdd, List.length_cons, List.length_nil]
theorem not_any {α : Type} (p : α → Bool) (l : List α) : (l.any fun v => !p v) = !(l.all p) := by
  induction l with
  | nil => rfl
  | cons a l ih => rw [List.any_cons, List.all_cons, ih]; cases p a <;> simp
theorem labB_eq (l : List Vx) (es : List Ed) : labB l es = !((l.all fun v => mayLab v.label) && es.all fun v => mayLab v.label) := by
  unfold labB; rw [not_any (fun v : Vx => mayLab v.label), not_any (fun v : Ed => mayLab v.label), Bool.not_and]
theorem attB_eq (l : List Vx) (es : List Ed) : attB l es = !((l.all fun v => mayAtt v.attr) && es.all fun v => mayAtt v.attr) := by
  unfold attB; rw [not_any (fun v : Vx => mayAtt v.attr), not_any (fun v : Ed => mayAtt v.attr), Bool.not_and]
theorem i_r04_Form (l : List Vx) (es : List Ed) (hr : FitsR l) (hs : FitsL l es) : call F 13 [.agg [.sl .shared 5 (rowsBy Vx.c l), .sl .shared 4 (rowsBy Ed.c es)]] = some (.int .i64 (formC l es)) := by
  unfold formC
  by_cases h1 : l.length > 24
  · rw [if_pos (.inl h1)]
    have k1 : decide ((l.length : Int) > 24) = true := decide_eq_true (by omega)
    rw [call_code F (show F 13 = some (.code f13) from rfl)]
    simp only [f13, k1, go_sem, reduceIte, reduceCtorEq, Nat.reduceEqDiff, Nat.reduceAdd, Nat.reduceLeDiff, List.length_cons, List.length_nil]
  · have k1 : decide ((l.length : Int) > 24) = false := decide_eq_false (by omega)
    by_cases h2 : es.length > 40
    · rw [if_pos (.inr h2)]
      have k2 : decide ((es.length : Int) > 40) = true := decide_eq_true (by omega)
      rw [call_code F (show F 13 = some (.code f13) from rfl)]
      simp only [f13, k1, k2, go_sem, reduceIte, reduceCtorEq, Nat.reduceEqDiff, Nat.reduceAdd, Nat.reduceLeDiff, List.length_cons, List.length_nil]
    · have k2 : decide ((es.length : Int) > 40) = false := decide_eq_false (by omega)
      rw [if_neg (by omega)]
      have hl : Fits l := by unfold Fits; omega
      have he : Fits es := by unfold Fits; omega
      have nm := i_r04_Names l es (by omega) he
      have r1 := c_r04_rise (l.map Vx.id) (by unfold Fits; rw [List.length_map]; omega)
      have r2 := c_r04_rise (es.map Ed.id) (by unfold Fits; rw [List.length_map]; omega)
      have r3 := i_r04_rings l es (by omega) hr he
      have l1 := rform_l1 l es hl hs
      have l2 := rform_l2 l es he hs (l.all fun v => mayLab v.label) (l.all fun v => mayAtt v.attr)
      rw [show ((l.all fun v => mayLab v.label) && es.all fun v => mayLab v.label) = !labB l es by rw [labB_eq, Bool.not_not], show ((l.all fun v => mayAtt v.attr) && es.all fun v => mayAtt v.attr) = !attB l es by rw [attB_eq, Bool.not_not]] at l2
      have hm : (l.map Vx.id).length = l.length := List.length_map _
      have e1 : (l.map Vx.id ++ es.map Ed.id).take l.length = l.map Vx.id := by rw [← hm, List.take_left]
      have e2 : (l.map Vx.id ++ es.map Ed.id).drop l.length = es.map Ed.id := by rw [← hm, List.drop_left]
      have kz : (l.length : Int) ≤ ((l.map Vx.id ++ es.map Ed.id).length : Int) := by rw [List.length_append, hm]; omega
      have e3 : (es.map Ed.id).take ((l.map Vx.id ++ es.map Ed.id).length - l.length) = es.map Ed.id := List.take_of_length_le (by rw [List.length_append, hm]; omega)
      generalize l.map Vx.id ++ es.map Ed.id = q at *
      generalize l.map Vx.id = i1 at *
      generalize es.map Ed.id = i2 at *
      generalize (l.all fun v => mayLab v.label) = a1 at *
      generalize (l.all fun v => mayAtt v.attr) = a2 at *
      generalize riseI i1 = b1 at *
      generalize riseI i2 = b2 at *
      generalize ringsB l es = b3 at *
      generalize labB l es = b4 at *
      generalize attB l es = b5 at *
      cases b1
      · rw [call_code F (show F 13 = some (.code f13) from rfl)]
        simp only [f13, k1, k2, nm, r1, r2, e1, e2, e3, kz, go_sem, reduceIte, reduceCtorEq, Nat.reduceEqDiff, Nat.reduceAdd, Nat.reduceMul, Nat.reduceLeDiff, List.length_cons, List.length_nil]
      · cases b2
        · rw [call_code F (show F 13 = some (.code f13) from rfl)]
          simp only [f13, k1, k2, nm, r1, r2, e1, e2, e3, kz, go_sem, reduceIte, reduceCtorEq, Nat.reduceEqDiff, Nat.reduceAdd, Nat.reduceMul, Nat.reduceLeDiff, List.length_cons, List.length_nil]
        · cases b3
          · rw [call_code F (show F 13 = some (.code f13) from rfl)]
            simp only [f13, k1, k2, nm, r1, r2, r3, e1, e2, e3, kz, go_sem, reduceIte, reduceCtorEq, Nat.reduceEqDiff, Nat.reduceAdd, Nat.reduceMul, Nat.reduceLeDiff, List.length_cons, List.length_nil]
          · cases b4 <;> cases b5 <;> (rw [call_code F (show F 13 = some (.code f13) from rfl)]) <;> (simp only [f13, k1, k2, nm, r1, r2, r3, e1, e2, e3, kz, l1, l2, go_sem, reduceIte, reduceCtorEq, Nat.reduceEqDiff, Nat.reduceAdd, Nat.reduceMul, Nat.reduceLeDiff, List.length_cons, List.length_nil])
end Go.Proofs.Ytehcfmohjcjmpaa.Sx
