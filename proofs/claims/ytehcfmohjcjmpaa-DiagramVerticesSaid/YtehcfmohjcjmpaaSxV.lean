/- DiagramVertices: a vertex more. -/
import Derived.Test.YtehcfmohjcjmpaaSxL
namespace Go.Proofs.Ytehcfmohjcjmpaa.Sx
open Go
def nx (x : ID) : Vx := ⟨x, [], ⟨#[]⟩, 0⟩
def insV (v : List Vx) (x : ID) (k : Nat) : List Vx := v.take k ++ [nx x] ++ v.drop k
theorem insV_len (v : List Vx) (x : ID) (k : Nat) (hk : k ≤ v.length) : (insV v x k).length = v.length + 1 := by
  unfold insV; rw [List.length_append, List.length_append, List.length_take, List.length_drop]; simp; omega
/-- where a name may be brought in -/
def fitsAt (l : List ID) (x : ID) (k : Nat) : Prop := mayI x = true ∧ (∀ y ∈ l.take k, ltI y x) ∧ ∀ y ∈ l.drop k, ltI x y
theorem rise_ins {l : List ID} (h : Rise l) (x : ID) (k : Nat) : Rise (l.take k ++ [x] ++ l.drop k) ↔ fitsAt l x k := by
  constructor
  · rintro ⟨h1, h2⟩
    rw [List.pairwise_append, List.pairwise_append] at h2
    refine ⟨h1 x (by simp), fun y hy => h2.1.2.2 y hy x (by simp), fun y hy => h2.2.2 x (by simp) y hy⟩
  · rintro ⟨h1, h2, h3⟩
    refine ⟨fun y hy => ?_, ?_⟩
    · simp only [List.append_assoc, List.mem_append, List.mem_singleton] at hy
      rcases hy with hy | rfl | hy
      · exact h.1 y (List.mem_of_mem_take hy)
      · exact h1
      · exact h.1 y (List.mem_of_mem_drop hy)
    · rw [List.pairwise_append, List.pairwise_append]
      have hp := h.2
      rw [← List.take_append_drop k l, List.pairwise_append] at hp
      refine ⟨⟨hp.1, by simp, fun a ha b hb => ?_⟩, hp.2.1, fun a ha b hb => ?_⟩
      · rw [List.mem_singleton.1 hb]; exact h2 a ha
      · rcases List.mem_append.1 ha with ha | ha
        · exact hp.2.2 a ha b hb
        · rw [List.mem_singleton.1 ha]; exact h3 b hb
theorem fits_one {l : List ID} {x : ID} {j k : Nat} (hjk : j < k) (hk : k ≤ l.length) (h1 : fitsAt l x j) (h2 : fitsAt l x k) : False := by
  have hj : j < l.length := by omega
  have a := h2.2.1 l[j] (List.mem_take_iff_getElem.2 ⟨j, by omega, rfl⟩)
  have b := h1.2.2 l[j] (by rw [List.drop_eq_getElem_cons hj]; exact List.mem_cons_self)
  exact ltI_irrefl _ (ltI_trans a b)
theorem ltI_total (a b : ID) : ltI a b ∨ a = b ∨ ltI b a := by
  unfold ltI; rw [ID.ext_iff']; omega
theorem fits_some {l : List ID} (h : Rise l) {x : ID} (hm : mayI x = true) (hx : x ∉ l) : ∃ k, k ≤ l.length ∧ fitsAt l x k := by
  have key : ∀ n, n ≤ l.length → (∀ y ∈ l.take n, ltI y x) ∨ ∃ k, k ≤ l.length ∧ fitsAt l x k := by
    intro n
    induction n with
    | zero => intro _; left; simp
    | succ n ih =>
      intro hn
      rcases ih (by omega) with hlt | hk
      · have hn' : n < l.length := by omega
        rcases ltI_total l[n] x with h1 | h1 | h1
        · left
          rw [List.take_succ_eq_append_getElem hn']
          intro y hy
          rcases List.mem_append.1 hy with hy | hy
          · exact hlt y hy
          · rw [List.mem_singleton.1 hy]; exact h1
        · exact absurd (h1 ▸ List.getElem_mem hn') hx
        · right
          refine ⟨n, by omega, hm, hlt, fun y hy => ?_⟩
          rw [List.drop_eq_getElem_cons hn'] at hy
          rcases List.mem_cons.1 hy with rfl | hy
          · exact h1
          · obtain ⟨i, hi, rfl⟩ := List.mem_iff_getElem.1 hy
            rw [List.length_drop] at hi
            rw [List.getElem_drop]
            exact ltI_trans h1 (List.pairwise_iff_getElem.1 h.2 n (n + 1 + i) hn' (by omega) (by omega))
      · exact .inr hk
  rcases key l.length (Nat.le_refl _) with h1 | h1
  · exact ⟨l.length, Nat.le_refl _, hm, h1, by simp⟩
  · exact h1
theorem fits_not {l : List ID} {x : ID} {k : Nat} (h : fitsAt l x k) : x ∉ l := fun hx => by
  rw [← List.take_append_drop k l] at hx
  rcases List.mem_append.1 hx with hx | hx
  · exact ltI_irrefl _ (h.2.1 x hx)
  · exact ltI_irrefl _ (h.2.2 x hx)
theorem ids_ins (v : List Vx) (x : ID) (k : Nat) : (insV v x k).map Vx.id = (v.map Vx.id).take k ++ [x] ++ (v.map Vx.id).drop k := by
  unfold insV; simp [nx, List.map_take, List.map_drop]
theorem allR_ins (v : List Vx) (x : ID) (k : Nat) : allR (insV v x k) = allR v := by
  unfold allR insV
  rw [List.map_append, List.map_append, List.flatten_append, List.flatten_append]
  show ((v.take k).map Vx.ring).flatten ++ [[]].flatten ++ ((v.drop k).map Vx.ring).flatten = _
  rw [List.flatten_singleton, List.append_nil, ← List.flatten_append, ← List.map_append, List.take_append_drop]
theorem mem_insV {v : List Vx} {x : ID} {k : Nat} {u : Vx} : u ∈ insV v x k ↔ u = nx x ∨ u ∈ v := by
  unfold insV
  have := congrArg (u ∈ ·) (List.take_append_drop k v)
  simp only [List.mem_append, List.mem_singleton, eq_iff_iff] at this ⊢
  constructor
  · rintro ((h | h) | h)
    · exact .inr (this.1 (.inl h))
    · exact .inl h
    · exact .inr (this.1 (.inr h))
  · rintro (h | h)
    · exact .inl (.inr h)
    · rcases this.2 h with h | h
      · exact .inl (.inl h)
      · exact .inr h
theorem wf_ins {v : List Vx} {es : List Ed} (h : WF v es) (hl : v.length < 24) (x : ID) (k : Nat) (hk : k ≤ v.length) : WF (insV v x k) es ↔ fitsAt (v.map Vx.id) x k := by
  have hr := allR_ins v x k
  have hi := rise_ins h.sv x k
  rw [← ids_ins] at hi
  constructor
  · intro hw; exact hi.1 hw.sv
  · intro hf
    refine ⟨by rw [insV_len v x k hk]; omega, h.le, hi.2 hf, h.se, fun u hu => ?_, by rw [hr]; exact h.nd, fun y => by rw [hr]; exact h.mem y⟩
    rcases mem_insV.1 hu with rfl | hu
    · rfl
    · exact h.tn u hu
open Classical in
noncomputable def fitsB (l : List ID) (x : ID) (k : Nat) : Bool := decide (fitsAt l x k)
open Classical in
theorem fitsB_t {l : List ID} {x : ID} {k : Nat} : fitsB l x k = true ↔ fitsAt l x k := by unfold fitsB; exact decide_eq_true_iff
theorem fitsB_f {l : List ID} {x : ID} {k : Nat} (h : ¬ fitsAt l x k) : fitsB l x k = false := by
  cases hb : fitsB l x k with
  | false => rfl
  | true => exact absurd (fitsB_t.1 hb) h
theorem form_ins {v : List Vx} {es : List Ed} (h : formC v es = 0) (hl : v.length < 24) (x : ID) (k : Nat) (hk : k ≤ v.length) : formC (insV v x k) es = if fitsB (v.map Vx.id) x k then 0 else 10 := by
  obtain ⟨hw, h1, h2⟩ := formC_ok.1 h
  have hwi := wf_ins hw hl x k hk
  by_cases hf : fitsAt (v.map Vx.id) x k
  · rw [fitsB_t.2 hf, if_pos rfl]
    refine formC_ok.2 ⟨hwi.2 hf, ?_, ?_⟩
    · unfold labB at h1 ⊢
      rw [Bool.or_eq_false_iff] at h1 ⊢
      refine ⟨List.any_eq_false.2 fun u hu => ?_, h1.2⟩
      rcases mem_insV.1 hu with rfl | hu
      · show ¬ (!mayLab ⟨#[]⟩) = true
        decide
      · exact List.any_eq_false.1 h1.1 u hu
    · unfold attB at h2 ⊢
      rw [Bool.or_eq_false_iff] at h2 ⊢
      refine ⟨List.any_eq_false.2 fun u hu => ?_, h2.2⟩
      rcases mem_insV.1 hu with rfl | hu
      · show ¬ (!mayAtt 0) = true
        decide
      · exact List.any_eq_false.1 h2.1 u hu
  · rw [fitsB_f hf]
    exact formC_no (by rw [insV_len v x k hk]; omega) hw.le fun hw' => hf (hwi.1 hw')
theorem fitsB_any {l : List ID} (h : Rise l) (x : ID) : (List.range (l.length + 1)).any (fitsB l x) = (mayI x && decide (x ∉ l)) := by
  by_cases hm : mayI x = true ∧ x ∉ l
  · rw [hm.1, decide_eq_true hm.2, Bool.and_self, List.any_eq_true]
    obtain ⟨k, hk, hf⟩ := fits_some h hm.1 hm.2
    exact ⟨k, List.mem_range.2 (by omega), fitsB_t.2 hf⟩
  · rw [show (mayI x && decide (x ∉ l)) = false by
      rw [Bool.and_eq_false_iff, decide_eq_false_iff_not]
      by_cases h1 : mayI x = true
      · exact .inr fun h2 => hm ⟨h1, h2⟩
      · exact .inl (by simpa using h1)]
    rw [List.any_eq_false]
    intro k _ hk
    have hf := fitsB_t.1 hk
    exact hm ⟨hf.1, fits_not hf⟩
theorem any_range_succ (p : Nat → Bool) (i : Nat) : (List.range (i + 1)).any p = ((List.range i).any p || p i) := by rw [List.range_succ, List.any_append]; simp
theorem verts_l1 (v : List Vx) (e : List Ed) (x : ID) (m : Bool) (hf0 : formC v e = 0) (hl : v.length < 24) (hr : FitsR v) : E (call F) 0 f5_l1 (⟨(upd (upd (upd (upd (upd (upd Sx.e0 10 (.v (.int .i64 (0)))) 9 (.v (.bool (false)))) 8 (.v (.bool m))) 5 (.v (.bool true))) 3 (.p 3 0)) 2 (.p 2 0)), (upd (upd (upd (upd Sx.h0 10129 (some (.arr true 47 4 (rowsBy Ed.c e)))) 10128 (some (.arr true 38 5 (rowsBy Vx.c v)))) 3 (some (.var false [(.v (.int .i64 (x.s))), (.v (.int .i64 (x.n)))]))) 2 (some (.var false [(.s 10128 0 v.length), (.s 10129 0 e.length)])))⟩ : St) =
    some (.exit 0, (⟨(upd (upd (upd Sx.e0 9 (.v (.bool ((List.range (v.length + 1)).any (fitsB (v.map Vx.id) x))))) 8 (.v (.bool m))) 5 (.v (.bool true))), Sx.h0⟩ : St)) := by
  obtain ⟨hw, _, _⟩ := formC_ok.1 hf0
  have l1 : E (call F) 0 f5_l1 (⟨(upd (upd (upd (upd (upd (upd Sx.e0 10 (.v (.int .i64 (0)))) 9 (.v (.bool ((List.range 0).any (fitsB (v.map Vx.id) x))))) 8 (.v (.bool m))) 5 (.v (.bool true))) 3 (.p 3 0)) 2 (.p 2 0)), (upd (upd (upd (upd Sx.h0 10129 (some (.arr true 47 4 (rowsBy Ed.c e)))) 10128 (some (.arr true 38 5 (rowsBy Vx.c v)))) 3 (some (.var false [(.v (.int .i64 (x.s))), (.v (.int .i64 (x.n)))]))) 2 (some (.var false [(.s 10128 0 v.length), (.s 10129 0 e.length)])))⟩ : St) = some (.exit 0, (⟨(upd (upd (upd Sx.e0 9 (.v (.bool ((List.range (v.length + 1)).any (fitsB (v.map Vx.id) x))))) 8 (.v (.bool m))) 5 (.v (.bool true))), Sx.h0⟩ : St)) := by
    refine loop_to (b := f5_b1) (fun q0 => (⟨(upd (upd (upd (upd (upd (upd Sx.e0 10 (.v (.int .i64 ((q0 : Int))))) 9 (.v (.bool ((List.range q0).any (fitsB (v.map Vx.id) x))))) 8 (.v (.bool m))) 5 (.v (.bool true))) 3 (.p 3 0)) 2 (.p 2 0)), (upd (upd (upd (upd Sx.h0 10129 (some (.arr true 47 4 (rowsBy Ed.c e)))) 10128 (some (.arr true 38 5 (rowsBy Vx.c v)))) 3 (some (.var false [(.v (.int .i64 (x.s))), (.v (.int .i64 (x.n)))]))) 2 (some (.var false [(.s 10128 0 v.length), (.s 10129 0 e.length)])))⟩ : St)) (v.length + 1) ?_ ?_ (by simp)
    · intro i hi
      have hi1 : i ≤ v.length := by omega
      have d1 : decide ((i : Int) ≤ (v.length : Int)) = true := dec_t (by omega)
      have hiz : (i : Int) ≤ (v.length : Int) := by omega
      have f1 := i_diagram_Form (insV v x i) e (fun u hu => by
        rcases mem_insV.1 hu with rfl | hu
        · exact Fits.of (by simp [nx])
        · exact hr u hu)
      rw [form_ins hf0 hl x i hi1] at f1
      have hw1 := wrap_succ (i := i) (n := v.length + 1) hi (by omega)
      rw [any_range_succ]
      have huniq : fitsB (v.map Vx.id) x i = true → (List.range i).any (fitsB (v.map Vx.id) x) = false := fun h => by
        rw [List.any_eq_false]
        intro j hj hb
        exact fits_one (List.mem_range.1 hj) (by rw [List.length_map]; exact hi1) (fitsB_t.1 hb) (fitsB_t.1 h)
      unfold insV at f1
      have hml : (v.take i).length ≤ v.length := by rw [List.length_take]; omega
      have hql : (v.drop i).length ≤ v.length := by rw [List.length_drop]; omega
      have b1 : (v.take i).length * 64 ≤ 140737488355328 := by omega
      have b2 : ((v.take i).length + 1) * 64 ≤ 140737488355328 := by omega
      have b3 : ((v.take i).length + 1 + (v.drop i).length) * 64 ≤ 140737488355328 := by omega
      have e3 : rowsBy Vx.c (v.take i) ++ [[.int .i64 x.s, .int .i64 x.n, .sl .shared 3 [], .str ⟨#[]⟩, .int .i64 0]] = rowsBy Vx.c (v.take i ++ [nx x]) := rowsBy_snoc Vx.c (v.take i) (nx x)
      have e4 : (v.take i ++ [nx x]).take ((v.take i).length + 1) = v.take i ++ [nx x] := List.take_of_length_le (by simp)
      have e5 : (v.take i ++ [nx x] ++ v.drop i).take ((v.take i).length + 1 + (v.drop i).length) = v.take i ++ [nx x] ++ v.drop i := List.take_of_length_le (by simp; omega)
      cases hg : fitsB (v.map Vx.id) x i with
      | true =>
        rw [huniq hg]
        rw [hg] at f1
        simp only [if_true] at f1
        simp only [f5_b1, hiz, b1, b2, b3, e3, e4, e5, f1, hw1, Int.natCast_nonneg, and_self, Bool.false_or, Bool.or_true, go_sem, reduceIte, Nat.reduceEqDiff, Nat.reduceAdd, Nat.reduceMul, Nat.reduceLeDiff, Nat.reduceBEq, List.length_cons, List.length_nil, ne_eq, not_true_eq_false, Nat.testBit, Nat.reduceShiftRight, Nat.reduceAnd, Nat.reduceBNe]
      | false =>
        rw [hg] at f1
        simp only [if_false, Bool.false_eq_true] at f1
        generalize (List.range i).any (fitsB (v.map Vx.id) x) = sm at *
        cases sm
        · simp only [f5_b1, hiz, b1, b2, b3, e3, e4, e5, f1, hw1, Int.natCast_nonneg, and_self, Bool.or_false, go_sem, reduceIte, Nat.reduceEqDiff, Nat.reduceAdd, Nat.reduceMul, Nat.reduceLeDiff, Nat.reduceBEq, List.length_cons, List.length_nil, Int.reduceEq, ne_eq, not_true_eq_false, not_false_eq_true, Nat.testBit, Nat.reduceShiftRight, Nat.reduceAnd, Nat.reduceBNe]
        · simp only [f5_b1, hiz, b1, b2, b3, e3, e4, e5, f1, hw1, Int.natCast_nonneg, and_self, Bool.or_false, go_sem, reduceIte, Nat.reduceEqDiff, Nat.reduceAdd, Nat.reduceMul, Nat.reduceLeDiff, Nat.reduceBEq, List.length_cons, List.length_nil, Int.reduceEq, ne_eq, not_true_eq_false, not_false_eq_true, Nat.testBit, Nat.reduceShiftRight, Nat.reduceAnd, Nat.reduceBNe]
    · simp only [f5_b1, show decide (((v.length + 1 : Nat) : Int) ≤ (v.length : Int)) = false from dec_f (by omega), go_sem, reduceIte, Nat.reduceEqDiff, Nat.reduceAdd, Nat.reduceLeDiff, List.length_cons, List.length_nil]
  exact l1
theorem t_verts (vs : List Vx) (es : List Ed) (x : ID) : call F 5 [.agg [.sl .shared 5 (rowsBy Vx.c vs), .sl .shared 4 (rowsBy Ed.c es)], .agg [.int .i64 x.s, .int .i64 x.n]] = some (.bool true) := by
  have cf := c_few vs es
  have hr := fewVx_fits 30 30 (by decide) vs
  generalize fewVx 30 30 vs = v at *
  generalize es.take 50 = e at *
  have f1 := i_diagram_Form v e hr
  by_cases hok : formC v e = 0
  · rw [hok] at f1
    by_cases hz : v.length < 24
    · have hz0 : decide ((v.length : Int) ≥ 24) = false := dec_f (by omega)
      obtain ⟨hw, _, _⟩ := formC_ok.1 hok
      have v1 := i_diagram_Vertex v x (Fits.of (by omega)) hr (.sl .shared 4 (rowsBy Ed.c e))
      have cm := c_r01_May x.s x.n
      rw [show (⟨x.s, x.n⟩ : ID) = x from rfl] at cm
      have l1 := verts_l1 v e x (mayI x && decide (x ∉ v.map Vx.id)) hok hz hr
      rw [show (v.length + 1) = (v.map Vx.id).length + 1 by rw [List.length_map], fitsB_any hw.sv] at l1
      have hbb : ∀ b : Bool, (b == b) = true := by decide
      cases hc : vxBy v x with
      | none =>
        rw [hc] at v1
        have hx := vxBy_none hc
        rw [decide_eq_true hx, Bool.and_true] at l1
        simp only [vxT] at v1
        generalize mayI x = q at *
        rw [call_code F (show F 5 = some (.code f5) from rfl)]
        cases q
        · simp only [f5, cf, c_shown, f1, hz0, v1, cm, l1, hbb, rowsBy_takeAll, go_sem, reduceIte, reduceCtorEq, Nat.reduceEqDiff, Nat.reduceAdd, Nat.reduceMul, Nat.reduceLeDiff, List.length_cons, List.length_nil, ne_eq, not_true_eq_false]
        · simp only [f5, cf, c_shown, f1, hz0, v1, cm, l1, hbb, rowsBy_takeAll, go_sem, reduceIte, reduceCtorEq, Nat.reduceEqDiff, Nat.reduceAdd, Nat.reduceMul, Nat.reduceLeDiff, List.length_cons, List.length_nil, ne_eq, not_true_eq_false]
      | some u =>
        rw [hc] at v1
        obtain ⟨hu, rfl⟩ := vxBy_some hc
        rw [decide_eq_false (show ¬ u.id ∉ v.map Vx.id from fun h => h (List.mem_map.2 ⟨u, hu, rfl⟩)), Bool.and_false] at l1
        simp only [vxT] at v1
        generalize mayI u.id = q at *
        rw [call_code F (show F 5 = some (.code f5) from rfl)]
        cases q
        · simp only [f5, cf, c_shown, f1, hz0, v1, cm, l1, hbb, rowsBy_takeAll, go_sem, reduceIte, reduceCtorEq, Nat.reduceEqDiff, Nat.reduceAdd, Nat.reduceMul, Nat.reduceLeDiff, List.length_cons, List.length_nil, ne_eq, not_true_eq_false]
        · simp only [f5, cf, c_shown, f1, hz0, v1, cm, l1, hbb, rowsBy_takeAll, go_sem, reduceIte, reduceCtorEq, Nat.reduceEqDiff, Nat.reduceAdd, Nat.reduceMul, Nat.reduceLeDiff, List.length_cons, List.length_nil, ne_eq, not_true_eq_false]
    · have hz0 : decide ((v.length : Int) ≥ 24) = true := dec_t (by omega)
      rw [call_code F (show F 5 = some (.code f5) from rfl)]
      simp only [f5, cf, c_shown, f1, hz0, rowsBy_takeAll, go_sem, reduceIte, reduceCtorEq, Nat.reduceEqDiff, Nat.reduceAdd, Nat.reduceMul, Nat.reduceLeDiff, List.length_cons, List.length_nil, ne_eq, not_true_eq_false]
  · have hd : decide (¬ formC v e = 0) = true := dec_t hok
    rw [call_code F (show F 5 = some (.code f5) from rfl)]
    simp only [f5, cf, c_shown, f1, hd, rowsBy_takeAll, go_sem, reduceIte, reduceCtorEq, Nat.reduceEqDiff, Nat.reduceAdd, Nat.reduceMul, Nat.reduceLeDiff, List.length_cons, List.length_nil, ne_eq]
end Go.Proofs.Ytehcfmohjcjmpaa.Sx
