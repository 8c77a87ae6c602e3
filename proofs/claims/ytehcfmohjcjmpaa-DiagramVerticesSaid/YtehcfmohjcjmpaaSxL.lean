/- DiagramLabels: which labels may be; a diagram with one that may not be. -/
import Derived.Test.YtehcfmohjcjmpaaSxA
import Derived.Test.YtehcfmohjcjmpaaSxWf
namespace Go.Proofs.Ytehcfmohjcjmpaa.Sx
open Go
theorem mayB_append (a b : ByteArray) : mayB (a ++ b) = (mayB a && mayB b) := by
  unfold mayB
  rw [ByteArray.data_append, Array.toList_append, List.all_append]
theorem size_append (a b : ByteArray) : (a ++ b).size = a.size + b.size := by
  show (a ++ b).data.size = a.data.size + b.data.size
  rw [ByteArray.data_append, Array.size_append]
def relab (v : Vx) (s : ByteArray) : Vx := ⟨v.id, v.ring, s, v.attr⟩
theorem map_set_same {α β : Type} (f : α → β) {l : List α} {k : Nat} (hk : k < l.length) {x : α} (h : f x = f l[k]) : (l.set k x).map f = l.map f := by
  rw [List.map_set, h]
  have : (l.map f)[k]'(by simpa using hk) = f l[k] := by simp
  rw [← this, List.set_getElem_self]
theorem allR_set {l : List Vx} {k : Nat} (hk : k < l.length) {x : Vx} (h : x.ring = l[k].ring) : allR (l.set k x) = allR l := by
  unfold allR; rw [map_set_same Vx.ring hk h]
theorem wf_relab {l : List Vx} {es : List Ed} (h : WF l es) {k : Nat} (hk : k < l.length) (s : ByteArray) : WF (l.set k (relab l[k] s)) es := by
  have hr := allR_set hk (x := relab l[k] s) rfl
  refine ⟨by rw [List.length_set]; exact h.lv, h.le, by rw [map_set_same Vx.id hk (x := relab l[k] s) rfl]; exact h.sv, h.se, fun v hv => ?_, by rw [hr]; exact h.nd, fun x => by rw [hr]; exact h.mem x⟩
  rcases List.mem_or_eq_of_mem_set hv with hv | rfl
  · exact h.tn v hv
  · have := h.tn _ (List.getElem_mem hk)
    exact this
theorem labB_relab {l : List Vx} {es : List Ed} (h : labB l es = false) {k : Nat} (hk : k < l.length) (s : ByteArray) : labB (l.set k (relab l[k] s)) es = !mayLab s := by
  unfold labB at h ⊢
  rw [Bool.or_eq_false_iff] at h
  rw [h.2, Bool.or_false]
  cases hs : mayLab s with
  | true =>
    rw [Bool.not_true, List.any_eq_false]
    intro v hv
    rcases List.mem_or_eq_of_mem_set hv with hv | rfl
    · exact List.any_eq_false.1 h.1 v hv
    · show ¬ (!mayLab s) = true
      rw [hs]; simp
  | false =>
    rw [Bool.not_false, List.any_eq_true]
    exact ⟨relab l[k] s, List.mem_set hk _, by show (!mayLab s) = true; rw [hs]; rfl⟩
theorem attB_relab {l : List Vx} {es : List Ed} (h : attB l es = false) {k : Nat} (hk : k < l.length) (s : ByteArray) : attB (l.set k (relab l[k] s)) es = false := by
  unfold attB at h ⊢
  rw [Bool.or_eq_false_iff] at h ⊢
  refine ⟨?_, h.2⟩
  rw [List.any_eq_false]
  intro v hv
  rcases List.mem_or_eq_of_mem_set hv with hv | rfl
  · exact List.any_eq_false.1 h.1 v hv
  · have := List.any_eq_false.1 h.1 _ (List.getElem_mem hk)
    exact this
theorem form_relab {l : List Vx} {es : List Ed} (h : formC l es = 0) {k : Nat} (hk : k < l.length) (s : ByteArray) : formC (l.set k (relab l[k] s)) es = if mayLab s then 0 else 4 := by
  obtain ⟨hw, h1, h2⟩ := formC_ok.1 h
  rw [formC_wf (wf_relab hw hk s), labB_relab h1 hk, attB_relab h2 hk]
  cases mayLab s <;> rfl
set_option maxHeartbeats 1000000 in
theorem t_labels (vs : List Vx) (es : List Ed) (s0 s1 : ByteArray) (h0 : s0.size ≤ 140737488351232) (h1 : s1.size ≤ 140737488351232) (a : Int) : call F 4 [.agg [.sl .shared 5 (rowsBy Vx.c vs), .sl .shared 4 (rowsBy Ed.c es)], .agg [.str s0, .str s1], .int .i64 a] = some (.bool true) := by
  have cf := c_few vs es
  have hr := fewVx_fits 30 30 (by decide) vs
  have hvl0 := fewVx_len 30 30 vs
  have hel0 : (es.take 50).length ≤ 50 := by rw [List.length_take]; omega
  generalize fewVx 30 30 vs = v at *
  generalize es.take 50 = e at *
  have m0 := c_MayLabel s0
  have m1 := c_MayLabel s1
  have m2 := c_MayLabel (s0 ++ s1)
  have hap := mayB_append s0 s1
  have hsz := size_append s0 s1
  have k0 : s0.size + s1.size ≤ 9223372036854775807 := by omega
  have hwr : IntKind.i64.wrap ((s0.size : Int) + (s1.size : Int)) = ((s0.size + s1.size : Nat) : Int) := by rw [wrap64 (by omega) (by omega)]; omega
  have f1 := i_diagram_Form v e hr
  rw [hap, hsz] at m2
  have tail : ∀ g : Bool, mayLab s0 = g → ∀ k (hk : k < v.length), formC v e = 0 → ∃ u : List Vx, v.set k (relab v[k] s0) = u ∧ u.length = v.length ∧ (rowsBy Vx.c v).set k [.int .i64 v[k].id.s, .int .i64 v[k].id.n, .sl .shared 3 (rowsBy Dart.c v[k].ring), .str s0, .int .i64 v[k].attr] = rowsBy Vx.c u ∧
      call F 12 [.agg [.sl .shared 5 (rowsBy Vx.c u), .sl .shared 4 (rowsBy Ed.c e)]] = some (.int .i64 (if g then 0 else 4)) := by
    intro g hg k hk hf
    have h2 := i_diagram_Form (v.set k (relab v[k] s0)) e (fun u hu => by
      rcases List.mem_or_eq_of_mem_set hu with hu | rfl
      · exact hr u hu
      · have := hr _ (List.getElem_mem hk)
        exact this)
    rw [form_relab hf hk, hg] at h2
    exact ⟨_, rfl, List.length_set, rowsBy_set Vx.c v k (relab v[k] s0), h2⟩
  have hm0 : (mayB s0 && decide ((s0.size : Int) ≤ 16)) = mayLab s0 := rfl
  rw [hm0] at m0
  have hm1 : (mayB s1 && decide ((s1.size : Int) ≤ 16)) = mayLab s1 := rfl
  rw [hm1] at m1
  have key : ∃ q : Bool, (mayB s0 && mayB s1 && decide (((s0.size + s1.size : Nat) : Int) ≤ 16)) = q ∧ (q = true → mayLab s0 = true ∧ mayLab s1 = true) ∧ (mayLab s0 = true → mayLab s1 = true → decide (((s0.size + s1.size : Nat) : Int) ≤ 16) = true → q = true) := by
    refine ⟨_, rfl, fun h => ?_, fun h2 h3 h4 => ?_⟩
    · simp only [Bool.and_eq_true, decide_eq_true_eq] at h
      unfold mayLab
      simp only [Bool.and_eq_true, decide_eq_true_eq]
      exact ⟨⟨h.1.1, by omega⟩, h.1.2, by omega⟩
    · unfold mayLab at h2 h3
      simp only [Bool.and_eq_true] at h2 h3
      rw [h2.1, h3.1, h4]; rfl
  obtain ⟨q, hq, q1, q2⟩ := key
  rw [hq] at m2
  have tail0 := tail _ rfl
  obtain ⟨d16, hd⟩ : ∃ d, decide (((s0.size + s1.size : Nat) : Int) ≤ 16) = d := ⟨_, rfl⟩
  rw [hd] at q2
  clear hq
  generalize mayLab s0 = a0 at *
  generalize mayLab s1 = a1 at *
  have hlv : v.length ≤ 100000 := by omega
  have k1 := i_diagram_Clone v e hlv (by omega) hr
  by_cases hok : formC v e = 0
  · rw [hok] at f1
    by_cases hz : a < 0
    · have hz0 : decide (a < 0) = true := dec_t hz
      clear tail tail0
      cases q <;> cases a0 <;> cases a1 <;> cases d16 <;> first
        | (have hx := q1 rfl; simp at hx; done)
        | (have hx := q2 rfl rfl rfl; simp at hx; done)
        | (rw [call_code F (show F 4 = some (.code f4) from rfl)]
           simp only [f4, cf, c_shown, m0, m1, m2, hwr, k0, hd, f1, hz0, rowsBy_takeAll, go_sem, reduceIte, reduceCtorEq, Nat.reduceEqDiff, Nat.reduceAdd, Nat.reduceMul, Nat.reduceLeDiff, List.length_cons, List.length_nil, Int.reduceLT, Int.reduceLE, Int.reduceToNat, Int.cast_ofNat_Int, ne_eq, not_true_eq_false])
    · have hz0 : decide (a < 0) = false := dec_f hz
      by_cases hg : (v.length : Int) ≤ a
      · have hg1 : decide (a ≥ (v.length : Int)) = true := dec_t hg
        clear tail tail0
        cases q <;> cases a0 <;> cases a1 <;> cases d16 <;> first
          | (have hx := q1 rfl; simp at hx; done)
          | (have hx := q2 rfl rfl rfl; simp at hx; done)
          | (rw [call_code F (show F 4 = some (.code f4) from rfl)]
             simp only [f4, cf, c_shown, m0, m1, m2, hwr, k0, hd, f1, hz0, hg1, rowsBy_takeAll, go_sem, reduceIte, reduceCtorEq, Nat.reduceEqDiff, Nat.reduceAdd, Nat.reduceMul, Nat.reduceLeDiff, List.length_cons, List.length_nil, Int.reduceLT, Int.reduceLE, Int.reduceToNat, Int.cast_ofNat_Int, ne_eq, not_true_eq_false])
      · obtain ⟨k, rfl⟩ : ∃ k : Nat, a = (k : Int) := ⟨a.toNat, by omega⟩
        have hk : k < v.length := by omega
        have hkz : (k : Int) < (v.length : Int) := by omega
        have hg1 : decide ((k : Int) ≥ (v.length : Int)) = false := dec_f (by omega)
        obtain ⟨u, _, hul, hus, t1⟩ := tail0 k hk hok
        have htk : u.take v.length = u := List.take_of_length_le (by omega)
        have hle := len_eq (n := v.length) (m := v.length) rfl
        clear tail tail0
        cases q <;> cases a0 <;> cases a1 <;> cases d16 <;> first
          | (have hx := q1 rfl; simp at hx; done)
          | (have hx := q2 rfl rfl rfl; simp at hx; done)
          | (simp only [if_true, if_false, Bool.false_eq_true] at t1
             rw [call_code F (show F 4 = some (.code f4) from rfl)]
             simp only [f4, cf, c_shown, m0, m1, m2, hwr, k0, hd, f1, hz0, hg1, k1, hkz, rowsBy_get Vx.c hk, Vx.c, t1, hus, htk, Int.natCast_nonneg, and_self, List.set_cons_zero, List.set_cons_succ, rowsBy_takeAll, beq_self_eq_true, go_sem, reduceIte, reduceCtorEq, Nat.reduceEqDiff, Nat.reduceAdd, Nat.reduceMul, Nat.reduceLeDiff, List.length_cons, List.length_nil, Int.reduceLT, Int.reduceLE, Int.reduceToNat, Int.reduceEq, Int.cast_ofNat_Int, ne_eq, not_true_eq_false, not_false_eq_true])
  · have hd1 : decide (¬ formC v e = 0) = true := dec_t hok
    clear tail tail0
    cases q <;> cases a0 <;> cases a1 <;> cases d16 <;> first
      | (have hx := q1 rfl; simp at hx; done)
      | (have hx := q2 rfl rfl rfl; simp at hx; done)
      | (rw [call_code F (show F 4 = some (.code f4) from rfl)]
         simp only [f4, cf, c_shown, m0, m1, m2, hwr, k0, hd, f1, hd1, rowsBy_takeAll, go_sem, reduceIte, reduceCtorEq, Nat.reduceEqDiff, Nat.reduceAdd, Nat.reduceMul, Nat.reduceLeDiff, List.length_cons, List.length_nil, Int.reduceLT, Int.reduceLE, Int.reduceToNat, Int.cast_ofNat_Int, ne_eq])
end Go.Proofs.Ytehcfmohjcjmpaa.Sx
