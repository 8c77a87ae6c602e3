/- How often darts stand in rings; diagrams with the same darts. -/
import Derived.Test.YtehcfmohjcjmpaaSxWf
import Derived.Test.YtehcfmohjcjmpaaSxRot
namespace Go.Proofs.Ytehcfmohjcjmpaa.Sx
open Go
theorem Rot.count {l m : List Dart} (h : Rot l m) (y : Dart) : l.count y = m.count y := by
  obtain ⟨a, b, rfl, rfl⟩ := h
  rw [List.count_append, List.count_append]; omega
theorem allR_append (l m : List Vx) : allR (l ++ m) = allR l ++ allR m := by unfold allR; rw [List.map_append, List.flatten_append]
theorem allR_cons (v : Vx) (m : List Vx) : allR (v :: m) = v.ring ++ allR m := by unfold allR; rw [List.map_cons, List.flatten_cons]
theorem count_set : ∀ {l : List Vx} {k : Nat} (hk : k < l.length) (u : Vx) (y : Dart), (allR (l.set k u)).count y + l[k].ring.count y = (allR l).count y + u.ring.count y
  | v :: l, 0, _, u, y => by
    show (allR (u :: l)).count y + v.ring.count y = _
    rw [allR_cons, allR_cons, List.count_append, List.count_append]; omega
  | v :: l, k + 1, hk, u, y => by
    have := count_set (l := l) (k := k) (by simpa using hk) u y
    show (allR (v :: l.set k u)).count y + (l[k]'(by simpa using hk)).ring.count y = _
    rw [allR_cons, allR_cons, List.count_append, List.count_append]; omega
theorem count_map (f : Vx → Vx) (y : Dart) (g : Nat → Nat) (hg : ∀ a b, g (a + b) = g a + g b) (hf : ∀ v, (f v).ring.count y = g (v.ring.count y)) : ∀ l : List Vx, (allR (l.map f)).count y = g ((allR l).count y)
  | [] => by
    have h0 := hg 0 0
    show 0 = g 0
    simp at h0; omega
  | v :: l => by
    rw [List.map_cons, allR_cons, allR_cons, List.count_append, List.count_append, hg, hf, count_map f y g hg hf l]
theorem count_filter_ne (r : List Dart) (x y : Dart) : (r.filter (fun z => decide (¬ z = x))).count y = if y = x then 0 else r.count y := by
  split
  · rename_i e; subst e
    refine List.count_eq_zero_of_not_mem fun h => ?_
    simp at h
  · rename_i e
    rw [List.count_filter]; simpa using e
theorem count_insL (l : List Dart) (a x y : Dart) : (insL l a x).count y = l.count y + if y = x then 1 else 0 := by
  unfold insL
  have := congrArg (List.count y) (List.take_append_drop (insK l a) l)
  rw [List.count_append] at this
  rw [List.count_append, List.count_append, List.count_singleton]
  by_cases e : y = x
  · subst e; simp; omega
  · rw [if_neg e]
    have : (x == y) = false := by simpa using fun h => e h.symm
    rw [this]; simp; omega
/-- the same names, the same darts -/
theorem wf_of_count {v m : List Vx} {es : List Ed} (h : WF v es) (hid : m.map Vx.id = v.map Vx.id) (ht : ∀ u ∈ m, u.ring = turn u.ring) (hc : ∀ y, (allR m).count y = (allR v).count y) : WF m es := by
  have hl : m.length = v.length := by have := congrArg List.length hid; simpa using this
  refine ⟨by rw [hl]; exact h.lv, h.le, by rw [hid]; exact h.sv, h.se, ht, ?_, fun y => ?_⟩
  · rw [List.nodup_iff_count]
    intro y
    rw [hc]
    exact List.nodup_iff_count.1 h.nd y
  · rw [← h.mem y, ← List.count_pos_iff, ← List.count_pos_iff, hc]
theorem not_wf_count {m : List Vx} {es : List Ed} {y : Dart} (h : 2 ≤ (allR m).count y) : ¬ WF m es := fun hw => by
  have := List.nodup_iff_count.1 hw.nd y
  omega
theorem any_of_map {α β : Type} {f : α → β} {p : β → Bool} {l m : List α} (h : l.map f = m.map f) : l.any (fun x => p (f x)) = m.any (fun x => p (f x)) := by
  have e : ∀ k : List α, k.any (fun x => p (f x)) = (k.map f).any p := fun k => by rw [List.any_map]; rfl
  rw [e, e, h]
theorem labB_same {l m : List Vx} {es : List Ed} (h : l.map Vx.label = m.map Vx.label) : labB l es = labB m es := by
  unfold labB; rw [any_of_map (f := Vx.label) (p := fun s => !mayLab s) h]
theorem attB_same {l m : List Vx} {es : List Ed} (h : l.map Vx.attr = m.map Vx.attr) : attB l es = attB m es := by
  unfold attB; rw [any_of_map (f := Vx.attr) (p := fun s => !mayAtt s) h]
theorem form_same {v m : List Vx} {es : List Ed} (h : formC v es = 0) (hw : WF m es) (h1 : m.map Vx.label = v.map Vx.label) (h2 : m.map Vx.attr = v.map Vx.attr) : formC m es = 0 := by
  obtain ⟨_, a, b⟩ := formC_ok.1 h
  exact formC_ok.2 ⟨hw, by rw [labB_same h1]; exact a, by rw [attB_same h2]; exact b⟩
theorem map_set_of {α β : Type} (f : α → β) {l : List α} {k : Nat} (hk : k < l.length) {x : α} (h : f x = f l[k]) : (l.set k x).map f = l.map f := by
  rw [List.map_set, h]
  have : (l.map f)[k]'(by simpa using hk) = f l[k] := by simp
  rw [← this, List.set_getElem_self]
def reR (v : Vx) (r : List Dart) : Vx := ⟨v.id, r, v.label, v.attr⟩
theorem ring_nodup {v : List Vx} (h : (allR v).Nodup) {u : Vx} (hu : u ∈ v) : u.ring.Nodup := by
  rw [List.nodup_iff_count]
  intro y
  have h1 := List.nodup_iff_count.1 h y
  obtain ⟨k, hk, rfl⟩ := List.mem_iff_getElem.1 hu
  have h2 := count_set hk (reR v[k] []) y
  have h3 : (reR v[k] []).ring.count y = 0 := rfl
  omega
end Go.Proofs.Ytehcfmohjcjmpaa.Sx
