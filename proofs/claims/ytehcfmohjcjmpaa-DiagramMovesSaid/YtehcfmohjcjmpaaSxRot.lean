/- Rings in plain Lean: rotations, and what does not hang on them. -/
import Derived.Test.YtehcfmohjcjmpaaSxRing
namespace Go.Proofs.Ytehcfmohjcjmpaa.Sx
open Go
def Rot (l m : List Dart) : Prop := ∃ a b, l = a ++ b ∧ m = b ++ a
theorem Rot.refl (l : List Dart) : Rot l l := ⟨l, [], by simp, by simp⟩
theorem Rot.symm {l m : List Dart} : Rot l m → Rot m l := fun ⟨a, b, h1, h2⟩ => ⟨b, a, h2, h1⟩
theorem Rot.trans {l m k : List Dart} (h : Rot l m) (h2 : Rot m k) : Rot l k := by
  obtain ⟨a, b, rfl, rfl⟩ := h
  obtain ⟨c, d, e, rfl⟩ := h2
  rcases List.append_eq_append_iff.1 e with ⟨x, rfl, rfl⟩ | ⟨x, rfl, rfl⟩
  · exact ⟨x, d ++ b, by simp, by simp⟩
  · exact ⟨a ++ c, x, by simp, by simp⟩
theorem rot_turn (l : List Dart) : Rot l (turn l) := ⟨_, _, (List.take_append_drop _ l).symm, rfl⟩
theorem Rot.mem {l m : List Dart} (h : Rot l m) (x : Dart) : x ∈ l ↔ x ∈ m := by
  obtain ⟨a, b, rfl, rfl⟩ := h; simp [or_comm]
theorem Rot.len {l m : List Dart} (h : Rot l m) : l.length = m.length := by
  obtain ⟨a, b, rfl, rfl⟩ := h; simp; omega
theorem Rot.nodup {l m : List Dart} (h : Rot l m) (hl : l.Nodup) : m.Nodup := by
  obtain ⟨a, b, rfl, rfl⟩ := h
  rw [List.nodup_append] at hl ⊢
  exact ⟨hl.2.1, hl.1, fun x hx y hy e => hl.2.2 y hy x hx e.symm⟩
theorem Rot.map {l m : List Dart} (h : Rot l m) (f : Dart → Dart) : Rot (l.map f) (m.map f) := by
  obtain ⟨a, b, rfl, rfl⟩ := h; exact ⟨a.map f, b.map f, by simp, by simp⟩
theorem Rot.filter {l m : List Dart} (h : Rot l m) (p : Dart → Bool) : Rot (l.filter p) (m.filter p) := by
  obtain ⟨a, b, rfl, rfl⟩ := h; exact ⟨a.filter p, b.filter p, by simp, by simp⟩
theorem erase_filt (x : Dart) : ∀ {l : List Dart}, l.Nodup → l.erase x = l.filter (fun y => decide (¬ y = x))
  | [], _ => rfl
  | y :: l, h => by
    rw [List.nodup_cons] at h
    by_cases e : y = x
    · subst e
      rw [List.erase_cons_head, List.filter_cons_of_neg (by simp)]
      symm
      rw [List.filter_eq_self]
      intro z hz; simp; intro e; subst e; exact h.1 hz
    · rw [List.erase_cons_tail (by simpa using e), List.filter_cons_of_pos (by simpa using e), erase_filt x h.2]
def repl (x y : Dart) (z : Dart) : Dart := if z = x then y else z
theorem set_map (x y : Dart) : ∀ {l : List Dart}, l.Nodup → l.set (l.idxOf x) y = l.map (repl x y)
  | [], _ => rfl
  | z :: l, h => by
    rw [List.nodup_cons] at h
    by_cases e : z = x
    · subst e
      rw [List.idxOf_cons_self]
      show y :: l = repl z y z :: l.map (repl z y)
      rw [show repl z y z = y by simp [repl]]
      congr 1
      symm
      conv => rhs; rw [← List.map_id l]
      apply List.map_congr_left
      intro w hw
      show repl z y w = w
      unfold repl; rw [if_neg]; intro e; subst e; exact h.1 hw
    · rw [show (z :: l).idxOf x = l.idxOf x + 1 by rw [List.idxOf_cons, show (z == x) = false by simpa using e]; rfl]
      show z :: l.set (l.idxOf x) y = repl x y z :: l.map (repl x y)
      rw [set_map x y h.2, show repl x y z = z by simp [repl, e]]
/-- places round a ring -/
def ga (l : List Dart) (i : Nat) : Dart := l.getD (i % l.length) Dart0
theorem ga_lt {l : List Dart} {i : Nat} (h : i < l.length) : ga l i = l[i] := by
  unfold ga; rw [Nat.mod_eq_of_lt h, List.getD_eq_getElem?_getD, List.getElem?_eq_getElem h]; rfl
theorem ga_mod (l : List Dart) (i : Nat) : ga l (i % l.length) = ga l i := by unfold ga; rw [Nat.mod_mod]
theorem ga_mem {l : List Dart} (h : 0 < l.length) (i : Nat) : ga l i ∈ l := by
  rw [← ga_mod, ga_lt (Nat.mod_lt _ h)]; exact List.getElem_mem _
theorem ga_inj {l : List Dart} (hn : l.Nodup) (h : 0 < l.length) {i j : Nat} (e : ga l i = ga l j) : i % l.length = j % l.length := by
  rw [← ga_mod, ← ga_mod l j, ga_lt (Nat.mod_lt _ h), ga_lt (Nat.mod_lt _ h)] at e
  exact (List.getElem_inj hn).1 e
theorem ga_idx {l : List Dart} {x : Dart} (h : x ∈ l) : ga l (l.idxOf x) = x := by
  obtain ⟨h1, h2⟩ := idxOf_at h
  rw [ga_lt h1]; exact h2
theorem ga_swap (a b : List Dart) (i : Nat) : ga (b ++ a) i = ga (a ++ b) (i + a.length) := by
  by_cases h0 : (a ++ b).length = 0
  · have ha : a = [] := List.eq_nil_of_length_eq_zero (by simp at h0; simp [h0])
    subst ha; simp
  · have hlen : (b ++ a).length = (a ++ b).length := by simp; omega
    have hpos : 0 < (a ++ b).length := by omega
    rw [← ga_mod (b ++ a), ← ga_mod (a ++ b) (i + a.length), ← Nat.mod_add_mod, hlen]
    have hr : i % (a ++ b).length < (a ++ b).length := Nat.mod_lt _ hpos
    generalize i % (a ++ b).length = r at hr
    rw [ga_mod, ga_lt (by rw [hlen]; exact hr)]
    have hl2 : (a ++ b).length = a.length + b.length := by simp
    by_cases h : r < b.length
    · rw [ga_lt (by omega), List.getElem_append_left h, List.getElem_append_right (by omega)]
      congr 1; omega
    · rw [← ga_mod, Nat.mod_eq_sub_mod (by omega), Nat.mod_eq_of_lt (by omega), ga_lt (by omega), List.getElem_append_right (by omega), List.getElem_append_left (by omega)]
      congr 1; omega
theorem Rot.ga {l m : List Dart} (h : Rot l m) : ∃ j, ∀ i, ga m i = ga l (i + j) := by
  obtain ⟨a, b, rfl, rfl⟩ := h
  exact ⟨a.length, ga_swap a b⟩
theorem byD_ga {l : List Dart} {x : Dart} (h : x ∈ l) (n : Nat) : byD l x n = ga l (l.idxOf x + n) := by unfold byD ga; rw [if_pos h]
theorem byD_at {l : List Dart} (hn : l.Nodup) (h : 0 < l.length) (i n : Nat) : byD l (ga l i) n = ga l (i + n) := by
  have hm := ga_mem h i
  rw [byD_ga hm]
  have e := ga_inj hn h (ga_idx hm)
  rw [← ga_mod, ← Nat.mod_add_mod, e, Nat.mod_add_mod, ga_mod]
theorem byD_rot {l m : List Dart} (hn : l.Nodup) (h : Rot l m) (x : Dart) (n : Nat) : byD m x n = byD l x n := by
  by_cases hx : x ∈ l
  · have hm := (h.mem x).1 hx
    have hpos : 0 < l.length := List.length_pos_of_mem hx
    obtain ⟨j, hj⟩ := h.ga
    rw [byD_ga hm, hj]
    have e : ga l (m.idxOf x + j) = x := by rw [← hj, ga_idx hm]
    conv => rhs; rw [← e]
    rw [byD_at hn hpos]
    congr 1; omega
  · unfold byD; rw [if_neg hx, if_neg (fun hm => hx ((h.mem x).2 hm))]
theorem ga_ext {l m : List Dart} (hlen : l.length = m.length) (h : ∀ i, ga l i = ga m i) : l = m := by
  apply List.ext_getElem hlen
  intro i h1 h2
  rw [← ga_lt h1, ← ga_lt h2]; exact h i
theorem ordD_eq {x y : Dart} (h1 : ordD x y ≤ 0) (h2 : ordD y x ≤ 0) : x = y := by
  unfold ordD at *
  split at h1
  · assumption
  · rename_i hne
    rw [if_neg (fun e => hne e.symm)] at h2
    split at h1
    · split at h2
      · omega
      · omega
    · omega
theorem rot_same {l m : List Dart} (hn : l.Nodup) (h : Rot l m) : turn m = turn l := by
  by_cases h0 : l.length = 0
  · have : l = [] := List.eq_nil_of_length_eq_zero h0
    subst this
    have : m = [] := List.eq_nil_of_length_eq_zero (by rw [← h.len]; rfl)
    subst this; rfl
  · have hpos : 0 < l.length := by omega
    have hl0 : l ≠ [] := by intro e; subst e; exact h0 rfl
    have hm0 : m ≠ [] := by intro e; subst e; exact h0 (by rw [h.len]; rfl)
    have e1 : minD m = minD l := ordD_eq (minD_le ((h.mem _).1 (minD_mem hl0))) (minD_le ((h.mem _).2 (minD_mem hm0)))
    have r1 := (rot_turn l)
    have r2 := (rot_turn m)
    apply ga_ext (by rw [turn_length, turn_length, h.len])
    intro i
    obtain ⟨j, hj⟩ := h.ga
    have g1 : ∀ l : List Dart, ∀ i, ga (turn l) i = ga l (i + (l.take (l.idxOf (minD l))).length) := by
      intro l i
      have := ga_swap (l.take (l.idxOf (minD l))) (l.drop (l.idxOf (minD l))) i
      rw [List.take_append_drop] at this
      exact this
    have g2 : ∀ l : List Dart, l ≠ [] → (l.take (l.idxOf (minD l))).length = l.idxOf (minD l) := by
      intro l hl
      have := (idxOf_at (minD_mem hl)).1
      rw [List.length_take]; omega
    rw [g1, g1, g2 l hl0, g2 m hm0, hj]
    have e3 : ga l (m.idxOf (minD m) + j) = ga l (l.idxOf (minD l)) := by
      rw [← hj, ga_idx (minD_mem hm0), ga_idx (minD_mem hl0), e1]
    have e4 := ga_inj hn hpos e3
    rw [← ga_mod, show i + m.idxOf (minD m) + j = i + (m.idxOf (minD m) + j) by omega, ← Nat.add_mod_mod, e4, Nat.add_mod_mod, ga_mod]
theorem turn_turn {l : List Dart} (hn : l.Nodup) : turn (turn l) = turn l := rot_same hn (rot_turn l)
theorem nextD_ga {l : List Dart} (hn : l.Nodup) (h : 0 < l.length) (i : Nat) : nextD l (ga l i) = ga l (i + 1) := byD_at hn h i 1
theorem prevD_ga {l : List Dart} (hn : l.Nodup) (h : 0 < l.length) (i : Nat) : prevD l (ga l i) = ga l (i + (l.length - 1)) := byD_at hn h i _
/-- a ring that ends with a dart -/
theorem ends {l : List Dart} {x : Dart} (hx : x ∈ l) : ∃ w, Rot l (w ++ [x]) := by
  obtain ⟨a, b, rfl⟩ := List.append_of_mem hx
  exact ⟨b ++ a, a ++ [x], b, by simp, by simp⟩
theorem ga_at {l : List Dart} {i : Nat} {x : Dart} (h : l[i]? = some x) : ga l i = x := by
  obtain ⟨h1, h2⟩ := List.getElem?_eq_some_iff.1 h
  rw [ga_lt h1, h2]
/-- what is left joins the neighbours -/
theorem joined {l : List Dart} (hn : l.Nodup) {x : Dart} (hx : x ∈ l) (h3 : ¬ l.length < 3) : nextD (l.erase x) (prevD l x) = nextD l x := by
  obtain ⟨w, hw⟩ := ends hx
  have hnw := hw.nodup hn
  have hlw := hw.len
  have hl2 : (w ++ [x]).length = w.length + 1 := by simp
  have hxw : x ∉ w := by
    rw [List.nodup_append] at hnw
    intro h; exact hnw.2.2 x h x (by simp) rfl
  have hnw' : w.Nodup := by rw [List.nodup_append] at hnw; exact hnw.1
  have er : Rot (l.erase x) w := by
    rw [erase_filt x hn]
    have := hw.filter (fun y => decide (¬ y = x))
    rw [← erase_filt x hnw, List.erase_append_right _ hxw] at this
    simpa using this
  have hm2 : 2 ≤ w.length := by omega
  have hpos : 0 < (w ++ [x]).length := by omega
  have gx : ga (w ++ [x]) w.length = x := by
    rw [ga_lt (by omega)]; simp
  have key : ∀ t, byD l x t = ga (w ++ [x]) (w.length + t) := by
    intro t
    rw [← byD_rot hn hw]
    have := byD_at hnw hpos w.length t
    rw [gx] at this; exact this
  unfold nextD prevD
  rw [key, key, ← byD_rot (hn.erase x) er]
  have e1 : ga (w ++ [x]) (w.length + (l.length - 1)) = ga w (w.length - 1) := by
    rw [← ga_mod, show (w.length + (l.length - 1)) % (w ++ [x]).length = w.length - 1 by
      rw [hlw, hl2, Nat.mod_eq_sub_mod (by omega), Nat.mod_eq_of_lt (by omega)]; omega, ga_lt (by omega), ga_lt (by omega), List.getElem_append_left (by omega)]
  have e2 : ga (w ++ [x]) (w.length + 1) = ga w (w.length - 1 + 1) := by
    rw [← ga_mod, show (w.length + 1) % (w ++ [x]).length = 0 by rw [hl2, Nat.mod_self], ← ga_mod w, show (w.length - 1 + 1) % w.length = 0 by rw [Nat.sub_add_cancel (by omega), Nat.mod_self], ga_lt (by omega), ga_lt (by omega), List.getElem_append_left (by omega)]
  rw [e1, e2, byD_at hnw' (by omega)]
def insL (l : List Dart) (a x : Dart) : List Dart := l.take (insK l a) ++ [x] ++ l.drop (insK l a)
theorem insL_perm (l : List Dart) (a x : Dart) : Rot (insL l a x) ([x] ++ l.drop (insK l a) ++ l.take (insK l a)) := ⟨l.take (insK l a), [x] ++ l.drop (insK l a), by simp [insL], rfl⟩
theorem insL_nodup {l : List Dart} (hn : l.Nodup) {a x : Dart} (hx : x ∉ l) : (insL l a x).Nodup := by
  apply (insL_perm l a x).symm.nodup
  have hr : Rot l (l.drop (insK l a) ++ l.take (insK l a)) := ⟨_, _, (List.take_append_drop _ l).symm, rfl⟩
  rw [List.append_assoc]
  show (x :: (l.drop (insK l a) ++ l.take (insK l a))).Nodup
  rw [List.nodup_cons]
  exact ⟨fun h => hx ((hr.mem x).2 h), hr.nodup hn⟩
theorem insL_len (l : List Dart) (a x : Dart) : (insL l a x).length = l.length + 1 := by
  have := insK_le l a
  unfold insL; simp; omega
theorem mem_insL (l : List Dart) (a x : Dart) : x ∈ insL l a x := by unfold insL; simp
theorem insR_eq {l : List Dart} {a x : Dart} (hx : x ∉ l) : insR l a x = turn (insL l a x) := by unfold insR; rw [if_neg hx]; rfl
theorem insL_filter {l : List Dart} {a x : Dart} (hx : x ∉ l) : (insL l a x).filter (fun y => decide (¬ y = x)) = l := by
  unfold insL
  rw [List.filter_append, List.filter_append, show [x].filter (fun y => decide (¬ y = x)) = [] by simp, List.append_nil, ← List.filter_append, List.take_append_drop, List.filter_eq_self]
  intro z hz; simp; intro e; subst e; exact hx hz
theorem back_ins {l : List Dart} (hn : l.Nodup) {a x : Dart} (hx : x ∉ l) : turn (remR (insR l a x) x) = turn l := by
  have h1 := insL_nodup hn (a := a) hx
  have h2 := rot_turn (insL l a x)
  rw [insR_eq hx]
  unfold remR
  have h3 := h2.nodup h1
  rw [erase_filt x h3]
  have h4 := h2.filter (fun y => decide (¬ y = x))
  rw [insL_filter hx] at h4
  rw [turn_turn (h4.nodup hn), rot_same hn h4]
theorem prev_ins {l : List Dart} (hn : l.Nodup) {a x : Dart} (hx : x ∉ l) (ha : a ∈ l) : prevD (insR l a x) x = a := by
  have h1 := insL_nodup hn (a := a) hx
  have h2 := rot_turn (insL l a x)
  rw [insR_eq hx]
  unfold prevD
  rw [byD_rot h1 h2, turn_length, insL_len]
  obtain ⟨hlt, hat⟩ := idxOf_at ha
  have hk : insK l a = l.idxOf a + 1 := by unfold insK; rw [if_pos ha]
  have hlen := insL_len l a x
  have tl : (l.take (l.idxOf a + 1)).length = l.idxOf a + 1 := by rw [List.length_take]; omega
  have gx : ga (insL l a x) (l.idxOf a + 1) = x := by
    rw [ga_lt (by omega)]
    unfold insL
    rw [List.getElem_append_left (by simp [hk]; omega), List.getElem_append_right (by rw [hk, tl]; exact Nat.le_refl _)]
    simp
  have := byD_at h1 (by omega) (l.idxOf a + 1) (l.length + 1 - 1)
  rw [gx] at this
  rw [this, ← ga_mod, show (l.idxOf a + 1 + (l.length + 1 - 1)) % (insL l a x).length = l.idxOf a by
    rw [hlen, Nat.mod_eq_sub_mod (by omega), Nat.mod_eq_of_lt (by omega)]; omega, ga_lt (by omega)]
  unfold insL
  rw [List.getElem_append_left (by simp [hk]; omega), List.getElem_append_left (by rw [hk, tl]; omega), List.getElem_take]
  exact hat
theorem repl_back {l : List Dart} {o x : Dart} (hx : x ∉ l) : (l.map (repl o x)).map (repl x o) = l := by
  rw [List.map_map]
  conv => rhs; rw [← List.map_id l]
  apply List.map_congr_left
  intro w hw
  show repl x o (repl o x w) = w
  unfold repl
  by_cases h : w = o
  · rw [if_pos h, if_pos rfl, h]
  · rw [if_neg h, if_neg]; intro e; subst e; exact hx hw
theorem repl_mem {l : List Dart} {o x : Dart} (ho : o ∈ l) (hx : x ∉ l) : o ∉ l.map (repl o x) ∧ x ∈ l.map (repl o x) := by
  constructor
  · intro h
    obtain ⟨w, hw, e⟩ := List.mem_map.1 h
    unfold repl at e
    split at e
    · subst e; exact hx ho
    · rename_i h; exact h e
  · exact List.mem_map.2 ⟨o, ho, by simp [repl]⟩
theorem repl_nodup {l : List Dart} (hn : l.Nodup) {o x : Dart} (hx : x ∉ l) : (l.map (repl o x)).Nodup := by
  rw [List.Nodup, List.pairwise_map]
  refine List.Pairwise.imp_of_mem ?_ hn
  intro a b ha hb hab e
  unfold repl at e
  split at e <;> split at e
  · rename_i h1 h2; exact hab (h1.trans h2.symm)
  · subst e; exact hx hb
  · subst e; exact hx ha
  · exact hab e
theorem swapR_eq {l : List Dart} (hn : l.Nodup) {o x : Dart} (ho : o ∈ l) (hx : x ∉ l) : swapR l o x = turn (l.map (repl o x)) := by
  unfold swapR; rw [if_pos ⟨ho, hx⟩, set_map o x hn]
theorem swap_turn {w : List Dart} (hn : w.Nodup) {o x : Dart} (ho : o ∈ w) (hx : x ∉ w) : swapR (turn w) o x = turn (w.map (repl o x)) := by
  have h := rot_turn w
  rw [swapR_eq (h.nodup hn) ((h.mem o).1 ho) (fun hc => hx ((h.mem x).2 hc))]
  exact rot_same (repl_nodup hn hx) (h.map _)
theorem back_swap {l : List Dart} (hn : l.Nodup) {o x : Dart} (ho : o ∈ l) (hx : x ∉ l) : turn (swapR (swapR l o x) x o) = turn l ∧ o ∉ swapR l o x := by
  obtain ⟨h1, h2⟩ := repl_mem ho hx
  rw [swapR_eq hn ho hx, swap_turn (repl_nodup hn hx) h2 h1, repl_back hx, turn_turn hn]
  exact ⟨rfl, fun h => h1 (((rot_turn _).mem o).2 h)⟩
theorem prev_next {l : List Dart} (hn : l.Nodup) {o : Dart} (ho : o ∈ l) : prevD l (nextD l o) = o := by
  have hpos : 0 < l.length := List.length_pos_of_mem ho
  have e := ga_idx ho
  rw [← e, nextD_ga hn hpos, prevD_ga hn hpos, ← ga_mod, show l.idxOf o + 1 + (l.length - 1) = l.idxOf o + l.length by omega, Nat.add_mod_right, ga_mod]
theorem rem_same {l : List Dart} (hn : l.Nodup) (a : Dart) : decide (turn (remR l a) = turn l) = decide (a ∉ l) := by
  by_cases h : a ∈ l
  · have h1 : turn (remR l a) ≠ turn l := by
      intro e
      have e2 := congrArg List.length e
      unfold remR at e2
      rw [turn_length, turn_length, turn_length, List.length_erase_of_mem h] at e2
      have := List.length_pos_of_mem h
      omega
    simp [h1, h]
  · unfold remR
    rw [List.erase_of_not_mem h, turn_turn hn]
    simp [h]
/-- laid in behind the last -/
theorem ins_last {w : List Dart} {a x : Dart} (hn : (w ++ [a]).Nodup) (hx : x ∉ w ++ [a]) : insR (turn (w ++ [a])) a x = turn (w ++ [a] ++ [x]) := by
  obtain ⟨q, p, h1, h2⟩ := rot_turn (w ++ [a])
  have hm := (rot_turn (w ++ [a])).mem
  have hnt := (rot_turn (w ++ [a])).nodup hn
  have hat : a ∈ turn (w ++ [a]) := (hm a).1 (by simp)
  have hxt : x ∉ turn (w ++ [a]) := fun h => hx ((hm x).2 h)
  rw [insR_eq hxt]
  generalize turn (w ++ [a]) = t at *
  subst h2
  have hnx : (w ++ [a] ++ [x]).Nodup := by
    rw [List.nodup_append]; exact ⟨hn, by simp, by intro y hy z hz e; simp at hz; subst hz; subst e; exact hx hy⟩
  refine rot_same hnx ?_
  by_cases hp : p = []
  · subst hp
    simp only [List.append_nil, List.nil_append] at *
    subst h1
    have hk : insK (w ++ [a]) a = w.length + 1 := by
      unfold insK; rw [if_pos hat]
      have : (w ++ [a]).idxOf a = w.length := by
        rw [List.nodup_append] at hn
        rw [List.idxOf_append, if_neg (fun h => hn.2.2 a h a (by simp) rfl)]; simp
      omega
    unfold insL
    rw [hk, List.take_of_length_le (by simp), List.drop_eq_nil_of_le (by simp)]
    simp only [List.append_nil]
    exact Rot.refl _
  · obtain ⟨p', y, rfl⟩ : ∃ p' y, p = p' ++ [y] := ⟨p.dropLast, p.getLast hp, (List.dropLast_concat_getLast hp).symm⟩
    have e : w = q ++ p' ∧ a = y := by
      have := h1
      rw [← List.append_assoc] at this
      obtain ⟨e1, e2⟩ := List.append_inj' this rfl
      exact ⟨e1, by simpa using e2⟩
    obtain ⟨rfl, rfl⟩ := e
    have hk : insK (p' ++ [a] ++ q) a = p'.length + 1 := by
      unfold insK; rw [if_pos hat]
      have : (p' ++ [a] ++ q).idxOf a = p'.length := by
        rw [List.append_assoc, List.nodup_append] at hnt
        rw [List.append_assoc, List.idxOf_append, if_neg (fun h => hnt.2.2 a h a (by simp) rfl)]; simp
      omega
    unfold insL
    rw [hk]
    refine ⟨q, p' ++ [a] ++ [x], by simp, ?_⟩
    rw [show p'.length + 1 = (p' ++ [a]).length by simp, List.take_left, List.drop_left]
theorem ins_first (a x : Dart) : insR (turn []) a x = turn [x] := by
  show insR [] a x = turn [x]
  rw [insR_eq (by simp)]
  congr 1
end Go.Proofs.Ytehcfmohjcjmpaa.Sx
