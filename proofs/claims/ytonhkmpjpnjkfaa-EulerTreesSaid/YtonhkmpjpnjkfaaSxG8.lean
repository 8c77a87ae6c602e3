/- Faces, parts and the genus of diagrams, in plain Lean: what an edge more or less does to them; bounds. What the functions of faces come to. Faces gone round: what the iterator's rounds come to. All faces: what the program's rounds, and the reference's, come to. Lesser places spread along edges, in plain Lean: n rounds of that come to the least place of each part. Parts of a diagram that is well formed, in plain Lean: which vertices hang together; the reference's rounds; parts as lists. Chapter 6: its functions, the program's and the reference's, as what they come to in a diagram that is well formed. Faces, parts and the genus of a diagram that is well formed. Diagrams compared, copied; their names. Chapter 7: the head of its statements; counts, bounds, trees, what may be. The forms of this seat's arguments. -/
import Derived.Test.YtonhkmpjpnjkfaaRows
import Derived.Test.YtonhkmpjpnjkfaaSxG4
import Derived.Test.YtonhkmpjpnjkfaaSxG5
import Derived.Test.YtonhkmpjpnjkfaaSxG6
import Derived.Test.YtonhkmpjpnjkfaaSxG7
set_option maxRecDepth 100000
set_option linter.unusedSimpArgs false
set_option linter.unusedVariables false
namespace Go.Proofs.Ytonhkmpjpnjkfaa.Sx
/-! ### what an edge less does to the faces -/
/-- faces: cycles, and vertices alone -/
theorem Dec.faces {l m : List Vx} {a : Dart} (h : Pr l) (ha : a ∈ allR l) (c : Cut l m a (othD a)) {cs : List (List Dart)} (hc : Dec (phiD l) (allR l) cs) :
    ∃ cs', Dec (phiD m) (allR m) cs' ∧ ((∃ c ∈ cs, a ∈ c ∧ othD a ∈ c) ∧ cs'.length + aloneN m = cs.length + aloneN l + 1 ∧ (∀ u ∈ allR m, ∀ w ∈ allR m, phiD l u = a → phiD l w = othD a → ¬ ∃ c ∈ cs', u ∈ c ∧ w ∈ c) ∨
      (¬ ∃ c ∈ cs, a ∈ c ∧ othD a ∈ c) ∧ cs'.length + aloneN m + 1 = cs.length + aloneN l ∧ (∀ u ∈ allR m, ∀ w ∈ allR m, phiD l u = a → phiD l w = othD a → ∃ c ∈ cs', u ∈ c ∧ w ∈ c)) := by
  have hb := h.oth a ha
  have hab : a ≠ othD a := (h.ne a ha).symm
  have hal := c.alone h.nd hab ha hb
  have e1 : phiD l a = sigD l (othD a) := rfl
  have e2 : phiD l (othD a) = sigD l a := by unfold phiD; rw [othD_othD]
  obtain ⟨cs', hd, hcase⟩ := hc.cut (g := phiD m) (D' := allR m) ha hb hab (fun x => c.mem x) (fun y hy => c.phi h ha hy)
  refine ⟨cs', hd, ?_⟩
  rw [e1, e2] at hcase
  have two : (∃ c ∈ cs, a ∈ c ∧ othD a ∈ c) → ¬ (sigD l a = othD a ∧ sigD l (othD a) = a) := by
    rintro ⟨c, hcc, h1, h2⟩ ⟨h3, h4⟩
    exact hab ((hc.cy c hcc).within (S := fun z => z = a) (fun z hz => by rw [hz, e1, h4]) h1 rfl _ h2).symm
  have one : (¬ ∃ c ∈ cs, a ∈ c ∧ othD a ∈ c) → sigD l a ≠ a ∧ sigD l (othD a) ≠ othD a := by
    intro hn
    constructor
    · intro h3
      obtain ⟨c, hcc, h1⟩ := List.mem_flatten.1 ((hc.mem _).2 hb)
      have := (hc.cy c hcc).step h1
      rw [e2, h3] at this
      exact hn ⟨c, hcc, this, h1⟩
    · intro h3
      obtain ⟨c, hcc, h1⟩ := List.mem_flatten.1 ((hc.mem _).2 ha)
      have := (hc.cy c hcc).step h1
      rw [e1, h3] at this
      exact hn ⟨c, hcc, h1, this⟩
  rcases hcase with ⟨hs, he, hx⟩ | ⟨hs, he, hx⟩
  · refine .inl ⟨hs, ?_, hx⟩
    rw [hal, if_neg (two hs)]
    omega
  · refine .inr ⟨hs, ?_, hx⟩
    have k := one hs
    rw [hal, if_neg k.1, if_neg k.2]
    have : (if sigD l (othD a) = a ∧ sigD l a = othD a then 1 else 0) = (if sigD l a = othD a ∧ sigD l (othD a) = a then 1 else 0) := by
      simp only [and_comm]
    omega
/-! ### which vertices an edge joins -/
theorem ringAt_lt {l : List Vx} {u : Nat} (h : u < l.length) : ringAt l u = l[u].ring := by
  unfold ringAt; rw [List.getD_eq_getElem?_getD, List.getElem?_eq_getElem h]; rfl
theorem ringAt_mem {l : List Vx} {u : Nat} {x : Dart} (h : x ∈ ringAt l u) : u < l.length := by
  rcases Nat.lt_or_ge u l.length with h1 | h1
  · exact h1
  · unfold ringAt at h
    rw [List.getD_eq_getElem?_getD, List.getElem?_eq_none h1] at h
    cases h
theorem stepV_symm {l : List Vx} (u w : Nat) (h : stepV l u w) : stepV l w u := by
  obtain ⟨x, h1, h2⟩ := h
  exact ⟨othD x, h2, by rw [othD_othD]; exact h1⟩
theorem at_ring {l : List Vx} {x : Dart} (h : x ∈ allR l) : ∃ u, u < l.length ∧ x ∈ ringAt l u := by
  obtain ⟨v, hv, hx⟩ := (allR_mem l x).1 h
  obtain ⟨i, hi, rfl⟩ := List.mem_iff_getElem.1 hv
  exact ⟨i, hi, by rw [ringAt_lt hi]; exact hx⟩
theorem ringAt_all {l : List Vx} {u : Nat} {x : Dart} (h : x ∈ ringAt l u) : x ∈ allR l := by
  have hu := ringAt_mem h
  rw [ringAt_lt hu] at h
  exact mem_allR (List.getElem_mem hu) h
theorem ringAt_one {l : List Vx} (hn : (allR l).Nodup) {u w : Nat} {x : Dart} (h : x ∈ ringAt l u) (k : x ∈ ringAt l w) : u = w := by
  have hu := ringAt_mem h
  have hw := ringAt_mem k
  rw [ringAt_lt hu] at h
  rw [ringAt_lt hw] at k
  exact ring_one hn hu hw h k
theorem sig_ringAt {l : List Vx} (hn : (allR l).Nodup) {u : Nat} {x : Dart} (h : x ∈ ringAt l u) : sigD l x ∈ ringAt l u := by
  have hu := ringAt_mem h
  rw [ringAt_lt hu] at h ⊢
  exact sigD_mem hn (List.getElem_mem hu) h
theorem Cut.rings {l m : List Vx} {a b : Dart} (c : Cut l m a b) {u : Nat} {x : Dart} : x ∈ ringAt m u ↔ x ∈ ringAt l u ∧ x ≠ a ∧ x ≠ b := by
  have key : ∀ (hu : u < l.length) (hu' : u < m.length), x ∈ m[u].ring ↔ x ∈ l[u].ring ∧ x ≠ a ∧ x ≠ b := fun hu hu' => by
    rw [← (c.rot u hu hu').mem x, List.mem_filter, List.mem_filter]
    simp only [decide_eq_true_eq, and_assoc]
  constructor
  · intro h
    have hu := ringAt_mem h
    have hu2 : u < l.length := by rw [c.len]; exact hu
    rw [ringAt_lt hu] at h
    rw [ringAt_lt hu2]
    exact (key hu2 hu).1 h
  · rintro ⟨h, h1, h2⟩
    have hu := ringAt_mem h
    have hu2 : u < m.length := by rw [← c.len]; exact hu
    rw [ringAt_lt hu] at h
    rw [ringAt_lt hu2]
    exact (key hu hu2).2 ⟨h, h1, h2⟩
theorem Cut.step {l m : List Vx} {a : Dart} (c : Cut l m a (othD a)) {p q : Nat} (hn : (allR l).Nodup) (hp : a ∈ ringAt l p) (hq : othD a ∈ ringAt l q) (u w : Nat) : stepV l u w ↔ withE (stepV m) p q u w := by
  constructor
  · rintro ⟨x, h1, h2⟩
    by_cases e1 : x = a
    · subst e1; exact .inr (.inl ⟨ringAt_one hn h1 hp, ringAt_one hn h2 hq⟩)
    · by_cases e2 : x = othD a
      · subst e2
        rw [othD_othD] at h2
        exact .inr (.inr ⟨ringAt_one hn h1 hq, ringAt_one hn h2 hp⟩)
      · refine .inl ⟨x, c.rings.2 ⟨h1, e1, e2⟩, c.rings.2 ⟨h2, fun e => e2 ?_, fun e => e1 (othD_inj e)⟩⟩
        rw [← e, othD_othD]
  · rintro (⟨x, h1, h2⟩ | ⟨rfl, rfl⟩ | ⟨rfl, rfl⟩)
    · exact ⟨x, (c.rings.1 h1).1, (c.rings.1 h2).1⟩
    · exact ⟨a, hp, hq⟩
    · exact ⟨othD a, hq, by rw [othD_othD]; exact hp⟩
/-- a walk along a face goes from vertex to vertex -/
theorem pth_con {l m : List Vx} {a : Dart} (h : Pr l) (c : Cut l m a (othD a)) : ∀ {r : List Dart} {x y : Dart} {u w : Nat}, Pth (phiD l) x r y → (∀ z ∈ x :: r, z ∈ allR l ∧ z ≠ a ∧ z ≠ othD a) → x ∈ ringAt l u → y ∈ ringAt l w → Con (stepV m) u w := by
  have one : ∀ {x : Dart} {u w : Nat}, x ∈ allR l → x ≠ a → x ≠ othD a → x ∈ ringAt l u → phiD l x ∈ ringAt l w → Con (stepV m) u w := by
    intro x u w hx h1 h2 hu hw
    obtain ⟨k, _, hk⟩ := at_ring (h.oth x hx)
    have e : k = w := ringAt_one h.nd (sig_ringAt h.nd hk) hw
    subst e
    exact .one ⟨x, c.rings.2 ⟨hu, h1, h2⟩, c.rings.2 ⟨hk, fun e => h2 (by rw [← e, othD_othD]), fun e => h1 (othD_inj e)⟩⟩
  intro r
  induction r with
  | nil =>
    intro x y u w hp hr hu hw
    obtain ⟨h1, h2, h3⟩ := hr x (by simp)
    refine one h1 h2 h3 hu ?_
    rw [show phiD l x = y from hp]; exact hw
  | cons z r ih =>
    intro x y u w hp hr hu hw
    obtain ⟨h1, h2, h3⟩ := hr x (by simp)
    obtain ⟨h4, _, _⟩ := hr z (by simp)
    obtain ⟨k, _, hk⟩ := at_ring h4
    refine (one h1 h2 h3 hu (by rw [hp.1]; exact hk)).trans (ih hp.2 (fun z' hz' => hr z' (by simp at hz' ⊢; exact .inr hz')) hk hw)
/-- an edge between two faces holds nothing together alone -/
theorem con_without {l m : List Vx} {a : Dart} (h : Pr l) (ha : a ∈ allR l) (c : Cut l m a (othD a)) {cs : List (List Dart)} (hc : Dec (phiD l) (allR l) cs) (hn : ¬ ∃ c ∈ cs, a ∈ c ∧ othD a ∈ c) {p q : Nat} (hp : a ∈ ringAt l p) (hq : othD a ∈ ringAt l q) :
    Con (stepV m) q p := by
  obtain ⟨A, rest, e, he, hae, hA, pm, hd⟩ := hc.front ha
  have pA : Pth (phiD l) a A a := hd.cy (a :: A) (by simp)
  have hphi : phiD l a ∈ ringAt l q := sig_ringAt h.nd hq
  cases A with
  | nil =>
    have : phiD l a = a := pA
    rw [this] at hphi
    rw [ringAt_one h.nd hp hphi]
    exact .refl _
  | cons x r =>
    obtain ⟨e1, e2⟩ := pA
    rw [e1] at hphi
    refine pth_con h c e2 (fun z hz => ?_) hphi hp
    have hze : z ∈ e := (hA z).2 (by simp at hz ⊢; exact .inr hz)
    refine ⟨(hc.mem z).1 (List.mem_flatten.2 ⟨e, he, hze⟩), ?_, fun e' => hn ⟨e, he, hae, e' ▸ hze⟩⟩
    rintro rfl
    have := hd.nd
    simp only [List.flatten_cons, List.cons_append, List.nodup_cons] at this
    exact this.1 (by simp only [List.mem_cons, List.mem_append] at hz ⊢; rcases hz with hz | hz <;> simp [hz])
/-- places of vertices, faces, edges, parts -/
structure Eul (l : List Vx) (v e f p : Nat) : Prop where
  v : v = l.length
  e : 2 * e = (allR l).length
  f : ∃ cs, Dec (phiD l) (allR l) cs ∧ f = cs.length + aloneN l
  p : ∃ lab, Lab (stepV l) l.length lab ∧ p = partsN lab l.length
def cutE (l : List Vx) (a : Dart) : List Vx := l.map fun v => reR v ((v.ring.filter (fun y => decide (¬ y = a))).filter (fun y => decide (¬ y = othD a)))
theorem cutE_cut (l : List Vx) (a : Dart) : Cut l (cutE l a) a (othD a) := by
  refine ⟨by simp [cutE], fun i h h' => ?_⟩
  simp only [cutE, List.getElem_map, reR]
  exact .refl _
theorem cut_len {l m : List Vx} {a : Dart} (h : Pr l) (ha : a ∈ allR l) (c : Cut l m a (othD a)) : (allR l).length = (allR m).length + 2 := by
  have hn : (a :: othD a :: allR m).Nodup := by
    simp only [List.nodup_cons, List.mem_cons, not_or]
    exact ⟨⟨(h.ne a ha).symm, fun hm => ((c.mem _).1 hm).2.1 rfl⟩, fun hm => ((c.mem _).1 hm).2.2 rfl, c.nd h.nd⟩
  have := len_of_mem (b := a :: othD a :: allR m) h.nd hn fun x => by
    simp only [List.mem_cons, c.mem]
    constructor
    · intro hx
      by_cases h1 : x = a
      · exact .inl h1
      · by_cases h2 : x = othD a
        · exact .inr (.inl h2)
        · exact .inr (.inr ⟨hx, h1, h2⟩)
    · rintro (rfl | rfl | ⟨hx, _⟩)
      · exact ha
      · exact h.oth _ ha
      · exact hx
  rw [this]; rfl
/-- an edge less -/
theorem Eul.cut {l m : List Vx} {a : Dart} (h : Pr l) (ha : a ∈ allR l) (c : Cut l m a (othD a)) {v e f p v' e' f' p' : Nat} (k : Eul l v e f p) (k' : Eul m v' e' f' p') :
    v' = v ∧ e = e' + 1 ∧ ((f' = f + 1 ∧ (p' = p ∨ p' = p + 1)) ∨ (f = f' + 1 ∧ p' = p)) := by
  obtain ⟨cs, hc, rfl⟩ := k.f
  obtain ⟨cs0, hc0, rfl⟩ := k'.f
  obtain ⟨lab, hl, rfl⟩ := k.p
  obtain ⟨lab', hl', rfl⟩ := k'.p
  obtain ⟨cs', hc', hcase⟩ := hc.faces h ha c
  have hlen := hc'.len hc0
  have hcl := cut_len h ha c
  have h1 := k.e
  have h2 := k'.e
  obtain ⟨i, hi, hai⟩ := at_ring ha
  obtain ⟨j, hj, haj⟩ := at_ring (h.oth a ha)
  have hl2 : Lab (withE (stepV m) i j) l.length lab := hl.iff fun u w => c.step h.nd hai haj u w
  rw [c.len] at hl2 hi hj
  have hpw := parts_with (R := stepV m) stepV_symm hi hj hl' hl2
  refine ⟨by rw [k.v, k'.v, c.len], by omega, ?_⟩
  rw [← c.len] at hpw
  rw [← c.len]
  rcases hcase with ⟨_, hf, _⟩ | ⟨hn, hf, _⟩
  · refine .inl ⟨by omega, ?_⟩
    split at hpw <;> omega
  · refine .inr ⟨by omega, ?_⟩
    have hcon := (con_without h ha c hc hn hai haj).symm stepV_symm
    rw [if_pos hcon] at hpw
    omega
theorem eul_ex {l : List Vx} (h : Pr l) {e : Nat} (he : 2 * e = (allR l).length) : ∃ f p, Eul l l.length e f p := by
  obtain ⟨lab, hl⟩ := lab_ex (stepV l) l.length
  exact ⟨_, _, rfl, he, ⟨_, (phiD_oo h).dec (Nat.le_refl _), rfl⟩, ⟨lab, hl, rfl⟩⟩
theorem Eul.uniq {l : List Vx} {v e f p v' e' f' p' : Nat} (k : Eul l v e f p) (k' : Eul l v' e' f' p') : v' = v ∧ e' = e ∧ f' = f ∧ p' = p := by
  obtain ⟨cs, hc, rfl⟩ := k.f
  obtain ⟨cs0, hc0, rfl⟩ := k'.f
  obtain ⟨lab, hl, rfl⟩ := k.p
  obtain ⟨lab', hl', rfl⟩ := k'.p
  refine ⟨by rw [k.v, k'.v], by have := k.e; have := k'.e; omega, by rw [hc.len hc0], partsN_congr fun u hu => hl'.uniq hl hu⟩
/-- the genus -/
theorem Eul.genus : ∀ (n : Nat) {l : List Vx}, (allR l).length ≤ n → Pr l → ∀ {v e f p : Nat}, Eul l v e f p → ∃ g : Nat, v + f + 2 * g = e + 2 * p := by
  intro n
  induction n with
  | zero =>
    intro l hn h v e f p k
    have hnil : allR l = [] := List.eq_nil_of_length_eq_zero (by omega)
    obtain ⟨cs, hc, rfl⟩ := k.f
    obtain ⟨lab, hl, rfl⟩ := k.p
    have he := k.e
    rw [hnil] at he
    have hcs : cs = [] := by
      cases cs with
      | nil => rfl
      | cons c cs =>
        have := hc.cy c (by simp)
        cases c with
        | nil => cases this
        | cons x r =>
          have := (hc.mem x).1 (by simp)
          rw [hnil] at this; cases this
    subst hcs
    have hal : aloneN l = l.length := by
      unfold aloneN
      refine List.countP_eq_length.2 fun v hv => ?_
      cases hr : v.ring with
      | nil => rfl
      | cons x r =>
        have := mem_allR hv (x := x) (by rw [hr]; simp)
        rw [hnil] at this; cases this
    have hparts := parts_none hl (fun u w => by
      rintro ⟨x, h1, _⟩
      have := ringAt_all (u := u) h1
      rw [hnil] at this; cases this)
    refine ⟨0, ?_⟩
    rw [k.v, hal, hparts]
    simp at he
    simp; omega
  | succ n ih =>
    intro l hn h v e f p k
    by_cases h0 : (allR l).length ≤ n
    · exact ih h0 h k
    · have hne : allR l ≠ [] := fun e => by rw [e] at h0; simp at h0
      obtain ⟨a, ha⟩ := List.exists_mem_of_ne_nil _ hne
      have c := cutE_cut l a
      have h' := c.pr h
      have hcl := cut_len h ha c
      have he := k.e
      obtain ⟨f', p', k'⟩ := eul_ex h' (e := e - 1) (by omega)
      obtain ⟨g', hg'⟩ := ih (by omega) h' k'
      obtain ⟨a1, a2, a3⟩ := Eul.cut h ha c k k'
      rcases a3 with ⟨a3, a4 | a4⟩ | ⟨a3, a4⟩
      · exact ⟨g' + 1, by omega⟩
      · exact ⟨g', by omega⟩
      · exact ⟨g', by omega⟩
/-- each part has a face, and a vertex -/
theorem Eul.faces_le {l : List Vx} (h : Pr l) {v e f p : Nat} (k : Eul l v e f p) : p ≤ f ∧ p ≤ v := by
  obtain ⟨cs, hc, rfl⟩ := k.f
  obtain ⟨lab, hl, rfl⟩ := k.p
  refine ⟨?_, by rw [k.v]; exact partsN_le _ _⟩
  -- darts of one face are in one part
  have key : ∀ c ∈ cs, ∀ x ∈ c, ∀ y ∈ c, ∀ u w, x ∈ ringAt l u → y ∈ ringAt l w → Con (stepV l) u w := by
    intro c hcc x hx y hy u w hu hw
    have := (hc.cy c hcc).within (S := fun z => z ∈ allR l ∧ ∀ w, z ∈ ringAt l w → Con (stepV l) u w) (fun z hz => by
      obtain ⟨h1, h2⟩ := hz
      obtain ⟨i, _, hi⟩ := at_ring h1
      obtain ⟨j, _, hj⟩ := at_ring (h.oth z h1)
      have hs := sig_ringAt h.nd hj
      refine ⟨ringAt_all hs, fun w hw => ?_⟩
      have e : j = w := ringAt_one h.nd hs hw
      subst e
      exact (h2 i hi).trans (.one ⟨z, hi, hj⟩)) hx ⟨(hc.mem x).1 (List.mem_flatten.2 ⟨c, hcc, hx⟩), fun w hw => by rw [ringAt_one h.nd hu hw]; exact .refl _⟩ y hy
    exact this.2 w hw
  unfold partsN aloneN
  -- those whose ring is empty, those whose ring is not
  have count_split : ∀ (us : List Nat), us.countP (fun u => decide (lab u = u)) = us.countP (fun u => decide (lab u = u ∧ ringAt l u = [])) + us.countP (fun u => decide (lab u = u ∧ ringAt l u ≠ [])) := by
    intro us
    induction us with
    | nil => rfl
    | cons u us ih =>
      simp only [List.countP_cons, ih, decide_eq_true_eq]
      by_cases h1 : lab u = u <;> by_cases h2 : ringAt l u = [] <;> simp [h1, h2] <;> omega
  have e1 : (List.range l.length).countP (fun u => decide (lab u = u ∧ ringAt l u = [])) ≤ l.countP (fun v => v.ring.isEmpty) := by
    have e : l.countP (fun v => v.ring.isEmpty) = (List.range l.length).countP (fun u => (ringAt l u).isEmpty) := by
      have : l = (List.range l.length).map (fun u => l.getD u ⟨ID0, [], ⟨#[]⟩, 0⟩) := by
        refine List.ext_getElem (by simp) fun i h1 h2 => ?_
        simp [h1]
      conv => lhs; rw [this]
      rw [List.countP_map]; rfl
    rw [e]
    refine List.countP_mono_left fun u _ hu => ?_
    have := of_decide_eq_true hu
    rw [this.2]; rfl
  have e2 : (List.range l.length).countP (fun u => decide (lab u = u ∧ ringAt l u ≠ [])) ≤ cs.length := by
    rw [List.countP_eq_length_filter]
    have inj : ∀ (us : List Nat) (ds : List (List Dart)), us.Nodup → (∀ d ∈ ds, d ∈ cs) → (∀ u ∈ us, u < l.length ∧ lab u = u ∧ ∃ x ∈ ringAt l u, x ∈ ds.flatten) → us.length ≤ ds.length := by
      intro us
      induction us with
      | nil => intro ds _ _ _; exact Nat.zero_le _
      | cons u us ih =>
        intro ds hnd hds hus
        rw [List.nodup_cons] at hnd
        obtain ⟨h1, h2, x, hx, hxd⟩ := hus u (by simp)
        obtain ⟨d, hd, hxd⟩ := List.mem_flatten.1 hxd
        obtain ⟨rest, pm⟩ := perm_front hd
        have := ih rest hnd.2 (fun d hd => hds d (pm.mem_iff.2 (by simp [hd]))) (fun w hw => by
          obtain ⟨k1, k2, y, hy, hyd⟩ := hus w (by simp [hw])
          refine ⟨k1, k2, y, hy, ?_⟩
          have hyd' := (pm.flatten.mem_iff).1 hyd
          rw [List.flatten_cons, List.mem_append] at hyd'
          rcases hyd' with hyd' | hyd'
          · exfalso
            have hcon := key d (hds d hd) x hxd y hyd' u w hx hy
            have := (hl.eq stepV_symm h1 k1).1 hcon
            rw [h2, k2] at this
            exact hnd.1 (this ▸ hw)
          · exact hyd')
        rw [pm.length_eq]
        simp; omega
    refine inj _ cs (List.nodup_range.filter _) (fun _ h => h) fun u hu => ?_
    obtain ⟨hu1, hu2⟩ := List.mem_filter.1 hu
    have hu2 := of_decide_eq_true hu2
    obtain ⟨x, hx⟩ := List.exists_mem_of_ne_nil _ hu2.2
    exact ⟨List.mem_range.1 hu1, hu2.1, x, hx, (hc.mem x).2 (ringAt_all hx)⟩
  have := count_split (List.range l.length)
  omega
end Go.Proofs.Ytonhkmpjpnjkfaa.Sx
namespace Go.Proofs.Ytonhkmpjpnjkfaa.Sx
open Go
theorem c_ident_Other (x : Dart) (h : x.d = 0 ∨ x.d = 1) : call F 68 [.agg [.int .i64 x.e.s, .int .i64 x.e.n, .int .i64 x.d]] = some (.agg [.int .i64 x.e.s, .int .i64 x.e.n, .int .i64 (1 - x.d)]) := by
  obtain ⟨e, d⟩ := x
  simp only at h
  have h0 : IntKind.i64.wrap (xorB .i64 0 1) = 1 := by decide
  have h1 : IntKind.i64.wrap (xorB .i64 1 1) = 0 := by decide
  rcases h with rfl | rfl
  · rw [call_code F (show F 68 = some (.code f68) from rfl)]
    simp only [f68, h0, go_sem, reduceIte, reduceCtorEq, Nat.reduceEqDiff, Nat.reduceAdd, List.length_cons, List.length_nil, Int.reduceSub]
  · rw [call_code F (show F 68 = some (.code f68) from rfl)]
    simp only [f68, h1, go_sem, reduceIte, reduceCtorEq, Nat.reduceEqDiff, Nat.reduceAdd, List.length_cons, List.length_nil, Int.reduceSub]
theorem dartsE_snoc (es : List Ed) (e : Ed) : dartsE (es ++ [e]) = dartsE es ++ [⟨e.id, 0⟩, ⟨e.id, 1⟩] := by unfold dartsE; rw [List.flatMap_append]; simp
theorem rowsBy_two {l : List Dart} (e : ID) : rowsBy Dart.c l ++ [[.int .i64 e.s, .int .i64 e.n, .int .i64 0], [.int .i64 e.s, .int .i64 e.n, .int .i64 1]] = rowsBy Dart.c (l ++ [⟨e, 0⟩, ⟨e, 1⟩]) := by rw [← rowsBy_append]; rfl
theorem i_face_Darts (vs : TV) (es : List Ed) (he : es.length ≤ 100000) : call F 52 [.agg [vs, .sl .shared 4 (rowsBy Ed.c es)]] = some (.sl (.own 39) 3 (rowsBy Dart.c (dartsE es))) := by
  have hw : es.length ≤ 9223372036854775807 := by omega
  have l1 : E (cs F) 0 f52_l1 (⟨(upd (upd (upd (upd Sx.e0 10 (.v (.int .i64 (0)))) 9 (.v (.int .i64 ((es.length : Int))))) 8 (.v (.sl .shared 4 (rowsBy Ed.c es)))) 3 (.v (.sl (.tight 39) 3 []))), Sx.h0⟩ : St) = some (if es.length = 0 then (.exit 0, (⟨(upd Sx.e0 3 (.v (.sl (.tight 39) 3 []))), Sx.h0⟩ : St)) else (.exit 0, (⟨(upd Sx.e0 3 (.s 3 0 (dartsE es).length)), (upd Sx.h0 3 (some (.arr false 39 3 (rowsBy Dart.c (dartsE es)))))⟩ : St))) := by
    refine loop_grow (b := f52_b1) _ (fun q0 => (⟨(upd (upd (upd (upd Sx.e0 10 (.v (.int .i64 ((q0 : Int))))) 9 (.v (.int .i64 ((es.length : Int))))) 8 (.v (.sl .shared 4 (rowsBy Ed.c es)))) 3 (.s 3 0 (dartsE (es.take q0)).length)), (upd Sx.h0 3 (some (.arr false 39 3 (rowsBy Dart.c (dartsE (es.take q0))))))⟩ : St)) (es.length) ?_ (by simp) ?_ ?_ ?_ (by simp)
    · intro h0
      simp only [f52_b1, show decide ((0 : Int) < (es.length : Int)) = false from decide_eq_false (by omega), go_sem, reduceIte, Nat.reduceEqDiff]
    · intro hn
      have hs : es.take 1 = [es[0]] := List.take_succ_eq_append_getElem (i := 0) hn
      have d1 : decide ((0 : Int) < (es.length : Int)) = true := decide_eq_true (by omega)
      have h1z : (0 : Int) < (es.length : Int) := by omega
      have hd : dartsE [es[0]] = [⟨es[0].id, 0⟩, ⟨es[0].id, 1⟩] := by simp [dartsE]
      have c1 := c_ident_Other ⟨es[0].id, 0⟩ (.inl rfl)
      simp only [Int.reduceSub] at c1
      rw [hs, hd]
      simp only [f52_b1, h1z, rowsBy_get Ed.c hn, Ed.c, c1, show IntKind.i64.wrap 1 = 1 from rfl, rowsBy, Dart.c, go_sem, reduceIte, Nat.reduceEqDiff, Nat.reduceAdd, Nat.reduceMul, Nat.reduceLeDiff, Nat.reduceBEq, List.length_cons, List.length_nil, Int.reduceAdd, Int.reduceToNat, Int.cast_ofNat_Int, Nat.testBit, Nat.reduceShiftRight, Nat.reduceAnd, Nat.reduceBNe]
    · intro i hi0 hi
      have h1z : (i : Int) < (es.length : Int) := by omega
      have hs : es.take (i + 1) = es.take i ++ [es[i]] := List.take_succ_eq_append_getElem hi
      have hl : (dartsE (es.take i)).length ≤ 2 * i := by rw [dartsE_len, List.length_take]; omega
      have c1 := c_ident_Other ⟨es[i].id, 0⟩ (.inl rfl)
      simp only [Int.reduceSub] at c1
      rw [hs, dartsE_snoc]
      generalize dartsE (es.take i) = q at *
      have h5 : (q.length + 2) * 24 ≤ 140737488355328 := by omega
      have h6 := rowsBy_two (l := q) es[i].id
      simp only [f52_b1, h1z, rowsBy_get Ed.c hi, Ed.c, c1, h5, h6, wrap_succ hi hw, List.length_append, go_sem, reduceIte, Nat.reduceEqDiff, Nat.reduceAdd, Nat.reduceMul, Nat.reduceLeDiff, Nat.reduceBEq, List.length_cons, List.length_nil, Nat.testBit, Nat.reduceShiftRight, Nat.reduceAnd, Nat.reduceBNe]
    · intro hn
      rw [List.take_length]
      simp only [f52_b1, dec_ge (Nat.le_refl es.length), go_sem, reduceIte, Nat.reduceEqDiff]
  rw [call_code F (show F 52 = some (.code f52) from rfl)]
  by_cases h0 : es.length = 0
  · rw [if_pos h0] at l1
    have e0 : es = [] := List.eq_nil_of_length_eq_zero h0
    have e1 : dartsE es = [] := by rw [e0]; rfl
    rw [e1]
    simp only [f52, l1, rowsBy, go_sem, reduceIte, reduceCtorEq, Nat.reduceEqDiff, Nat.reduceAdd, List.length_cons, List.length_nil]
  · rw [if_neg h0] at l1
    simp only [f52, l1, go_sem, reduceIte, reduceCtorEq, Nat.reduceEqDiff, Nat.reduceAdd, List.length_cons, List.length_nil]
theorem ring_le {l : List Vx} {v : Vx} (hv : v ∈ l) : v.ring.length ≤ (allR l).length := by
  induction l with
  | nil => cases hv
  | cons u l ih =>
    rw [allR_cons, List.length_append]
    rcases List.mem_cons.1 hv with rfl | hv
    · omega
    · have := ih hv; omega
theorem WF.fits {l : List Vx} {es : List Ed} (h : WF l es) : Fits l := by have := h.lv; exact Fits.of (by omega)
theorem WF.ring80 {l : List Vx} {es : List Ed} (h : WF l es) {v : Vx} (hv : v ∈ l) : v.ring.length ≤ 80 := by
  have h1 := ring_le hv
  rw [h.many] at h1
  have := h.le
  omega
theorem WF.fitsR {l : List Vx} {es : List Ed} (h : WF l es) : FitsR l := fun v hv => by
  have := h.ring80 hv
  exact Fits.of (by omega)
theorem WF.side {l : List Vx} {es : List Ed} (h : WF l es) {x : Dart} (hx : x ∈ allR l) : x.d = 0 ∨ x.d = 1 := by
  obtain ⟨e, _, h⟩ := dartsE_mem.1 ((h.mem x).1 hx)
  rcases h with rfl | rfl
  · exact .inl rfl
  · exact .inr rfl
theorem sigD_none {l : List Vx} {x : Dart} (h : atBy l x = none) : sigD l x = Dart0 := by unfold sigD; rw [h]
theorem sigD_some {l : List Vx} {x : Dart} {v : Vx} (h : atBy l x = some v) : sigD l x = nextD v.ring x := by unfold sigD; rw [h]
theorem at_mem {l : List Vx} {x : Dart} {v : Vx} (h : atBy l x = some v) : x ∈ allR l := mem_allR (atBy_some h).1 (atBy_some h).2
/-- a dart, and whether it is one -/
def sgT (l : List Vx) (x : Dart) : TV := .tup [dartT (sigD l x), .bool (decide (x ∈ allR l))]
def phT (l : List Vx) (x : Dart) : TV := .tup [dartT (if x ∈ allR l then phiD l x else Dart0), .bool (decide (x ∈ allR l))]
theorem i_face_Sigma (l : List Vx) (x : Dart) (hl : Fits l) (hr : FitsR l) (es : TV) : call F 83 [.agg [.sl .shared 5 (rowsBy Vx.c l), es], .agg [.int .i64 x.e.s, .int .i64 x.e.n, .int .i64 x.d]] = some (sgT l x) := by
  have hle : (l).length ≤ 5864062014634 := hl.le
  have hw : (l).length ≤ 9223372036854775807 := Nat.le_trans hle (by decide)
  have S : ∀ n, n ≤ (l).length → (∀ i, i < n → ∀ hi : i < (l).length, (fun v : Vx => decide (x ∈ v.ring)) (l)[i] = false) → ∀ r, E (cs F) 0 f83_b1 (⟨(upd (upd (upd (upd (upd Sx.e0 13 (.v (.int .i64 ((n : Int))))) 12 (.v (.int .i64 ((l.length : Int))))) 11 (.v (.sl .shared 5 (rowsBy Vx.c l)))) 4 (.p 4 0)) 3 (.p 3 0)), (upd (upd Sx.h0 4 (some (.var false [(.v (.int .i64 (0))), (.v (.int .i64 (0))), (.v (.int .i64 (0)))]))) 3 (some (.var false [(.v (.int .i64 (x.e.s))), (.v (.int .i64 (x.e.n))), (.v (.int .i64 (x.d)))])))⟩ : St) = some r → r.1 ≠ .norm →
      E (cs F) 0 f83_l1 (⟨(upd (upd (upd (upd (upd Sx.e0 13 (.v (.int .i64 (0)))) 12 (.v (.int .i64 ((l.length : Int))))) 11 (.v (.sl .shared 5 (rowsBy Vx.c l)))) 4 (.p 4 0)) 3 (.p 3 0)), (upd (upd Sx.h0 4 (some (.var false [(.v (.int .i64 (0))), (.v (.int .i64 (0))), (.v (.int .i64 (0)))]))) 3 (some (.var false [(.v (.int .i64 (x.e.s))), (.v (.int .i64 (x.e.n))), (.v (.int .i64 (x.d)))])))⟩ : St) = some r := by
    intro n hn hno r hf hrr
    refine loop_to (b := f83_b1) (fun i => (⟨(upd (upd (upd (upd (upd Sx.e0 13 (.v (.int .i64 ((i : Int))))) 12 (.v (.int .i64 ((l.length : Int))))) 11 (.v (.sl .shared 5 (rowsBy Vx.c l)))) 4 (.p 4 0)) 3 (.p 3 0)), (upd (upd Sx.h0 4 (some (.var false [(.v (.int .i64 (0))), (.v (.int .i64 (0))), (.v (.int .i64 (0)))]))) 3 (some (.var false [(.v (.int .i64 (x.e.s))), (.v (.int .i64 (x.e.n))), (.v (.int .i64 (x.d)))])))⟩ : St)) n ?_ hf hrr
    intro i hi
    have h1 : i < (l).length := Nat.lt_of_lt_of_le hi hn
    have h1z : (i : Int) < ((l).length : Int) := Int.ofNat_lt.2 h1
    have hne := hno i hi h1
    have hv := i_ring_Next l[i].ring x (hr _ (List.getElem_mem h1))
    rw [show decide (x ∈ l[i].ring) = false from hne] at hv
    simp only [dartT] at hv
    simp only [f83_b1, h1z, rowsBy_get Vx.c h1, Vx.c, hv, wrap_succ h1 hw, go_sem, reduceIte, Nat.reduceEqDiff, Nat.reduceAdd, Nat.reduceMul, Nat.reduceLeDiff, List.length_cons, List.length_nil]
  have S := S ((l).findIdx (fun v : Vx => decide (x ∈ v.ring))) List.findIdx_le_length (fun i h1 h2 => findIdx_not h1 h2)
  rcases findIdx_cases (fun v : Vx => decide (x ∈ v.ring)) (l) with h0 | ⟨hlt, hp⟩
  · rw [h0] at S
    have := S _ (by simp only [f83_b1, dec_ge (Nat.le_refl (l).length), go_sem, reduceIte, Nat.reduceEqDiff]
                    rfl) (by simp)
    have hn : atBy l x = none := by rw [atBy, firstBy_none h0]
    rw [sgT, sigD_none hn, dec_f (atBy_none hn)]
    rw [call_code F (show F 83 = some (.code f83) from rfl)]
    simp only [f83, this, dartT, Dart0, ID0, go_sem, reduceIte, reduceCtorEq, Nat.reduceEqDiff, Nat.reduceAdd, Nat.reduceLeDiff, List.length_cons, List.length_nil]
  · have hs : atBy l x = some l[(l).findIdx (fun v : Vx => decide (x ∈ v.ring))] := by rw [atBy, firstBy_some hlt]
    rw [sgT, sigD_some hs, dec_t (at_mem hs)]
    generalize (l).findIdx (fun v : Vx => decide (x ∈ v.ring)) = n at *
    have hltz : (n : Int) < ((l).length : Int) := Int.ofNat_lt.2 hlt
    have hv := i_ring_Next l[n].ring x (hr _ (List.getElem_mem hlt))
    rw [show decide (x ∈ l[n].ring) = true from hp] at hv
    simp only [dartT] at hv ⊢
    have := S _ (by simp only [f83_b1, hltz, rowsBy_get Vx.c hlt, Vx.c, hv, go_sem, reduceIte, Nat.reduceEqDiff, Nat.reduceAdd, Nat.reduceMul, Nat.reduceLeDiff, List.length_cons, List.length_nil]
                    rfl) (by simp)
    rw [call_code F (show F 83 = some (.code f83) from rfl)]
    simp only [f83, this, go_sem, reduceIte, reduceCtorEq, Nat.reduceEqDiff, Nat.reduceAdd, Nat.reduceLeDiff, List.length_cons, List.length_nil]
theorem atBy_isSome {l : List Vx} {x : Dart} (h : x ∈ allR l) : ∃ v, atBy l x = some v := by
  cases hc : atBy l x with
  | none => exact absurd h (atBy_none hc)
  | some v => exact ⟨v, rfl⟩
theorem i_face_Phi {l : List Vx} {es : List Ed} (h : WF l es) (x : Dart) : call F 70 [.agg [.sl .shared 5 (rowsBy Vx.c l), .sl .shared 4 (rowsBy Ed.c es)], .agg [.int .i64 x.e.s, .int .i64 x.e.n, .int .i64 x.d]] = some (phT l x) := by
  have ca := i_At l x h.fits h.fitsR (.sl .shared 4 (rowsBy Ed.c es))
  by_cases hx : x ∈ allR l
  · obtain ⟨v, hv⟩ := atBy_isSome hx
    have co := c_ident_Other x (h.side hx)
    have cg := i_face_Sigma l (othD x) h.fits h.fitsR (.sl .shared 4 (rowsBy Ed.c es))
    have h2 : othD x ∈ allR l := h.pr.oth x hx
    rw [sgT, dec_t h2] at cg
    rw [hv] at ca
    rw [phT, if_pos hx, dec_t hx]
    simp only [atT, idT, dartT, othD] at ca cg ⊢
    rw [call_code F (show F 70 = some (.code f70) from rfl)]
    simp only [f70, ca, co, cg, phiD, othD, go_sem, reduceIte, reduceCtorEq, Nat.reduceEqDiff, Nat.reduceAdd, Nat.reduceMul, Nat.reduceLeDiff, Nat.reduceBEq, List.length_cons, List.length_nil, Nat.testBit, Nat.reduceShiftRight, Nat.reduceAnd, Nat.reduceBNe]
  · have hn : atBy l x = none := by
      cases hc : atBy l x with
      | none => rfl
      | some v => exact absurd (at_mem hc) hx
    rw [hn] at ca
    rw [phT, if_neg hx, dec_f hx]
    simp only [atT, idT, dartT, Dart0, ID0] at ca ⊢
    rw [call_code F (show F 70 = some (.code f70) from rfl)]
    simp only [f70, ca, go_sem, reduceIte, reduceCtorEq, Nat.reduceEqDiff, Nat.reduceAdd, Nat.reduceMul, Nat.reduceLeDiff, List.length_cons, List.length_nil]
end Go.Proofs.Ytonhkmpjpnjkfaa.Sx
namespace Go.Proofs.Ytonhkmpjpnjkfaa.Sx
open Go
/-- the first darts of a face -/
def firsts (f : Dart → Dart) (x : Dart) (i : Nat) : List Dart := (List.range i).map fun k => it f k x
theorem firsts_snoc (f : Dart → Dart) (x : Dart) (i : Nat) : firsts f x (i + 1) = firsts f x i ++ [it f i x] := by unfold firsts; rw [List.range_succ, List.map_append]; rfl
theorem firsts_len (f : Dart → Dart) (x : Dart) (i : Nat) : (firsts f x i).length = i := by unfold firsts; simp
def pcD (x : Dart) : TV := .pc [.int .i64 x.e.s, .int .i64 x.e.n, .int .i64 x.d]
def obD (x : Dart) : Option Ob := some (.var false [.v (.int .i64 x.e.s), .v (.int .i64 x.e.n), .v (.int .i64 x.d)])
def pcG (l : List Vx) (es : List Ed) : TV := .pc [.sl .shared 5 (rowsBy Vx.c l), .sl .shared 4 (rowsBy Ed.c es)]
theorem rowsBy_dart {l : List Dart} (x : Dart) : rowsBy Dart.c l ++ [[.int .i64 x.e.s, .int .i64 x.e.n, .int .i64 x.d]] = rowsBy Dart.c (l ++ [x]) := rowsBy_snoc Dart.c l x
def asE (l : List Vx) (es : List Ed) (x : Dart) : Nat → LV := upd (upd (upd (upd Sx.e0 4 (LV.p 1000004 0)) 2 (.v (pcG l es))) 1 (.v (pcD x))) 0 .u
def asF (l : List Vx) (es : List Ed) (x : Dart) : Nat → LV := upd (upd (upd (upd (upd Sx.e0 22 (.v (.bool false))) 4 (LV.p 1000004 0)) 2 (.v (pcG l es))) 1 (.v (pcD x))) 0 .u
theorem i_round (l : List Vx) (es : List Ed) (x : Dart) : call F 53 [.agg [.sl .shared 5 (rowsBy Vx.c l), .sl .shared 4 (rowsBy Ed.c es)], .agg [.int .i64 x.e.s, .int .i64 x.e.n, .int .i64 x.d]] = some (.fn 69 [pcD x, pcG l es]) := by
  simp only [pcD, pcG]
  rw [call_code F (show F 53 = some (.code f53) from rfl)]
  simp only [f53, go_sem, reduceIte, reduceCtorEq, Nat.reduceEqDiff, Nat.reduceAdd, List.length_cons, List.length_nil]
end Go.Proofs.Ytonhkmpjpnjkfaa.Sx
namespace Go.Proofs.Ytonhkmpjpnjkfaa.Sx
open Go
def rowF (p : List Dart) : List TV := [.sl .shared 3 (rowsBy Dart.c p)]
/-- a dart more: the face of it, if it was not told -/
def stepF (f : Dart → Dart) (q : List (List Dart) × List Dart) (x : Dart) : List (List Dart) × List Dart := if x ∈ q.2 then q else (q.1 ++ [orb f 100 x], q.2 ++ orb f 100 x)
theorem stepF_fold (f : Dart → Dart) : ∀ (xs : List Dart) (q : List (List Dart) × List Dart), (xs.foldl (stepF f) q).1 = q.1 ++ cycF f 100 xs q.2
  | [], q => by simp [cycF]
  | x :: xs, q => by
    rw [List.foldl_cons, stepF_fold f xs, stepF, cycF]
    split
    · rfl
    · simp
/-- what is told is closed -/
theorem stepF_told {f : Dart → Dart} {D : List Dart} (oo : OneOne f D) (hn : D.length ≤ 100) : ∀ (xs : List Dart) (q : List (List Dart) × List Dart), (∀ x ∈ xs, x ∈ D) → (∀ y ∈ q.2, y ∈ D ∧ f y ∈ q.2) → (∀ y ∈ (xs.foldl (stepF f) q).2, y ∈ D ∧ f y ∈ (xs.foldl (stepF f) q).2)
  | [], q, _, h => h
  | x :: xs, q, hx, h => by
    rw [List.foldl_cons]
    refine stepF_told oo hn xs _ (fun y hy => hx y (by simp [hy])) ?_
    unfold stepF
    split
    · exact h
    · intro y hy
      simp only [List.mem_append] at hy ⊢
      rcases hy with hy | hy
      · exact ⟨(h y hy).1, .inl (h y hy).2⟩
      · exact ⟨oo.orb_in (hx x (by simp)) 100 y hy, .inr ((oo.orb_cy (hx x (by simp)) hn).step hy)⟩
def facesD (l : List Vx) (es : List Ed) : List (List Dart) := cycF (phiD l) 100 (dartsE es) []
def faR (v3 : LV) (k i : Nat) (fn : LV) : Rnd := { bd := .seq f39_ra f39_rb, p := 23, env := upd (upd (upd (upd (upd (upd (upd (upd Sx.e0 22 fn) 13 (.v (.int .i64 ((i : Int))))) 12 (.v (.int .i64 ((k : Int))))) 11 (.s 11 0 k)) 7 (LV.p 7 0)) 4 (LV.p 4 0)) 3 v3) 1 (LV.p 1 0), lo := 0, ks := [(1000004, 1000004), (1, 1), (3, 3), (4, 4), (7, 7), (11, 11), (10256, 10256)] }
theorem faces_loop {l : List Vx} {es : List Ed} (h : WF l es) {x : Dart} (hx : x ∈ allR l) (told : List Dart) (ht : ∀ y ∈ trD l x, y ∉ told) (v3 : LV) (o3 : Option Ob) (ho : (v3 = .v (.sl (.tight 40) 1 []) ∧ o3 = none) ∨ ∃ fs : List (List Dart), v3 = .s 3 0 fs.length ∧ o3 = some (.arr false 40 1 (rowsBy rowF fs))) (D : List Dart) (k0 : Nat) (fn : LV) :
    E ((cs F).ring (faR v3 D.length k0 fn)) 1000000 f69_l1 ⟨asE l es x, upd (upd (upd (upd (upd (upd (upd Sx.h0 10256 (some (.map false true false (mapD told)))) 11 (some (.arr false 39 3 (rowsBy Dart.c D)))) 7 (some (.var false [.v (.sl (.tight 39) 3 [])]))) 4 (some (.var false [.m 10256]))) 3 o3) 1 (some (.var false [.v (.sl .shared 5 (rowsBy Vx.c l)), .v (.sl .shared 4 (rowsBy Ed.c es))]))) 1000004 (obD x)⟩ =
      some (.ret, ⟨upd (upd (upd (upd (upd Sx.e0 22 (.v (.bool true))) 4 (LV.p 1000004 0)) 2 (.v (pcG l es))) 1 (.v (pcD x))) 0 .u, upd (upd (upd (upd (upd (upd (upd (upd Sx.h0 10448 (some (.arr false 39 3 (rowsBy Dart.c (trD l x))))) 10256 (some (.map false true false (mapD (told ++ trD l x))))) 11 (some (.arr false 39 3 (rowsBy Dart.c D)))) 7 (some (.var false [.s 10448 0 (trD l x).length]))) 4 (some (.var false [.m 10256]))) 3 o3) 1 (some (.var false [.v (.sl .shared 5 (rowsBy Vx.c l)), .v (.sl .shared 4 (rowsBy Ed.c es))]))) 1000004 (obD x)⟩) := by
  have oo := phiD_oo h.pr
  have hlen : (allR l).length ≤ 100 := by rw [h.many]; have := h.le; omega
  obtain ⟨hk, hback⟩ := oo.per_lt hx hlen
  have hne : ∀ i, i < per (phiD l) 100 x → it (phiD l) (i + 1) x ≠ x := fun i hi => per_not hi
  have hmem : ∀ i, it (phiD l) i x ∈ allR l := fun i => it_mem oo.mem hx i
  have htr : trD l x = firsts (phiD l) x (per (phiD l) 100 x + 1) := rfl
  have hnd := oo.orb_nd hx 100
  have hno : ∀ i, i ≤ per (phiD l) 100 x → it (phiD l) i x ∉ told ++ firsts (phiD l) x i := fun i hi hm => by
    rcases List.mem_append.1 hm with hm | hm
    · refine ht _ ?_ hm
      rw [htr]; unfold firsts; rw [List.mem_map]
      exact ⟨i, by rw [List.mem_range]; omega, rfl⟩
    · unfold firsts at hm
      obtain ⟨j, hj, e⟩ := List.mem_map.1 hm
      rw [List.mem_range] at hj
      have h1 : j < (orb (phiD l) 100 x).length := by rw [orb_len]; omega
      have h2 : i < (orb (phiD l) 100 x).length := by rw [orb_len]; omega
      have := (List.getElem_inj hnd (h₀ := h1) (h₁ := h2)).1 (by rw [orb_get, orb_get]; exact e)
      omega
  rw [htr]
  have hk100 : per (phiD l) 100 x < 100 := by omega
  clear hnd ht htr
  generalize per (phiD l) 100 x = n at *
  have key : ∀ i : Nat, call F 70 [.agg [.sl .shared 5 (rowsBy Vx.c l), .sl .shared 4 (rowsBy Ed.c es)], .agg [.int .i64 (it (phiD l) i x).e.s, .int .i64 (it (phiD l) i x).e.n, .int .i64 (it (phiD l) i x).d]] = some (.tup [dartT (it (phiD l) (i + 1) x), .bool true]) := fun i => by
    have := i_face_Phi h (it (phiD l) i x)
    rw [phT, if_pos (hmem i), dec_t (hmem i)] at this
    exact this
  have g := loop_grow (C := (cs F).ring (faR v3 D.length k0 fn)) (lo := 1000000) (b := f69_b1) ⟨asE l es x, upd (upd (upd (upd (upd (upd (upd Sx.h0 10256 (some (.map false true false (mapD told)))) 11 (some (.arr false 39 3 (rowsBy Dart.c D)))) 7 (some (.var false [.v (.sl (.tight 39) 3 [])]))) 4 (some (.var false [.m 10256]))) 3 o3) 1 (some (.var false [.v (.sl .shared 5 (rowsBy Vx.c l)), .v (.sl .shared 4 (rowsBy Ed.c es))]))) 1000004 (obD x)⟩
    (fun i => ⟨asF l es x, upd (upd (upd (upd (upd (upd (upd (upd Sx.h0 10448 (some (.arr false 39 3 (rowsBy Dart.c (firsts (phiD l) x i))))) 10256 (some (.map false true false (mapD (told ++ firsts (phiD l) x i))))) 11 (some (.arr false 39 3 (rowsBy Dart.c D)))) 7 (some (.var false [.s 10448 0 (firsts (phiD l) x i).length]))) 4 (some (.var false [.m 10256]))) 3 o3) 1 (some (.var false [.v (.sl .shared 5 (rowsBy Vx.c l)), .v (.sl .shared 4 (rowsBy Ed.c es))]))) 1000004 (obD (it (phiD l) i x))⟩) n
    (r0 := (.ret, ⟨upd (upd (upd (upd (upd Sx.e0 22 (.v (.bool true))) 4 (LV.p 1000004 0)) 2 (.v (pcG l es))) 1 (.v (pcD x))) 0 .u, upd (upd (upd (upd (upd (upd (upd (upd Sx.h0 10448 (some (.arr false 39 3 (rowsBy Dart.c (firsts (phiD l) x (n + 1)))))) 10256 (some (.map false true false (mapD (told ++ firsts (phiD l) x (n + 1)))))) 11 (some (.arr false 39 3 (rowsBy Dart.c D)))) 7 (some (.var false [.s 10448 0 (firsts (phiD l) x (n + 1)).length]))) 4 (some (.var false [.m 10256]))) 3 o3) 1 (some (.var false [.v (.sl .shared 5 (rowsBy Vx.c l)), .v (.sl .shared 4 (rowsBy Ed.c es))]))) 1000004 (obD x)⟩))
    (r := (.ret, ⟨upd (upd (upd (upd (upd Sx.e0 22 (.v (.bool true))) 4 (LV.p 1000004 0)) 2 (.v (pcG l es))) 1 (.v (pcD x))) 0 .u, upd (upd (upd (upd (upd (upd (upd (upd Sx.h0 10448 (some (.arr false 39 3 (rowsBy Dart.c (firsts (phiD l) x (n + 1)))))) 10256 (some (.map false true false (mapD (told ++ firsts (phiD l) x (n + 1)))))) 11 (some (.arr false 39 3 (rowsBy Dart.c D)))) 7 (some (.var false [.s 10448 0 (firsts (phiD l) x (n + 1)).length]))) 4 (some (.var false [.m 10256]))) 3 o3) 1 (some (.var false [.v (.sl .shared 5 (rowsBy Vx.c l)), .v (.sl .shared 4 (rowsBy Ed.c es))]))) 1000004 (obD x)⟩))
    ?_ (by simp) ?_ ?_ ?_ (by simp)
  · rw [show (if n = 0 then _ else _) = _ from ite_self _] at g
    exact g
  · intro h0
    subst h0
    have c := key 0
    have e0 : it (phiD l) 0 x = x := rfl
    have e1 : it (phiD l) (0 + 1) x = x := hback
    have e2 : firsts (phiD l) x (0 + 1) = [x] := rfl
    have hm := hno 0 (Nat.le_refl _)
    rw [e0, e1] at c
    rw [e2]
    have e3 : firsts (phiD l) x 0 = [] := rfl
    rw [e0, e3, List.append_nil] at hm
    have u1 := upd_mapD x told
    rw [if_neg hm] at u1
    simp only [asE, faR, pcD, pcG, obD, dartT, keyL, Dart.c] at c u1 ⊢
    rcases ho with ⟨rfl, rfl⟩ | ⟨fs, rfl, rfl⟩
    · simp only [f69_b1, f39_ra, f39_rb, Nat.reduceLT, c, u1, go_sem, reduceIte, reduceCtorEq, Nat.reduceEqDiff, Nat.reduceAdd, Nat.reduceMul, Nat.reduceLeDiff, List.length_cons, List.length_nil, not_false_eq_true]
    · simp only [f69_b1, f39_ra, f39_rb, Nat.reduceLT, c, u1, go_sem, reduceIte, reduceCtorEq, Nat.reduceEqDiff, Nat.reduceAdd, Nat.reduceMul, Nat.reduceLeDiff, List.length_cons, List.length_nil, not_false_eq_true]
  · intro hn
    have c := key 0
    have e0 : it (phiD l) 0 x = x := rfl
    have e2 : firsts (phiD l) x 1 = [x] := rfl
    have hd := dec_f (hne 0 hn)
    have hm := hno 0 (Nat.zero_le _)
    rw [e0] at c
    rw [e2]
    rw [Nat.zero_add] at c hd
    have e3 : firsts (phiD l) x 0 = [] := rfl
    rw [e0, e3, List.append_nil] at hm
    have u1 := upd_mapD x told
    rw [if_neg hm] at u1
    generalize it (phiD l) 1 x = y at *
    simp only [asE, asF, faR, pcD, pcG, obD, dartT, keyL, Dart.c] at c u1 ⊢
    rcases ho with ⟨rfl, rfl⟩ | ⟨fs, rfl, rfl⟩
    · simp only [f69_b1, f39_ra, f39_rb, Nat.reduceLT, c, hd, u1, go_sem, reduceIte, reduceCtorEq, Nat.reduceEqDiff, Nat.reduceAdd, Nat.reduceMul, Nat.reduceLeDiff, List.length_cons, List.length_nil, not_false_eq_true]
    · simp only [f69_b1, f39_ra, f39_rb, Nat.reduceLT, c, hd, u1, go_sem, reduceIte, reduceCtorEq, Nat.reduceEqDiff, Nat.reduceAdd, Nat.reduceMul, Nat.reduceLeDiff, List.length_cons, List.length_nil, not_false_eq_true]
  · intro i hi0 hi
    have c := key i
    have hd := dec_f (hne i hi)
    have hl : (firsts (phiD l) x i).length = i := firsts_len _ _ _
    have hm := hno i (Nat.le_of_lt hi)
    rw [firsts_snoc, ← List.append_assoc]
    have u1 := upd_mapD (it (phiD l) i x) (told ++ firsts (phiD l) x i)
    rw [if_neg hm] at u1
    generalize it (phiD l) (i + 1) x = y at *
    generalize it (phiD l) i x = z at *
    generalize firsts (phiD l) x i = q at *
    have h5 : (q.length + 1) * 24 ≤ 140737488355328 := by omega
    have h6 := rowsBy_dart (l := q) z
    generalize told ++ q = tq at *
    simp only [asF, faR, pcD, pcG, obD, dartT, keyL, Dart.c] at c u1 ⊢
    rcases ho with ⟨rfl, rfl⟩ | ⟨fs, rfl, rfl⟩
    · simp only [f69_b1, f39_ra, f39_rb, Nat.reduceLT, c, hd, u1, h5, List.length_append, go_sem, reduceIte, reduceCtorEq, Nat.reduceEqDiff, Nat.reduceAdd, Nat.reduceMul, Nat.reduceLeDiff, List.length_cons, List.length_nil, not_false_eq_true]
    · simp only [f69_b1, f39_ra, f39_rb, Nat.reduceLT, c, hd, u1, h5, List.length_append, go_sem, reduceIte, reduceCtorEq, Nat.reduceEqDiff, Nat.reduceAdd, Nat.reduceMul, Nat.reduceLeDiff, List.length_cons, List.length_nil, not_false_eq_true]
  · intro hn
    have c := key n
    have hl : (firsts (phiD l) x n).length = n := firsts_len _ _ _
    have hm := hno n (Nat.le_refl _)
    rw [firsts_snoc, ← List.append_assoc]
    have u1 := upd_mapD (it (phiD l) n x) (told ++ firsts (phiD l) x n)
    rw [if_neg hm] at u1
    rw [hback] at c
    generalize it (phiD l) n x = z at *
    generalize firsts (phiD l) x n = q at *
    have h5 : (q.length + 1) * 24 ≤ 140737488355328 := by omega
    have h6 := rowsBy_dart (l := q) z
    generalize told ++ q = tq at *
    simp only [asF, faR, pcD, pcG, obD, dartT, keyL, Dart.c] at c u1 ⊢
    rcases ho with ⟨rfl, rfl⟩ | ⟨fs, rfl, rfl⟩
    · simp only [f69_b1, f39_ra, f39_rb, Nat.reduceLT, c, u1, h5, List.length_append, go_sem, reduceIte, reduceCtorEq, Nat.reduceEqDiff, Nat.reduceAdd, Nat.reduceMul, Nat.reduceLeDiff, List.length_cons, List.length_nil, not_false_eq_true]
    · simp only [f69_b1, f39_ra, f39_rb, Nat.reduceLT, c, u1, h5, List.length_append, go_sem, reduceIte, reduceCtorEq, Nat.reduceEqDiff, Nat.reduceAdd, Nat.reduceMul, Nat.reduceLeDiff, List.length_cons, List.length_nil, not_false_eq_true]
def facesTo (l : List Vx) (es : List Ed) (i : Nat) : List (List Dart) × List Dart := ((dartsE es).take i).foldl (stepF (phiD l)) ([], [])
theorem facesTo_succ (l : List Vx) (es : List Ed) {i : Nat} (h : i < (dartsE es).length) : facesTo l es (i + 1) = stepF (phiD l) (facesTo l es i) (dartsE es)[i] := by
  unfold facesTo; rw [List.take_succ_eq_append_getElem h, List.foldl_append]; rfl
theorem facesTo_all (l : List Vx) (es : List Ed) : (facesTo l es (dartsE es).length).1 = facesD l es := by
  unfold facesTo facesD; rw [List.take_length, stepF_fold]; rfl
theorem facesTo_told {l : List Vx} {es : List Ed} (h : WF l es) (i : Nat) : ∀ y ∈ (facesTo l es i).2, y ∈ allR l ∧ phiD l y ∈ (facesTo l es i).2 := by
  have hlen : (allR l).length ≤ 100 := by rw [h.many]; have := h.le; omega
  exact stepF_told (phiD_oo h.pr) hlen _ _ (fun x hx => (h.mem x).2 (List.mem_of_mem_take hx)) (fun y hy => by cases hy)
theorem facesTo_len (l : List Vx) (es : List Ed) : ∀ i, (facesTo l es i).1.length ≤ i ∧ (0 < i → i ≤ (dartsE es).length → 0 < (facesTo l es i).1.length)
  | 0 => ⟨Nat.le_refl _, fun h => absurd h (Nat.lt_irrefl _)⟩
  | i + 1 => by
    have ih := facesTo_len l es i
    by_cases hi : i < (dartsE es).length
    · rw [facesTo_succ l es hi]
      unfold stepF
      split
      · rename_i hm
        refine ⟨by omega, fun _ _ => ?_⟩
        cases i with
        | zero => cases hm
        | succ i => exact ih.2 (by omega) (by omega)
      · simp only [List.length_append, List.length_cons, List.length_nil]
        exact ⟨by omega, fun _ _ => by omega⟩
    · have e : facesTo l es (i + 1) = facesTo l es i := by
        unfold facesTo
        rw [List.take_of_length_le (by omega), List.take_of_length_le (by omega)]
      rw [e]
      exact ⟨by omega, fun _ h => by omega⟩
theorem fresh_face {l : List Vx} {es : List Ed} (h : WF l es) {x : Dart} (hx : x ∈ allR l) {told : List Dart} (ht : ∀ y ∈ told, y ∈ allR l ∧ phiD l y ∈ told) (hxt : x ∉ told) : ∀ y ∈ trD l x, y ∉ told := fun y hy hyt => by
  have hlen : (allR l).length ≤ 100 := by rw [h.many]; have := h.le; omega
  have hcy := (phiD_oo h.pr).orb_cy hx hlen
  exact hxt (hcy.within (S := fun z => z ∈ told) (fun z hz => (ht z hz).2) hy hyt x (orb_self _ _ _))
theorem faces_l1 {l : List Vx} {es : List Ed} (h : WF l es) : E (cs F) 0 f39_l1 (⟨(upd (upd (upd (upd (upd (upd Sx.e0 13 (.v (.int .i64 (0)))) 12 (.v (.int .i64 (((dartsE es).length : Int))))) 11 (.s 11 0 (dartsE es).length)) 4 (.p 4 0)) 3 (.v (.sl (.tight 40) 1 []))) 1 (.p 1 0)), (upd (upd (upd (upd Sx.h0 10256 (some (.map false true false []))) 11 (some (.arr false 39 3 (rowsBy Dart.c (dartsE es))))) 4 (some (.var false [.m 10256]))) 1 (some (.var false [(.v (.sl .shared 5 (rowsBy Vx.c l))), (.v (.sl .shared 4 (rowsBy Ed.c es)))])))⟩ : St) =
    some (if (dartsE es).length = 0 then (.exit 0, (⟨(upd Sx.e0 3 (.v (.sl (.tight 40) 1 []))), Sx.h0⟩ : St)) else (.exit 0, (⟨(upd Sx.e0 3 (.s 3 0 (facesD l es).length)), (upd Sx.h0 3 (some (.arr false 40 1 (rowsBy rowF (facesD l es)))))⟩ : St))) := by
  have hb : bodyOf (F 69) = some f69.body := rfl
  have hle : (dartsE es).length ≤ 80 := by rw [dartsE_len]; have := h.le; omega
  have hw : (dartsE es).length ≤ 9223372036854775807 := by omega
  have hall : ∀ i (hi : i < (dartsE es).length), (dartsE es)[i] ∈ allR l := fun i hi => (h.mem _).2 (List.getElem_mem hi)
  rw [← facesTo_all l es]
  have l1 : E (cs F) 0 f39_l1 (⟨(upd (upd (upd (upd (upd (upd Sx.e0 13 (.v (.int .i64 (0)))) 12 (.v (.int .i64 (((dartsE es).length : Int))))) 11 (.s 11 0 (dartsE es).length)) 4 (.p 4 0)) 3 (.v (.sl (.tight 40) 1 []))) 1 (.p 1 0)), (upd (upd (upd (upd Sx.h0 10256 (some (.map false true false []))) 11 (some (.arr false 39 3 (rowsBy Dart.c (dartsE es))))) 4 (some (.var false [.m 10256]))) 1 (some (.var false [(.v (.sl .shared 5 (rowsBy Vx.c l))), (.v (.sl .shared 4 (rowsBy Ed.c es)))])))⟩ : St) = some (if (dartsE es).length = 0 then (.exit 0, (⟨(upd Sx.e0 3 (.v (.sl (.tight 40) 1 []))), Sx.h0⟩ : St)) else (.exit 0, (⟨(upd Sx.e0 3 (.s 3 0 (facesTo l es (dartsE es).length).1.length)), (upd Sx.h0 3 (some (.arr false 40 1 (rowsBy rowF (facesTo l es (dartsE es).length).1))))⟩ : St))) := by
    refine loop_grow (b := f39_b1) _ (fun q0 => (⟨(upd (upd (upd (upd (upd (upd Sx.e0 13 (.v (.int .i64 ((q0 : Int))))) 12 (.v (.int .i64 (((dartsE es).length : Int))))) 11 (.s 11 0 (dartsE es).length)) 4 (.p 4 0)) 3 (.s 3 0 (facesTo l es q0).1.length)) 1 (.p 1 0)), (upd (upd (upd (upd (upd Sx.h0 10256 (some (.map false true false (mapD (facesTo l es q0).2)))) 11 (some (.arr false 39 3 (rowsBy Dart.c (dartsE es))))) 4 (some (.var false [.m 10256]))) 3 (some (.arr false 40 1 (rowsBy rowF (facesTo l es q0).1)))) 1 (some (.var false [(.v (.sl .shared 5 (rowsBy Vx.c l))), (.v (.sl .shared 4 (rowsBy Ed.c es)))])))⟩ : St)) ((dartsE es).length) ?_ (by simp) ?_ ?_ ?_ (by simp)
    · intro h0
      simp only [f39_b1, show decide ((0 : Int) < ((dartsE es).length : Int)) = false from decide_eq_false (by omega), go_sem, reduceIte, Nat.reduceEqDiff]
    · intro hn
      have e1 : facesTo l es 1 = ([trD l (dartsE es)[0]], trD l (dartsE es)[0]) := by
        have := facesTo_succ l es (i := 0) hn
        rw [Nat.zero_add] at this
        rw [this]; unfold stepF
        have e0 : facesTo l es 0 = ([], []) := rfl
        rw [e0, if_neg (by simp)]; rfl
      have d1 : decide ((0 : Int) < ((dartsE es).length : Int)) = true := decide_eq_true (by omega)
      have h1z : (0 : Int) < ((dartsE es).length : Int) := by omega
      have hx := hall 0 hn
      have hg := rowsBy_get Dart.c hn
      rw [e1]
      have cr := i_round l es (dartsE es)[0]
      have al := faces_loop h hx [] (fun y _ => by simp) (.v (.sl (.tight 40) 1 [])) none (.inl ⟨rfl, rfl⟩) (dartsE es) 0 (.v (.fn 69 [pcD (dartsE es)[0], pcG l es]))
      rw [List.nil_append] at al
      have e3 : rowsBy rowF [trD l (dartsE es)[0]] = [[.sl .shared 3 (rowsBy Dart.c (trD l (dartsE es)[0]))]] := rfl
      rw [e3]
      generalize dartsE es = D at *
      generalize D[0] = x at *
      generalize trD l x = t at *
      have f1 := find_mapD x []
      simp only [asE, faR, pcD, pcG, obD, mapD, List.map_nil, keyL] at al cr f1 ⊢
      simp only [go_sem, reduceIte, Nat.reduceEqDiff, Int.cast_ofNat_Int] at al
      simp only [f39_b1, f69, hb, h1z, hg, Dart.c, cr, al, f1, Nat.reduceLT, List.not_mem_nil, if_false, show IntKind.i64.wrap 1 = 1 from rfl, go_sem, reduceIte, reduceCtorEq, Nat.reduceEqDiff, Nat.reduceAdd, Nat.reduceMul, Nat.reduceLeDiff, List.length_cons, List.length_nil, Int.reduceAdd, Int.reduceToNat, Int.cast_ofNat_Int]
    · intro i hi0 hi
      have h1z : (i : Int) < ((dartsE es).length : Int) := by omega
      have hx := hall i hi
      have hg := rowsBy_get Dart.c hi
      have ht := facesTo_told h i
      have hfl := facesTo_len l es i
      have hs := facesTo_succ l es hi
      by_cases hm : (dartsE es)[i] ∈ (facesTo l es i).2
      · have e1 : facesTo l es (i + 1) = facesTo l es i := by rw [hs]; unfold stepF; rw [if_pos hm]
        rw [e1]
        generalize dartsE es = D at *
        generalize facesTo l es i = q at *
        have f1 := find_mapD D[i] q.2
        rw [if_pos hm] at f1
        simp only [keyL] at f1
        simp only [f39_b1, h1z, hg, Dart.c, f1, wrap_succ hi hw, go_sem, reduceIte, Nat.reduceEqDiff, Nat.reduceAdd, List.length_cons, List.length_nil]
      · have e1 : facesTo l es (i + 1) = ((facesTo l es i).1 ++ [trD l (dartsE es)[i]], (facesTo l es i).2 ++ trD l (dartsE es)[i]) := by rw [hs]; unfold stepF; rw [if_neg hm]; rfl
        rw [e1]
        have cr := i_round l es (dartsE es)[i]
        have al := faces_loop h hx (facesTo l es i).2 (fresh_face h hx ht hm) (.s 3 0 (facesTo l es i).1.length) (some (.arr false 40 1 (rowsBy rowF (facesTo l es i).1))) (.inr ⟨_, rfl, rfl⟩) (dartsE es) i (.v (.fn 69 [pcD (dartsE es)[i], pcG l es]))
        have hfl2 : (facesTo l es i).1.length ≤ 80 := by omega
        generalize dartsE es = D at *
        generalize facesTo l es i = q at *
        obtain ⟨fs, told⟩ := q
        simp only at hfl2 hm al ⊢
        generalize trD l D[i] = t at *
        have f1 := find_mapD D[i] told
        rw [if_neg hm] at f1
        have e3 : rowsBy rowF fs ++ [[.sl .shared 3 (rowsBy Dart.c t)]] = rowsBy rowF (fs ++ [t]) := rowsBy_snoc rowF fs t
        have h5 : (fs.length + 1) * 24 ≤ 140737488355328 := by omega
        generalize D[i] = x at *
        simp only [asE, faR, pcD, pcG, obD, keyL] at al cr f1 ⊢
        simp only [f39_b1, f69, hb, h1z, hg, Dart.c, cr, al, f1, Nat.reduceLT, h5, e3, wrap_succ hi hw, List.length_append, go_sem, reduceIte, reduceCtorEq, Nat.reduceEqDiff, Nat.reduceAdd, Nat.reduceMul, List.length_cons, List.length_nil]
    · intro hn
      simp only [f39_b1, dec_ge (Nat.le_refl (dartsE es).length), go_sem, reduceIte, Nat.reduceEqDiff]
  exact l1
theorem facesD_nil {l : List Vx} {es : List Ed} (h : (dartsE es).length = 0) : facesD l es = [] := by
  unfold facesD; rw [List.eq_nil_of_length_eq_zero h]; rfl
theorem i_Faces {l : List Vx} {es : List Ed} (h : WF l es) : call F 39 [.agg [.sl .shared 5 (rowsBy Vx.c l), .sl .shared 4 (rowsBy Ed.c es)]] = some (.sl (.own 40) 1 (rowsBy rowF (facesD l es))) := by
  have cd := i_face_Darts (.sl .shared 5 (rowsBy Vx.c l)) es (by have := h.le; omega)
  have fl := faces_l1 h
  have h0 := facesD_nil (l := l) (es := es)
  generalize dartsE es = D at *
  generalize facesD l es = fs at *
  rw [call_code F (show F 39 = some (.code f39) from rfl)]
  by_cases hz : D.length = 0
  · rw [if_pos hz] at fl
    have hD := List.eq_nil_of_length_eq_zero hz
    subst hD
    rw [h0 rfl]
    simp only [rowsBy, List.length_nil, nat0] at cd fl
    simp only [f39, cd, fl, rowsBy, go_sem, reduceIte, reduceCtorEq, Nat.reduceEqDiff, Nat.reduceAdd, Nat.reduceMul, List.length_cons, List.length_nil, Int.cast_ofNat_Int]
  · rw [if_neg hz] at fl
    simp only [f39, cd, fl, go_sem, reduceIte, reduceCtorEq, Nat.reduceEqDiff, Nat.reduceAdd, Nat.reduceMul, List.length_cons, List.length_nil]
end Go.Proofs.Ytonhkmpjpnjkfaa.Sx
namespace Go.Proofs.Ytonhkmpjpnjkfaa.Sx
/-- one edge -/
def spr1 (f : List Nat) (e : Nat × Nat) : List Nat := (f.set e.1 (min (fat f e.1) (fat f e.2))).set e.2 (min (fat f e.1) (fat f e.2))
/-- a round -/
def spr (es : List (Nat × Nat)) (f : List Nat) : List Nat := es.foldl spr1 f
def sprK (es : List (Nat × Nat)) (f : List Nat) : Nat → List Nat
  | 0 => f
  | k + 1 => spr es (sprK es f k)
theorem spr1_len (f : List Nat) (e : Nat × Nat) : (spr1 f e).length = f.length := by unfold spr1; rw [List.length_set, List.length_set]
theorem spr_len : ∀ (es : List (Nat × Nat)) (f : List Nat), (spr es f).length = f.length
  | [], _ => rfl
  | e :: es, f => by
    show (spr es (spr1 f e)).length = _
    rw [spr_len es, spr1_len]
theorem spr1_at {f : List Nat} {e : Nat × Nat} (h1 : e.1 < f.length) (h2 : e.2 < f.length) (u : Nat) : fat (spr1 f e) u = if u = e.1 ∨ u = e.2 then min (fat f e.1) (fat f e.2) else fat f u := by
  unfold spr1
  rw [fat_set (by rw [List.length_set]; exact h2), fat_set h1]
  by_cases a : u = e.2
  · rw [if_pos a, if_pos (.inr a)]
  · rw [if_neg a]
    by_cases b : u = e.1
    · rw [if_pos b, if_pos (.inl b)]
    · rw [if_neg b, if_neg (by simp [a, b])]
theorem spr1_le {f : List Nat} {e : Nat × Nat} (h1 : e.1 < f.length) (h2 : e.2 < f.length) (u : Nat) : fat (spr1 f e) u ≤ fat f u := by
  rw [spr1_at h1 h2]
  split
  · rename_i h
    rcases h with rfl | rfl
    · exact Nat.min_le_left _ _
    · exact Nat.min_le_right _ _
  · exact Nat.le_refl _
def InE (n : Nat) (es : List (Nat × Nat)) : Prop := ∀ e ∈ es, e.1 < n ∧ e.2 < n
theorem spr_le : ∀ {es : List (Nat × Nat)} {f : List Nat}, InE f.length es → ∀ u, fat (spr es f) u ≤ fat f u
  | [], _, _, _ => Nat.le_refl _
  | e :: es, f, h, u => by
    have he := h e (by simp)
    have := spr_le (es := es) (f := spr1 f e) (fun x hx => by rw [spr1_len]; exact h x (by simp [hx])) u
    exact Nat.le_trans this (spr1_le he.1 he.2 u)
theorem spr_append (s t : List (Nat × Nat)) (f : List Nat) : spr (s ++ t) f = spr t (spr s f) := List.foldl_append
/-- an edge's ends are not above what either was -/
theorem spr_edge {es : List (Nat × Nat)} {f : List Nat} (h : InE f.length es) {e : Nat × Nat} (he : e ∈ es) : fat (spr es f) e.1 ≤ fat f e.2 ∧ fat (spr es f) e.2 ≤ fat f e.1 := by
  obtain ⟨s, t, rfl⟩ := List.append_of_mem he
  have hs : InE f.length s := fun x hx => h x (by simp [hx])
  have ht : InE f.length t := fun x hx => h x (by simp [hx])
  have h0 := h e (by simp)
  rw [spr_append]
  show fat (spr t (spr1 (spr s f) e)) e.1 ≤ _ ∧ fat (spr t (spr1 (spr s f) e)) e.2 ≤ _
  have hl := spr_len s f
  have k := fun u => spr_le (es := t) (f := spr1 (spr s f) e) (by rw [spr1_len, hl]; exact ht) u
  have k1 := k e.1
  have k2 := k e.2
  rw [spr1_at (by rw [hl]; exact h0.1) (by rw [hl]; exact h0.2), if_pos (.inl rfl)] at k1
  rw [spr1_at (by rw [hl]; exact h0.1) (by rw [hl]; exact h0.2), if_pos (.inr rfl)] at k2
  have a1 := spr_le hs e.1
  have a2 := spr_le hs e.2
  omega
/-- each place names one that hangs together with it -/
structure SprI (R : Nat → Nat → Prop) (n : Nat) (f : List Nat) : Prop where
  len : f.length = n
  con : ∀ u, u < n → Con R u (fat f u)
section
variable {R : Nat → Nat → Prop} {n : Nat}
theorem SprI.start (R : Nat → Nat → Prop) (n : Nat) : SprI R n (List.range n) := by
  refine ⟨List.length_range, fun u hu => ?_⟩
  rw [fat_at (by rw [List.length_range]; exact hu), List.getElem_range]
  exact .refl _
theorem SprI.one (hs : ∀ u v, R u v → R v u) {f : List Nat} (h : SprI R n f) {e : Nat × Nat} (h1 : e.1 < n) (h2 : e.2 < n) (hr : R e.1 e.2) : SprI R n (spr1 f e) := by
  refine ⟨by rw [spr1_len]; exact h.len, fun u hu => ?_⟩
  rw [spr1_at (by rw [h.len]; exact h1) (by rw [h.len]; exact h2)]
  have c1 := h.con e.1 h1
  have c2 := h.con e.2 h2
  have c12 : Con R e.1 e.2 := .one hr
  have c21 : Con R e.2 e.1 := .one (hs _ _ hr)
  split
  · rename_i hu
    rcases Nat.le_total (fat f e.1) (fat f e.2) with hle | hle
    · rw [Nat.min_eq_left hle]
      rcases hu with rfl | rfl
      · exact c1
      · exact c21.trans c1
    · rw [Nat.min_eq_right hle]
      rcases hu with rfl | rfl
      · exact c12.trans c2
      · exact c2
  · exact h.con u hu
theorem SprI.round (hs : ∀ u v, R u v → R v u) : ∀ {es : List (Nat × Nat)} {f : List Nat}, SprI R n f → (∀ e ∈ es, e.1 < n ∧ e.2 < n ∧ R e.1 e.2) → SprI R n (spr es f)
  | [], _, h, _ => h
  | e :: es, f, h, he => by
    obtain ⟨h1, h2, h3⟩ := he e (by simp)
    have k : SprI R n (spr1 f e) := h.one hs h1 h2 h3
    exact SprI.round (f := spr1 f e) hs k fun x hx => he x (by simp [hx])
theorem countP_lt {α : Type} {p q : α → Bool} : ∀ {l : List α}, (∀ u ∈ l, p u = true → q u = true) → (∃ a ∈ l, p a = false ∧ q a = true) → l.countP p < l.countP q
  | [], _, h => by obtain ⟨a, ha, _⟩ := h; cases ha
  | x :: l, h, he => by
    have h0 : l.countP p ≤ l.countP q := List.countP_mono_left fun u hu => h u (by simp [hu])
    have hx := h x (by simp)
    obtain ⟨a, ha, h1, h2⟩ := he
    rcases List.mem_cons.1 ha with rfl | ha
    · rw [List.countP_cons, List.countP_cons, h1, h2]; simp; omega
    · have := countP_lt (l := l) (fun u hu => h u (by simp [hu])) ⟨a, ha, h1, h2⟩
      rw [List.countP_cons, List.countP_cons]
      cases hp : p x with
      | false => simp; omega
      | true => rw [hx hp]; simp; omega
/-- from where it is so to where it is not there is a step at which it ends -/
theorem Con.edge {P : Nat → Prop} {u w : Nat} (h : Con R u w) (hu : P u) (hw : ¬ P w) : ∃ a b, R a b ∧ Con R u a ∧ P a ∧ ¬ P b := by
  induction h with
  | refl => exact absurd hu hw
  | @step u v w a _ ih =>
    by_cases hv : P v
    · obtain ⟨x, y, h1, h2, h3, h4⟩ := ih hv hw
      exact ⟨x, y, h1, .step a h2, h3, h4⟩
    · exact ⟨u, v, a, .refl _, hu, hv⟩
theorem spr_all (hs : ∀ u v, R u v → R v u) (hb : ∀ u v, R u v → u < n ∧ v < n) {es : List (Nat × Nat)} (he : ∀ e ∈ es, e.1 < n ∧ e.2 < n ∧ R e.1 e.2) (hr : ∀ u v, R u v → (u, v) ∈ es ∨ (v, u) ∈ es)
    {lab : Nat → Nat} (hl : Lab R n lab) : sprK es (List.range n) n = (List.range n).map lab := by
  have hin : InE n es := fun e h => ⟨(he e h).1, (he e h).2.1⟩
  have hinv : ∀ k, SprI R n (sprK es (List.range n) k) := by
    intro k
    induction k with
    | zero => exact SprI.start R n
    | succ k ih => exact ih.round hs he
  have hge : ∀ k u, u < n → lab u ≤ fat (sprK es (List.range n) k) u := fun k u hu => hl.le u hu _ ((hinv k).con u hu)
  have hdown : ∀ k u, fat (sprK es (List.range n) (k + 1)) u ≤ fat (sprK es (List.range n) k) u := fun k u => spr_le (by rw [(hinv k).len]; exact hin) u
  have hroot : ∀ k u, u < n → lab u = u → fat (sprK es (List.range n) k) u = u := by
    intro k
    induction k with
    | zero =>
      intro u hu _
      show fat (List.range n) u = u
      rw [fat_at (by rw [List.length_range]; exact hu), List.getElem_range]
    | succ k ih =>
      intro u hu hlu
      have h1 := hdown k u
      have h2 := hge (k + 1) u hu
      have h3 := ih u hu hlu
      omega
  have hgood : ∀ k, (∀ u, u < n → fat (sprK es (List.range n) k) u = lab u) ∨ k ≤ (List.range n).countP fun u => decide (fat (sprK es (List.range n) k) u = lab u) := by
    intro k
    induction k with
    | zero => exact .inr (Nat.zero_le _)
    | succ k ih =>
      rcases ih with ih | ih
      · refine .inl fun u hu => ?_
        have h1 := hdown k u
        have h2 := hge (k + 1) u hu
        have h3 := ih u hu
        omega
      · by_cases hall : ∀ u, u < n → fat (sprK es (List.range n) k) u = lab u
        · refine .inl fun u hu => ?_
          have h1 := hdown k u
          have h2 := hge (k + 1) u hu
          have h3 := hall u hu
          omega
        · right
          obtain ⟨u, hu⟩ := Classical.not_forall.1 hall
          obtain ⟨hun, hu⟩ := Classical.not_imp.1 hu
          have hlu := hl.self hun
          have hidem := hl.idem hs hun
          obtain ⟨a, b, h1, h2, h3, h4⟩ := Con.edge (P := fun v => fat (sprK es (List.range n) k) v = lab v) ((hl.con u hun).symm hs) (by
            show fat _ (lab u) = lab (lab u)
            rw [hidem]; exact hroot k _ (by omega) hidem) hu
          obtain ⟨ha, hbn⟩ := hb a b h1
          have hlab : lab a = lab b := (hl.eq hs ha hbn).1 (.one h1)
          have hnew : fat (sprK es (List.range n) (k + 1)) b = lab b := by
            have h5 := hge (k + 1) b hbn
            have h3 : fat (sprK es (List.range n) k) a = lab a := h3
            have : fat (sprK es (List.range n) (k + 1)) b ≤ fat (sprK es (List.range n) k) a := by
              rcases hr a b h1 with h | h
              · exact (spr_edge (by rw [(hinv k).len]; exact hin) h).2
              · exact (spr_edge (by rw [(hinv k).len]; exact hin) h).1
            omega
          have := countP_lt (l := List.range n) (p := fun u => decide (fat (sprK es (List.range n) k) u = lab u)) (q := fun u => decide (fat (sprK es (List.range n) (k + 1)) u = lab u)) (fun v hv hp => by
            have hvn := List.mem_range.1 hv
            have hp := of_decide_eq_true hp
            refine decide_eq_true ?_
            have h1 := hdown k v
            have h2 := hge (k + 1) v hvn
            omega) ⟨b, List.mem_range.2 hbn, decide_eq_false h4, decide_eq_true hnew⟩
          omega
  have hn : ∀ u, u < n → fat (sprK es (List.range n) n) u = lab u := by
    rcases hgood n with h | h
    · exact h
    · intro u hu
      have hle := List.countP_le_length (p := fun u => decide (fat (sprK es (List.range n) n) u = lab u)) (l := List.range n)
      rw [List.length_range] at hle
      have e : (List.range n).countP (fun u => decide (fat (sprK es (List.range n) n) u = lab u)) = (List.range n).length := by rw [List.length_range]; omega
      exact of_decide_eq_true (List.countP_eq_length.1 e u (List.mem_range.2 hu))
  refine List.ext_getElem (by rw [(hinv n).len, List.length_map, List.length_range]) fun i h1 h2 => ?_
  have hin : i < n := by rw [(hinv n).len] at h1; exact h1
  rw [List.getElem_map, List.getElem_range, ← hn i hin, fat_at h1]
end
end Go.Proofs.Ytonhkmpjpnjkfaa.Sx
namespace Go.Proofs.Ytonhkmpjpnjkfaa.Sx
open Go
def dpl (l : List Vx) (x : Dart) : Nat := l.findIdx fun v => decide (x ∈ v.ring)
theorem WF.labok {l : List Vx} {es : List Ed} (h : WF l es) : LabOk l := by
  refine ⟨⟨by have := h.lv; omega, fun v hv => ?_⟩, h.nd, h.pr.oth, fun x hx => ?_⟩
  · have h1 : v.ring.length ≤ (allR l).length := List.Sublist.length_le (List.sublist_flatten_of_mem (List.mem_map.2 ⟨v, hv, rfl⟩))
    have h2 := h.many
    have h3 := h.le
    omega
  · obtain ⟨e, _, h1 | h1⟩ := dartsE_mem.1 ((h.mem x).1 hx)
    · exact .inl (by rw [h1])
    · exact .inr (by rw [h1])
/-! ### the reference's rounds -/
def edgP (l : List Vx) (es : List Ed) : List (Nat × Nat) := es.map fun e => (dpl l ⟨e.id, 0⟩, dpl l ⟨e.id, 1⟩)
theorem dpl_at {l : List Vx} {x : Dart} (hx : x ∈ allR l) : dpl l x < l.length ∧ x ∈ ringAt l (dpl l x) := by
  rcases findIdx_cases (fun v : Vx => decide (x ∈ v.ring)) l with h | ⟨h, k⟩
  · obtain ⟨v, hv, hxv⟩ := (allR_mem l x).1 hx
    obtain ⟨i, hi, rfl⟩ := List.mem_iff_getElem.1 hv
    have := findIdx_not (p := fun v : Vx => decide (x ∈ v.ring)) (l := l) (i := i) (by omega) hi
    simp at this
    exact absurd hxv this
  · refine ⟨h, ?_⟩
    show x ∈ ringAt l (l.findIdx fun v => decide (x ∈ v.ring))
    rw [ringAt_lt h]
    exact of_decide_eq_true k
theorem WF.edge_in {l : List Vx} {es : List Ed} (h : WF l es) {e : Ed} (he : e ∈ es) : (⟨e.id, 0⟩ : Dart) ∈ allR l ∧ (⟨e.id, 1⟩ : Dart) ∈ allR l :=
  ⟨(h.mem _).2 (dartsE_mem.2 ⟨e, he, .inl rfl⟩), (h.mem _).2 (dartsE_mem.2 ⟨e, he, .inr rfl⟩)⟩
theorem WF.edge_step {l : List Vx} {es : List Ed} (h : WF l es) {e : Ed} (he : e ∈ es) : dpl l ⟨e.id, 0⟩ < l.length ∧ dpl l ⟨e.id, 1⟩ < l.length ∧ stepV l (dpl l ⟨e.id, 0⟩) (dpl l ⟨e.id, 1⟩) := by
  obtain ⟨h0, h1⟩ := h.edge_in he
  obtain ⟨a1, a2⟩ := dpl_at h0
  obtain ⟨b1, b2⟩ := dpl_at h1
  exact ⟨a1, b1, ⟨⟨e.id, 0⟩, a2, b2⟩⟩
theorem stepV_bound {l : List Vx} (u w : Nat) (h : stepV l u w) : u < l.length ∧ w < l.length := by
  obtain ⟨x, h1, h2⟩ := h
  exact ⟨ringAt_mem (u := u) h1, ringAt_mem (u := w) h2⟩
theorem WF.step_edge {l : List Vx} {es : List Ed} (h : WF l es) (u w : Nat) (hs : stepV l u w) : (u, w) ∈ edgP l es ∨ (w, u) ∈ edgP l es := by
  obtain ⟨x, h1, h2⟩ := hs
  have hx : x ∈ allR l := ringAt_all (u := u) h1
  obtain ⟨e, he, hxe⟩ := dartsE_mem.1 ((h.mem x).1 hx)
  obtain ⟨h3, h4⟩ := h.edge_in he
  obtain ⟨_, a2⟩ := dpl_at h3
  obtain ⟨_, b2⟩ := dpl_at h4
  rcases hxe with rfl | rfl
  · have e1 := ringAt_one h.nd (u := u) h1 a2
    have e2 := ringAt_one h.nd (u := w) h2 b2
    exact .inl (List.mem_map.2 ⟨e, he, by rw [e1, e2]⟩)
  · have e1 := ringAt_one h.nd (u := u) h1 b2
    have e2 := ringAt_one h.nd (u := w) h2 a2
    exact .inr (List.mem_map.2 ⟨e, he, by rw [e1, e2]⟩)
theorem WF.rounds {l : List Vx} {es : List Ed} (h : WF l es) : sprK (edgP l es) (List.range l.length) l.length = (List.range l.length).map (labV l) :=
  spr_all stepV_symm stepV_bound (fun e he => by
    obtain ⟨f, hf, rfl⟩ := List.mem_map.1 he
    exact h.edge_step hf) h.step_edge (labV_lab l)
/-! ### parts -/
noncomputable def partsI (l : List Vx) : List (List ID) := partsTo (labV l) (idAt l) l.length
def cIDs (p : List ID) : List TV := [.sl .shared 2 (rowsBy ID.c p)]
theorem partsT_eq (l : List Vx) : partsT l = .sl .shared 1 (rowsBy cIDs (partsI l)) := by
  unfold partsT partsL partsI partsTo
  rw [rowsBy_map, List.map_map, List.map_map]
  congr 1
  refine List.map_congr_left fun q _ => ?_
  show [TV.sl .shared 2 _] = [TV.sl .shared 2 _]
  rw [rowsBy_map, List.map_map]; rfl
theorem partsI_len (l : List Vx) : (partsI l).length = partsN (labV l) l.length := by
  unfold partsI partsTo partsN
  rw [List.length_map, List.countP_eq_length_filter]; rfl
end Go.Proofs.Ytonhkmpjpnjkfaa.Sx
namespace Go.Proofs.Ytonhkmpjpnjkfaa.Sx
open Go
theorem i_Parts {l : List Vx} {es : List Ed} (h : WF l es) : call F 54 [.agg [.sl .shared 5 (rowsBy Vx.c l), .sl .shared 4 (rowsBy Ed.c es)]] = some (.sl .shared 1 (rowsBy cIDs (partsI l))) := by
  rw [call_ext F (show F 54 = some (.ext partsG) from rfl), ← partsT_eq]
  exact partsG_eq _ _ h.labok
theorem i_comp_Count {l : List Vx} {es : List Ed} (h : WF l es) : call F 40 [.agg [.sl .shared 5 (rowsBy Vx.c l), .sl .shared 4 (rowsBy Ed.c es)]] = some (.int .i64 (partsN (labV l) l.length : Nat)) := by
  have c1 := i_Parts h
  have hl := partsI_len l
  rw [call_code F (show F 40 = some (.code f40) from rfl)]
  simp only [f40, c1, hl, go_sem, reduceIte, reduceCtorEq, Nat.reduceEqDiff, Nat.reduceAdd, Nat.reduceMul, List.length_cons, List.length_nil]
end Go.Proofs.Ytonhkmpjpnjkfaa.Sx
namespace Go.Proofs.Ytonhkmpjpnjkfaa.Sx
open Go
theorem facesQ_dec {l : List Vx} {es : List Ed} (h : WF l es) : Dec (phiD l) (dartsE es) (facesD l es) := by
  have oo : OneOne (phiD l) (dartsE es) := ⟨fun x hx => (h.mem _).1 ((phiD_oo h.pr).mem x ((h.mem x).2 hx)), fun x hx y hy => (phiD_oo h.pr).inj x ((h.mem x).2 hx) y ((h.mem y).2 hy)⟩
  exact oo.dec (by rw [dartsE_len]; have := h.le; omega)
theorem Dec.onQ {f : Dart → Dart} {D D' : List Dart} {cs : List (List Dart)} (h : Dec f D cs) (e : ∀ x, x ∈ D ↔ x ∈ D') : Dec f D' cs := ⟨h.cy, h.nd, fun x => by rw [h.mem, e]⟩
theorem facesQ_all {l : List Vx} {es : List Ed} (h : WF l es) : Dec (phiD l) (allR l) (facesD l es) := (facesQ_dec h).onQ fun x => (h.mem x).symm
theorem facesQ_fits {l : List Vx} {es : List Ed} (h : WF l es) : (∀ p ∈ facesD l es, p.length ≤ 80) ∧ (facesD l es).length ≤ 80 := by
  have hd := facesQ_dec h
  have hlen : (dartsE es).length ≤ 80 := by rw [dartsE_len]; have := h.le; omega
  have hfl : (facesD l es).flatten.length ≤ 80 := Nat.le_trans (nodup_sub hd.nd fun x hx => (hd.mem x).1 hx) hlen
  refine ⟨fun p hp => Nat.le_trans (List.Sublist.length_le (List.sublist_flatten_of_mem hp)) hfl, ?_⟩
  have key : ∀ cs : List (List Dart), (∀ c ∈ cs, c ≠ []) → cs.length ≤ cs.flatten.length := by
    intro cs
    induction cs with
    | nil => intro _; exact Nat.le_refl _
    | cons c cs ih =>
      intro h
      rw [List.flatten_cons, List.length_append, List.length_cons]
      have := ih fun d hd => h d (by simp [hd])
      have := List.length_pos_iff.2 (h c (by simp))
      omega
  refine Nat.le_trans (key _ fun c hc e => ?_) hfl
  have := hd.cy c hc
  rw [e] at this; cases this
noncomputable def cN (l : List Vx) : Nat := partsN (labV l) l.length
def fN (l : List Vx) (es : List Ed) : Nat := (facesD l es).length + aloneN l
noncomputable def gN (l : List Vx) (es : List Ed) : Nat := (es.length + 2 * cN l - l.length - fN l es) / 2
theorem WF.eul {l : List Vx} {es : List Ed} (h : WF l es) : Eul l l.length es.length (fN l es) (cN l) := ⟨rfl, h.many.symm, ⟨_, facesQ_all h, rfl⟩, ⟨_, labV_lab l, rfl⟩⟩
theorem WF.gen {l : List Vx} {es : List Ed} (h : WF l es) : l.length + fN l es + 2 * gN l es = es.length + 2 * cN l := by
  obtain ⟨g, hg⟩ := Eul.genus _ (Nat.le_refl _) h.pr h.eul
  unfold gN
  omega
theorem WF.small {l : List Vx} {es : List Ed} (h : WF l es) : fN l es ≤ 104 ∧ cN l ≤ 24 ∧ cN l ≤ fN l es ∧ cN l ≤ l.length := by
  have h1 := (facesQ_fits h).2
  have h2 := h.lv
  have h3 : aloneN l ≤ l.length := List.countP_le_length
  have h4 : cN l ≤ l.length := partsN_le _ _
  have h5 := h.eul.faces_le h.pr
  refine ⟨by unfold fN; omega, by omega, h5.1, h4⟩
theorem i_Count1 (v : Vx) : call F 38 [.agg [.int .i64 v.id.s, .int .i64 v.id.n, .sl .shared 3 (rowsBy Dart.c v.ring), .str v.label, .int .i64 v.attr]] = some (.bool v.ring.isEmpty) := by
  have hd : decide ((v.ring.length : Int) = 0) = v.ring.isEmpty := by
    cases v.ring with
    | nil => rfl
    | cons x r => exact dec_f (by simp only [List.length_cons]; omega)
  rw [call_code F (show F 38 = some (.code f38) from rfl)]
  simp only [f38, hd, go_sem, reduceIte, reduceCtorEq, Nat.reduceEqDiff, Nat.reduceAdd, Nat.reduceLeDiff, List.length_cons, List.length_nil]
theorem aloneN_succ {l : List Vx} {i : Nat} (hi : i < l.length) : aloneN (l.take (i + 1)) = aloneN (l.take i) + if l[i].ring.isEmpty = true then 1 else 0 := by
  unfold aloneN
  rw [List.take_succ_eq_append_getElem hi, List.countP_append, List.countP_singleton]
theorem i_many (l : List Vx) (hl : l.length ≤ 24) : call F 37 [.sl .shared 5 (rowsBy Vx.c l), .fn 38 []] = some (.int .i64 (aloneN l : Nat)) := by
  have l1 : E (cs F) 0 f37_l1 (⟨(upd (upd (upd (upd (upd Sx.e0 10 (.v (.int .i64 (0)))) 9 (.v (.int .i64 ((l.length : Int))))) 8 (.v (.sl .shared 5 (rowsBy Vx.c l)))) 5 (.v (.int .i64 ((aloneN (l.take 0) : Nat))))) 1 (.v (.fn 38 []))), Sx.h0⟩ : St) = some (.exit 0, (⟨(upd Sx.e0 5 (.v (.int .i64 ((aloneN l : Nat))))), Sx.h0⟩ : St)) := by
    refine loop_to (b := f37_b1) (fun q0 => (⟨(upd (upd (upd (upd (upd Sx.e0 10 (.v (.int .i64 ((q0 : Int))))) 9 (.v (.int .i64 ((l.length : Int))))) 8 (.v (.sl .shared 5 (rowsBy Vx.c l)))) 5 (.v (.int .i64 ((aloneN (l.take q0) : Nat))))) 1 (.v (.fn 38 []))), Sx.h0⟩ : St)) (l.length) ?_ ?_ (by simp)
    · intro i hi
      have hiz : (i : Int) < (l.length : Int) := by omega
      have c1 := i_Count1 l[i]
      have ha : aloneN (l.take i) ≤ i := Nat.le_trans List.countP_le_length (by rw [List.length_take]; omega)
      have hw := wrap_succ (i := aloneN (l.take i)) (n := aloneN (l.take i) + 1) (Nat.lt_succ_self _) (by omega)
      rw [aloneN_succ hi]
      generalize aloneN (l.take i) = m at *
      cases hb : l[i].ring.isEmpty with
      | true =>
        rw [hb] at c1
        rw [if_pos rfl]
        simp only [f37_b1, hiz, rowsBy_get Vx.c hi, Vx.c, c1, hw, wrap_succ hi (show l.length ≤ 9223372036854775807 by omega), go_sem, reduceIte, Nat.reduceEqDiff, Nat.reduceAdd, Nat.reduceMul, List.length_cons, List.length_nil]
      | false =>
        rw [hb] at c1
        rw [if_neg (by simp), Nat.add_zero]
        simp only [f37_b1, hiz, rowsBy_get Vx.c hi, Vx.c, c1, hw, wrap_succ hi (show l.length ≤ 9223372036854775807 by omega), go_sem, reduceIte, Nat.reduceEqDiff, Nat.reduceAdd, Nat.reduceMul, List.length_cons, List.length_nil]
    · rw [List.take_length]
      simp only [f37_b1, dec_ge (Nat.le_refl l.length), go_sem, reduceIte, Nat.reduceEqDiff]
  have e0 : aloneN (l.take 0) = 0 := rfl
  simp only [e0, nat0] at l1
  rw [call_code F (show F 37 = some (.code f37) from rfl)]
  simp only [f37, l1, go_sem, reduceIte, reduceCtorEq, Nat.reduceEqDiff, Nat.reduceAdd]
theorem i_euler_Count {l : List Vx} {es : List Ed} (h : WF l es) : call F 13 [.agg [.sl .shared 5 (rowsBy Vx.c l), .sl .shared 4 (rowsBy Ed.c es)]] = some (.tup [.int .i64 l.length, .int .i64 es.length, .int .i64 (fN l es : Nat), .int .i64 (cN l : Nat)]) := by
  have c1 := i_many l h.lv
  have c2 := i_Faces h
  have c3 := i_comp_Count h
  have hf := h.small.1
  have w1 : IntKind.i64.wrap (((facesD l es).length : Int) + (aloneN l : Int)) = (fN l es : Int) := by
    have e : (fN l es : Int) = ((facesD l es).length : Int) + (aloneN l : Int) := by unfold fN; omega
    rw [wrap64 (by omega) (by omega), e]
  have e2 : partsN (labV l) l.length = cN l := rfl
  rw [e2] at c3
  generalize fN l es = fn at *
  generalize cN l = cn at *
  generalize facesD l es = fs at *
  rw [call_code F (show F 13 = some (.code f13) from rfl)]
  simp only [f13, c1, c2, c3, w1, go_sem, reduceIte, reduceCtorEq, Nat.reduceEqDiff, Nat.reduceAdd, Nat.reduceMul, Nat.reduceLeDiff, Nat.reduceBEq, List.length_cons, List.length_nil, Nat.testBit, Nat.reduceShiftRight, Nat.reduceAnd, Nat.reduceBNe]
theorem i_euler_Genus {l : List Vx} {es : List Ed} (h : WF l es) : call F 14 [.agg [.sl .shared 5 (rowsBy Vx.c l), .sl .shared 4 (rowsBy Ed.c es)]] = some (.int .i64 (gN l es : Nat)) := by
  have c1 := i_euler_Count h
  have hg := h.gen
  have hs := h.small
  have hlv := h.lv
  have hle := h.le
  generalize fN l es = f at *
  generalize cN l = c at *
  generalize gN l es = g at *
  have w1 : IntKind.i64.wrap ((l.length : Int) - (es.length : Int)) = (l.length : Int) - (es.length : Int) := wrap64 (by omega) (by omega)
  have w2 : IntKind.i64.wrap ((l.length : Int) - (es.length : Int) + (f : Int)) = 2 * ((c : Int) - (g : Int)) := by rw [wrap64 (by omega) (by omega)]; omega
  have td : (2 * ((c : Int) - (g : Int))).tdiv 2 = (c : Int) - (g : Int) := Int.mul_tdiv_cancel_left _ (by decide)
  have w3 : IntKind.i64.wrap ((c : Int) - (g : Int)) = (c : Int) - (g : Int) := wrap64 (by omega) (by omega)
  have w4 : IntKind.i64.wrap ((c : Int) - ((c : Int) - (g : Int))) = (g : Int) := by rw [wrap64 (by omega) (by omega)]; omega
  rw [call_code F (show F 14 = some (.code f14) from rfl)]
  simp only [f14, c1, w1, w2, td, w3, w4, go_sem, reduceIte, reduceCtorEq, Nat.reduceEqDiff, Nat.reduceAdd, Nat.reduceMul, List.length_cons, List.length_nil, Int.reduceEq]
theorem i_Planar {l : List Vx} {es : List Ed} (h : WF l es) : call F 15 [.agg [.sl .shared 5 (rowsBy Vx.c l), .sl .shared 4 (rowsBy Ed.c es)]] = some (.bool (decide (gN l es = 0))) := by
  have c1 := i_euler_Genus h
  have hd : decide (((gN l es : Nat) : Int) = 0) = decide (gN l es = 0) := by rw [decide_eq_decide]; omega
  generalize gN l es = g at *
  rw [call_code F (show F 15 = some (.code f15) from rfl)]
  simp only [f15, c1, hd, go_sem, reduceIte, reduceCtorEq, Nat.reduceEqDiff, Nat.reduceAdd, Nat.reduceMul, List.length_cons, List.length_nil]
/-- whether a diagram may be -/
noncomputable def mayC (l : List Vx) (es : List Ed) : Int := if formC l es = 0 then (if gN l es = 0 then 0 else 11) else formC l es
theorem i_euler_May (l : List Vx) (es : List Ed) (hr : FitsR l) : call F 25 [.agg [.sl .shared 5 (rowsBy Vx.c l), .sl .shared 4 (rowsBy Ed.c es)]] = some (.int .i64 (mayC l es)) := by
  have c1 := i_diagram_Form l es hr
  unfold mayC
  by_cases hf : formC l es = 0
  · have h := (formC_ok.1 hf).1
    have c2 := i_Planar h
    rw [hf] at c1
    rw [if_pos hf]
    by_cases hg : gN l es = 0
    · rw [if_pos hg]
      rw [dec_t hg] at c2
      rw [call_code F (show F 25 = some (.code f25) from rfl)]
      simp only [f25, c1, c2, go_sem, reduceIte, reduceCtorEq, Nat.reduceEqDiff, Nat.reduceAdd, Nat.reduceMul, List.length_cons, List.length_nil, ne_eq, not_true_eq_false]
    · rw [if_neg hg]
      rw [dec_f hg] at c2
      rw [call_code F (show F 25 = some (.code f25) from rfl)]
      simp only [f25, c1, c2, go_sem, reduceIte, reduceCtorEq, Nat.reduceEqDiff, Nat.reduceAdd, Nat.reduceMul, List.length_cons, List.length_nil, ne_eq, not_true_eq_false]
  · have hd : decide (¬ formC l es = 0) = true := dec_t hf
    rw [if_neg hf]
    generalize formC l es = c at *
    rw [call_code F (show F 25 = some (.code f25) from rfl)]
    simp only [f25, c1, hd, go_sem, reduceIte, reduceCtorEq, Nat.reduceEqDiff, Nat.reduceAdd, Nat.reduceMul, List.length_cons, List.length_nil, ne_eq]
end Go.Proofs.Ytonhkmpjpnjkfaa.Sx
namespace Go.Proofs.Ytonhkmpjpnjkfaa.Sx
open Go
theorem Vx.ext_iff' (x y : Vx) : x = y ↔ x.id = y.id ∧ x.label = y.label ∧ x.attr = y.attr ∧ x.ring = y.ring := by
  cases x; cases y; simp only [Vx.mk.injEq]
  constructor
  · rintro ⟨a, b, c, d⟩; exact ⟨a, c, d, b⟩
  · rintro ⟨a, b, c, d⟩; exact ⟨a, d, b, c⟩
theorem Ed.ext_iff' (x y : Ed) : x = y ↔ x.id = y.id ∧ x.label = y.label ∧ x.attr = y.attr := by
  cases x; cases y; simp only [Ed.mk.injEq]
theorem Ed.dec (x y : Ed) : (decide (x.id.s = y.id.s) && (decide (x.id.n = y.id.n) && (decide (x.label = y.label) && decide (x.attr = y.attr)))) = decide (x = y) := by
  by_cases h : x = y
  · subst h; simp
  · rw [decide_eq_false h]
    simp only [Bool.and_eq_false_iff, decide_eq_false_iff_not]
    rw [Ed.ext_iff', ID.ext_iff'] at h
    by_cases h1 : x.id.s = y.id.s
    · by_cases h2 : x.id.n = y.id.n
      · by_cases h3 : x.label = y.label
        · exact .inr (.inr (.inr fun h4 => h ⟨⟨h1, h2⟩, h3, h4⟩))
        · exact .inr (.inr (.inl h3))
      · exact .inr (.inl h2)
    · exact .inl h1
end Go.Proofs.Ytonhkmpjpnjkfaa.Sx
namespace Go.Proofs.Ytonhkmpjpnjkfaa.Sx
open Go
/-- the first of some -/
def fewVx (n k : Nat) (l : List Vx) : List Vx := (l.take n).map fun v => ⟨v.id, v.ring.take k, v.label, v.attr⟩
theorem fewVx_len (n k : Nat) (l : List Vx) : (fewVx n k l).length ≤ n := by unfold fewVx; rw [List.length_map, List.length_take]; omega
theorem fewVx_fits (n k : Nat) (hk : k ≤ 1000000) (l : List Vx) : FitsR (fewVx n k l) := by
  intro v hv
  unfold fewVx at hv
  obtain ⟨w, _, rfl⟩ := List.mem_map.1 hv
  refine Fits.of ?_
  show (w.ring.take k).length ≤ _
  rw [List.length_take]; omega
theorem fewVx_succ {n k : Nat} {l : List Vx} (h : n < l.length) : fewVx (n + 1) k l = fewVx n k l ++ [⟨l[n].id, l[n].ring.take k, l[n].label, l[n].attr⟩] := by
  unfold fewVx
  rw [List.take_succ_eq_append_getElem h, List.map_append]; rfl
theorem fewVx_min (n k : Nat) (l : List Vx) : fewVx (min l.length n) k l = fewVx n k l := by
  unfold fewVx
  congr 1
  rcases Nat.le_total l.length n with h | h
  · rw [Nat.min_eq_left h, List.take_of_length_le (Nat.le_refl _), List.take_of_length_le h]
  · rw [Nat.min_eq_right h]
theorem take_min {α : Type} (n : Nat) (l : List α) : l.take (min l.length n) = l.take n := by
  rcases Nat.le_total l.length n with h | h
  · rw [Nat.min_eq_left h, List.take_of_length_le (Nat.le_refl _), List.take_of_length_le h]
  · rw [Nat.min_eq_right h]
theorem few_l1 (vs : List Vx) (es : List Ed) : E (cs F) 0 f11_l1 (⟨(upd (upd (upd (upd Sx.e0 4 (.v (.int .i64 (0)))) 3 (.p 3 0)) 2 (.p 2 0)) 1 (.p 1 0)), (upd (upd (upd Sx.h0 3 (some (.var false [(.v (.sl (.tight 42) 5 [])), (.v (.sl (.tight 37) 4 []))]))) 2 (some (.var false [(.v (.sl (.tight 42) 5 [])), (.v (.sl (.tight 37) 4 []))]))) 1 (some (.var false [(.v (.sl .shared 5 (rowsBy Vx.c vs))), (.v (.sl .shared 4 (rowsBy Ed.c es)))])))⟩ : St) =
    some (if min vs.length 26 = 0 then (.exit 0, (⟨(upd (upd (upd Sx.e0 3 (.p 3 0)) 2 (.p 2 0)) 1 (.p 1 0)), (upd (upd (upd Sx.h0 3 (some (.var false [(.v (.sl (.tight 42) 5 [])), (.v (.sl (.tight 37) 4 []))]))) 2 (some (.var false [(.v (.sl (.tight 42) 5 [])), (.v (.sl (.tight 37) 4 []))]))) 1 (some (.var false [(.v (.sl .shared 5 (rowsBy Vx.c vs))), (.v (.sl .shared 4 (rowsBy Ed.c es)))])))⟩ : St)) else (.exit 0, (⟨(upd (upd (upd Sx.e0 3 (.p 3 0)) 2 (.p 2 0)) 1 (.p 1 0)), (upd (upd (upd (upd Sx.h0 10192 (some (.arr false 42 5 (rowsBy Vx.c (fewVx 26 82 vs))))) 3 (some (.var false [(.s 10192 0 (fewVx 26 82 vs).length), (.v (.sl (.tight 37) 4 []))]))) 2 (some (.var false [(.v (.sl (.tight 42) 5 [])), (.v (.sl (.tight 37) 4 []))]))) 1 (some (.var false [(.v (.sl .shared 5 (rowsBy Vx.c vs))), (.v (.sl .shared 4 (rowsBy Ed.c es)))])))⟩ : St))) := by
  rw [← fewVx_min 26 82 vs]
  have l1 : E (cs F) 0 f11_l1 (⟨(upd (upd (upd (upd Sx.e0 4 (.v (.int .i64 (0)))) 3 (.p 3 0)) 2 (.p 2 0)) 1 (.p 1 0)), (upd (upd (upd Sx.h0 3 (some (.var false [(.v (.sl (.tight 42) 5 [])), (.v (.sl (.tight 37) 4 []))]))) 2 (some (.var false [(.v (.sl (.tight 42) 5 [])), (.v (.sl (.tight 37) 4 []))]))) 1 (some (.var false [(.v (.sl .shared 5 (rowsBy Vx.c vs))), (.v (.sl .shared 4 (rowsBy Ed.c es)))])))⟩ : St) = some (if min vs.length 26 = 0 then (.exit 0, (⟨(upd (upd (upd Sx.e0 3 (.p 3 0)) 2 (.p 2 0)) 1 (.p 1 0)), (upd (upd (upd Sx.h0 3 (some (.var false [(.v (.sl (.tight 42) 5 [])), (.v (.sl (.tight 37) 4 []))]))) 2 (some (.var false [(.v (.sl (.tight 42) 5 [])), (.v (.sl (.tight 37) 4 []))]))) 1 (some (.var false [(.v (.sl .shared 5 (rowsBy Vx.c vs))), (.v (.sl .shared 4 (rowsBy Ed.c es)))])))⟩ : St)) else (.exit 0, (⟨(upd (upd (upd Sx.e0 3 (.p 3 0)) 2 (.p 2 0)) 1 (.p 1 0)), (upd (upd (upd (upd Sx.h0 10192 (some (.arr false 42 5 (rowsBy Vx.c (fewVx (min vs.length 26) 82 vs))))) 3 (some (.var false [(.s 10192 0 (fewVx (min vs.length 26) 82 vs).length), (.v (.sl (.tight 37) 4 []))]))) 2 (some (.var false [(.v (.sl (.tight 42) 5 [])), (.v (.sl (.tight 37) 4 []))]))) 1 (some (.var false [(.v (.sl .shared 5 (rowsBy Vx.c vs))), (.v (.sl .shared 4 (rowsBy Ed.c es)))])))⟩ : St))) := by
    refine loop_grow (b := f11_b1) _ (fun q0 => (⟨(upd (upd (upd (upd Sx.e0 4 (.v (.int .i64 ((q0 : Int))))) 3 (.p 3 0)) 2 (.p 2 0)) 1 (.p 1 0)), (upd (upd (upd (upd Sx.h0 10192 (some (.arr false 42 5 (rowsBy Vx.c (fewVx q0 82 vs))))) 3 (some (.var false [(.s 10192 0 (fewVx q0 82 vs).length), (.v (.sl (.tight 37) 4 []))]))) 2 (some (.var false [(.v (.sl (.tight 42) 5 [])), (.v (.sl (.tight 37) 4 []))]))) 1 (some (.var false [(.v (.sl .shared 5 (rowsBy Vx.c vs))), (.v (.sl .shared 4 (rowsBy Ed.c es)))])))⟩ : St)) (min vs.length 26) ?_ (by simp) ?_ ?_ ?_ (by simp)
    · intro h0
      have h0' : vs.length = 0 := by omega
      simp only [f11_b1, show decide ((0 : Int) < (vs.length : Int)) = false from decide_eq_false (by omega), go_sem, reduceIte, Nat.reduceEqDiff, Nat.reduceAdd, Nat.reduceLeDiff, List.length_cons, List.length_nil]
    · intro hn
      have h1 : 0 < vs.length := by omega
      have hs := fewVx_succ (n := 0) (k := 82) h1
      have e0 : fewVx 0 82 vs = [] := rfl
      rw [e0, List.nil_append, Nat.zero_add] at hs
      rw [hs]
      have e2 : rowsBy Vx.c [⟨vs[0].id, vs[0].ring.take 82, vs[0].label, vs[0].attr⟩] = [[.int .i64 vs[0].id.s, .int .i64 vs[0].id.n, .sl .shared 3 (rowsBy Dart.c (vs[0].ring.take 82)), .str vs[0].label, .int .i64 vs[0].attr]] := rfl
      rw [e2]
      have d1 : decide ((0 : Int) < (vs.length : Int)) = true := decide_eq_true (by omega)
      have h1z : (0 : Int) < (vs.length : Int) := by omega
      by_cases hr : vs[0].ring.length > 82
      · have k1 : decide ((vs[0].ring.length : Int) > 82) = true := decide_eq_true (by omega)
        have k2 : (82 : Int) ≤ (vs[0].ring.length : Int) := by omega
        simp only [f11_b1, h1z, rowsBy_get Vx.c h1, Vx.c, k1, k2, Int.reduceLT, show IntKind.i64.wrap 1 = 1 from rfl, go_sem, reduceIte, Nat.reduceEqDiff, Nat.reduceAdd, Nat.reduceMul, Nat.reduceLeDiff, List.length_cons, List.length_nil, Int.reduceLT, Int.reduceLE, Int.reduceAdd, Int.reduceToNat, Int.cast_ofNat_Int]
      · have k1 : decide ((vs[0].ring.length : Int) > 82) = false := decide_eq_false (by omega)
        rw [List.take_of_length_le (show vs[0].ring.length ≤ 82 by omega)]
        simp only [f11_b1, h1z, rowsBy_get Vx.c h1, Vx.c, k1, Int.reduceLT, show IntKind.i64.wrap 1 = 1 from rfl, go_sem, reduceIte, Nat.reduceEqDiff, Nat.reduceAdd, Nat.reduceMul, Nat.reduceLeDiff, List.length_cons, List.length_nil, Int.reduceLT, Int.reduceLE, Int.reduceAdd, Int.reduceToNat, Int.cast_ofNat_Int]
    · intro i hi0 hi
      have h1 : i < vs.length := by omega
      have h1z : (i : Int) < (vs.length : Int) := by omega
      have h2 : i < 26 := by omega
      have h3 : decide ((i : Int) < 26) = true := decide_eq_true (by omega)
      have hw : (26 : Nat) ≤ 9223372036854775807 := by decide
      have hs := fewVx_succ (k := 82) h1
      have hl : (fewVx i 82 vs).length ≤ i := fewVx_len i 82 vs
      have h5 : ((fewVx i 82 vs).length + 1) * 64 ≤ 140737488355328 := by omega
      rw [hs]
      have e2 : (fewVx i 82 vs ++ ([⟨vs[i].id, vs[i].ring.take 82, vs[i].label, vs[i].attr⟩] : List Vx)).length = (fewVx i 82 vs).length + 1 := by rw [List.length_append]; rfl
      rw [e2]
      generalize fewVx i 82 vs = m at *
      have e3 : rowsBy Vx.c m ++ [[.int .i64 vs[i].id.s, .int .i64 vs[i].id.n, .sl .shared 3 (rowsBy Dart.c (vs[i].ring.take 82)), .str vs[i].label, .int .i64 vs[i].attr]] = rowsBy Vx.c (m ++ [⟨vs[i].id, vs[i].ring.take 82, vs[i].label, vs[i].attr⟩]) := rowsBy_snoc Vx.c m ⟨vs[i].id, vs[i].ring.take 82, vs[i].label, vs[i].attr⟩
      by_cases hr : vs[i].ring.length > 82
      · have k1 : decide ((vs[i].ring.length : Int) > 82) = true := decide_eq_true (by omega)
        have k2 : (82 : Int) ≤ (vs[i].ring.length : Int) := by omega
        simp only [f11_b1, h1z, h3, rowsBy_get Vx.c h1, Vx.c, k1, k2, h5, e3, wrap_succ h2 hw, List.take_length, go_sem, reduceIte, Nat.reduceEqDiff, Nat.reduceAdd, Nat.reduceLeDiff, List.length_cons, List.length_nil, Int.reduceLE, Int.reduceToNat]
      · have k1 : decide ((vs[i].ring.length : Int) > 82) = false := decide_eq_false (by omega)
        rw [List.take_of_length_le (show vs[i].ring.length ≤ 82 by omega)] at e3 ⊢
        simp only [f11_b1, h1z, h3, rowsBy_get Vx.c h1, Vx.c, k1, h5, e3, wrap_succ h2 hw, List.take_length, go_sem, reduceIte, Nat.reduceEqDiff, Nat.reduceAdd, Nat.reduceLeDiff, List.length_cons, List.length_nil, Int.reduceLE, Int.reduceToNat]
    · intro hn
      by_cases h : vs.length ≤ 26
      · rw [Nat.min_eq_left h]
        simp only [f11_b1, dec_ge (Nat.le_refl vs.length), go_sem, reduceIte, Nat.reduceEqDiff, Nat.reduceAdd, Nat.reduceLeDiff, List.length_cons, List.length_nil]
      · rw [Nat.min_eq_right (by omega)]
        simp only [f11_b1, show decide ((26 : Int) < (vs.length : Int)) = true from decide_eq_true (by omega), go_sem, reduceIte, Nat.reduceEqDiff, Nat.reduceAdd, Nat.reduceLeDiff, List.length_cons, List.length_nil, Int.reduceLT, Int.cast_ofNat_Int]
  exact l1
theorem few_l2a (vs : List Vx) (es : List Ed) : E (cs F) 0 f11_l2 (⟨(upd (upd (upd (upd Sx.e0 6 (.v (.int .i64 (0)))) 3 (.p 3 0)) 2 (.p 2 0)) 1 (.p 1 0)), (upd (upd (upd Sx.h0 3 (some (.var false [(.v (.sl (.tight 42) 5 [])), (.v (.sl (.tight 37) 4 []))]))) 2 (some (.var false [(.v (.sl (.tight 42) 5 [])), (.v (.sl (.tight 37) 4 []))]))) 1 (some (.var false [(.v (.sl .shared 5 (rowsBy Vx.c vs))), (.v (.sl .shared 4 (rowsBy Ed.c es)))])))⟩ : St) =
    some (if min es.length 42 = 0 then (.exit 2, (⟨(upd (upd Sx.e0 3 (.p 3 0)) 2 (.p 2 0)), (upd (upd Sx.h0 3 (some (.var false [(.v (.sl (.tight 42) 5 [])), (.v (.sl (.tight 37) 4 []))]))) 2 (some (.var false [(.v (.sl (.tight 42) 5 [])), (.v (.sl (.tight 37) 4 []))])))⟩ : St)) else (.exit 2, (⟨(upd (upd Sx.e0 3 (.p 3 0)) 2 (.p 2 0)), (upd (upd (upd Sx.h0 10193 (some (.arr false 37 4 (rowsBy Ed.c (es.take 42))))) 3 (some (.var false [(.v (.sl (.tight 42) 5 [])), (.s 10193 0 (es.take 42).length)]))) 2 (some (.var false [(.v (.sl (.tight 42) 5 [])), (.v (.sl (.tight 37) 4 []))])))⟩ : St))) := by
  rw [← take_min 42 es]
  have l1 : E (cs F) 0 f11_l2 (⟨(upd (upd (upd (upd Sx.e0 6 (.v (.int .i64 (0)))) 3 (.p 3 0)) 2 (.p 2 0)) 1 (.p 1 0)), (upd (upd (upd Sx.h0 3 (some (.var false [(.v (.sl (.tight 42) 5 [])), (.v (.sl (.tight 37) 4 []))]))) 2 (some (.var false [(.v (.sl (.tight 42) 5 [])), (.v (.sl (.tight 37) 4 []))]))) 1 (some (.var false [(.v (.sl .shared 5 (rowsBy Vx.c vs))), (.v (.sl .shared 4 (rowsBy Ed.c es)))])))⟩ : St) = some (if min es.length 42 = 0 then (.exit 2, (⟨(upd (upd Sx.e0 3 (.p 3 0)) 2 (.p 2 0)), (upd (upd Sx.h0 3 (some (.var false [(.v (.sl (.tight 42) 5 [])), (.v (.sl (.tight 37) 4 []))]))) 2 (some (.var false [(.v (.sl (.tight 42) 5 [])), (.v (.sl (.tight 37) 4 []))])))⟩ : St)) else (.exit 2, (⟨(upd (upd Sx.e0 3 (.p 3 0)) 2 (.p 2 0)), (upd (upd (upd Sx.h0 10193 (some (.arr false 37 4 (rowsBy Ed.c (es.take (min es.length 42)))))) 3 (some (.var false [(.v (.sl (.tight 42) 5 [])), (.s 10193 0 (es.take (min es.length 42)).length)]))) 2 (some (.var false [(.v (.sl (.tight 42) 5 [])), (.v (.sl (.tight 37) 4 []))])))⟩ : St))) := by
    refine loop_grow (b := f11_b2) _ (fun q0 => (⟨(upd (upd (upd (upd Sx.e0 6 (.v (.int .i64 ((q0 : Int))))) 3 (.p 3 0)) 2 (.p 2 0)) 1 (.p 1 0)), (upd (upd (upd (upd Sx.h0 10193 (some (.arr false 37 4 (rowsBy Ed.c (es.take q0))))) 3 (some (.var false [(.v (.sl (.tight 42) 5 [])), (.s 10193 0 (es.take q0).length)]))) 2 (some (.var false [(.v (.sl (.tight 42) 5 [])), (.v (.sl (.tight 37) 4 []))]))) 1 (some (.var false [(.v (.sl .shared 5 (rowsBy Vx.c vs))), (.v (.sl .shared 4 (rowsBy Ed.c es)))])))⟩ : St)) (min es.length 42) ?_ (by simp) ?_ ?_ ?_ (by simp)
    · intro h0
      simp only [f11_b2, show decide ((0 : Int) < (es.length : Int)) = false from decide_eq_false (by omega), go_sem, reduceIte, Nat.reduceEqDiff, Nat.reduceAdd, List.length_cons, List.length_nil]
    · intro hn
      have h1 : 0 < es.length := by omega
      have hs : es.take 1 = [es[0]] := List.take_succ_eq_append_getElem (i := 0) h1
      rw [hs]
      have e2 : rowsBy Ed.c [es[0]] = [[.int .i64 es[0].id.s, .int .i64 es[0].id.n, .str es[0].label, .int .i64 es[0].attr]] := rfl
      rw [e2]
      have d1 : decide ((0 : Int) < (es.length : Int)) = true := decide_eq_true (by omega)
      have h1z : (0 : Int) < (es.length : Int) := by omega
      simp only [f11_b2, h1z, rowsBy_get Ed.c h1, Ed.c, Int.reduceLT, show IntKind.i64.wrap 1 = 1 from rfl, go_sem, reduceIte, Nat.reduceEqDiff, Nat.reduceAdd, Nat.reduceMul, Nat.reduceLeDiff, Nat.reduceBEq, List.length_cons, List.length_nil, Int.reduceLT, Int.reduceAdd, Int.reduceToNat, Int.cast_ofNat_Int, Nat.testBit, Nat.reduceShiftRight, Nat.reduceAnd, Nat.reduceBNe]
    · intro i hi0 hi
      have h1 : i < es.length := by omega
      have h1z : (i : Int) < (es.length : Int) := by omega
      have h2 : i < 42 := by omega
      have h3 : decide ((i : Int) < 42) = true := decide_eq_true (by omega)
      have hw : (42 : Nat) ≤ 9223372036854775807 := by decide
      have hs : es.take (i + 1) = es.take i ++ [es[i]] := List.take_succ_eq_append_getElem h1
      have hl : (es.take i).length ≤ i := by rw [List.length_take]; omega
      have h5 : ((es.take i).length + 1) * 40 ≤ 140737488355328 := by omega
      rw [hs]
      have e2 : (es.take i ++ [es[i]]).length = (es.take i).length + 1 := by rw [List.length_append]; rfl
      rw [e2]
      generalize es.take i = q at *
      have e3 : rowsBy Ed.c q ++ [[.int .i64 es[i].id.s, .int .i64 es[i].id.n, .str es[i].label, .int .i64 es[i].attr]] = rowsBy Ed.c (q ++ [es[i]]) := rowsBy_snoc Ed.c q es[i]
      simp only [f11_b2, h1z, h3, rowsBy_get Ed.c h1, Ed.c, h5, e3, wrap_succ h2 hw, List.take_length, go_sem, reduceIte, Nat.reduceEqDiff, Nat.reduceAdd, Nat.reduceBEq, List.length_cons, List.length_nil, Nat.testBit, Nat.reduceShiftRight, Nat.reduceAnd, Nat.reduceBNe]
    · intro hn
      by_cases h : es.length ≤ 42
      · rw [Nat.min_eq_left h]
        simp only [f11_b2, dec_ge (Nat.le_refl es.length), go_sem, reduceIte, Nat.reduceEqDiff, Nat.reduceAdd, List.length_cons, List.length_nil]
      · rw [Nat.min_eq_right (by omega)]
        simp only [f11_b2, show decide ((42 : Int) < (es.length : Int)) = true from decide_eq_true (by omega), go_sem, reduceIte, Nat.reduceEqDiff, Nat.reduceAdd, List.length_cons, List.length_nil, Int.reduceLT, Int.cast_ofNat_Int]
  exact l1
theorem few_l2b (vs : List Vx) (es : List Ed) (m : List Vx) : E (cs F) 0 f11_l2 (⟨(upd (upd (upd (upd Sx.e0 6 (.v (.int .i64 (0)))) 3 (.p 3 0)) 2 (.p 2 0)) 1 (.p 1 0)), (upd (upd (upd (upd Sx.h0 10192 (some (.arr false 42 5 (rowsBy Vx.c m)))) 3 (some (.var false [(.s 10192 0 m.length), (.v (.sl (.tight 37) 4 []))]))) 2 (some (.var false [(.v (.sl (.tight 42) 5 [])), (.v (.sl (.tight 37) 4 []))]))) 1 (some (.var false [(.v (.sl .shared 5 (rowsBy Vx.c vs))), (.v (.sl .shared 4 (rowsBy Ed.c es)))])))⟩ : St) =
    some (if min es.length 42 = 0 then (.exit 2, (⟨(upd (upd Sx.e0 3 (.p 3 0)) 2 (.p 2 0)), (upd (upd (upd Sx.h0 10192 (some (.arr false 42 5 (rowsBy Vx.c m)))) 3 (some (.var false [(.s 10192 0 m.length), (.v (.sl (.tight 37) 4 []))]))) 2 (some (.var false [(.v (.sl (.tight 42) 5 [])), (.v (.sl (.tight 37) 4 []))])))⟩ : St)) else (.exit 2, (⟨(upd (upd Sx.e0 3 (.p 3 0)) 2 (.p 2 0)), (upd (upd (upd (upd Sx.h0 10193 (some (.arr false 37 4 (rowsBy Ed.c (es.take 42))))) 10192 (some (.arr false 42 5 (rowsBy Vx.c m)))) 3 (some (.var false [(.s 10192 0 m.length), (.s 10193 0 (es.take 42).length)]))) 2 (some (.var false [(.v (.sl (.tight 42) 5 [])), (.v (.sl (.tight 37) 4 []))])))⟩ : St))) := by
  rw [← take_min 42 es]
  have l1 : E (cs F) 0 f11_l2 (⟨(upd (upd (upd (upd Sx.e0 6 (.v (.int .i64 (0)))) 3 (.p 3 0)) 2 (.p 2 0)) 1 (.p 1 0)), (upd (upd (upd (upd Sx.h0 10192 (some (.arr false 42 5 (rowsBy Vx.c m)))) 3 (some (.var false [(.s 10192 0 m.length), (.v (.sl (.tight 37) 4 []))]))) 2 (some (.var false [(.v (.sl (.tight 42) 5 [])), (.v (.sl (.tight 37) 4 []))]))) 1 (some (.var false [(.v (.sl .shared 5 (rowsBy Vx.c vs))), (.v (.sl .shared 4 (rowsBy Ed.c es)))])))⟩ : St) = some (if min es.length 42 = 0 then (.exit 2, (⟨(upd (upd Sx.e0 3 (.p 3 0)) 2 (.p 2 0)), (upd (upd (upd Sx.h0 10192 (some (.arr false 42 5 (rowsBy Vx.c m)))) 3 (some (.var false [(.s 10192 0 m.length), (.v (.sl (.tight 37) 4 []))]))) 2 (some (.var false [(.v (.sl (.tight 42) 5 [])), (.v (.sl (.tight 37) 4 []))])))⟩ : St)) else (.exit 2, (⟨(upd (upd Sx.e0 3 (.p 3 0)) 2 (.p 2 0)), (upd (upd (upd (upd Sx.h0 10193 (some (.arr false 37 4 (rowsBy Ed.c (es.take (min es.length 42)))))) 10192 (some (.arr false 42 5 (rowsBy Vx.c m)))) 3 (some (.var false [(.s 10192 0 m.length), (.s 10193 0 (es.take (min es.length 42)).length)]))) 2 (some (.var false [(.v (.sl (.tight 42) 5 [])), (.v (.sl (.tight 37) 4 []))])))⟩ : St))) := by
    refine loop_grow (b := f11_b2) _ (fun q0 => (⟨(upd (upd (upd (upd Sx.e0 6 (.v (.int .i64 ((q0 : Int))))) 3 (.p 3 0)) 2 (.p 2 0)) 1 (.p 1 0)), (upd (upd (upd (upd (upd Sx.h0 10193 (some (.arr false 37 4 (rowsBy Ed.c (es.take q0))))) 10192 (some (.arr false 42 5 (rowsBy Vx.c m)))) 3 (some (.var false [(.s 10192 0 m.length), (.s 10193 0 (es.take q0).length)]))) 2 (some (.var false [(.v (.sl (.tight 42) 5 [])), (.v (.sl (.tight 37) 4 []))]))) 1 (some (.var false [(.v (.sl .shared 5 (rowsBy Vx.c vs))), (.v (.sl .shared 4 (rowsBy Ed.c es)))])))⟩ : St)) (min es.length 42) ?_ (by simp) ?_ ?_ ?_ (by simp)
    · intro h0
      simp only [f11_b2, show decide ((0 : Int) < (es.length : Int)) = false from decide_eq_false (by omega), go_sem, reduceIte, Nat.reduceEqDiff, Nat.reduceAdd, List.length_cons, List.length_nil]
    · intro hn
      have h1 : 0 < es.length := by omega
      have hs : es.take 1 = [es[0]] := List.take_succ_eq_append_getElem (i := 0) h1
      rw [hs]
      have e2 : rowsBy Ed.c [es[0]] = [[.int .i64 es[0].id.s, .int .i64 es[0].id.n, .str es[0].label, .int .i64 es[0].attr]] := rfl
      rw [e2]
      have d1 : decide ((0 : Int) < (es.length : Int)) = true := decide_eq_true (by omega)
      have h1z : (0 : Int) < (es.length : Int) := by omega
      simp only [f11_b2, h1z, rowsBy_get Ed.c h1, Ed.c, Int.reduceLT, show IntKind.i64.wrap 1 = 1 from rfl, go_sem, reduceIte, Nat.reduceEqDiff, Nat.reduceAdd, Nat.reduceMul, Nat.reduceLeDiff, Nat.reduceBEq, List.length_cons, List.length_nil, Int.reduceLT, Int.reduceAdd, Int.reduceToNat, Int.cast_ofNat_Int, Nat.testBit, Nat.reduceShiftRight, Nat.reduceAnd, Nat.reduceBNe]
    · intro i hi0 hi
      have h1 : i < es.length := by omega
      have h1z : (i : Int) < (es.length : Int) := by omega
      have h2 : i < 42 := by omega
      have h3 : decide ((i : Int) < 42) = true := decide_eq_true (by omega)
      have hw : (42 : Nat) ≤ 9223372036854775807 := by decide
      have hs : es.take (i + 1) = es.take i ++ [es[i]] := List.take_succ_eq_append_getElem h1
      have hl : (es.take i).length ≤ i := by rw [List.length_take]; omega
      have h5 : ((es.take i).length + 1) * 40 ≤ 140737488355328 := by omega
      rw [hs]
      have e2 : (es.take i ++ [es[i]]).length = (es.take i).length + 1 := by rw [List.length_append]; rfl
      rw [e2]
      generalize es.take i = q at *
      have e3 : rowsBy Ed.c q ++ [[.int .i64 es[i].id.s, .int .i64 es[i].id.n, .str es[i].label, .int .i64 es[i].attr]] = rowsBy Ed.c (q ++ [es[i]]) := rowsBy_snoc Ed.c q es[i]
      simp only [f11_b2, h1z, h3, rowsBy_get Ed.c h1, Ed.c, h5, e3, wrap_succ h2 hw, List.take_length, go_sem, reduceIte, Nat.reduceEqDiff, Nat.reduceAdd, Nat.reduceBEq, List.length_cons, List.length_nil, Nat.testBit, Nat.reduceShiftRight, Nat.reduceAnd, Nat.reduceBNe]
    · intro hn
      by_cases h : es.length ≤ 42
      · rw [Nat.min_eq_left h]
        simp only [f11_b2, dec_ge (Nat.le_refl es.length), go_sem, reduceIte, Nat.reduceEqDiff, Nat.reduceAdd, List.length_cons, List.length_nil]
      · rw [Nat.min_eq_right (by omega)]
        simp only [f11_b2, show decide ((42 : Int) < (es.length : Int)) = true from decide_eq_true (by omega), go_sem, reduceIte, Nat.reduceEqDiff, Nat.reduceAdd, List.length_cons, List.length_nil, Int.reduceLT, Int.cast_ofNat_Int]
  exact l1
theorem c_few (vs : List Vx) (es : List Ed) : call F 11 [.agg [.sl .shared 5 (rowsBy Vx.c vs), .sl .shared 4 (rowsBy Ed.c es)]] = some (.agg [.sl (.own 42) 5 (rowsBy Vx.c (fewVx 26 82 vs)), .sl (.own 37) 4 (rowsBy Ed.c (es.take 42))]) := by
  have l1 := few_l1 vs es
  have ze : min es.length 42 = 0 → es.take 42 = [] := fun h => List.eq_nil_of_length_eq_zero (by rw [List.length_take]; omega)
  have zv : min vs.length 26 = 0 → fewVx 26 82 vs = [] := fun h => List.eq_nil_of_length_eq_zero (by unfold fewVx; rw [List.length_map, List.length_take]; omega)
  by_cases h1 : min vs.length 26 = 0
  · rw [if_pos h1] at l1
    have l2 := few_l2a vs es
    rw [zv h1]
    by_cases h2 : min es.length 42 = 0
    · rw [if_pos h2] at l2
      rw [ze h2]
      rw [call_code F (show F 11 = some (.code f11) from rfl)]
      simp only [f11, l1, l2, rowsBy_nil, go_sem, reduceIte, reduceCtorEq, Nat.reduceEqDiff, Nat.reduceAdd, List.length_cons, List.length_nil]
    · rw [if_neg h2] at l2
      generalize es.take 42 = q at *
      rw [call_code F (show F 11 = some (.code f11) from rfl)]
      simp only [f11, l1, l2, rowsBy_nil, List.take_length, go_sem, reduceIte, reduceCtorEq, Nat.reduceEqDiff, Nat.reduceAdd, List.length_cons, List.length_nil]
  · rw [if_neg h1] at l1
    have l2 := few_l2b vs es (fewVx 26 82 vs)
    generalize fewVx 26 82 vs = m at *
    by_cases h2 : min es.length 42 = 0
    · rw [if_pos h2] at l2
      rw [ze h2]
      rw [call_code F (show F 11 = some (.code f11) from rfl)]
      simp only [f11, l1, l2, rowsBy_nil, List.take_length, go_sem, reduceIte, reduceCtorEq, Nat.reduceEqDiff, Nat.reduceAdd, List.length_cons, List.length_nil]
    · rw [if_neg h2] at l2
      generalize es.take 42 = q at *
      rw [call_code F (show F 11 = some (.code f11) from rfl)]
      simp only [f11, l1, l2, List.take_length, go_sem, reduceIte, reduceCtorEq, Nat.reduceEqDiff, Nat.reduceAdd, Nat.reduceBEq, List.length_cons, List.length_nil]
theorem few_fitsL (vs : List Vx) (es : List Ed) (n k m : Nat) (h : FitsL vs es) : FitsL (fewVx n k vs) (es.take m) := by
  refine ⟨fun v hv => ?_, fun v hv => h.2 v (List.mem_of_mem_take hv)⟩
  unfold fewVx at hv
  obtain ⟨w, hw, rfl⟩ := List.mem_map.1 hv
  exact h.1 w (List.mem_of_mem_take hw)
def ringV (a b c d : Dart) : List Vx := [⟨⟨1, 1⟩, [a, b, c, d], ⟨#[]⟩, 0⟩]
def ringE : List Ed := [⟨⟨1, 2⟩, ⟨#[]⟩, 0⟩, ⟨⟨1, 3⟩, ⟨#[]⟩, 0⟩]
def d20 : Dart := ⟨⟨1, 2⟩, 0⟩
def d21 : Dart := ⟨⟨1, 2⟩, 1⟩
def d30 : Dart := ⟨⟨1, 3⟩, 0⟩
def d31 : Dart := ⟨⟨1, 3⟩, 1⟩
theorem ring1_wf : WF (ringV d20 d21 d30 d31) ringE := wf_of (by decide) (by decide) (by decide +kernel) (by decide +kernel) (by decide +kernel)
theorem ring2_wf : WF (ringV d20 d30 d21 d31) ringE := wf_of (by decide) (by decide) (by decide +kernel) (by decide +kernel) (by decide +kernel)
theorem none_wf : WF [] [] := wf_of (by decide) (by decide) (by decide +kernel) (by decide +kernel) (by decide +kernel)
theorem cN_one (l : List Vx) (h : l.length = 1) : cN l = 1 := by
  have h0 : labV l 0 = 0 := Nat.le_zero.1 ((labV_lab l).self (by omega))
  unfold cN partsN
  rw [h]
  simp [List.range_succ, h0]
theorem ring1_gen : gN (ringV d20 d21 d30 d31) ringE = 0 := by
  have h := ring1_wf.gen
  rw [cN_one _ rfl, show fN (ringV d20 d21 d30 d31) ringE = 3 by decide +kernel, show (ringV d20 d21 d30 d31).length = 1 from rfl, show ringE.length = 2 from rfl] at h
  omega
theorem ring2_gen : gN (ringV d20 d30 d21 d31) ringE = 1 := by
  have h := ring2_wf.gen
  rw [cN_one _ rfl, show fN (ringV d20 d30 d21 d31) ringE = 1 by decide +kernel, show (ringV d20 d30 d21 d31).length = 1 from rfl, show ringE.length = 2 from rfl] at h
  omega
theorem none_gen : gN [] [] = 0 := by
  have h := none_wf.gen
  have h2 := none_wf.small
  rw [show fN [] [] = 0 by decide +kernel] at h
  simp only [List.length_nil] at h h2
  omega
theorem c_dart (n s : Int) : call F 31 [.int .i64 n, .int .i64 s] = some (.agg [.int .i64 1, .int .i64 n, .int .i64 s]) := by
  rw [call_code F (show F 31 = some (.code f31) from rfl)]
  simp only [f31, go_sem, reduceIte, reduceCtorEq, Nat.reduceEqDiff, Nat.reduceAdd, Nat.reduceLeDiff, List.length_cons, List.length_nil]
theorem c_two (a b c d : Dart) : call F 30 [.agg [.int .i64 a.e.s, .int .i64 a.e.n, .int .i64 a.d], .agg [.int .i64 b.e.s, .int .i64 b.e.n, .int .i64 b.d], .agg [.int .i64 c.e.s, .int .i64 c.e.n, .int .i64 c.d], .agg [.int .i64 d.e.s, .int .i64 d.e.n, .int .i64 d.d]] = some (.agg [.sl (.own 42) 5 (rowsBy Vx.c (ringV a b c d)), .sl (.own 37) 4 (rowsBy Ed.c ringE)]) := by
  rw [call_code F (show F 30 = some (.code f30) from rfl)]
  simp only [f30, go_sem, reduceIte, reduceCtorEq, Nat.reduceEqDiff, Nat.reduceAdd, Nat.reduceLeDiff, Nat.reduceBEq, List.length_cons, List.length_nil]
  rfl
theorem c_shown : call F 10 [] = some (.bool true) := by
  have k1 := c_two d20 d21 d30 d31
  have k2 := c_two d20 d30 d21 d31
  have g1 := i_euler_Genus ring1_wf
  have g2 := i_euler_Genus ring2_wf
  have g3 := i_Planar none_wf
  rw [ring1_gen] at g1
  rw [ring2_gen] at g2
  rw [none_gen, dec_t rfl] at g3
  simp only [show ((0 : Nat) : Int) = 0 from rfl, show ((1 : Nat) : Int) = 1 from rfl] at g1 g2
  simp only [d20, d21, d30, d31] at k1 k2
  simp only [rowsBy_nil] at g3
  generalize hq1 : ringV d20 d21 d30 d31 = q1 at *
  generalize hq2 : ringV d20 d30 d21 d31 = q2 at *
  simp only [d20, d21, d30, d31] at hq1 hq2
  rw [hq1] at k1
  rw [hq2] at k2
  generalize ringE = e at *
  rw [call_code F (show F 10 = some (.code f10) from rfl)]
  simp only [f10, c_dart, k1, k2, g1, g2, g3, rowsBy_takeAll, go_sem, reduceIte, reduceCtorEq, Nat.reduceEqDiff, Nat.reduceAdd, Nat.reduceMul, Nat.reduceLeDiff, List.length_cons, List.length_nil]
theorem t_bounds (vs : List Vx) (es : List Ed) (hL : FitsL vs es) : call F 3 [.agg [.sl .shared 5 (rowsBy Vx.c vs), .sl .shared 4 (rowsBy Ed.c es)]] = some (.bool true) := by
  have csh := c_shown
  have cw := c_few vs es
  have hr := fewVx_fits 26 82 (by decide) vs
  have hL' := few_fitsL vs es 26 82 42 hL
  generalize fewVx 26 82 vs = v at *
  generalize es.take 42 = e at *
  have cf := i_r04_Form v e hr hL'
  by_cases hf : formC v e = 0
  · have h := (formC_ok.1 hf).1
    have hg := h.gen
    have hs := h.small
    have hlv := h.lv
    have hle := h.le
    rw [hf] at cf
    have c1 := i_euler_Count h
    have c2 := i_euler_Genus h
    have c3 := i_Planar h
    generalize fN v e = f at *
    generalize cN v = c at *
    generalize gN v e = g at *
    have w1 : IntKind.i64.wrap ((v.length : Int) - (e.length : Int)) = (v.length : Int) - (e.length : Int) := wrap64 (by omega) (by omega)
    have w2 : IntKind.i64.wrap ((v.length : Int) - (e.length : Int) + (f : Int)) = (v.length : Int) - (e.length : Int) + (f : Int) := wrap64 (by omega) (by omega)
    have w3 : IntKind.i64.wrap (2 * (c : Int)) = 2 * (c : Int) := wrap64 (by omega) (by omega)
    have w4 : IntKind.i64.wrap (2 * (g : Int)) = 2 * (g : Int) := wrap64 (by omega) (by omega)
    have w5 : IntKind.i64.wrap (2 * (c : Int) - 2 * (g : Int)) = 2 * (c : Int) - 2 * (g : Int) := wrap64 (by omega) (by omega)
    have d1 : decide ((g : Int) ≥ 0) = true := dec_t (by omega)
    have d2 : decide (2 * (g : Int) ≤ (e.length : Int)) = true := dec_t (by omega)
    have d3 : decide ((v.length : Int) - (e.length : Int) + (f : Int) = 2 * (c : Int) - 2 * (g : Int)) = true := dec_t (by omega)
    have e6 : decide ((g : Int) = 0) = decide (g = 0) := by rw [decide_eq_decide]; omega
    have e7 : (decide (g = 0) == decide (g = 0)) = true := by cases decide (g = 0) <;> rfl
    have d4 : ((e.length : Int) > 0) ∨ g = 0 := by omega
    have d5 : decide ((e.length : Int) > 0) = true ∨ decide ((e.length : Int) > 0) = false ∧ decide (g = 0) = true := by
      by_cases he : (e.length : Int) > 0
      · exact .inl (dec_t he)
      · exact .inr ⟨dec_f he, dec_t (by omega)⟩
    generalize decide (g = 0) = b at *
    rcases d5 with d5 | ⟨d5, rfl⟩
    · rw [call_code F (show F 3 = some (.code f3) from rfl)]
      simp only [f3, csh, cw, cf, rowsBy_takeAll, c1, c2, c3, w1, w2, w3, w4, w5, d2, d3, e6, e7, d5, go_sem, reduceIte, reduceCtorEq, Nat.reduceEqDiff, Nat.reduceAdd, Nat.reduceMul, Nat.reduceLeDiff, List.length_cons, List.length_nil, ne_eq, not_true_eq_false]
    rw [call_code F (show F 3 = some (.code f3) from rfl)]
    simp only [f3, csh, cw, cf, rowsBy_takeAll, c1, c2, c3, w1, w2, w3, w4, w5, d2, d3, e6, e7, d5, go_sem, reduceIte, reduceCtorEq, Nat.reduceEqDiff, Nat.reduceAdd, Nat.reduceMul, Nat.reduceLeDiff, List.length_cons, List.length_nil, ne_eq, not_true_eq_false]
  · have hd := dec_t hf
    have hd2 := dec_f hf
    generalize formC v e = c at *
    rw [call_code F (show F 3 = some (.code f3) from rfl)]
    simp only [f3, csh, cw, cf, rowsBy_takeAll, hd, go_sem, reduceIte, reduceCtorEq, Nat.reduceEqDiff, Nat.reduceAdd, Nat.reduceMul, Nat.reduceLeDiff, List.length_cons, List.length_nil, ne_eq]
theorem t_trees (vs : List Vx) (es : List Ed) (hL : FitsL vs es) : call F 6 [.agg [.sl .shared 5 (rowsBy Vx.c vs), .sl .shared 4 (rowsBy Ed.c es)]] = some (.bool true) := by
  have csh := c_shown
  have cw := c_few vs es
  have hr := fewVx_fits 26 82 (by decide) vs
  have hL' := few_fitsL vs es 26 82 42 hL
  generalize fewVx 26 82 vs = v at *
  generalize es.take 42 = e at *
  have cf := i_r04_Form v e hr hL'
  by_cases hf : formC v e = 0
  · have h := (formC_ok.1 hf).1
    have hg := h.gen
    have hs := h.small
    have hlv := h.lv
    have hle := h.le
    rw [hf] at cf
    have c1 := i_euler_Count h
    have c2 := i_euler_Genus h
    have c3 := i_Planar h
    generalize fN v e = f at *
    generalize cN v = c at *
    generalize gN v e = g at *
    have w1 : IntKind.i64.wrap ((e.length : Int) + (c : Int)) = (e.length : Int) + (c : Int) := wrap64 (by omega) (by omega)
    have w2 : IntKind.i64.wrap (2 * (c : Int)) = 2 * (c : Int) := wrap64 (by omega) (by omega)
    have w3 : IntKind.i64.wrap ((e.length : Int) + 2 * (c : Int)) = (e.length : Int) + 2 * (c : Int) := wrap64 (by omega) (by omega)
    have w4 : IntKind.i64.wrap ((e.length : Int) + 2 * (c : Int) - (v.length : Int)) = (e.length : Int) + 2 * (c : Int) - (v.length : Int) := wrap64 (by omega) (by omega)
    have d1 : decide ((v.length : Int) ≤ (e.length : Int) + (c : Int)) = true := dec_t (by omega)
    have d2 : decide ((f : Int) ≥ (c : Int)) = true := dec_t (by omega)
    by_cases ht : (v.length : Int) = (e.length : Int) + (c : Int)
    · have d3 := dec_t ht
      have d4 : decide ((f : Int) = (c : Int)) = true := dec_t (by omega)
      have d5 : decide (g = 0) = true := dec_t (by omega)
      have d6 : decide ((f : Int) = (e.length : Int) + 2 * (c : Int) - (v.length : Int)) = true := dec_t (by omega)
      rw [call_code F (show F 6 = some (.code f6) from rfl)]
      simp only [f6, csh, cw, cf, rowsBy_takeAll, c1, c3, w1, w2, w3, w4, d1, d2, d3, d4, d5, d6, go_sem, reduceIte, reduceCtorEq, Nat.reduceEqDiff, Nat.reduceAdd, Nat.reduceMul, Nat.reduceLeDiff, List.length_cons, List.length_nil, ne_eq, not_true_eq_false]
    have d3 := dec_f ht
    by_cases h0 : g = 0
    · have d5 := dec_t h0
      have d6 : decide ((f : Int) = (e.length : Int) + 2 * (c : Int) - (v.length : Int)) = true := dec_t (by omega)
      rw [call_code F (show F 6 = some (.code f6) from rfl)]
      simp only [f6, csh, cw, cf, rowsBy_takeAll, c1, c3, w1, w2, w3, w4, d1, d2, d3, d5, d6, go_sem, reduceIte, reduceCtorEq, Nat.reduceEqDiff, Nat.reduceAdd, Nat.reduceMul, Nat.reduceLeDiff, List.length_cons, List.length_nil, ne_eq, not_true_eq_false]
    have d5 := dec_f h0
    rw [call_code F (show F 6 = some (.code f6) from rfl)]
    simp only [f6, csh, cw, cf, rowsBy_takeAll, c1, c3, w1, d1, d2, d3, d5, go_sem, reduceIte, reduceCtorEq, Nat.reduceEqDiff, Nat.reduceAdd, Nat.reduceMul, Nat.reduceLeDiff, List.length_cons, List.length_nil, ne_eq, not_true_eq_false]
  · have hd := dec_t hf
    have hd2 := dec_f hf
    generalize formC v e = c at *
    rw [call_code F (show F 6 = some (.code f6) from rfl)]
    simp only [f6, csh, cw, cf, rowsBy_takeAll, hd, go_sem, reduceIte, reduceCtorEq, Nat.reduceEqDiff, Nat.reduceAdd, Nat.reduceMul, Nat.reduceLeDiff, List.length_cons, List.length_nil, ne_eq]
theorem t_may (vs : List Vx) (es : List Ed) (hL : FitsL vs es) : call F 8 [.agg [.sl .shared 5 (rowsBy Vx.c vs), .sl .shared 4 (rowsBy Ed.c es)]] = some (.bool true) := by
  have csh := c_shown
  have cw := c_few vs es
  have hr := fewVx_fits 26 82 (by decide) vs
  have hL' := few_fitsL vs es 26 82 42 hL
  generalize fewVx 26 82 vs = v at *
  generalize es.take 42 = e at *
  have cf := i_r04_Form v e hr hL'
  have m1 := i_euler_May v e hr
  unfold mayC at m1
  by_cases hf : formC v e = 0
  · have h := (formC_ok.1 hf).1
    have hg := h.gen
    have hs := h.small
    have hlv := h.lv
    have hle := h.le
    rw [hf] at cf
    rw [if_pos hf] at m1
    have c3 := i_Planar h
    generalize gN v e = g at *
    by_cases h0 : g = 0
    · have d5 := dec_t h0
      rw [if_pos h0] at m1
      rw [call_code F (show F 8 = some (.code f8) from rfl)]
      simp only [f8, csh, cw, cf, rowsBy_takeAll, m1, c3, d5, go_sem, reduceIte, reduceCtorEq, Nat.reduceEqDiff, Nat.reduceAdd, Nat.reduceMul, Nat.reduceLeDiff, List.length_cons, List.length_nil, ne_eq, not_true_eq_false]
    have d5 := dec_f h0
    rw [if_neg h0] at m1
    rw [call_code F (show F 8 = some (.code f8) from rfl)]
    simp only [f8, csh, cw, cf, rowsBy_takeAll, m1, c3, d5, go_sem, reduceIte, reduceCtorEq, Nat.reduceEqDiff, Nat.reduceAdd, Nat.reduceMul, Nat.reduceLeDiff, List.length_cons, List.length_nil, Int.reduceEq, ne_eq, not_true_eq_false]
  · have hd := dec_t hf
    have hd2 := dec_f hf
    rw [if_neg hf] at m1
    have hd3 : decide (formC v e = formC v e) = true := dec_t rfl
    generalize formC v e = c at *
    rw [call_code F (show F 8 = some (.code f8) from rfl)]
    simp only [f8, csh, cw, cf, rowsBy_takeAll, m1, hd, go_sem, reduceIte, reduceCtorEq, Nat.reduceEqDiff, Nat.reduceAdd, Nat.reduceMul, Nat.reduceLeDiff, List.length_cons, List.length_nil, ne_eq]
end Go.Proofs.Ytonhkmpjpnjkfaa.Sx
namespace Go.Proofs.Ytonhkmpjpnjkfaa.Sx
open Go Go.RowKit Go.ChangeShapes Go.WideShapes Go.ChangeAt
set_option maxRecDepth 100000
theorem agg_of {t : TypeId} {n : Nat} {a : TV} (hagg : isAggB Try.prog t = true) (h : ArgShape Try.prog n t a) : ∃ ts, a = .agg ts ∧ Shape Try.prog n t ts := by
  unfold ArgShape at h; rw [if_pos hagg] at h; exact h
theorem own : ownKnob Try.prog.godebug = none := by kernel_rfl
theorem laidOut : laidOutB Try.prog = true := by kernel_rfl
/-- rows that are each of a form are a list's -/
theorem rows_list {α : Type} {c : α → List TV} {S : List TV → Prop} {Q : α → Prop} (h : ∀ ts, S ts → ∃ x, ts = c x ∧ Q x) : ∀ {rows : List (List TV)}, (∀ r ∈ rows, S r) → ∃ l : List α, rows = rowsBy c l ∧ ∀ x ∈ l, Q x
  | [], _ => ⟨[], rfl, by simp⟩
  | r :: rows, hr => by
    obtain ⟨x, rfl, hx⟩ := h r (hr r (by simp))
    obtain ⟨l, rfl, hl⟩ := rows_list h (rows := rows) fun q hq => hr q (by simp [hq])
    refine ⟨x :: l, rfl, fun y hy => ?_⟩
    rcases List.mem_cons.1 hy with rfl | hy
    · exact hx
    · exact hl y hy
theorem shInt {n : Nat} {ts : List TV} (h : Shape Try.prog (n + 1) 3 ts) : ∃ a, ts = [.int .i64 a] ∧ IntKind.i64.has a := by
  unfold Shape at h; rw [Try.underlying3] at h; exact h
theorem shStr {n : Nat} {ts : List TV} (h : Shape Try.prog (n + 1) 9 ts) : ∃ a : ByteArray, ts = [.str a] ∧ a.size ≤ 140737488351232 := by
  unfold Shape at h; rw [Try.underlying9] at h
  obtain ⟨a, rfl, _, ha⟩ := h; exact ⟨a, rfl, ha⟩
theorem shID {n : Nat} {ts : List TV} (h : Shape Try.prog (n + 2) 35 ts) : ∃ x : ID, ts = ID.c x := by
  unfold Shape at h; rw [Try.underlying35] at h
  obtain ⟨x, r, rfl, h1, y, r', rfl, h2, rfl⟩ := h
  obtain ⟨a, rfl, ha⟩ := shInt h1
  obtain ⟨b, rfl, hb⟩ := shInt h2
  exact ⟨⟨a, b⟩, rfl⟩
theorem shDart {n : Nat} {ts : List TV} (h : Shape Try.prog (n + 3) 39 ts) : ∃ x : Dart, ts = Dart.c x := by
  unfold Shape at h; rw [Try.underlying39] at h
  obtain ⟨x, r, rfl, h1, y, r', rfl, h2, rfl⟩ := h
  obtain ⟨e, rfl⟩ := shID h1
  obtain ⟨c, rfl, _⟩ := shInt h2
  exact ⟨⟨e, c⟩, rfl⟩
theorem shDarts {n : Nat} {ts : List TV} (h : Shape Try.prog (n + 4) 40 ts) : ∃ l : List Dart, ts = [.sl .shared 3 (rowsBy Dart.c l)] ∧ Fits l := by
  unfold Shape at h; rw [Try.underlying40] at h
  obtain ⟨rows, rfl, ⟨_, hb⟩, hr⟩ := h
  obtain ⟨l, rfl, _⟩ := rows_list (c := Dart.c) (Q := fun _ => True) (fun ts h => (shDart h).imp fun _ h => ⟨h, trivial⟩) hr
  refine ⟨l, rfl, Fits.of ?_⟩
  rw [rowsBy_length, show Try.prog.bytesOf 39 = 24 by kernel_rfl] at hb
  simp only [reachBytes] at hb
  omega
def VxOk (v : Vx) : Prop := Fits v.ring ∧ v.label.size ≤ 9223372036854775807
def EdOk (v : Ed) : Prop := v.label.size ≤ 9223372036854775807
theorem shVx {n : Nat} {ts : List TV} (h : Shape Try.prog (n + 5) 42 ts) : ∃ x : Vx, ts = Vx.c x ∧ VxOk x := by
  unfold Shape at h; rw [Try.underlying42] at h
  obtain ⟨x, r, rfl, h1, y, r', rfl, h2, z, r'', rfl, h3, u, r3, rfl, h4, rfl⟩ := h
  obtain ⟨e, rfl⟩ := shID h1
  obtain ⟨l, rfl, hl⟩ := shDarts h2
  obtain ⟨s, rfl, hs⟩ := shStr h3
  obtain ⟨c, rfl, _⟩ := shInt h4
  exact ⟨⟨e, l, s, c⟩, rfl, hl, Nat.le_trans hs (by decide)⟩
theorem shEd {n : Nat} {ts : List TV} (h : Shape Try.prog (n + 3) 37 ts) : ∃ x : Ed, ts = Ed.c x ∧ EdOk x := by
  unfold Shape at h; rw [Try.underlying37] at h
  obtain ⟨x, r, rfl, h1, z, r'', rfl, h3, u, r3, rfl, h4, rfl⟩ := h
  obtain ⟨e, rfl⟩ := shID h1
  obtain ⟨s, rfl, hs⟩ := shStr h3
  obtain ⟨c, rfl, _⟩ := shInt h4
  exact ⟨⟨e, s, c⟩, rfl, Nat.le_trans hs (by decide)⟩
theorem shVxs {n : Nat} {ts : List TV} (h : Shape Try.prog (n + 6) 22 ts) : ∃ l : List Vx, ts = [.sl .shared 5 (rowsBy Vx.c l)] ∧ ∀ v ∈ l, VxOk v := by
  unfold Shape at h; rw [Try.underlying22] at h
  obtain ⟨rows, rfl, _, hr⟩ := h
  obtain ⟨l, rfl, hl⟩ := rows_list (c := Vx.c) (fun ts h => shVx h) hr
  exact ⟨l, rfl, hl⟩
theorem shEds {n : Nat} {ts : List TV} (h : Shape Try.prog (n + 4) 23 ts) : ∃ l : List Ed, ts = [.sl .shared 4 (rowsBy Ed.c l)] ∧ ∀ v ∈ l, EdOk v := by
  unfold Shape at h; rw [Try.underlying23] at h
  obtain ⟨rows, rfl, _, hr⟩ := h
  obtain ⟨l, rfl, hl⟩ := rows_list (c := Ed.c) (fun ts h => shEd h) hr
  exact ⟨l, rfl, hl⟩
theorem shDiagram {n : Nat} {ts : List TV} (h : Shape Try.prog (n + 7) 25 ts) : ∃ (vs : List Vx) (es : List Ed), ts = [.sl .shared 5 (rowsBy Vx.c vs), .sl .shared 4 (rowsBy Ed.c es)] ∧ FitsR vs ∧ FitsL vs es := by
  unfold Shape at h; rw [Try.underlying25] at h
  obtain ⟨x, r, rfl, h1, z, r'', rfl, h3, rfl⟩ := h
  obtain ⟨d, rfl, hd⟩ := shVxs h1
  obtain ⟨e, rfl, he⟩ := shEds h3
  exact ⟨d, e, rfl, fun v hv => (hd v hv).1, fun v hv => (hd v hv).2, he⟩
end Go.Proofs.Ytonhkmpjpnjkfaa.Sx
