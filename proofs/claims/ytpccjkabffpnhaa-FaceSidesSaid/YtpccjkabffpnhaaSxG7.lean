/- Faces, parts and the genus of diagrams, in plain Lean: what an edge more or less does to them; bounds. What the functions of faces come to. Faces gone round: what the iterator's rounds come to. All faces: what the program's rounds, and the reference's, come to. The head of this chapter's statements. Rings the other way round, in plain Lean: the same faces, the other way round. An edge more between two corners, in plain Lean. The reference's copy of a diagram. FaceSides: an edge more between two corners. What a law is called with, as trees; a law's row from what the law's call comes to. The forms of this seat's arguments. -/
import Derived.ProofKit
import Derived.SizedLaws
import Derived.Test.YtpccjkabffpnhaaRows
import Derived.Test.YtpccjkabffpnhaaSxG4
import Derived.Test.YtpccjkabffpnhaaSxG5
import Derived.Test.YtpccjkabffpnhaaSxG6
namespace Go.Proofs.Ytpccjkabffpnhaa.Sx
/-! ### what an edge less does to the faces -/
/-- faces: cycles, and vertices alone -/
theorem Dec.faces {l m : List Vx} {a : Dart} (h : Pr l) (ha : a ∈ allR l) (c : Cut l m a (othD a)) {cs : List (List Dart)} (hc : Dec (phiD l) (allR l) cs) :
    ∃ cs', Dec (phiD m) (allR m) cs' ∧ ((∃ c ∈ cs, a ∈ c ∧ othD a ∈ c) ∧ cs'.length + aloneN m = cs.length + aloneN l + 1 ∧ (∀ u ∈ allR m, ∀ w ∈ allR m, phiD l u = a → phiD l w = othD a → ¬ ∃ c ∈ cs', u ∈ c ∧ w ∈ c) ∨
      (¬ ∃ c ∈ cs, a ∈ c ∧ othD a ∈ c) ∧ cs'.length + aloneN m + 1 = cs.length + aloneN l ∧ (∀ u ∈ allR m, ∀ w ∈ allR m, phiD l u = a → phiD l w = othD a → ∃ c ∈ cs', u ∈ c ∧ w ∈ c)) := by
  have hb := h.oth a ha
  have hab : a ≠ othD a := (h.ne a ha).symm
  have hal := c.alone h.nd hab ha hb
  have e1 : phiD l a = sigD l (othD a) := rfl
  have e2 : phiD l (othD a) = sigD l a := by unfold phiD; rw [othD_othD]
  obtain ⟨cs', hd, hcase⟩ := hc.cut (g := phiD m) (D' := allR m) ha hb hab (fun x => c.mem x) (fun y hy => c.phi h ha hy)
  refine ⟨cs', hd, ?_⟩
  rw [e1, e2] at hcase
  have two : (∃ c ∈ cs, a ∈ c ∧ othD a ∈ c) → ¬ (sigD l a = othD a ∧ sigD l (othD a) = a) := by
    rintro ⟨c, hcc, h1, h2⟩ ⟨h3, h4⟩
    exact hab ((hc.cy c hcc).within (S := fun z => z = a) (fun z hz => by rw [hz, e1, h4]) h1 rfl _ h2).symm
  have one : (¬ ∃ c ∈ cs, a ∈ c ∧ othD a ∈ c) → sigD l a ≠ a ∧ sigD l (othD a) ≠ othD a := by
    intro hn
    constructor
    · intro h3
      obtain ⟨c, hcc, h1⟩ := List.mem_flatten.1 ((hc.mem _).2 hb)
      have := (hc.cy c hcc).step h1
      rw [e2, h3] at this
      exact hn ⟨c, hcc, this, h1⟩
    · intro h3
      obtain ⟨c, hcc, h1⟩ := List.mem_flatten.1 ((hc.mem _).2 ha)
      have := (hc.cy c hcc).step h1
      rw [e1, h3] at this
      exact hn ⟨c, hcc, h1, this⟩
  rcases hcase with ⟨hs, he, hx⟩ | ⟨hs, he, hx⟩
  · refine .inl ⟨hs, ?_, hx⟩
    rw [hal, if_neg (two hs)]
    omega
  · refine .inr ⟨hs, ?_, hx⟩
    have k := one hs
    rw [hal, if_neg k.1, if_neg k.2]
    have : (if sigD l (othD a) = a ∧ sigD l a = othD a then 1 else 0) = (if sigD l a = othD a ∧ sigD l (othD a) = a then 1 else 0) := by
      simp only [and_comm]
    omega
/-! ### which vertices an edge joins -/
def stepV (l : List Vx) (u w : Nat) : Prop := ∃ x, x ∈ (l.getD u ⟨ID0, [], ⟨#[]⟩, 0⟩).ring ∧ othD x ∈ (l.getD w ⟨ID0, [], ⟨#[]⟩, 0⟩).ring
def ringAt (l : List Vx) (u : Nat) : List Dart := (l.getD u ⟨ID0, [], ⟨#[]⟩, 0⟩).ring
theorem ringAt_lt {l : List Vx} {u : Nat} (h : u < l.length) : ringAt l u = l[u].ring := by
  unfold ringAt; rw [List.getD_eq_getElem?_getD, List.getElem?_eq_getElem h]; rfl
theorem ringAt_mem {l : List Vx} {u : Nat} {x : Dart} (h : x ∈ ringAt l u) : u < l.length := by
  rcases Nat.lt_or_ge u l.length with h1 | h1
  · exact h1
  · unfold ringAt at h
    rw [List.getD_eq_getElem?_getD, List.getElem?_eq_none h1] at h
    cases h
theorem stepV_iff {l : List Vx} {u w : Nat} : stepV l u w ↔ ∃ x, x ∈ ringAt l u ∧ othD x ∈ ringAt l w := Iff.rfl
theorem stepV_symm {l : List Vx} (u w : Nat) (h : stepV l u w) : stepV l w u := by
  obtain ⟨x, h1, h2⟩ := h
  exact ⟨othD x, h2, by rw [othD_othD]; exact h1⟩
theorem at_ring {l : List Vx} {x : Dart} (h : x ∈ allR l) : ∃ u, u < l.length ∧ x ∈ ringAt l u := by
  obtain ⟨v, hv, hx⟩ := (allR_mem l x).1 h
  obtain ⟨i, hi, rfl⟩ := List.mem_iff_getElem.1 hv
  exact ⟨i, hi, by rw [ringAt_lt hi]; exact hx⟩
theorem ringAt_all {l : List Vx} {u : Nat} {x : Dart} (h : x ∈ ringAt l u) : x ∈ allR l := by
  have hu := ringAt_mem h
  rw [ringAt_lt hu] at h
  exact mem_allR (List.getElem_mem hu) h
theorem ringAt_one {l : List Vx} (hn : (allR l).Nodup) {u w : Nat} {x : Dart} (h : x ∈ ringAt l u) (k : x ∈ ringAt l w) : u = w := by
  have hu := ringAt_mem h
  have hw := ringAt_mem k
  rw [ringAt_lt hu] at h
  rw [ringAt_lt hw] at k
  exact ring_one hn hu hw h k
theorem sig_ringAt {l : List Vx} (hn : (allR l).Nodup) {u : Nat} {x : Dart} (h : x ∈ ringAt l u) : sigD l x ∈ ringAt l u := by
  have hu := ringAt_mem h
  rw [ringAt_lt hu] at h ⊢
  exact sigD_mem hn (List.getElem_mem hu) h
theorem Cut.rings {l m : List Vx} {a b : Dart} (c : Cut l m a b) {u : Nat} {x : Dart} : x ∈ ringAt m u ↔ x ∈ ringAt l u ∧ x ≠ a ∧ x ≠ b := by
  have key : ∀ (hu : u < l.length) (hu' : u < m.length), x ∈ m[u].ring ↔ x ∈ l[u].ring ∧ x ≠ a ∧ x ≠ b := fun hu hu' => by
    rw [← (c.rot u hu hu').mem x, List.mem_filter, List.mem_filter]
    simp only [decide_eq_true_eq, and_assoc]
  constructor
  · intro h
    have hu := ringAt_mem h
    have hu2 : u < l.length := by rw [c.len]; exact hu
    rw [ringAt_lt hu] at h
    rw [ringAt_lt hu2]
    exact (key hu2 hu).1 h
  · rintro ⟨h, h1, h2⟩
    have hu := ringAt_mem h
    have hu2 : u < m.length := by rw [← c.len]; exact hu
    rw [ringAt_lt hu] at h
    rw [ringAt_lt hu2]
    exact (key hu hu2).2 ⟨h, h1, h2⟩
theorem Cut.step {l m : List Vx} {a : Dart} (c : Cut l m a (othD a)) {p q : Nat} (hn : (allR l).Nodup) (hp : a ∈ ringAt l p) (hq : othD a ∈ ringAt l q) (u w : Nat) : stepV l u w ↔ withE (stepV m) p q u w := by
  constructor
  · rintro ⟨x, h1, h2⟩
    by_cases e1 : x = a
    · subst e1; exact .inr (.inl ⟨ringAt_one hn h1 hp, ringAt_one hn h2 hq⟩)
    · by_cases e2 : x = othD a
      · subst e2
        rw [othD_othD] at h2
        exact .inr (.inr ⟨ringAt_one hn h1 hq, ringAt_one hn h2 hp⟩)
      · refine .inl ⟨x, c.rings.2 ⟨h1, e1, e2⟩, c.rings.2 ⟨h2, fun e => e2 ?_, fun e => e1 (othD_inj e)⟩⟩
        rw [← e, othD_othD]
  · rintro (⟨x, h1, h2⟩ | ⟨rfl, rfl⟩ | ⟨rfl, rfl⟩)
    · exact ⟨x, (c.rings.1 h1).1, (c.rings.1 h2).1⟩
    · exact ⟨a, hp, hq⟩
    · exact ⟨othD a, hq, by rw [othD_othD]; exact hp⟩
/-- a walk along a face goes from vertex to vertex -/
theorem pth_con {l m : List Vx} {a : Dart} (h : Pr l) (c : Cut l m a (othD a)) : ∀ {r : List Dart} {x y : Dart} {u w : Nat}, Pth (phiD l) x r y → (∀ z ∈ x :: r, z ∈ allR l ∧ z ≠ a ∧ z ≠ othD a) → x ∈ ringAt l u → y ∈ ringAt l w → Con (stepV m) u w := by
  have one : ∀ {x : Dart} {u w : Nat}, x ∈ allR l → x ≠ a → x ≠ othD a → x ∈ ringAt l u → phiD l x ∈ ringAt l w → Con (stepV m) u w := by
    intro x u w hx h1 h2 hu hw
    obtain ⟨k, _, hk⟩ := at_ring (h.oth x hx)
    have e : k = w := ringAt_one h.nd (sig_ringAt h.nd hk) hw
    subst e
    exact .one ⟨x, c.rings.2 ⟨hu, h1, h2⟩, c.rings.2 ⟨hk, fun e => h2 (by rw [← e, othD_othD]), fun e => h1 (othD_inj e)⟩⟩
  intro r
  induction r with
  | nil =>
    intro x y u w hp hr hu hw
    obtain ⟨h1, h2, h3⟩ := hr x (by simp)
    refine one h1 h2 h3 hu ?_
    rw [show phiD l x = y from hp]; exact hw
  | cons z r ih =>
    intro x y u w hp hr hu hw
    obtain ⟨h1, h2, h3⟩ := hr x (by simp)
    obtain ⟨h4, _, _⟩ := hr z (by simp)
    obtain ⟨k, _, hk⟩ := at_ring h4
    refine (one h1 h2 h3 hu (by rw [hp.1]; exact hk)).trans (ih hp.2 (fun z' hz' => hr z' (by simp at hz' ⊢; exact .inr hz')) hk hw)
/-- an edge between two faces holds nothing together alone -/
theorem con_without {l m : List Vx} {a : Dart} (h : Pr l) (ha : a ∈ allR l) (c : Cut l m a (othD a)) {cs : List (List Dart)} (hc : Dec (phiD l) (allR l) cs) (hn : ¬ ∃ c ∈ cs, a ∈ c ∧ othD a ∈ c) {p q : Nat} (hp : a ∈ ringAt l p) (hq : othD a ∈ ringAt l q) :
    Con (stepV m) q p := by
  obtain ⟨A, rest, e, he, hae, hA, pm, hd⟩ := hc.front ha
  have pA : Pth (phiD l) a A a := hd.cy (a :: A) (by simp)
  have hphi : phiD l a ∈ ringAt l q := sig_ringAt h.nd hq
  cases A with
  | nil =>
    have : phiD l a = a := pA
    rw [this] at hphi
    rw [ringAt_one h.nd hp hphi]
    exact .refl _
  | cons x r =>
    obtain ⟨e1, e2⟩ := pA
    rw [e1] at hphi
    refine pth_con h c e2 (fun z hz => ?_) hphi hp
    have hze : z ∈ e := (hA z).2 (by simp at hz ⊢; exact .inr hz)
    refine ⟨(hc.mem z).1 (List.mem_flatten.2 ⟨e, he, hze⟩), ?_, fun e' => hn ⟨e, he, hae, e' ▸ hze⟩⟩
    rintro rfl
    have := hd.nd
    simp only [List.flatten_cons, List.cons_append, List.nodup_cons] at this
    exact this.1 (by simp only [List.mem_cons, List.mem_append] at hz ⊢; rcases hz with hz | hz <;> simp [hz])
/-- places of vertices, faces, edges, parts -/
structure Eul (l : List Vx) (v e f p : Nat) : Prop where
  v : v = l.length
  e : 2 * e = (allR l).length
  f : ∃ cs, Dec (phiD l) (allR l) cs ∧ f = cs.length + aloneN l
  p : ∃ lab, Lab (stepV l) l.length lab ∧ p = partsN lab l.length
def cutE (l : List Vx) (a : Dart) : List Vx := l.map fun v => reR v ((v.ring.filter (fun y => decide (¬ y = a))).filter (fun y => decide (¬ y = othD a)))
theorem cutE_cut (l : List Vx) (a : Dart) : Cut l (cutE l a) a (othD a) := by
  refine ⟨by simp [cutE], fun i h h' => ?_⟩
  simp only [cutE, List.getElem_map, reR]
  exact .refl _
theorem cut_len {l m : List Vx} {a : Dart} (h : Pr l) (ha : a ∈ allR l) (c : Cut l m a (othD a)) : (allR l).length = (allR m).length + 2 := by
  have hn : (a :: othD a :: allR m).Nodup := by
    simp only [List.nodup_cons, List.mem_cons, not_or]
    exact ⟨⟨(h.ne a ha).symm, fun hm => ((c.mem _).1 hm).2.1 rfl⟩, fun hm => ((c.mem _).1 hm).2.2 rfl, c.nd h.nd⟩
  have := len_of_mem (b := a :: othD a :: allR m) h.nd hn fun x => by
    simp only [List.mem_cons, c.mem]
    constructor
    · intro hx
      by_cases h1 : x = a
      · exact .inl h1
      · by_cases h2 : x = othD a
        · exact .inr (.inl h2)
        · exact .inr (.inr ⟨hx, h1, h2⟩)
    · rintro (rfl | rfl | ⟨hx, _⟩)
      · exact ha
      · exact h.oth _ ha
      · exact hx
  rw [this]; rfl
/-- an edge less -/
theorem Eul.cut {l m : List Vx} {a : Dart} (h : Pr l) (ha : a ∈ allR l) (c : Cut l m a (othD a)) {v e f p v' e' f' p' : Nat} (k : Eul l v e f p) (k' : Eul m v' e' f' p') :
    v' = v ∧ e = e' + 1 ∧ ((f' = f + 1 ∧ (p' = p ∨ p' = p + 1)) ∨ (f = f' + 1 ∧ p' = p)) := by
  obtain ⟨cs, hc, rfl⟩ := k.f
  obtain ⟨cs0, hc0, rfl⟩ := k'.f
  obtain ⟨lab, hl, rfl⟩ := k.p
  obtain ⟨lab', hl', rfl⟩ := k'.p
  obtain ⟨cs', hc', hcase⟩ := hc.faces h ha c
  have hlen := hc'.len hc0
  have hcl := cut_len h ha c
  have h1 := k.e
  have h2 := k'.e
  obtain ⟨i, hi, hai⟩ := at_ring ha
  obtain ⟨j, hj, haj⟩ := at_ring (h.oth a ha)
  have hl2 : Lab (withE (stepV m) i j) l.length lab := hl.iff fun u w => c.step h.nd hai haj u w
  rw [c.len] at hl2 hi hj
  have hpw := parts_with (R := stepV m) stepV_symm hi hj hl' hl2
  refine ⟨by rw [k.v, k'.v, c.len], by omega, ?_⟩
  rw [← c.len] at hpw
  rw [← c.len]
  rcases hcase with ⟨_, hf, _⟩ | ⟨hn, hf, _⟩
  · refine .inl ⟨by omega, ?_⟩
    split at hpw <;> omega
  · refine .inr ⟨by omega, ?_⟩
    have hcon := (con_without h ha c hc hn hai haj).symm stepV_symm
    rw [if_pos hcon] at hpw
    omega
theorem eul_ex {l : List Vx} (h : Pr l) {e : Nat} (he : 2 * e = (allR l).length) : ∃ f p, Eul l l.length e f p := by
  obtain ⟨lab, hl⟩ := lab_ex (stepV l) l.length
  exact ⟨_, _, rfl, he, ⟨_, (phiD_oo h).dec (Nat.le_refl _), rfl⟩, ⟨lab, hl, rfl⟩⟩
theorem Eul.uniq {l : List Vx} {v e f p v' e' f' p' : Nat} (k : Eul l v e f p) (k' : Eul l v' e' f' p') : v' = v ∧ e' = e ∧ f' = f ∧ p' = p := by
  obtain ⟨cs, hc, rfl⟩ := k.f
  obtain ⟨cs0, hc0, rfl⟩ := k'.f
  obtain ⟨lab, hl, rfl⟩ := k.p
  obtain ⟨lab', hl', rfl⟩ := k'.p
  refine ⟨by rw [k.v, k'.v], by have := k.e; have := k'.e; omega, by rw [hc.len hc0], partsN_congr fun u hu => hl'.uniq hl hu⟩
/-- the genus -/
theorem Eul.genus : ∀ (n : Nat) {l : List Vx}, (allR l).length ≤ n → Pr l → ∀ {v e f p : Nat}, Eul l v e f p → ∃ g : Nat, v + f + 2 * g = e + 2 * p := by
  intro n
  induction n with
  | zero =>
    intro l hn h v e f p k
    have hnil : allR l = [] := List.eq_nil_of_length_eq_zero (by omega)
    obtain ⟨cs, hc, rfl⟩ := k.f
    obtain ⟨lab, hl, rfl⟩ := k.p
    have he := k.e
    rw [hnil] at he
    have hcs : cs = [] := by
      cases cs with
      | nil => rfl
      | cons c cs =>
        have := hc.cy c (by simp)
        cases c with
        | nil => cases this
        | cons x r =>
          have := (hc.mem x).1 (by simp)
          rw [hnil] at this; cases this
    subst hcs
    have hal : aloneN l = l.length := by
      unfold aloneN
      refine List.countP_eq_length.2 fun v hv => ?_
      cases hr : v.ring with
      | nil => rfl
      | cons x r =>
        have := mem_allR hv (x := x) (by rw [hr]; simp)
        rw [hnil] at this; cases this
    have hparts := parts_none hl (fun u w => by
      rintro ⟨x, h1, _⟩
      have := ringAt_all (u := u) h1
      rw [hnil] at this; cases this)
    refine ⟨0, ?_⟩
    rw [k.v, hal, hparts]
    simp at he
    simp; omega
  | succ n ih =>
    intro l hn h v e f p k
    by_cases h0 : (allR l).length ≤ n
    · exact ih h0 h k
    · have hne : allR l ≠ [] := fun e => by rw [e] at h0; simp at h0
      obtain ⟨a, ha⟩ := List.exists_mem_of_ne_nil _ hne
      have c := cutE_cut l a
      have h' := c.pr h
      have hcl := cut_len h ha c
      have he := k.e
      obtain ⟨f', p', k'⟩ := eul_ex h' (e := e - 1) (by omega)
      obtain ⟨g', hg'⟩ := ih (by omega) h' k'
      obtain ⟨a1, a2, a3⟩ := Eul.cut h ha c k k'
      rcases a3 with ⟨a3, a4 | a4⟩ | ⟨a3, a4⟩
      · exact ⟨g' + 1, by omega⟩
      · exact ⟨g', by omega⟩
      · exact ⟨g', by omega⟩
/-- each part has a face, and a vertex -/
theorem Eul.faces_le {l : List Vx} (h : Pr l) {v e f p : Nat} (k : Eul l v e f p) : p ≤ f ∧ p ≤ v := by
  obtain ⟨cs, hc, rfl⟩ := k.f
  obtain ⟨lab, hl, rfl⟩ := k.p
  refine ⟨?_, by rw [k.v]; exact partsN_le _ _⟩
  -- darts of one face are in one part
  have key : ∀ c ∈ cs, ∀ x ∈ c, ∀ y ∈ c, ∀ u w, x ∈ ringAt l u → y ∈ ringAt l w → Con (stepV l) u w := by
    intro c hcc x hx y hy u w hu hw
    have := (hc.cy c hcc).within (S := fun z => z ∈ allR l ∧ ∀ w, z ∈ ringAt l w → Con (stepV l) u w) (fun z hz => by
      obtain ⟨h1, h2⟩ := hz
      obtain ⟨i, _, hi⟩ := at_ring h1
      obtain ⟨j, _, hj⟩ := at_ring (h.oth z h1)
      have hs := sig_ringAt h.nd hj
      refine ⟨ringAt_all hs, fun w hw => ?_⟩
      have e : j = w := ringAt_one h.nd hs hw
      subst e
      exact (h2 i hi).trans (.one ⟨z, hi, hj⟩)) hx ⟨(hc.mem x).1 (List.mem_flatten.2 ⟨c, hcc, hx⟩), fun w hw => by rw [ringAt_one h.nd hu hw]; exact .refl _⟩ y hy
    exact this.2 w hw
  unfold partsN aloneN
  -- those whose ring is empty, those whose ring is not
  have count_split : ∀ (us : List Nat), us.countP (fun u => decide (lab u = u)) = us.countP (fun u => decide (lab u = u ∧ ringAt l u = [])) + us.countP (fun u => decide (lab u = u ∧ ringAt l u ≠ [])) := by
    intro us
    induction us with
    | nil => rfl
    | cons u us ih =>
      simp only [List.countP_cons, ih, decide_eq_true_eq]
      by_cases h1 : lab u = u <;> by_cases h2 : ringAt l u = [] <;> simp [h1, h2] <;> omega
  have e1 : (List.range l.length).countP (fun u => decide (lab u = u ∧ ringAt l u = [])) ≤ l.countP (fun v => v.ring.isEmpty) := by
    have e : l.countP (fun v => v.ring.isEmpty) = (List.range l.length).countP (fun u => (ringAt l u).isEmpty) := by
      have : l = (List.range l.length).map (fun u => l.getD u ⟨ID0, [], ⟨#[]⟩, 0⟩) := by
        refine List.ext_getElem (by simp) fun i h1 h2 => ?_
        simp [h1]
      conv => lhs; rw [this]
      rw [List.countP_map]; rfl
    rw [e]
    refine List.countP_mono_left fun u _ hu => ?_
    have := of_decide_eq_true hu
    rw [this.2]; rfl
  have e2 : (List.range l.length).countP (fun u => decide (lab u = u ∧ ringAt l u ≠ [])) ≤ cs.length := by
    rw [List.countP_eq_length_filter]
    have inj : ∀ (us : List Nat) (ds : List (List Dart)), us.Nodup → (∀ d ∈ ds, d ∈ cs) → (∀ u ∈ us, u < l.length ∧ lab u = u ∧ ∃ x ∈ ringAt l u, x ∈ ds.flatten) → us.length ≤ ds.length := by
      intro us
      induction us with
      | nil => intro ds _ _ _; exact Nat.zero_le _
      | cons u us ih =>
        intro ds hnd hds hus
        rw [List.nodup_cons] at hnd
        obtain ⟨h1, h2, x, hx, hxd⟩ := hus u (by simp)
        obtain ⟨d, hd, hxd⟩ := List.mem_flatten.1 hxd
        obtain ⟨rest, pm⟩ := perm_front hd
        have := ih rest hnd.2 (fun d hd => hds d (pm.mem_iff.2 (by simp [hd]))) (fun w hw => by
          obtain ⟨k1, k2, y, hy, hyd⟩ := hus w (by simp [hw])
          refine ⟨k1, k2, y, hy, ?_⟩
          have hyd' := (pm.flatten.mem_iff).1 hyd
          rw [List.flatten_cons, List.mem_append] at hyd'
          rcases hyd' with hyd' | hyd'
          · exfalso
            have hcon := key d (hds d hd) x hxd y hyd' u w hx hy
            have := (hl.eq stepV_symm h1 k1).1 hcon
            rw [h2, k2] at this
            exact hnd.1 (this ▸ hw)
          · exact hyd')
        rw [pm.length_eq]
        simp; omega
    refine inj _ cs (List.nodup_range.filter _) (fun _ h => h) fun u hu => ?_
    obtain ⟨hu1, hu2⟩ := List.mem_filter.1 hu
    have hu2 := of_decide_eq_true hu2
    obtain ⟨x, hx⟩ := List.exists_mem_of_ne_nil _ hu2.2
    exact ⟨List.mem_range.1 hu1, hu2.1, x, hx, (hc.mem x).2 (ringAt_all hx)⟩
  have := count_split (List.range l.length)
  omega
end Go.Proofs.Ytpccjkabffpnhaa.Sx
namespace Go.Proofs.Ytpccjkabffpnhaa.Sx
open Go
theorem c_ident_Other (x : Dart) (h : x.d = 0 ∨ x.d = 1) : call F 36 [.agg [.int .i64 x.e.s, .int .i64 x.e.n, .int .i64 x.d]] = some (.agg [.int .i64 x.e.s, .int .i64 x.e.n, .int .i64 (1 - x.d)]) := by
  obtain ⟨e, d⟩ := x
  simp only at h
  have h0 : IntKind.i64.wrap (xorB .i64 0 1) = 1 := by decide
  have h1 : IntKind.i64.wrap (xorB .i64 1 1) = 0 := by decide
  rcases h with rfl | rfl
  · rw [call_code F (show F 36 = some (.code f36) from rfl)]
    simp only [f36, h0, go_sem, reduceIte, reduceCtorEq, Nat.reduceEqDiff, Nat.reduceAdd, List.length_cons, List.length_nil, Int.reduceSub]
  · rw [call_code F (show F 36 = some (.code f36) from rfl)]
    simp only [f36, h1, go_sem, reduceIte, reduceCtorEq, Nat.reduceEqDiff, Nat.reduceAdd, List.length_cons, List.length_nil, Int.reduceSub]
theorem c_r01_Other (x : Dart) (h : x.d = 0 ∨ x.d = 1) : call F 27 [.agg [.int .i64 x.e.s, .int .i64 x.e.n, .int .i64 x.d]] = some (.agg [.int .i64 x.e.s, .int .i64 x.e.n, .int .i64 (1 - x.d)]) := by
  obtain ⟨e, d⟩ := x
  simp only at h
  have h0 : IntKind.i64.wrap 1 = 1 := by decide
  have h1 : IntKind.i64.wrap 0 = 0 := by decide
  rcases h with rfl | rfl
  · rw [call_code F (show F 27 = some (.code f27) from rfl)]
    simp only [f27, h0, go_sem, reduceIte, reduceCtorEq, Nat.reduceEqDiff, Nat.reduceAdd, Nat.reduceLeDiff, List.length_cons, List.length_nil, Int.reduceSub]
  · rw [call_code F (show F 27 = some (.code f27) from rfl)]
    simp only [f27, h1, go_sem, reduceIte, reduceCtorEq, Nat.reduceEqDiff, Nat.reduceAdd, Nat.reduceLeDiff, List.length_cons, List.length_nil, Int.reduceSub]
theorem dartsE_snoc (es : List Ed) (e : Ed) : dartsE (es ++ [e]) = dartsE es ++ [⟨e.id, 0⟩, ⟨e.id, 1⟩] := by unfold dartsE; rw [List.flatMap_append]; simp
theorem rowsBy_two {l : List Dart} (e : ID) : rowsBy Dart.c l ++ [[.int .i64 e.s, .int .i64 e.n, .int .i64 0], [.int .i64 e.s, .int .i64 e.n, .int .i64 1]] = rowsBy Dart.c (l ++ [⟨e, 0⟩, ⟨e, 1⟩]) := by rw [← rowsBy_append]; rfl
theorem i_face_Darts (vs : TV) (es : List Ed) (he : es.length ≤ 100000) : call F 16 [.agg [vs, .sl .shared 4 (rowsBy Ed.c es)]] = some (.sl (.own 29) 3 (rowsBy Dart.c (dartsE es))) := by
  have hw : es.length ≤ 9223372036854775807 := by omega
  have l1 : E (cs F) 0 f16_l1 (⟨(upd (upd (upd (upd Sx.e0 10 (.v (.int .i64 (0)))) 9 (.v (.int .i64 ((es.length : Int))))) 8 (.v (.sl .shared 4 (rowsBy Ed.c es)))) 3 (.v (.sl (.tight 29) 3 []))), Sx.h0⟩ : St) = some (if es.length = 0 then (.exit 0, (⟨(upd Sx.e0 3 (.v (.sl (.tight 29) 3 []))), Sx.h0⟩ : St)) else (.exit 0, (⟨(upd Sx.e0 3 (.s 3 0 (dartsE es).length)), (upd Sx.h0 3 (some (.arr false 29 3 (rowsBy Dart.c (dartsE es)))))⟩ : St))) := by
    refine loop_grow (b := f16_b1) _ (fun q0 => (⟨(upd (upd (upd (upd Sx.e0 10 (.v (.int .i64 ((q0 : Int))))) 9 (.v (.int .i64 ((es.length : Int))))) 8 (.v (.sl .shared 4 (rowsBy Ed.c es)))) 3 (.s 3 0 (dartsE (es.take q0)).length)), (upd Sx.h0 3 (some (.arr false 29 3 (rowsBy Dart.c (dartsE (es.take q0))))))⟩ : St)) (es.length) ?_ (by simp) ?_ ?_ ?_ (by simp)
    · intro h0
      simp only [f16_b1, show decide ((0 : Int) < (es.length : Int)) = false from decide_eq_false (by omega), go_sem, reduceIte, Nat.reduceEqDiff]
    · intro hn
      have hs : es.take 1 = [es[0]] := List.take_succ_eq_append_getElem (i := 0) hn
      have d1 : decide ((0 : Int) < (es.length : Int)) = true := decide_eq_true (by omega)
      have h1z : (0 : Int) < (es.length : Int) := by omega
      have hd : dartsE [es[0]] = [⟨es[0].id, 0⟩, ⟨es[0].id, 1⟩] := by simp [dartsE]
      have c1 := c_ident_Other ⟨es[0].id, 0⟩ (.inl rfl)
      simp only [Int.reduceSub] at c1
      rw [hs, hd]
      simp only [f16_b1, h1z, rowsBy_get Ed.c hn, Ed.c, c1, show IntKind.i64.wrap 1 = 1 from rfl, rowsBy, Dart.c, go_sem, reduceIte, Nat.reduceEqDiff, Nat.reduceAdd, Nat.reduceMul, Nat.reduceLeDiff, Nat.reduceBEq, List.length_cons, List.length_nil, Int.reduceAdd, Int.reduceToNat, Int.cast_ofNat_Int, Nat.testBit, Nat.reduceShiftRight, Nat.reduceAnd, Nat.reduceBNe]
    · intro i hi0 hi
      have h1z : (i : Int) < (es.length : Int) := by omega
      have hs : es.take (i + 1) = es.take i ++ [es[i]] := List.take_succ_eq_append_getElem hi
      have hl : (dartsE (es.take i)).length ≤ 2 * i := by rw [dartsE_len, List.length_take]; omega
      have c1 := c_ident_Other ⟨es[i].id, 0⟩ (.inl rfl)
      simp only [Int.reduceSub] at c1
      rw [hs, dartsE_snoc]
      generalize dartsE (es.take i) = q at *
      have h5 : (q.length + 2) * 24 ≤ 140737488355328 := by omega
      have h6 := rowsBy_two (l := q) es[i].id
      simp only [f16_b1, h1z, rowsBy_get Ed.c hi, Ed.c, c1, h5, h6, wrap_succ hi hw, List.length_append, go_sem, reduceIte, Nat.reduceEqDiff, Nat.reduceAdd, Nat.reduceMul, Nat.reduceLeDiff, Nat.reduceBEq, List.length_cons, List.length_nil, Nat.testBit, Nat.reduceShiftRight, Nat.reduceAnd, Nat.reduceBNe]
    · intro hn
      rw [List.take_length]
      simp only [f16_b1, dec_ge (Nat.le_refl es.length), go_sem, reduceIte, Nat.reduceEqDiff]
  rw [call_code F (show F 16 = some (.code f16) from rfl)]
  by_cases h0 : es.length = 0
  · rw [if_pos h0] at l1
    have e0 : es = [] := List.eq_nil_of_length_eq_zero h0
    have e1 : dartsE es = [] := by rw [e0]; rfl
    rw [e1]
    simp only [f16, l1, rowsBy, go_sem, reduceIte, reduceCtorEq, Nat.reduceEqDiff, Nat.reduceAdd, List.length_cons, List.length_nil]
  · rw [if_neg h0] at l1
    simp only [f16, l1, go_sem, reduceIte, reduceCtorEq, Nat.reduceEqDiff, Nat.reduceAdd, List.length_cons, List.length_nil]
theorem i_r05_Darts (vs : TV) (es : List Ed) (he : es.length ≤ 100000) : call F 17 [.agg [vs, .sl .shared 4 (rowsBy Ed.c es)]] = some (.sl (.own 29) 3 (rowsBy Dart.c (dartsE es))) := by
  have hw : es.length ≤ 9223372036854775807 := by omega
  have h0 : dartsE (es.take 0) = [] := rfl
  have l1 : E (cs F) 0 f17_l1 (⟨(upd (upd (upd Sx.e0 4 (.v (.int .i64 (0)))) 3 (.s 3 0 (dartsE (es.take 0)).length)) 1 (.p 1 0)), (upd (upd Sx.h0 3 (some (.arr false 29 3 (rowsBy Dart.c (dartsE (es.take 0)))))) 1 (some (.var false [(.v vs), (.v (.sl .shared 4 (rowsBy Ed.c es)))])))⟩ : St) = some (.exit 0, (⟨(upd Sx.e0 3 (.s 3 0 (dartsE es).length)), (upd Sx.h0 3 (some (.arr false 29 3 (rowsBy Dart.c (dartsE es)))))⟩ : St)) := by
    refine loop_to (b := f17_b1) (fun q0 => (⟨(upd (upd (upd Sx.e0 4 (.v (.int .i64 ((q0 : Int))))) 3 (.s 3 0 (dartsE (es.take q0)).length)) 1 (.p 1 0)), (upd (upd Sx.h0 3 (some (.arr false 29 3 (rowsBy Dart.c (dartsE (es.take q0)))))) 1 (some (.var false [(.v vs), (.v (.sl .shared 4 (rowsBy Ed.c es)))])))⟩ : St)) (es.length) ?_ ?_ (by simp)
    · intro i hi
      have h1z : (i : Int) < (es.length : Int) := by omega
      have hs : es.take (i + 1) = es.take i ++ [es[i]] := List.take_succ_eq_append_getElem hi
      have hl : (dartsE (es.take i)).length ≤ 2 * i := by rw [dartsE_len, List.length_take]; omega
      rw [hs, dartsE_snoc]
      generalize dartsE (es.take i) = q at *
      have h5 : (q.length + 2) * 24 ≤ 140737488355328 := by omega
      have h6 := rowsBy_two (l := q) es[i].id
      simp only [f17_b1, h1z, rowsBy_get Ed.c hi, Ed.c, h5, h6, wrap_succ hi hw, List.length_append, go_sem, reduceIte, Nat.reduceEqDiff, Nat.reduceAdd, Nat.reduceLeDiff, Nat.reduceBEq, List.length_cons, List.length_nil, Nat.testBit, Nat.reduceShiftRight, Nat.reduceAnd, Nat.reduceBNe]
    · rw [List.take_length]
      simp only [f17_b1, dec_ge (Nat.le_refl es.length), go_sem, reduceIte, Nat.reduceEqDiff, Nat.reduceAdd, List.length_cons, List.length_nil]
  rw [h0] at l1
  simp only [rowsBy, List.length_nil] at l1
  rw [call_code F (show F 17 = some (.code f17) from rfl)]
  simp only [f17, l1, go_sem, reduceIte, reduceCtorEq, Nat.reduceEqDiff, Nat.reduceAdd, List.length_cons, List.length_nil]
theorem ring_le {l : List Vx} {v : Vx} (hv : v ∈ l) : v.ring.length ≤ (allR l).length := by
  induction l with
  | nil => cases hv
  | cons u l ih =>
    rw [allR_cons, List.length_append]
    rcases List.mem_cons.1 hv with rfl | hv
    · omega
    · have := ih hv; omega
theorem WF.fits {l : List Vx} {es : List Ed} (h : WF l es) : Fits l := by have := h.lv; exact Fits.of (by omega)
theorem WF.ring80 {l : List Vx} {es : List Ed} (h : WF l es) {v : Vx} (hv : v ∈ l) : v.ring.length ≤ 80 := by
  have h1 := ring_le hv
  rw [h.many] at h1
  have := h.le
  omega
theorem WF.fitsR {l : List Vx} {es : List Ed} (h : WF l es) : FitsR l := fun v hv => by
  have := h.ring80 hv
  exact Fits.of (by omega)
theorem WF.side {l : List Vx} {es : List Ed} (h : WF l es) {x : Dart} (hx : x ∈ allR l) : x.d = 0 ∨ x.d = 1 := by
  obtain ⟨e, _, h⟩ := dartsE_mem.1 ((h.mem x).1 hx)
  rcases h with rfl | rfl
  · exact .inl rfl
  · exact .inr rfl
theorem sigD_none {l : List Vx} {x : Dart} (h : atBy l x = none) : sigD l x = Dart0 := by unfold sigD; rw [h]
theorem sigD_some {l : List Vx} {x : Dart} {v : Vx} (h : atBy l x = some v) : sigD l x = nextD v.ring x := by unfold sigD; rw [h]
theorem at_mem {l : List Vx} {x : Dart} {v : Vx} (h : atBy l x = some v) : x ∈ allR l := mem_allR (atBy_some h).1 (atBy_some h).2
/-- a dart, and whether it is one -/
def sgT (l : List Vx) (x : Dart) : TV := .tup [dartT (sigD l x), .bool (decide (x ∈ allR l))]
def phT (l : List Vx) (x : Dart) : TV := .tup [dartT (if x ∈ allR l then phiD l x else Dart0), .bool (decide (x ∈ allR l))]
theorem i_face_Sigma (l : List Vx) (x : Dart) (hl : Fits l) (hr : FitsR l) (es : TV) : call F 11 [.agg [.sl .shared 5 (rowsBy Vx.c l), es], .agg [.int .i64 x.e.s, .int .i64 x.e.n, .int .i64 x.d]] = some (sgT l x) := by
  have hle : (l).length ≤ 5864062014634 := hl.le
  have hw : (l).length ≤ 9223372036854775807 := Nat.le_trans hle (by decide)
  have S : ∀ n, n ≤ (l).length → (∀ i, i < n → ∀ hi : i < (l).length, (fun v : Vx => decide (x ∈ v.ring)) (l)[i] = false) → ∀ r, E (cs F) 0 f11_b1 (⟨(upd (upd (upd (upd (upd Sx.e0 13 (.v (.int .i64 ((n : Int))))) 12 (.v (.int .i64 ((l.length : Int))))) 11 (.v (.sl .shared 5 (rowsBy Vx.c l)))) 4 (.p 4 0)) 3 (.p 3 0)), (upd (upd Sx.h0 4 (some (.var false [(.v (.int .i64 (0))), (.v (.int .i64 (0))), (.v (.int .i64 (0)))]))) 3 (some (.var false [(.v (.int .i64 (x.e.s))), (.v (.int .i64 (x.e.n))), (.v (.int .i64 (x.d)))])))⟩ : St) = some r → r.1 ≠ .norm →
      E (cs F) 0 f11_l1 (⟨(upd (upd (upd (upd (upd Sx.e0 13 (.v (.int .i64 (0)))) 12 (.v (.int .i64 ((l.length : Int))))) 11 (.v (.sl .shared 5 (rowsBy Vx.c l)))) 4 (.p 4 0)) 3 (.p 3 0)), (upd (upd Sx.h0 4 (some (.var false [(.v (.int .i64 (0))), (.v (.int .i64 (0))), (.v (.int .i64 (0)))]))) 3 (some (.var false [(.v (.int .i64 (x.e.s))), (.v (.int .i64 (x.e.n))), (.v (.int .i64 (x.d)))])))⟩ : St) = some r := by
    intro n hn hno r hf hrr
    refine loop_to (b := f11_b1) (fun i => (⟨(upd (upd (upd (upd (upd Sx.e0 13 (.v (.int .i64 ((i : Int))))) 12 (.v (.int .i64 ((l.length : Int))))) 11 (.v (.sl .shared 5 (rowsBy Vx.c l)))) 4 (.p 4 0)) 3 (.p 3 0)), (upd (upd Sx.h0 4 (some (.var false [(.v (.int .i64 (0))), (.v (.int .i64 (0))), (.v (.int .i64 (0)))]))) 3 (some (.var false [(.v (.int .i64 (x.e.s))), (.v (.int .i64 (x.e.n))), (.v (.int .i64 (x.d)))])))⟩ : St)) n ?_ hf hrr
    intro i hi
    have h1 : i < (l).length := Nat.lt_of_lt_of_le hi hn
    have h1z : (i : Int) < ((l).length : Int) := Int.ofNat_lt.2 h1
    have hne := hno i hi h1
    have hv := i_ring_Next l[i].ring x (hr _ (List.getElem_mem h1))
    rw [show decide (x ∈ l[i].ring) = false from hne] at hv
    simp only [dartT] at hv
    simp only [f11_b1, h1z, rowsBy_get Vx.c h1, Vx.c, hv, wrap_succ h1 hw, go_sem, reduceIte, Nat.reduceEqDiff, Nat.reduceAdd, Nat.reduceMul, Nat.reduceLeDiff, List.length_cons, List.length_nil]
  have S := S ((l).findIdx (fun v : Vx => decide (x ∈ v.ring))) List.findIdx_le_length (fun i h1 h2 => findIdx_not h1 h2)
  rcases findIdx_cases (fun v : Vx => decide (x ∈ v.ring)) (l) with h0 | ⟨hlt, hp⟩
  · rw [h0] at S
    have := S _ (by simp only [f11_b1, dec_ge (Nat.le_refl (l).length), go_sem, reduceIte, Nat.reduceEqDiff]
                    rfl) (by simp)
    have hn : atBy l x = none := by rw [atBy, firstBy_none h0]
    rw [sgT, sigD_none hn, dec_f (atBy_none hn)]
    rw [call_code F (show F 11 = some (.code f11) from rfl)]
    simp only [f11, this, dartT, Dart0, ID0, go_sem, reduceIte, reduceCtorEq, Nat.reduceEqDiff, Nat.reduceAdd, Nat.reduceLeDiff, List.length_cons, List.length_nil]
  · have hs : atBy l x = some l[(l).findIdx (fun v : Vx => decide (x ∈ v.ring))] := by rw [atBy, firstBy_some hlt]
    rw [sgT, sigD_some hs, dec_t (at_mem hs)]
    generalize (l).findIdx (fun v : Vx => decide (x ∈ v.ring)) = n at *
    have hltz : (n : Int) < ((l).length : Int) := Int.ofNat_lt.2 hlt
    have hv := i_ring_Next l[n].ring x (hr _ (List.getElem_mem hlt))
    rw [show decide (x ∈ l[n].ring) = true from hp] at hv
    simp only [dartT] at hv ⊢
    have := S _ (by simp only [f11_b1, hltz, rowsBy_get Vx.c hlt, Vx.c, hv, go_sem, reduceIte, Nat.reduceEqDiff, Nat.reduceAdd, Nat.reduceMul, Nat.reduceLeDiff, List.length_cons, List.length_nil]
                    rfl) (by simp)
    rw [call_code F (show F 11 = some (.code f11) from rfl)]
    simp only [f11, this, go_sem, reduceIte, reduceCtorEq, Nat.reduceEqDiff, Nat.reduceAdd, Nat.reduceLeDiff, List.length_cons, List.length_nil]
theorem atBy_isSome {l : List Vx} {x : Dart} (h : x ∈ allR l) : ∃ v, atBy l x = some v := by
  cases hc : atBy l x with
  | none => exact absurd h (atBy_none hc)
  | some v => exact ⟨v, rfl⟩
theorem i_face_Phi {l : List Vx} {es : List Ed} (h : WF l es) (x : Dart) : call F 13 [.agg [.sl .shared 5 (rowsBy Vx.c l), .sl .shared 4 (rowsBy Ed.c es)], .agg [.int .i64 x.e.s, .int .i64 x.e.n, .int .i64 x.d]] = some (phT l x) := by
  have ca := i_At l x h.fits h.fitsR (.sl .shared 4 (rowsBy Ed.c es))
  by_cases hx : x ∈ allR l
  · obtain ⟨v, hv⟩ := atBy_isSome hx
    have co := c_ident_Other x (h.side hx)
    have cg := i_face_Sigma l (othD x) h.fits h.fitsR (.sl .shared 4 (rowsBy Ed.c es))
    have h2 : othD x ∈ allR l := h.pr.oth x hx
    rw [sgT, dec_t h2] at cg
    rw [hv] at ca
    rw [phT, if_pos hx, dec_t hx]
    simp only [atT, idT, dartT, othD] at ca cg ⊢
    rw [call_code F (show F 13 = some (.code f13) from rfl)]
    simp only [f13, ca, co, cg, phiD, othD, go_sem, reduceIte, reduceCtorEq, Nat.reduceEqDiff, Nat.reduceAdd, Nat.reduceMul, Nat.reduceLeDiff, Nat.reduceBEq, List.length_cons, List.length_nil, Nat.testBit, Nat.reduceShiftRight, Nat.reduceAnd, Nat.reduceBNe]
  · have hn : atBy l x = none := by
      cases hc : atBy l x with
      | none => rfl
      | some v => exact absurd (at_mem hc) hx
    rw [hn] at ca
    rw [phT, if_neg hx, dec_f hx]
    simp only [atT, idT, dartT, Dart0, ID0] at ca ⊢
    rw [call_code F (show F 13 = some (.code f13) from rfl)]
    simp only [f13, ca, go_sem, reduceIte, reduceCtorEq, Nat.reduceEqDiff, Nat.reduceAdd, Nat.reduceMul, Nat.reduceLeDiff, List.length_cons, List.length_nil]
theorem i_r05_Sigma {l : List Vx} {es : List Ed} (h : WF l es) (x : Dart) : call F 12 [.agg [.sl .shared 5 (rowsBy Vx.c l), .sl .shared 4 (rowsBy Ed.c es)], .agg [.int .i64 x.e.s, .int .i64 x.e.n, .int .i64 x.d]] = some (sgT l x) := by
  have ca := i_r04_At l x h.fits h.fitsR (.sl .shared 4 (rowsBy Ed.c es))
  by_cases hx : x ∈ allR l
  · obtain ⟨v, hv⟩ := atBy_isSome hx
    have hvl := (atBy_some hv).1
    have cv := i_r04_Vertex l v.id h.fits (.sl .shared 4 (rowsBy Ed.c es))
    have cn := i_r03_Next v.ring x (h.fitsR v hvl)
    rw [vxBy_mem h.sv hvl] at cv
    rw [hv] at ca
    rw [dec_t (atBy_some hv).2] at cn
    rw [sgT, sigD_some hv, dec_t hx]
    simp only [atT, idT, dartT, vxT] at ca cv cn ⊢
    rw [call_code F (show F 12 = some (.code f12) from rfl)]
    simp only [f12, ca, cv, cn, go_sem, reduceIte, reduceCtorEq, Nat.reduceEqDiff, Nat.reduceAdd, Nat.reduceMul, Nat.reduceLeDiff, List.length_cons, List.length_nil]
  · have hn : atBy l x = none := by
      cases hc : atBy l x with
      | none => rfl
      | some v => exact absurd (at_mem hc) hx
    rw [hn] at ca
    rw [sgT, sigD_none hn, dec_f hx]
    simp only [atT, idT, dartT, Dart0, ID0] at ca ⊢
    rw [call_code F (show F 12 = some (.code f12) from rfl)]
    simp only [f12, ca, go_sem, reduceIte, reduceCtorEq, Nat.reduceEqDiff, Nat.reduceAdd, Nat.reduceMul, Nat.reduceLeDiff, List.length_cons, List.length_nil]
theorem i_r05_Phi {l : List Vx} {es : List Ed} (h : WF l es) (x : Dart) : call F 14 [.agg [.sl .shared 5 (rowsBy Vx.c l), .sl .shared 4 (rowsBy Ed.c es)], .agg [.int .i64 x.e.s, .int .i64 x.e.n, .int .i64 x.d]] = some (phT l x) := by
  have ca := i_r04_At l x h.fits h.fitsR (.sl .shared 4 (rowsBy Ed.c es))
  by_cases hx : x ∈ allR l
  · obtain ⟨v, hv⟩ := atBy_isSome hx
    have co := c_r01_Other x (h.side hx)
    have cg := i_r05_Sigma h (othD x)
    have h2 : othD x ∈ allR l := h.pr.oth x hx
    rw [sgT, dec_t h2] at cg
    rw [hv] at ca
    rw [phT, if_pos hx, dec_t hx]
    simp only [atT, idT, dartT, othD] at ca cg ⊢
    rw [call_code F (show F 14 = some (.code f14) from rfl)]
    simp only [f14, ca, co, cg, phiD, othD, go_sem, reduceIte, reduceCtorEq, Nat.reduceEqDiff, Nat.reduceAdd, Nat.reduceMul, Nat.reduceLeDiff, Nat.reduceBEq, List.length_cons, List.length_nil, Nat.testBit, Nat.reduceShiftRight, Nat.reduceAnd, Nat.reduceBNe]
  · have hn : atBy l x = none := by
      cases hc : atBy l x with
      | none => rfl
      | some v => exact absurd (at_mem hc) hx
    rw [hn] at ca
    rw [phT, if_neg hx, dec_f hx]
    simp only [atT, idT, dartT, Dart0, ID0] at ca ⊢
    rw [call_code F (show F 14 = some (.code f14) from rfl)]
    simp only [f14, ca, go_sem, reduceIte, reduceCtorEq, Nat.reduceEqDiff, Nat.reduceAdd, Nat.reduceMul, Nat.reduceLeDiff, List.length_cons, List.length_nil]
end Go.Proofs.Ytpccjkabffpnhaa.Sx
namespace Go.Proofs.Ytpccjkabffpnhaa.Sx
open Go
/-- the first darts of a face -/
def firsts (f : Dart → Dart) (x : Dart) (i : Nat) : List Dart := (List.range i).map fun k => it f k x
theorem firsts_snoc (f : Dart → Dart) (x : Dart) (i : Nat) : firsts f x (i + 1) = firsts f x i ++ [it f i x] := by unfold firsts; rw [List.range_succ, List.map_append]; rfl
theorem firsts_len (f : Dart → Dart) (x : Dart) (i : Nat) : (firsts f x i).length = i := by unfold firsts; simp
theorem firsts_orb (f : Dart → Dart) (n : Nat) (x : Dart) : firsts f x (per f n x + 1) = orb f n x := rfl
def pcD (x : Dart) : TV := .pc [.int .i64 x.e.s, .int .i64 x.e.n, .int .i64 x.d]
def obD (x : Dart) : Option Ob := some (.var false [.v (.int .i64 x.e.s), .v (.int .i64 x.e.n), .v (.int .i64 x.d)])
def pcG (l : List Vx) (es : List Ed) : TV := .pc [.sl .shared 5 (rowsBy Vx.c l), .sl .shared 4 (rowsBy Ed.c es)]
theorem rowsBy_dart {l : List Dart} (x : Dart) : rowsBy Dart.c l ++ [[.int .i64 x.e.s, .int .i64 x.e.n, .int .i64 x.d]] = rowsBy Dart.c (l ++ [x]) := rowsBy_snoc Dart.c l x
def asR (fn : LV) : Rnd := { bd := .seq f49_ra f49_rb, p := 7, env := upd (upd Sx.e0 6 fn) 2 (LV.p 2 0), lo := 0, ks := [(1000004, 1000004), (2, 2)] }
def asE (l : List Vx) (es : List Ed) (x : Dart) : Nat → LV := upd (upd (upd (upd Sx.e0 4 (LV.p 1000004 0)) 2 (.v (pcG l es))) 1 (.v (pcD x))) 0 .u
def asF (l : List Vx) (es : List Ed) (x : Dart) : Nat → LV := upd (upd (upd (upd (upd Sx.e0 22 (.v (.bool false))) 4 (LV.p 1000004 0)) 2 (.v (pcG l es))) 1 (.v (pcD x))) 0 .u
theorem append_loop {l : List Vx} {es : List Ed} (h : WF l es) {x : Dart} (hx : x ∈ allR l) (fn : LV) :
    E ((cs F).ring (asR fn)) 1000000 f48_l1 ⟨asE l es x, upd (upd Sx.h0 2 (some (.var false [.v (.sl (.tight 29) 3 [])]))) 1000004 (obD x)⟩ =
      some (.ret, ⟨upd (upd (upd (upd (upd Sx.e0 22 (.v (.bool true))) 4 (LV.p 1000004 0)) 2 (.v (pcG l es))) 1 (.v (pcD x))) 0 .u, upd (upd (upd Sx.h0 10128 (some (.arr false 29 3 (rowsBy Dart.c (trD l x))))) 2 (some (.var false [.s 10128 0 (trD l x).length]))) 1000004 (obD x)⟩) := by
  have oo := phiD_oo h.pr
  have hlen : (allR l).length ≤ 100 := by rw [h.many]; have := h.le; omega
  obtain ⟨hk, hback⟩ := oo.per_lt hx hlen
  have hne : ∀ i, i < per (phiD l) 100 x → it (phiD l) (i + 1) x ≠ x := fun i hi => per_not hi
  have hmem : ∀ i, it (phiD l) i x ∈ allR l := fun i => it_mem oo.mem hx i
  have htr : trD l x = firsts (phiD l) x (per (phiD l) 100 x + 1) := rfl
  rw [htr]
  have hk100 : per (phiD l) 100 x < 100 := by omega
  generalize per (phiD l) 100 x = n at *
  have key : ∀ i : Nat, call F 13 [.agg [.sl .shared 5 (rowsBy Vx.c l), .sl .shared 4 (rowsBy Ed.c es)], .agg [.int .i64 (it (phiD l) i x).e.s, .int .i64 (it (phiD l) i x).e.n, .int .i64 (it (phiD l) i x).d]] = some (.tup [dartT (it (phiD l) (i + 1) x), .bool true]) := fun i => by
    have := i_face_Phi h (it (phiD l) i x)
    rw [phT, if_pos (hmem i), dec_t (hmem i)] at this
    exact this
  have g := loop_grow (C := (cs F).ring (asR fn)) (lo := 1000000) (b := f48_b1) ⟨asE l es x, upd (upd Sx.h0 2 (some (.var false [.v (.sl (.tight 29) 3 [])]))) 1000004 (obD x)⟩
    (fun i => ⟨asF l es x, upd (upd (upd Sx.h0 10128 (some (.arr false 29 3 (rowsBy Dart.c (firsts (phiD l) x i))))) 2 (some (.var false [.s 10128 0 (firsts (phiD l) x i).length]))) 1000004 (obD (it (phiD l) i x))⟩) n
    (r0 := (.ret, ⟨upd (upd (upd (upd (upd Sx.e0 22 (.v (.bool true))) 4 (LV.p 1000004 0)) 2 (.v (pcG l es))) 1 (.v (pcD x))) 0 .u, upd (upd (upd Sx.h0 10128 (some (.arr false 29 3 (rowsBy Dart.c (firsts (phiD l) x (n + 1)))))) 2 (some (.var false [.s 10128 0 (firsts (phiD l) x (n + 1)).length]))) 1000004 (obD x)⟩))
    (r := (.ret, ⟨upd (upd (upd (upd (upd Sx.e0 22 (.v (.bool true))) 4 (LV.p 1000004 0)) 2 (.v (pcG l es))) 1 (.v (pcD x))) 0 .u, upd (upd (upd Sx.h0 10128 (some (.arr false 29 3 (rowsBy Dart.c (firsts (phiD l) x (n + 1)))))) 2 (some (.var false [.s 10128 0 (firsts (phiD l) x (n + 1)).length]))) 1000004 (obD x)⟩))
    ?_ (by simp) ?_ ?_ ?_ (by simp)
  · rw [show (if n = 0 then _ else _) = _ from ite_self _] at g
    exact g
  · intro h0
    subst h0
    have c := key 0
    have e0 : it (phiD l) 0 x = x := rfl
    have e1 : it (phiD l) (0 + 1) x = x := hback
    have e2 : firsts (phiD l) x (0 + 1) = [x] := rfl
    rw [e0, e1] at c
    rw [e2]
    simp only [asE, asR, pcD, pcG, obD, dartT] at c ⊢
    simp only [f48_b1, f49_ra, f49_rb, Nat.reduceLT, c, go_sem, reduceIte, reduceCtorEq, Nat.reduceEqDiff, Nat.reduceAdd, Nat.reduceMul, Nat.reduceLeDiff, List.length_cons, List.length_nil]
  · intro hn
    have c := key 0
    have e0 : it (phiD l) 0 x = x := rfl
    have e2 : firsts (phiD l) x 1 = [x] := rfl
    have hd := dec_f (hne 0 hn)
    rw [e0] at c
    rw [e2]
    rw [Nat.zero_add] at c hd
    generalize it (phiD l) 1 x = y at *
    simp only [asE, asF, asR, pcD, pcG, obD, dartT] at c ⊢
    simp only [f48_b1, f49_ra, f49_rb, Nat.reduceLT, c, hd, go_sem, reduceIte, reduceCtorEq, Nat.reduceEqDiff, Nat.reduceAdd, Nat.reduceMul, Nat.reduceLeDiff, List.length_cons, List.length_nil]
  · intro i hi0 hi
    have c := key i
    have hd := dec_f (hne i hi)
    have hl : (firsts (phiD l) x i).length = i := firsts_len _ _ _
    rw [firsts_snoc]
    generalize it (phiD l) (i + 1) x = y at *
    generalize it (phiD l) i x = z at *
    generalize firsts (phiD l) x i = q at *
    have h5 : (q.length + 1) * 24 ≤ 140737488355328 := by omega
    have h6 := rowsBy_dart (l := q) z
    simp only [asF, asR, pcD, pcG, obD, dartT] at c ⊢
    simp only [f48_b1, f49_ra, f49_rb, Nat.reduceLT, c, hd, h5, List.length_append, go_sem, reduceIte, reduceCtorEq, Nat.reduceEqDiff, Nat.reduceAdd, Nat.reduceMul, Nat.reduceLeDiff, List.length_cons, List.length_nil]
  · intro hn
    have c := key n
    have hl : (firsts (phiD l) x n).length = n := firsts_len _ _ _
    rw [firsts_snoc]
    rw [hback] at c
    generalize it (phiD l) n x = z at *
    generalize firsts (phiD l) x n = q at *
    have h5 : (q.length + 1) * 24 ≤ 140737488355328 := by omega
    have h6 := rowsBy_dart (l := q) z
    simp only [asF, asR, pcD, pcG, obD, dartT] at c ⊢
    simp only [f48_b1, f49_ra, f49_rb, Nat.reduceLT, c, h5, List.length_append, go_sem, reduceIte, reduceCtorEq, Nat.reduceEqDiff, Nat.reduceAdd, Nat.reduceMul, Nat.reduceLeDiff, List.length_cons, List.length_nil]
theorem trD_ne {l : List Vx} {x : Dart} : trD l x ≠ [] := fun e => by
  have := orb_self (phiD l) 100 x
  unfold trD at e
  rw [e] at this; cases this
theorem i_AppendSeq {l : List Vx} {es : List Ed} (h : WF l es) {x : Dart} (hx : x ∈ allR l) : call F 49 [.sl (.tight 29) 3 [], .fn 48 [pcD x, pcG l es]] = some (.sl (.own 29) 3 (rowsBy Dart.c (trD l x))) := by
  have hb : bodyOf (F 48) = some f48.body := rfl
  have al := append_loop h hx (.v (.fn 48 [pcD x, pcG l es]))
  simp only [asE, asR, pcD, pcG, obD] at al ⊢
  rw [call_code F (show F 49 = some (.code f49) from rfl)]
  simp only [f49, hb, go_sem, reduceIte, reduceCtorEq, Nat.reduceEqDiff, Nat.reduceAdd, List.length_cons, List.length_nil]
  simp only [f48, Nat.reduceLT, al, go_sem, reduceIte, reduceCtorEq, Nat.reduceEqDiff, Nat.reduceAdd, List.length_cons, List.length_nil]
theorem i_Collect {l : List Vx} {es : List Ed} (h : WF l es) {x : Dart} (hx : x ∈ allR l) : call F 39 [.fn 48 [pcD x, pcG l es]] = some (.sl (.own 29) 3 (rowsBy Dart.c (trD l x))) := by
  have ca := i_AppendSeq h hx
  simp only [pcD, pcG] at ca ⊢
  rw [call_code F (show F 39 = some (.code f39) from rfl)]
  simp only [f39, ca, go_sem, reduceIte, reduceCtorEq, Nat.reduceEqDiff, Nat.reduceAdd, Nat.reduceMul]
theorem i_round (l : List Vx) (es : List Ed) (x : Dart) : call F 38 [.agg [.sl .shared 5 (rowsBy Vx.c l), .sl .shared 4 (rowsBy Ed.c es)], .agg [.int .i64 x.e.s, .int .i64 x.e.n, .int .i64 x.d]] = some (.fn 48 [pcD x, pcG l es]) := by
  simp only [pcD, pcG]
  rw [call_code F (show F 38 = some (.code f38) from rfl)]
  simp only [f38, go_sem, reduceIte, reduceCtorEq, Nat.reduceEqDiff, Nat.reduceAdd, List.length_cons, List.length_nil]
/-- the face of a dart, or none -/
def trT (l : List Vx) (x : Dart) : List Dart := if x ∈ allR l then trD l x else []
theorem i_Trace {l : List Vx} {es : List Ed} (h : WF l es) (x : Dart) : call F 22 [.agg [.sl .shared 5 (rowsBy Vx.c l), .sl .shared 4 (rowsBy Ed.c es)], .agg [.int .i64 x.e.s, .int .i64 x.e.n, .int .i64 x.d]] = some (.sl (.own 29) 3 (rowsBy Dart.c (trT l x))) := by
  have ca := i_At l x h.fits h.fitsR (.sl .shared 4 (rowsBy Ed.c es))
  by_cases hx : x ∈ allR l
  · obtain ⟨v, hv⟩ := atBy_isSome hx
    rw [hv] at ca
    have cr := i_round l es x
    have cc := i_Collect h hx
    rw [trT, if_pos hx]
    simp only [atT, idT, pcD, pcG] at ca cr cc ⊢
    rw [call_code F (show F 22 = some (.code f22) from rfl)]
    simp only [f22, ca, cr, cc, go_sem, reduceIte, reduceCtorEq, Nat.reduceEqDiff, Nat.reduceAdd, Nat.reduceMul, Nat.reduceLeDiff, List.length_cons, List.length_nil]
  · have hn : atBy l x = none := by
      cases hc : atBy l x with
      | none => rfl
      | some v => exact absurd (at_mem hc) hx
    rw [hn] at ca
    rw [trT, if_neg hx]
    simp only [atT, idT, rowsBy] at ca ⊢
    rw [call_code F (show F 22 = some (.code f22) from rfl)]
    simp only [f22, ca, go_sem, reduceIte, reduceCtorEq, Nat.reduceEqDiff, Nat.reduceAdd, Nat.reduceMul, Nat.reduceLeDiff, List.length_cons, List.length_nil]
theorem trT_fits {l : List Vx} {es : List Ed} (h : WF l es) (x : Dart) : (trT l x).length ≤ 80 := by
  unfold trT
  split
  · rename_i hx
    have oo := phiD_oo h.pr
    have hlen : (allR l).length ≤ 80 := by rw [h.many]; have := h.le; omega
    have := nodup_sub (oo.orb_nd hx 100) (oo.orb_in hx 100)
    exact Nat.le_trans this hlen
  · exact Nat.zero_le _
theorem i_Share {l : List Vx} {es : List Ed} (h : WF l es) (x y : Dart) : call F 25 [.agg [.sl .shared 5 (rowsBy Vx.c l), .sl .shared 4 (rowsBy Ed.c es)], .agg [.int .i64 x.e.s, .int .i64 x.e.n, .int .i64 x.d], .agg [.int .i64 y.e.s, .int .i64 y.e.n, .int .i64 y.d]] = some (.bool (decide (y ∈ trT l x))) := by
  have ct := i_Trace h x
  have hf : Fits (trT l x) := by have := trT_fits h x; exact Fits.of (by omega)
  have cc := c_Contains_Dart (trT l x) y.e.s y.e.n y.d hf
  generalize trT l x = q at *
  rw [call_code F (show F 25 = some (.code f25) from rfl)]
  simp only [f25, ct, cc, go_sem, reduceIte, reduceCtorEq, Nat.reduceEqDiff, Nat.reduceAdd, Nat.reduceMul, Nat.reduceBEq, List.length_cons, List.length_nil, Nat.testBit, Nat.reduceShiftRight, Nat.reduceAnd, Nat.reduceBNe]
end Go.Proofs.Ytpccjkabffpnhaa.Sx
namespace Go.Proofs.Ytpccjkabffpnhaa.Sx
open Go
def rowF (p : List Dart) : List TV := [.sl .shared 3 (rowsBy Dart.c p)]
/-- a dart more: the face of it, if it was not told -/
def stepF (f : Dart → Dart) (q : List (List Dart) × List Dart) (x : Dart) : List (List Dart) × List Dart := if x ∈ q.2 then q else (q.1 ++ [orb f 100 x], q.2 ++ orb f 100 x)
theorem stepF_fold (f : Dart → Dart) : ∀ (xs : List Dart) (q : List (List Dart) × List Dart), (xs.foldl (stepF f) q).1 = q.1 ++ cycF f 100 xs q.2
  | [], q => by simp [cycF]
  | x :: xs, q => by
    rw [List.foldl_cons, stepF_fold f xs, stepF, cycF]
    split
    · rfl
    · simp
/-- what is told is closed -/
theorem stepF_told {f : Dart → Dart} {D : List Dart} (oo : OneOne f D) (hn : D.length ≤ 100) : ∀ (xs : List Dart) (q : List (List Dart) × List Dart), (∀ x ∈ xs, x ∈ D) → (∀ y ∈ q.2, y ∈ D ∧ f y ∈ q.2) → (∀ y ∈ (xs.foldl (stepF f) q).2, y ∈ D ∧ f y ∈ (xs.foldl (stepF f) q).2)
  | [], q, _, h => h
  | x :: xs, q, hx, h => by
    rw [List.foldl_cons]
    refine stepF_told oo hn xs _ (fun y hy => hx y (by simp [hy])) ?_
    unfold stepF
    split
    · exact h
    · intro y hy
      simp only [List.mem_append] at hy ⊢
      rcases hy with hy | hy
      · exact ⟨(h y hy).1, .inl (h y hy).2⟩
      · exact ⟨oo.orb_in (hx x (by simp)) 100 y hy, .inr ((oo.orb_cy (hx x (by simp)) hn).step hy)⟩
def facesD (l : List Vx) (es : List Ed) : List (List Dart) := cycF (phiD l) 100 (dartsE es) []
def faR (v3 : LV) (k i : Nat) (fn : LV) : Rnd := { bd := .seq f20_ra f20_rb, p := 23, env := upd (upd (upd (upd (upd (upd (upd (upd Sx.e0 22 fn) 13 (.v (.int .i64 ((i : Int))))) 12 (.v (.int .i64 ((k : Int))))) 11 (.s 11 0 k)) 7 (LV.p 7 0)) 4 (LV.p 4 0)) 3 v3) 1 (LV.p 1 0), lo := 0, ks := [(1000004, 1000004), (1, 1), (3, 3), (4, 4), (7, 7), (11, 11), (10256, 10256)] }
theorem faces_loop {l : List Vx} {es : List Ed} (h : WF l es) {x : Dart} (hx : x ∈ allR l) (told : List Dart) (ht : ∀ y ∈ trD l x, y ∉ told) (v3 : LV) (o3 : Option Ob) (ho : (v3 = .v (.sl (.tight 35) 1 []) ∧ o3 = none) ∨ ∃ fs : List (List Dart), v3 = .s 3 0 fs.length ∧ o3 = some (.arr false 35 1 (rowsBy rowF fs))) (D : List Dart) (k0 : Nat) (fn : LV) :
    E ((cs F).ring (faR v3 D.length k0 fn)) 1000000 f48_l1 ⟨asE l es x, upd (upd (upd (upd (upd (upd (upd Sx.h0 10256 (some (.map false true false (mapD told)))) 11 (some (.arr false 29 3 (rowsBy Dart.c D)))) 7 (some (.var false [.v (.sl (.tight 29) 3 [])]))) 4 (some (.var false [.m 10256]))) 3 o3) 1 (some (.var false [.v (.sl .shared 5 (rowsBy Vx.c l)), .v (.sl .shared 4 (rowsBy Ed.c es))]))) 1000004 (obD x)⟩ =
      some (.ret, ⟨upd (upd (upd (upd (upd Sx.e0 22 (.v (.bool true))) 4 (LV.p 1000004 0)) 2 (.v (pcG l es))) 1 (.v (pcD x))) 0 .u, upd (upd (upd (upd (upd (upd (upd (upd Sx.h0 10448 (some (.arr false 29 3 (rowsBy Dart.c (trD l x))))) 10256 (some (.map false true false (mapD (told ++ trD l x))))) 11 (some (.arr false 29 3 (rowsBy Dart.c D)))) 7 (some (.var false [.s 10448 0 (trD l x).length]))) 4 (some (.var false [.m 10256]))) 3 o3) 1 (some (.var false [.v (.sl .shared 5 (rowsBy Vx.c l)), .v (.sl .shared 4 (rowsBy Ed.c es))]))) 1000004 (obD x)⟩) := by
  have oo := phiD_oo h.pr
  have hlen : (allR l).length ≤ 100 := by rw [h.many]; have := h.le; omega
  obtain ⟨hk, hback⟩ := oo.per_lt hx hlen
  have hne : ∀ i, i < per (phiD l) 100 x → it (phiD l) (i + 1) x ≠ x := fun i hi => per_not hi
  have hmem : ∀ i, it (phiD l) i x ∈ allR l := fun i => it_mem oo.mem hx i
  have htr : trD l x = firsts (phiD l) x (per (phiD l) 100 x + 1) := rfl
  have hnd := oo.orb_nd hx 100
  have hno : ∀ i, i ≤ per (phiD l) 100 x → it (phiD l) i x ∉ told ++ firsts (phiD l) x i := fun i hi hm => by
    rcases List.mem_append.1 hm with hm | hm
    · refine ht _ ?_ hm
      rw [htr]; unfold firsts; rw [List.mem_map]
      exact ⟨i, by rw [List.mem_range]; omega, rfl⟩
    · unfold firsts at hm
      obtain ⟨j, hj, e⟩ := List.mem_map.1 hm
      rw [List.mem_range] at hj
      have h1 : j < (orb (phiD l) 100 x).length := by rw [orb_len]; omega
      have h2 : i < (orb (phiD l) 100 x).length := by rw [orb_len]; omega
      have := (List.getElem_inj hnd (h₀ := h1) (h₁ := h2)).1 (by rw [orb_get, orb_get]; exact e)
      omega
  rw [htr]
  have hk100 : per (phiD l) 100 x < 100 := by omega
  clear hnd ht htr
  generalize per (phiD l) 100 x = n at *
  have key : ∀ i : Nat, call F 13 [.agg [.sl .shared 5 (rowsBy Vx.c l), .sl .shared 4 (rowsBy Ed.c es)], .agg [.int .i64 (it (phiD l) i x).e.s, .int .i64 (it (phiD l) i x).e.n, .int .i64 (it (phiD l) i x).d]] = some (.tup [dartT (it (phiD l) (i + 1) x), .bool true]) := fun i => by
    have := i_face_Phi h (it (phiD l) i x)
    rw [phT, if_pos (hmem i), dec_t (hmem i)] at this
    exact this
  have g := loop_grow (C := (cs F).ring (faR v3 D.length k0 fn)) (lo := 1000000) (b := f48_b1) ⟨asE l es x, upd (upd (upd (upd (upd (upd (upd Sx.h0 10256 (some (.map false true false (mapD told)))) 11 (some (.arr false 29 3 (rowsBy Dart.c D)))) 7 (some (.var false [.v (.sl (.tight 29) 3 [])]))) 4 (some (.var false [.m 10256]))) 3 o3) 1 (some (.var false [.v (.sl .shared 5 (rowsBy Vx.c l)), .v (.sl .shared 4 (rowsBy Ed.c es))]))) 1000004 (obD x)⟩
    (fun i => ⟨asF l es x, upd (upd (upd (upd (upd (upd (upd (upd Sx.h0 10448 (some (.arr false 29 3 (rowsBy Dart.c (firsts (phiD l) x i))))) 10256 (some (.map false true false (mapD (told ++ firsts (phiD l) x i))))) 11 (some (.arr false 29 3 (rowsBy Dart.c D)))) 7 (some (.var false [.s 10448 0 (firsts (phiD l) x i).length]))) 4 (some (.var false [.m 10256]))) 3 o3) 1 (some (.var false [.v (.sl .shared 5 (rowsBy Vx.c l)), .v (.sl .shared 4 (rowsBy Ed.c es))]))) 1000004 (obD (it (phiD l) i x))⟩) n
    (r0 := (.ret, ⟨upd (upd (upd (upd (upd Sx.e0 22 (.v (.bool true))) 4 (LV.p 1000004 0)) 2 (.v (pcG l es))) 1 (.v (pcD x))) 0 .u, upd (upd (upd (upd (upd (upd (upd (upd Sx.h0 10448 (some (.arr false 29 3 (rowsBy Dart.c (firsts (phiD l) x (n + 1)))))) 10256 (some (.map false true false (mapD (told ++ firsts (phiD l) x (n + 1)))))) 11 (some (.arr false 29 3 (rowsBy Dart.c D)))) 7 (some (.var false [.s 10448 0 (firsts (phiD l) x (n + 1)).length]))) 4 (some (.var false [.m 10256]))) 3 o3) 1 (some (.var false [.v (.sl .shared 5 (rowsBy Vx.c l)), .v (.sl .shared 4 (rowsBy Ed.c es))]))) 1000004 (obD x)⟩))
    (r := (.ret, ⟨upd (upd (upd (upd (upd Sx.e0 22 (.v (.bool true))) 4 (LV.p 1000004 0)) 2 (.v (pcG l es))) 1 (.v (pcD x))) 0 .u, upd (upd (upd (upd (upd (upd (upd (upd Sx.h0 10448 (some (.arr false 29 3 (rowsBy Dart.c (firsts (phiD l) x (n + 1)))))) 10256 (some (.map false true false (mapD (told ++ firsts (phiD l) x (n + 1)))))) 11 (some (.arr false 29 3 (rowsBy Dart.c D)))) 7 (some (.var false [.s 10448 0 (firsts (phiD l) x (n + 1)).length]))) 4 (some (.var false [.m 10256]))) 3 o3) 1 (some (.var false [.v (.sl .shared 5 (rowsBy Vx.c l)), .v (.sl .shared 4 (rowsBy Ed.c es))]))) 1000004 (obD x)⟩))
    ?_ (by simp) ?_ ?_ ?_ (by simp)
  · rw [show (if n = 0 then _ else _) = _ from ite_self _] at g
    exact g
  · intro h0
    subst h0
    have c := key 0
    have e0 : it (phiD l) 0 x = x := rfl
    have e1 : it (phiD l) (0 + 1) x = x := hback
    have e2 : firsts (phiD l) x (0 + 1) = [x] := rfl
    have hm := hno 0 (Nat.le_refl _)
    rw [e0, e1] at c
    rw [e2]
    have e3 : firsts (phiD l) x 0 = [] := rfl
    rw [e0, e3, List.append_nil] at hm
    have u1 := upd_mapD x told
    rw [if_neg hm] at u1
    simp only [asE, faR, pcD, pcG, obD, dartT, keyL, Dart.c] at c u1 ⊢
    rcases ho with ⟨rfl, rfl⟩ | ⟨fs, rfl, rfl⟩
    · simp only [f48_b1, f20_ra, f20_rb, Nat.reduceLT, c, u1, go_sem, reduceIte, reduceCtorEq, Nat.reduceEqDiff, Nat.reduceAdd, Nat.reduceMul, Nat.reduceLeDiff, List.length_cons, List.length_nil, not_false_eq_true]
    · simp only [f48_b1, f20_ra, f20_rb, Nat.reduceLT, c, u1, go_sem, reduceIte, reduceCtorEq, Nat.reduceEqDiff, Nat.reduceAdd, Nat.reduceMul, Nat.reduceLeDiff, List.length_cons, List.length_nil, not_false_eq_true]
  · intro hn
    have c := key 0
    have e0 : it (phiD l) 0 x = x := rfl
    have e2 : firsts (phiD l) x 1 = [x] := rfl
    have hd := dec_f (hne 0 hn)
    have hm := hno 0 (Nat.zero_le _)
    rw [e0] at c
    rw [e2]
    rw [Nat.zero_add] at c hd
    have e3 : firsts (phiD l) x 0 = [] := rfl
    rw [e0, e3, List.append_nil] at hm
    have u1 := upd_mapD x told
    rw [if_neg hm] at u1
    generalize it (phiD l) 1 x = y at *
    simp only [asE, asF, faR, pcD, pcG, obD, dartT, keyL, Dart.c] at c u1 ⊢
    rcases ho with ⟨rfl, rfl⟩ | ⟨fs, rfl, rfl⟩
    · simp only [f48_b1, f20_ra, f20_rb, Nat.reduceLT, c, hd, u1, go_sem, reduceIte, reduceCtorEq, Nat.reduceEqDiff, Nat.reduceAdd, Nat.reduceMul, Nat.reduceLeDiff, List.length_cons, List.length_nil, not_false_eq_true]
    · simp only [f48_b1, f20_ra, f20_rb, Nat.reduceLT, c, hd, u1, go_sem, reduceIte, reduceCtorEq, Nat.reduceEqDiff, Nat.reduceAdd, Nat.reduceMul, Nat.reduceLeDiff, List.length_cons, List.length_nil, not_false_eq_true]
  · intro i hi0 hi
    have c := key i
    have hd := dec_f (hne i hi)
    have hl : (firsts (phiD l) x i).length = i := firsts_len _ _ _
    have hm := hno i (Nat.le_of_lt hi)
    rw [firsts_snoc, ← List.append_assoc]
    have u1 := upd_mapD (it (phiD l) i x) (told ++ firsts (phiD l) x i)
    rw [if_neg hm] at u1
    generalize it (phiD l) (i + 1) x = y at *
    generalize it (phiD l) i x = z at *
    generalize firsts (phiD l) x i = q at *
    have h5 : (q.length + 1) * 24 ≤ 140737488355328 := by omega
    have h6 := rowsBy_dart (l := q) z
    generalize told ++ q = tq at *
    simp only [asF, faR, pcD, pcG, obD, dartT, keyL, Dart.c] at c u1 ⊢
    rcases ho with ⟨rfl, rfl⟩ | ⟨fs, rfl, rfl⟩
    · simp only [f48_b1, f20_ra, f20_rb, Nat.reduceLT, c, hd, u1, h5, List.length_append, go_sem, reduceIte, reduceCtorEq, Nat.reduceEqDiff, Nat.reduceAdd, Nat.reduceMul, Nat.reduceLeDiff, List.length_cons, List.length_nil, not_false_eq_true]
    · simp only [f48_b1, f20_ra, f20_rb, Nat.reduceLT, c, hd, u1, h5, List.length_append, go_sem, reduceIte, reduceCtorEq, Nat.reduceEqDiff, Nat.reduceAdd, Nat.reduceMul, Nat.reduceLeDiff, List.length_cons, List.length_nil, not_false_eq_true]
  · intro hn
    have c := key n
    have hl : (firsts (phiD l) x n).length = n := firsts_len _ _ _
    have hm := hno n (Nat.le_refl _)
    rw [firsts_snoc, ← List.append_assoc]
    have u1 := upd_mapD (it (phiD l) n x) (told ++ firsts (phiD l) x n)
    rw [if_neg hm] at u1
    rw [hback] at c
    generalize it (phiD l) n x = z at *
    generalize firsts (phiD l) x n = q at *
    have h5 : (q.length + 1) * 24 ≤ 140737488355328 := by omega
    have h6 := rowsBy_dart (l := q) z
    generalize told ++ q = tq at *
    simp only [asF, faR, pcD, pcG, obD, dartT, keyL, Dart.c] at c u1 ⊢
    rcases ho with ⟨rfl, rfl⟩ | ⟨fs, rfl, rfl⟩
    · simp only [f48_b1, f20_ra, f20_rb, Nat.reduceLT, c, u1, h5, List.length_append, go_sem, reduceIte, reduceCtorEq, Nat.reduceEqDiff, Nat.reduceAdd, Nat.reduceMul, Nat.reduceLeDiff, List.length_cons, List.length_nil, not_false_eq_true]
    · simp only [f48_b1, f20_ra, f20_rb, Nat.reduceLT, c, u1, h5, List.length_append, go_sem, reduceIte, reduceCtorEq, Nat.reduceEqDiff, Nat.reduceAdd, Nat.reduceMul, Nat.reduceLeDiff, List.length_cons, List.length_nil, not_false_eq_true]
def facesTo (l : List Vx) (es : List Ed) (i : Nat) : List (List Dart) × List Dart := ((dartsE es).take i).foldl (stepF (phiD l)) ([], [])
theorem facesTo_succ (l : List Vx) (es : List Ed) {i : Nat} (h : i < (dartsE es).length) : facesTo l es (i + 1) = stepF (phiD l) (facesTo l es i) (dartsE es)[i] := by
  unfold facesTo; rw [List.take_succ_eq_append_getElem h, List.foldl_append]; rfl
theorem facesTo_all (l : List Vx) (es : List Ed) : (facesTo l es (dartsE es).length).1 = facesD l es := by
  unfold facesTo facesD; rw [List.take_length, stepF_fold]; rfl
theorem facesTo_told {l : List Vx} {es : List Ed} (h : WF l es) (i : Nat) : ∀ y ∈ (facesTo l es i).2, y ∈ allR l ∧ phiD l y ∈ (facesTo l es i).2 := by
  have hlen : (allR l).length ≤ 100 := by rw [h.many]; have := h.le; omega
  exact stepF_told (phiD_oo h.pr) hlen _ _ (fun x hx => (h.mem x).2 (List.mem_of_mem_take hx)) (fun y hy => by cases hy)
theorem facesTo_len (l : List Vx) (es : List Ed) : ∀ i, (facesTo l es i).1.length ≤ i ∧ (0 < i → i ≤ (dartsE es).length → 0 < (facesTo l es i).1.length)
  | 0 => ⟨Nat.le_refl _, fun h => absurd h (Nat.lt_irrefl _)⟩
  | i + 1 => by
    have ih := facesTo_len l es i
    by_cases hi : i < (dartsE es).length
    · rw [facesTo_succ l es hi]
      unfold stepF
      split
      · rename_i hm
        refine ⟨by omega, fun _ _ => ?_⟩
        cases i with
        | zero => cases hm
        | succ i => exact ih.2 (by omega) (by omega)
      · simp only [List.length_append, List.length_cons, List.length_nil]
        exact ⟨by omega, fun _ _ => by omega⟩
    · have e : facesTo l es (i + 1) = facesTo l es i := by
        unfold facesTo
        rw [List.take_of_length_le (by omega), List.take_of_length_le (by omega)]
      rw [e]
      exact ⟨by omega, fun _ h => by omega⟩
theorem fresh_face {l : List Vx} {es : List Ed} (h : WF l es) {x : Dart} (hx : x ∈ allR l) {told : List Dart} (ht : ∀ y ∈ told, y ∈ allR l ∧ phiD l y ∈ told) (hxt : x ∉ told) : ∀ y ∈ trD l x, y ∉ told := fun y hy hyt => by
  have hlen : (allR l).length ≤ 100 := by rw [h.many]; have := h.le; omega
  have hcy := (phiD_oo h.pr).orb_cy hx hlen
  exact hxt (hcy.within (S := fun z => z ∈ told) (fun z hz => (ht z hz).2) hy hyt x (orb_self _ _ _))
theorem faces_l1 {l : List Vx} {es : List Ed} (h : WF l es) : E (cs F) 0 f20_l1 (⟨(upd (upd (upd (upd (upd (upd Sx.e0 13 (.v (.int .i64 (0)))) 12 (.v (.int .i64 (((dartsE es).length : Int))))) 11 (.s 11 0 (dartsE es).length)) 4 (.p 4 0)) 3 (.v (.sl (.tight 35) 1 []))) 1 (.p 1 0)), (upd (upd (upd (upd Sx.h0 10256 (some (.map false true false []))) 11 (some (.arr false 29 3 (rowsBy Dart.c (dartsE es))))) 4 (some (.var false [.m 10256]))) 1 (some (.var false [(.v (.sl .shared 5 (rowsBy Vx.c l))), (.v (.sl .shared 4 (rowsBy Ed.c es)))])))⟩ : St) =
    some (if (dartsE es).length = 0 then (.exit 0, (⟨(upd Sx.e0 3 (.v (.sl (.tight 35) 1 []))), Sx.h0⟩ : St)) else (.exit 0, (⟨(upd Sx.e0 3 (.s 3 0 (facesD l es).length)), (upd Sx.h0 3 (some (.arr false 35 1 (rowsBy rowF (facesD l es)))))⟩ : St))) := by
  have hb : bodyOf (F 48) = some f48.body := rfl
  have hle : (dartsE es).length ≤ 80 := by rw [dartsE_len]; have := h.le; omega
  have hw : (dartsE es).length ≤ 9223372036854775807 := by omega
  have hall : ∀ i (hi : i < (dartsE es).length), (dartsE es)[i] ∈ allR l := fun i hi => (h.mem _).2 (List.getElem_mem hi)
  rw [← facesTo_all l es]
  have l1 : E (cs F) 0 f20_l1 (⟨(upd (upd (upd (upd (upd (upd Sx.e0 13 (.v (.int .i64 (0)))) 12 (.v (.int .i64 (((dartsE es).length : Int))))) 11 (.s 11 0 (dartsE es).length)) 4 (.p 4 0)) 3 (.v (.sl (.tight 35) 1 []))) 1 (.p 1 0)), (upd (upd (upd (upd Sx.h0 10256 (some (.map false true false []))) 11 (some (.arr false 29 3 (rowsBy Dart.c (dartsE es))))) 4 (some (.var false [.m 10256]))) 1 (some (.var false [(.v (.sl .shared 5 (rowsBy Vx.c l))), (.v (.sl .shared 4 (rowsBy Ed.c es)))])))⟩ : St) = some (if (dartsE es).length = 0 then (.exit 0, (⟨(upd Sx.e0 3 (.v (.sl (.tight 35) 1 []))), Sx.h0⟩ : St)) else (.exit 0, (⟨(upd Sx.e0 3 (.s 3 0 (facesTo l es (dartsE es).length).1.length)), (upd Sx.h0 3 (some (.arr false 35 1 (rowsBy rowF (facesTo l es (dartsE es).length).1))))⟩ : St))) := by
    refine loop_grow (b := f20_b1) _ (fun q0 => (⟨(upd (upd (upd (upd (upd (upd Sx.e0 13 (.v (.int .i64 ((q0 : Int))))) 12 (.v (.int .i64 (((dartsE es).length : Int))))) 11 (.s 11 0 (dartsE es).length)) 4 (.p 4 0)) 3 (.s 3 0 (facesTo l es q0).1.length)) 1 (.p 1 0)), (upd (upd (upd (upd (upd Sx.h0 10256 (some (.map false true false (mapD (facesTo l es q0).2)))) 11 (some (.arr false 29 3 (rowsBy Dart.c (dartsE es))))) 4 (some (.var false [.m 10256]))) 3 (some (.arr false 35 1 (rowsBy rowF (facesTo l es q0).1)))) 1 (some (.var false [(.v (.sl .shared 5 (rowsBy Vx.c l))), (.v (.sl .shared 4 (rowsBy Ed.c es)))])))⟩ : St)) ((dartsE es).length) ?_ (by simp) ?_ ?_ ?_ (by simp)
    · intro h0
      simp only [f20_b1, show decide ((0 : Int) < ((dartsE es).length : Int)) = false from decide_eq_false (by omega), go_sem, reduceIte, Nat.reduceEqDiff]
    · intro hn
      have e1 : facesTo l es 1 = ([trD l (dartsE es)[0]], trD l (dartsE es)[0]) := by
        have := facesTo_succ l es (i := 0) hn
        rw [Nat.zero_add] at this
        rw [this]; unfold stepF
        have e0 : facesTo l es 0 = ([], []) := rfl
        rw [e0, if_neg (by simp)]; rfl
      have d1 : decide ((0 : Int) < ((dartsE es).length : Int)) = true := decide_eq_true (by omega)
      have h1z : (0 : Int) < ((dartsE es).length : Int) := by omega
      have hx := hall 0 hn
      have hg := rowsBy_get Dart.c hn
      rw [e1]
      have cr := i_round l es (dartsE es)[0]
      have al := faces_loop h hx [] (fun y _ => by simp) (.v (.sl (.tight 35) 1 [])) none (.inl ⟨rfl, rfl⟩) (dartsE es) 0 (.v (.fn 48 [pcD (dartsE es)[0], pcG l es]))
      rw [List.nil_append] at al
      have e3 : rowsBy rowF [trD l (dartsE es)[0]] = [[.sl .shared 3 (rowsBy Dart.c (trD l (dartsE es)[0]))]] := rfl
      rw [e3]
      generalize dartsE es = D at *
      generalize D[0] = x at *
      generalize trD l x = t at *
      have f1 := find_mapD x []
      simp only [asE, faR, pcD, pcG, obD, mapD, List.map_nil, keyL] at al cr f1 ⊢
      simp only [go_sem, reduceIte, Nat.reduceEqDiff, Int.cast_ofNat_Int] at al
      simp only [f20_b1, f48, hb, h1z, hg, Dart.c, cr, al, f1, Nat.reduceLT, List.not_mem_nil, if_false, show IntKind.i64.wrap 1 = 1 from rfl, go_sem, reduceIte, reduceCtorEq, Nat.reduceEqDiff, Nat.reduceAdd, Nat.reduceMul, Nat.reduceLeDiff, List.length_cons, List.length_nil, Int.reduceAdd, Int.reduceToNat, Int.cast_ofNat_Int]
    · intro i hi0 hi
      have h1z : (i : Int) < ((dartsE es).length : Int) := by omega
      have hx := hall i hi
      have hg := rowsBy_get Dart.c hi
      have ht := facesTo_told h i
      have hfl := facesTo_len l es i
      have hs := facesTo_succ l es hi
      by_cases hm : (dartsE es)[i] ∈ (facesTo l es i).2
      · have e1 : facesTo l es (i + 1) = facesTo l es i := by rw [hs]; unfold stepF; rw [if_pos hm]
        rw [e1]
        generalize dartsE es = D at *
        generalize facesTo l es i = q at *
        have f1 := find_mapD D[i] q.2
        rw [if_pos hm] at f1
        simp only [keyL] at f1
        simp only [f20_b1, h1z, hg, Dart.c, f1, wrap_succ hi hw, go_sem, reduceIte, Nat.reduceEqDiff, Nat.reduceAdd, List.length_cons, List.length_nil]
      · have e1 : facesTo l es (i + 1) = ((facesTo l es i).1 ++ [trD l (dartsE es)[i]], (facesTo l es i).2 ++ trD l (dartsE es)[i]) := by rw [hs]; unfold stepF; rw [if_neg hm]; rfl
        rw [e1]
        have cr := i_round l es (dartsE es)[i]
        have al := faces_loop h hx (facesTo l es i).2 (fresh_face h hx ht hm) (.s 3 0 (facesTo l es i).1.length) (some (.arr false 35 1 (rowsBy rowF (facesTo l es i).1))) (.inr ⟨_, rfl, rfl⟩) (dartsE es) i (.v (.fn 48 [pcD (dartsE es)[i], pcG l es]))
        have hfl2 : (facesTo l es i).1.length ≤ 80 := by omega
        generalize dartsE es = D at *
        generalize facesTo l es i = q at *
        obtain ⟨fs, told⟩ := q
        simp only at hfl2 hm al ⊢
        generalize trD l D[i] = t at *
        have f1 := find_mapD D[i] told
        rw [if_neg hm] at f1
        have e3 : rowsBy rowF fs ++ [[.sl .shared 3 (rowsBy Dart.c t)]] = rowsBy rowF (fs ++ [t]) := rowsBy_snoc rowF fs t
        have h5 : (fs.length + 1) * 24 ≤ 140737488355328 := by omega
        generalize D[i] = x at *
        simp only [asE, faR, pcD, pcG, obD, keyL] at al cr f1 ⊢
        simp only [f20_b1, f48, hb, h1z, hg, Dart.c, cr, al, f1, Nat.reduceLT, h5, e3, wrap_succ hi hw, List.length_append, go_sem, reduceIte, reduceCtorEq, Nat.reduceEqDiff, Nat.reduceAdd, Nat.reduceMul, List.length_cons, List.length_nil]
    · intro hn
      simp only [f20_b1, dec_ge (Nat.le_refl (dartsE es).length), go_sem, reduceIte, Nat.reduceEqDiff]
  exact l1
theorem facesD_nil {l : List Vx} {es : List Ed} (h : (dartsE es).length = 0) : facesD l es = [] := by
  unfold facesD; rw [List.eq_nil_of_length_eq_zero h]; rfl
theorem i_Faces {l : List Vx} {es : List Ed} (h : WF l es) : call F 20 [.agg [.sl .shared 5 (rowsBy Vx.c l), .sl .shared 4 (rowsBy Ed.c es)]] = some (.sl (.own 35) 1 (rowsBy rowF (facesD l es))) := by
  have cd := i_face_Darts (.sl .shared 5 (rowsBy Vx.c l)) es (by have := h.le; omega)
  have fl := faces_l1 h
  have h0 := facesD_nil (l := l) (es := es)
  generalize dartsE es = D at *
  generalize facesD l es = fs at *
  rw [call_code F (show F 20 = some (.code f20) from rfl)]
  by_cases hz : D.length = 0
  · rw [if_pos hz] at fl
    have hD := List.eq_nil_of_length_eq_zero hz
    subst hD
    rw [h0 rfl]
    simp only [rowsBy, List.length_nil, nat0] at cd fl
    simp only [f20, cd, fl, rowsBy, go_sem, reduceIte, reduceCtorEq, Nat.reduceEqDiff, Nat.reduceAdd, Nat.reduceMul, List.length_cons, List.length_nil, Int.cast_ofNat_Int]
  · rw [if_neg hz] at fl
    simp only [f20, cd, fl, go_sem, reduceIte, reduceCtorEq, Nat.reduceEqDiff, Nat.reduceAdd, Nat.reduceMul, List.length_cons, List.length_nil]
theorem firsts_more {f : Dart → Dart} {x : Dart} (i : Nat) : firsts f x 1 = [x] ∧ (firsts f x (i + 1)).length = i + 1 := ⟨rfl, firsts_len _ _ _⟩
theorem i_r05_Trace {l : List Vx} {es : List Ed} (h : WF l es) (x : Dart) : call F 21 [.agg [.sl .shared 5 (rowsBy Vx.c l), .sl .shared 4 (rowsBy Ed.c es)], .agg [.int .i64 x.e.s, .int .i64 x.e.n, .int .i64 x.d]] = some (.sl (.own 29) 3 (rowsBy Dart.c (trT l x))) := by
  have cp := i_r05_Phi h x
  by_cases hx : x ∈ allR l
  · rw [phT, if_pos hx, dec_t hx] at cp
    have oo := phiD_oo h.pr
    have hlen : (allR l).length ≤ 80 := by rw [h.many]; have := h.le; omega
    obtain ⟨hk, hback⟩ := oo.per_lt hx (n := 100) (by omega)
    have hne : ∀ i, i < per (phiD l) 100 x → it (phiD l) (i + 1) x ≠ x := fun i hi => per_not hi
    have hmem : ∀ i, it (phiD l) i x ∈ allR l := fun i => it_mem oo.mem hx i
    have htr : trT l x = firsts (phiD l) x (per (phiD l) 100 x + 1) := by unfold trT; rw [if_pos hx]; rfl
    rw [htr]
    generalize per (phiD l) 100 x = n at *
    have key : ∀ i : Nat, call F 14 [.agg [.sl .shared 5 (rowsBy Vx.c l), .sl .shared 4 (rowsBy Ed.c es)], .agg [.int .i64 (it (phiD l) i x).e.s, .int .i64 (it (phiD l) i x).e.n, .int .i64 (it (phiD l) i x).d]] = some (.tup [dartT (it (phiD l) (i + 1) x), .bool true]) := fun i => by
      have := i_r05_Phi h (it (phiD l) i x)
      rw [phT, if_pos (hmem i), dec_t (hmem i)] at this
      exact this
    have e0 : phiD l x = it (phiD l) (0 + 1) x := rfl
    rw [e0] at cp
    have l1 : E (cs F) 0 f21_l1 (⟨(upd (upd (upd (upd Sx.e0 6 (.p 6 0)) 5 (.s 5 0 (firsts (phiD l) x (0 + 1)).length)) 3 (.p 3 0)) 2 (.p 2 0)), (upd (upd (upd (upd Sx.h0 6 (some (.var false [(.v (.int .i64 ((it (phiD l) (0 + 1) x).e.s))), (.v (.int .i64 ((it (phiD l) (0 + 1) x).e.n))), (.v (.int .i64 ((it (phiD l) (0 + 1) x).d)))]))) 5 (some (.arr false 29 3 (rowsBy Dart.c (firsts (phiD l) x (0 + 1)))))) 3 (some (.var false [(.v (.int .i64 (x.e.s))), (.v (.int .i64 (x.e.n))), (.v (.int .i64 (x.d)))]))) 2 (some (.var false [(.v (.sl .shared 5 (rowsBy Vx.c l))), (.v (.sl .shared 4 (rowsBy Ed.c es)))])))⟩ : St) = some (.exit 0, (⟨(upd Sx.e0 5 (.s 5 0 (firsts (phiD l) x (n + 1)).length)), (upd Sx.h0 5 (some (.arr false 29 3 (rowsBy Dart.c (firsts (phiD l) x (n + 1))))))⟩ : St)) := by
      refine loop_to (b := f21_b1) (fun q0 => (⟨(upd (upd (upd (upd Sx.e0 6 (.p 6 0)) 5 (.s 5 0 (firsts (phiD l) x (q0 + 1)).length)) 3 (.p 3 0)) 2 (.p 2 0)), (upd (upd (upd (upd Sx.h0 6 (some (.var false [(.v (.int .i64 ((it (phiD l) (q0 + 1) x).e.s))), (.v (.int .i64 ((it (phiD l) (q0 + 1) x).e.n))), (.v (.int .i64 ((it (phiD l) (q0 + 1) x).d)))]))) 5 (some (.arr false 29 3 (rowsBy Dart.c (firsts (phiD l) x (q0 + 1)))))) 3 (some (.var false [(.v (.int .i64 (x.e.s))), (.v (.int .i64 (x.e.n))), (.v (.int .i64 (x.d)))]))) 2 (some (.var false [(.v (.sl .shared 5 (rowsBy Vx.c l))), (.v (.sl .shared 4 (rowsBy Ed.c es)))])))⟩ : St)) (n) ?_ ?_ (by simp)
      · intro i hi
        have c := key (i + 1)
        have hd := hne i hi
        have hl : (firsts (phiD l) x (i + 1)).length = i + 1 := firsts_len _ _ _
        rw [firsts_snoc (phiD l) x (i + 1)]
        generalize it (phiD l) (i + 1 + 1) x = y at *
        generalize it (phiD l) (i + 1) x = z at *
        generalize firsts (phiD l) x (i + 1) = q at *
        have h5 : (q.length + 1) * 24 ≤ 140737488355328 := by omega
        have h6 := rowsBy_dart (l := q) z
        have h7 : decide ((q.length : Int) < 82) = true := decide_eq_true (by omega)
        simp only [dartT] at c ⊢
        simp only [f21_b1, c, dec_f hd, h5, h7, List.length_append, go_sem, reduceIte, Nat.reduceEqDiff, Nat.reduceAdd, Nat.reduceMul, Nat.reduceLeDiff, List.length_cons, List.length_nil]
      · rw [hback]
        simp only [f21_b1, go_sem, reduceIte, Nat.reduceEqDiff, Nat.reduceAdd, List.length_cons, List.length_nil]
    have e1 := (firsts_more (f := phiD l) (x := x) 0).1
    rw [Nat.zero_add] at l1 cp
    rw [e1] at l1
    generalize firsts (phiD l) x (n + 1) = t at *
    generalize it (phiD l) 1 x = y at *
    simp only [dartT, List.length_cons, List.length_nil, Nat.zero_add] at cp l1
    rw [call_code F (show F 21 = some (.code f21) from rfl)]
    simp only [f21, cp, l1, go_sem, reduceIte, reduceCtorEq, Nat.reduceEqDiff, Nat.reduceAdd, Nat.reduceMul, Nat.reduceLeDiff, List.length_cons, List.length_nil]
  · rw [phT, if_neg hx, dec_f hx] at cp
    rw [trT, if_neg hx]
    simp only [dartT, Dart0, ID0, rowsBy] at cp ⊢
    rw [call_code F (show F 21 = some (.code f21) from rfl)]
    simp only [f21, cp, go_sem, reduceIte, reduceCtorEq, Nat.reduceEqDiff, Nat.reduceAdd, Nat.reduceMul, Nat.reduceLeDiff, List.length_cons, List.length_nil]
theorem stepF_nd {f : Dart → Dart} {D : List Dart} (oo : OneOne f D) (hn : D.length ≤ 100) : ∀ (xs : List Dart) (q : List (List Dart) × List Dart), (∀ x ∈ xs, x ∈ D) → (∀ y ∈ q.2, y ∈ D ∧ f y ∈ q.2) → q.2.Nodup → (xs.foldl (stepF f) q).2.Nodup
  | [], q, _, _, h => h
  | x :: xs, q, hx, h, hd => by
    rw [List.foldl_cons]
    have h1 := stepF_told oo hn [x] q (fun y hy => hx y (by simp at hy; simp [hy])) h
    refine stepF_nd oo hn xs _ (fun y hy => hx y (by simp [hy])) h1 ?_
    unfold stepF
    split
    · exact hd
    · rename_i hm
      have hxD := hx x (by simp)
      have hcy := oo.orb_cy hxD hn
      show (q.2 ++ orb f 100 x).Nodup
      rw [List.nodup_append]
      refine ⟨hd, oo.orb_nd hxD 100, fun y hy z hz e => ?_⟩
      subst e
      exact hm (hcy.within (S := fun z => z ∈ q.2) (fun z hz => (h z hz).2) hz hy x (orb_self _ _ _))
theorem facesTo_tlen {l : List Vx} {es : List Ed} (h : WF l es) (i : Nat) : (facesTo l es i).2.length ≤ 80 := by
  have hlen : (allR l).length ≤ 80 := by rw [h.many]; have := h.le; omega
  have hnd : (facesTo l es i).2.Nodup := stepF_nd (phiD_oo h.pr) (by omega) _ _ (fun x hx => (h.mem x).2 (List.mem_of_mem_take hx)) (fun y hy => by cases hy) (by simp)
  have := nodup_sub hnd fun y hy => (facesTo_told h i y hy).1
  omega
theorem i_r05_Faces {l : List Vx} {es : List Ed} (h : WF l es) : call F 24 [.agg [.sl .shared 5 (rowsBy Vx.c l), .sl .shared 4 (rowsBy Ed.c es)]] = some (.sl (.own 35) 1 (rowsBy rowF (facesD l es))) := by
  have cd := i_r05_Darts (.sl .shared 5 (rowsBy Vx.c l)) es (by have := h.le; omega)
  have hle : (dartsE es).length ≤ 80 := by rw [dartsE_len]; have := h.le; omega
  have hw : (dartsE es).length ≤ 9223372036854775807 := by omega
  have hall : ∀ i (hi : i < (dartsE es).length), (dartsE es)[i] ∈ allR l := fun i hi => (h.mem _).2 (List.getElem_mem hi)
  have htl := facesTo_tlen h
  rw [← facesTo_all l es]
  have l1 : E (cs F) 0 f24_l1 (⟨(upd (upd (upd (upd (upd Sx.e0 6 (.v (.int .i64 (0)))) 5 (.s 5 0 (dartsE es).length)) 4 (.s 4 0 (facesTo l es 0).2.length)) 3 (.s 3 0 (facesTo l es 0).1.length)) 1 (.p 1 0)), (upd (upd (upd (upd Sx.h0 5 (some (.arr false 29 3 (rowsBy Dart.c (dartsE es))))) 4 (some (.arr false 29 3 (rowsBy Dart.c (facesTo l es 0).2)))) 3 (some (.arr false 35 1 (rowsBy rowF (facesTo l es 0).1)))) 1 (some (.var false [(.v (.sl .shared 5 (rowsBy Vx.c l))), (.v (.sl .shared 4 (rowsBy Ed.c es)))])))⟩ : St) = some (.exit 0, (⟨(upd Sx.e0 3 (.s 3 0 (facesTo l es (dartsE es).length).1.length)), (upd Sx.h0 3 (some (.arr false 35 1 (rowsBy rowF (facesTo l es (dartsE es).length).1))))⟩ : St)) := by
    refine loop_to (b := f24_b1) (fun q0 => (⟨(upd (upd (upd (upd (upd Sx.e0 6 (.v (.int .i64 ((q0 : Int))))) 5 (.s 5 0 (dartsE es).length)) 4 (.s 4 0 (facesTo l es q0).2.length)) 3 (.s 3 0 (facesTo l es q0).1.length)) 1 (.p 1 0)), (upd (upd (upd (upd Sx.h0 5 (some (.arr false 29 3 (rowsBy Dart.c (dartsE es))))) 4 (some (.arr false 29 3 (rowsBy Dart.c (facesTo l es q0).2)))) 3 (some (.arr false 35 1 (rowsBy rowF (facesTo l es q0).1)))) 1 (some (.var false [(.v (.sl .shared 5 (rowsBy Vx.c l))), (.v (.sl .shared 4 (rowsBy Ed.c es)))])))⟩ : St)) ((dartsE es).length) ?_ ?_ (by simp)
    · intro i hi
      have h1z : (i : Int) < ((dartsE es).length : Int) := by omega
      have hx := hall i hi
      have hg := rowsBy_get Dart.c hi
      have hfl := (facesTo_len l es i).1
      have hs := facesTo_succ l es hi
      have ht := htl i
      have ci := i_r03_Index (facesTo l es i).2 (dartsE es)[i] (Fits.of (by omega))
      by_cases hm : (dartsE es)[i] ∈ (facesTo l es i).2
      · have e1 : facesTo l es (i + 1) = facesTo l es i := by rw [hs]; unfold stepF; rw [if_pos hm]
        rw [e1]
        rw [idx_pos hm] at ci
        have d3 : decide ((((facesTo l es i).2.idxOf (dartsE es)[i] : Nat) : Int) ≥ 0) = true := decide_eq_true (by omega)
        generalize (facesTo l es i).2.idxOf (dartsE es)[i] = kk at *
        generalize dartsE es = D at *
        generalize facesTo l es i = q at *
        simp only [f24_b1, h1z, hg, Dart.c, ci, wrap_succ hi hw, go_sem, reduceIte, Nat.reduceEqDiff, Nat.reduceAdd, Nat.reduceMul, List.length_cons, List.length_nil]
      · have e1 : facesTo l es (i + 1) = ((facesTo l es i).1 ++ [trD l (dartsE es)[i]], (facesTo l es i).2 ++ trD l (dartsE es)[i]) := by rw [hs]; unfold stepF; rw [if_neg hm]; rfl
        rw [e1]
        rw [idx_neg hm] at ci
        have ct := i_r05_Trace h (dartsE es)[i]
        rw [trT, if_pos hx] at ct
        have hts := trT_fits h (dartsE es)[i]
        rw [trT, if_pos hx] at hts
        have hfl2 : (facesTo l es i).1.length ≤ 80 := by omega
        generalize dartsE es = D at *
        generalize facesTo l es i = q at *
        obtain ⟨fs, told⟩ := q
        simp only at hfl2 hm ci ht ⊢
        generalize trD l D[i] = t at *
        have e3 : rowsBy rowF fs ++ [[.sl .shared 3 (rowsBy Dart.c t)]] = rowsBy rowF (fs ++ [t]) := rowsBy_snoc rowF fs t
        have h5 : (fs.length + 1) * 24 ≤ 140737488355328 := by omega
        have h6 : (told.length + t.length) * 24 ≤ 140737488355328 := by omega
        simp only [f24_b1, h1z, hg, Dart.c, ci, ct, h5, h6, e3, wrap_succ hi hw, List.length_append, go_sem, reduceIte, Nat.reduceEqDiff, Nat.reduceAdd, Nat.reduceMul, Nat.reduceBEq, List.length_cons, List.length_nil, Int.reduceGE, Int.reduceNeg, Nat.testBit, Nat.reduceShiftRight, Nat.reduceAnd, Nat.reduceBNe]
    · simp only [f24_b1, dec_ge (Nat.le_refl (dartsE es).length), go_sem, reduceIte, Nat.reduceEqDiff]
  have e0 : facesTo l es 0 = ([], []) := rfl
  rw [e0] at l1
  generalize (facesTo l es (dartsE es).length).1 = fs at *
  generalize dartsE es = D at *
  simp only [rowsBy, List.length_nil] at l1
  rw [call_code F (show F 24 = some (.code f24) from rfl)]
  simp only [f24, cd, l1, go_sem, reduceIte, reduceCtorEq, Nat.reduceEqDiff, Nat.reduceAdd, Nat.reduceMul, List.length_cons, List.length_nil]
theorem i_r05_Same (a b : List (List Dart)) (ha : a.length ≤ 100) (hr : ∀ p ∈ a, Fits p) : call F 23 [.sl .shared 1 (rowsBy rowF a), .sl .shared 1 (rowsBy rowF b)] = some (.bool (decide (a = b))) := by
  have hw : a.length ≤ 9223372036854775807 := by omega
  by_cases hlen : a.length = b.length
  · have he := len_eq hlen
    have l1 : E (cs F) 0 f23_l1 (⟨(upd (upd (upd Sx.e0 5 (.v (.int .i64 (0)))) 1 (.v (.sl .shared 1 (rowsBy rowF b)))) 0 (.v (.sl .shared 1 (rowsBy rowF a)))), Sx.h0⟩ : St) = some (if (List.range (a.length)).any (pairB (fun x y => decide (x = y)) a b) then (.ret, (⟨(upd Sx.e0 4 (.v (.bool false))), Sx.h0⟩ : St)) else (.exit 0, (⟨Sx.e0, Sx.h0⟩ : St))) := by
      refine loop_any (b := f23_b1) (fun q0 => (⟨(upd (upd (upd Sx.e0 5 (.v (.int .i64 ((q0 : Int))))) 1 (.v (.sl .shared 1 (rowsBy rowF b)))) 0 (.v (.sl .shared 1 (rowsBy rowF a)))), Sx.h0⟩ : St)) (pairB (fun x y => decide (x = y)) a b) (a.length) ?_ ?_ (by simp) ?_ (by simp)
      · intro i h1 hp
        have h2 : i < b.length := by omega
        rw [pairB_at h1 h2] at hp
        have hd : decide (a[i] = b[i]) = true := by simpa using hp
        have cd := c_r03_Darts a[i] b[i] (hr _ (List.getElem_mem h1))
        rw [hd] at cd
        simp only [f23_b1, dec_lt h1, rowsBy_get rowF h1, rowsBy_get rowF h2, rowF, cd, wrap_succ h1 hw, go_sem, reduceIte, reduceCtorEq, Nat.reduceEqDiff, Nat.reduceAdd, Nat.reduceMul, List.length_cons, List.length_nil]
      · intro i h1 hp
        have h2 : i < b.length := by omega
        rw [pairB_at h1 h2] at hp
        have hd : decide (a[i] = b[i]) = false := by simpa using hp
        have cd := c_r03_Darts a[i] b[i] (hr _ (List.getElem_mem h1))
        rw [hd] at cd
        simp only [f23_b1, dec_lt h1, rowsBy_get rowF h1, rowsBy_get rowF h2, rowF, cd, go_sem, reduceIte, reduceCtorEq, Nat.reduceEqDiff, Nat.reduceAdd, Nat.reduceMul, List.length_cons, List.length_nil]
      · simp only [f23_b1, dec_ge (Nat.le_refl a.length), go_sem, reduceIte, reduceCtorEq, Nat.reduceEqDiff]
    rw [pairB_eq (fun _ _ => rfl) hlen] at l1
    generalize decide (a = b) = c at *
    rw [call_code F (show F 23 = some (.code f23) from rfl)]
    cases c
    · simp only [f23, he, l1, Bool.not_false, go_sem, reduceIte, reduceCtorEq, Nat.reduceEqDiff, Nat.reduceAdd, ne_eq]
    · simp only [f23, he, l1, Bool.not_true, go_sem, reduceIte, reduceCtorEq, Nat.reduceEqDiff, Nat.reduceAdd, ne_eq]
  · have hlm : a ≠ b := fun e => hlen (by rw [e])
    have he := len_ne hlen
    rw [dec_f hlm]
    rw [call_code F (show F 23 = some (.code f23) from rfl)]
    simp only [f23, he, go_sem, reduceIte, reduceCtorEq, Nat.reduceEqDiff, Nat.reduceAdd, ne_eq]
end Go.Proofs.Ytpccjkabffpnhaa.Sx
namespace Go.Proofs.Ytpccjkabffpnhaa.Sx
open Go
def twoV : List Vx := [⟨⟨1, 1⟩, [⟨⟨1, 9⟩, 0⟩], ⟨#[]⟩, 0⟩, ⟨⟨1, 2⟩, [⟨⟨1, 9⟩, 1⟩], ⟨#[]⟩, 0⟩]
def oneV : List Vx := [⟨⟨1, 1⟩, [⟨⟨1, 9⟩, 0⟩, ⟨⟨1, 9⟩, 1⟩], ⟨#[]⟩, 0⟩]
def edE : List Ed := [⟨⟨1, 9⟩, ⟨#[]⟩, 0⟩]
theorem two_wf : WF twoV edE := wf_of (by decide) (by decide) (by decide +kernel) (by decide +kernel) (by decide +kernel)
theorem one_wf : WF oneV edE := wf_of (by decide) (by decide) (by decide +kernel) (by decide +kernel) (by decide +kernel)
theorem two_faces : (facesD twoV edE).length = 1 := by decide +kernel
theorem one_faces : (facesD oneV edE).length = 2 := by decide +kernel
theorem c_shown : call F 9 [] = some (.bool true) := by
  have f1 := i_Faces two_wf
  have f2 := i_Faces one_wf
  have e1 := two_faces
  have e2 := one_faces
  have k1 : rowsBy Vx.c twoV = [[.int .i64 1, .int .i64 1, .sl .shared 3 [[.int .i64 1, .int .i64 9, .int .i64 0]], .str ⟨#[]⟩, .int .i64 0], [.int .i64 1, .int .i64 2, .sl .shared 3 [[.int .i64 1, .int .i64 9, .int .i64 1]], .str ⟨#[]⟩, .int .i64 0]] := rfl
  have k2 : rowsBy Vx.c oneV = [[.int .i64 1, .int .i64 1, .sl .shared 3 [[.int .i64 1, .int .i64 9, .int .i64 0], [.int .i64 1, .int .i64 9, .int .i64 1]], .str ⟨#[]⟩, .int .i64 0]] := rfl
  have k3 : rowsBy Ed.c edE = [[.int .i64 1, .int .i64 9, .str ⟨#[]⟩, .int .i64 0]] := rfl
  rw [k1, k3] at f1
  rw [k2, k3] at f2
  generalize facesD twoV edE = q1 at *
  generalize facesD oneV edE = q2 at *
  rw [call_code F (show F 9 = some (.code f9) from rfl)]
  simp only [f9, f1, f2, e1, e2, go_sem, reduceIte, reduceCtorEq, Nat.reduceEqDiff, Nat.reduceAdd, Nat.reduceMul, Nat.reduceLeDiff, List.length_cons, List.length_nil, Int.cast_ofNat_Int]
theorem c_formed (l : List Vx) (es : List Ed) (hr : FitsR l) (hL : FitsL l es) : call F 10 [.agg [.sl .shared 5 (rowsBy Vx.c l), .sl .shared 4 (rowsBy Ed.c es)]] = some (.bool (decide (formC l es = 0))) := by
  have cf := i_r04_Form l es hr hL
  rw [call_code F (show F 10 = some (.code f10) from rfl)]
  simp only [f10, cf, go_sem, reduceIte, reduceCtorEq, Nat.reduceEqDiff, Nat.reduceAdd, Nat.reduceMul, List.length_cons, List.length_nil]
theorem t_steps (l : List Vx) (es : List Ed) (x : Dart) (hr : FitsR l) (hL : FitsL l es) : call F 3 [.agg [.sl .shared 5 (rowsBy Vx.c l), .sl .shared 4 (rowsBy Ed.c es)], .agg [.int .i64 x.e.s, .int .i64 x.e.n, .int .i64 x.d]] = some (.bool true) := by
  have cs := c_shown
  have cf := c_formed l es hr hL
  by_cases hf : formC l es = 0
  · have h := (formC_ok.1 hf).1
    have h0 : es.length ≤ 100000 := by have := h.le; omega
    have c1 := i_face_Sigma l x h.fits h.fitsR (.sl .shared 4 (rowsBy Ed.c es))
    have c2 := i_r05_Sigma h x
    have c3 := i_face_Phi h x
    have c4 := i_r05_Phi h x
    have c5 := i_face_Darts (.sl .shared 5 (rowsBy Vx.c l)) es h0
    have c6 := i_r05_Darts (.sl .shared 5 (rowsBy Vx.c l)) es h0
    have c7 := c_r03_Darts (dartsE es) (dartsE es) (Fits.of (by rw [dartsE_len]; omega))
    rw [dec_t rfl] at c7
    rw [dec_t hf] at cf
    simp only [sgT, phT, dartT] at c1 c2 c3 c4
    generalize sigD l x = a at *
    generalize (if x ∈ allR l then phiD l x else Dart0) = b at *
    generalize decide (x ∈ allR l) = p at *
    rw [call_code F (show F 3 = some (.code f3) from rfl)]
    simp only [f3, cs, cf, c1, c2, c3, c4, c5, c6, c7, go_sem, reduceIte, reduceCtorEq, Nat.reduceEqDiff, Nat.reduceAdd, Nat.reduceMul, Nat.reduceLeDiff, Nat.reduceBEq, List.length_cons, List.length_nil, Nat.testBit, Nat.reduceShiftRight, Nat.reduceAnd, Nat.reduceBNe]
  · rw [dec_f hf] at cf
    rw [call_code F (show F 3 = some (.code f3) from rfl)]
    simp only [f3, cs, cf, go_sem, reduceIte, reduceCtorEq, Nat.reduceEqDiff, Nat.reduceAdd, Nat.reduceMul, List.length_cons, List.length_nil]
theorem facesD_dec {l : List Vx} {es : List Ed} (h : WF l es) : Dec (phiD l) (dartsE es) (facesD l es) := by
  have oo : OneOne (phiD l) (dartsE es) := ⟨fun x hx => (h.mem _).1 ((phiD_oo h.pr).mem x ((h.mem x).2 hx)), fun x hx y hy => (phiD_oo h.pr).inj x ((h.mem x).2 hx) y ((h.mem y).2 hy)⟩
  exact oo.dec (by rw [dartsE_len]; have := h.le; omega)
theorem facesD_fits {l : List Vx} {es : List Ed} (h : WF l es) : (∀ p ∈ facesD l es, p.length ≤ 80) ∧ (facesD l es).length ≤ 80 := by
  have hd := facesD_dec h
  have hlen : (dartsE es).length ≤ 80 := by rw [dartsE_len]; have := h.le; omega
  have hfl : (facesD l es).flatten.length ≤ 80 := Nat.le_trans (nodup_sub hd.nd fun x hx => (hd.mem x).1 hx) hlen
  refine ⟨fun p hp => Nat.le_trans (List.Sublist.length_le (List.sublist_flatten_of_mem hp)) hfl, ?_⟩
  have key : ∀ cs : List (List Dart), (∀ c ∈ cs, c ≠ []) → cs.length ≤ cs.flatten.length := by
    intro cs
    induction cs with
    | nil => intro _; exact Nat.le_refl _
    | cons c cs ih =>
      intro h
      rw [List.flatten_cons, List.length_append, List.length_cons]
      have := ih fun d hd => h d (by simp [hd])
      have := List.length_pos_iff.2 (h c (by simp))
      omega
  refine Nat.le_trans (key _ fun c hc e => ?_) hfl
  have := hd.cy c hc
  rw [e] at this; cases this
theorem t_traces (l : List Vx) (es : List Ed) (x y : Dart) (hr : FitsR l) (hL : FitsL l es) : call F 5 [.agg [.sl .shared 5 (rowsBy Vx.c l), .sl .shared 4 (rowsBy Ed.c es)], .agg [.int .i64 x.e.s, .int .i64 x.e.n, .int .i64 x.d], .agg [.int .i64 y.e.s, .int .i64 y.e.n, .int .i64 y.d]] = some (.bool true) := by
  have cs := c_shown
  have cf := c_formed l es hr hL
  by_cases hf : formC l es = 0
  · have h := (formC_ok.1 hf).1
    have hft := trT_fits h x
    have c1 := i_Trace h x
    have c2 := i_r05_Trace h x
    have c3 := c_r03_Darts (trT l x) (trT l x) (Fits.of (by omega))
    rw [dec_t rfl] at c3
    have c4 := i_Faces h
    have c5 := i_r05_Faces h
    have hff := facesD_fits h
    have c6 := i_r05_Same (facesD l es) (facesD l es) (by omega) (fun p hp => Fits.of (by have := hff.1 p hp; omega))
    rw [dec_t rfl] at c6
    have c7 := i_Share h x y
    have c8 := i_r03_Index (trT l x) y (Fits.of (by omega))
    have c9 := idx_ge0 (trT l x) y
    rw [dec_t hf] at cf
    generalize trT l x = t at *
    generalize facesD l es = fs at *
    generalize idx t y = ix at *
    rw [call_code F (show F 5 = some (.code f5) from rfl)]
    simp only [f5, cs, cf, c1, c2, c3, c4, c5, c6, c7, c8, c9, go_sem, reduceIte, reduceCtorEq, Nat.reduceEqDiff, Nat.reduceAdd, Nat.reduceMul, Nat.reduceBEq, List.length_cons, List.length_nil, Nat.testBit, Nat.reduceShiftRight, Nat.reduceAnd, Nat.reduceBNe]
  · rw [dec_f hf] at cf
    rw [call_code F (show F 5 = some (.code f5) from rfl)]
    simp only [f5, cs, cf, go_sem, reduceIte, reduceCtorEq, Nat.reduceEqDiff, Nat.reduceAdd, Nat.reduceMul, List.length_cons, List.length_nil]
end Go.Proofs.Ytpccjkabffpnhaa.Sx
namespace Go.Proofs.Ytpccjkabffpnhaa.Sx
theorem nodup_rev {r : List Dart} (h : r.Nodup) : r.reverse.Nodup := ((List.reverse_perm r).nodup_iff).2 h
theorem next_prev {r : List Dart} (hn : r.Nodup) {x : Dart} (hx : x ∈ r) : nextD r (prevD r x) = x := by
  have hp := List.length_pos_of_mem hx
  have e := ga_idx hx
  conv => lhs; rw [← e]
  rw [prevD_ga hn hp, nextD_ga hn hp, show r.idxOf x + (r.length - 1) + 1 = r.idxOf x + r.length by omega, ← ga_mod, Nat.add_mod_right, ga_mod, e]
theorem next_rev {r : List Dart} (hn : r.Nodup) {x : Dart} (hx : x ∈ r) : nextD r.reverse x = prevD r x := by
  have hp := List.length_pos_of_mem hx
  have hnr : r.reverse.Nodup := nodup_rev hn
  obtain ⟨hi, hxi⟩ := idxOf_at hx
  generalize r.idxOf x = i at hi hxi
  have hl : r.reverse.length = r.length := List.length_reverse
  have e1 : ga r.reverse (r.length - 1 - i) = x := by
    rw [ga_lt (by omega), List.getElem_reverse, ← hxi]
    congr 1
    omega
  have e2 : ga r i = x := by rw [ga_lt hi, hxi]
  have h1 := nextD_ga hnr (by omega) (r.length - 1 - i)
  have h2 := prevD_ga hn hp i
  rw [e1] at h1
  rw [e2] at h2
  rw [h1, h2]
  by_cases h0 : i = 0
  · subst h0
    rw [show r.length - 1 - 0 + 1 = r.reverse.length by omega, ← ga_mod, Nat.mod_self, ga_lt (by omega), Nat.zero_add, ga_lt (by omega), List.getElem_reverse]
    rfl
  · rw [ga_lt (by omega), List.getElem_reverse, show i + (r.length - 1) = (i - 1) + r.length by omega, ← ga_mod r, Nat.add_mod_right, ga_mod, ga_lt (by omega)]
    congr 1; omega
def mirV (v : Vx) : Vx := reR v (turn v.ring.reverse)
def mirL (l : List Vx) : List Vx := l.map mirV
theorem mirV_count (v : Vx) (y : Dart) : (mirV v).ring.count y = v.ring.count y := by
  show (turn _).count y = _
  rw [← (rot_turn _).count, List.count_reverse]
theorem mir_count (l : List Vx) (y : Dart) : (allR (mirL l)).count y = (allR l).count y := count_map mirV y id (fun _ _ => rfl) (fun v => mirV_count v y) l
theorem mir_mem (l : List Vx) (y : Dart) : y ∈ allR (mirL l) ↔ y ∈ allR l := by rw [← List.count_pos_iff, mir_count, List.count_pos_iff]
theorem mir_nd {l : List Vx} (h : (allR l).Nodup) : (allR (mirL l)).Nodup := by
  rw [List.nodup_iff_count]; intro y; rw [mir_count]; exact List.nodup_iff_count.1 h y
theorem mir_pr {l : List Vx} (h : Pr l) : Pr (mirL l) :=
  ⟨mir_nd h.nd, fun x hx => (mir_mem l _).2 (h.oth x ((mir_mem l x).1 hx)), fun x hx => h.ne x ((mir_mem l x).1 hx)⟩
theorem mir_wf {l : List Vx} {es : List Ed} (h : WF l es) : WF (mirL l) es := by
  refine wf_of_count h (by unfold mirL; rw [List.map_map]; rfl) (fun u hu => ?_) (mir_count l)
  obtain ⟨v, hv, rfl⟩ := List.mem_map.1 hu
  exact (turn_turn (nodup_rev (ring_nodup h.nd hv))).symm
theorem mir_sig {l : List Vx} (hn : (allR l).Nodup) {x : Dart} (hx : x ∈ allR l) : sigD (mirL l) (sigD l x) = x := by
  obtain ⟨v, hv, hxv⟩ := (allR_mem l x).1 hx
  have hs := sigD_mem hn hv hxv
  have hnr := ring_nodup hn hv
  have hm : mirV v ∈ mirL l := List.mem_map_of_mem hv
  have hmem : sigD l x ∈ (mirV v).ring := ((rot_turn _).mem _).1 (List.mem_reverse.2 hs)
  rw [sigD_at (mir_nd hn) hm hmem]
  show nextD (turn v.ring.reverse) _ = x
  rw [nextD_rot (nodup_rev hnr) (rot_turn _), next_rev hnr hs, sigD_at hn hv hxv]
  exact prev_next hnr hxv
theorem mir_phi {l : List Vx} (h : Pr l) {x : Dart} (hx : x ∈ allR l) : phiD (mirL l) (othD (phiD l x)) = othD x := by
  unfold phiD
  rw [othD_othD]
  exact mir_sig h.nd (h.oth x hx)
theorem Pth.back {f g k : Dart → Dart} {D : List Dart} (hk : ∀ z ∈ D, g (k (f z)) = k z) : ∀ {r : List Dart} {x y : Dart}, Pth f x r y → (∀ z ∈ x :: r, z ∈ D) → Pth g (k y) (r.map k).reverse (k x)
  | [], x, y, h, hr => by
    have h : f x = y := h
    show g (k y) = k x
    rw [← h]; exact hk x (hr x (by simp))
  | z :: r, x, y, h, hr => by
    rw [List.map_cons, List.reverse_cons]
    refine Pth.app.2 ⟨Pth.back hk h.2 (fun u hu => hr u (by simp at hu ⊢; exact .inr hu)), ?_⟩
    show g (k z) = k x
    rw [← h.1]; exact hk x (hr x (by simp))
def backC (c : List Dart) : List Dart := match c with
  | [] => []
  | x :: r => othD x :: (r.map othD).reverse
theorem backC_perm (c : List Dart) : (backC c).Perm (c.map othD) := by
  cases c with
  | nil => exact .refl _
  | cons x r => exact (List.reverse_perm _).cons _
theorem backC_len (c : List Dart) : (backC c).length = c.length := by rw [(backC_perm c).length_eq, List.length_map]
theorem mir_dec {l : List Vx} (h : Pr l) {cs : List (List Dart)} (hc : Dec (phiD l) (allR l) cs) : Dec (phiD (mirL l)) (allR (mirL l)) (cs.map backC) := by
  have hp : ∀ cs : List (List Dart), ((cs.map backC).flatten).Perm (cs.flatten.map othD) := by
    intro cs
    induction cs with
    | nil => exact .refl _
    | cons c cs ih =>
      rw [List.map_cons, List.flatten_cons, List.flatten_cons, List.map_append]
      exact (backC_perm c).append ih
  refine ⟨fun c hcm => ?_, ?_, fun x => ?_⟩
  · obtain ⟨d, hd, rfl⟩ := List.mem_map.1 hcm
    have hcy := hc.cy d hd
    cases d with
    | nil => cases hcy
    | cons x r => exact Pth.back (D := allR l) (fun z hz => mir_phi h hz) hcy fun z hz => (hc.mem z).1 (List.mem_flatten.2 ⟨_, hd, hz⟩)
  · rw [(hp cs).nodup_iff]
    have : ∀ l : List Dart, l.Nodup → (l.map othD).Nodup := by
      intro l
      induction l with
      | nil => intro _; simp
      | cons x l ih =>
        intro hl
        rw [List.nodup_cons] at hl
        rw [List.map_cons, List.nodup_cons]
        refine ⟨fun hm => ?_, ih hl.2⟩
        obtain ⟨y, hy, e⟩ := List.mem_map.1 hm
        exact hl.1 (othD_inj e ▸ hy)
    exact this _ hc.nd
  · rw [(hp cs).mem_iff, mir_mem, List.mem_map]
    constructor
    · rintro ⟨y, hy, rfl⟩
      exact h.oth y ((hc.mem y).1 hy)
    · intro hx
      exact ⟨othD x, (hc.mem _).2 (h.oth x hx), othD_othD x⟩
theorem mir_alone (l : List Vx) : aloneN (mirL l) = aloneN l := by
  unfold aloneN mirL
  rw [List.countP_map]
  refine List.countP_congr fun v _ => ?_
  show ((mirV v).ring.isEmpty = true) ↔ _
  have : (mirV v).ring.isEmpty = v.ring.isEmpty := by
    have h1 : (mirV v).ring.length = v.ring.length := by
      show (turn _).length = _
      rw [turn_length, List.length_reverse]
    cases ha : (mirV v).ring <;> cases hb : v.ring <;> rw [ha, hb] at h1 <;> simp at h1 <;> rfl
  rw [this]
theorem mir_ringAt {l : List Vx} {u : Nat} {x : Dart} : x ∈ ringAt (mirL l) u ↔ x ∈ ringAt l u := by
  have hl : (mirL l).length = l.length := by simp [mirL]
  have key : ∀ (h : u < l.length) (h' : u < (mirL l).length), x ∈ (mirL l)[u].ring ↔ x ∈ l[u].ring := fun h h' => by
    simp only [mirL, List.getElem_map]
    show x ∈ turn _ ↔ _
    rw [← (rot_turn _).mem, List.mem_reverse]
  constructor
  · intro h
    have hu := ringAt_mem h
    rw [ringAt_lt hu] at h
    rw [ringAt_lt (by omega)]
    exact (key (by omega) hu).1 h
  · intro h
    have hu := ringAt_mem h
    rw [ringAt_lt hu] at h
    rw [ringAt_lt (show u < (mirL l).length by omega)]
    exact (key hu (by omega)).2 h
theorem mir_step {l : List Vx} (u w : Nat) : stepV (mirL l) u w ↔ stepV l u w := by
  rw [stepV_iff, stepV_iff]
  constructor
  · rintro ⟨x, h1, h2⟩; exact ⟨x, mir_ringAt.1 h1, mir_ringAt.1 h2⟩
  · rintro ⟨x, h1, h2⟩; exact ⟨x, mir_ringAt.2 h1, mir_ringAt.2 h2⟩
theorem mir_eul {l : List Vx} (h : Pr l) {v e f p : Nat} (k : Eul l v e f p) : Eul (mirL l) v e f p := by
  obtain ⟨cs, hc, rfl⟩ := k.f
  obtain ⟨lab, hl, rfl⟩ := k.p
  have hlen : (mirL l).length = l.length := by simp [mirL]
  refine ⟨by rw [hlen]; exact k.v, ?_, ⟨_, mir_dec h hc, by rw [List.length_map, mir_alone]⟩, ⟨lab, ?_, by rw [hlen]⟩⟩
  · rw [k.e]
    exact len_of_mem h.nd (mir_nd h.nd) fun x => (mir_mem l x).symm
  · rw [hlen]
    exact hl.iff fun u w => (mir_step u w).symm
/-- as many faces of each size -/
theorem mir_sizes {l : List Vx} (h : Pr l) {cs ds : List (List Dart)} (hc : Dec (phiD l) (allR l) cs) (hd : Dec (phiD (mirL l)) (allR (mirL l)) ds) (n : Nat) : (cs.filter (fun c => decide (c.length = n))).length = (ds.filter (fun c => decide (c.length = n))).length ∧ cs.length = ds.length := by
  have hm := mir_dec h hc
  refine ⟨?_, by have := hm.len hd; rw [List.length_map] at this; exact this⟩
  rw [← hm.sizes hd n, List.filter_map, List.length_map]
  congr 2
  funext c
  show decide (c.length = n) = decide ((backC c).length = n)
  rw [backC_len]
end Go.Proofs.Ytpccjkabffpnhaa.Sx
namespace Go.Proofs.Ytpccjkabffpnhaa.Sx
theorem dartsE_snoc2 (es : List Ed) (e : Ed) : dartsE (es ++ [e]) = dartsE es ++ [⟨e.id, 0⟩, ⟨e.id, 1⟩] := by unfold dartsE; rw [List.flatMap_append]; simp
def insV (id : ID) (z a : Dart) (v : Vx) : Vx := if v.id = id then reR v (insR v.ring z a) else v
theorem insV_id (id : ID) (z a : Dart) (v : Vx) : (insV id z a v).id = v.id := by unfold insV; split <;> rfl
theorem insV_pos {id : ID} {v : Vx} (h : v.id = id) (z a : Dart) : insV id z a v = reR v (insR v.ring z a) := by unfold insV; rw [if_pos h]
theorem insV_neg {id : ID} {v : Vx} (h : ¬ v.id = id) (z a : Dart) : insV id z a v = v := by unfold insV; rw [if_neg h]
theorem insV_label (id : ID) (z a : Dart) (v : Vx) : (insV id z a v).label = v.label := by unfold insV; split <;> rfl
theorem insV_attr (id : ID) (z a : Dart) (v : Vx) : (insV id z a v).attr = v.attr := by unfold insV; split <;> rfl
theorem ins_count1 {r : List Dart} {z a : Dart} (ha : a ∉ r) (y : Dart) : (insR r z a).count y = r.count y + if y = a then 1 else 0 := by
  rw [insR_eq ha, ← (rot_turn _).count, count_insL]
theorem ins_mem1 {r : List Dart} {z a : Dart} (ha : a ∉ r) (y : Dart) : y ∈ insR r z a ↔ y ∈ r ∨ y = a := by
  rw [← List.count_pos_iff, ins_count1 ha, ← List.count_pos_iff (a := y) (l := r)]
  split
  · rename_i h; simp [h]
  · rename_i h; simp [h]
theorem ins_nd1 {r : List Dart} (hn : r.Nodup) {z a : Dart} (ha : a ∉ r) : (insR r z a).Nodup := by
  rw [insR_eq ha]; exact (rot_turn _).nodup (insL_nodup hn ha)
theorem ins_turn1 {r : List Dart} (hn : r.Nodup) {z a : Dart} (ha : a ∉ r) : insR r z a = turn (insR r z a) := by
  rw [insR_eq ha, turn_turn (insL_nodup hn ha)]
theorem ins_back1 {r : List Dart} {z a : Dart} (ha : a ∉ r) : Rot ((insR r z a).filter (fun y => decide (¬ y = a))) r := by
  rw [insR_eq ha]
  have := ((rot_turn (insL r z a)).symm).filter (fun y => decide (¬ y = a))
  rw [insL_filter ha] at this
  exact this
theorem insV_back {id : ID} {z a : Dart} {v : Vx} (ha : a ∉ v.ring) : Rot ((insV id z a v).ring.filter (fun y => decide (¬ y = a))) v.ring := by
  unfold insV
  split
  · exact ins_back1 ha
  · rw [List.filter_eq_self.2 (fun y hy => by simp; rintro rfl; exact ha hy)]
    exact .refl _
theorem insV_nd {id : ID} {z a : Dart} {v : Vx} (hn : v.ring.Nodup) (ha : a ∉ v.ring) : (insV id z a v).ring.Nodup := by
  unfold insV; split
  · exact ins_nd1 hn ha
  · exact hn
theorem insV_turn {id : ID} {z a : Dart} {v : Vx} (hn : v.ring.Nodup) (ha : a ∉ v.ring) (ht : v.ring = turn v.ring) : (insV id z a v).ring = turn (insV id z a v).ring := by
  unfold insV; split
  · exact ins_turn1 hn ha
  · exact ht
theorem insV_mem {id : ID} {z a : Dart} {v : Vx} (ha : a ∉ v.ring) (y : Dart) : y ∈ (insV id z a v).ring ↔ y ∈ v.ring ∨ (y = a ∧ v.id = id) := by
  unfold insV; split
  · rename_i h
    show y ∈ insR _ _ _ ↔ _
    rw [ins_mem1 ha]; simp [h]
  · rename_i h; simp [h]
theorem map_ins {l : List Vx} (hn : (l.map Vx.id).Nodup) {k : Nat} (hk : k < l.length) (z a : Dart) : l.map (insV l[k].id z a) = l.set k (reR l[k] (insR l[k].ring z a)) := by
  refine List.ext_getElem (by simp) fun i h1 h2 => ?_
  rw [List.getElem_map, List.getElem_set]
  split
  · rename_i e; subst e; unfold insV; rw [if_pos rfl]
  · rename_i e
    unfold insV
    rw [if_neg]
    intro e2
    have hi : i < l.length := by simpa using h1
    have := (List.getElem_inj hn (h₀ := by simpa using hi) (h₁ := by simpa using hk)).1 (by simpa using e2)
    exact e this.symm
theorem ins_count {l : List Vx} (hn : (l.map Vx.id).Nodup) {v : Vx} (hv : v ∈ l) {z a : Dart} (ha : a ∉ allR l) (y : Dart) : (allR (l.map (insV v.id z a))).count y = (allR l).count y + if y = a then 1 else 0 := by
  obtain ⟨k, hk, rfl⟩ := List.mem_iff_getElem.1 hv
  rw [map_ins hn hk]
  have h1 := count_set hk (reR l[k] (insR l[k].ring z a)) y
  have h2 : (reR l[k] (insR l[k].ring z a)).ring.count y = l[k].ring.count y + if y = a then 1 else 0 := ins_count1 (fun h => ha (mem_allR (List.getElem_mem hk) h)) y
  omega
/-- the new edge's name: the greatest that may be -/
def bigI : ID := ⟨8, 1048576⟩
def bigA : Dart := ⟨bigI, 0⟩
def bigB : Dart := ⟨bigI, 1⟩
def bigE : Ed := ⟨bigI, ⟨#[]⟩, 0⟩
theorem oth_big : othD bigA = bigB := rfl
def moreV (l : List Vx) (v w : ID) (x y : Dart) : List Vx := (l.map (insV v x bigA)).map (insV w y bigB)
theorem big_not {l : List Vx} {es : List Ed} (h : WF l es) (hn : bigI ∉ es.map Ed.id) : bigA ∉ allR l ∧ bigB ∉ allR l := by
  constructor
  · intro hm
    obtain ⟨e, he, hx⟩ := dartsE_mem.1 ((h.mem _).1 hm)
    refine hn (List.mem_map.2 ⟨e, he, ?_⟩)
    rcases hx with hx | hx
    · exact (congrArg Dart.e hx).symm
    · exact (congrArg Dart.e hx).symm
  · intro hm
    obtain ⟨e, he, hx⟩ := dartsE_mem.1 ((h.mem _).1 hm)
    refine hn (List.mem_map.2 ⟨e, he, ?_⟩)
    rcases hx with hx | hx
    · exact (congrArg Dart.e hx).symm
    · exact (congrArg Dart.e hx).symm
section
variable {l : List Vx} {es : List Ed}
theorem more_count (h : WF l es) (hn : bigI ∉ es.map Ed.id) {v w : Vx} (hv : v ∈ l) (hw : w ∈ l) (x y z : Dart) : (allR (moreV l v.id w.id x y)).count z = (allR l).count z + (if z = bigA then 1 else 0) + (if z = bigB then 1 else 0) := by
  obtain ⟨ha, hb⟩ := big_not h hn
  have hid : (l.map (insV v.id x bigA)).map Vx.id = l.map Vx.id := by rw [List.map_map]; exact List.map_congr_left fun u _ => insV_id _ _ _ u
  have h1 : ∀ z, (allR (l.map (insV v.id x bigA))).count z = (allR l).count z + if z = bigA then 1 else 0 := ins_count h.sv.nodup hv ha
  have hb' : bigB ∉ allR (l.map (insV v.id x bigA)) := fun hm => by
    have h2 := h1 bigB
    have h3 := List.count_pos_iff.2 hm
    rw [List.count_eq_zero_of_not_mem hb, if_neg (by decide)] at h2
    omega
  have hw' : insV v.id x bigA w ∈ l.map (insV v.id x bigA) := List.mem_map_of_mem hw
  have h2 := ins_count (l := l.map (insV v.id x bigA)) (by rw [hid]; exact h.sv.nodup) hw' (z := y) hb' z
  rw [insV_id] at h2
  unfold moreV
  rw [h2, h1]
theorem rise_big {ids : List ID} (h : Rise ids) (hn : bigI ∉ ids) : Rise (ids ++ [bigI]) := by
  refine ⟨fun x hx => ?_, List.pairwise_append.2 ⟨h.2, by simp, fun x hx y hy => ?_⟩⟩
  · rcases List.mem_append.1 hx with hx | hx
    · exact h.1 x hx
    · rw [List.mem_singleton.1 hx]; rfl
  · rw [List.mem_singleton.1 hy]
    have h1 := h.1 x hx
    have h2 : x ≠ bigI := fun e => hn (e ▸ hx)
    unfold mayI at h1
    have h1 := of_decide_eq_true h1
    rw [Ne, ID.ext_iff'] at h2
    unfold ltI bigI at *
    simp only at h2 ⊢
    omega
theorem more_wf (h : WF l es) (hn : bigI ∉ es.map Ed.id) (hlt : es.length < 40) {v w : Vx} (hv : v ∈ l) (hw : w ∈ l) (x y : Dart) : WF (moreV l v.id w.id x y) (es ++ [bigE]) := by
  obtain ⟨ha, hb⟩ := big_not h hn
  have hc := more_count h hn hv hw x y
  refine ⟨by simp [moreV]; exact h.lv, by simp; omega, ?_, ?_, fun u hu => ?_, ?_, fun z => ?_⟩
  · have : (moreV l v.id w.id x y).map Vx.id = l.map Vx.id := by
      unfold moreV
      rw [List.map_map, List.map_map]
      exact List.map_congr_left fun u _ => by show (insV _ _ _ (insV _ _ _ u)).id = u.id; rw [insV_id, insV_id]
    rw [this]; exact h.sv
  · rw [List.map_append]; exact rise_big h.se hn
  · obtain ⟨u1, hu1, rfl⟩ := List.mem_map.1 hu
    obtain ⟨u0, hu0, rfl⟩ := List.mem_map.1 hu1
    have n0 := ring_nodup h.nd hu0
    have a0 : bigA ∉ u0.ring := fun hm => ha (mem_allR hu0 hm)
    have b0 : bigB ∉ u0.ring := fun hm => hb (mem_allR hu0 hm)
    have b1 : bigB ∉ (insV v.id x bigA u0).ring := fun hm => by
      rcases (insV_mem a0 _).1 hm with hm | hm
      · exact b0 hm
      · exact absurd hm.1 (by decide)
    exact insV_turn (insV_nd n0 a0) b1 (insV_turn n0 a0 (h.tn u0 hu0))
  · rw [List.nodup_iff_count]
    intro z
    rw [hc]
    have h1 := List.nodup_iff_count.1 h.nd z
    by_cases e1 : z = bigA
    · subst e1
      rw [List.count_eq_zero_of_not_mem ha, if_pos rfl, if_neg (by decide)]; omega
    · by_cases e2 : z = bigB
      · subst e2
        rw [List.count_eq_zero_of_not_mem hb, if_neg (by decide), if_pos rfl]; omega
      · rw [if_neg e1, if_neg e2]; omega
  · rw [← List.count_pos_iff, hc, dartsE_snoc2 es bigE, List.mem_append, ← h.mem z, ← List.count_pos_iff]
    simp only [List.mem_cons, List.not_mem_nil, or_false]
    show _ ↔ _ ∨ (z = bigA ∨ z = bigB)
    by_cases e1 : z = bigA
    · rw [if_pos e1]; constructor
      · intro _; exact .inr (.inl e1)
      · intro _; omega
    · by_cases e2 : z = bigB
      · rw [if_pos e2]; constructor
        · intro _; exact .inr (.inr e2)
        · intro _; omega
      · simp [e1, e2]
theorem more_cut (h : WF l es) (hn : bigI ∉ es.map Ed.id) (v w : ID) (x y : Dart) : Cut (moreV l v w x y) l bigA (othD bigA) := by
  obtain ⟨ha, hb⟩ := big_not h hn
  refine ⟨by simp [moreV], fun i hi hi' => ?_⟩
  rw [oth_big]
  have e : (moreV l v w x y)[i] = insV w y bigB (insV v x bigA l[i]) := by simp [moreV]
  rw [e]
  have hu0 := List.getElem_mem hi'
  have a0 : bigA ∉ l[i].ring := fun hm => ha (mem_allR hu0 hm)
  have b0 : bigB ∉ l[i].ring := fun hm => hb (mem_allR hu0 hm)
  have b1 : bigB ∉ (insV v x bigA l[i]).ring := fun hm => by
    rcases (insV_mem a0 _).1 hm with hm | hm
    · exact b0 hm
    · exact absurd hm.1 (by decide)
  have r1 := insV_back (id := w) (z := y) b1
  have r2 := insV_back (id := v) (z := x) a0
  have r3 := (r1.filter (fun y => decide (¬ y = bigA))).trans r2
  rw [List.filter_filter] at r3 ⊢
  have : (fun a => decide (¬ a = bigB) && decide (¬ a = bigA)) = (fun a => decide (¬ a = bigA) && decide (¬ a = bigB)) := by
    funext a; exact Bool.and_comm _ _
  rw [this]
  exact r3
theorem next_ins {r : List Dart} (hn : r.Nodup) {z a : Dart} (ha : a ∉ r) (hz : z ∈ r) : nextD (insR r z a) z = a := by
  have h1 := prev_ins hn ha hz
  have h2 := next_prev (ins_nd1 hn ha) ((ins_mem1 (z := z) ha a).2 (.inr rfl))
  rw [h1] at h2
  exact h2
theorem next_ins_other {r : List Dart} (hn : r.Nodup) {z a u : Dart} (ha : a ∉ r) (hz : z ∈ r) (hu : u ∈ r) (huz : u ≠ z) : nextD (insR r z a) u = nextD r u := by
  have hni := ins_nd1 hn ha (z := z)
  have hua : u ≠ a := fun e => ha (e ▸ hu)
  have hui : u ∈ insR r z a := (ins_mem1 ha u).2 (.inl hu)
  have h1 := filter_skip hni hui hua
  rw [if_neg] at h1
  · rw [← h1]
    exact (nextD_rot (hni.filter _) (ins_back1 ha) u).symm
  · intro e
    have h2 := prev_next hni hui
    rw [e, prev_ins hn ha hz] at h2
    exact huz h2.symm
theorem more_sig (h : WF l es) (hn : bigI ∉ es.map Ed.id) (hlt : es.length < 40) {v w : Vx} (hv : v ∈ l) (hw : w ∈ l) {x y : Dart} (hx : x ∈ v.ring) (hy : y ∈ w.ring) (hxy : x ≠ y) :
    sigD (moreV l v.id w.id x y) x = bigA ∧ sigD (moreV l v.id w.id x y) y = bigB := by
  obtain ⟨ha, hb⟩ := big_not h hn
  have hm := more_wf h hn hlt hv hw x y
  have nodup_id := h.sv.nodup
  have fact : ∀ u ∈ l, bigA ∉ u.ring ∧ bigB ∉ (insV v.id x bigA u).ring ∧ u.ring.Nodup ∧ (insV v.id x bigA u).ring.Nodup ∧ insV w.id y bigB (insV v.id x bigA u) ∈ moreV l v.id w.id x y := fun u hu => by
    have a0 : bigA ∉ u.ring := fun hm => ha (mem_allR hu hm)
    have n0 := ring_nodup h.nd hu
    refine ⟨a0, fun hm => ?_, n0, insV_nd n0 a0, List.mem_map_of_mem (List.mem_map_of_mem hu)⟩
    rcases (insV_mem a0 _).1 hm with hm | hm
    · exact hb (mem_allR hu hm)
    · exact absurd hm.1 (by decide)
  constructor
  · obtain ⟨a0, b1, n0, n1, hmem⟩ := fact v hv
    have e1 : (insV v.id x bigA v).ring = insR v.ring x bigA := by unfold insV; rw [if_pos rfl]; rfl
    have hx1 : x ∈ (insV v.id x bigA v).ring := (insV_mem a0 x).2 (.inl hx)
    have hx2 : x ∈ (insV w.id y bigB (insV v.id x bigA v)).ring := (insV_mem b1 x).2 (.inl hx1)
    rw [sigD_at hm.nd hmem hx2]
    have h1 : nextD (insV v.id x bigA v).ring x = bigA := by rw [e1]; exact next_ins n0 a0 hx
    by_cases hvw : v.id = w.id
    · have e : v = w := inj_of_nodup nodup_id hv hw hvw
      subst e
      have e2 : (insV v.id y bigB (insV v.id x bigA v)).ring = insR (insV v.id x bigA v).ring y bigB := by
        rw [insV_pos (insV_id v.id x bigA v) y bigB]; rfl
      rw [e2, next_ins_other n1 b1 ((insV_mem a0 y).2 (.inl hy)) hx1 hxy, h1]
    · have e2 : insV w.id y bigB (insV v.id x bigA v) = insV v.id x bigA v := by
        rw [insV_neg (by rw [insV_id]; exact hvw)]
      rw [e2, h1]
  · obtain ⟨a0, b1, n0, n1, hmem⟩ := fact w hw
    have hy1 : y ∈ (insV v.id x bigA w).ring := (insV_mem a0 y).2 (.inl hy)
    have hy2 : y ∈ (insV w.id y bigB (insV v.id x bigA w)).ring := (insV_mem b1 y).2 (.inl hy1)
    rw [sigD_at hm.nd hmem hy2]
    have e2 : (insV w.id y bigB (insV v.id x bigA w)).ring = insR (insV v.id x bigA w).ring y bigB := by
      rw [insV_pos (insV_id v.id x bigA w) y bigB]; rfl
    rw [e2, next_ins n1 b1 hy1]
theorem more_alone (h : WF l es) (hn : bigI ∉ es.map Ed.id) {v w : Vx} (hv : v ∈ l) (hw : w ∈ l) {x y : Dart} (hx : x ∈ v.ring) (hy : y ∈ w.ring) : aloneN (moreV l v.id w.id x y) = aloneN l := by
  obtain ⟨ha, hb⟩ := big_not h hn
  unfold aloneN moreV
  rw [List.map_map, List.countP_map]
  refine List.countP_congr fun u hu => ?_
  have a0 : bigA ∉ u.ring := fun hm => ha (mem_allR hu hm)
  have b1 : bigB ∉ (insV v.id x bigA u).ring := fun hm => by
    rcases (insV_mem a0 _).1 hm with hm | hm
    · exact hb (mem_allR hu hm)
    · exact absurd hm.1 (by decide)
  show (insV w.id y bigB (insV v.id x bigA u)).ring.isEmpty = true ↔ u.ring.isEmpty = true
  rw [List.isEmpty_iff, List.isEmpty_iff]
  constructor
  · intro e
    cases hr : u.ring with
    | nil => rfl
    | cons z r =>
      have : z ∈ (insV w.id y bigB (insV v.id x bigA u)).ring := (insV_mem b1 z).2 (.inl ((insV_mem a0 z).2 (.inl (by rw [hr]; simp))))
      rw [e] at this; cases this
  · intro e
    have hv' : u.id ≠ v.id := fun e' => by
      have := inj_of_nodup h.sv.nodup hu hv e'
      rw [this] at e; rw [e] at hx; cases hx
    have hw' : u.id ≠ w.id := fun e' => by
      have := inj_of_nodup h.sv.nodup hu hw e'
      rw [this] at e; rw [e] at hy; cases hy
    have e1 : insV v.id x bigA u = u := by unfold insV; rw [if_neg hv']
    have e2 : insV w.id y bigB u = u := by unfold insV; rw [if_neg hw']
    rw [e1, e2, e]
/-- darts of one face, whatever the faces are told by -/
theorem Dec.same {f : Dart → Dart} {D : List Dart} (oo : OneOne f D) {n : Nat} (hD : D.length ≤ n) {cs : List (List Dart)} (h : Dec f D cs) {u w : Dart} (hu : u ∈ D) : (∃ c ∈ cs, u ∈ c ∧ w ∈ c) ↔ w ∈ orb f n u := by
  have hcy := oo.orb_cy hu hD
  constructor
  · rintro ⟨c, hc, h1, h2⟩
    exact (h.cy c hc).sub hcy h1 (orb_self _ _ _) w h2
  · intro hw
    obtain ⟨c, hc, h1⟩ := List.mem_flatten.1 ((h.mem u).2 hu)
    exact ⟨c, hc, h1, hcy.sub (h.cy c hc) (orb_self _ _ _) h1 w hw⟩
/-- an edge between corners of one face makes of it two; between two faces it makes of these one -/
theorem more_faces (h : WF l es) (hn : bigI ∉ es.map Ed.id) (hlt : es.length < 40) {v w : Vx} (hv : v ∈ l) (hw : w ∈ l) {x y : Dart} (hx : x ∈ v.ring) (hy : y ∈ w.ring) (hxy : x ≠ y)
    {cs ds : List (List Dart)} (hc : Dec (phiD (moreV l v.id w.id x y)) (allR (moreV l v.id w.id x y)) cs) (hd : Dec (phiD l) (allR l) ds) :
    (othD y ∈ trD l (othD x) ∧ cs.length = ds.length + 1) ∨ (othD y ∉ trD l (othD x) ∧ cs.length + 1 = ds.length) := by
  have hm := more_wf h hn hlt hv hw x y
  have hcut := more_cut h hn v.id w.id x y
  have hA : bigA ∈ allR (moreV l v.id w.id x y) := (hm.mem _).2 (dartsE_mem.2 ⟨bigE, by simp, .inl rfl⟩)
  obtain ⟨cs', hc', hcase⟩ := hc.faces hm.pr hA hcut
  have hl := hc'.len hd
  have hal := more_alone h hn hv hw hx hy
  obtain ⟨s1, s2⟩ := more_sig h hn hlt hv hw hx hy hxy
  have hxo := h.pr.oth x (mem_allR hv hx)
  have hyo := h.pr.oth y (mem_allR hw hy)
  have p1 : phiD (moreV l v.id w.id x y) (othD x) = bigA := by unfold phiD; rw [othD_othD]; exact s1
  have p2 : phiD (moreV l v.id w.id x y) (othD y) = othD bigA := by unfold phiD; rw [othD_othD]; exact s2
  have hlen : (allR l).length ≤ 100 := by rw [h.many]; have := h.le; omega
  have hs := hc'.same (phiD_oo h.pr) hlen (w := othD y) hxo
  rcases hcase with ⟨_, he, hno⟩ | ⟨_, he, hyes⟩
  · refine .inr ⟨fun hin => ?_, by omega⟩
    exact hno _ hxo _ hyo p1 p2 (hs.2 hin)
  · refine .inl ⟨hs.1 (hyes _ hxo _ hyo p1 p2), by omega⟩
end
end Go.Proofs.Ytpccjkabffpnhaa.Sx
namespace Go.Proofs.Ytpccjkabffpnhaa.Sx
open Go
theorem r04_clone_l1 (l : List Vx) (es : List Ed) (hl : l.length ≤ 100000) (hr : FitsR l) : E (cs F) 0 f18_l1 (⟨(upd (upd (upd (upd Sx.e0 4 (.v (.int .i64 (0)))) 3 (.p 3 0)) 2 (.p 2 0)) 1 (.p 1 0)), (upd (upd (upd (upd Sx.h0 10193 (some (.arr false 53 4 (rowsBy Ed.c es)))) 3 (some (.var false [(.v (.sl (.tight 40) 5 [])), (.s 10193 0 es.length)]))) 2 (some (.var false [(.v (.sl (.tight 40) 5 [])), (.v (.sl (.tight 53) 4 []))]))) 1 (some (.var false [(.v (.sl .shared 5 (rowsBy Vx.c l))), (.v (.sl .shared 4 (rowsBy Ed.c es)))])))⟩ : St) =
    some (if l.length = 0 then (.exit 0, (⟨(upd (upd Sx.e0 3 (.p 3 0)) 2 (.p 2 0)), (upd (upd (upd Sx.h0 10193 (some (.arr false 53 4 (rowsBy Ed.c es)))) 3 (some (.var false [(.v (.sl (.tight 40) 5 [])), (.s 10193 0 es.length)]))) 2 (some (.var false [(.v (.sl (.tight 40) 5 [])), (.v (.sl (.tight 53) 4 []))])))⟩ : St)) else (.exit 0, (⟨(upd (upd Sx.e0 3 (.p 3 0)) 2 (.p 2 0)), (upd (upd (upd (upd Sx.h0 10193 (some (.arr false 53 4 (rowsBy Ed.c es)))) 10192 (some (.arr false 40 5 (rowsBy Vx.c l)))) 3 (some (.var false [(.s 10192 0 l.length), (.s 10193 0 es.length)]))) 2 (some (.var false [(.v (.sl (.tight 40) 5 [])), (.v (.sl (.tight 53) 4 []))])))⟩ : St))) := by
  have hw : l.length ≤ 9223372036854775807 := by omega
  have l1 : E (cs F) 0 f18_l1 (⟨(upd (upd (upd (upd Sx.e0 4 (.v (.int .i64 (0)))) 3 (.p 3 0)) 2 (.p 2 0)) 1 (.p 1 0)), (upd (upd (upd (upd Sx.h0 10193 (some (.arr false 53 4 (rowsBy Ed.c es)))) 3 (some (.var false [(.v (.sl (.tight 40) 5 [])), (.s 10193 0 es.length)]))) 2 (some (.var false [(.v (.sl (.tight 40) 5 [])), (.v (.sl (.tight 53) 4 []))]))) 1 (some (.var false [(.v (.sl .shared 5 (rowsBy Vx.c l))), (.v (.sl .shared 4 (rowsBy Ed.c es)))])))⟩ : St) = some (if l.length = 0 then (.exit 0, (⟨(upd (upd Sx.e0 3 (.p 3 0)) 2 (.p 2 0)), (upd (upd (upd Sx.h0 10193 (some (.arr false 53 4 (rowsBy Ed.c es)))) 3 (some (.var false [(.v (.sl (.tight 40) 5 [])), (.s 10193 0 es.length)]))) 2 (some (.var false [(.v (.sl (.tight 40) 5 [])), (.v (.sl (.tight 53) 4 []))])))⟩ : St)) else (.exit 0, (⟨(upd (upd Sx.e0 3 (.p 3 0)) 2 (.p 2 0)), (upd (upd (upd (upd Sx.h0 10193 (some (.arr false 53 4 (rowsBy Ed.c es)))) 10192 (some (.arr false 40 5 (rowsBy Vx.c l)))) 3 (some (.var false [(.s 10192 0 l.length), (.s 10193 0 es.length)]))) 2 (some (.var false [(.v (.sl (.tight 40) 5 [])), (.v (.sl (.tight 53) 4 []))])))⟩ : St))) := by
    refine loop_grow (b := f18_b1) _ (fun q0 => (⟨(upd (upd (upd (upd Sx.e0 4 (.v (.int .i64 ((q0 : Int))))) 3 (.p 3 0)) 2 (.p 2 0)) 1 (.p 1 0)), (upd (upd (upd (upd (upd Sx.h0 10193 (some (.arr false 53 4 (rowsBy Ed.c es)))) 10192 (some (.arr false 40 5 (rowsBy Vx.c (l.take q0))))) 3 (some (.var false [(.s 10192 0 (l.take q0).length), (.s 10193 0 es.length)]))) 2 (some (.var false [(.v (.sl (.tight 40) 5 [])), (.v (.sl (.tight 53) 4 []))]))) 1 (some (.var false [(.v (.sl .shared 5 (rowsBy Vx.c l))), (.v (.sl .shared 4 (rowsBy Ed.c es)))])))⟩ : St)) (l.length) ?_ (by simp) ?_ ?_ ?_ (by simp)
    · intro h0
      simp only [f18_b1, show decide ((0 : Int) < (l.length : Int)) = false from decide_eq_false (by omega), go_sem, reduceIte, Nat.reduceEqDiff, Nat.reduceAdd, Nat.reduceLeDiff, List.length_cons, List.length_nil]
    · intro hn
      have hs : l.take 1 = [l[0]] := List.take_succ_eq_append_getElem (i := 0) hn
      have d1 : decide ((0 : Int) < (l.length : Int)) = true := decide_eq_true (by omega)
      have h1z : (0 : Int) < (l.length : Int) := by omega
      have hrl := (hr _ (List.getElem_mem hn)).le
      have h5 : l[0].ring.length * 24 ≤ 140737488355328 := by omega
      have e2 : rowsBy Vx.c [l[0]] = [[.int .i64 l[0].id.s, .int .i64 l[0].id.n, .sl .shared 3 (rowsBy Dart.c l[0].ring), .str l[0].label, .int .i64 l[0].attr]] := rfl
      rw [hs, e2]
      simp only [f18_b1, h1z, rowsBy_get Vx.c hn, Vx.c, h5, show IntKind.i64.wrap 1 = 1 from rfl, go_sem, reduceIte, Nat.reduceEqDiff, Nat.reduceAdd, Nat.reduceMul, Nat.reduceLeDiff, List.length_cons, List.length_nil, Int.reduceAdd, Int.reduceToNat, Int.cast_ofNat_Int]
    · intro i hi0 hi
      have h1z : (i : Int) < (l.length : Int) := by omega
      have hs : l.take (i + 1) = l.take i ++ [l[i]] := List.take_succ_eq_append_getElem hi
      have hrl := (hr _ (List.getElem_mem hi)).le
      have h5 : l[i].ring.length * 24 ≤ 140737488355328 := by omega
      have hl2 : (l.take i).length ≤ i := by rw [List.length_take]; omega
      have e2 : (l.take i ++ [l[i]]).length = (l.take i).length + 1 := by rw [List.length_append]; rfl
      rw [hs, e2]
      generalize l.take i = q at *
      have h6 : (q.length + 1) * 64 ≤ 140737488355328 := by omega
      have e3 : rowsBy Vx.c q ++ [[.int .i64 l[i].id.s, .int .i64 l[i].id.n, .sl .shared 3 (rowsBy Dart.c l[i].ring), .str l[i].label, .int .i64 l[i].attr]] = rowsBy Vx.c (q ++ [l[i]]) := rowsBy_snoc Vx.c q l[i]
      simp only [f18_b1, h1z, rowsBy_get Vx.c hi, Vx.c, h5, h6, e3, wrap_succ hi hw, go_sem, reduceIte, Nat.reduceEqDiff, Nat.reduceAdd, Nat.reduceLeDiff, List.length_cons, List.length_nil]
    · intro hn
      rw [List.take_length]
      simp only [f18_b1, dec_ge (Nat.le_refl l.length), go_sem, reduceIte, Nat.reduceEqDiff, Nat.reduceAdd, Nat.reduceLeDiff, List.length_cons, List.length_nil]
  exact l1
theorem i_r04_Clone (l : List Vx) (es : List Ed) (hl : l.length ≤ 100000) (he : es.length ≤ 100000) (hr : FitsR l) : call F 18 [.agg [.sl .shared 5 (rowsBy Vx.c l), .sl .shared 4 (rowsBy Ed.c es)]] = some (.agg [.sl (.own 40) 5 (rowsBy Vx.c l), .sl (.own 53) 4 (rowsBy Ed.c es)]) := by
  have l1 := r04_clone_l1 l es hl hr
  have h5 : es.length * 40 ≤ 140737488355328 := by omega
  rw [call_code F (show F 18 = some (.code f18) from rfl)]
  by_cases h0 : l.length = 0
  · rw [if_pos h0] at l1
    have e0 := List.eq_nil_of_length_eq_zero h0
    subst e0
    simp only [rowsBy_nil] at l1 ⊢
    simp only [f18, l1, h5, go_sem, reduceIte, reduceCtorEq, Nat.reduceEqDiff, Nat.reduceAdd, List.length_cons, List.length_nil]
  · rw [if_neg h0] at l1
    simp only [f18, l1, h5, go_sem, reduceIte, reduceCtorEq, Nat.reduceEqDiff, Nat.reduceAdd, Nat.reduceBEq, List.length_cons, List.length_nil]
/-- vertices changed one by one -/
def mixF (g : Vx → Vx) (v : List Vx) (i : Nat) : List Vx := (v.take i).map g ++ v.drop i
theorem mixF_at {g : Vx → Vx} {v : List Vx} {i : Nat} (h : i < v.length) : (mixF g v i)[i]? = some v[i] := by
  unfold mixF
  rw [List.getElem?_append_right (by simp; omega), List.length_map, List.length_take, Nat.min_eq_left (by omega), Nat.sub_self, List.getElem?_drop, Nat.add_zero, List.getElem?_eq_getElem h]
theorem mixF_len (g : Vx → Vx) (v : List Vx) (i : Nat) : (mixF g v i).length = v.length := by
  unfold mixF; rw [List.length_append, List.length_map, List.length_take, List.length_drop]; omega
theorem mixF_set {g : Vx → Vx} {v : List Vx} {i : Nat} (h : i < v.length) : (mixF g v i).set i (g v[i]) = mixF g v (i + 1) := by
  unfold mixF
  rw [List.set_append_right _ _ (by rw [List.length_map, List.length_take]; omega), List.length_map, List.length_take, Nat.min_eq_left (by omega), Nat.sub_self, List.drop_eq_getElem_cons h, List.set_cons_zero, List.take_succ_eq_append_getElem h, List.map_append, List.append_assoc]
  rfl
theorem mixF_all (g : Vx → Vx) (v : List Vx) : mixF g v v.length = v.map g := by unfold mixF; rw [List.take_length, List.drop_length, List.append_nil]
theorem mixF_zero (g : Vx → Vx) (v : List Vx) : mixF g v 0 = v := rfl
theorem mixF_row {g : Vx → Vx} {v : List Vx} {i : Nat} (h : i < v.length) : (rowsBy Vx.c (mixF g v i))[i]? = some (Vx.c v[i]) := by
  have hil : i < (mixF g v i).length := by rw [mixF_len]; exact h
  rw [rowsBy_get Vx.c hil]
  have hg := mixF_at (g := g) h
  rw [List.getElem?_eq_getElem hil] at hg
  rw [Option.some.inj hg]
theorem mixF_rowset {g : Vx → Vx} {v : List Vx} {i : Nat} (h : i < v.length) : (rowsBy Vx.c (mixF g v i)).set i (Vx.c (g v[i])) = rowsBy Vx.c (mixF g v (i + 1)) := by rw [rowsBy_set, mixF_set h]
theorem mixF_same {g : Vx → Vx} {v : List Vx} {i : Nat} (h : i < v.length) (e : g v[i] = v[i]) : mixF g v (i + 1) = mixF g v i := by
  rw [← mixF_set h, e]
  refine List.ext_getElem? fun k => ?_
  rw [List.getElem?_set]
  split
  · rename_i hk
    subst hk
    rw [mixF_at h, if_pos (by rw [mixF_len]; exact h)]
  · rfl
end Go.Proofs.Ytpccjkabffpnhaa.Sx
namespace Go.Proofs.Ytpccjkabffpnhaa.Sx
open Go
theorem insR_le {r : List Dart} {z a : Dart} : (insR r z a).length ≤ r.length + 1 := by
  unfold insR
  split
  · rw [turn_length]; omega
  · rw [turn_length, List.length_append, List.length_append, List.length_take, List.length_drop]; simp; omega
theorem insV_le {id : ID} {z a : Dart} {v : Vx} : (insV id z a v).ring.length ≤ v.ring.length + 1 := by
  unfold insV
  split
  · exact insR_le
  · omega
theorem ins_l1 (l m : List Vx) (es f : List Ed) (x y : Dart) (v w : ID) (hm : m.length ≤ 24) (hr : ∀ u ∈ m, u.ring.length ≤ 200) : E (cs F) 0 f8_l1 (⟨(upd (upd (upd (upd (upd (upd (upd (upd (upd Sx.e0 17 (.v (.int .i64 (0)))) 16 (.p 16 0)) 13 (.p 13 0)) 11 (.p 11 0)) 9 (.p 9 0)) 7 (.v (.bool (true)))) 5 (.p 5 0)) 4 (.p 4 0)) 3 (.p 3 0)), (upd (upd (upd (upd (upd (upd (upd (upd (upd Sx.h0 11025 (some (.arr false 53 4 (rowsBy Ed.c f)))) 11024 (some (.arr false 40 5 (rowsBy Vx.c (m))))) 16 (some (.var false [(.s 11024 0 m.length), (.s 11025 0 f.length)]))) 13 (some (.var false [(.v (.int .i64 (8))), (.v (.int .i64 (1048576)))]))) 11 (some (.var false [(.v (.int .i64 (w.s))), (.v (.int .i64 (w.n)))]))) 9 (some (.var false [(.v (.int .i64 (v.s))), (.v (.int .i64 (v.n)))]))) 5 (some (.var false [(.v (.int .i64 (y.e.s))), (.v (.int .i64 (y.e.n))), (.v (.int .i64 (y.d)))]))) 4 (some (.var false [(.v (.int .i64 (x.e.s))), (.v (.int .i64 (x.e.n))), (.v (.int .i64 (x.d)))]))) 3 (some (.var false [(.v (.sl .shared 5 (rowsBy Vx.c l))), (.v (.sl .shared 4 (rowsBy Ed.c es)))])))⟩ : St) = some (.exit 0, (⟨(upd (upd (upd (upd (upd (upd (upd Sx.e0 16 (.p 16 0)) 13 (.p 13 0)) 11 (.p 11 0)) 7 (.v (.bool (true)))) 5 (.p 5 0)) 4 (.p 4 0)) 3 (.p 3 0)), (upd (upd (upd (upd (upd (upd (upd (upd Sx.h0 11025 (some (.arr false 53 4 (rowsBy Ed.c f)))) 11024 (some (.arr false 40 5 (rowsBy Vx.c (m.map (insV v x bigA)))))) 16 (some (.var false [(.s 11024 0 m.length), (.s 11025 0 f.length)]))) 13 (some (.var false [(.v (.int .i64 (8))), (.v (.int .i64 (1048576)))]))) 11 (some (.var false [(.v (.int .i64 (w.s))), (.v (.int .i64 (w.n)))]))) 5 (some (.var false [(.v (.int .i64 (y.e.s))), (.v (.int .i64 (y.e.n))), (.v (.int .i64 (y.d)))]))) 4 (some (.var false [(.v (.int .i64 (x.e.s))), (.v (.int .i64 (x.e.n))), (.v (.int .i64 (x.d)))]))) 3 (some (.var false [(.v (.sl .shared 5 (rowsBy Vx.c l))), (.v (.sl .shared 4 (rowsBy Ed.c es)))])))⟩ : St)) := by
  have hw : m.length ≤ 9223372036854775807 := by omega
  have l1 : E (cs F) 0 f8_l1 (⟨(upd (upd (upd (upd (upd (upd (upd (upd (upd Sx.e0 17 (.v (.int .i64 (0)))) 16 (.p 16 0)) 13 (.p 13 0)) 11 (.p 11 0)) 9 (.p 9 0)) 7 (.v (.bool (true)))) 5 (.p 5 0)) 4 (.p 4 0)) 3 (.p 3 0)), (upd (upd (upd (upd (upd (upd (upd (upd (upd Sx.h0 11025 (some (.arr false 53 4 (rowsBy Ed.c f)))) 11024 (some (.arr false 40 5 (rowsBy Vx.c (mixF (insV v x bigA) m 0))))) 16 (some (.var false [(.s 11024 0 m.length), (.s 11025 0 f.length)]))) 13 (some (.var false [(.v (.int .i64 (8))), (.v (.int .i64 (1048576)))]))) 11 (some (.var false [(.v (.int .i64 (w.s))), (.v (.int .i64 (w.n)))]))) 9 (some (.var false [(.v (.int .i64 (v.s))), (.v (.int .i64 (v.n)))]))) 5 (some (.var false [(.v (.int .i64 (y.e.s))), (.v (.int .i64 (y.e.n))), (.v (.int .i64 (y.d)))]))) 4 (some (.var false [(.v (.int .i64 (x.e.s))), (.v (.int .i64 (x.e.n))), (.v (.int .i64 (x.d)))]))) 3 (some (.var false [(.v (.sl .shared 5 (rowsBy Vx.c l))), (.v (.sl .shared 4 (rowsBy Ed.c es)))])))⟩ : St) = some (.exit 0, (⟨(upd (upd (upd (upd (upd (upd (upd Sx.e0 16 (.p 16 0)) 13 (.p 13 0)) 11 (.p 11 0)) 7 (.v (.bool (true)))) 5 (.p 5 0)) 4 (.p 4 0)) 3 (.p 3 0)), (upd (upd (upd (upd (upd (upd (upd (upd Sx.h0 11025 (some (.arr false 53 4 (rowsBy Ed.c f)))) 11024 (some (.arr false 40 5 (rowsBy Vx.c (m.map (insV v x bigA)))))) 16 (some (.var false [(.s 11024 0 m.length), (.s 11025 0 f.length)]))) 13 (some (.var false [(.v (.int .i64 (8))), (.v (.int .i64 (1048576)))]))) 11 (some (.var false [(.v (.int .i64 (w.s))), (.v (.int .i64 (w.n)))]))) 5 (some (.var false [(.v (.int .i64 (y.e.s))), (.v (.int .i64 (y.e.n))), (.v (.int .i64 (y.d)))]))) 4 (some (.var false [(.v (.int .i64 (x.e.s))), (.v (.int .i64 (x.e.n))), (.v (.int .i64 (x.d)))]))) 3 (some (.var false [(.v (.sl .shared 5 (rowsBy Vx.c l))), (.v (.sl .shared 4 (rowsBy Ed.c es)))])))⟩ : St)) := by
    refine loop_to (b := f8_b1) (fun q0 => (⟨(upd (upd (upd (upd (upd (upd (upd (upd (upd Sx.e0 17 (.v (.int .i64 ((q0 : Int))))) 16 (.p 16 0)) 13 (.p 13 0)) 11 (.p 11 0)) 9 (.p 9 0)) 7 (.v (.bool (true)))) 5 (.p 5 0)) 4 (.p 4 0)) 3 (.p 3 0)), (upd (upd (upd (upd (upd (upd (upd (upd (upd Sx.h0 11025 (some (.arr false 53 4 (rowsBy Ed.c f)))) 11024 (some (.arr false 40 5 (rowsBy Vx.c (mixF (insV v x bigA) m q0))))) 16 (some (.var false [(.s 11024 0 m.length), (.s 11025 0 f.length)]))) 13 (some (.var false [(.v (.int .i64 (8))), (.v (.int .i64 (1048576)))]))) 11 (some (.var false [(.v (.int .i64 (w.s))), (.v (.int .i64 (w.n)))]))) 9 (some (.var false [(.v (.int .i64 (v.s))), (.v (.int .i64 (v.n)))]))) 5 (some (.var false [(.v (.int .i64 (y.e.s))), (.v (.int .i64 (y.e.n))), (.v (.int .i64 (y.d)))]))) 4 (some (.var false [(.v (.int .i64 (x.e.s))), (.v (.int .i64 (x.e.n))), (.v (.int .i64 (x.d)))]))) 3 (some (.var false [(.v (.sl .shared 5 (rowsBy Vx.c l))), (.v (.sl .shared 4 (rowsBy Ed.c es)))])))⟩ : St)) (m.length) ?_ ?_ (by simp)
    · intro i hi
      have hiz : (i : Int) < (m.length : Int) := by omega
      have hg := mixF_row (g := (insV v x bigA)) hi
      have hrl := hr _ (List.getElem_mem hi)
      have ci := i_r03_Insert m[i].ring x ⟨bigI, 0⟩ (by omega)
      by_cases he : m[i].id = v
      · have hs := mixF_rowset (g := (insV v x bigA)) hi
        rw [insV_pos he] at hs
        simp only [Vx.c, reR] at hs
        have hd := dec_t he
        simp only [bigI, bigA] at ci hs hg ⊢
        generalize insR m[i].ring _ _ = r at *
        simp only [f8_b1, hiz, rowsBy_length, hg, Vx.c, ci, hs, hd, wrap_succ hi hw, List.set_cons_zero, List.set_cons_succ, go_sem, reduceIte, Nat.reduceEqDiff, Nat.reduceAdd, Nat.reduceMul, Nat.reduceLeDiff, Nat.reduceBEq, List.length_cons, List.length_nil, not_false_eq_true, Nat.testBit, Nat.reduceShiftRight, Nat.reduceAnd, Nat.reduceBNe]
      · have hd := dec_f he
        rw [mixF_same hi (insV_neg he _ _)]
        simp only [f8_b1, hiz, hg, Vx.c, hd, wrap_succ hi hw, go_sem, reduceIte, Nat.reduceEqDiff, Nat.reduceAdd, Nat.reduceLeDiff, List.length_cons, List.length_nil, Nat.testBit, Nat.reduceShiftRight, Nat.reduceAnd, Nat.reduceBNe]
    · rw [mixF_all]
      simp only [f8_b1, dec_ge (Nat.le_refl m.length), go_sem, reduceIte, Nat.reduceEqDiff, Nat.reduceAdd, Nat.reduceLeDiff, List.length_cons, List.length_nil]
  exact l1
theorem ins_l2 (l m : List Vx) (es f : List Ed) (x y : Dart) (v w : ID) (hm : m.length ≤ 24) (hr : ∀ u ∈ m, u.ring.length ≤ 200) : E (cs F) 0 f8_l2 (⟨(upd (upd (upd (upd (upd (upd (upd (upd Sx.e0 18 (.v (.int .i64 (0)))) 16 (.p 16 0)) 13 (.p 13 0)) 11 (.p 11 0)) 7 (.v (.bool (true)))) 5 (.p 5 0)) 4 (.p 4 0)) 3 (.p 3 0)), (upd (upd (upd (upd (upd (upd (upd (upd Sx.h0 11025 (some (.arr false 53 4 (rowsBy Ed.c f)))) 11024 (some (.arr false 40 5 (rowsBy Vx.c (m))))) 16 (some (.var false [(.s 11024 0 m.length), (.s 11025 0 f.length)]))) 13 (some (.var false [(.v (.int .i64 (8))), (.v (.int .i64 (1048576)))]))) 11 (some (.var false [(.v (.int .i64 (w.s))), (.v (.int .i64 (w.n)))]))) 5 (some (.var false [(.v (.int .i64 (y.e.s))), (.v (.int .i64 (y.e.n))), (.v (.int .i64 (y.d)))]))) 4 (some (.var false [(.v (.int .i64 (x.e.s))), (.v (.int .i64 (x.e.n))), (.v (.int .i64 (x.d)))]))) 3 (some (.var false [(.v (.sl .shared 5 (rowsBy Vx.c l))), (.v (.sl .shared 4 (rowsBy Ed.c es)))])))⟩ : St) = some (.exit 2, (⟨(upd (upd (upd (upd (upd Sx.e0 16 (.p 16 0)) 7 (.v (.bool (true)))) 5 (.p 5 0)) 4 (.p 4 0)) 3 (.p 3 0)), (upd (upd (upd (upd (upd (upd Sx.h0 11025 (some (.arr false 53 4 (rowsBy Ed.c f)))) 11024 (some (.arr false 40 5 (rowsBy Vx.c (m.map (insV w y bigB)))))) 16 (some (.var false [(.s 11024 0 m.length), (.s 11025 0 f.length)]))) 5 (some (.var false [(.v (.int .i64 (y.e.s))), (.v (.int .i64 (y.e.n))), (.v (.int .i64 (y.d)))]))) 4 (some (.var false [(.v (.int .i64 (x.e.s))), (.v (.int .i64 (x.e.n))), (.v (.int .i64 (x.d)))]))) 3 (some (.var false [(.v (.sl .shared 5 (rowsBy Vx.c l))), (.v (.sl .shared 4 (rowsBy Ed.c es)))])))⟩ : St)) := by
  have hw : m.length ≤ 9223372036854775807 := by omega
  have l1 : E (cs F) 0 f8_l2 (⟨(upd (upd (upd (upd (upd (upd (upd (upd Sx.e0 18 (.v (.int .i64 (0)))) 16 (.p 16 0)) 13 (.p 13 0)) 11 (.p 11 0)) 7 (.v (.bool (true)))) 5 (.p 5 0)) 4 (.p 4 0)) 3 (.p 3 0)), (upd (upd (upd (upd (upd (upd (upd (upd Sx.h0 11025 (some (.arr false 53 4 (rowsBy Ed.c f)))) 11024 (some (.arr false 40 5 (rowsBy Vx.c (mixF (insV w y bigB) m 0))))) 16 (some (.var false [(.s 11024 0 m.length), (.s 11025 0 f.length)]))) 13 (some (.var false [(.v (.int .i64 (8))), (.v (.int .i64 (1048576)))]))) 11 (some (.var false [(.v (.int .i64 (w.s))), (.v (.int .i64 (w.n)))]))) 5 (some (.var false [(.v (.int .i64 (y.e.s))), (.v (.int .i64 (y.e.n))), (.v (.int .i64 (y.d)))]))) 4 (some (.var false [(.v (.int .i64 (x.e.s))), (.v (.int .i64 (x.e.n))), (.v (.int .i64 (x.d)))]))) 3 (some (.var false [(.v (.sl .shared 5 (rowsBy Vx.c l))), (.v (.sl .shared 4 (rowsBy Ed.c es)))])))⟩ : St) = some (.exit 2, (⟨(upd (upd (upd (upd (upd Sx.e0 16 (.p 16 0)) 7 (.v (.bool (true)))) 5 (.p 5 0)) 4 (.p 4 0)) 3 (.p 3 0)), (upd (upd (upd (upd (upd (upd Sx.h0 11025 (some (.arr false 53 4 (rowsBy Ed.c f)))) 11024 (some (.arr false 40 5 (rowsBy Vx.c (m.map (insV w y bigB)))))) 16 (some (.var false [(.s 11024 0 m.length), (.s 11025 0 f.length)]))) 5 (some (.var false [(.v (.int .i64 (y.e.s))), (.v (.int .i64 (y.e.n))), (.v (.int .i64 (y.d)))]))) 4 (some (.var false [(.v (.int .i64 (x.e.s))), (.v (.int .i64 (x.e.n))), (.v (.int .i64 (x.d)))]))) 3 (some (.var false [(.v (.sl .shared 5 (rowsBy Vx.c l))), (.v (.sl .shared 4 (rowsBy Ed.c es)))])))⟩ : St)) := by
    refine loop_to (b := f8_b2) (fun q0 => (⟨(upd (upd (upd (upd (upd (upd (upd (upd Sx.e0 18 (.v (.int .i64 ((q0 : Int))))) 16 (.p 16 0)) 13 (.p 13 0)) 11 (.p 11 0)) 7 (.v (.bool (true)))) 5 (.p 5 0)) 4 (.p 4 0)) 3 (.p 3 0)), (upd (upd (upd (upd (upd (upd (upd (upd Sx.h0 11025 (some (.arr false 53 4 (rowsBy Ed.c f)))) 11024 (some (.arr false 40 5 (rowsBy Vx.c (mixF (insV w y bigB) m q0))))) 16 (some (.var false [(.s 11024 0 m.length), (.s 11025 0 f.length)]))) 13 (some (.var false [(.v (.int .i64 (8))), (.v (.int .i64 (1048576)))]))) 11 (some (.var false [(.v (.int .i64 (w.s))), (.v (.int .i64 (w.n)))]))) 5 (some (.var false [(.v (.int .i64 (y.e.s))), (.v (.int .i64 (y.e.n))), (.v (.int .i64 (y.d)))]))) 4 (some (.var false [(.v (.int .i64 (x.e.s))), (.v (.int .i64 (x.e.n))), (.v (.int .i64 (x.d)))]))) 3 (some (.var false [(.v (.sl .shared 5 (rowsBy Vx.c l))), (.v (.sl .shared 4 (rowsBy Ed.c es)))])))⟩ : St)) (m.length) ?_ ?_ (by simp)
    · intro i hi
      have hiz : (i : Int) < (m.length : Int) := by omega
      have hg := mixF_row (g := (insV w y bigB)) hi
      have hrl := hr _ (List.getElem_mem hi)
      have ci := i_r03_Insert m[i].ring y ⟨bigI, 1⟩ (by omega)
      by_cases he : m[i].id = w
      · have hs := mixF_rowset (g := (insV w y bigB)) hi
        rw [insV_pos he] at hs
        simp only [Vx.c, reR] at hs
        have hd := dec_t he
        simp only [bigI, bigB] at ci hs hg ⊢
        generalize insR m[i].ring _ _ = r at *
        simp only [f8_b2, hiz, rowsBy_length, hg, Vx.c, ci, hs, hd, wrap_succ hi hw, List.set_cons_zero, List.set_cons_succ, go_sem, reduceIte, Nat.reduceEqDiff, Nat.reduceAdd, Nat.reduceMul, Nat.reduceLeDiff, Nat.reduceBEq, List.length_cons, List.length_nil, not_false_eq_true, Nat.testBit, Nat.reduceShiftRight, Nat.reduceAnd, Nat.reduceBNe]
      · have hd := dec_f he
        rw [mixF_same hi (insV_neg he _ _)]
        simp only [f8_b2, hiz, hg, Vx.c, hd, wrap_succ hi hw, go_sem, reduceIte, Nat.reduceEqDiff, Nat.reduceAdd, Nat.reduceLeDiff, List.length_cons, List.length_nil, Nat.testBit, Nat.reduceShiftRight, Nat.reduceAnd, Nat.reduceBNe]
    · rw [mixF_all]
      simp only [f8_b2, dec_ge (Nat.le_refl m.length), go_sem, reduceIte, Nat.reduceEqDiff, Nat.reduceAdd, Nat.reduceLeDiff, List.length_cons, List.length_nil]
  exact l1
theorem Dec.on {f : Dart → Dart} {D D' : List Dart} {cs : List (List Dart)} (h : Dec f D cs) (e : ∀ x, x ∈ D ↔ x ∈ D') : Dec f D' cs := ⟨h.cy, h.nd, fun x => by rw [h.mem, e]⟩
theorem facesD_all {l : List Vx} {es : List Ed} (h : WF l es) : Dec (phiD l) (allR l) (facesD l es) := (facesD_dec h).on fun x => (h.mem x).symm
set_option maxHeartbeats 1000000 in
theorem t_sides_main {l : List Vx} {es : List Ed} (h : WF l es) (x y : Dart) (v w : Vx) (hv : atBy l x = some v) (hw : atBy l y = some w) (hb : edBy es bigI = none) (hlt : es.length < 40) (hxy : x ≠ y) (cf : call F 10 [.agg [.sl .shared 5 (rowsBy Vx.c l), .sl .shared 4 (rowsBy Ed.c es)]] = some (.bool true))
    (c1 : call F 28 [.agg [.sl .shared 5 (rowsBy Vx.c l), .sl .shared 4 (rowsBy Ed.c es)], .agg [.int .i64 x.e.s, .int .i64 x.e.n, .int .i64 x.d]] = some (atT (some v)))
    (c2 : call F 28 [.agg [.sl .shared 5 (rowsBy Vx.c l), .sl .shared 4 (rowsBy Ed.c es)], .agg [.int .i64 y.e.s, .int .i64 y.e.n, .int .i64 y.d]] = some (atT (some w)))
    (c3 : call F 29 [.agg [.sl .shared 5 (rowsBy Vx.c l), .sl .shared 4 (rowsBy Ed.c es)], .agg [.int .i64 8, .int .i64 1048576]] = some (edT none)) : call F 8 [.agg [.sl .shared 5 (rowsBy Vx.c l), .sl .shared 4 (rowsBy Ed.c es)], .agg [.int .i64 x.e.s, .int .i64 x.e.n, .int .i64 x.d], .agg [.int .i64 y.e.s, .int .i64 y.e.n, .int .i64 y.d]] = some (.bool true) := by
  have cs := c_shown
  obtain ⟨hvl, hxv⟩ := atBy_some hv
  obtain ⟨hwl, hyw⟩ := atBy_some hw
  have hn : bigI ∉ es.map Ed.id := edBy_none hb
  have hx := mem_allR hvl hxv
  have hy := mem_allR hwl hyw
  have hM := more_wf h hn hlt hvl hwl x y
  have c4 := i_r04_Clone l es (by have := h.lv; omega) (by omega) h.fitsR
  have l1 := ins_l1 l l es (es ++ [bigE]) x y v.id w.id h.lv (fun u hu => by have := h.ring80 hu; omega)
  have l2 := ins_l2 l (l.map (insV v.id x bigA)) es (es ++ [bigE]) x y v.id w.id (by rw [List.length_map]; exact h.lv) (fun u hu => by
    obtain ⟨u0, hu0, rfl⟩ := List.mem_map.1 hu
    have h1 := h.ring80 hu0
    have h2 := insV_le (id := v.id) (z := x) (a := bigA) (v := u0)
    omega)
  rw [show (l.map (insV v.id x bigA)).map (insV w.id y bigB) = moreV l v.id w.id x y from rfl] at l2
  have c5 := c_r01_Other x (h.side hx)
  have c6 := c_r01_Other y (h.side hy)
  have c7 := i_Faces h
  have c8 := i_Faces hM
  have c9 := i_Share h (othD x) (othD y)
  have hft := facesD_fits h
  have hfm := facesD_fits hM
  have hcase := more_faces h hn hlt hvl hwl hxv hyw hxy (facesD_all hM) (facesD_all h)
  rw [trT, if_pos (h.pr.oth x hx)] at c9
  have hlen : (l.map (insV v.id x bigA)).length = l.length := List.length_map _
  have hMl : (moreV l v.id w.id x y).length = l.length := by simp [moreV]
  have hlm : (moreV l v.id w.id x y).take l.length = moreV l v.id w.id x y := List.take_of_length_le (by omega)
  have k1 : decide ((es.length : Int) ≥ 40) = false := dec_f (by omega)
  have k2 := dec_f hxy
  have k3 : (es.length + 1) * 40 ≤ 140737488355328 := by omega
  have k4 : rowsBy Ed.c es ++ [[.int .i64 8, .int .i64 1048576, .str ⟨#[]⟩, .int .i64 0]] = rowsBy Ed.c (es ++ [bigE]) := rowsBy_snoc Ed.c es bigE
  have k5 : (es ++ [bigE]).length = es.length + 1 := by simp
  have k6 : (es ++ [bigE]).take (es.length + 1) = es ++ [bigE] := List.take_of_length_le (by simp)
  rw [hlen] at l2
  rw [k5] at l1 l2
  have w1 : IntKind.i64.wrap (((facesD l es).length : Int) + 1) = ((facesD l es).length : Int) + 1 := wrap64 (by omega) (by omega)
  have w2 : IntKind.i64.wrap (((facesD l es).length : Int) - 1) = ((facesD l es).length : Int) - 1 := wrap64 (by omega) (by omega)
  generalize moreV l v.id w.id x y = M at *
  generalize l.map (insV v.id x bigA) = m1 at *
  generalize es ++ [bigE] = e1 at *
  generalize facesD M e1 = fm at *
  generalize facesD l es = fs at *
  rcases hcase with ⟨hin, hc⟩ | ⟨hin, hc⟩
  · have k7 : decide ((fm.length : Int) = (fs.length : Int) + 1) = true := dec_t (by omega)
    rw [dec_t hin] at c9
    simp only [atT, idT, edT, othD] at c1 c2 c3 c5 c6 c9
    rw [call_code F (show F 8 = some (.code f8) from rfl)]
    simp only [f8, cs, cf, c1, c2, c3, c4, c5, c6, c7, c8, c9, l1, l2, k1, k2, k3, k4, k6, k7, hlm, w1, go_sem, reduceIte, reduceCtorEq, Nat.reduceEqDiff, Nat.reduceAdd, Nat.reduceMul, Nat.reduceLeDiff, List.length_cons, List.length_nil]
  · have k7 : decide ((fm.length : Int) = (fs.length : Int) - 1) = true := dec_t (by omega)
    rw [dec_f hin] at c9
    simp only [atT, idT, edT, othD] at c1 c2 c3 c5 c6 c9
    rw [call_code F (show F 8 = some (.code f8) from rfl)]
    simp only [f8, cs, cf, c1, c2, c3, c4, c5, c6, c7, c8, c9, l1, l2, k1, k2, k3, k4, k6, k7, hlm, w2, go_sem, reduceIte, reduceCtorEq, Nat.reduceEqDiff, Nat.reduceAdd, Nat.reduceMul, Nat.reduceLeDiff, List.length_cons, List.length_nil]
set_option maxHeartbeats 4000000 in
theorem t_sides (l : List Vx) (es : List Ed) (x y : Dart) (hr : FitsR l) (hL : FitsL l es) (hl : Fits l) (he : Fits es) : call F 8 [.agg [.sl .shared 5 (rowsBy Vx.c l), .sl .shared 4 (rowsBy Ed.c es)], .agg [.int .i64 x.e.s, .int .i64 x.e.n, .int .i64 x.d], .agg [.int .i64 y.e.s, .int .i64 y.e.n, .int .i64 y.d]] = some (.bool true) := by
  have cs := c_shown
  have cf := c_formed l es hr hL
  have c1 := i_r04_At l x hl hr (.sl .shared 4 (rowsBy Ed.c es))
  have c2 := i_r04_At l y hl hr (.sl .shared 4 (rowsBy Ed.c es))
  have c3 := i_r04_Edge es bigI he l
  by_cases hf : formC l es = 0
  · have h := (formC_ok.1 hf).1
    rw [dec_t hf] at cf
    have skip : atBy l x = none ∨ atBy l y = none ∨ (∃ e, edBy es bigI = some e) ∨ 40 ≤ es.length ∨ x = y → call F 8 [.agg [.sl .shared 5 (rowsBy Vx.c l), .sl .shared 4 (rowsBy Ed.c es)], .agg [.int .i64 x.e.s, .int .i64 x.e.n, .int .i64 x.d], .agg [.int .i64 y.e.s, .int .i64 y.e.n, .int .i64 y.d]] = some (.bool true) := fun hsk => by
      have k1 : 40 ≤ es.length → decide ((es.length : Int) ≥ 40) = true := fun h => dec_t (by omega)
      have k2 : ¬ 40 ≤ es.length → decide ((es.length : Int) ≥ 40) = false := fun h => dec_f (by omega)
      by_cases hg : 40 ≤ es.length
      · have k := k1 hg
        cases hv : atBy l x <;> cases hw : atBy l y <;> cases hb : edBy es bigI <;> rw [hv] at c1 <;> rw [hw] at c2 <;> rw [hb] at c3 <;> simp only [atT, idT, edT, bigI] at c1 c2 c3
        all_goals rw [call_code F (show F 8 = some (.code f8) from rfl)]
        all_goals simp only [f8, cs, cf, c1, c2, c3, k, go_sem, reduceIte, reduceCtorEq, Nat.reduceEqDiff, Nat.reduceAdd, Nat.reduceMul, Nat.reduceLeDiff, List.length_cons, List.length_nil]
      · have k := k2 hg
        by_cases hxy : x = y
        · have kx := dec_t hxy
          cases hv : atBy l x <;> cases hw : atBy l y <;> cases hb : edBy es bigI <;> rw [hv] at c1 <;> rw [hw] at c2 <;> rw [hb] at c3 <;> simp only [atT, idT, edT, bigI] at c1 c2 c3
          all_goals rw [call_code F (show F 8 = some (.code f8) from rfl)]
          all_goals simp only [f8, cs, cf, c1, c2, c3, k, kx, go_sem, reduceIte, reduceCtorEq, Nat.reduceEqDiff, Nat.reduceAdd, Nat.reduceMul, Nat.reduceLeDiff, List.length_cons, List.length_nil]
        · have kx := dec_f hxy
          cases hv : atBy l x <;> cases hw : atBy l y <;> cases hb : edBy es bigI <;> rw [hv] at c1 <;> rw [hw] at c2 <;> rw [hb] at c3 <;> simp only [atT, idT, edT, bigI] at c1 c2 c3
          case some.some.none =>
            rcases hsk with h1 | h1 | ⟨e, h1⟩ | h1 | h1
            · rw [hv] at h1; cases h1
            · rw [hw] at h1; cases h1
            · rw [hb] at h1; cases h1
            · exact absurd h1 hg
            · exact absurd h1 hxy
          all_goals rw [call_code F (show F 8 = some (.code f8) from rfl)]
          all_goals simp only [f8, cs, cf, c1, c2, c3, go_sem, reduceIte, reduceCtorEq, Nat.reduceEqDiff, Nat.reduceAdd, Nat.reduceMul, Nat.reduceLeDiff, List.length_cons, List.length_nil]
    cases hv : atBy l x with
    | none => exact skip (.inl hv)
    | some v => cases hw : atBy l y with
      | none => exact skip (.inr (.inl hw))
      | some w => cases hb : edBy es bigI with
        | some e => exact skip (.inr (.inr (.inl ⟨e, hb⟩)))
        | none =>
          by_cases hg : 40 ≤ es.length
          · exact skip (.inr (.inr (.inr (.inl hg))))
          · by_cases hxy : x = y
            · exact skip (.inr (.inr (.inr (.inr hxy))))
            · rw [hv] at c1
              rw [hw] at c2
              rw [hb] at c3
              exact t_sides_main h x y v w hv hw hb (by omega) hxy cf c1 c2 c3
  · rw [dec_f hf] at cf
    cases hv : atBy l x <;> cases hw : atBy l y <;> cases hb : edBy es bigI <;> rw [hv] at c1 <;> rw [hw] at c2 <;> rw [hb] at c3 <;> simp only [atT, idT, edT, bigI] at c1 c2 c3
    all_goals rw [call_code F (show F 8 = some (.code f8) from rfl)]
    all_goals simp only [f8, cs, cf, c1, c2, c3, go_sem, reduceIte, reduceCtorEq, Nat.reduceEqDiff, Nat.reduceAdd, Nat.reduceMul, Nat.reduceLeDiff, List.length_cons, List.length_nil]
end Go.Proofs.Ytpccjkabffpnhaa.Sx
namespace Go.Proofs.Ytpccjkabffpnhaa.Sx
open Go Go.RowKit Go.ChangeShapes Go.WideShapes Go.ChangeAt

/-! ### the forms of trees, by types -/
def FsShape (S : TypeId → List TV → Prop) : List Field → List TV → Prop
  | [], ts => ts = []
  | f :: fs, ts => ∃ x r, ts = x ++ r ∧ S f.type x ∧ FsShape S fs r
def ArrShape (S : List TV → Prop) : Nat → List TV → Prop
  | 0, ts => ts = []
  | n + 1, ts => ∃ x r, ts = x ++ r ∧ S x ∧ ArrShape S n r
def Shape (P : Program) : Nat → TypeId → List TV → Prop
  | 0, _, _ => False
  | n + 1, t, ts => match P.underlying t with
    | some .bool => ∃ b, ts = [.bool b]
    | some (.int k) => ∃ m, ts = [.int k m] ∧ k.has m
    | some .string => ∃ s, ts = [.str s] ∧ s.size ≤ maxLen ∧ s.size ≤ reachBytes
    | some (.slice e) => ∃ rows, ts = [.sl .shared (P.cellsOf e) rows] ∧ (rows.length ≤ maxLen ∧ rows.length * P.bytesOf e ≤ reachBytes) ∧ ∀ r ∈ rows, Shape P n e r
    | some (.struct fs) => FsShape (Shape P n) fs.toList ts
    | some (.array k e) => ArrShape (Shape P n e) k ts
    | _ => False

/-- fields one behind the other from off on, up to the end -/
def fsOk (P : Program) (S : TypeId → Bool) : List Field → Nat → Nat → Bool
  | [], off, n => off == n
  | f :: fs, off, n => f.offset == off && S f.type && fsOk P S fs (off + P.cellsOf f.type) n
def tyOk (P : Program) : Nat → TypeId → Bool
  | 0, _ => false
  | n + 1, t => match P.underlying t with
    | some .bool => P.cellsOf t == 1
    | some (.int _) => P.cellsOf t == 1
    | some .string => P.cellsOf t == 1
    | some (.slice e) => P.cellsOf t == 1 && decide (0 < P.cellsOf e) && tyOk P n e
    | some (.struct fs) => fsOk P (tyOk P n) fs.toList 0 (P.cellsOf t)
    | some (.array k e) => P.cellsOf t == k * P.cellsOf e && tyOk P n e
    | _ => false

section
variable {H : Type} {enc : TypeId × Value → H} {P : Program} {w : World} {sp : Nat → Bool} {held : Bool}
abbrev okAll (w : World) : Nat → Prop := fun b => b < w.heap.size

theorem vals_append {ok : Nat → Prop} {one : Bool} : ∀ {ts us : List TV} {vs xs : List Value}, ValsRep w ok one ts vs → ValsRep w ok one us xs → ValsRep w ok one (ts ++ us) (vs ++ xs)
  | [], us, vs, xs, h, h' => by
    simp only [ValsRep] at h
    subst h
    exact h'
  | t :: ts, us, vs, xs, h, h' => by
    simp only [ValsRep] at h
    obtain ⟨v, r, rfl, h1, h2, h3⟩ := h
    simp only [List.cons_append, ValsRep]
    exact ⟨v, r ++ xs, rfl, h1, h2, vals_append h3 h'⟩

theorem cells_rep {a : Addr} {n : Nat} {cs : List Value} (h : w.cells? 0 a n = some cs) (ha : a.spot = none) {ok : Nat → Prop} {ts : List TV} (hv : ValsRep w ok true ts cs) : CellsRep w ok a.block ts a.off := by
  refine CellsRep.of fun j t hj => ?_
  obtain ⟨v, h1, h2, h3⟩ := hv.get j t hj
  refine ⟨v, ?_, h2 rfl, h3⟩
  unfold World.cells? at h
  simp only [Nat.zero_le, if_true] at h
  have hl := mapM_some_length h
  have hlt := (List.getElem?_eq_some_iff.1 h1).1
  have := mapM_some_get h j j (by rw [List.getElem?_range (by simp at hl; omega)])
  rw [h1] at this
  rw [← this]
  congr 1
  obtain ⟨b, o, s⟩ := a
  simp only at ha
  subst ha
  exact (addr_add b o j).symm

theorem cells_len {a : Addr} {n : Nat} {cs : List Value} (h : w.cells? 0 a n = some cs) : cs.length = n := by
  unfold World.cells? at h
  simp only [Nat.zero_le, if_true] at h
  simpa using mapM_some_length h

theorem cells_spot {a : Addr} {n : Nat} {cs : List Value} (h : w.cells? 0 a (n + 1) = some cs) : a.spot = none ∧ a.block < w.heap.size := by
  unfold World.cells? at h
  simp only [Nat.zero_le, if_true] at h
  have hl := mapM_some_length h
  have := mapM_some_get h 0 0 (by simp)
  rw [List.getElem?_eq_getElem (by simp at hl; omega)] at this
  have e : a.add 0 = a := by simp [Addr.add]
  rw [e] at this
  unfold World.cell? at this
  split at this
  · rename_i c _ _ hb
    refine ⟨?_, (Array.getElem?_eq_some_iff.1 hb).1⟩
    split at this
    · cases this
    · rename_i hs
      simpa using hs
  · cases this

theorem list_of {α : Type} {Q : Nat → α → Prop} : ∀ {n : Nat}, (∀ i < n, ∃ r, Q i r) → ∃ rs : List α, rs.length = n ∧ ∀ (i : Nat) (r : α), rs[i]? = some r → Q i r
  | 0, _ => ⟨[], rfl, by simp⟩
  | n + 1, h => by
    obtain ⟨rs, h1, h2⟩ := list_of (n := n) fun i hi => h i (by omega)
    obtain ⟨r, hr⟩ := h n (by omega)
    refine ⟨rs ++ [r], by simp [h1], fun i x hx => ?_⟩
    rcases Nat.lt_or_ge i n with hlt | hge
    · rw [List.getElem?_append_left (by omega)] at hx
      exact h2 i x hx
    · rw [List.getElem?_append_right (by omega)] at hx
      have : i = n := by
        have := (List.getElem?_eq_some_iff.1 hx).1
        simp at this; omega
      subst this
      simp [h1] at hx
      rw [← hx]; exact hr

theorem mem_weightsAll {e : TypeId} : ∀ {ds : List (DataW H)} {d : DataW H}, d ∈ ds → ∀ k ∈ d.weights P e, k ∈ DataW.weightsAll P e ds
  | x :: ds, d, hd, k, hk => by
    simp only [DataW.weightsAll, List.mem_append]
    rcases List.mem_cons.1 hd with rfl | hd
    · exact .inl hk
    · exact .inr (mem_weightsAll hd k hk)
theorem mem_weightsMore : ∀ {ts us : List TypeId} {ds gs : List (DataW H)} {k : Nat}, k ∈ DataW.weightsEach P ts ds → k ∈ DataW.weightsEach P (ts ++ us) (ds ++ gs)
  | t :: ts, us, d :: ds, gs, k, h => by
    simp only [List.cons_append, DataW.weightsEach, List.mem_append] at h ⊢
    rcases h with h | h
    · exact .inl h
    · exact .inr (mem_weightsMore h)
  | [], us, ds, gs, k, h => by cases ds <;> simp [DataW.weightsEach] at h
  | t :: ts, us, [], gs, k, h => by simp [DataW.weightsEach] at h

theorem fields_tree {S : TypeId → Bool} {Sh : TypeId → List TV → Prop} {f : TypeId → List Value → Option (DataW H × List MemPlace)}
    (ih : ∀ t cs y, f t cs = some y → S t = true → (∀ k ∈ y.1.weights P t, k ≤ reachBytes) → ∃ ts, Sh t ts ∧ ValsRep w (okAll w) true ts cs ∧ cs.length = P.cellsOf t) {cs : List Value} :
    ∀ (fs : List Field) (off : Nat) (xs : List (DataW H × List MemPlace)), fsOk P S fs off cs.length = true → (fs.mapM fun g => f g.type ((cs.drop g.offset).take (P.cellsOf g.type))) = some xs →
      (∀ k ∈ DataW.weightsEach P (fs.map (·.type)) (xs.map (·.1)), k ≤ reachBytes) → ∃ ts, FsShape Sh fs ts ∧ ValsRep w (okAll w) true ts (cs.drop off)
  | [], off, xs, ho, h, _ => by
    simp only [fsOk, beq_iff_eq] at ho
    refine ⟨[], rfl, ?_⟩
    simp only [ValsRep]
    rw [ho]; simp
  | g :: fs, off, xs, ho, h, hw => by
    simp only [fsOk, Bool.and_eq_true, beq_iff_eq] at ho
    obtain ⟨⟨h1, h2⟩, h3⟩ := ho
    subst h1
    rw [List.mapM_cons] at h
    simp only [Option.bind_eq_bind, Option.bind_eq_some_iff] at h
    obtain ⟨y, hy, ys, hys, e⟩ := h
    obtain rfl := Option.some.inj e
    simp only [List.map_cons, DataW.weightsEach, List.mem_append] at hw
    obtain ⟨x, k1, k2, k3⟩ := ih _ _ _ hy h2 fun k hk => hw k (.inl hk)
    obtain ⟨r, m1, m2⟩ := fields_tree ih fs (g.offset + P.cellsOf g.type) ys h3 hys fun k hk => hw k (.inr hk)
    refine ⟨x ++ r, ⟨x, r, rfl, k1, m1⟩, ?_⟩
    have := vals_append k2 m2
    rwa [← List.drop_drop, List.take_append_drop] at this

theorem arr_tree {e : TypeId} {S : Bool} {Sh : List TV → Prop} {f : List Value → Option (DataW H × List MemPlace)} {c : Nat}
    (ih : ∀ cs y, f cs = some y → (∀ k ∈ y.1.weights P e, k ≤ reachBytes) → ∃ ts, Sh ts ∧ ValsRep w (okAll w) true ts cs) {cs : List Value} :
    ∀ (k i : Nat) (xs : List (DataW H × List MemPlace)), cs.length = (i + k) * c → ((List.range' i k).mapM fun j => f ((cs.drop (j * c)).take c)) = some xs →
      (∀ n ∈ DataW.weightsAll P e (xs.map (·.1)), n ≤ reachBytes) → ∃ ts, ArrShape Sh k ts ∧ ValsRep w (okAll w) true ts (cs.drop (i * c))
  | 0, i, xs, hl, h, _ => by
    refine ⟨[], rfl, ?_⟩
    simp only [ValsRep]
    rw [List.drop_eq_nil_of_le (by rw [hl]; simp)]
  | k + 1, i, xs, hl, h, hw => by
    rw [List.range'_succ, List.mapM_cons] at h
    simp only [Option.bind_eq_bind, Option.bind_eq_some_iff] at h
    obtain ⟨y, hy, ys, hys, e'⟩ := h
    obtain rfl := Option.some.inj e'
    simp only [List.map_cons, DataW.weightsAll, List.mem_append] at hw
    obtain ⟨x, k1, k2⟩ := ih _ _ hy fun k hk => hw k (.inl hk)
    obtain ⟨r, m1, m2⟩ := arr_tree (e := e) (S := S) ih k (i + 1) ys (by rw [hl]; congr 1; omega) hys fun k hk => hw k (.inr hk)
    refine ⟨x ++ r, ⟨x, r, rfl, k1, m1⟩, ?_⟩
    have := vals_append k2 m2
    rwa [Nat.add_mul, Nat.one_mul, ← List.drop_drop, List.take_append_drop] at this

/-- what is read at a type is a tree of its form -/
theorem tree : ∀ (n m : Nat) (t : TypeId) (cs : List Value) (y : DataW H × List MemPlace), DataW.trod enc P w 0 sp held n t cs = some y → tyOk P m t = true → (∀ k ∈ y.1.weights P t, k ≤ reachBytes) →
    ∃ ts, Shape P m t ts ∧ ValsRep w (okAll w) true ts cs ∧ cs.length = P.cellsOf t
  | 0, m, t, cs, y, h, _, _ => by cases h
  | n + 1, 0, t, cs, y, h, ho, _ => by cases ho
  | n + 1, m + 1, t, cs, y, h, ho, hw => by
    have ih := tree n m
    cases hu : P.underlying t with
    | none => simp only [tyOk, hu] at ho; cases ho
    | some desc =>
      unfold DataW.trod at h
      rw [hu] at h
      cases desc with
      | bool =>
        simp only [tyOk, hu, beq_iff_eq] at ho
        split at h
        case h_1 b e2 =>
          refine ⟨[.bool b], by simp only [Shape, hu]; exact ⟨b, rfl⟩, ?_, ho.symm⟩
          simp only [ValsRep, TRep]
          exact ⟨_, _, rfl, fun _ => rfl, rfl, rfl⟩
        all_goals first | (cases h; done) | (rename_i e; cases e; done) | (simp at h; done) | (simp_all; done)
      | int k =>
        simp only [tyOk, hu, beq_iff_eq] at ho
        split at h
        case h_2 k0 k1 v e2 =>
          obtain rfl : k0 = k := by simpa using e2.symm
          split at h
          · rename_i hh
            obtain ⟨e3, hwf⟩ := hh
            rw [e3]
            refine ⟨[.int k0 v], by simp only [Shape, hu]; exact ⟨v, rfl, by simpa [Lit.wf, IntKind.has] using hwf⟩, ?_, ho.symm⟩
            simp only [ValsRep, TRep]
            exact ⟨_, _, rfl, fun _ => rfl, rfl, rfl⟩
          · cases h
        all_goals first | (cases h; done) | (rename_i e; cases e; done) | (simp at h; done) | (simp_all; done)
      | string =>
        simp only [tyOk, hu, beq_iff_eq] at ho
        split at h
        case h_4 z e2 =>
          split at h
          · rename_i hh
            obtain rfl := Option.some.inj h
            have hz : z.size ≤ reachBytes := by
              have := hw z.data.toList.length (by simp [DataW.weights])
              rwa [Array.length_toList] at this
            refine ⟨[.str z], by simp only [Shape, hu]; exact ⟨z, rfl, hh, hz⟩, ?_, ho.symm⟩
            simp only [ValsRep, TRep]
            exact ⟨_, _, rfl, fun _ => rfl, rfl, rfl⟩
          · cases h
        all_goals first | (cases h; done) | (rename_i e; cases e; done) | (simp at h; done) | (simp_all; done)
      | slice e =>
        simp only [tyOk, hu, Bool.and_eq_true, beq_iff_eq, decide_eq_true_eq] at ho
        obtain ⟨⟨ho1, ho2⟩, ho3⟩ := ho
        split at h
        case h_7 e2 =>
          refine ⟨[.sl .shared (P.cellsOf e) []], by simp only [Shape, hu]; exact ⟨[], rfl, ⟨by simp, by simp⟩, by simp⟩, ?_, ho1.symm⟩
          simp only [ValsRep, TRep]
          exact ⟨_, _, rfl, fun _ => rfl, ⟨none, 0, 0, rfl, rfl, Nat.le_refl _, Nat.zero_le _, by simp, .inl trivial⟩, rfl⟩
        case h_8 e0 a len cap e2 =>
          obtain rfl : e0 = e := by simpa using e2.symm
          simp only at h
          split at h
          · rename_i hh
            obtain ⟨_, hle, hcap⟩ := hh
            simp only [Option.bind_eq_some_iff] at h
            obtain ⟨elems, hel, hy⟩ := h
            simp only [Option.map_eq_some_iff] at hy
            obtain ⟨rest, _, rfl⟩ := hy
            simp only [DataW.weights, hu, List.mem_cons, List.mem_append] at hw
            have hlen := mapM_some_length hel
            simp only [List.length_range] at hlen
            have hat : ∀ i < len, ∃ cs, w.cells? 0 (a.add (i * P.cellsOf e0)) (P.cellsOf e0) = some cs ∧ ∃ y, DataW.trod enc P w 0 sp held n e0 cs = some y ∧ y ∈ elems := fun i hi => by
              have hl := mapM_some_length hel
              simp only [List.length_range] at hl
              have := mapM_some_get hel i i (by rw [List.getElem?_range hi])
              rw [List.getElem?_eq_getElem (by omega)] at this
              simp only [Option.bind_eq_some_iff] at this
              obtain ⟨cs, h1, h2⟩ := this
              exact ⟨cs, h1, _, h2, List.getElem_mem _⟩
            have hsp : 0 < len → a.spot = none ∧ a.block < w.heap.size := fun hlen => by
              obtain ⟨cs, h1, _⟩ := hat 0 hlen
              have e1 : a.add (0 * P.cellsOf e0) = a := by simp [Addr.add]
              rw [e1] at h1
              obtain ⟨c, hc⟩ : ∃ c, P.cellsOf e0 = c + 1 := ⟨P.cellsOf e0 - 1, by omega⟩
              rw [hc] at h1
              exact cells_spot h1
            obtain ⟨rows, hr1, hr2⟩ := list_of (Q := fun i r => Shape P m e0 r ∧ r.length = P.cellsOf e0 ∧ CellsRep w (okAll w) a.block r (a.off + i * P.cellsOf e0)) fun i hi => by
              obtain ⟨cs, h1, y, h2, h2m⟩ := hat i hi
              obtain ⟨ts, k1, k2, k3⟩ := ih e0 cs y h2 ho3 fun k hk => hw k (.inr (.inl (mem_weightsAll (List.mem_map.2 ⟨y, h2m, rfl⟩) k hk)))
              obtain ⟨s1, s2⟩ := hsp (by omega)
              refine ⟨ts, k1, by rw [← k2.length, k3], ?_⟩
              have e1 : a.add (i * P.cellsOf e0) = ⟨a.block, a.off + i * P.cellsOf e0, none⟩ := by
                obtain ⟨b, o, s⟩ := a
                simp only at s1
                subst s1
                exact addr_add b o _
              rw [e1] at h1
              exact cells_rep h1 rfl k2
            refine ⟨[.sl .shared (P.cellsOf e0) rows], ?_, ?_, ho1.symm⟩
            · simp only [Shape, hu]
              refine ⟨rows, rfl, ⟨by omega, ?_⟩, fun r hr => ?_⟩
              · have := hw _ (.inl rfl)
                rw [List.length_map, List.length_map, hlen] at this
                rw [hr1]
                exact Nat.le_trans (Nat.mul_le_mul_right _ (Nat.le_add_right _ _)) this
              obtain ⟨i, hi⟩ := List.getElem?_of_mem hr
              exact (hr2 i r hi).1
            · simp only [ValsRep, TRep]
              refine ⟨_, _, rfl, fun _ => rfl, ⟨some a, len, cap, rfl, hr1.symm, hle, hcap, by simp, ?_⟩, rfl⟩
              by_cases hz : len = 0
              · left; exact List.eq_nil_of_length_eq_zero (by omega)
              · right
                obtain ⟨s1, s2⟩ := hsp (by omega)
                refine ⟨a.block, a.off, ?_, s2, RowsRep.of fun i r hi => (hr2 i r hi).2⟩
                obtain ⟨b, o, s⟩ := a
                simp only at s1
                subst s1
                rfl
          · cases h
        all_goals first | (cases h; done) | (rename_i e; cases e; done) | (simp at h; done) | (simp_all; done)
      | struct fs =>
        simp only [tyOk, hu] at ho
        split at h
        case h_9 fs0 e2 =>
          obtain rfl : fs0 = fs := by simpa using e2.symm
          split at h
          · rename_i hl
            rw [← hl] at ho
            simp only [Option.map_eq_some_iff] at h
            obtain ⟨xs, hxs, rfl⟩ := h
            simp only [DataW.weights, hu] at hw
            obtain ⟨ts, k1, k2⟩ := fields_tree (P := P) (w := w) (f := DataW.trod enc P w 0 sp held n) (S := tyOk P m) (Sh := Shape P m) (fun t cs y h1 h2 h3 => ih t cs y h1 h2 h3) fs0.toList 0 xs ho hxs hw
            exact ⟨ts, by simp only [Shape, hu]; exact k1, by simpa using k2, hl⟩
          · cases h
        all_goals first | (cases h; done) | (rename_i e; cases e; done) | (simp at h; done) | (simp_all; done)
      | array k e =>
        simp only [tyOk, hu, Bool.and_eq_true, beq_iff_eq] at ho
        split at h
        case h_10 k0 e0 e2 =>
          obtain ⟨rfl, rfl⟩ : k0 = k ∧ e0 = e := by simpa [eq_comm] using e2
          split at h
          · rename_i hl
            simp only [Option.map_eq_some_iff] at h
            obtain ⟨xs, hxs, rfl⟩ := h
            simp only [DataW.weights, hu] at hw
            rw [List.range_eq_range'] at hxs
            obtain ⟨ts, k1, k2⟩ := arr_tree (P := P) (w := w) (e := e0) (S := true) (c := P.cellsOf e0) (f := DataW.trod enc P w 0 sp held n e0) (Sh := Shape P m e0) (fun cs y h1 h3 => by
              obtain ⟨ts, q1, q2, _⟩ := ih e0 cs y h1 ho.2 h3
              exact ⟨ts, q1, q2⟩) k0 0 xs (by rw [hl, ho.1]; simp) hxs hw
            exact ⟨ts, by simp only [Shape, hu]; exact k1, by simpa using k2, hl⟩
          · cases h
        all_goals first | (cases h; done) | (rename_i e; cases e; done) | (simp at h; done) | (simp_all; done)
      | _ => simp only [tyOk, hu] at ho; cases ho

def ArgShape (P : Program) (m : Nat) (t : TypeId) (a : TV) : Prop := if isAggB P t = true then ∃ ts, a = .agg ts ∧ Shape P m t ts else Shape P m t [a]
def ArgsShape (P : Program) (m : Nat) : List TypeId → List TV → Prop
  | [], xs => xs = []
  | t :: ts, xs => ∃ a r, xs = a :: r ∧ ArgShape P m t a ∧ ArgsShape P m ts r

theorem arg_tree {m : Nat} {t : TypeId} {v : Value} {d : DataW H} {ps : List MemPlace} {r : Reach} {b0 : Nat} (h : DataW.Trod enc P w 0 sp held t v d ps) (hv : Value.okWide P w r b0 t v) (ho : tyOk P m t = true) (hw : ∀ k ∈ d.weights P t, k ≤ reachBytes) :
    ∃ a, ArgShape P m t a ∧ TRep w (okAll w) a v := by
  obtain ⟨n, h⟩ := h
  obtain ⟨ts, h1, h2, h3⟩ := tree n m t _ _ h ho hw
  unfold ArgShape
  cases ha : isAggB P t with
  | true =>
    have : ∃ cs, v = .agg cs := by
      unfold isAggB at ha
      unfold Value.okWide at hv
      split at ha
      · rename_i hu; rw [hu] at hv; obtain ⟨cs, e, _⟩ := hv; exact ⟨cs, e⟩
      · rename_i hu; rw [hu] at hv; obtain ⟨cs, e, _⟩ := hv; exact ⟨cs, e⟩
      · cases ha
    obtain ⟨cs, rfl⟩ := this
    refine ⟨.agg ts, by rw [if_pos rfl]; exact ⟨ts, rfl, h1⟩, ?_⟩
    simp only [TRep]
    exact ⟨cs, rfl, h2⟩
  | false =>
    have hnot : ∀ cs, v ≠ .agg cs := by
      intro cs e
      subst e
      unfold isAggB at ha
      unfold Value.okWide Cell.okWide Cell.ok at hv
      cases m with
      | zero => cases ho
      | succ m =>
        unfold tyOk at ho
        cases hu : P.underlying t with
        | none => rw [hu] at ho; cases ho
        | some desc => cases desc <;> simp [hu] at hv ho ha
    have hc : v.cells.toList = [v] := by
      cases v with
      | agg cs => exact absurd rfl (hnot cs)
      | _ => rfl
    rw [hc] at h2
    match ts, h1, h2 with
    | [], _, h2 => simp only [ValsRep] at h2; cases h2
    | [x], h1, h2 =>
      simp only [ValsRep] at h2
      obtain ⟨u, r, e, _, k, _⟩ := h2
      obtain ⟨rfl, _⟩ := List.cons.inj e
      exact ⟨x, by simpa using h1, k⟩
    | x :: y :: ts, _, h2 =>
      have := h2.length
      simp at this

theorem args_tree {m : Nat} {r : Reach} {b0 : Nat} : ∀ {ts : List TypeId} {vs : List Value} {ds : List (DataW H)} {ps : List MemPlace}, DataW.TrodAll enc P w 0 sp held ts vs ds ps →
    (∀ (j : Nat) t v, ts[j]? = some t → vs[j]? = some v → Value.okWide P w r b0 t v) → (∀ t ∈ ts, tyOk P m t = true) → (∀ k ∈ DataW.weightsEach P ts ds, k ≤ reachBytes) → ∃ xs, ArgsShape P m ts xs ∧ ValsRep w (okAll w) false xs vs
  | [], vs, ds, ps, h, _, _, _ => by
    obtain ⟨rfl, rfl, rfl⟩ := trodAll_nil h
    exact ⟨[], rfl, by simp only [ValsRep]⟩
  | t :: ts, vs, ds, ps, h, hv, ho, hw => by
    obtain ⟨v, vs', d, ds', p, q, rfl, rfl, rfl, h1, h2⟩ := trodAll_cons h
    simp only [DataW.weightsEach, List.mem_append] at hw
    obtain ⟨a, k1, k2⟩ := arg_tree h1 (hv 0 t v rfl rfl) (ho t (by simp)) fun k hk => hw k (.inl hk)
    obtain ⟨xs, m1, m2⟩ := args_tree h2 (fun j t' v' e1 e2 => hv (j + 1) t' v' (by simpa using e1) (by simpa using e2)) (fun t' ht => ho t' (by simp [ht])) fun k hk => hw k (.inr hk)
    refine ⟨a :: xs, ⟨a, xs, rfl, k1, m1⟩, ?_⟩
    simp only [ValsRep]
    exact ⟨v, vs', rfl, by simp, k2, m2⟩

theorem trodAll_below (hl : laidOutB P = true) {W W' : World} (hb : Below W.heap.size W W') : ∀ {ts : List TypeId} {vs : List Value} {ds : List (DataW H)} {ps : List MemPlace}, DataW.TrodAll enc P W 0 (fun _ => true) true ts vs ds ps →
    (∀ t ∈ ts, P.readableRec t = true ∧ t < P.types.size) → (∀ x ∈ ps, x.block < W.heap.size) → DataW.TrodAll enc P W' 0 (fun b => decide (b < W.heap.size)) true ts vs ds ps
  | [], vs, ds, ps, h, _, _ => by
    obtain ⟨rfl, rfl, rfl⟩ := trodAll_nil h
    exact rfl
  | t :: ts, vs, ds, ps, h, ho, hlt => by
    obtain ⟨v, vs', d, ds', p, q, rfl, rfl, rfl, h1, h2⟩ := trodAll_cons h
    exact ⟨p, q, Below.trod hl (ho t (by simp)).1 (ho t (by simp)).2 h1 hb (fun x hx => hlt x (by simp [hx])), trodAll_below hl hb h2 (fun t' ht => ho t' (by simp [ht])) (fun x hx => hlt x (by simp [hx])), rfl⟩

theorem trodAll_length : ∀ {ts : List TypeId} {vs : List Value} {ds : List (DataW H)} {ps : List MemPlace}, DataW.TrodAll enc P w 0 sp held ts vs ds ps → ds.length = ts.length
  | [], vs, ds, ps, h => by obtain ⟨rfl, rfl, rfl⟩ := trodAll_nil h; rfl
  | t :: ts, vs, ds, ps, h => by
    obtain ⟨v, vs', d, ds', p, q, rfl, rfl, rfl, h1, h2⟩ := trodAll_cons h
    simp [trodAll_length h2]
end

/-- a law: whatever it is called with, true; what it is called with reads xs it did -/
theorem law_lifted {H : Type} {enc : TypeId × Value → H} {C : Checked} {os : Os} (own : ownKnob C.prog.godebug = none) (started : os.Started) {f : FuncId} {fn : Func} (noInit : C.prog.inits.idxOf? f = none) (hf : C.prog.funcs[f]? = some fn)
    {s : ChangeSpec} (hvars : s.vars = []) {apart fresh handsOn : Bool} (hlaid : laidOutB C.prog = true) {m : Nat} (htys : ∀ t ∈ fn.params.toList, tyOk C.prog m t = true ∧ C.prog.readableRec t = true ∧ t < C.prog.types.size)
    {tb : TypeId} (hres : fn.resultTypes = #[tb]) (htb : C.prog.underlying tb = some .bool)
    (witness : ∃ (w : World) (tape : Tape) (i : Input), w.os = os ∧ (w.forCall tape i).Shaped C.prog ∧ i.vars = [] ∧ Input.okWide C.prog (w.forCall tape i) .any w.heap.size f i ∧
      s.pre6 enc C.prog fn [] apart (w.forCall tape i).memory i.args ∧ ({} : Assume).holds C.prog (lone (Frame.enter C.prog f i.args .normal) [] (w.forCall tape i)))
    (hs : ∀ ds : List (DataW H), ds.length = fn.params.size → s.fn H ds = { results := [.lit (.bool true)], args := ds })
    (hsound : ∀ args, ArgsShape C.prog m fn.params.toList args → Sound C.prog f args (.bool true)) :
    ReturnsInHanded {} C os f .any (s.pre6 enc C.prog fn [] apart) (s.post enc C.prog fn apart fresh handsOn false) := by
  refine returnsInHanded_of_change_sized own started noInit hf witness ?_
  intro W base args ds gs before hval hW _ hreach _
  have hlt := hW.lt
  have hW' := hW
  obtain ⟨p, q, hA, hV, rfl, _, _⟩ := hW'
  rw [hvars] at hV
  obtain ⟨rfl, rfl⟩ := trodVars_none hV
  obtain ⟨xs, h1, h2⟩ := args_tree (m := m) hA (fun j t v e1 e2 => hval j t v (by simpa using e1) (by simpa using e2)) (fun t ht => (htys t ht).1) fun k hk => by
    have := List.all_eq_true.1 hreach k (mem_weightsMore hk)
    simpa using this
  obtain ⟨_, hc⟩ := hsound xs h1
  have := hc W (okAll W) args.toList (fun b hb => hb) h2
  rw [Array.toArray_toList] at this
  refine this.mono fun e W' ⟨v, he, hb, ok1, bs, _, _, hr⟩ => ⟨v, he, ?_⟩
  obtain ⟨_, hr⟩ := hr
  simp only [TRep] at hr
  subst hr
  have hds := trodAll_length hA
  refine ⟨ds, [], _, [], p, [], hW, ?_, ?_, ?_, hb.frame _, fun h => by cases h⟩
  · rw [List.append_nil, hs ds (by simpa using hds), hres]
    exact ⟨[], [], shut_bool htb true, rfl, rfl⟩
  · rw [List.append_nil, hs ds (by simpa using hds)]
    exact trodAll_below hlaid hb hA (fun t ht => (htys t ht).2) (fun x hx => hlt x (by simp [hx]))
  · rw [List.append_nil, hs ds (by simpa using hds), hvars]
    exact rfl
end Go.Proofs.Ytpccjkabffpnhaa.Sx
namespace Go.Proofs.Ytpccjkabffpnhaa.Sx
open Go Go.RowKit Go.ChangeShapes Go.WideShapes Go.ChangeAt
theorem agg_of {t : TypeId} {n : Nat} {a : TV} (hagg : isAggB Try.prog t = true) (h : ArgShape Try.prog n t a) : ∃ ts, a = .agg ts ∧ Shape Try.prog n t ts := by
  unfold ArgShape at h; rw [if_pos hagg] at h; exact h
theorem plain_of {t : TypeId} {n : Nat} {a : TV} (hagg : isAggB Try.prog t = false) (h : ArgShape Try.prog n t a) : Shape Try.prog n t [a] := by
  unfold ArgShape at h; rw [if_neg (by rw [hagg]; simp)] at h; exact h
theorem own : ownKnob Try.prog.godebug = none := by kernel_rfl
theorem laidOut : laidOutB Try.prog = true := by kernel_rfl
/-- rows that are each of a form are a list's -/
theorem rows_list {α : Type} {c : α → List TV} {S : List TV → Prop} {Q : α → Prop} (h : ∀ ts, S ts → ∃ x, ts = c x ∧ Q x) : ∀ {rows : List (List TV)}, (∀ r ∈ rows, S r) → ∃ l : List α, rows = rowsBy c l ∧ ∀ x ∈ l, Q x
  | [], _ => ⟨[], rfl, by simp⟩
  | r :: rows, hr => by
    obtain ⟨x, rfl, hx⟩ := h r (hr r (by simp))
    obtain ⟨l, rfl, hl⟩ := rows_list h (rows := rows) fun q hq => hr q (by simp [hq])
    refine ⟨x :: l, rfl, fun y hy => ?_⟩
    rcases List.mem_cons.1 hy with rfl | hy
    · exact hx
    · exact hl y hy
theorem shInt {n : Nat} {ts : List TV} (h : Shape Try.prog (n + 1) 3 ts) : ∃ a, ts = [.int .i64 a] ∧ IntKind.i64.has a := by
  unfold Shape at h; rw [Try.underlying3] at h; exact h
theorem shBool {n : Nat} {ts : List TV} (h : Shape Try.prog (n + 1) 4 ts) : ∃ b, ts = [.bool b] := by
  unfold Shape at h; rw [Try.underlying4] at h; exact h
theorem shStr {n : Nat} {ts : List TV} (h : Shape Try.prog (n + 1) 9 ts) : ∃ a : ByteArray, ts = [.str a] ∧ a.size ≤ 140737488351232 := by
  unfold Shape at h; rw [Try.underlying9] at h
  obtain ⟨a, rfl, _, ha⟩ := h; exact ⟨a, rfl, ha⟩
theorem shID {n : Nat} {ts : List TV} (h : Shape Try.prog (n + 2) 27 ts) : ∃ x : ID, ts = ID.c x := by
  unfold Shape at h; rw [Try.underlying27] at h
  obtain ⟨x, r, rfl, h1, y, r', rfl, h2, rfl⟩ := h
  obtain ⟨a, rfl, ha⟩ := shInt h1
  obtain ⟨b, rfl, hb⟩ := shInt h2
  exact ⟨⟨a, b⟩, rfl⟩
theorem shDart {n : Nat} {ts : List TV} (h : Shape Try.prog (n + 3) 29 ts) : ∃ x : Dart, ts = Dart.c x := by
  unfold Shape at h; rw [Try.underlying29] at h
  obtain ⟨x, r, rfl, h1, y, r', rfl, h2, rfl⟩ := h
  obtain ⟨e, rfl⟩ := shID h1
  obtain ⟨c, rfl, _⟩ := shInt h2
  exact ⟨⟨e, c⟩, rfl⟩
theorem shDarts {n : Nat} {ts : List TV} (h : Shape Try.prog (n + 4) 35 ts) : ∃ l : List Dart, ts = [.sl .shared 3 (rowsBy Dart.c l)] ∧ Fits l := by
  unfold Shape at h; rw [Try.underlying35] at h
  obtain ⟨rows, rfl, ⟨_, hb⟩, hr⟩ := h
  obtain ⟨l, rfl, _⟩ := rows_list (c := Dart.c) (Q := fun _ => True) (fun ts h => (shDart h).imp fun _ h => ⟨h, trivial⟩) hr
  refine ⟨l, rfl, Fits.of ?_⟩
  rw [rowsBy_length, show Try.prog.bytesOf 29 = 24 by kernel_rfl] at hb
  simp only [reachBytes] at hb
  omega
def VxOk (v : Vx) : Prop := Fits v.ring ∧ v.label.size ≤ 9223372036854775807
def EdOk (v : Ed) : Prop := v.label.size ≤ 9223372036854775807
theorem shVx {n : Nat} {ts : List TV} (h : Shape Try.prog (n + 5) 40 ts) : ∃ x : Vx, ts = Vx.c x ∧ VxOk x := by
  unfold Shape at h; rw [Try.underlying40] at h
  obtain ⟨x, r, rfl, h1, y, r', rfl, h2, z, r'', rfl, h3, u, r3, rfl, h4, rfl⟩ := h
  obtain ⟨e, rfl⟩ := shID h1
  obtain ⟨l, rfl, hl⟩ := shDarts h2
  obtain ⟨s, rfl, hs⟩ := shStr h3
  obtain ⟨c, rfl, _⟩ := shInt h4
  exact ⟨⟨e, l, s, c⟩, rfl, hl, Nat.le_trans hs (by decide)⟩
theorem shEd {n : Nat} {ts : List TV} (h : Shape Try.prog (n + 3) 53 ts) : ∃ x : Ed, ts = Ed.c x ∧ EdOk x := by
  unfold Shape at h; rw [Try.underlying53] at h
  obtain ⟨x, r, rfl, h1, z, r'', rfl, h3, u, r3, rfl, h4, rfl⟩ := h
  obtain ⟨e, rfl⟩ := shID h1
  obtain ⟨s, rfl, hs⟩ := shStr h3
  obtain ⟨c, rfl, _⟩ := shInt h4
  exact ⟨⟨e, s, c⟩, rfl, Nat.le_trans hs (by decide)⟩
theorem shVxs {n : Nat} {ts : List TV} (h : Shape Try.prog (n + 6) 22 ts) : ∃ l : List Vx, ts = [.sl .shared 5 (rowsBy Vx.c l)] ∧ ∀ v ∈ l, VxOk v := by
  unfold Shape at h; rw [Try.underlying22] at h
  obtain ⟨rows, rfl, _, hr⟩ := h
  obtain ⟨l, rfl, hl⟩ := rows_list (c := Vx.c) (fun ts h => shVx h) hr
  exact ⟨l, rfl, hl⟩
theorem shEds {n : Nat} {ts : List TV} (h : Shape Try.prog (n + 4) 23 ts) : ∃ l : List Ed, ts = [.sl .shared 4 (rowsBy Ed.c l)] ∧ ∀ v ∈ l, EdOk v := by
  unfold Shape at h; rw [Try.underlying23] at h
  obtain ⟨rows, rfl, _, hr⟩ := h
  obtain ⟨l, rfl, hl⟩ := rows_list (c := Ed.c) (fun ts h => shEd h) hr
  exact ⟨l, rfl, hl⟩
theorem shVxsF {n : Nat} {ts : List TV} (h : Shape Try.prog (n + 6) 22 ts) : ∃ l : List Vx, ts = [.sl .shared 5 (rowsBy Vx.c l)] ∧ (∀ v ∈ l, VxOk v) ∧ Fits l := by
  unfold Shape at h; rw [Try.underlying22] at h
  obtain ⟨rows, rfl, ⟨_, hb⟩, hr⟩ := h
  obtain ⟨l, rfl, hl⟩ := rows_list (c := Vx.c) (fun ts h => shVx h) hr
  refine ⟨l, rfl, hl, Fits.of ?_⟩
  rw [rowsBy_length, show Try.prog.bytesOf 40 = 64 by kernel_rfl] at hb
  simp only [reachBytes] at hb
  omega
theorem shEdsF {n : Nat} {ts : List TV} (h : Shape Try.prog (n + 4) 23 ts) : ∃ l : List Ed, ts = [.sl .shared 4 (rowsBy Ed.c l)] ∧ (∀ v ∈ l, EdOk v) ∧ Fits l := by
  unfold Shape at h; rw [Try.underlying23] at h
  obtain ⟨rows, rfl, ⟨_, hb⟩, hr⟩ := h
  obtain ⟨l, rfl, hl⟩ := rows_list (c := Ed.c) (fun ts h => shEd h) hr
  refine ⟨l, rfl, hl, Fits.of ?_⟩
  rw [rowsBy_length, show Try.prog.bytesOf 53 = 40 by kernel_rfl] at hb
  simp only [reachBytes] at hb
  omega
theorem shDiagramF {n : Nat} {ts : List TV} (h : Shape Try.prog (n + 7) 25 ts) : ∃ (vs : List Vx) (es : List Ed), ts = [.sl .shared 5 (rowsBy Vx.c vs), .sl .shared 4 (rowsBy Ed.c es)] ∧ FitsR vs ∧ FitsL vs es ∧ Fits vs ∧ Fits es := by
  unfold Shape at h; rw [Try.underlying25] at h
  obtain ⟨x, r, rfl, h1, z, r'', rfl, h3, rfl⟩ := h
  obtain ⟨d, rfl, hd, hf⟩ := shVxsF h1
  obtain ⟨e, rfl, he, hg⟩ := shEdsF h3
  exact ⟨d, e, rfl, fun v hv => (hd v hv).1, ⟨fun v hv => (hd v hv).2, he⟩, hf, hg⟩
theorem shDiagram {n : Nat} {ts : List TV} (h : Shape Try.prog (n + 7) 25 ts) : ∃ (vs : List Vx) (es : List Ed), ts = [.sl .shared 5 (rowsBy Vx.c vs), .sl .shared 4 (rowsBy Ed.c es)] ∧ FitsR vs ∧ FitsL vs es := by
  unfold Shape at h; rw [Try.underlying25] at h
  obtain ⟨x, r, rfl, h1, z, r'', rfl, h3, rfl⟩ := h
  obtain ⟨d, rfl, hd⟩ := shVxs h1
  obtain ⟨e, rfl, he⟩ := shEds h3
  exact ⟨d, e, rfl, fun v hv => (hd v hv).1, fun v hv => (hd v hv).2, he⟩
end Go.Proofs.Ytpccjkabffpnhaa.Sx
