/- A region whose order is drawn: in every order that may be drawn it comes to the same. -/
import Derived.Test.YtehcfmohjcjmpaaSxLoc2
namespace Go.Proofs.Ytehcfmohjcjmpaa.Sx
open Go Go.RowKit

section
variable {C : FuncId → List TV → Option TV} {lo : Nat} {st st' st1 : St}

theorem loc_oper {o : IOper} (h : evOper C lo st o = some st1) (he : ∀ i ∈ o.reads, st'.env i = st.env i) (hrd : ∀ i ∈ (fpOper C lo st o).rd, st'.hp i = st.hp i) (hw : ∀ i ∈ (fpOper C lo st o).wr, st'.hp i = st.hp i) :
    evOper C lo st' o = some (patch st' st1 o.op.dst (fpOper C lo st o).wr) ∧ fpOper C lo st' o = fpOper C lo st o := by
  have hskip : ∀ {d : Option Nat}, skipK st d = some st1 → skipK st' d = some (patch st' st1 d []) := fun {d} h => by
    cases d with
    | none =>
      obtain rfl := Option.some.inj h
      refine congrArg some (St.ext' (fun i => ?_) fun i => ?_)
      · simp [patch]
      · simp [patch, patchH]
    | some d =>
      obtain rfl := Option.some.inj h
      exact congrArg some (set_loc (by simp))
  obtain ⟨op, gd⟩ := o
  cases gd with
  | none => exact loc_op h he hrd hw
  | some gd =>
    obtain ⟨j, want⟩ := gd
    simp only [evOper, fpOper] at h hrd hw ⊢
    rw [he j (by simp [IOper.reads])]
    have he' : ∀ i ∈ op.reads, st'.env i = st.env i := fun i hi => he i (by simp [IOper.reads, hi])
    unfold guardK at h ⊢
    split at h
    · rename_i b hb
      rw [hb] at hrd hw ⊢
      simp only [fpG] at hrd hw ⊢
      split at h
      · rename_i e
        simp only [e, if_true] at hrd hw ⊢
        exact loc_op h he' hrd hw
      · rename_i e
        simp only [e, if_false] at hrd hw ⊢
        exact ⟨hskip h, trivial⟩
    · rename_i hb
      rw [hb] at hrd hw ⊢
      exact ⟨hskip h, rfl⟩
    · cases h

theorem meets_false : ∀ {a b : List Nat}, meets a b = false → ∀ i ∈ a, i ∉ b
  | [], _, _, i, hi => by simp at hi
  | x :: a, b, h, i, hi => by
    simp only [meets, Bool.or_eq_false_iff] at h
    rcases List.mem_cons.1 hi with rfl | hi
    · simpa using h.1
    · exact meets_false h.2 i hi
theorem apart_ok {a b : Fp} (h : apart a b = true) : (∀ i ∈ a.wr, i ∉ b.rd) ∧ (∀ i ∈ a.wr, i ∉ b.wr) ∧ (∀ i ∈ b.wr, i ∉ a.rd) := by
  simp only [apart, Bool.and_eq_true, Bool.not_eq_true'] at h
  exact ⟨meets_false h.1.1, meets_false h.1.2, meets_false h.2⟩
theorem free2_ok {a b : IOper} (h : free2 a b = true) {d : Nat} (hd : a.op.dst = some d) : d ∉ b.reads ∧ b.op.dst ≠ some d := by
  unfold free2 at h
  rw [hd] at h
  simp only [Bool.and_eq_true, Bool.not_eq_true', bne_iff_ne] at h
  exact ⟨by simpa using h.1, h.2⟩

theorem swap {p q : IOper} {s1 s2 : St} (hp : evOper C lo st p = some s1) (hq : evOper C lo s1 q = some s2) (ha : apart (fpOper C lo st p) (fpOper C lo s1 q) = true) (h1 : free2 p q = true) (h2 : free2 q p = true) :
    ∃ t1, evOper C lo st q = some t1 ∧ fpOper C lo st q = fpOper C lo s1 q ∧ evOper C lo t1 p = some s2 ∧ fpOper C lo t1 p = fpOper C lo st p := by
  obtain ⟨a1, a2, a3⟩ := apart_ok ha
  have hpp := (loc_oper (st' := st) hp (fun _ _ => rfl) (fun _ _ => rfl) (fun _ _ => rfl)).1
  have es1 : s1 = patch st s1 p.op.dst (fpOper C lo st p).wr := Option.some.inj (hp.symm.trans hpp)
  have s1e : ∀ i, p.op.dst ≠ some i → s1.env i = st.env i := fun i hi => by rw [es1]; simp [patch, hi]
  have s1h : ∀ i, i ∉ (fpOper C lo st p).wr → s1.hp i = st.hp i := fun i hi => by rw [es1]; simp [patch, patchH, hi]
  obtain ⟨b1, b2⟩ := loc_oper (st' := st) hq (fun i hi => (s1e i fun e => (free2_ok h1 e).1 hi).symm) (fun i hi => (s1h i fun hm => a1 i hm hi).symm) (fun i hi => (s1h i fun hm => a2 i hm hi).symm)
  have hqq := (loc_oper (st' := s1) hq (fun _ _ => rfl) (fun _ _ => rfl) (fun _ _ => rfl)).1
  have es2 : s2 = patch s1 s2 q.op.dst (fpOper C lo s1 q).wr := Option.some.inj (hq.symm.trans hqq)
  obtain ⟨c1, c2⟩ := loc_oper (st' := patch st s2 q.op.dst (fpOper C lo s1 q).wr) hp (fun i hi => by
    show (if q.op.dst = some i then s2.env i else st.env i) = st.env i
    rw [if_neg fun e => (free2_ok h2 e).1 hi]) (fun i hi => by
    show patchH st.hp s2.hp _ i = st.hp i
    simp only [patchH]
    rw [if_neg fun e => a3 i e hi]) (fun i hi => by
    show patchH st.hp s2.hp _ i = st.hp i
    simp only [patchH]
    rw [if_neg fun e => a2 i hi e])
  refine ⟨_, b1, b2, ?_, c2⟩
  rw [c1]
  refine congrArg some (St.ext' (fun i => ?_) fun i => ?_)
  · have e2 : s2.env i = if q.op.dst = some i then s2.env i else s1.env i := congrFun (congrArg St.env es2) i
    show (if p.op.dst = some i then s1.env i else if q.op.dst = some i then s2.env i else st.env i) = s2.env i
    by_cases hd : p.op.dst = some i
    · rw [if_pos hd, e2, if_neg (free2_ok h1 hd).2]
    · rw [if_neg hd]
      split
      · rfl
      · rename_i hq'
        rw [e2, if_neg hq', s1e i hd]
  · have e2 : s2.hp i = if i ∈ (fpOper C lo s1 q).wr then s2.hp i else s1.hp i := congrFun (congrArg St.hp es2) i
    show (if i ∈ (fpOper C lo st p).wr then s1.hp i else if i ∈ (fpOper C lo s1 q).wr then s2.hp i else st.hp i) = s2.hp i
    by_cases hd : i ∈ (fpOper C lo st p).wr
    · rw [if_pos hd, e2, if_neg (a2 i hd)]
    · rw [if_neg hd]
      split
      · rfl
      · rename_i hq'
        rw [e2, if_neg hq', s1h i hd]

structure Item where
  k : Nat
  o : IOper
  f : Fp
def Runs (C : FuncId → List TV → Option TV) (lo : Nat) : List Item → St → St → Prop
  | [], st, st' => st = st'
  | x :: r, st, st' => ∃ s1, evOper C lo st x.o = some s1 ∧ fpOper C lo st x.o = x.f ∧ Runs C lo r s1 st'
/-- x stands ahead of y: y waits for x, or they are apart -/
def Ind (ord : List Nat) (x y : Item) : Prop := (ord.getD y.k 0).testBit x.k = true ∨ (apart x.f y.f = true ∧ free2 x.o y.o = true ∧ free2 y.o x.o = true)

theorem bubble {x : Item} {post : List Item} : ∀ {pre : List Item} {st st' : St}, Runs C lo (pre ++ x :: post) st st' → (∀ y ∈ pre, apart y.f x.f = true ∧ free2 y.o x.o = true ∧ free2 x.o y.o = true) → Runs C lo (x :: (pre ++ post)) st st'
  | [], st, st', h, _ => h
  | y :: pre, st, st', h, ha => by
    obtain ⟨s1, h1, h2, h3⟩ := h
    obtain ⟨s2, g1, g2, g3⟩ := bubble h3 fun z hz => ha z (by simp [hz])
    obtain ⟨k1, k2, k3⟩ := ha y (by simp)
    obtain ⟨t1, e1, e2, e3, e4⟩ := swap h1 g1 (by rw [h2, g2]; exact k1) k2 k3
    exact ⟨t1, e1, e2.trans g2, s2, e3, e4.trans h2, g3⟩

def SchedOk (ord : List Nat) : List Nat → List Item → Prop
  | [], M => M = []
  | i :: s, M => ∃ pre x post, M = pre ++ x :: post ∧ x.k = i ∧ (∀ y ∈ pre, (ord.getD i 0).testBit y.k = false) ∧ SchedOk ord s (pre ++ post)

theorem sched_idx {ord : List Nat} {ios : List IOper} : ∀ {s : List Nat} {M : List Item} {st st' : St}, SchedOk ord s M → Runs C lo M st st' → M.Pairwise (Ind ord) → (∀ x ∈ M, ios[x.k]? = some x.o) → evIdx C lo ios s st = some st'
  | [], M, st, st', hs, hr, _, _ => by
    have e : M = [] := hs
    subst e
    have e : st = st' := hr
    rw [e]; rfl
  | i :: s, M, st, st', hs, hr, hp, hi => by
    obtain ⟨pre, x, post, rfl, rfl, h1, h2⟩ := hs
    have hind : ∀ y ∈ pre, Ind ord y x := fun y hy => (List.pairwise_append.1 hp).2.2 y hy x (by simp)
    obtain ⟨s1, g1, _, g3⟩ := bubble hr fun y hy => by
      rcases hind y hy with h | h
      · rw [h1 y hy] at h; cases h
      · exact h
    simp only [evIdx, hi x (by simp), g1]
    refine sched_idx h2 g3 ?_ fun y hy => hi y (by rcases List.mem_append.1 hy with h | h <;> simp [h])
    have hsub : (pre ++ post).Sublist (pre ++ x :: post) := List.Sublist.append (List.Sublist.refl _) (List.sublist_cons_self _ _)
    exact hp.sublist hsub

theorem apartAll_ok {f : Fp} {o : Nat} : ∀ {fs : List (Nat × Fp)}, apartAll f o fs = true → ∀ x ∈ fs, o.testBit x.1 = true ∨ apart x.2 f = true
  | [], _, x, hx => by simp at hx
  | (i, g) :: fs, h, x, hx => by
    simp only [apartAll, Bool.and_eq_true, Bool.or_eq_true] at h
    rcases List.mem_cons.1 hx with rfl | hx
    · exact h.1
    · exact apartAll_ok h.2 x hx
def Fp.none (f : Fp) : Prop := f.rd = [] ∧ f.wr = []
theorem meets_nil : ∀ a : List Nat, meets a [] = false
  | [] => rfl
  | x :: a => by simp [meets, meets_nil a]
theorem apart_left {f g : Fp} (h : f.none) : apart f g = true := by
  obtain ⟨a, b⟩ := f
  obtain ⟨h1, h2⟩ := h
  simp only at h1 h2
  subst h1 h2
  simp [apart, meets, meets_nil]
theorem apart_right {f g : Fp} (h : g.none) : apart f g = true := by
  obtain ⟨a, b⟩ := g
  obtain ⟨h1, h2⟩ := h
  simp only at h1 h2
  subst h1 h2
  simp [apart, meets, meets_nil]
/-- what is known behind a step -/
theorem stepD_ok {fs : List (Nat × Fp)} {i n : Nat} {k : List (Nat × Fp) → Option St → Option St} {x : Option St} {f : Fp} {r : St} (h : stepD fs i n k x f = some r) :
    ∃ fs', k fs' x = some r ∧ (f.none ∨ (i, f) ∈ fs') ∧ (∀ y ∈ fs, y ∈ fs') ∧ ∀ y ∈ fs, n.testBit y.1 = true ∨ apart y.2 f = true := by
  obtain ⟨a, b⟩ := f
  cases a with
  | nil => cases b with
    | nil => exact ⟨fs, h, .inl ⟨rfl, rfl⟩, fun _ h => h, fun y _ => .inr (apart_right ⟨rfl, rfl⟩)⟩
    | cons b w =>
      simp only [stepD, stepE] at h
      split at h
      · rename_i hh
        exact ⟨_, h, .inr (by simp), fun _ h => by simp [h], fun y hy => apartAll_ok hh y hy⟩
      · cases h
  | cons a r' =>
    simp only [stepD, stepE] at h
    split at h
    · rename_i hh
      exact ⟨_, h, .inr (by simp), fun _ h => by simp [h], fun y hy => apartAll_ok hh y hy⟩
    · cases h
theorem freeAll_ok {s : Nat} {o : IOper} : ∀ {ps : List IOper} {i : Nat}, freeAll s o i ps = true → ∀ j p, ps[j]? = some p → s.testBit (i + j) = true ∨ (free2 p o = true ∧ free2 o p = true)
  | [], _, _, j, g, hj => by simp at hj
  | x :: ps, i, h, 0, p, hj => by
    simp only [freeAll, Bool.and_eq_true, Bool.or_eq_true] at h
    simp only [List.getElem?_cons_zero, Option.some.injEq] at hj
    subst hj
    exact h.1
  | x :: ps, i, h, j + 1, p, hj => by
    simp only [freeAll, Bool.and_eq_true] at h
    have := freeAll_ok h.2 j p (by simpa using hj)
    rwa [show i + (j + 1) = i + 1 + j by omega]

theorem draw_runs {ord : List Nat} : ∀ {ios : List IOper} {os : List Oper} {k : Nat} {L : List Item} {fs : List (Nat × Fp)} {st st' : St}, evOpsD C lo ios (ord.drop k) k fs (some st) = some st' → drawOk ord k (L.map (·.o)) os ios = true →
    (∀ (i : Nat) (x : Item), L[i]? = some x → x.k = i) → L.length = k → (∀ x ∈ L, x.f.none ∨ (x.k, x.f) ∈ fs) →
    ∃ M : List Item, M.map (·.o) = ios ∧ (∀ (i : Nat) (x : Item), M[i]? = some x → x.k = k + i) ∧ Runs C lo M st st' ∧ (∀ x ∈ L, ∀ y ∈ M, Ind ord x y) ∧ M.Pairwise (Ind ord)
  | [], os, k, L, fs, st, st', h, hd, hL, hk, hfs => by
    have e : st = st' := Option.some.inj h
    exact ⟨[], rfl, by simp, e, by simp, List.Pairwise.nil⟩
  | o :: ios, [], k, L, fs, st, st', h, hd, hL, hk, hfs => by simp [drawOk] at hd
  | o :: ios, oo :: os, k, L, fs, st, st', h, hd, hL, hk, hfs => by
    cases hord : ord.drop k with
    | nil => rw [hord] at h; cases h
    | cons n rest =>
      have hn : ord.getD k 0 = n := by
        have : (ord.drop k)[0]? = some n := by rw [hord]; rfl
        rw [List.getElem?_drop] at this
        rw [List.getD_eq_getElem?_getD, show k = k + 0 by omega, this]; rfl
      have hrest : rest = ord.drop (k + 1) := by
        have : (ord.drop k).tail = rest := by rw [hord]; rfl
        rw [← this, List.tail_drop]
      rw [hord] at h
      simp only [evOpsD] at h
      obtain ⟨fs', h, hf1, hf2, hf3⟩ := stepD_ok h
      simp only [drawOk, Bool.and_eq_true] at hd
      obtain ⟨⟨_, hfree⟩, hd'⟩ := hd
      cases h1 : evOper C lo st o with
      | none => rw [h1] at h; cases ios <;> cases rest <;> cases h
      | some s1 =>
        rw [h1] at h
        rw [hrest] at h
        have hind : ∀ x ∈ L, Ind ord x ⟨k, o, fpOper C lo st o⟩ := fun x hx => by
          obtain ⟨j, hj⟩ := List.getElem?_of_mem hx
          have e := hL j x hj
          have hap : (ord.getD k 0).testBit x.k = true ∨ apart x.f (fpOper C lo st o) = true := by
            rcases hfs x hx with hz | hz
            · exact .inr (apart_left hz)
            · rw [hn]; exact hf3 _ hz
          rcases hap with h | h
          · exact .inl h
          · rcases freeAll_ok hfree j x.o (by simp [hj]) with h' | h'
            · left; simpa [e] using h'
            · exact .inr ⟨h, h'.1, h'.2⟩
        obtain ⟨M, m1, m2, m3, m4, m5⟩ := draw_runs (L := L ++ [⟨k, o, fpOper C lo st o⟩]) h (by simpa using hd') (fun i x hi => by
          by_cases hlt : i < L.length
          · rw [List.getElem?_append_left hlt] at hi; exact hL i x hi
          · rw [List.getElem?_append_right (by omega)] at hi
            have : i - L.length = 0 := by
              have := (List.getElem?_eq_some_iff.1 hi).1
              simp at this; omega
            rw [this] at hi
            simp only [List.getElem?_cons_zero, Option.some.injEq] at hi
            rw [← hi]
            show k = i
            omega) (by simp [hk]) (fun x hx => by
          rcases List.mem_append.1 hx with hx | hx
          · exact (hfs x hx).imp id (hf2 _)
          · simp only [List.mem_singleton] at hx
            subst hx
            exact hf1)
        refine ⟨⟨k, o, fpOper C lo st o⟩ :: M, by simp [m1], ?_, ⟨s1, h1, rfl, m3⟩, ?_, ?_⟩
        · intro i x hi
          cases i with
          | zero => simp only [List.getElem?_cons_zero, Option.some.injEq] at hi; rw [← hi]; rfl
          | succ i => rw [m2 i x (by simpa using hi)]; omega
        · intro x hx y hy
          rcases List.mem_cons.1 hy with rfl | hy
          · exact hind x hx
          · exact m4 x (by simp [hx]) y hy
        · exact List.Pairwise.cons (fun y hy => m4 _ (by simp) y hy) m5
end
end Go.Proofs.Ytehcfmohjcjmpaa.Sx
