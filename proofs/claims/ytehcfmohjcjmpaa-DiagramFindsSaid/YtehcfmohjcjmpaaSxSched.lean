/- The orders that may be drawn. -/
import Derived.Test.YtehcfmohjcjmpaaSxDraw
namespace Go.Proofs.Ytehcfmohjcjmpaa.Sx
open Go Go.RowKit

theorem bitsOk_ok {ws ord : List Nat} {s : Nat} : ∀ {n : Nat}, bitsOk ws ord s n = true → ∀ j < n, s.testBit j = true → j ∈ ws ∨ ∃ e ∈ ws, (ord.getD e 0).testBit j = true
  | 0, _, j, hj, _ => by omega
  | n + 1, h, j, hj, hb => by
    simp only [bitsOk, Bool.and_eq_true] at h
    by_cases e : j = n
    · subst e
      have h1 := h.1
      simp only [hb, Bool.not_true, Bool.false_or, Bool.or_eq_true] at h1
      rcases h1 with h1 | h1
      · exact .inl (by simpa using h1)
      · exact .inr (by simpa using h1)
    · exact bitsOk_ok h.2 j (by omega) hb

theorem drawOk_get {ord : List Nat} : ∀ {os : List Oper} {ios ahead : List IOper} {k : Nat}, drawOk ord k ahead os ios = true → os.length = ios.length ∧ ∀ (j : Nat) (o : Oper), os[j]? = some o →
    (∀ e ∈ waits o, e < k + j) ∧ ord.getD (k + j) 0 < 2 ^ (k + j) ∧ bitsOk (waits o) ord (ord.getD (k + j) 0) (k + j) = true
  | [], [], _, _, _ => ⟨rfl, by simp⟩
  | [], _ :: _, _, _, h => by simp [drawOk] at h
  | _ :: _, [], _, _, h => by simp [drawOk] at h
  | o :: os, i :: ios, ahead, k, h => by
    simp only [drawOk, Bool.and_eq_true] at h
    obtain ⟨⟨⟨⟨h1, h1'⟩, h2⟩, _⟩, h4⟩ := h
    obtain ⟨e, ih⟩ := drawOk_get h4
    refine ⟨by simp [e], fun j p hj => ?_⟩
    cases j with
    | zero =>
      simp only [List.getElem?_cons_zero, Option.some.injEq] at hj
      subst hj
      exact ⟨by simpa using h1, by simpa using h1', h2⟩
    | succ j =>
      have := ih j p (by simpa using hj)
      rwa [show k + 1 + j = k + (j + 1) by omega] at this

theorem testBit_lt {s k i : Nat} (h : s < 2 ^ k) (hb : s.testBit i = true) : i < k := by
  rcases Nat.lt_or_ge i k with h' | h'
  · exact h'
  · have : s < 2 ^ i := Nat.lt_of_lt_of_le h (Nat.pow_le_pow_right (by omega) h')
    rw [Nat.testBit_lt_two_pow this] at hb
    cases hb

theorem getD_set (xs : Array Bool) (i j : Nat) (b : Bool) (hi : i < xs.size) : (xs.setIfInBounds i true).getD j b = if j = i then true else xs.getD j b := by
  simp only [Array.getD_eq_getD_getElem?, Array.getElem?_setIfInBounds]
  by_cases h : i = j
  · subst h; simp [hi]
  · rw [if_neg h, if_neg fun e => h e.symm]

theorem waits_mem {o : Oper} {listed : Array Bool} : (o.after.all fun e => !Region.binds .any e || listed.getD e.on false) = true ↔ ∀ j ∈ waits o, listed.getD j false = true := by
  simp only [waits, List.mem_map, List.mem_filter, Array.all_eq_true', Bool.or_eq_true, Bool.not_eq_true', forall_exists_index, and_imp]
  constructor
  · intro h j e he hb hj
    rcases h e (by simpa using he) with h | h
    · rw [h] at hb; cases hb
    · rw [← hj]; exact h
  · intro h e he
    cases hb : Region.binds .any e with
    | false => exact .inl rfl
    | true => exact .inr (h e.on e (by simpa using he) hb rfl)

theorem go_ok {ops : Array Oper} {ord : List Nat} (hw : ∀ (j : Nat) (o : Oper), ops[j]? = some o → (∀ e ∈ waits o, e < j) ∧ ord.getD j 0 < 2 ^ j ∧ bitsOk (waits o) ord (ord.getD j 0) j = true) :
    ∀ (fuel t : Nat) (listed : Array Bool) (acc : List Nat) (M : List Item), listed.size = ops.size → (∀ j, (∃ x ∈ M, x.k = j) ↔ (j < ops.size ∧ listed.getD j true = false)) → M.Pairwise (fun x y => x.k < y.k) →
      (∀ j < ops.size, listed.getD j true = true → ∀ i, (ord.getD j 0).testBit i = true → listed.getD i true = true) → M.length ≤ fuel →
      ∃ s, Region.linearise.go .any ops fuel t listed acc = acc.reverse ++ s ∧ SchedOk ord s M
  | 0, t, listed, acc, M, _, _, _, _, hf => by
    have e : M = [] := List.eq_nil_of_length_eq_zero (by omega)
    subst e
    exact ⟨[], by simp [Region.linearise.go], rfl⟩
  | fuel + 1, t, listed, acc, M, hsz, hM, hp, hcl, hf => by
    simp only [Region.linearise.go]
    have hgd : ∀ j, j < ops.size → listed.getD j false = listed.getD j true := fun j hj => by
      simp [Array.getD_eq_getD_getElem?, hsz, hj]
    generalize hrs : ((List.range ops.size).filter fun i => !listed.getD i true && ((ops[i]?).map (·.after.all fun e => !Region.binds .any e || listed.getD e.on false)).getD false) = rs
    have hmem : ∀ i, i ∈ rs ↔ i < ops.size ∧ listed.getD i true = false ∧ ∃ o, ops[i]? = some o ∧ ∀ j ∈ waits o, listed.getD j false = true := by
      intro i
      rw [← hrs]
      simp only [List.mem_filter, List.mem_range, Bool.and_eq_true, Bool.not_eq_true']
      constructor
      · rintro ⟨h1, h2, h3⟩
        refine ⟨h1, h2, ops[i], by simp [h1], ?_⟩
        rw [show ops[i]? = some ops[i] by simp [h1]] at h3
        simpa using waits_mem.1 (by simpa using h3)
      · rintro ⟨h1, h2, o, h3, h4⟩
        refine ⟨h1, h2, ?_⟩
        rw [h3]
        simpa using waits_mem.2 h4
    cases M with
    | nil =>
      have : rs = [] := List.eq_nil_iff_forall_not_mem.2 fun i hi => by
        obtain ⟨h1, h2, _⟩ := (hmem i).1 hi
        obtain ⟨x, hx, _⟩ := (hM i).2 ⟨h1, h2⟩
        simp at hx
      rw [this]
      exact ⟨[], by simp, rfl⟩
    | cons x0 M' =>
      have hx0 := (hM x0.k).1 ⟨x0, by simp, rfl⟩
      have hmin : ∀ j < x0.k, listed.getD j true = true := fun j hj => by
        cases hl : listed.getD j true with
        | true => rfl
        | false =>
          obtain ⟨y, hy, e⟩ := (hM j).2 ⟨by omega, hl⟩
          rcases List.mem_cons.1 hy with rfl | hy
          · omega
          · have := (List.pairwise_cons.1 hp).1 y hy
            omega
      have hin : x0.k ∈ rs := (hmem _).2 ⟨hx0.1, hx0.2, ops[x0.k]'hx0.1, by simp [hx0.1], fun j hj => by
        have hlt := (hw x0.k _ (by simp [hx0.1])).1 j hj
        rw [hgd j (by omega)]
        exact hmin j hlt⟩
      have hpos : 0 < rs.length := List.length_pos_of_mem hin
      have hlt := Nat.mod_lt t hpos
      obtain ⟨i, hi⟩ : ∃ i, rs[t % rs.length]? = some i := ⟨_, List.getElem?_eq_getElem hlt⟩
      rw [hi]
      simp only
      obtain ⟨hi1, hi2, o, ho, hi3⟩ := (hmem i).1 (List.mem_of_getElem? hi)
      obtain ⟨x, hx, hxk⟩ := (hM i).2 ⟨hi1, hi2⟩
      obtain ⟨pre, post, hsp⟩ := List.append_of_mem hx
      obtain ⟨hwo, hwlt, hwb⟩ := hw i o ho
      have hbits : ∀ b, (ord.getD i 0).testBit b = true → listed.getD b true = true := fun b hb => by
        have hbl := testBit_lt hwlt hb
        rcases bitsOk_ok hwb b hbl hb with h | ⟨e, he, h⟩
        · rw [← hgd b (by omega)]; exact hi3 b h
        · have := hwo e he
          exact hcl e (by omega) (by rw [← hgd e (by omega)]; exact hi3 e he) b h
      rw [hsp] at hM hp hf
      have hpp := List.pairwise_append.1 hp
      have hpre : ∀ y ∈ pre, y.k < i := fun y hy => hxk ▸ hpp.2.2 y hy x (by simp)
      have hpost : ∀ y ∈ post, i < y.k := fun y hy => hxk ▸ (List.pairwise_cons.1 hpp.2.1).1 y hy
      have hset : ∀ j b, (listed.setIfInBounds i true).getD j b = if j = i then true else listed.getD j b := fun j b => getD_set listed i j b (by omega)
      obtain ⟨s, hs1, hs2⟩ := go_ok hw fuel (t / rs.length) (listed.setIfInBounds i true) (i :: acc) (pre ++ post) (by simp [hsz]) (fun j => by
        rw [hset]
        constructor
        · rintro ⟨y, hy, rfl⟩
          have hne : y.k ≠ i := by
            rcases List.mem_append.1 hy with h | h
            · exact Nat.ne_of_lt (hpre y h)
            · exact Nat.ne_of_gt (hpost y h)
          rw [if_neg hne]
          exact (hM y.k).1 ⟨y, by rcases List.mem_append.1 hy with h | h <;> simp [h], rfl⟩
        · rintro ⟨h1, h2⟩
          by_cases e : j = i
          · rw [if_pos e] at h2; cases h2
          · rw [if_neg e] at h2
            obtain ⟨y, hy, rfl⟩ := (hM j).2 ⟨h1, h2⟩
            refine ⟨y, ?_, rfl⟩
            rcases List.mem_append.1 hy with h | h
            · simp [h]
            · rcases List.mem_cons.1 h with rfl | h
              · exact absurd hxk e
              · simp [h]) (hp.sublist (List.Sublist.append (List.Sublist.refl _) (List.sublist_cons_self _ _))) (fun j hj hl b hb => by
        rw [hset] at hl ⊢
        split
        · rfl
        · by_cases e : j = i
          · subst e; exact hbits b hb
          · rw [if_neg e] at hl; exact hcl j hj hl b hb) (by
        simp only [List.length_append, List.length_cons] at hf ⊢; omega)
      refine ⟨i :: s, by rw [hs1]; simp, pre, x, post, hsp, hxk, fun y hy => ?_, hs2⟩
      cases hb : (ord.getD i 0).testBit y.k with
      | false => rfl
      | true =>
        have h1 := hbits _ hb
        have h2 := ((hM y.k).1 ⟨y, by simp [hy], rfl⟩).2
        rw [h1] at h2; cases h2

section
variable {C : FuncId → List TV → Option TV} {lo : Nat} {st st' : St}

theorem draw_idx {ops : Array Oper} {ios : List IOper} {ord : List Nat} (h : evOpsD C lo ios ord 0 [] (some st) = some st') (hd : drawOk ord 0 [] ops.toList ios = true) (t : Nat) :
    evIdx C lo ios (Region.schedule true ops t) st = some st' := by
  obtain ⟨M, m1, m2, m3, _, m5⟩ := draw_runs (L := []) (fs := []) (k := 0) (by simpa using h) (by simpa using hd) (by simp) rfl (by simp)
  obtain ⟨hlen, hget⟩ := drawOk_get hd
  have hML : M.length = ops.size := by rw [← List.length_map (f := Item.o), m1, ← hlen]; simp
  have hmem : ∀ x ∈ M, ∃ i : Nat, M[i]? = some x ∧ x.k = i := fun x hx => by
    obtain ⟨i, hi⟩ := List.getElem?_of_mem hx
    exact ⟨i, hi, by simpa using m2 i x hi⟩
  obtain ⟨s, hs1, hs2⟩ := go_ok (ops := ops) (ord := ord) (fun j o ho => by simpa using hget j o (by simpa using ho)) ops.size t (Array.replicate ops.size false) [] M (by simp) (fun j => by
    constructor
    · rintro ⟨x, hx, rfl⟩
      obtain ⟨i, hi, e⟩ := hmem x hx
      have := (List.getElem?_eq_some_iff.1 hi).1
      refine ⟨by omega, ?_⟩
      simp [Array.getD_eq_getD_getElem?, e, show i < ops.size by omega]
    · rintro ⟨h1, _⟩
      refine ⟨M[j]'(by omega), by simp, ?_⟩
      simpa using m2 j _ (List.getElem?_eq_getElem (by omega))) (by
    rw [List.pairwise_iff_getElem]
    intro i j hi hj hlt
    rw [show (M[i]).k = i by simpa using m2 i _ (List.getElem?_eq_getElem hi), show (M[j]).k = j by simpa using m2 j _ (List.getElem?_eq_getElem hj)]
    exact hlt) (fun j hj hl => by
    simp [Array.getD_eq_getD_getElem?, hj] at hl) (by omega)
  have e : Region.schedule true ops t = s := by
    simp only [Region.schedule, Bool.true_or, if_true, Region.linearise]
    rw [hs1]; rfl
  rw [e]
  refine sched_idx hs2 m3 m5 fun x hx => ?_
  obtain ⟨i, hi, e⟩ := hmem x hx
  rw [e, ← m1]
  simp [hi]
end
end Go.Proofs.Ytehcfmohjcjmpaa.Sx
