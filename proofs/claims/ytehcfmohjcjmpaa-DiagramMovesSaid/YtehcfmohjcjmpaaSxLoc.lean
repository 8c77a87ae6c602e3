/- An operation of the evaluator looks at its footprint alone, and turns no more. -/
import Derived.Test.YtehcfmohjcjmpaaSxRegion
namespace Go.Proofs.Ytehcfmohjcjmpaa.Sx
open Go Go.RowKit

def patchH (h' h1 : Hp) (wr : List Nat) : Hp := fun i => if i ∈ wr then h1 i else h' i
def patch (st' st1 : St) (d : Option Nat) (wr : List Nat) : St := { env := fun i => if d = some i then st1.env i else st'.env i, hp := patchH st'.hp st1.hp wr }

theorem St.ext' {a b : St} (h1 : ∀ i, a.env i = b.env i) (h2 : ∀ i, a.hp i = b.hp i) : a = b := by
  obtain ⟨e, h⟩ := a
  obtain ⟨e', h'⟩ := b
  have : e = e' := funext h1
  have : h = h' := funext h2
  subst_vars
  rfl

section
variable {C : FuncId → List TV → Option TV} {lo : Nat} {st st' st1 : St}

theorem rd_eq {e e' : Nat → LV} {x : X} (h : ∀ i ∈ x.rs, e' i = e i) : x.rd e' = x.rd e := by
  cases x with
  | t i => exact h i (by simp [X.rs])
  | c l => rfl
  | fn f => rfl
theorem rds_eq {e e' : Nat → LV} : ∀ {xs : List X}, (∀ i ∈ xrs xs, e' i = e i) → rds e' xs = rds e xs
  | [], _ => rfl
  | x :: xs, h => by
    simp only [rds]
    rw [rd_eq fun i hi => h i (by simp [xrs, hi]), rds_eq fun i hi => h i (by simp [xrs, hi])]
theorem buildCells_eq {e e' : Nat → LV} : ∀ {ps : List (Nat × Nat × X)} {cs : List LV}, (∀ i ∈ prs ps, e' i = e i) → buildCells e' cs ps = buildCells e cs ps
  | [], _, _ => rfl
  | (off, n, x) :: ps, cs, h => by
    simp only [buildCells]
    rw [rd_eq fun i hi => h i (by simp [prs, hi])]
    split
    · exact buildCells_eq fun i hi => h i (by simp [prs, hi])
    · rfl
theorem bndX_eq {e e' : Nat → LV} {k : Nat} {x : Option X} {m : Option Nat} (h : ∀ i ∈ oxrs x, e' i = e i) : bndX e' k x m = bndX e k x m := by
  cases x with
  | none => cases m <;> rfl
  | some x => cases m with
    | none => rfl
    | some m => simp only [bndX]; rw [rd_eq fun i hi => h i (by simpa [oxrs] using hi)]

/-! ### trees of what lies in memory -/
theorem solidS_eq {h h' : Hp} {off len id : Nat} {t : TV} {is : List Nat} (he : solidS off len id (h id) = some (t, is)) (hh : ∀ i ∈ is, h' i = h i) : solidS off len id (h' id) = some (t, is) := by
  have hm : id ∈ is := by
    unfold solidS at he
    split at he
    · simp only [Option.some.injEq, Prod.mk.injEq] at he
      rw [← he.2]; simp
    · cases he
  rw [hh id hm]; exact he
theorem solidCell_eq {h h' : Hp} {l : LV} {t : TV} {is : List Nat} (he : solidCell h l = some (t, is)) (hh : ∀ i ∈ is, h' i = h i) : solidCell h' l = some (t, is) := by
  unfold solidCell at he ⊢
  split at he
  case h_8 => exact solidS_eq he hh
  all_goals first | exact he | (cases he; done)
theorem consS_some {x : Option (TV × List Nat)} {y : Option (List TV × List Nat)} {r : List TV × List Nat} (h : consS x y = some r) : ∃ t i ts is, x = some (t, i) ∧ y = some (ts, is) ∧ r = (t :: ts, i ++ is) := by
  unfold consS at h
  split at h
  · exact ⟨_, _, _, _, rfl, rfl, (Option.some.inj h).symm⟩
  · cases h
theorem solidCells_eq {h h' : Hp} : ∀ {ls : List LV} {ts : List TV} {is : List Nat}, solidCells h ls = some (ts, is) → (∀ i ∈ is, h' i = h i) → solidCells h' ls = some (ts, is)
  | [], ts, is, he, _ => he
  | l :: ls, ts, is, he, hh => by
    simp only [solidCells] at he ⊢
    obtain ⟨t, i1, ts', i2, h1, h2, h3⟩ := consS_some he
    obtain ⟨rfl, rfl⟩ := Prod.mk.inj h3
    rw [solidCell_eq h1 fun i hi => hh i (by simp [hi]), solidCells_eq h2 fun i hi => hh i (by simp [hi])]
    rfl
theorem solidP_eq {h h' : Hp} {id off : Nat} {t : TV} {is : List Nat} (he : solidP h id off (h id) = some (t, is)) (hh : ∀ i ∈ is, h' i = h i) : solidP h' id off (h' id) = some (t, is) := by
  unfold solidP at he
  split at he
  · rename_i f cs ho
    unfold pcS at he
    split at he
    · rename_i ts is' h1
      simp only [Option.some.injEq, Prod.mk.injEq] at he
      obtain ⟨rfl, rfl⟩ := he
      rw [hh id (by simp), ho]
      simp only [solidP]
      rw [solidCells_eq h1 fun i hi => hh i (by simp [hi])]
      rfl
    · cases he
  · cases he
theorem solidCap_eq {h h' : Hp} {l : LV} {t : TV} {is : List Nat} (he : solidCap h l = some (t, is)) (hh : ∀ i ∈ is, h' i = h i) : solidCap h' l = some (t, is) := by
  unfold solidCap at he ⊢
  split at he
  · exact solidP_eq he hh
  · exact solidCell_eq he hh
theorem solidCaps_eq {h h' : Hp} : ∀ {ls : List LV} {ts : List TV} {is : List Nat}, solidCaps h ls = some (ts, is) → (∀ i ∈ is, h' i = h i) → solidCaps h' ls = some (ts, is)
  | [], ts, is, he, _ => he
  | l :: ls, ts, is, he, hh => by
    simp only [solidCaps] at he ⊢
    obtain ⟨t, i1, ts', i2, h1, h2, h3⟩ := consS_some he
    obtain ⟨rfl, rfl⟩ := Prod.mk.inj h3
    rw [solidCap_eq h1 fun i hi => hh i (by simp [hi]), solidCaps_eq h2 fun i hi => hh i (by simp [hi])]
    rfl
theorem solidArg_eq {h h' : Hp} {l : LV} {t : TV} {is : List Nat} (he : solidArg h l = some (t, is)) (hh : ∀ i ∈ is, h' i = h i) : solidArg h' l = some (t, is) := by
  unfold solidArg at he ⊢
  split at he
  · unfold aggS at he
    split at he
    · rename_i ts is' h1
      simp only [Option.some.injEq, Prod.mk.injEq] at he
      obtain ⟨rfl, rfl⟩ := he
      simp only [solidCells_eq h1 hh]
      rfl
    · cases he
  · exact solidP_eq he hh
  · unfold fnS at he
    split at he
    · rename_i ts is' h1
      simp only [Option.some.injEq, Prod.mk.injEq] at he
      obtain ⟨rfl, rfl⟩ := he
      simp only [solidCaps_eq h1 hh]
      rfl
    · cases he
  · exact he
  · exact solidCell_eq he hh
theorem solidArgs_eq {h h' : Hp} : ∀ {ls : List LV} {ts : List TV} {is : List Nat}, solidArgs h ls = some (ts, is) → (∀ i ∈ is, h' i = h i) → solidArgs h' ls = some (ts, is)
  | [], ts, is, he, _ => he
  | l :: ls, ts, is, he, hh => by
    simp only [solidArgs] at he ⊢
    obtain ⟨t, i1, ts', i2, h1, h2, h3⟩ := consS_some he
    obtain ⟨rfl, rfl⟩ := Prod.mk.inj h3
    rw [solidArg_eq h1 fun i hi => hh i (by simp [hi]), solidArgs_eq h2 fun i hi => hh i (by simp [hi])]
    rfl
theorem solidRows_eq {h h' : Hp} {e e' : Nat → LV} {sz : Nat} : ∀ {xs : List X} {rs : List (List TV)} {is : List Nat}, solidRows h e sz xs = some (rs, is) → (∀ i ∈ xrs xs, e' i = e i) → (∀ i ∈ is, h' i = h i) → solidRows h' e' sz xs = some (rs, is)
  | [], rs, is, he, _, _ => he
  | x :: xs, rs, is, he, hx, hh => by
    simp only [solidRows] at he ⊢
    unfold consR at he
    split at he
    · rename_i r i1 rs' i2 h1 h2
      split at he
      · rename_i hsz
        simp only [Option.some.injEq, Prod.mk.injEq] at he
        obtain ⟨rfl, rfl⟩ := he
        rw [rd_eq fun i hi => hx i (by simp [xrs, hi]), solidCells_eq h1 fun i hi => hh i (by simp [hi]), solidRows_eq h2 (fun i hi => hx i (by simp [xrs, hi])) fun i hi => hh i (by simp [hi])]
        simp only [consR, hsz, if_true]
      · cases he
    · cases he

theorem frz_at {h h' : Hp} {j : Nat} (e : h' j = h j) (i : Nat) : upd h' i (frz (h' i)) j = upd h i (frz (h i)) j := by
  by_cases hj : j = i
  · subst hj; rw [upd_same, upd_same, e]
  · rw [upd_ne _ _ hj, upd_ne _ _ hj, e]
theorem freezeAll_at : ∀ (is : List Nat) {h h' : Hp} {j : Nat}, h' j = h j → Sx.freezeAll h' is j = Sx.freezeAll h is j
  | [], _, _, _, e => e
  | i :: is, h, h', j, e => freezeAll_at is (frz_at e i)
theorem freezeAll_out : ∀ (is : List Nat) {h : Hp} {j : Nat}, j ∉ is → Sx.freezeAll h is j = h j
  | [], _, _, _ => rfl
  | i :: is, h, j, hj => by
    show Sx.freezeAll (upd h i (frz (h i))) is j = h j
    rw [freezeAll_out is (fun hm => hj (by simp [hm])), upd_ne _ _ (fun e => hj (by simp [e]))]

/-! ### single changes -/
theorem set_loc {d : Nat} {l : LV} {wr : List Nat} (hw : ∀ i ∈ wr, st'.hp i = st.hp i) : st'.set d l = patch st' (st.set d l) (some d) wr := by
  refine St.ext' (fun i => ?_) fun i => ?_
  · simp only [St.set, patch, upd]
    by_cases e : i = d
    · subst e; simp
    · rw [if_neg e, if_neg (by simpa using fun h => e h.symm)]
  · simp only [St.set, patch, patchH]
    split
    · exact hw i (by assumption)
    · rfl
theorem setM_loc {d : Nat} {x x' : Option LV} {wr : List Nat} (h : setM st d x = some st1) (hx : x' = x) (hw : ∀ i ∈ wr, st'.hp i = st.hp i) : setM st' d x' = some (patch st' st1 (some d) wr) := by
  subst hx
  cases x' with
  | none => cases h
  | some l =>
    obtain rfl := Option.some.inj h
    exact congrArg some (set_loc hw)
theorem setV_loc {d : Nat} {x x' : Option TV} {wr : List Nat} (h : setV st d x = some st1) (hx : x' = x) (hw : ∀ i ∈ wr, st'.hp i = st.hp i) : setV st' d x' = some (patch st' st1 (some d) wr) := by
  subst hx
  cases x' with
  | none => cases h
  | some l =>
    obtain rfl := Option.some.inj h
    exact congrArg some (set_loc hw)
theorem mkO_loc {d k : Nat} {o : Ob} {l : LV} {h h' : Hp} {wr0 : List Nat} (he : mkO d k o l ⟨st.env, h⟩ = some st1) (hk : h' k = h k) (h1 : ∀ i ∈ wr0, h' i = h i) (h2 : ∀ i, i ∉ wr0 → h' i = st'.hp i) :
    mkO d k o l ⟨st'.env, h'⟩ = some (patch st' st1 (some d) (k :: wr0)) := by
  unfold mkO mkK at he ⊢
  dsimp only at he ⊢
  rw [hk]
  split at he
  · rename_i hn
    obtain rfl := Option.some.inj he
    refine congrArg some (St.ext' (fun i => ?_) fun i => ?_)
    · show upd st'.env d l i = if some d = some i then upd st.env d l i else st'.env i
      simp only [upd]
      by_cases e : i = d
      · subst e; simp
      · rw [if_neg e, if_neg (by simpa using fun h => e h.symm)]
    · show upd h' k (some o) i = if i ∈ k :: wr0 then upd h k (some o) i else st'.hp i
      by_cases e : i = k
      · subst e; rw [upd_same, if_pos (by simp), upd_same]
      · rw [upd_ne _ _ e]
        by_cases hm : i ∈ wr0
        · rw [if_pos (by simp [hm]), upd_ne _ _ e]; exact h1 i hm
        · rw [if_neg (by simp [e, hm])]; exact h2 i hm
  · cases he

/-! ### results -/
/-- F turns wr alone, and looks at wr alone -/
def LocT {β : Type} (F : St → Option (β × St)) (wr : List Nat) : Prop := ∀ (st : St) (r : β) (st1 : St), F st = some (r, st1) → st1.env = st.env ∧ ∀ st' : St, (∀ i ∈ wr, st'.hp i = st.hp i) → F st' = some (r, { env := st'.env, hp := patchH st'.hp st1.hp wr })
theorem LocT.out {β : Type} {F : St → Option (β × St)} {wr : List Nat} (h : LocT F wr) {st st1 : St} {r : β} (he : F st = some (r, st1)) {i : Nat} (hi : i ∉ wr) : st1.hp i = st.hp i := by
  have := (h st r st1 he).2 st fun _ _ => rfl
  rw [he] at this
  have e := congrArg St.hp (Prod.mk.inj (Option.some.inj this)).2
  rw [e]
  simp [patchH, hi]
theorem LocT.then {β γ δ : Type} {F : St → Option (β × St)} {G : St → Option (γ × St)} {n1 n2 : List Nat} (hF : LocT F n1) (hG : LocT G n2) (k : β → γ → δ) :
    LocT (fun st => match F st with | some (x, st1) => (match G st1 with | some (y, st2) => some (k x y, st2) | none => none) | none => none) (n1 ++ n2) := by
  intro st r st2 h
  cases h1 : F st with
  | none => simp only [h1] at h; cases h
  | some q =>
    obtain ⟨x, sta⟩ := q
    simp only [h1] at h
    cases h2 : G sta with
    | none => rw [h2] at h; cases h
    | some q =>
      obtain ⟨y, stb⟩ := q
      rw [h2] at h
      simp only [Option.some.injEq, Prod.mk.injEq] at h
      obtain ⟨rfl, rfl⟩ := h
      obtain ⟨e1, f1⟩ := hF st x sta h1
      obtain ⟨e2, f2⟩ := hG sta y stb h2
      refine ⟨e2.trans e1, fun st' hw => ?_⟩
      have g1 := f1 st' fun i hi => hw i (by simp [hi])
      have g2 := f2 ⟨st'.env, patchH st'.hp sta.hp n1⟩ fun i hi => by
        simp only [patchH]
        split
        · rfl
        · rename_i hn
          rw [hF.out h1 hn]
          exact hw i (by simp [hi])
      simp only [g1, g2]
      refine congrArg some (Prod.ext rfl (St.ext' (fun _ => rfl) fun i => ?_))
      simp only [patchH, List.mem_append]
      by_cases i2 : i ∈ n2
      · simp [i2]
      · by_cases i1 : i ∈ n1
        · simp [i1, i2, hG.out h2 i2]
        · simp [i1, i2]
theorem LocT.pure {β : Type} (r : β) : LocT (fun st => some (r, st)) [] := fun st r' st1 h => by
  simp only [Option.some.injEq, Prod.mk.injEq] at h
  obtain ⟨rfl, rfl⟩ := h
  exact ⟨rfl, fun st' _ => congrArg some (Prod.ext rfl (St.ext' (fun _ => rfl) fun i => by simp [patchH]))⟩
theorem LocT.map {β γ : Type} {F : St → Option (β × St)} {n : List Nat} (hF : LocT F n) (k : β → γ) : LocT (fun st => match F st with | some (x, st1) => some (k x, st1) | none => none) n := by
  have h := hF.then (LocT.pure ()) fun x _ => k x
  rw [List.append_nil] at h
  exact h
theorem LocT.congr {β : Type} {F G : St → Option (β × St)} {n : List Nat} (hF : LocT F n) (e : ∀ st, G st = F st) : LocT G n := by
  have : G = F := funext e
  rw [this]; exact hF

theorem consT_eq (l : LV) (x : Option (List LV × St)) : consT l x = match x with | some (ls, st) => some (l :: ls, st) | none => none := by cases x <;> rfl

def newO (k : Nat) (o : Ob) (st : St) : Option (Unit × St) := match st.hp k with
  | none => some ((), { st with hp := upd st.hp k (some o) })
  | some _ => none
theorem newO_loc (k : Nat) (o : Ob) : LocT (newO k o) [k] := by
  intro st r st1 h
  unfold newO at h
  split at h
  · rename_i hk
    simp only [Option.some.injEq, Prod.mk.injEq] at h
    obtain ⟨_, rfl⟩ := h
    refine ⟨rfl, fun st' hw => ?_⟩
    have := hw k (by simp)
    unfold newO
    rw [this, hk]
    refine congrArg some (Prod.ext rfl (St.ext' (fun _ => rfl) fun i => ?_))
    simp only [patchH, List.mem_singleton]
    by_cases e : i = k
    · subst e; simp [upd]
    · simp [upd, e]
  · cases h

theorem thawCells_loc : ∀ (ts : List TV) (k : Nat), LocT (thawCells k ts) (thawNs k ts)
  | [], k => by simpa only [thawCells, thawNs] using LocT.pure []
  | t :: ts, k => by
    have ih := thawCells_loc ts (k + 1)
    by_cases hown : ∃ e sz rows, t = .sl (.own e) sz rows
    · obtain ⟨e, sz, rows, rfl⟩ := hown
      have h := (newO_loc k (.arr false e sz rows)).then ih fun _ ls => LV.s k 0 rows.length :: ls
      simp only [thawNs]
      refine LocT.congr h fun st => ?_
      simp only [thawCells, thawOne, newO]
      cases st.hp k with
      | none => simp only; cases thawCells (k + 1) ts ⟨st.env, upd st.hp k (some (.arr false e sz rows))⟩ <;> rfl
      | some o => rfl
    · have hT : ∀ st, thawCells k (t :: ts) st = consT (.v t) (thawCells (k + 1) ts st) := fun st => by
        cases t with
        | sl fl sz rows => cases fl with
          | own e => exact absurd ⟨e, sz, rows, rfl⟩ hown
          | shared => rfl
          | tight e => rfl
        | _ => rfl
      have hN : thawNs k (t :: ts) = thawNs (k + 1) ts := by
        cases t with
        | sl fl sz rows => cases fl with
          | own e => exact absurd ⟨e, sz, rows, rfl⟩ hown
          | shared => rfl
          | tight e => rfl
        | _ => rfl
      rw [hN]
      refine LocT.congr (ih.map fun ls => LV.v t :: ls) fun st => ?_
      rw [hT]
      cases thawCells (k + 1) ts st <;> rfl

/-- F, where what it leaves goes through k, which may fail -/
theorem LocT.bind {β γ : Type} {F : St → Option (β × St)} {n : List Nat} (hF : LocT F n) (k : β → Option γ) : LocT (fun st => match F st with | some (x, st1) => (match k x with | some y => some (y, st1) | none => none) | none => none) n := by
  intro st r st1 h
  cases h1 : F st with
  | none => simp only [h1] at h; cases h
  | some q =>
    obtain ⟨x, sta⟩ := q
    simp only [h1] at h
    cases h2 : k x with
    | none => rw [h2] at h; cases h
    | some y =>
      rw [h2] at h
      simp only [Option.some.injEq, Prod.mk.injEq] at h
      obtain ⟨rfl, rfl⟩ := h
      obtain ⟨e1, f1⟩ := hF st x sta h1
      refine ⟨e1, fun st' hw => ?_⟩
      simp only [f1 st' hw, h2]
theorem LocT.none {β : Type} (n : List Nat) : LocT (fun _ : St => (Option.none : Option (β × St))) n := fun _ _ _ h => by cases h

theorem thaw1_loc (t : TV) (k : Nat) : LocT (thaw1 k t) (thawN1 k t) := by
  by_cases ha : ∃ cs, t = .agg cs
  · obtain ⟨cs, rfl⟩ := ha
    simp only [thawN1]
    by_cases hl : cs.length ≤ 16
    · refine LocT.congr ((thawCells_loc cs k).map fun ls => LV.agg ls) fun st => ?_
      simp only [thaw1, hl, if_true]
      cases thawCells k cs st <;> rfl
    · refine LocT.congr (LocT.none _) fun st => ?_
      simp only [thaw1, hl, if_false]
  · have hT : ∀ st, thaw1 k t st = oneT (thawCells k [t] st) := fun st => by cases t with
      | agg cs => exact absurd ⟨cs, rfl⟩ ha
      | _ => rfl
    have hN : thawN1 k t = thawNs k [t] := by cases t with
      | agg cs => exact absurd ⟨cs, rfl⟩ ha
      | _ => rfl
    rw [hN]
    refine LocT.congr ((thawCells_loc [t] k).bind fun ls => match ls with | [l] => some l | _ => Option.none) fun st => ?_
    rw [hT]
    cases thawCells k [t] st with
    | none => rfl
    | some q =>
      obtain ⟨ls, st1⟩ := q
      match ls with
      | [] => rfl
      | [l] => rfl
      | _ :: _ :: _ => rfl

theorem thawVs_loc : ∀ (ts : List TV) (k : Nat), LocT (thawVs k ts) (thawNVs k ts)
  | [], k => by simpa only [thawVs, thawNVs] using LocT.pure []
  | t :: ts, k => by
    simp only [thawNVs]
    refine LocT.congr ((thaw1_loc t k).then (thawVs_loc ts (k + 16)) fun l ls => l :: ls) fun st => ?_
    simp only [thawVs]
    cases thaw1 k t st with
    | none => rfl
    | some q => simp only [thawK]; cases thawVs (k + 16) ts q.2 <;> rfl
theorem thaw_loc (t : TV) (k : Nat) : LocT (thaw k t) (thawN k t) := by
  by_cases ha : ∃ cs, t = .tup cs
  · obtain ⟨cs, rfl⟩ := ha
    simp only [thawN]
    refine LocT.congr ((thawVs_loc cs k).map fun ls => LV.tup ls) fun st => ?_
    simp only [thaw]
    cases thawVs k cs st <;> rfl
  · have hT : ∀ st, thaw k t st = thaw1 k t st := fun st => by cases t with
      | tup cs => exact absurd ⟨cs, rfl⟩ ha
      | _ => rfl
    have hN : thawN k t = thawN1 k t := by cases t with
      | tup cs => exact absurd ⟨cs, rfl⟩ ha
      | _ => rfl
    rw [hN]
    exact LocT.congr (thaw1_loc t k) hT
end
end Go.Proofs.Ytehcfmohjcjmpaa.Sx
