/- The evaluator's limit: what a piece of code comes to with enough rounds; its equations. -/
import Derived.Test.YtehcfmohjcjmpaaSxDef
namespace Go.Proofs.Ytehcfmohjcjmpaa.Sx
open Go

theorem seqK_mono {k k' : St → Option (Ex × St)} (hk : ∀ st r, k st = some r → k' st = some r) {x x' : Option (Ex × St)} (hx : ∀ r, x = some r → x' = some r) {r : Ex × St}
    (h : seqK k x = some r) : seqK k' x' = some r := by
  cases x with
  | none => cases h
  | some y =>
    have := hx _ rfl
    subst this
    obtain ⟨e, st⟩ := y
    cases e with
    | norm => exact hk _ _ h
    | exit i => exact h
    | ret => exact h

theorem blockK_mono {id : Nat} {x x' : Option (Ex × St)} (hx : ∀ r, x = some r → x' = some r) {r : Ex × St} (h : blockK id x = some r) : blockK id x' = some r := by
  cases x with
  | none => cases h
  | some y => rw [hx _ rfl]; exact h

theorem condK_mono {a b a' b' : St → Option (Ex × St)} (ha : ∀ st r, a st = some r → a' st = some r) (hb : ∀ st r, b st = some r → b' st = some r) {st : St} {l : LV} {r : Ex × St}
    (h : condK a b st l = some r) : condK a' b' st l = some r := by
  unfold condK at h ⊢
  split at h
  · split at h
    · rename_i hc; simp only [hc, if_true]; exact ha _ _ h
    · rename_i hc; simp only [hc]; exact hb _ _ h
  · cases h

section
variable (C : FuncId → List TV → Option TV) (lo : Nat)

theorem ev_step (n : Nat) : ∀ (c : ICode) (st : St) (r : Ex × St), ev C lo n c st = some r → ev C lo (n + 1) c st = some r := by
  induction n with
  | zero => intro c st r h; cases h
  | succ n ih =>
    intro c st r h
    cases c with
    | skip => exact h
    | region ops g => exact h
    | draw ops ord g => exact h
    | gc g => exact h
    | seq a b => exact seqK_mono (fun st r h => ih b st r h) (fun r h => ih a st r h) h
    | cond c a b => exact condK_mono (fun st r h => ih a st r h) (fun st r h => ih b st r h) h
    | block id b => exact blockK_mono (fun r h => ih b st r h) h
    | loop b => exact seqK_mono (fun st r h => ih (.loop b) st r h) (fun r h => ih b st r h) h
    | exit id => exact h
    | ret => exact h
    | bad => exact h

theorem ev_le {n m : Nat} (hnm : n ≤ m) {c : ICode} {st : St} {r : Ex × St} (h : ev C lo n c st = some r) : ev C lo m c st = some r := by
  induction hnm with
  | refl => exact h
  | step _ ih => exact ev_step C lo _ c st r ih

theorem ev_one {n m : Nat} {c : ICode} {st : St} {r r' : Ex × St} (h : ev C lo n c st = some r) (h' : ev C lo m c st = some r') : r = r' := by
  have a := ev_le C lo (Nat.le_max_left n m) h
  have b := ev_le C lo (Nat.le_max_right n m) h'
  rw [a] at b
  exact Option.some.inj b

open Classical in
/-- what the code comes to -/
noncomputable def E (c : ICode) (st : St) : Option (Ex × St) := if h : ∃ r n, ev C lo n c st = some r then some h.choose else none

theorem E_some {c : ICode} {st : St} {r : Ex × St} : E C lo c st = some r ↔ ∃ n, ev C lo n c st = some r := by
  unfold E
  split
  · rename_i h
    constructor
    · intro hr; rw [← Option.some.inj hr]; exact h.choose_spec
    · rintro ⟨n, hn⟩
      obtain ⟨m, hm⟩ := h.choose_spec
      rw [ev_one C lo hm hn]
  · rename_i h
    constructor
    · intro hr; cases hr
    · rintro ⟨n, hn⟩; exact absurd ⟨r, n, hn⟩ h

theorem E_of {c : ICode} {st : St} {n : Nat} {r : Ex × St} (h : ev C lo n c st = some r) : E C lo c st = some r := (E_some C lo).2 ⟨n, h⟩

/-- two options that come to the same things are one -/
theorem opt_ext {α : Type} {a b : Option α} (h : ∀ r, a = some r ↔ b = some r) : a = b := by
  cases a with
  | none => cases b with
    | none => rfl
    | some y => exact ((h y).2 rfl)
  | some x => exact ((h x).1 rfl).symm

@[go_sem] theorem E_skip (st : St) : E C lo .skip st = some (.norm, st) := E_of C lo (n := 1) rfl
@[go_sem] theorem E_exit (i : Nat) (st : St) : E C lo (.exit i) st = some (.exit i, st) := E_of C lo (n := 1) rfl
@[go_sem] theorem E_ret (st : St) : E C lo .ret st = some (.ret, st) := E_of C lo (n := 1) rfl
@[go_sem] theorem E_bad (st : St) : E C lo .bad st = none := by
  cases h : E C lo .bad st with
  | none => rfl
  | some r => obtain ⟨n, hn⟩ := (E_some C lo).1 h; cases n <;> cases hn
@[go_sem] theorem E_gc (g : GC) (st : St) : E C lo (.gc g) st = some (.norm, g.run lo st) := E_of C lo (n := 1) rfl
@[go_sem] theorem E_draw (ops : List IOper) (ord : List Nat) (g : GC) (st : St) : E C lo (.draw ops ord g) st = regK lo g (evOpsD C lo ops ord 0 [] (some st)) := by
  refine opt_ext fun r => ?_
  rw [E_some]
  constructor
  · rintro ⟨n, hn⟩; cases n with
    | zero => cases hn
    | succ n => exact hn
  · intro h; exact ⟨1, h⟩
@[go_sem] theorem E_region (ops : List IOper) (g : GC) (st : St) : E C lo (.region ops g) st = regK lo g (evOps C lo ops (some st)) := by
  refine opt_ext fun r => ?_
  rw [E_some]
  constructor
  · rintro ⟨n, hn⟩; cases n with
    | zero => cases hn
    | succ n => exact hn
  · intro h; exact ⟨1, h⟩

theorem seqK_some {k : St → Option (Ex × St)} {x : Option (Ex × St)} {r : Ex × St} :
    seqK k x = some r ↔ (∃ st, x = some (.norm, st) ∧ k st = some r) ∨ (x = some r ∧ r.1 ≠ .norm) := by
  cases x with
  | none => simp [seqK]
  | some y =>
    obtain ⟨e, st⟩ := y
    obtain ⟨e', st'⟩ := r
    cases e <;> simp [seqK] <;> (try (intro h; subst h; simp)) <;> (try (intros; subst_vars; simp))

@[go_sem] theorem E_seq (a b : ICode) (st : St) : E C lo (.seq a b) st = seqK (E C lo b) (E C lo a st) := by
  refine opt_ext fun r => ?_
  rw [E_some, seqK_some]
  constructor
  · rintro ⟨n, hn⟩; cases n with
    | zero => cases hn
    | succ n =>
      rcases seqK_some.1 hn with ⟨st', h1, h2⟩ | ⟨h1, h2⟩
      · exact .inl ⟨st', E_of C lo h1, E_of C lo h2⟩
      · exact .inr ⟨E_of C lo h1, h2⟩
  · rintro (⟨st', h1, h2⟩ | ⟨h1, h2⟩)
    · obtain ⟨n, hn⟩ := (E_some C lo).1 h1
      obtain ⟨m, hm⟩ := (E_some C lo).1 h2
      exact ⟨max n m + 1, seqK_some.2 (.inl ⟨st', ev_le C lo (Nat.le_max_left n m) hn, ev_le C lo (Nat.le_max_right n m) hm⟩)⟩
    · obtain ⟨n, hn⟩ := (E_some C lo).1 h1
      exact ⟨n + 1, seqK_some.2 (.inr ⟨hn, h2⟩)⟩

theorem E_loop (b : ICode) (st : St) : E C lo (.loop b) st = seqK (E C lo (.loop b)) (E C lo b st) := by
  refine opt_ext fun r => ?_
  rw [E_some, seqK_some]
  constructor
  · rintro ⟨n, hn⟩; cases n with
    | zero => cases hn
    | succ n =>
      rcases seqK_some.1 hn with ⟨st', h1, h2⟩ | ⟨h1, h2⟩
      · exact .inl ⟨st', E_of C lo h1, E_of C lo h2⟩
      · exact .inr ⟨E_of C lo h1, h2⟩
  · rintro (⟨st', h1, h2⟩ | ⟨h1, h2⟩)
    · obtain ⟨n, hn⟩ := (E_some C lo).1 h1
      obtain ⟨m, hm⟩ := (E_some C lo).1 h2
      exact ⟨max n m + 1, seqK_some.2 (.inl ⟨st', ev_le C lo (Nat.le_max_left n m) hn, ev_le C lo (Nat.le_max_right n m) hm⟩)⟩
    · obtain ⟨n, hn⟩ := (E_some C lo).1 h1
      exact ⟨n + 1, seqK_some.2 (.inr ⟨hn, h2⟩)⟩

@[go_sem] theorem E_block (id : Nat) (b : ICode) (st : St) : E C lo (.block id b) st = blockK id (E C lo b st) := by
  refine opt_ext fun r => ?_
  rw [E_some]
  constructor
  · rintro ⟨n, hn⟩; cases n with
    | zero => cases hn
    | succ n => exact blockK_mono (fun r h => E_of C lo h) hn
  · intro h
    cases hb : E C lo b st with
    | none => rw [hb] at h; cases h
    | some y =>
      obtain ⟨n, hn⟩ := (E_some C lo).1 hb
      rw [hb] at h
      exact ⟨n + 1, by rw [← h]; exact congrArg (blockK id) hn⟩

@[go_sem] theorem E_cond (c : X) (a b : ICode) (st : St) : E C lo (.cond c a b) st = condK (E C lo a) (E C lo b) st (c.rd st.env) := by
  refine opt_ext fun r => ?_
  rw [E_some]
  constructor
  · rintro ⟨n, hn⟩; cases n with
    | zero => cases hn
    | succ n => exact condK_mono (fun st r h => E_of C lo h) (fun st r h => E_of C lo h) hn
  · intro h
    have key : ∀ l, condK (E C lo a) (E C lo b) st l = some r → ∃ n, condK (ev C lo n a) (ev C lo n b) st l = some r := by
      intro l hl
      unfold condK at hl
      split at hl
      · split at hl
        · rename_i hc; obtain ⟨n, hn⟩ := (E_some C lo).1 hl; exact ⟨n, by simp only [condK, hc, if_true]; exact hn⟩
        · rename_i hc; obtain ⟨n, hn⟩ := (E_some C lo).1 hl; exact ⟨n, by simp only [condK, hc]; exact hn⟩
      · cases hl
    obtain ⟨n, hn⟩ := key _ h
    exact ⟨n + 1, hn⟩
end
end Go.Proofs.Ytehcfmohjcjmpaa.Sx
