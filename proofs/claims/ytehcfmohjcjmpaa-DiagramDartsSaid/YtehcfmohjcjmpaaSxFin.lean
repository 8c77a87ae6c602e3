/- Functions that call one another: what the evaluator comes to, its equations, and that calls do it. -/
import Derived.Test.YtehcfmohjcjmpaaSxFun
import Derived.Test.YtehcfmohjcjmpaaSxLim
namespace Go.Proofs.Ytehcfmohjcjmpaa.Sx
open Go Go.RowKit

section
variable {P : Program} {C : FuncId → List TV → Option TV}

theorem fn_ok (hC : Good P C) (hmix : P.follows .mixedOrders = true) {f : FuncId} {fn : Func} (hf : P.funcs[f]? = some fn) (hname : (fn.name == "runtime.NumGoroutine") = false) {A B : List (Nat × GC)} {c : Code} (hb : fn.body = some c)
    {m : Nat} {args : List TV} {r : TV} (h : finR (cFn P A B fn).res (ev C 0 m (cFn P A B fn).body (start args)) = some r) : Sound P f args r := by
  refine ⟨⟨fn, hf, hname, by rw [hb]; rfl⟩, fun w ok vs hbd hv => ?_⟩
  refine calls_of_wp hf hb ?_
  have g := start_ok hbd hv (fn.ntmps - vs.toArray.size)
  have hN : fn.ntmps ≤ (vs.toArray ++ Array.replicate (fn.ntmps - vs.toArray.size) undef).size := by simp; omega
  simp only [cFn, hb] at h
  cases he : ev C 0 m (orBad (fn.results.toList.all (resOk P)) (cCode P fn.ntmps A B c)) (start args) with
  | none => rw [he] at h; cases h
  | some q =>
    rw [he] at h
    obtain ⟨hres, he⟩ := orBad_ok he
    have key : ∀ {st : St} {ok1 : Nat → Prop} {ρ : Rho} {a' : Act} {w' : World}, expR st.hp (resLs st (fn.results.toList.map (cRes P))) = some r → Gam (vs.toArray ++ Array.replicate (fn.ntmps - vs.toArray.size) undef).size w ok st ok1 ρ a' w' →
        a'.defers = [] ∧ ∃ v, (results fn a'.tmps).run P w' = .ok v w' ∧ ∃ v', Ending.returned v = .returned v' ∧ Below w.heap.size w w' ∧ RRep w.heap.size w' ok r v' := by
      intro st ok1 ρ a' w' hx g'
      refine ⟨g'.defers, ?_⟩
      cases hl : resLs st (fn.results.toList.map (cRes P)) with
      | none => rw [hl] at hx; cases hx
      | some ls =>
        rw [hl] at hx
        obtain ⟨us, k1, k2⟩ := resLs_ok (P := P) g' hres hl
        refine ⟨if h : us.toArray.size = 1 then us.toArray[0] else .tuple us.toArray, ?_, _, rfl, g'.below, expR_ok g' hx k2 rfl⟩
        have e : results fn a'.tmps = (do let vs ← fn.results.mapM (resSem a'); pure (if h : vs.size = 1 then vs[0] else .tuple vs)) := rfl
        rw [e, Array.mapM_eq_mapM_toList]
        simp [k1]
    refine code_ok hC hmix hN c he g fun ok1 ρ a' w' g' => ?_
    obtain ⟨e, st1⟩ := q
    cases e with
    | norm => exact key h g'
    | ret => exact key h g'
    | exit i => cases h

/-! ### what is used of what calls are known to do -/
abbrev Uses := List (FuncId × List TV × TV)
def Holds (C : FuncId → List TV → Option TV) (L : Uses) : Prop := ∀ x ∈ L, C x.1 x.2.1 = some x.2.2
theorem Holds.left {L M : Uses} (h : Holds C (L ++ M)) : Holds C L := fun x hx => h x (by simp [hx])
theorem Holds.right {L M : Uses} (h : Holds C (L ++ M)) : Holds C M := fun x hx => h x (by simp [hx])
theorem Holds.append {L M : Uses} (h : Holds C L) (h' : Holds C M) : Holds C (L ++ M) := fun x hx => by
  rcases List.mem_append.1 hx with hx | hx
  · exact h x hx
  · exact h' x hx

variable {lo : Nat}
theorem callA_uses {d : Nat} {f : FuncId} {st st' : St} {x : Option (List TV × List Nat)} (h : callA C lo d f st x = some st') :
    ∃ L, Holds C L ∧ ∀ C', Holds C' L → callA C' lo d f st x = some st' ∧ fpCallA C' lo d f x = fpCallA C lo d f x := by
  cases x with
  | none => cases h
  | some q =>
    obtain ⟨ts, is⟩ := q
    simp only [callA] at h
    cases hr : C f ts with
    | none => rw [hr] at h; cases h
    | some r =>
      refine ⟨[(f, ts, r)], by simpa [Holds] using hr, fun C' hC' => ?_⟩
      have e : C' f ts = some r := hC' (f, ts, r) (by simp)
      rw [hr] at h
      simp only [callA, fpCallA, e, hr]
      exact ⟨h, trivial⟩
theorem op_uses {o : IOp} {st st' : St} (h : evOp C lo st o = some st') : ∃ L, Holds C L ∧ ∀ C', Holds C' L → evOp C' lo st o = some st' ∧ fpOp C' lo st o = fpOp C lo st o := by
  cases o with
  | call d f args =>
    simp only [evOp, fpOp] at h ⊢
    generalize f.rd st.env = l at h ⊢
    unfold callF at h
    split at h
    · simp only [callF, fpCallF]; exact callA_uses h
    · simp only [callF, fpCallF]; exact callA_uses h
    · cases h
  | _ => exact ⟨[], by simp [Holds], fun C' _ => ⟨h, rfl⟩⟩
theorem oper_uses {o : IOper} {st st' : St} (h : evOper C lo st o = some st') : ∃ L, Holds C L ∧ ∀ C', Holds C' L → evOper C' lo st o = some st' ∧ fpOper C' lo st o = fpOper C lo st o := by
  obtain ⟨op, gd⟩ := o
  cases gd with
  | none => exact op_uses h
  | some gd =>
    obtain ⟨j, want⟩ := gd
    simp only [evOper, fpOper] at h ⊢
    generalize st.env j = l at h ⊢
    unfold guardK at h
    split at h
    · split at h
      · rename_i e
        obtain ⟨L, h1, h2⟩ := op_uses h
        refine ⟨L, h1, fun C' hC' => ?_⟩
        obtain ⟨k1, k2⟩ := h2 C' hC'
        simp only [guardK, fpG, e, if_true]
        exact ⟨k1, k2⟩
      · rename_i e
        refine ⟨[], by simp [Holds], fun C' _ => ?_⟩
        simp only [guardK, fpG, e, if_false]
        exact ⟨h, trivial⟩
    · exact ⟨[], by simp [Holds], fun C' _ => ⟨h, rfl⟩⟩
    · cases h
theorem evOps_none (C : FuncId → List TV → Option TV) (lo : Nat) (os : List IOper) : evOps C lo os none = none := by cases os <;> rfl
theorem evOpsD_none (C : FuncId → List TV → Option TV) (lo : Nat) (os : List IOper) (ord : List Nat) (i : Nat) (fs : List (Nat × Fp)) : evOpsD C lo os ord i fs none = none := by cases os <;> cases ord <;> rfl
theorem ops_uses : ∀ {os : List IOper} {st st' : St}, evOps C lo os (some st) = some st' → ∃ L, Holds C L ∧ ∀ C', Holds C' L → evOps C' lo os (some st) = some st'
  | [], st, st', h => ⟨[], by simp [Holds], fun _ _ => h⟩
  | o :: os, st, st', h => by
    simp only [evOps] at h
    cases h1 : evOper C lo st o with
    | none => rw [h1, evOps_none] at h; cases h
    | some st1 =>
      rw [h1] at h
      obtain ⟨L, k1, k2⟩ := oper_uses h1
      obtain ⟨M, m1, m2⟩ := ops_uses h
      refine ⟨L ++ M, k1.append m1, fun C' hC' => ?_⟩
      simp only [evOps, (k2 C' hC'.left).1]
      exact m2 C' hC'.right
theorem stepD_cases {fs : List (Nat × Fp)} {i n : Nat} {k : List (Nat × Fp) → Option St → Option St} {x : Option St} {f : Fp} {r : St} (h : stepD fs i n k x f = some r) :
    ∃ fs', k fs' x = some r ∧ (∀ (k' : List (Nat × Fp) → Option St → Option St) (x' : Option St), stepD fs i n k' x' f = k' fs' x') := by
  obtain ⟨a, b⟩ := f
  cases a with
  | nil => cases b with
    | nil => exact ⟨fs, h, fun _ _ => rfl⟩
    | cons b w =>
      simp only [stepD, stepE] at h ⊢
      split at h
      · rename_i hh
        exact ⟨_, h, fun _ _ => by rw [if_pos hh]⟩
      · cases h
  | cons a r' =>
    simp only [stepD, stepE] at h ⊢
    split at h
    · rename_i hh
      exact ⟨_, h, fun _ _ => by rw [if_pos hh]⟩
    · cases h
theorem opsD_uses : ∀ {os : List IOper} {ord : List Nat} {i : Nat} {fs : List (Nat × Fp)} {st st' : St}, evOpsD C lo os ord i fs (some st) = some st' → ∃ L, Holds C L ∧ ∀ C', Holds C' L → evOpsD C' lo os ord i fs (some st) = some st'
  | [], ord, i, fs, st, st', h => ⟨[], by simp [Holds], fun _ _ => h⟩
  | o :: os, [], i, fs, st, st', h => by cases h
  | o :: os, n :: ord, i, fs, st, st', h => by
    simp only [evOpsD] at h
    obtain ⟨fs', h0, hk⟩ := stepD_cases h
    cases h1 : evOper C lo st o with
    | none => rw [h1, evOpsD_none] at h0; cases h0
    | some st1 =>
      rw [h1] at h0
      obtain ⟨L, k1, k2⟩ := oper_uses h1
      obtain ⟨M, m1, m2⟩ := opsD_uses h0
      refine ⟨L ++ M, k1.append m1, fun C' hC' => ?_⟩
      simp only [evOpsD, (k2 C' hC'.left).1, (k2 C' hC'.left).2]
      rw [hk]
      exact m2 C' hC'.right
theorem ev_uses : ∀ {n : Nat} {c : ICode} {st : St} {r : Ex × St}, ev C lo n c st = some r → ∃ L, Holds C L ∧ ∀ C', Holds C' L → ev C' lo n c st = some r := by
  intro n
  induction n with
  | zero => intro c st r h; cases h
  | succ n ih =>
    intro c st r h
    have two : ∀ {x k : ICode}, seqK (ev C lo n k) (ev C lo n x st) = some r → ∃ L, Holds C L ∧ ∀ C', Holds C' L → seqK (ev C' lo n k) (ev C' lo n x st) = some r := by
      intro x k h
      cases h1 : ev C lo n x st with
      | none => rw [h1] at h; cases h
      | some q =>
        rw [h1] at h
        obtain ⟨L, k1, k2⟩ := ih h1
        obtain ⟨e, st1⟩ := q
        cases e with
        | norm =>
          obtain ⟨M, m1, m2⟩ := ih (show ev C lo n k st1 = some r from h)
          refine ⟨L ++ M, k1.append m1, fun C' hC' => ?_⟩
          rw [k2 C' hC'.left]
          exact m2 C' hC'.right
        | exit i => exact ⟨L, k1, fun C' hC' => by rw [k2 C' hC']; exact h⟩
        | ret => exact ⟨L, k1, fun C' hC' => by rw [k2 C' hC']; exact h⟩
    cases c with
    | skip => exact ⟨[], by simp [Holds], fun _ _ => h⟩
    | gc g => exact ⟨[], by simp [Holds], fun _ _ => h⟩
    | region ops g =>
      simp only [ev] at h
      obtain ⟨st1, h1, rfl⟩ := regK_some h
      obtain ⟨L, k1, k2⟩ := ops_uses h1
      exact ⟨L, k1, fun C' hC' => by simp only [ev, k2 C' hC']; rfl⟩
    | draw ops ord g =>
      simp only [ev] at h
      obtain ⟨st1, h1, rfl⟩ := regK_some h
      obtain ⟨L, k1, k2⟩ := opsD_uses h1
      exact ⟨L, k1, fun C' hC' => by simp only [ev, k2 C' hC']; rfl⟩
    | seq a b => exact two h
    | loop b => exact two h
    | cond c a b =>
      simp only [ev] at h ⊢
      generalize c.rd st.env = l at h ⊢
      unfold condK at h
      split at h
      · split at h
        · rename_i hc; obtain ⟨L, k1, k2⟩ := ih h; exact ⟨L, k1, fun C' hC' => by simp only [condK, hc, if_true]; exact k2 C' hC'⟩
        · rename_i hc; obtain ⟨L, k1, k2⟩ := ih h; exact ⟨L, k1, fun C' hC' => by simp only [condK, hc]; exact k2 C' hC'⟩
      · cases h
    | block id b =>
      simp only [ev] at h
      cases h1 : ev C lo n b st with
      | none => rw [h1] at h; cases h
      | some q =>
        rw [h1] at h
        obtain ⟨L, k1, k2⟩ := ih h1
        exact ⟨L, k1, fun C' hC' => by simp only [ev, k2 C' hC']; exact h⟩
    | exit id => exact ⟨[], by simp [Holds], fun _ _ => h⟩
    | ret => exact ⟨[], by simp [Holds], fun _ _ => h⟩
    | bad => cases h
end

theorem orcK_some {k : TV → Option TV} {x : Option TV} {r : TV} (h : orcK k x = some r) : ∃ y, x = some y ∧ k y = some r := by
  cases x with
  | none => cases h
  | some y => exact ⟨y, rfl, h⟩
theorem orc_uses {C : FuncId → List TV → Option TV} : ∀ (o : Orc) {r : TV}, o.run C = some r → ∃ L, Holds C L ∧ ∀ C', Holds C' L → o.run C' = some r
  | .done x, r, h => ⟨[], by simp [Holds], fun _ _ => h⟩
  | .ask f args k, r, h => by
    obtain ⟨y, h1, h2⟩ := orcK_some h
    obtain ⟨L, k1, k2⟩ := orc_uses (k y) h2
    refine ⟨(f, args, y) :: L, fun x hx => ?_, fun C' hC' => ?_⟩
    · rcases List.mem_cons.1 hx with rfl | hx
      · exact h1
      · exact k1 x hx
    · have e : C' f args = some y := hC' (f, args, y) (by simp)
      simp only [Orc.run, e, orcK]
      exact k2 C' fun x hx => hC' x (by simp [hx])
/-! ### functions that call one another -/
section
variable (F : FuncId → Option FEnt)

theorem finR_some {rs : List RV} {x : Option (Ex × St)} {r : TV} (h : finR rs x = some r) : ∃ q, x = some q ∧ finR rs (some q) = some r := by
  cases x with
  | none => cases h
  | some q => exact ⟨q, rfl, h⟩

theorem evF_succ (n : Nat) (f : FuncId) (args : List TV) : evF F (n + 1) f args = evFn (evF F n) n args (F f) := rfl
theorem evF_step : ∀ (n : Nat) (f : FuncId) (args : List TV) (r : TV), evF F n f args = some r → evF F (n + 1) f args = some r
  | 0, f, args, r, h => by cases h
  | n + 1, f, args, r, h => by
    rw [evF_succ] at h ⊢
    cases hf : F f with
    | none => rw [hf] at h; cases h
    | some e =>
      rw [hf] at h
      cases e with
      | ext g => exact h
      | rel g =>
        simp only [evFn] at h ⊢
        obtain ⟨L, k1, k2⟩ := orc_uses _ h
        exact k2 _ fun x hx => evF_step n _ _ _ (k1 x hx)
      | code fn =>
        simp only [evFn] at h ⊢
        obtain ⟨q, h1, h2⟩ := finR_some h
        obtain ⟨L, k1, k2⟩ := ev_uses h1
        have k3 : Holds (evF F (n + 1)) L := fun x hx => evF_step n _ _ _ (k1 x hx)
        rw [ev_step _ _ _ _ _ _ (k2 _ k3)]
        exact h2
theorem evF_le {n m : Nat} (hnm : n ≤ m) {f : FuncId} {args : List TV} {r : TV} (h : evF F n f args = some r) : evF F m f args = some r := by
  induction hnm with
  | refl => exact h
  | step _ ih => exact evF_step F _ _ _ _ ih

open Classical in
/-- what a call comes to -/
noncomputable def call (f : FuncId) (args : List TV) : Option TV := if h : ∃ r n, evF F n f args = some r then some h.choose else none

theorem call_some {f : FuncId} {args : List TV} {r : TV} : call F f args = some r ↔ ∃ n, evF F n f args = some r := by
  unfold call
  split
  · rename_i h
    constructor
    · intro hr; rw [← Option.some.inj hr]; exact h.choose_spec
    · rintro ⟨n, hn⟩
      obtain ⟨m, hm⟩ := h.choose_spec
      have a := evF_le F (Nat.le_max_left n m) hn
      have b := evF_le F (Nat.le_max_right n m) hm
      rw [a] at b
      exact b.symm
  · rename_i h
    constructor
    · intro hr; cases hr
    · rintro ⟨n, hn⟩; exact absurd ⟨r, n, hn⟩ h

theorem holds_call : ∀ {L : Uses}, Holds (call F) L → ∃ n, Holds (evF F n) L
  | [], _ => ⟨0, by simp [Holds]⟩
  | x :: L, h => by
    obtain ⟨n, hn⟩ := (call_some F).1 (h x (by simp))
    obtain ⟨m, hm⟩ := holds_call (L := L) fun y hy => h y (by simp [hy])
    refine ⟨max n m, fun y hy => ?_⟩
    rcases List.mem_cons.1 hy with rfl | hy
    · exact evF_le F (Nat.le_max_left n m) hn
    · exact evF_le F (Nat.le_max_right n m) (hm y hy)

theorem call_code {f : FuncId} {fn : IFn} (hf : F f = some (.code fn)) (args : List TV) : call F f args = finR fn.res (E (call F) 0 fn.body (start args)) := by
  refine opt_ext fun r => ?_
  rw [call_some]
  constructor
  · rintro ⟨n, hn⟩
    cases n with
    | zero => cases hn
    | succ n =>
      simp only [evF, hf, evFn] at hn
      obtain ⟨q, h1, h2⟩ := finR_some hn
      obtain ⟨L, k1, k2⟩ := ev_uses h1
      have k3 : Holds (call F) L := fun x hx => (call_some F).2 ⟨n, k1 x hx⟩
      rw [E_of _ _ (k2 _ k3)]
      exact h2
  · intro h
    obtain ⟨q, h1, h2⟩ := finR_some h
    obtain ⟨n, hn⟩ := (E_some _ _).1 h1
    obtain ⟨L, k1, k2⟩ := ev_uses hn
    obtain ⟨m, hm⟩ := holds_call F k1
    refine ⟨max n m + 1, ?_⟩
    simp only [evF, hf, evFn]
    have k3 : Holds (evF F (max n m)) L := fun x hx => evF_le F (Nat.le_max_right n m) (hm x hx)
    rw [ev_le _ _ (Nat.le_max_left n m) (k2 _ k3)]
    exact h2
theorem call_ext {f : FuncId} {g : List TV → Option TV} (hf : F f = some (.ext g)) (args : List TV) : call F f args = g args := by
  refine opt_ext fun r => ?_
  rw [call_some]
  constructor
  · rintro ⟨n, hn⟩
    cases n with
    | zero => cases hn
    | succ n => simpa only [evF, hf, evFn] using hn
  · intro h
    exact ⟨1, by simpa only [evF, hf, evFn] using h⟩

theorem call_rel {f : FuncId} {g : List TV → Orc} (hf : F f = some (.rel g)) (args : List TV) : call F f args = (g args).run (call F) := by
  refine opt_ext fun r => ?_
  rw [call_some]
  constructor
  · rintro ⟨n, hn⟩
    cases n with
    | zero => cases hn
    | succ n =>
      simp only [evF, hf, evFn] at hn
      obtain ⟨L, k1, k2⟩ := orc_uses _ hn
      exact k2 _ fun x hx => (call_some F).2 ⟨n, k1 x hx⟩
  · intro h
    obtain ⟨L, k1, k2⟩ := orc_uses _ h
    obtain ⟨m, hm⟩ := holds_call F k1
    exact ⟨m + 1, by simp only [evF, hf, evFn]; exact k2 _ hm⟩

/-- a function's entry is right -/
def chk (P : Program) (f : FuncId) (A B : List (Nat × GC)) : Option IFn :=
  match P.funcs[f]? with
  | some fn => if (fn.name == "runtime.NumGoroutine") = false ∧ fn.body.isNone = false then some (cFn P A B fn) else none
  | none => none
def EntOK (P : Program) (f : FuncId) : FEnt → Prop
  | .code fn => ∃ A B, chk P f A B = some fn
  | .ext g => ∀ args r, g args = some r → Sound P f args r
  | .rel g => ∀ C, Good P C → ∀ args r, (g args).run C = some r → Sound P f args r

theorem call_good {P : Program} (hmix : P.follows .mixedOrders = true) (hF : ∀ f e, F f = some e → EntOK P f e) : Good P (call F) := by
  have key : ∀ n, Good P (evF F n) := by
    intro n
    induction n with
    | zero => intro f args r h; cases h
    | succ n ih =>
      intro f args r h
      simp only [evF] at h
      cases hf : F f with
      | none => rw [hf] at h; cases h
      | some e =>
        rw [hf] at h
        have he := hF f e hf
        cases e with
        | ext g => exact he args r h
        | rel g => exact he _ ih args r h
        | code fn =>
          obtain ⟨A, B, hc⟩ := he
          unfold chk at hc
          split at hc
          · rename_i gf hg
            split at hc
            · rename_i hh
              obtain rfl := Option.some.inj hc
              cases hb : gf.body with
              | none => rw [hb] at hh; simp at hh
              | some c => exact fn_ok ih hmix hg hh.1 hb h
            · cases hc
          · cases hc
  intro f args r h
  obtain ⟨n, hn⟩ := (call_some F).1 h
  exact key n f args r hn
end
end Go.Proofs.Ytehcfmohjcjmpaa.Sx
